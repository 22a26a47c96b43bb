/- Part of a proof: the small language, and functions of the program on it. -/
import Derived.Test.YtapnplljnpconaaGreatDoorFlXb
import Derived.Test.YtapnplljnpconaaGreatDoorChecked
import Derived.Attr
import Derived.RangeFuncNested
import Derived.RangeFuncLeaves
import Derived.Shelf.Abstract
import Derived.WalkKit
import Derived.OwnWalkIn
import Derived.TacticsInMore
import Derived.LoopNIn
import Derived.LoopIn
import Derived.Shelf.RegionOpen
set_option linter.unusedSimpArgs false
set_option linter.unusedVariables false
set_option linter.unusedSectionVars false
set_option maxHeartbeats 4000000
set_option maxRecDepth 100000
open Go.Proofs.Tryz
namespace Go.Proofs.YtapnplljnpconaaGreatDoor
open Go.Ev
section
variable (M:Mach) (n0 n1:Nat) (r1:Rk) (n2:Nat) (r2:Rk) (n3:Nat) (r3:Rk) (n4:Nat) (r4:Rk) (n5:Nat) (a0 a1 a2 a3 a4 a5 a6 a7 a8 a9 a10 a11:V) (z0 z1 z2 z3 z4 z5 z6 z7 z8 z9 z10 z11 z12 z13 z14 z15 z16 z17 z23 z24 z25 z53:V) (U:Objs)
def c_Z1v:Ev.Fn:=⟨9,[.tmp 4],false,false,(Yq 0 [Vbf 4] (Yr 1 [Vez 5,Vcj 6,Vbo 7 67 5 6,Vcx 8 7 0,Yv 4 8]))⟩
theorem ok_c_Z1v:Qao prog 46 c_Z1v=true:=Qac func46 X0k
def s_Z1v:=Ud3 a0 a1 U 67 M fun p0=> Uc1 p0.1 fun x1=> bd (oK false x1.ng) (nK U.length p0.2)
theorem k_Z1v:fnK M c_Z1v [a0,a1] U=s_Z1v M a0 a1 U:=X0k
def c_Z2u:Ev.Fn:=⟨7,[.tmp 2],false,false,(Yq 0 [Vbg 2] (Yr 1 [Vez 3,Vc9 4 71 3,Vc9 5 70 4,Vc9 6 69 5,Yu 2 6]))⟩
theorem ok_c_Z2u:Qao prog 48 c_Z2u=true:=Qac func48 X0k
def c_Z3r:Ev.Fn:=⟨63,[.tmp 4,.tmp 5,.tmp 6],false,false,(Yq 0 [Vby 3,Vbg 4,Vaw 5,Vaw 6] (Yj (Yq 1 [Va7 12 4 3,Vc9 13 14 12,Vbm 14 13] (Ym 14 2 [Vbg 4,Vdd 5 11,Vaw 6])) (Yq 3 [Vbp 15,Yu 7 15] (Yj (Yq 4 [Vaw 8] (.block 0 (.loop [0,3,7,8] [3,4,5,6,7] (Yj (Yq 5 [Yv 16 8,Vbp 17,Yh 18 17,Vat 19 16 18] (Yz 19 .skip (.exit 0))) (Yj (.block 1 (Yq 7 [Vbp 22,Yv 23 8,Ye 24 6 22 23,Vdg 25 24,Vah 26 25,Vaj 27 26] (Yz 27 (Yq 8 [Vez 28,Yv 29 8,Vaf 30 29,Vdy 31 6 28 30,Yv 7 31] (.exit 0)) .skip))) (Ys1 6 [Yv 20 8,Vaf 21 20,Yv 8 21])))))) (Yq 9 [Yu 32 7,Va7 33 4 3,Ve8 34 32 4 33,Vd8 35 34,Yv 9 35] (Yq 10 [Yv 37 9,Yc 38 68 [37,(Yi 0),(Yi 0),(Yi 1)],Yv 36 38,Vex 39 36,Vey 40 36,Yv 10 39,Yv 11 40] (Yj (Yq 11 [Yv 41 9,Vbn 42 41,Ya 43 5 42,Vah 44 43,Vcp 45 44 0] (Yz 45 (Yj (.drw 12 [⟨Yv 46 9,0,[]⟩,⟨Yk 47 (.nilc 46),1,[]⟩,⟨Ya 48 5 47,2,[]⟩,⟨Yl 49 false 1 48,3,[]⟩,⟨Yv 50 9,4,[]⟩,⟨Yk 51 (.nilc 50),5,[]⟩,⟨Ya 52 6 51,6,[]⟩,⟨Yl 53 false 1 52,7,[]⟩,⟨Yv 4 (.c .nils),8,[]⟩,⟨Yv 5 49,9,[]⟩,⟨Yv 6 53,10,[]⟩]) .ret) .skip)) (Yj (Yq 13 [Yv 54 9,Vbn 55 54,Ya 56 8 55,Vah 57 56] (Yz 57 (Yj (.drw 14 [⟨Yv 58 9,0,[]⟩,⟨Yk 59 (.nilc 58),1,[]⟩,⟨Ya 60 7 59,2,[]⟩,⟨Yl 61 false 1 60,3,[]⟩,⟨Yv 4 (.c .nils),4,[]⟩,⟨Yv 5 (Yi 20),5,[]⟩,⟨Yv 6 61,6,[]⟩]) .ret) .skip)) (Yr 15 [Yv 62 10,Yv 4 62,Vaw 5,Vaw 6])))))))))⟩
theorem ok_c_Z3r:Qao prog 47 c_Z3r=true:=Qac func47 X0k
def c_Z3j:Ev.Fn:=⟨114,[.tmp 6],false,false,(Yq 0 [Vaw 6] (Yq 1 [Vbp 12,Yh 13 12,Yv 7 13] (Yj (Yq 2 [Vaw 8] (.block 0 (.loop [0,1,2,7,8] [6,7] (Yj (Yq 3 [Yv 14 8,Vbp 15,Yh 16 15,Vat 17 14 16,Yv 18 17,Vaa 19 18 7,Vaa 20 18 1,Vb3 21 18 19 20,Vag 22 18 21] (Yz 22 .skip (.exit 0))) (Yj (.block 1 (Yq 5 [Yv 25 7,Vbp 26,Yv 27 8,Vet 28 26 27,Vdg 29 28,Vah 30 29,Yh 31 30,Vcl 32 25 31,Yv 7 32] (Yq 6 [Vaw 9] (.block 2 (.loop [0,1,2,7,8,9] [0,1,2,6,7,8] (Yj (Yq 7 [Yv 33 9,Vbp 34,Yv 35 8,Vet 36 34 35,Vdg 37 36,Vah 38 37,Yh 39 38,Vat 40 33 39,Yv 41 40,Vaa 42 41 7,Vaa 43 41 1,Vb3 44 41 42 43,Vag 45 41 44] (Yz 45 .skip (.exit 2))) (Yj (.block 3 (Yq 9 [Vbp 48,Yv 49 8,Vet 50 48 49,Vdg 51 50,Vah 52 51,Yv 53 9,Ye 54 2 52 53,Vd3 55 54,Vah 56 55,Yu 10 56] (Yq 10 [Vaw 11] (.block 4 (.loop [0,1,2,7,8,9,10,11] [0,1,2,6,7,8,9] (Yj (Yq 11 [Yv 57 11,Yv 58 10,Yh 59 58,Vat 60 57 59,Yv 61 60,Vaa 62 61 7,Vaa 63 61 1,Vb3 64 61 62 63,Vag 65 61 64] (Yz 65 .skip (.exit 4))) (Yj (.block 5 (Yq 13 [Yv 68 7,Vaf 69 68,Yv 7 69] (Yj (Yq 14 [Yv 70 10,Yv 71 11,Ye 72 11 70 71,Ya 73 3 72,Vah 74 73,Vec 75 74,Vb0 76 75 100,Yv 77 76,Vac 78 77 10,Vac 79 77 11,Vbu 80 77 11 78 79,Vaq 81 77 2 80,Vae 82 77 81,Vco 83 77 82,Vav 84 77 83 100,Vap 85 77 84,Yv 86 85,Vac 87 86 10,Vac 88 86 11,Vbu 89 86 11 87 88,Vaq 90 86 4 89,Vaq 91 86 1 90,Vae 92 86 91,Vco 93 86 92,Vav 94 86 93 100,Vap 95 86 94,Yv 96 95,Vac 97 96 2,Vav 98 96 97 40,Vap 99 96 98] (Ym 99 15 [Vcj 100,Vaf 101 100,Yv 6 101])) (Ys1 16 [Yv 102 7,Yv 103 10,Yv 104 11,Ye 105 11 103 104,Ya 106 10 105,Vah 107 106,Vcj 108,Yv 109 2,Vaf 110 109,Ve3 111 49 107 108 110,Vcl 112 102 111,Yv 7 112])))) (Ys1 12 [Yv 66 11,Vaf 67 66,Yv 11 67])))))))) (Ys1 8 [Yv 46 9,Vaf 47 46,Yv 9 47])))))))) (Ys1 4 [Yv 23 8,Vaf 24 23,Yv 8 24])))))) (Yr 17 [Yv 113 7,Yv 6 113]))))⟩
theorem ok_c_Z3j:Qao prog 49 c_Z3j=true:=Qac func49 X0k
def b_Z3j_2 (M:Mach) (n0:Nat) (n1:Nat) (r1:Rk) (n2:Nat) (r2:Rk) (n3:Nat) (r3:Rk) (z0 z1 z2 z7 z8 z9 z10 z11:V) (U:Objs):Ro:=Uau z10 fun x27=> Ual z11 x27 fun x28=> Uak x28 z7 fun x29=> Uak x28 z1 fun x30=> Uck x28 x29 x30 fun x31=> Uab x28 x31 fun x32=> br x32.ng (Uap z7 fun x33=> Ubb z11 z10 11 fun x34=> Uaf x34 3 fun x35=> Uac x35 U fun x36=> bd (pu (Qfw x36.ng)) fun x37=> Ubd x37 100 fun x38=> Uah x38 z10 fun x39=> Uah x38 z11 fun x40=> Ubp x38 x40 x39 11 fun x41=> Uas x38 x41 2 fun x42=> Uag x38 x42 U fun x43=> Udk x38 x43 fun x44=> Ubf x38 x44 100 fun x45=> Uad x38 x45 fun x46=> Uah x46 z10 fun x47=> Uah x46 z11 fun x48=> Ubp x46 x48 x47 11 fun x49=> Uas x46 x49 4 fun x50=> Uas x46 x50 1 fun x51=> Uag x46 x51 U fun x52=> Udk x46 x52 fun x53=> Ubf x46 x53 100 fun x54=> Uad x46 x54 fun x55=> Uah x55 z2 fun x56=> Ubf x55 x56 40 fun x57=> Uad x55 x57 fun x58=> br x58.ng (Uap z1 fun x59=> Uae z0 U n3 fun y60=> Uae z1 U n3 fun y61=> Uae z2 U n3 fun y62=> Uee x59 U n3 fun y63=> Uee x33 U n3 fun y64=> Uae z8 U n3 fun y65=> Uae z9 U n3 fun y66=> Uay U n3 fun s67=> Uae y60 s67 n2 fun y68=> Uae y61 s67 n2 fun y69=> Uae y62 s67 n2 fun y70=> Uae y63 s67 n2 fun y71=> Uae y64 s67 n2 fun y72=> Uae y65 s67 n2 fun y73=> Uay s67 n2 fun s74=> Uae y71 s74 n1 fun y75=> Uae y72 s74 n1 fun y76=> Uay s74 n1 fun s77=> bd (oK false y75) (nK n0 s77)) (Ubb z11 z10 11 fun x78=> Uaf x78 10 fun x79=> Uac x79 U fun x80=> Uap z2 fun x81=> bd (M.call 49 [x80.ng,z1.ng.ng,x81.ng] U) fun p82=> bd (pu (eB .add .no x33.ng.ng.ng p82.1.ng)) fun x83=> Uap z11 fun x84=> UF n3 p82.2 [z0,z1,z2,x83.ng,z8,z9,z10,x84.ng] r3)) (Uae z0 U n3 fun y94=> Uae z1 U n3 fun y95=> Uae z2 U n3 fun y96=> Uar U n3 fun y97=> Uae z7 U n3 fun y98=> Uae z8 U n3 fun y99=> Uae z9 U n3 fun y100=> Uay U n3 fun s101=> Uap y100 fun x102=> UF n2 s101 [y94,y95,y96,y98,y99,x102.ng] r2)
def l_Z3j_2:=M.fx (X0Li (b_Z3j_2 M n0 n1 r1 n2 r2 n3))
def b_Z3j_1:=Ubb z8 z0 1 fun x12=> Uc7 x12 fun x13=> Uac x13 U fun x14=> Uam x14 fun x15=> Ual z9 x15 fun x16=> Uak x16 z7 fun x17=> Uak x16 z1 fun x18=> Uck x16 x17 x18 fun x19=> Uab x16 x19 fun x20=> br x20.ng (Ubb z8 z0 1 fun x21=> Uc7 x21 fun x22=> Uac x22 U fun x23=> Ube z9 x23 2 fun x24=> Udu x24 fun x25=> Uac x25 U fun x26=> Uaa z0 U fun y110=> Uaa z1 U fun y111=> Uaa z2 U fun y112=> Uaa z7 U fun y113=> Uaa z8 U fun y114=> Uaa z9 U fun y115=> Uaa x26 U fun y116=> Ud2 U fun y117=> l_Z3j_2 M n0 n1 r1 n2 r2 U.length [y110,y111,y112,y113,y114,y115,y116,y117] U) (Uae z0 U n2 fun y118=> Uae z1 U n2 fun y119=> Uae z2 U n2 fun y120=> Uar U n2 fun y121=> Uae z7 U n2 fun y122=> Uae z8 U n2 fun y123=> Uay U n2 fun s124=> Uap y123 fun x125=> UF n1 s124 [y118,y119,y120,y122,x125.ng] r1)
def l_Z3j_1:=M.fx (X0Lg (b_Z3j_1 M n0 n1 r1 n2))
def b_Z3j_0:=Uau z0 fun x1=> Ual z8 x1 fun x2=> Uak x2 z7 fun x3=> Uak x2 z1 fun x4=> Uck x2 x3 x4 fun x5=> Uab x2 x5 fun x6=> br x6.ng (Ubb z8 z0 1 fun x7=> Uc7 x7 fun x8=> Uac x8 U fun x9=> Uam x9 fun x10=> Ueu z7 x10 fun x11=> Uaa z0 U fun y132=> Uaa z1 U fun y133=> Uaa z2 U fun y134=> Ua2 x11 U fun y135=> Uaa z8 U fun y136=> Ud2 U fun y137=> l_Z3j_1 M n0 n1 r1 U.length [y132,y133,y134,y135,y136,y137] U) (Uar U n1 fun y138=> Uae z7 U n1 fun y139=> Uay U n1 fun s140=> bd (oK false y139.ng.ng) (nK n0 s140))
def l_Z3j_0:=M.fx (X0Lf (b_Z3j_0 M n0 n1))
def s_Z3j:=Uau a0 fun x0=> Uaa a0 U fun y141=> Uaa a1 U fun y142=> Uaa a2 U fun y143=> Ua2 x0 U fun y144=> Ud2 U fun y145=> l_Z3j_0 M U.length U.length [y141,y142,y143,y144,y145] U
theorem k_Z3j:fnK M c_Z3j [a0,a1,a2] U=s_Z3j M a0 a1 a2 U:=X0k
def c_Z1u:Ev.Fn:=⟨6,[.tmp 2],false,false,(Yq 0 [Vbf 2] (Yr 1 [Vbp 3,Vei 4 3,Vc9 5 72 4,Yv 2 5]))⟩
theorem ok_c_Z1u:Qao prog 50 c_Z1u=true:=Qac func50 X0k
def s_Z1u:=Uea a0 U fun x0=> Ubr x0 U 72 M fun p1=> bd (oK false p1.1.ng) (nK U.length p1.2)
theorem k_Z1u:fnK M c_Z1u [a0] U=s_Z1u M a0 U:=X0k
def c_Z1p:Ev.Fn:=⟨9,[.tmp 2],false,false,(Yq 0 [Vbf 2] (Yr 1 [Vbp 3,Yo 4 .neq .no 3 (Ys []),Yv 5 4,Vab 6 5,Van 7 5 50 6,Vag 8 5 7,Yv 2 8]))⟩
theorem ok_c_Z1p:Qao prog 51 c_Z1p=true:=Qac func51 X0k
def s_Z1p:=bd (pu (eB .neq .no a0.ng.ng (.str []))) fun x0=> Uak x0 a0 fun x1=> Ua1 x0 x1 U 50 M fun p2=> Uab x0 p2.1 fun x3=> bd (oK false x3.ng) (nK U.length p2.2)
theorem k_Z1p:fnK M c_Z1p [a0] U=s_Z1p M a0 U:=X0k
def c_Z14:Ev.Fn:=⟨10,[.tmp 4],false,false,(Yq 0 [Vcr 4] (Yr 1 [Vbp 5,Vcj 6,Yk 7 (.build [Y0,Y0,.nili] [(0,1,5),(1,1,6)]),Vd8 8 7,Yk 9 (.mkif 98 8),Yv 4 9]))⟩
theorem ok_c_Z14:Qao prog 52 c_Z14=true:=Qac func52 X0k
def s_Z14 (M:Mach) (a0 a1:V) (U:Objs):Ro:=bd (pu (Qaw [(.int .i64 0),(.int .i64 0),.nili] [(0,1,a0.ng.ng),(1,1,a1.ng.ng)])) fun x0=> Uaz x0 U fun p1=> bd (oK false (.ifc 98 p1.1.ng)) (nK U.length p1.2)
theorem k_Z14:fnK M c_Z14 [a0,a1] U=s_Z14 M a0 a1 U:=X0k
def c_Zx:Ev.Fn:=⟨67,[.tmp 6],false,false,(Yq 0 [Vbz 3,Vbf 6] (Yj (Yq 1 [Vcj 12,Yh 13 12,Vaw 14] (.block 0 (.loop [1,2,3,12,13,14] [1,6] (Yq 2 [Vat 15 14 13] (Yj (Yz 15 .skip (.exit 0)) (Yj (.block 1 (Yq 3 [Vet 16 12 14,Va7 17 1 16,Vcf 8,Var 1 8 17] (Yj (Yq 4 [Vdg 18 8,Vah 19 18,Yh 20 19,Vaj 21 20] (Ym 21 5 [Vbf 6])) (Yq 6 [Vdg 22 8,Vah 23 22,Yh 24 23,Vaw 25] (.block 2 (.loop [1,2,3,8,12,13,14,23,24,25] [1,2,3,6,12,13,14] (Yq 7 [Vat 26 25 24] (Yj (Yz 26 .skip (.exit 2)) (Yj (.block 3 (Yq 8 [Yv 27 25,Ye 28 2 23 25,Va7 29 2 28,Vcc 10,Yv 9 27,Var 2 10 29] (Yq 9 [Vdg 30 10,Vah 31 30,Vaj 32 31,Yv 11 32] (Yq 10 [Vdg 33 10,Vah 34 33,Vck 35 34 0,Yv 36 35,Vaq 37 36 0 10,Vae 38 36 37,Vav 39 36 38 4,Vap 40 36 39,Yv 41 40,Vac 42 41 11,Vac 43 41 9,Vao 44 41 43 0,Vc2 45 41 42 44,Vap 46 41 45,Yv 47 46,Vbx 48 47 4 3,Vbx 49 47 2 10,Vac 50 47 2,Vac 51 47 50,Vaa 52 51 9,Vam 53 51 0 8,Vad 54 51 53,Va2 55 51 54,Vdp 56 51 55,Vbd 57 51 52 56,Vba 58 47 51 57,Vde 59 47 74 48 49 58,Va3 60 47 59,Vap 61 47 60] (Ym 61 11 [Vbf 6]))))) (Ys1 12 [Vaf 62 25,Yv 25 62])))))))))) (Ys1 13 [Vaf 63 14,Yv 14 63]))))))) (Yr 14 [Yu 64 1,Yh 65 64,Vb0 66 65 0,Yv 6 66])))⟩
theorem ok_c_Zx:Qao prog 54 c_Zx=true:=Qac func54 X0k
def j_Zx_0 (M:Mach) (n0:Nat) (n1:Nat) (r1:Rk) (z1 z6:V) (U:Objs):Ro:=Uae z1 U n1 fun y2=> Uae z6 U n1 fun y3=> Uay U n1 fun s4=> bd (oK false y3) (nK n0 s4)
def b_Zx_1:=Uaw z25 z24 fun x17=> br x17.ng (Ubm z25 z23 2 fun x18=> Uaq x18 U 2 fun x19=>
 let s20:Objs:=U++[.cells [(.int .i64 0),.nils]]
 Uao x19 s20 U 2 0 fun p21=> Ubs U fun x22=> Uac x22 p21.2 fun x23=> Uai x23 0 fun x24=> Ubs U fun x25=> Uac x25 p21.2 fun x26=> Ucw x26 0 fun x27=> Ucq x27 U fun x28=> Uag x27 x28 p21.2 fun x29=> Ubf x27 x29 4 fun x30=> Uad x27 x30 fun x31=> Ub9 x31 x24 fun x32=> bd (gdv x31.ng false (some z25.ng.ng.ng)) fun x33=> Ua4 x31 x33 0 fun x34=> Udw x31 x32 x34 fun x35=> Uad x31 x35 fun x36=> bd (gdv x36.ng false (pu (eL p21.2 true 4 z3.ng))) fun x37=> bd (gdv x36.ng false (pu (eL p21.2 true 2 (.ptr U.length 0)))) fun x38=> Uah x36 z2 fun x39=> Uah x36 x39 fun x40=> bd (gdv x40 true (some z25.ng.ng.ng)) fun x41=> bd (gdv x40 true (pu (eF 0 z8.ng))) fun x42=> bd (gdv x40 true (pu (eL p21.2 false 1 x42.ng))) fun x43=> bd (gdv x40 true (pu (Qai x43.ng))) fun x44=> bd (gdv x40 true (pu (eB .sub .no x44.ng (.int .i64 1)))) fun x45=> bd (gdv x40 true (pu (eB .eql .no x41.ng x45.ng))) fun x46=> Ub0 x36 x40 x46 fun x47=> bd (gdp x36.ng false (M.call 74 [x37.ng,x38.ng,x47.ng] p21.2) p21.2) fun p48=> Ua7 x36 p48.1 fun x49=> Uad x36 x49 fun x50=> br x50.ng (Uae z1 p48.2 n2 fun y51=> Uae z2 p48.2 n2 fun y52=> Uae z3 p48.2 n2 fun y53=> Ua6 p48.2 n2 fun y54=> Uae z12 p48.2 n2 fun y55=> Uae z13 p48.2 n2 fun y56=> Uae z14 p48.2 n2 fun y57=> Uay p48.2 n2 fun s58=> j_Zx_0 M n0 n1 r1 y51 y54 s58) (Ua0 z25 fun x59=> UF n2 p48.2 [z1,z2,z3,z8,z12,z13,z14,z23,z24,x59.ng] r2)) (Uae z1 U n2 fun y71=> Uae z2 U n2 fun y72=> Uae z3 U n2 fun y73=> Uar U n2 fun y74=> Uae z12 U n2 fun y75=> Uae z13 U n2 fun y76=> Uae z14 U n2 fun y77=> Uay U n2 fun s78=> Ua0 y77 fun x79=> UF n1 s78 [y71,y72,y73,y75,y76,x79.ng] r1)
def l_Zx_1:=M.fx (X0Lk (b_Zx_1 M n0 n1 r1 n2))
def b_Zx_0:=Uaw z14 z13 fun x5=> br x5.ng (Ubm z14 z12 1 fun x6=> Uaq x6 U 1 fun x7=>
 let s8:Objs:=U++[.cells [.nils]]
 Uao x7 s8 U 1 0 fun p9=> Ubs U fun x10=> Uac x10 p9.2 fun x11=> Uam x11 fun x12=> Uai x12 0 fun x13=> br x13.ng (j_Zx_0 M n0 n1 r1 z1 (.bool false) p9.2) (Ubs U fun x14=> Uac x14 p9.2 fun x15=> Uam x15 fun x16=> Uaa z1 p9.2 fun y87=> Uaa z2 p9.2 fun y88=> Uaa z3 p9.2 fun y89=> Ubl p9.2 U fun y90=> Uaa z12 p9.2 fun y91=> Uaa z13 p9.2 fun y92=> Uaa z14 p9.2 fun y93=> Uaa x15 p9.2 fun y94=> Uaa x16 p9.2 fun y95=> Ud2 p9.2 fun y96=> l_Zx_1 M n0 n1 r1 p9.2.length [y87,y88,y89,y90,y91,y92,y93,y94,y95,y96] p9.2)) (Uae z1 U n1 fun y97=> Uar U n1 fun y98=> Uay U n1 fun s99=> Uam y97 fun x100=> Ubd x100 0 fun x101=> bd (oK false x101.ng) (nK n0 s99))
def l_Zx_0:=M.fx (X0Lg (b_Zx_0 M n0 n1))
def s_Zx:=Uaz a0 U fun p0=> Uau a1 fun x1=> Uaa a1 p0.2 fun y102=> Uaa a2 p0.2 fun y103=> Uaa p0.1 p0.2 fun y104=> Ua2 a1 p0.2 fun y105=> Uaa x1 p0.2 fun y106=> Ud2 p0.2 fun y107=> l_Zx_0 M U.length p0.2.length [y102,y103,y104,y105,y106,y107] p0.2
theorem k_Zx:fnK M c_Zx [a0,a1,a2] U=s_Zx M a0 a1 a2 U:=X0k
def c_Z5:Ev.Fn:=⟨84,[.tmp 4],false,false,(Yq 0 [Vby 3,Vaw 4] (Yq 1 [Va7 11 1 3,Vc9 12 75 11,Yk 13 (.build [Y0,.nils,Yn] [(2,1,12)]),Vcg 5,Var 3 5 13] (Yj (Yq 2 [Vdg 14 3,Vah 15 14,Yh 16 15,Vaw 17] (.block 0 (.loop [0,5,15,16,17] [0,4,5] (Yq 3 [Vat 18 17 16] (Yj (Yz 18 .skip (.exit 0)) (Yj (.block 1 (Yq 4 [Ye 19 2 15 17,Va7 20 2 19,Vcc 7,Var 2 7 20] (Yq 5 [Vdg 21 7,Vah 22 21,Ved 23 22,Vcc 8,Var 2 8 23] (Yj (Yq 6 [Vd3 24 7,Vah 25 24,Yh 26 25,Vaw 27] (.block 2 (.loop [0,5,8,15,16,17,25,26,27] [0,4,5,8,15,16,17] (Yq 7 [Vat 28 27 26] (Yj (Yz 28 .skip (.exit 2)) (Yj (.block 3 (Yq 8 [Ye 29 11 25 27,Va7 30 11 29,Vas 10,Var 11 10 30] (.drw 9 [⟨Ya 31 1 8,0,[]⟩,⟨Yk 32 (.loadT 31),1,[]⟩,⟨Yv 33 0,2,[]⟩,⟨Yl 34 true 11 10,3,[]⟩,⟨Yc 35 76 [33,34],4,[1]⟩,⟨Yk 36 (.buildSl true 3 1 (.agg [Y0,Y0,.nils]) [(0,35)] false),5,[]⟩,⟨Yk 37 (.app false true 3 40 32 36 true),6,[]⟩,⟨Ya 38 1 8,7,[]⟩,⟨Yw 1 38 37 true,8,[]⟩]))) (Ys1 10 [Vaf 39 27,Yv 27 39]))))))) (Ys1 11 [Vd3 40 5,Vdu 41 40,Va7 42 2 8,Vd1 43 42,Vb4 44 2 32 41 43,Vd3 45 5,Yw 1 45 44 true]))))) (Ys1 12 [Vaf 46 17,Yv 17 46]))))))) (Yq 13 [Vbp 47,Vbn 48 47,Ya 49 4 48,Ya 50 4 49,Vah 51 50,Vdg 52 5,Var 1 52 51] (Yj (.drw 14 [⟨Yv 53 0,0,[]⟩,⟨Yk 54 (.nilc 53),1,[]⟩,⟨Ya 55 4 54,2,[]⟩,⟨Ya 56 4 55,3,[]⟩,⟨Yl 57 false 1 56,4,[]⟩,⟨Ya 58 1 5,5,[]⟩,⟨Yl 59 false 1 58,6,[]⟩,⟨Yh 60 59,7,[]⟩,⟨Yo 61 .add .no 57 60,8,[]⟩,⟨Yk 62 (.nilc 53),9,[]⟩,⟨Ya 63 4 62,10,[]⟩,⟨Ya 64 4 63,11,[]⟩,⟨Yw 1 64 61 false,12,[]⟩]) (Yj (.drw 15 [⟨Yv 65 0,0,[]⟩,⟨Yv 66 0,1,[]⟩,⟨Yk 67 (.nilc 66),2,[]⟩,⟨Ya 68 4 67,3,[]⟩,⟨Ya 69 1 68,4,[]⟩,⟨Yk 70 (.loadT 69),5,[]⟩,⟨Yl 71 true 3 5,6,[]⟩,⟨Yk 72 (.buildSl true 3 1 (.agg [Y0,.nils,Yn]) [(0,71)] false),7,[]⟩,⟨Yk 73 (.app false true 3 48 70 72 true),8,[]⟩,⟨Yk 74 (.nilc 65),9,[]⟩,⟨Ya 75 4 74,10,[]⟩,⟨Ya 76 1 75,11,[]⟩,⟨Yw 1 76 73 true,12,[]⟩]) (Yr 16 [Vbp 77,Vbn 78 77,Ya 79 4 78,Vd3 80 79,Vah 81 80,Yh 82 81,Vcb 83 82,Yv 4 83])))))))⟩
theorem ok_c_Z5:Qao prog 55 c_Z5=true:=Qac func55 X0k
def b_Z5_1 (M:Mach) (n0:Nat) (n1:Nat) (r1:Rk) (n2:Nat) (r2:Rk) (z0 z5 z8 z15 z16 z17 z25 z26 z27:V) (U:Objs):Ro:=Uaw z27 z26 fun x22=> br x22.ng (Ubm z27 z25 11 fun x23=> Uaq x23 U 11 fun x24=>
 let s25:Objs:=U++[.cells [(.int .i64 0),(.int .i64 0),(.str []),(.str []),(.int .i64 0),(.str []),(.bool false),(.int .i64 0),(.int .i64 0),(.int .i64 0),.nils]]
 Uao x24 s25 U 11 0 fun p26=> Udu z8 fun x27=> Ucu x27 p26.2 fun p28=> Ub1 p28.2 U 11 0 fun x29=> bd (Qgd [Qdd p26.2 x27.ng] p28.2) fun s30=> Ubj z0 x29 s30 76 M fun p32=> bd (Qei [Qdd p26.2 x27.ng] p28.2 p32.2) fun s31=> Ubo p32.1 fun x33=> Ucr p28.1 x33 s31 3 40 fun x34=> Udu z8 fun x35=> Uct x35 x34 s31 fun p36=> Ua0 z27 fun x37=> UF n2 p36.2 [z0,z5,z8,z15,z16,z17,z25,z26,x37.ng] r2) (Uae z0 U n2 fun y48=> Uar U n2 fun y49=> Uae z5 U n2 fun y50=> Uae z8 U n2 fun y51=> Uae z15 U n2 fun y52=> Uae z16 U n2 fun y53=> Uae z17 U n2 fun y54=> Uay U n2 fun s55=> Udu y50 fun x56=> Ucu x56 s55 fun p57=> Uaq y51 p57.2 2 fun x58=> bd (Qam true 2 1 (.agg [(.int .i64 0),.nils]) [(0,x58.ng)]) fun x59=> Ucr p57.1 x59 p57.2 2 32 fun x60=> Udu y50 fun x61=> Uct x61 x60 p57.2 fun p62=> Ua0 y54 fun x63=> UF n1 p62.2 [y48,y50,y52,y53,x63.ng] r1)
def l_Z5_1:=M.fx (X0Lj (b_Z5_1 M n0 n1 r1 n2))
def b_Z5_0:=Uaw z17 z16 fun x9=> br x9.ng (Ubm z17 z15 2 fun x10=> Uaq x10 U 2 fun x11=>
 let s12:Objs:=U++[.cells [(.int .i64 0),.nils]]
 Uao x11 s12 U 2 0 fun p13=> Ubs U fun x14=> Uac x14 p13.2 fun x15=> bd (pu (Qaw [(.int .i64 0),.nils] [(0,1,x15.ng)])) fun x16=>
 let s17:Objs:=p13.2++[.cells [(.int .i64 0),.nils]]
 Uao x16 s17 p13.2 2 0 fun p18=> Ubq U 1 0 fun x19=> Uac x19 p18.2 fun x20=> Uam x20 fun x21=> Uaa z0 p18.2 fun y70=> Uaa z5 p18.2 fun y71=> Ubl p18.2 p13.2 fun y72=> Uaa z15 p18.2 fun y73=> Uaa z16 p18.2 fun y74=> Uaa z17 p18.2 fun y75=> Uaa x20 p18.2 fun y76=> Uaa x21 p18.2 fun y77=> Ud2 p18.2 fun y78=> l_Z5_1 M n0 n1 r1 p18.2.length [y70,y71,y72,y73,y74,y75,y76,y77,y78] p18.2) (Uae z0 U n1 fun y79=> Uar U n1 fun y80=> Uae z5 U n1 fun y81=> Uay U n1 fun s82=> Uat y79 fun x83=> Uen x83 fun x84=> Uen x84 fun x85=> Uac x85 s82 fun x86=> Uc7 y81 fun x87=> Ua3 x87 x86 s82 1 fun p88=> Uat y79 fun x89=> Uen x89 fun x90=> Uen x90 fun x91=> Uac x91 p88.2 fun x92=> Udu y81 fun x93=> Uac x93 p88.2 fun x94=> Uam x94 fun x95=> Udv x92 x95 fun x96=> Uat y79 fun x97=> Uen x97 fun x98=> Uen x98 fun x99=> Ua3 x99 x96 p88.2 1 fun p100=> Uat y79 fun x101=> Uen x101 fun x102=> Udu x102 fun x103=> Ucu x103 p100.2 fun p104=> Uaq y81 p104.2 3 fun x105=> bd (Qam true 3 1 (.agg [(.int .i64 0),.nils,(.str [])]) [(0,x105.ng)]) fun x106=> Ucr p104.1 x106 p104.2 3 48 fun x107=> Uat y79 fun x108=> Uen x108 fun x109=> Udu x109 fun x110=> Uct x110 x107 p104.2 fun p111=> Uat y79 fun x112=> Uen x112 fun x113=> Udu x113 fun x114=> Uac x114 p111.2 fun x115=> Uam x115 fun x116=> Ubz x116 1 fun x117=> bd (oK false x117.ng) (nK n0 p111.2))
def l_Z5_0:=M.fx (X0Lf (b_Z5_0 M n0 n1))
def s_Z5:=Uaz a1 U fun p0=> Uaq p0.1 p0.2 1 fun x1=> Ubr x1 p0.2 75 M fun p2=> bd (pu (Qaw [(.int .i64 0),.nils,(.str [])] [(2,1,p2.1.ng)])) fun x3=>
 let s4:Objs:=p2.2++[.cells [(.int .i64 0),.nils,(.str [])]]
 Ud4 x3 s4 p2.2 fun p5=> Uc7 p0.1 fun x6=> Uac x6 p5.2 fun x7=> Uam x7 fun x8=> Uaa a0 p5.2 fun y118=> Ubl p5.2 p2.2 fun y119=> Uaa x7 p5.2 fun y120=> Uaa x8 p5.2 fun y121=> Ud2 p5.2 fun y122=> l_Z5_0 M U.length p5.2.length [y118,y119,y120,y121,y122] p5.2
theorem k_Z5:fnK M c_Z5 [a0,a1] U=s_Z5 M a0 a1 U:=X0k
def c_Z2b:Ev.Fn:=⟨38,[.tmp 2],false,false,(Yq 0 [Vbf 2] (Yq 1 [Vaw 3] (Yj (.block 0 (.loop [0,3] [2] (Yj (Yq 2 [Yv 6 3,Vbp 7,Yh 8 7,Vat 9 6 8] (Yz 9 .skip (.exit 0))) (.block 1 (Yq 3 [Vbp 11,Yv 12 3,Vbo 13 77 11 12,Yv 10 13,Vex 14 10,Vey 15 10,Yv 4 14,Yv 5 15] (Yj (Yq 4 [Vbp 16,Yv 17 3,Vet 18 16 17,Vah 19 18,Vep 20 19,Yv 21 20,Vac 22 21 0,Vac 23 21 3,Vac 24 21 3,Vac 25 21 5,Vev 26 21 24 25,⟨some 27,(some (21,false)),.cut 1 22 (some 23) (some 26) none⟩,Vbe 28 21 78 27,Va3 29 21 28,Vap 30 21 29,Yv 31 30,Vac 32 31 4,Vao 33 31 32 0,Vap 34 31 33] (Ym 34 5 [Vbf 2])) (Ys1 6 [Yv 35 3,Yv 36 5,Vcl 37 35 36,Yv 3 37]))))))) (Yr 7 [Vdc 2]))))⟩
theorem ok_c_Z2b:Qao prog 56 c_Z2b=true:=Qac func56 X0k
def b_Z2b_0:=Uau z0 fun x0=> Ual z3 x0 fun x1=> br x1.ng (bd (M.call 77 [z0.ng.ng,z3.ng.ng] U) fun p2=> Ubk p2.1 0 fun x3=> Ubk p2.1 1 fun x4=> Ubb z3 z0 1 fun x5=> Uac x5 p2.2 fun x6=> bd (pu (eB .eql .no x6.ng (.int .u8 0))) fun x7=> Uah x7 z0 fun x8=> Uah x7 z3 fun x9=> Uah x7 z3 fun x10=> Ub9 x7 x4 fun x11=> bd (gdv x7.ng false (pu (eB .add .no x10.ng x11.ng))) fun x12=> bd (gdv x7.ng false (pu (Qbm 1 x8.ng (some x9.ng) (some x12.ng) none))) fun x13=> Uc8 x7 x13 p2.2 78 M fun p14=> Ua7 x7 p14.1 fun x15=> Uad x7 x15 fun x16=> Ub9 x16 x3 fun x17=> Ua4 x16 x17 0 fun x18=> Uad x16 x18 fun x19=> br x19.ng (Ua6 p14.2 n1 fun y20=> Uay p14.2 n1 fun s21=> bd (oK false y20) (nK n0 s21)) (Udb z3 x4 fun x22=> UF n1 p14.2 [z0,x22.ng] r1)) (Uar U n1 fun y26=> Uay U n1 fun s27=> bd (oK false (.bool true)) (nK n0 s27))
def l_Z2b_0:=M.fx (X0Lc (b_Z2b_0 M n0 n1))
def s_Z2b:=Uaa a0 U fun y28=> Ud2 U fun y29=> l_Z2b_0 M U.length U.length [y28,y29] U
theorem k_Z2b:fnK M c_Z2b [a0] U=s_Z2b M a0 U:=X0k
def c_Z3f:Ev.Fn:=⟨198,[.tmp 4],false,false,(Yq 0 [Vbz 2,Vby 3,Vbf 4] (Yq 1 [Va7 11 11 2,Vc9 12 79 11,Yv 10 12,Vex 13 10,Vey 14 10,Yx 15 10 2,Yx 16 10 3,Yx 17 10 4,Yv 5 13,Yv 6 14,Yv 7 15,Yv 8 16,Yv 9 17] (Yj (Yq 2 [Vdg 18 2,Vah 19 18,Vai 20 19 1] (Ym 20 3 [Va7 21 11 2,Va7 22 4 3,Vbo 23 80 21 22,Yv 24 23,Vam 25 24 3 2,Vad 26 24 25,Van 27 24 38 26,Vag 28 24 27,Yv 29 28,Vaa 30 29 7,Vak 31 29 30,Vag 32 29 31,Yv 33 32,Vaa 34 33 8,Vak 35 33 34,Vag 36 33 35,Yv 37 36,Vaa 38 37 9,Vak 39 37 38,Vag 40 37 39,Yv 4 40])) (Yj (Yq 4 [Vdg 41 2,Vah 42 41,Vai 43 42 2] (Ym 43 5 [Va7 44 11 2,Va7 45 4 3,Vbo 46 80 44 45,Yv 47 46,Vaa 48 47 6,Vak 49 47 48,Vag 50 47 49,Yv 51 50,Vaa 52 51 7,Vak 53 51 52,Vag 54 51 53,Yv 55 54,Vaa 56 55 8,Vak 57 55 56,Vag 58 55 57,Yv 59 58,Vaa 60 59 9,Vak 61 59 60,Vag 62 59 61,Yv 4 62])) (Yj (Yq 6 [Vdg 63 2,Vah 64 63,Vai 65 64 5] (Ym 65 7 [Va7 66 11 2,Va7 67 4 3,Vbo 68 80 66 67,Yv 69 68,Vam 70 69 3 2,Vad 71 69 70,Van 72 69 38 71,Vag 73 69 72,Yv 74 73,Vaz 75 74 11 2,Van 76 74 81 75,Vag 77 74 76,Yv 78 77,Vaa 79 78 8,Vak 80 78 79,Vag 81 78 80,Yv 82 81,Vaa 83 82 9,Vak 84 82 83,Vag 85 82 84,Yv 4 85])) (Yj (Yq 8 [Yv 86 5,Yv 87 86,Vac 88 87 7,Vap 89 87 88] (Ym 89 9 [Vbf 4])) (Yj (Yq 10 [Vdg 90 2,Vah 91 90,Vai 92 91 3,Yv 93 92,Vaq 94 93 0 2,Vae 95 93 94,Vao 96 93 95 4,Vap 97 93 96] (Ym 97 11 [Ya 98 3 2,Vah 99 98,Vc9 100 38 99,Yv 101 100,Vaa 102 101 8,Vak 103 101 102,Vag 104 101 103,Yv 105 104,Vaa 106 105 9,Vak 107 105 106,Vag 108 105 107,Yv 4 108])) (Yj (Yq 12 [Vdg 109 2,Vah 110 109,Vai 111 110 11] (Ym 111 13 [Ya 112 3 2,Vah 113 112,Vc9 114 34 113,Yv 115 114,Vaa 116 115 8,Vak 117 115 116,Vag 118 115 117,Yv 119 118,Vaa 120 119 9,Vak 121 119 120,Vag 122 119 121,Yv 4 122])) (Yj (Yq 14 [Vdg 123 2,Vah 124 123,Vai 125 124 13] (Ym 125 15 [Ya 126 3 2,Vah 127 126,Vc9 128 82 127,Yv 129 128,Vaa 130 129 8,Vak 131 129 130,Vag 132 129 131,Yv 133 132,Vaa 134 133 9,Vak 135 133 134,Vag 136 133 135,Yv 4 136])) (Yj (Yq 16 [Yv 137 6] (Ym 137 17 [Vbf 4])) (Yj (Yq 18 [Vdg 138 2,Vah 139 138,Vai 140 139 6,Yv 141 140,Vaq 142 141 0 2,Vae 143 141 142,Vao 144 141 143 12,Vap 145 141 144] (Ym 145 19 [Yv 146 8,Vbm 147 146,Yv 148 147,Vaa 149 148 9,Vak 150 148 149,Vag 151 148 150,Yv 4 151])) (Yj (Yq 20 [Vdg 152 2,Vah 153 152,Vai 154 153 7] (Ym 154 21 [Ya 155 8 2,Vdg 156 155,Vah 157 156,Vc9 158 83 157,Yv 159 158,Vam 160 159 8 2,Vam 161 159 1 160,Vad 162 159 161,Van 163 159 83 162,Vag 164 159 163,Yv 165 164,Vaa 166 165 9,Vak 167 165 166,Vaa 168 165 167,Vaq 169 168 10 2,Vae 170 168 169,Vbx 171 168 4 3,Vc8 172 168 36 170 171,Va0 173 165 168 172,Vag 174 165 173,Yv 4 174])) (Yr 22 [Vdg 175 2,Vah 176 175,Vai 177 176 8,Yv 178 177,Vaq 179 178 0 2,Vae 180 178 179,Vao 181 178 180 9,Vap 182 178 181,Yv 183 182,Vaq 184 183 0 2,Vae 185 183 184,Vao 186 183 185 10,Vap 187 183 186,Yv 188 187,Vaa 189 188 8,Vak 190 188 189,Vag 191 188 190,Yv 192 191,Vam 193 192 10 2,Vad 194 192 193,Vaz 195 192 4 3,Ve9 196 192 36 194 195,Vag 197 192 196,Yv 4 197])))))))))))))⟩
theorem ok_c_Z3f:Qao prog 57 c_Z3f=true:=Qac func57 X0k
def s_Z3f:=Uaz a0 U fun p0=> Uaz a1 p0.2 fun p1=> Uaq p0.1 p1.2 11 fun x2=> Ubr x2 p1.2 79 M fun p3=> Ubk p3.1 0 fun x4=> Ubk p3.1 1 fun x5=> Ubk p3.1 2 fun x6=> Ubk p3.1 3 fun x7=> Ubk p3.1 4 fun x8=> Uc7 p0.1 fun x9=> Uac x9 p3.2 fun x10=> Uai x10 1 fun x11=> br x11.ng (Uaq p0.1 p3.2 11 fun x12=> Uaq p1.1 p3.2 4 fun x13=> Ucn x12 x13 p3.2 80 M fun p14=> Ua9 p14.1 p0.1 3 fun x15=> Uax p14.1 x15 p14.2 fun x16=> Ua1 p14.1 x16 p14.2 38 M fun p17=> Uab p14.1 p17.1 fun x18=> Uan x18 x6 fun x19=> Uav x18 x19 fun x20=> Uab x18 x20 fun x21=> Uan x21 x7 fun x22=> Uav x21 x22 fun x23=> Uab x21 x23 fun x24=> Uan x24 x8 fun x25=> Uav x24 x25 fun x26=> Uab x24 x26 fun x27=> bd (oK false x27.ng) (nK U.length p17.2)) (Uc7 p0.1 fun x28=> Uac x28 p3.2 fun x29=> Uai x29 2 fun x30=> br x30.ng (Uaq p0.1 p3.2 11 fun x31=> Uaq p1.1 p3.2 4 fun x32=> Ucn x31 x32 p3.2 80 M fun p33=> Uan p33.1 x5 fun x34=> Uav p33.1 x34 fun x35=> Uab p33.1 x35 fun x36=> Uan x36 x6 fun x37=> Uav x36 x37 fun x38=> Uab x36 x38 fun x39=> Uan x39 x7 fun x40=> Uav x39 x40 fun x41=> Uab x39 x41 fun x42=> Uan x42 x8 fun x43=> Uav x42 x43 fun x44=> Uab x42 x44 fun x45=> bd (oK false x45.ng) (nK U.length p33.2)) (Uc7 p0.1 fun x46=> Uac x46 p3.2 fun x47=> Uai x47 5 fun x48=> br x48.ng (Uaq p0.1 p3.2 11 fun x49=> Uaq p1.1 p3.2 4 fun x50=> Ucn x49 x50 p3.2 80 M fun p51=> Ua9 p51.1 p0.1 3 fun x52=> Uax p51.1 x52 p51.2 fun x53=> Ua1 p51.1 x53 p51.2 38 M fun p54=> Uab p51.1 p54.1 fun x55=> Ub3 x55 p0.1 p54.2 11 fun x56=> Ua1 x55 x56 p54.2 81 M fun p57=> Uab x55 p57.1 fun x58=> Uan x58 x7 fun x59=> Uav x58 x59 fun x60=> Uab x58 x60 fun x61=> Uan x61 x8 fun x62=> Uav x61 x62 fun x63=> Uab x61 x63 fun x64=> bd (oK false x64.ng) (nK U.length p57.2)) (bd (gdv x4.ng.ng.ng false (some x6.ng.ng)) fun x65=> bd (pu (pV x4.ng.ng.ng.ng (.bool true) x65.ng)) fun x66=> br x66.ng (bd (oK false (.bool false)) (nK U.length p3.2)) (Uc7 p0.1 fun x67=> Uac x67 p3.2 fun x68=> Uai x68 3 fun x69=> Uas x69 p0.1 0 fun x70=> Uag x69 x70 p3.2 fun x71=> Ua4 x69 x71 4 fun x72=> Uad x69 x72 fun x73=> br x73.ng (Uaf p0.1 3 fun x74=> Uac x74 p3.2 fun x75=> Ubr x75 p3.2 38 M fun p76=> Uan p76.1 x7 fun x77=> Uav p76.1 x77 fun x78=> Uab p76.1 x78 fun x79=> Uan x79 x8 fun x80=> Uav x79 x80 fun x81=> Uab x79 x81 fun x82=> bd (oK false x82.ng) (nK U.length p76.2)) (Uc7 p0.1 fun x83=> Uac x83 p3.2 fun x84=> Uai x84 11 fun x85=> br x85.ng (Uaf p0.1 3 fun x86=> Uac x86 p3.2 fun x87=> Ubr x87 p3.2 34 M fun p88=> Uan p88.1 x7 fun x89=> Uav p88.1 x89 fun x90=> Uab p88.1 x90 fun x91=> Uan x91 x8 fun x92=> Uav x91 x92 fun x93=> Uab x91 x93 fun x94=> bd (oK false x94.ng) (nK U.length p88.2)) (Uc7 p0.1 fun x95=> Uac x95 p3.2 fun x96=> Uai x96 13 fun x97=> br x97.ng (Uaf p0.1 3 fun x98=> Uac x98 p3.2 fun x99=> Ubr x99 p3.2 82 M fun p100=> Uan p100.1 x7 fun x101=> Uav p100.1 x101 fun x102=> Uab p100.1 x102 fun x103=> Uan x103 x8 fun x104=> Uav x103 x104 fun x105=> Uab x103 x105 fun x106=> bd (oK false x106.ng) (nK U.length p100.2)) (br x5.ng.ng.ng (bd (oK false (.bool false)) (nK U.length p3.2)) (Uc7 p0.1 fun x107=> Uac x107 p3.2 fun x108=> Uai x108 6 fun x109=> Uas x109 p0.1 0 fun x110=> Uag x109 x110 p3.2 fun x111=> Ua4 x109 x111 12 fun x112=> Uad x109 x112 fun x113=> br x113.ng (bd (pu (evUn .not x7.ng.ng.ng)) fun x114=> Uan x114 x8 fun x115=> Uav x114 x115 fun x116=> Uab x114 x116 fun x117=> bd (oK false x117.ng) (nK U.length p3.2)) (Uc7 p0.1 fun x118=> Uac x118 p3.2 fun x119=> Uai x119 7 fun x120=> br x120.ng (Uaf p0.1 8 fun x121=> Uc7 x121 fun x122=> Uac x122 p3.2 fun x123=> Ubr x123 p3.2 83 M fun p124=> Ua9 p124.1 p0.1 8 fun x125=> Ua9 p124.1 x125 1 fun x126=> Uax p124.1 x126 p124.2 fun x127=> Ua1 p124.1 x127 p124.2 83 M fun p128=> Uab p124.1 p128.1 fun x129=> Uan x129 x8 fun x130=> Uav x129 x130 fun x131=> Uak x129 x131 fun x132=> Ueh x132 p0.1 10 fun x133=> Ucx x132 x133 p128.2 fun x134=> bd (gdv x132 false (pu (eL p128.2 true 4 p1.1.ng))) fun x135=> bd (gdp x132 false (M.call 36 [x134.ng,x135.ng,(.bool false)] p128.2) p128.2) fun p136=> Ua8 x129 x132 p136.1 fun x137=> Uab x129 x137 fun x138=> bd (oK false x138.ng) (nK U.length p136.2)) (Uc7 p0.1 fun x139=> Uac x139 p3.2 fun x140=> Uai x140 8 fun x141=> Uas x141 p0.1 0 fun x142=> Uag x141 x142 p3.2 fun x143=> Ua4 x141 x143 9 fun x144=> Uad x141 x144 fun x145=> Uas x145 p0.1 0 fun x146=> Uag x145 x146 p3.2 fun x147=> Ua4 x145 x147 10 fun x148=> Uad x145 x148 fun x149=> Uan x149 x7 fun x150=> Uav x149 x150 fun x151=> Uab x149 x151 fun x152=> Ua9 x152 p0.1 10 fun x153=> Uax x152 x153 p3.2 fun x154=> Ub3 x152 p1.1 p3.2 4 fun x155=> bd (gdp x152.ng true (M.call 36 [x154.ng,x155.ng,(.bool false)] p3.2) p3.2) fun p156=> Uab x152 p156.1 fun x157=> bd (oK false x157.ng) (nK U.length p156.2)))))))))))
theorem k_Z3f:fnK M c_Z3f [a0,a1] U=s_Z3f M a0 a1 U:=X0k
def c_Zs:Ev.Fn:=⟨98,[.tmp 4],false,false,(Yq 0 [Vby 3,Vaw 4] (Yq 1 [Va7 10 1 3,Vc9 11 87 10,Yk 12 (.build [Y0,.nils,Yn] [(2,1,11)]),Vcg 5,Var 3 5 12] (Yj (Yq 2 [Vaw 6] (.block 0 (.loop [0,3,5,6] [0,3,4,5] (Yj (Yq 3 [Yv 13 6,Vdg 14 3,Vah 15 14,Yh 16 15,Vat 17 13 16] (Yz 17 .skip (.exit 0))) (Yj (.block 1 (Yq 5 [Vdg 20 3,Vah 21 20,Yv 22 6,Ye 23 2 21 22,Vdg 24 23,Vah 25 24,Ved 26 25,Vcc 7,Var 2 7 26] (Yj (Yq 6 [Vaw 8] (.block 2 (.loop [0,3,5,6,7,8] [0,3,4,5,6,7] (Yj (Yq 7 [Yv 27 8,Vdg 28 3,Vah 29 28,Yv 30 6,Ye 31 2 29 30,Vd3 32 31,Vah 33 32,Yh 34 33,Vat 35 27 34] (Yz 35 .skip (.exit 2))) (Yj (.block 3 (Yq 9 [Vbp 38,Vdg 39 3,Vah 40 39,Yv 41 6,Ye 42 2 40 41,Vd3 43 42,Vah 44 43,Yv 45 8,Ye 46 11 44 45,Va7 47 11 46,Vbo 48 88 38 47,Vau 9,Var 3 9 48] (Ys1 10 [Vd3 49 7,Vdu 50 49,Va7 51 3 9,Vdf 52 3 51,Vb4 53 3 40 50 52,Vd3 54 7,Yw 1 54 53 true]))) (Ys1 8 [Yv 36 8,Vaf 37 36,Yv 8 37])))))) (Ys1 11 [Vd3 55 5,Vdu 56 55,Va7 57 2 7,Vd1 58 57,Vb4 59 2 32 56 58,Vd3 60 5,Yw 1 60 59 true])))) (Ys1 4 [Yv 18 6,Vaf 19 18,Yv 6 19])))))) (Yq 12 [Vbp 61,Vbn 62 61,Ya 63 4 62,Ya 64 4 63,Vah 65 64,Vdg 66 5,Var 1 66 65] (Yj (.drw 13 [⟨Yv 67 0,0,[]⟩,⟨Yk 68 (.nilc 67),1,[]⟩,⟨Ya 69 4 68,2,[]⟩,⟨Ya 70 4 69,3,[]⟩,⟨Yl 71 false 1 70,4,[]⟩,⟨Ya 72 0 3,5,[]⟩,⟨Yl 73 false 1 72,6,[]⟩,⟨Yh 74 73,7,[]⟩,⟨Yo 75 .add .no 71 74,8,[]⟩,⟨Yk 76 (.nilc 67),9,[]⟩,⟨Ya 77 4 76,10,[]⟩,⟨Ya 78 4 77,11,[]⟩,⟨Yw 1 78 75 false,12,[]⟩]) (Yj (.drw 14 [⟨Yv 79 0,0,[]⟩,⟨Yv 80 0,1,[]⟩,⟨Yk 81 (.nilc 80),2,[]⟩,⟨Ya 82 4 81,3,[]⟩,⟨Ya 83 1 82,4,[]⟩,⟨Yk 84 (.loadT 83),5,[]⟩,⟨Yl 85 true 3 5,6,[]⟩,⟨Yk 86 (.buildSl true 3 1 (.agg [Y0,.nils,Yn]) [(0,85)] false),7,[]⟩,⟨Yk 87 (.app false true 3 48 84 86 true),8,[]⟩,⟨Yk 88 (.nilc 79),9,[]⟩,⟨Ya 89 4 88,10,[]⟩,⟨Ya 90 1 89,11,[]⟩,⟨Yw 1 90 87 true,12,[]⟩]) (Yr 15 [Vbp 91,Vbn 92 91,Ya 93 4 92,Vd3 94 93,Vah 95 94,Yh 96 95,Vcb 97 96,Yv 4 97])))))))⟩
theorem ok_c_Zs:Qao prog 62 c_Zs=true:=Qac func62 X0k
def b_Zs_1 (M:Mach) (n0:Nat) (n1:Nat) (r1:Rk) (n2:Nat) (r2:Rk) (z0 z3 z5 z6 z7 z8:V) (U:Objs):Ro:=Uc7 z3 fun x18=> Uac x18 U fun x19=> Ube z6 x19 2 fun x20=> Udu x20 fun x21=> Uac x21 U fun x22=> Uam x22 fun x23=> Ual z8 x23 fun x24=> br x24.ng (Uc7 z3 fun x25=> Uac x25 U fun x26=> Ube z6 x26 2 fun x27=> Udu x27 fun x28=> Uac x28 U fun x29=> Ube z8 x29 11 fun x30=> Uaq x30 U 11 fun x31=> Ubj z0 x31 U 88 M fun p32=>
 let s33:Objs:=p32.2++[.cells [(.int .i64 0),(.int .i64 0),.nils]]
 Ud4 p32.1 s33 p32.2 fun p34=> Udu z7 fun x35=> Ucu x35 p34.2 fun p36=> Ub1 p36.2 p32.2 3 0 fun x37=> Ubo x37 fun x38=> Ucr p36.1 x38 p36.2 3 40 fun x39=> Udu z7 fun x40=> Uct x40 x39 p36.2 fun p41=> Uap z8 fun x42=> UF n2 p41.2 [z0,z3,z5,z6,z7,x42.ng] r2) (Uae z0 U n2 fun y50=> Uae z3 U n2 fun y51=> Uar U n2 fun y52=> Uae z5 U n2 fun y53=> Uae z6 U n2 fun y54=> Uae z7 U n2 fun y55=> Uay U n2 fun s56=> Udu y53 fun x57=> Ucu x57 s56 fun p58=> Uaq y55 p58.2 2 fun x59=> bd (Qam true 2 1 (.agg [(.int .i64 0),.nils]) [(0,x59.ng)]) fun x60=> Ucr p58.1 x60 p58.2 2 32 fun x61=> Udu y53 fun x62=> Uct x62 x61 p58.2 fun p63=> Uap y54 fun x64=> UF n1 p63.2 [y50,y51,y53,x64.ng] r1)
def l_Zs_1:=M.fx (X0Lg (b_Zs_1 M n0 n1 r1 n2))
def b_Zs_0:=Uc7 z3 fun x6=> Uac x6 U fun x7=> Uam x7 fun x8=> Ual z6 x8 fun x9=> br x9.ng (Uc7 z3 fun x10=> Uac x10 U fun x11=> Ube z6 x11 2 fun x12=> Uc7 x12 fun x13=> Uac x13 U fun x14=> bd (pu (Qaw [(.int .i64 0),.nils] [(0,1,x14.ng)])) fun x15=>
 let s16:Objs:=U++[.cells [(.int .i64 0),.nils]]
 Uao x15 s16 U 2 0 fun p17=> Uaa z0 p17.2 fun y70=> Uaa z3 p17.2 fun y71=> Uaa z5 p17.2 fun y72=> Uaa z6 p17.2 fun y73=> Ubl p17.2 U fun y74=> Ud2 p17.2 fun y75=> l_Zs_1 M n0 n1 r1 p17.2.length [y70,y71,y72,y73,y74,y75] p17.2) (Uae z0 U n1 fun y76=> Uae z3 U n1 fun y77=> Uar U n1 fun y78=> Uae z5 U n1 fun y79=> Uay U n1 fun s80=> Uat y76 fun x81=> Uen x81 fun x82=> Uen x82 fun x83=> Uac x83 s80 fun x84=> Uc7 y79 fun x85=> Ua3 x85 x84 s80 1 fun p86=> Uat y76 fun x87=> Uen x87 fun x88=> Uen x88 fun x89=> Uac x89 p86.2 fun x90=> Uc7 y77 fun x91=> Uac x91 p86.2 fun x92=> Uam x92 fun x93=> Udv x90 x93 fun x94=> Uat y76 fun x95=> Uen x95 fun x96=> Uen x96 fun x97=> Ua3 x97 x94 p86.2 1 fun p98=> Uat y76 fun x99=> Uen x99 fun x100=> Udu x100 fun x101=> Ucu x101 p98.2 fun p102=> Uaq y79 p102.2 3 fun x103=> bd (Qam true 3 1 (.agg [(.int .i64 0),.nils,(.str [])]) [(0,x103.ng)]) fun x104=> Ucr p102.1 x104 p102.2 3 48 fun x105=> Uat y76 fun x106=> Uen x106 fun x107=> Udu x107 fun x108=> Uct x108 x105 p102.2 fun p109=> Uat y76 fun x110=> Uen x110 fun x111=> Udu x111 fun x112=> Uac x112 p109.2 fun x113=> Uam x113 fun x114=> Ubz x114 1 fun x115=> bd (oK false x115.ng) (nK n0 p109.2))
def l_Zs_0:=M.fx (X0Le (b_Zs_0 M n0 n1))
def s_Zs:=Uaz a1 U fun p0=> Uaq p0.1 p0.2 1 fun x1=> Ubr x1 p0.2 87 M fun p2=> bd (pu (Qaw [(.int .i64 0),.nils,(.str [])] [(2,1,p2.1.ng)])) fun x3=>
 let s4:Objs:=p2.2++[.cells [(.int .i64 0),.nils,(.str [])]]
 Ud4 x3 s4 p2.2 fun p5=> Uaa a0 p5.2 fun y116=> Uaa p0.1 p5.2 fun y117=> Ubl p5.2 p2.2 fun y118=> Ud2 p5.2 fun y119=> l_Zs_0 M U.length p5.2.length [y116,y117,y118,y119] p5.2
theorem k_Zs:fnK M c_Zs [a0,a1] U=s_Zs M a0 a1 U:=X0k
def c_Z42:Ev.Fn:=⟨55,[.tmp 4],false,false,(Yq 0 [Vbf 4] (Yj (Yq 1 [Vbp 6,Yh 7 6,Vcj 8,Yh 9 8,Vc7 10 7 9] (Ym 10 2 [Vbf 4])) (Yj (Yq 3 [Vaw 5] (.block 0 (.loop [0,1,5] [4] (Yj (Yq 4 [Yv 11 5,Vbp 12,Yh 13 12,Vat 14 11 13] (Yz 14 .skip (.exit 0))) (Yj (.block 1 (Yj (.drw 6 [⟨Yv 17 0,0,[]⟩,⟨Yv 18 5,1,[]⟩,⟨Ye 19 3 17 18,2,[]⟩,⟨Ya 20 0 19,3,[]⟩,⟨Yl 21 false 1 20,4,[]⟩,⟨Yv 22 1,5,[]⟩,⟨Yv 23 5,6,[]⟩,⟨Ye 24 3 22 23,7,[]⟩,⟨Ya 25 0 24,8,[]⟩,⟨Yl 26 false 1 25,9,[]⟩,⟨Yo 27 .neq .no 21 26,10,[]⟩,⟨Yv 28 27,11,[]⟩,⟨⟨some 29,(some (28,false)),.mv 0 false⟩,12,[]⟩,⟨⟨some 30,(some (28,false)),.mv 5 false⟩,13,[]⟩,⟨⟨some 31,(some (28,false)),.iaddr 3 29 30⟩,14,[]⟩,⟨⟨some 32,(some (28,false)),.faddr 1 31⟩,15,[]⟩,⟨⟨some 33,(some (28,false)),.load false 1 32⟩,16,[]⟩,⟨⟨some 34,(some (28,false)),.mv 1 false⟩,17,[]⟩,⟨⟨some 35,(some (28,false)),.mv 5 false⟩,18,[]⟩,⟨⟨some 36,(some (28,false)),.iaddr 3 34 35⟩,19,[]⟩,⟨⟨some 37,(some (28,false)),.faddr 1 36⟩,20,[]⟩,⟨⟨some 38,(some (28,false)),.load false 1 37⟩,21,[]⟩,⟨⟨some 39,(some (28,false)),.bin .neq .no 33 38⟩,22,[]⟩,⟨Yk 40 (.pick 28 Yt 39),23,[]⟩,⟨Yv 41 40,24,[]⟩,⟨⟨some 42,(some (41,false)),.mv 0 false⟩,25,[]⟩,⟨⟨some 43,(some (41,false)),.mv 5 false⟩,26,[]⟩,⟨⟨some 44,(some (41,false)),.iaddr 3 42 43⟩,27,[]⟩,⟨⟨some 45,(some (41,false)),.faddr 2 44⟩,28,[]⟩,⟨⟨some 46,(some (41,false)),.load false 1 45⟩,29,[]⟩,⟨⟨some 47,(some (41,false)),.mv 1 false⟩,30,[]⟩,⟨⟨some 48,(some (41,false)),.mv 5 false⟩,31,[]⟩,⟨⟨some 49,(some (41,false)),.iaddr 3 47 48⟩,32,[]⟩,⟨⟨some 50,(some (41,false)),.faddr 2 49⟩,33,[]⟩,⟨⟨some 51,(some (41,false)),.load false 1 50⟩,34,[]⟩,⟨⟨some 52,(some (41,false)),.call 63 [46,51]⟩,35,[]⟩,⟨⟨some 53,(some (41,false)),.un .not 52⟩,36,[]⟩,⟨Yk 54 (.pick 41 Yt 53),37,[]⟩]) (Ym 54 7 [Vbf 4]))) (Ys1 5 [Yv 15 5,Vaf 16 15,Yv 5 16])))))) (Yr 8 [Vdc 4]))))⟩
theorem ok_c_Z42:Qao prog 63 c_Z42=true:=Qac func63 X0k
def b_Z42_0:=Uau z0 fun x3=> Ual z5 x3 fun x4=> br x4.ng (Ubb z5 z0 3 fun x5=> Uc7 x5 fun x6=> Uac x6 U fun x7=> Ubb z5 z1 3 fun x8=> Uc7 x8 fun x9=> Uac x9 U fun x10=> Ubi x7 x10 fun x11=> Uah x11 z0 fun x12=> Uah x11 z5 fun x13=> Ubp x11 x13 x12 3 fun x14=> Uas x11 x14 1 fun x15=> Uag x11 x15 U fun x16=> Uah x11 z1 fun x17=> Uah x11 z5 fun x18=> Ubp x11 x18 x17 3 fun x19=> Uas x11 x19 1 fun x20=> Uag x11 x20 U fun x21=> Ubn x11 x16 x21 fun x22=> Uad x11 x22 fun x23=> Uah x23 z0 fun x24=> Uah x23 z5 fun x25=> Ubp x23 x25 x24 3 fun x26=> Uas x23 x26 2 fun x27=> Uag x23 x27 U fun x28=> Uah x23 z1 fun x29=> Uah x23 z5 fun x30=> Ubp x23 x30 x29 3 fun x31=> Uas x23 x31 2 fun x32=> Uag x23 x32 U fun x33=> Uex x23 x28 x33 U 63 M fun p34=> Ua7 x23 p34.1 fun x35=> Uad x23 x35 fun x36=> br x36.ng (Ua6 p34.2 n1 fun y37=> Uay p34.2 n1 fun s38=> bd (oK false y37) (nK n0 s38)) (Uap z5 fun x39=> UF n1 p34.2 [z0,z1,x39.ng] r1)) (Uar U n1 fun y44=> Uay U n1 fun s45=> bd (oK false (.bool true)) (nK n0 s45))
def l_Z42_0:=M.fx (X0Ld (b_Z42_0 M n0 n1))
def s_Z42:=Uau a0 fun x0=> Uau a1 fun x1=> Ubi x0 x1 fun x2=> br x2.ng (bd (oK false (.bool false)) (nK U.length U)) (Uaa a0 U fun y46=> Uaa a1 U fun y47=> Ud2 U fun y48=> l_Z42_0 M U.length U.length [y46,y47,y48] U)
theorem k_Z42:fnK M c_Z42 [a0,a1] U=s_Z42 M a0 a1 U:=X0k
def c_Z1g:Ev.Fn:=⟨13,[.tmp 2],false,false,(Yq 0 [Vaw 2] (Yj (Yq 1 [Vbp 3,Yo 4 .lss .no 3 (Yi (-4611686018427387904)),Yv 5 4,Vac 6 5 0,Vav 7 5 6 4611686018427387904,Vap 8 5 7] (Ym 8 2 [Vdd 2 4611686018427387904])) (Yr 3 [Vbp 9,Vbp 10,Yk 11 (.un .neg 10),Vdj 12 9 11,Yv 2 12])))⟩
theorem ok_c_Z1g:Qao prog 65 c_Z1g=true:=Qac func65 X0k
def s_Z1g (M:Mach) (a0:V) (U:Objs):Ro:=Uc3 a0 (-4611686018427387904) fun x0=> Uah x0 a0 fun x1=> Ubf x0 x1 4611686018427387904 fun x2=> Uad x0 x2 fun x3=> br x3.ng (bd (oK false (.int .i64 4611686018427387904)) (nK U.length U)) (bd (pu (evUn .neg a0.ng.ng)) fun x4=> Uev a0 x4 fun x5=> bd (oK false x5.ng) (nK U.length U))
theorem k_Z1g:fnK M c_Z1g [a0] U=s_Z1g M a0 U:=X0k
def c_Z1e:Ev.Fn:=⟨18,[.tmp 4],false,false,(Yq 0 [Vaw 4] (Yq 1 [Vcj 6,Vbp 7,Vcj 8,Vbo 9 89 7 8,Yo 10 .quo .no 6 9,Yv 5 10] (Yj (Yq 2 [Vbp 11,Yv 12 5,Yo 13 .quo .no (Yi 4611686018427387904) 12,Vdo 14 11 13] (Ym 14 3 [Vdd 4 4611686018427387904])) (Yr 4 [Vbp 15,Yv 16 5,Yo 17 .mul .no 15 16,Yv 4 17]))))⟩
theorem ok_c_Z1e:Qao prog 64 c_Z1e=true:=Qac func64 X0k
def s_Z1e:=bd (M.call 89 [a0.ng.ng,a1.ng.ng] U) fun p0=> Uew a1 p0.1 fun x1=> bd (pu (eB .quo .no (.int .i64 4611686018427387904) x1.ng.ng.ng)) fun x2=> Udo a0 x2 fun x3=> br x3.ng (bd (oK false (.int .i64 4611686018427387904)) (nK U.length p0.2)) (Ueb a0 x1 fun x4=> bd (oK false x4.ng) (nK U.length p0.2))
theorem k_Z1e:fnK M c_Z1e [a0,a1] U=s_Z1e M a0 a1 U:=X0k
def c_Z36:Ev.Fn:=⟨14,[.tmp 4],false,false,(Yq 0 [Vaw 4] (Yj (.block 0 (.loop [0,1] [0,4] (Yj (Yq 1 [Vcj 6,Vcp 7 6 0] (Yz 7 .skip (.exit 0))) (.block 1 (Yq 2 [Vbp 8,Vcj 9,Yo 10 .rem .no 8 9,Yv 5 10] (Yq 3 [Vcj 11,Yv 0 11] (Ys1 4 [Yv 12 5,Yv 1 12]))))))) (Yr 5 [Vbp 13,Yv 4 13])))⟩
theorem ok_c_Z36:Qao prog 66 c_Z36=true:=Qac func66 X0k
def b_Z36_0 (M:Mach) (n0:Nat) (n1:Nat) (r1:Rk) (z0 z1:V) (U:Objs):Ro:=bd (pu (eB .neq .no z1.ng.ng (.int .i64 0))) fun x0=> br x0.ng (Uej z0 z1 fun x1=> UF n1 U [z1.ng.ng,x1.ng.ng.ng] r1) (Uae z0 U n1 fun y5=> Uar U n1 fun y6=> Uay U n1 fun s7=> bd (oK false y5.ng.ng) (nK n0 s7))
def l_Z36_0:=M.fx (X0Lc (b_Z36_0 M n0 n1))
def s_Z36:=Uaa a0 U fun y8=> Uaa a1 U fun y9=> l_Z36_0 M U.length U.length [y8,y9] U
theorem k_Z36:fnK M c_Z36 [a0,a1] U=s_Z36 M a0 a1 U:=X0k
def c_Z1x:Ev.Fn:=⟨19,[.tmp 4],false,false,(Yq 0 [Vaw 4] (Yj (Yq 1 [Vbp 6,Yh 7 6,Vaw 8] (.block 0 (.loop [0,1,7,8] [4] (Yq 2 [Vat 9 8 7] (Yj (Yz 9 .skip (.exit 0)) (Yj (.block 1 (Yq 3 [Yv 10 8,Yv 5 10] (Yq 4 [Vcj 11,Vbp 12,Yv 13 5,Vet 14 12 13,Vah 15 14,Vcm 16 11 15] (Ym 16 5 [Yv 17 5,Yv 4 17])))) (Ys1 6 [Vaf 18 8,Yv 8 18]))))))) (Yr 7 [Ve1 4])))⟩
theorem ok_c_Z1x:Qao prog 67 c_Z1x=true:=Qac func67 X0k
def b_Z1x_0 (M:Mach) (n0:Nat) (n1:Nat) (r1:Rk) (z0 z1 z7 z8:V) (U:Objs):Ro:=Uaw z8 z7 fun x1=> br x1.ng (bd (pu (eI 1 z8.ng.ng.ng.ng z0.ng.ng)) fun x2=> Uac x2 U fun x3=> Udm z1 x3 fun x4=> br x4.ng (bd (fz n1 U fzD z8.ng.ng.ng.ng) fun y5=> Uay U n1 fun s6=> bd (oK false y5) (nK n0 s6)) (Ua0 z8 fun x7=> UF n1 U [z0,z1,z7,x7.ng] r1)) (Uar U n1 fun y13=> Uay U n1 fun s14=> bd (oK false (.int .i64 (-1))) (nK n0 s14))
def l_Z1x_0:=M.fx (X0Le (b_Z1x_0 M n0 n1))
def s_Z1x:=Uau a0 fun x0=> Uaa a0 U fun y15=> Uaa a1 U fun y16=> Uaa x0 U fun y17=> Ud2 U fun y18=> l_Z1x_0 M U.length U.length [y15,y16,y17,y18] U
theorem k_Z1x:fnK M c_Z1x [a0,a1] U=s_Z1x M a0 a1 U:=X0k
def c_Z29:Ev.Fn:=⟨32,[.tmp 2],false,false,(Yq 0 [Vbg 2] (Yq 1 [Va9 7,Yu 3 7,Vaw 4] (Yj (.block 0 (.loop [0,3,4] [2,3] (Yj (Yq 2 [Yv 8 4,Vbp 9,Yh 10 9,Vat 11 8 10] (Yz 11 .skip (.exit 0))) (.block 1 (Yq 3 [Vbp 13,Yv 14 4,Vbo 15 77 13 14,Yv 12 15,Vex 16 12,Vey 17 12,Yv 5 16,Yv 6 17] (Yj (Yq 4 [Yv 18 4,Vb0 19 18 0,Yv 20 19,Vac 21 20 5,Vcd 22 20 21 65279,Vap 23 20 22] (Yz 23 (Ys1 5 [Yu 24 3,Yv 25 5,Va6 26 25,Va5 27 8 24 26,Yu 3 27]) .skip)) (Ys1 6 [Yv 28 4,Yv 29 6,Vcl 30 28 29,Yv 4 30]))))))) (Yr 7 [Yu 31 3,Yu 2 31]))))⟩
theorem ok_c_Z29:Qao prog 71 c_Z29=true:=Qac func71 X0k
def c_Z2c:Ev.Fn:=⟨52,[.tmp 2],false,false,(Yq 0 [Vbg 2] (Yq 1 [Va9 6,Yu 3 6] (Yj (Yq 2 [Vaw 4] (.block 0 (.loop [0,3,4] [2,3] (Yj (Yq 3 [Yv 7 4,Vbp 8,Yh 9 8,Vat 10 7 9] (Yz 10 .skip (.exit 0))) (Yj (.block 1 (Yq 5 [Vbp 13,Yv 14 4,Vet 15 13 14,Vah 16 15,Yv 5 16] (Yj (Yq 6 [Yv 17 5,Vai 18 17 13,Yv 19 18,Vaa 20 19 4,Va1 21 19 20,Vab 22 19,Va2 23 19 22,Vbr 24 19 21 23,Vag 25 19 24,Yv 26 25,Vab 27 26,Vaa 28 26 4,Va1 29 26 28,Vb2 30 26 27 29,Vad 31 26 30,Vbk 32 26 31 10,Vag 33 26 32] (Yz 33 (.exit 1) .skip)) (Yj (Yq 7 [Yv 34 5,Vai 35 34 13,Yv 36 35,Vac 37 36 5,Vao 38 36 37 12,Vap 39 36 38] (Yz 39 (Ys1 8 [Vdd 5 10]) .skip)) (Yj (Yq 9 [Yv 40 5,Vaj 41 40,Yv 42 41,Vac 43 42 5,Vbe 44 42 95 43,Va3 45 42 44,Vap 46 42 45] (Yz 46 (Ys1 10 [Vdd 5 65533]) .skip)) (Ys1 11 [Yu 47 3,Yv 48 5,Va6 49 48,Va5 50 8 47 49,Yu 3 50])))))) (Ys1 4 [Yv 11 4,Vaf 12 11,Yv 4 12])))))) (Yr 12 [Yu 51 3,Yu 2 51]))))⟩
theorem ok_c_Z2c:Qao prog 70 c_Z2c=true:=Qac func70 X0k
def c_Z2q:Ev.Fn:=⟨20,[.tmp 2],false,false,(Yq 0 [Vbg 2] (Yq 1 [Vdw 6 6,Yu 3 6,Vaw 4] (.block 0 (.loop [0,3,4] [2] (.block 1 (Yq 2 [Vbp 7,Yv 8 4,Vbo 9 94 7 8,Vbc 5,Var 6 5 9] (Yq 3 [Yu 10 3,Va7 11 6 5,Yk 12 (.buildSl true 6 1 (.agg [Y0,Y0,Y0,Yn,Yn,Yb]) [(0,11)] false),Vb4 13 6 64 10 12,Yu 3 13] (Yj (Yq 4 [Vdg 14 5,Vah 15 14,Vaj 16 15] (Ym 16 5 [Yu 17 3,Yu 2 17])) (Ys1 6 [Ya 18 2 5,Vah 19 18,Yv 4 19])))))))))⟩
theorem ok_c_Z2q:Qao prog 69 c_Z2q=true:=Qac func69 X0k
def c_Zh:Ev.Fn:=⟨61,[.tmp 8,.tmp 9],false,false,(Yq 0 [Vbg 8,Vaw 9] (Yq 1 [Yk 13 (.buildSl true 1 0 (.agg []) [] false),Yu 10 13] (Yj (.block 0 (.loop [0,1,2,3,10] [1,8,9,10] (Yj (Yq 2 [Vbp 14,Vbn 15 14,Ya 16 5 15,Vah 17 16,Vaj 18 17] (Yz 18 .skip (.exit 0))) (.block 1 (Yq 3 [Vbp 20,Vbp 21,Vcj 22,Vbo 23 91 21 22,Yv 24 2,Yv 25 3,Yc 26 90 [20,23,24,25],Yv 19 26,Vex 27 19,Vey 28 19,Vcf 11,Var 1 11 27,Yv 12 28] (Yq 4 [Yu 29 10,Va7 30 1 11,Yk 31 (.buildSl true 1 1 (.agg [.nils]) [(0,30)] false),Vb4 32 1 24 29 31,Yu 10 32] (Yq 5 [Vbp 33,Yv 34 12,Vbo 35 91 33 34,Yv 1 35] (Yj (Yq 6 [Vbp 36,Vbn 37 36,Ya 38 5 37,Vah 39 38,Vcp 40 39 0,Yv 41 40,Vac 42 41 0,Vac 43 41 1,Vbb 44 41 92 42 43,⟨some 45,(some (41,false)),.field false 0 1 44⟩,Vac 46 41 2,Vc3 47 41 45 46,Vap 48 41 47] (Yz 48 (.exit 0) .skip)) (Yj (Yq 7 [Vbp 49,Vcj 50,Vbo 51 92 49 50,Vd6 52 51,Vcp 53 52 18] (Yz 53 (Ys1 8 [Vbp 54,Vcj 55,Vdb 56 93 54 10 55]) .skip)) (Ys1 9 [Vcj 57,Vaf 58 57,Yv 1 58])))))))))) (Yr 10 [Yu 59 10,Vcj 60,Yu 8 59,Yv 9 60]))))⟩
theorem ok_c_Zh:Qao prog 68 c_Zh=true:=Qac func68 X0k
def c_Z16:Ev.Fn:=⟨16,[.tmp 2],false,false,(Yq 0 [Vbf 2] (Yj (Yq 1 [Vbp 5,Yh 6 5,Vaw 7] (.block 0 (.loop [0,5,6,7] [0,2] (Yq 2 [Vat 8 7 6] (Yj (Yz 8 .skip (.exit 0)) (Yj (.block 1 (Yq 3 [Vet 9 5 7,Vah 10 9,Yv 4 10] (Yq 4 [Yv 11 4,Vep 12 11] (Ym 12 5 [Vbf 2])))) (Ys1 6 [Vaf 13 7,Yv 7 13]))))))) (Yr 7 [Vez 14,Vc9 15 96 14,Yv 2 15])))⟩
theorem ok_c_Z16:Qao prog 72 c_Z16=true:=Qac func72 X0k
def b_Z16_0:=Uaw z7 z6 fun x1=> br x1.ng (Ubm z7 z5 1 fun x2=> Uac x2 U fun x3=> bd (pu (eB .eql .no x3.ng.ng.ng (.int .u8 0))) fun x4=> br x4.ng (Uae z0 U n1 fun y5=> Ua6 U n1 fun y6=> Uay U n1 fun s7=> bd (oK false y6) (nK n0 s7)) (Ua0 z7 fun x8=> UF n1 U [z0,z5,z6,x8.ng] r1)) (Uae z0 U n1 fun y14=> Uar U n1 fun y15=> Uay U n1 fun s16=> Ubr y14 s16 96 M fun p17=> bd (oK false p17.1.ng) (nK n0 p17.2))
def l_Z16_0:=M.fx (X0Le (b_Z16_0 M n0 n1))
def s_Z16:=Uau a0 fun x0=> Uaa a0 U fun y18=> Ua2 a0 U fun y19=> Uaa x0 U fun y20=> Ud2 U fun y21=> l_Z16_0 M U.length U.length [y18,y19,y20,y21] U
theorem k_Z16:fnK M c_Z16 [a0] U=s_Z16 M a0 U:=X0k
def c_Zw:Ev.Fn:=⟨56,[.tmp 6],false,false,(Yq 0 [Vbz 3,Vby 4,Vbf 6] (Yj (Yq 1 [Vd3 9 4,Vah 10 9,Yh 11 10,Vaw 12] (.block 0 (.loop [2,3,4,10,11,12] [4,6] (Yq 2 [Vat 13 12 11] (Yj (Yz 13 .skip (.exit 0)) (Yj (.block 1 (Yq 3 [Yv 14 12,Ye 15 11 10 12,Va7 16 11 15,Vas 8,Yv 7 14,Var 11 8 16] (.block 2 (Yq 4 [Va7 18 4 3,Va7 19 11 8,Vbo 20 98 18 19,Vbm 21 20,Yv 17 21] (Yz 17 (Yr 5 [Vbf 6]) (Yq 6 [Yv 23 7,Vb0 24 23 0,Yv 25 24,Vam 26 25 0 8,Vad 27 25 26,Vbk 28 25 27 1,Vaa 29 25 28,Vaq 30 29 0 8,Vae 31 29 30,Vao 32 29 31 2,Va0 33 25 29 32,Vag 34 25 33,Yv 22 34] (Yz 22 (Yr 7 [Vbf 6]) (Yq 8 [Vdg 36 8,Vah 37 36,Vai 38 37 13,Yv 39 38,Vaa 40 39 2,Vak 41 39 40,Vaa 42 39 41,Vac 43 42 7,Vaq 44 42 1 4,Vae 45 42 44,Vax 46 42 45,Vcu 47 42 46,Vew 48 42 43 47,Va0 49 39 42 48,Vag 50 39 49,Yv 35 50] (Ym 35 9 [Vbf 6]))))))))) (Ys1 10 [Vaf 51 12,Yv 12 51]))))))) (Yr 11 [Vd3 52 4,Vah 53 52,Yh 54 53,Vb0 55 54 0,Yv 6 55])))⟩
theorem ok_c_Zw:Qao prog 74 c_Zw=true:=Qac func74 X0k
def j_Zw_0 (M:Mach) (n0:Nat) (n1:Nat) (r1:Rk) (z4 z6:V) (U:Objs):Ro:=Uae z4 U n1 fun y5=> Uae z6 U n1 fun y6=> Uay U n1 fun s7=> bd (oK false y6) (nK n0 s7)
def b_Zw_0:=Uaw z12 z11 fun x8=> br x8.ng (Ubm z12 z10 11 fun x9=> Uaq x9 U 11 fun x10=>
 let s11:Objs:=U++[.cells [(.int .i64 0),(.int .i64 0),(.str []),(.str []),(.int .i64 0),(.str []),(.bool false),(.int .i64 0),(.int .i64 0),(.int .i64 0),.nils]]
 Uao x10 s11 U 11 0 fun p12=> Uaq z3 p12.2 4 fun x13=> Ub1 p12.2 U 11 0 fun x14=> Ucn x13 x14 p12.2 98 M fun p15=> Ubh p15.1 fun x16=> br x16.ng.ng (j_Zw_0 M n0 n1 r1 z4 (.bool false) p15.2) (bd (pu (eB .gtr .no z12.ng.ng.ng.ng (.int .i64 0))) fun x17=> bd (gdv x17.ng true (pu (eF 0 (.ptr U.length 0)))) fun x18=> Uax x17 x18 p15.2 fun x19=> Ucz x17 x19 1 fun x20=> Uak x17 x20 fun x21=> bd (gdv x21 false (pu (eF 0 (.ptr U.length 0)))) fun x22=> Ucx x21 x22 p15.2 fun x23=> bd (gdv x21 false (pu (eB .eql .no x23.ng (.int .i64 2)))) fun x24=> Ua8 x17 x21 x24 fun x25=> Uab x17 x25 fun x26=> br x26.ng.ng (j_Zw_0 M n0 n1 r1 z4 (.bool false) p15.2) (Ubs U fun x27=> Uac x27 p15.2 fun x28=> Uai x28 13 fun x29=> Uak x29 z2 fun x30=> Uav x29 x30 fun x31=> Uak x29 x31 fun x32=> bd (gdv x32 false (some z12.ng.ng.ng)) fun x33=> Ueh x32 z4 1 fun x34=> Ucx x32 x34 p15.2 fun x35=> bd (gdv x32 false (pu (Qai x35.ng))) fun x36=> bd (gdv x32 false (pu (eB .sub .no x36.ng (.int .i64 1)))) fun x37=> bd (gdv x32 false (pu (eB .lss .no x33.ng x37.ng))) fun x38=> Ua8 x29 x32 x38 fun x39=> Uab x29 x39 fun x40=> br x40.ng.ng (j_Zw_0 M n0 n1 r1 z4 (.bool false) p15.2) (Ua0 z12 fun x41=> UF n1 p15.2 [z2,z3,z4,z10,z11,x41.ng] r1)))) (Uae z4 U n1 fun y49=> Uar U n1 fun y50=> Uay U n1 fun s51=> Udu y49 fun x52=> Uac x52 s51 fun x53=> Uam x53 fun x54=> Ubd x54 0 fun x55=> bd (oK false x55.ng) (nK n0 s51))
def l_Zw_0:=M.fx (X0Lg (b_Zw_0 M n0 n1))
def s_Zw:=Uaz a0 U fun p0=> Uaz a1 p0.2 fun p1=> Udu p1.1 fun x2=> Uac x2 p1.2 fun x3=> Uam x3 fun x4=> Uaa a2 p1.2 fun y56=> Uaa p0.1 p1.2 fun y57=> Uaa p1.1 p1.2 fun y58=> Uaa x3 p1.2 fun y59=> Uaa x4 p1.2 fun y60=> Ud2 p1.2 fun y61=> l_Zw_0 M U.length p1.2.length [y56,y57,y58,y59,y60,y61] p1.2
theorem k_Zw:fnK M c_Zw [a0,a1,a2] U=s_Zw M a0 a1 a2 U:=X0k
def c_Z1k:Ev.Fn:=⟨37,[.tmp 2],false,false,(Yq 0 [Vbz 1,Vb7 2] (Yj (Yq 1 [Ya 4 0 1,Vah 5 4,Yh 6 5,Vaj 7 6] (Ym 7 2 [Vb7 2])) (Yq 3 [Ya 8 0 1,Vah 9 8,Ya 10 0 1,Vah 11 10,Yh 12 11,Vcb 13 12,Ye 14 2 9 13,Vd3 15 14,Vah 16 15,Yu 3 16] (Yj (Yq 4 [Yv 17 3,Yh 18 17,Vaj 19 18,Yv 20 19,Vac 21 20 3,Vac 22 20 3,Vax 23 20 22,Vcu 24 20 23,Vbu 25 20 11 21 24,Vaq 26 20 0 25,Vae 27 20 26,Vcd 28 20 27 13,Vap 29 20 28] (Ym 29 5 [Vb7 2])) (Yr 6 [Yv 30 3,Yu 31 3,Yh 32 31,Vcb 33 32,Ye 34 11 30 33,Ya 35 3 34,Vah 36 35,Yv 2 36])))))⟩
theorem ok_c_Z1k:Qao prog 75 c_Z1k=true:=Qac func75 X0k
def s_Z1k (M:Mach) (a0:V) (U:Objs):Ro:=Uaz a0 U fun p0=> Uc7 p0.1 fun x1=> Uac x1 p0.2 fun x2=> Uam x2 fun x3=> Uai x3 0 fun x4=> br x4.ng (bd (oK false (.str [])) (nK U.length p0.2)) (Uc7 p0.1 fun x5=> Uac x5 p0.2 fun x6=> Uc7 p0.1 fun x7=> Uac x7 p0.2 fun x8=> Uam x8 fun x9=> Ubz x9 1 fun x10=> Ubm x10 x6 2 fun x11=> Udu x11 fun x12=> Uac x12 p0.2 fun x13=> Uau x13 fun x14=> Uai x14 0 fun x15=> Uah x15 x13 fun x16=> Uah x15 x13 fun x17=> Ua5 x15 x17 fun x18=> bd (gdv x15.ng false (pu (eB .sub .no x18.ng (.int .i64 1)))) fun x19=> Ubp x15 x19 x16 11 fun x20=> Uas x15 x20 0 fun x21=> Uag x15 x21 p0.2 fun x22=> Uei x15 x22 13 fun x23=> Uad x15 x23 fun x24=> br x24.ng (bd (oK false (.str [])) (nK U.length p0.2)) (Uam x13 fun x25=> Ubz x25 1 fun x26=> bd (pu (eI 11 x26.ng x13.ng.ng)) fun x27=> Uaf x27 3 fun x28=> Uac x28 p0.2 fun x29=> bd (oK false x29.ng) (nK U.length p0.2)))
theorem k_Z1k:fnK M c_Z1k [a0] U=s_Z1k M a0 U:=X0k
def c_Z9:Ev.Fn:=⟨77,[.cell 4 true 3],false,false,(Yq 0 [Vby 3,Vau 4] (Yj (Yq 1 [Vdg 6 3,Vah 7 6] (.block 0 (Yj (Yq 2 [Vai 9 7 1,Yv 8 9] (Yz 8 .skip (Ys1 3 [Vai 10 7 2,Yv 8 10]))) (Yz 8 (Yr 4 [Vbp 11,Va7 12 11 3,Vbo 13 99 11 12,Var 3 4 13]) (Yq 5 [Vai 15 7 3,Yv 14 15] (Yz 14 (Yq 6 [Vbp 16,Ya 17 3 3,Vah 18 17,Yc 19 100 [16,(Ys [99,108,97,115,115]),(Yi 3),18],Var 3 4 19] .ret) (Yq 7 [Vai 21 7 4,Yv 20 21] (Yz 20 (Yq 8 [Vbp 22,Ya 23 3 3,Vah 24 23,Yc 25 100 [22,(Ys [105,100]),(Yi 2),24],Var 3 4 25] .ret) (Yq 9 [Vai 27 7 5,Yv 26 27] (Yz 26 (Yq 10 [Ya 28 3 3,Vah 29 28,Ya 30 4 3,Va7 31 3 30,Yk 32 (.build [Y0,Yb,Yn,Yn,Y0,Yn,Yb] [(0,1,(Yi 2)),(3,1,29),(4,3,31)]),Vbl 5,Var 7 5 32] (Yj (Yq 11 [Vd3 33 3,Vah 34 33,Vaj 35 34] (Yz 35 (Ys1 12 [Vd3 36 3,Vdz 1 36 2]) .skip)) (Yr 13 [Vbp 37,Vbp 38,Va7 39 7 5,Va7 40 11 3,Ve3 41 102 38 39 40,Vbo 42 101 37 41,Var 3 4 42]))) (Yq 14 [Vai 44 7 11,Yv 43 44] (Yz 43 (Yr 15 [Vbp 45,Ya 46 3 3,Vah 47 46,Vef 48 0 1 3 3 1 47,Vbo 49 101 45 48,Var 3 4 49]) (Yq 16 [Vai 51 7 6,Yv 50 51] (Yz 50 (Yr 17 [Vbs 52 6,Var 3 4 52]) (Yj (Yq 18 [Vai 54 7 8,Yv 53 54] (Yz 53 .skip (Ys1 19 [Vai 55 7 9,Yv 53 55]))) (Yz 53 (Yr 20 [Vbp 56,Ya 57 10 3,Vah 58 57,Vbo 59 103 56 58,Var 3 4 59]) (Yq 21 [Vai 61 7 10,Yv 60 61] (Yz 60 (Yr 22 [Vbp 62,Ya 63 10 3,Vah 64 63,Vbo 65 103 62 64,Vc9 66 104 65,Var 3 4 66]) (Yq 23 [Vai 68 7 7,Yv 67 68] (Yz 67 (Yr 24 [Vbp 69,Va7 70 11 3,Vbo 71 105 69 70,Var 3 4 71]) (Yq 25 [Vai 73 7 12,Yv 72 73] (Ym 72 26 [Vbp 74,Vc9 75 106 74,Var 3 4 75])))))))))))))))))))))) (Yr 27 [Vbs 76 7,Var 3 4 76])))⟩
theorem ok_c_Z9:Qao prog 76 c_Z9=true:=Qac func76 X0k
def j_Z9_1:=Uaq z5 U 7 fun x28=> Uaq z3 U 11 fun x29=> bd (M.call 102 [z0.ng.ng,x28.ng,x29.ng] U) fun p30=> Ubj z0 p30.1 p30.2 101 M fun p31=> Ua3 z4 p31.1 p31.2 3 fun p32=> Ub4 z4 p32.2 3 fun x33=> bd (oK false x33) (nK n0 p32.2)
def j_Z9_2:=br z53.ng (Uaf z3 10 fun x50=> Uac x50 U fun x51=> Ubj z0 x51 U 103 M fun p52=> Ua3 z4 p52.1 p52.2 3 fun p53=> Ub4 z4 p53.2 3 fun x54=> bd (oK false x54) (nK n0 p53.2)) (Uai z7 10 fun x55=> br x55.ng.ng (Uaf z3 10 fun x56=> Uac x56 U fun x57=> Ubj z0 x57 U 103 M fun p58=> Ubr p58.1 p58.2 104 M fun p59=> Ua3 z4 p59.1 p59.2 3 fun p60=> Ub4 z4 p60.2 3 fun x61=> bd (oK false x61) (nK n0 p60.2)) (Uai z7 7 fun x62=> br x62.ng.ng (Uaq z3 U 11 fun x63=> Ubj z0 x63 U 105 M fun p64=> Ua3 z4 p64.1 p64.2 3 fun p65=> Ub4 z4 p65.2 3 fun x66=> bd (oK false x66) (nK n0 p65.2)) (Uai z7 12 fun x67=> br x67.ng.ng (Udx z0 U 106 M fun p68=> Ua3 z4 p68.1 p68.2 3 fun p69=> Ub4 z4 p69.2 3 fun x70=> bd (oK false x70) (nK n0 p69.2)) (Ub2 0 1 0 7 fun x71=> Ua3 z4 x71 U 3 fun p72=> Ub4 z4 p72.2 3 fun x73=> bd (oK false x73) (nK n0 p72.2)))))
def j_Z9_0:=br z8.ng (Uaq z3 U 11 fun x4=> Ubj z0 x4 U 99 M fun p5=> Ua3 z4 p5.1 p5.2 3 fun p6=> Ub4 z4 p6.2 3 fun x7=> bd (oK false x7) (nK n0 p6.2)) (Uai z7 3 fun x8=> br x8.ng.ng (Uaf z3 3 fun x9=> Uac x9 U fun x10=> bd (M.call 100 [z0.ng.ng,(.str [99,108,97,115,115]),(.int .i64 3),x10.ng] U) fun p11=> Ua3 z4 p11.1 p11.2 3 fun p12=> Ub4 z4 p12.2 3 fun x13=> bd (oK false x13) (nK n0 p12.2)) (Uai z7 4 fun x14=> br x14.ng.ng (Uaf z3 3 fun x15=> Uac x15 U fun x16=> bd (M.call 100 [z0.ng.ng,(.str [105,100]),(.int .i64 2),x16.ng] U) fun p17=> Ua3 z4 p17.1 p17.2 3 fun p18=> Ub4 z4 p18.2 3 fun x19=> bd (oK false x19) (nK n0 p18.2)) (Uai z7 5 fun x20=> br x20.ng.ng (Uaf z3 3 fun x21=> Uac x21 U fun x22=> Uen z3 fun x23=> Uaq x23 U 3 fun x24=> bd (pu (Qaw [(.int .i64 0),(.bool false),(.str []),(.str []),(.int .i64 0),(.str []),(.bool false)] [(0,1,(.int .i64 2)),(3,1,x22.ng),(4,3,x24.ng)])) fun x25=>
 let s26:Objs:=U++[.cells [(.int .i64 0),(.bool false),(.str []),(.str []),(.int .i64 0),(.str []),(.bool false)]]
 Uao x25 s26 U 7 0 fun p27=> Udu z3 fun x34=> Uac x34 p27.2 fun x35=> Uai x35 0 fun x36=> br x36.ng (Udu z3 fun x37=> bd (stV p27.2 1 x37.ng (.int .i64 2) (.int .i64 2)) fun p38=> j_Z9_1 M n0 z0 z3 z4 (.ptr U.length 0) p38.2) (j_Z9_1 M n0 z0 z3 z4 (.ptr U.length 0) p27.2)) (Uai z7 11 fun x39=> br x39.ng.ng (Uaf z3 3 fun x40=> Uac x40 U fun x41=> Uco x41 0 1 3 0 3 fun x42=> Ubj z0 x42 U 101 M fun p43=> Ua3 z4 p43.1 p43.2 3 fun p44=> Ub4 z4 p44.2 3 fun x45=> bd (oK false x45) (nK n0 p44.2)) (Uai z7 6 fun x46=> br x46.ng.ng (Ub2 0 1 0 6 fun x47=> Ua3 z4 x47 U 3 fun p48=> Ub4 z4 p48.2 3 fun x49=> bd (oK false x49) (nK n0 p48.2)) (Uai z7 8 fun x74=> br x74.ng.ng (j_Z9_2 M n0 z0 z3 z4 z7 x74.ng U) (Uai z7 9 fun x75=> j_Z9_2 M n0 z0 z3 z4 z7 x75.ng U)))))))
def s_Z9:=Uaz a1 U fun p0=>
 let s1:Objs:=p0.2++[.cells [(.int .i64 0),(.int .i64 0),.nils]]
 Uc7 p0.1 fun x2=> Uac x2 s1 fun x3=> Uai x3 1 fun x76=> br x76.ng.ng (j_Z9_0 M U.length a0 p0.1 (.ptr p0.2.length 0) x3 x76.ng s1) (Uai x3 2 fun x77=> j_Z9_0 M U.length a0 p0.1 (.ptr p0.2.length 0) x3 x77.ng s1)
theorem k_Z9:fnK M c_Z9 [a0,a1] U=s_Z9 M a0 a1 U:=X0k
def c_Z2a:Ev.Fn:=⟨55,[.tmp 4,.tmp 5],false,false,(Yq 0 [Vaw 4,Vaw 5] (Yj (Yq 1 [Vdd 6 1] (.block 0 (.loop [0,1,6] [0,1,4,5] (Yj (Yq 2 [Yv 8 6,Vd4 9 8 4,Yv 10 9,Vaa 11 10 1,Vaa 12 10 6,Vc5 13 10 11 12,Vab 14 10,Va2 15 10 14,Vb3 16 10 13 15,Vag 17 10 16] (Yz 17 .skip (.exit 0))) (Yj (.block 1 (Yq 4 [Vbp 20,Vcj 21,Vcj 22,Yv 23 6,Vcl 24 22 23,Vdr 25 20 21 24,Vc9 26 78 25] (Ym 26 5 [Vez 27,Vcj 28,Vcj 29,Yv 30 6,Vcl 31 29 30,Vdr 32 27 28 31,Vc9 33 107 32,Yv 34 6,Yv 4 33,Yv 5 34]))) (Ys1 3 [Yv 18 6,Vaf 19 18,Yv 6 19])))))) (Yj (Yq 6 [Vdd 7 3] (.block 2 (.loop [0,1,7] [4,5] (Yj (Yq 7 [Yv 35 7,Vb0 36 35 1] (Yz 36 .skip (.exit 2))) (Yj (.block 3 (Yq 9 [Vcj 39,Yv 40 7,Vcl 41 39 40,Vbp 42,Yh 43 42,Yo 44 .leq .no 41 43,Yv 45 44,Vab 46 45,Vaa 47 45 1,Vaa 48 45 1,Vaa 49 45 7,Vc5 50 45 48 49,⟨some 51,(some (45,true)),.cut 1 46 (some 47) (some 50) none⟩,Van 52 45 108 51,Vag 53 45 52] (Ym 53 10 [Yv 54 7,Vdd 4 65533,Yv 5 54]))) (Ys1 8 [Yv 37 7,Vcb 38 37,Yv 7 38])))))) (Yr 11 [Vdd 4 65533,Vdd 5 1]))))⟩
theorem ok_c_Z2a:Qao prog 77 c_Z2a=true:=Qac func77 X0k
def b_Z2a_1:=bd (pu (eB .gtr .no z7.ng.ng (.int .i64 1))) fun x29=> br x29.ng (Udg z1 z7 fun x30=> Uau z0 fun x31=> bd (pu (eB .leq .no x30.ng x31.ng)) fun x32=> Uak x32 z0 fun x33=> Uak x32 z1 fun x34=> Uak x32 z1 fun x35=> Uak x32 z7 fun x36=> Ud5 x32 x35 x36 fun x37=> bd (gdv x32.ng true (pu (Qbm 1 x33.ng (some x34.ng) (some x37.ng) none))) fun x38=> Ua1 x32 x38 U 108 M fun p39=> Uab x32 p39.1 fun x40=> br x40.ng (bd (fz n1 p39.2 fzD (.int .i64 65533)) fun y41=> Uef z7 p39.2 n1 fun y42=> Uay p39.2 n1 fun s43=> nK n0 s43 (.tup [y41.ng,y42.ng])) (bd (pu (eB .sub .no z7.ng.ng (.int .i64 1))) fun x44=> UF n1 p39.2 [z0,z1,x44.ng] r1)) (Uar U n1 fun y49=> Uar U n1 fun y50=> Uay U n1 fun s51=> nK n0 s51 (.tup [(.int .i64 65533),(.int .i64 1)]))
def l_Z2a_1:=M.fx (X0Ld (b_Z2a_1 M n0 n1))
def b_Z2a_0:=bd (pu (eB .leq .no z6.ng.ng (.int .i64 4))) fun x0=> Uak x0 z1 fun x1=> Uak x0 z6 fun x2=> Ud5 x0 x1 x2 fun x3=> Uak x0 z0 fun x4=> Uby x0 x4 fun x5=> Uck x0 x3 x5 fun x6=> Uab x0 x6 fun x7=> br x7.ng (Udg z1 z6 fun x8=> bd (pu (Qbm 1 z0.ng.ng (some z1.ng.ng) (some x8.ng) none)) fun x9=> Ubr x9 U 78 M fun p10=> br p10.1.ng (Udg z1 z6 fun x11=> bd (pu (Qbm 1 z0.ng (some z1.ng.ng) (some x11.ng) none)) fun x12=> Ubr x12 p10.2 107 M fun p13=> Uee z0 p13.2 n1 fun y14=> Uae z1 p13.2 n1 fun y15=> Uee p13.1 p13.2 n1 fun y16=> Uef z6 p13.2 n1 fun y17=> Uay p13.2 n1 fun s18=> nK n0 s18 (.tup [y16.ng,y17.ng])) (Uap z6 fun x19=> UF n1 p10.2 [z0,z1,x19.ng] r1)) (Uae z0 U n1 fun y24=> Uae z1 U n1 fun y25=> Uar U n1 fun y26=> Uar U n1 fun y27=> Uay U n1 fun s28=> Uaa y24 s28 fun y52=> Uaa y25 s28 fun y53=> Uaj s28 3 fun y54=> l_Z2a_1 M n0 s28.length [y52,y53,y54] s28)
def l_Z2a_0:=M.fx (X0Ld (b_Z2a_0 M n0 n1))
def s_Z2a:=Uaa a0 U fun y55=> Uaa a1 U fun y56=> Uaj U 1 fun y57=> l_Z2a_0 M U.length U.length [y55,y56,y57] U
theorem k_Z2a:fnK M c_Z2a [a0,a1] U=s_Z2a M a0 a1 U:=X0k
def c_Z2j:Ev.Fn:=⟨16,[.tmp 2],false,false,(Yq 0 [Vbf 2] (Yq 1 [Vbp 4,Vc9 5 107 4,Yv 3 5] (Yj (.drw 2 [⟨Yv 6 3,0,[]⟩,⟨Yc 7 95 [6],1,[]⟩,⟨Yv 8 7,2,[]⟩,⟨⟨some 9,(some (8,true)),.mv 3 false⟩,3,[]⟩,⟨⟨some 12,(some (8,true)),.mv 0 true⟩,6,[]⟩,⟨⟨some 13,(some (8,true)),.conv .bytesStrN 12⟩,7,[]⟩,⟨⟨some 10,(some (8,true)),.call 109 [9]⟩,4,[]⟩,⟨⟨some 11,(some (8,true)),.conv .bytesStrN 10⟩,5,[]⟩,⟨⟨some 14,(some (8,true)),.bin .eql .no 11 13⟩,8,[]⟩,⟨Yk 15 (.pick 8 14 Yf),9,[]⟩,⟨Yv 2 15,10,[]⟩]) .ret)))⟩
theorem ok_c_Z2j:Qao prog 78 c_Z2j=true:=Qac func78 X0k
def s_Z2j:=Udx a0 U 107 M fun p0=> bd (M.call 95 [p0.1.ng.ng.ng] p0.2) fun p1=> Uan p1.1 p0.1 fun x2=> gd p1.1.ng true (Uc4 p1.1 a0 p1.2 fun x3=> Ua1 p1.1 x2 p1.2 109 M fun p4=> Uc4 p1.1 p4.1 p4.2 fun x5=> Ubg p1.1 x5 x3 fun x6=> Uab p1.1 x6 fun x7=> bd (oK false x7.ng) (nK U.length p4.2)) (bd (gdv p1.1.ng true (pu (eC p1.2 .bytesStrN .undef))) fun x8=> Ua1 p1.1 x2 p1.2 109 M fun p9=> Uc4 p1.1 p9.1 p9.2 fun x10=> Ubg p1.1 x10 x8 fun x11=> Uab p1.1 x11 fun x12=> bd (oK false x12.ng) (nK U.length p9.2))
theorem k_Z2j:fnK M c_Z2j [a0] U=s_Z2j M a0 U:=X0k
def c_Z3l:Ev.Fn:=⟨52,[.tmp 2,.tmp 3,.tmp 4,.tmp 5,.tmp 6],false,false,(Yq 0 [Vbz 1,Vbf 2,Vbf 3,Vbf 4,Vbf 5,Vbf 6] (Yj (.drw 1 [⟨Ya 7 1 1,0,[]⟩,⟨Yl 8 false 1 7,1,[]⟩,⟨Yo 9 .neq .no 8 (Yi 0),2,[]⟩,⟨Yv 10 9,3,[]⟩,⟨⟨some 11,(some (10,false)),.faddr 2 1⟩,4,[]⟩,⟨⟨some 12,(some (10,false)),.load false 1 11⟩,5,[]⟩,⟨⟨some 13,(some (10,false)),.bin .neq .no 12 (Ys [])⟩,6,[]⟩,⟨Yk 14 (.pick 10 Yt 13),7,[]⟩,⟨Ya 15 3 1,8,[]⟩,⟨Yl 16 false 1 15,9,[]⟩,⟨Yo 17 .neq .no 16 (Ys []),10,[]⟩,⟨Ya 18 4 1,11,[]⟩,⟨Ya 19 0 18,12,[]⟩,⟨Yl 20 false 1 19,13,[]⟩,⟨Yo 21 .neq .no 20 (Yi 0),14,[]⟩,⟨Yv 22 21,15,[]⟩,⟨⟨some 23,(some (22,false)),.faddr 4 1⟩,16,[]⟩,⟨⟨some 24,(some (22,false)),.faddr 1 23⟩,17,[]⟩,⟨⟨some 25,(some (22,false)),.load false 1 24⟩,18,[]⟩,⟨⟨some 26,(some (22,false)),.bin .neq .no 25 (Ys [])⟩,19,[]⟩,⟨Yk 27 (.pick 22 Yt 26),20,[]⟩,⟨Yv 28 27,21,[]⟩,⟨⟨some 29,(some (28,false)),.faddr 4 1⟩,22,[]⟩,⟨⟨some 30,(some (28,false)),.faddr 2 29⟩,23,[]⟩,⟨⟨some 31,(some (28,false)),.load false 1 30⟩,24,[]⟩,⟨Yk 32 (.pick 28 Yt 31),25,[]⟩,⟨Yv 33 32,26,[]⟩,⟨⟨some 34,(some (33,false)),.faddr 7 1⟩,27,[]⟩,⟨⟨some 35,(some (33,false)),.load false 1 34⟩,28,[]⟩,⟨⟨some 36,(some (33,false)),.bin .neq .no 35 (Yi 0)⟩,29,[]⟩,⟨Yk 37 (.pick 33 Yt 36),30,[]⟩,⟨Ya 38 8 1,31,[]⟩,⟨Ya 39 0 38,32,[]⟩,⟨Yl 40 false 1 39,33,[]⟩,⟨Yo 41 .neq .no 40 (Yi 0),34,[]⟩,⟨Yv 42 41,35,[]⟩,⟨⟨some 43,(some (42,false)),.faddr 8 1⟩,36,[]⟩,⟨⟨some 44,(some (42,false)),.faddr 1 43⟩,37,[]⟩,⟨⟨some 45,(some (42,false)),.load false 1 44⟩,38,[]⟩,⟨⟨some 46,(some (42,false)),.bin .neq .no 45 (Yi 0)⟩,39,[]⟩,⟨Yk 47 (.pick 42 Yt 46),40,[]⟩,⟨Ya 48 10 1,41,[]⟩,⟨Yl 49 false 1 48,42,[]⟩,⟨Yh 50 49,43,[]⟩,⟨Yo 51 .gtr .no 50 (Yi 0),44,[]⟩,⟨Yv 2 14,45,[]⟩,⟨Yv 3 17,46,[]⟩,⟨Yv 4 37,47,[]⟩,⟨Yv 5 47,48,[]⟩,⟨Yv 6 51,49,[]⟩]) .ret))⟩
theorem ok_c_Z3l:Qao prog 79 c_Z3l=true:=Qac func79 X0k
def s_Z3l (M:Mach) (a0:V) (U:Objs):Ro:=Uaz a0 U fun p0=> Udu p0.1 fun x1=> Uac x1 p0.2 fun x2=> Ucv x2 0 fun x3=> Uas x3 p0.1 2 fun x4=> Uag x3 x4 p0.2 fun x5=> Udl x3 x5 fun x6=> Uad x3 x6 fun x7=> Uaf p0.1 3 fun x8=> Uac x8 p0.2 fun x9=> bd (pu (eB .neq .no x9.ng (.str []))) fun x10=> Uen p0.1 fun x11=> Uc7 x11 fun x12=> Uac x12 p0.2 fun x13=> Ucv x13 0 fun x14=> Uas x14 p0.1 4 fun x15=> Uas x14 x15 1 fun x16=> Uag x14 x16 p0.2 fun x17=> Udl x14 x17 fun x18=> Uad x14 x18 fun x19=> Uas x19 p0.1 4 fun x20=> Uas x19 x20 2 fun x21=> Uag x19 x21 p0.2 fun x22=> Uad x19 x22 fun x23=> Uas x23 p0.1 7 fun x24=> Uag x23 x24 p0.2 fun x25=> Uei x23 x25 0 fun x26=> Uad x23 x26 fun x27=> Uaf p0.1 8 fun x28=> Uc7 x28 fun x29=> Uac x29 p0.2 fun x30=> Ucv x30 0 fun x31=> Uas x31 p0.1 8 fun x32=> Uas x31 x32 1 fun x33=> Uag x31 x33 p0.2 fun x34=> Uei x31 x34 0 fun x35=> Uad x31 x35 fun x36=> Uaf p0.1 10 fun x37=> Uac x37 p0.2 fun x38=> Uam x38 fun x39=> Ubd x39 0 fun x40=> nK U.length p0.2 (.tup [x7.ng.ng,x10.ng.ng,x27.ng.ng,x36.ng.ng,x40.ng.ng])
theorem k_Z3l:fnK M c_Z3l [a0] U=s_Z3l M a0 U:=X0k
def c_Z3o:Ev.Fn:=⟨26,[.tmp 4],false,false,(Yq 0 [Vbz 2,Vby 3,Vbf 4] (Yj (Yq 1 [Vd3 5 2,Vah 6 5,Vai 7 6 3] (Ym 7 2 [Ya 8 2 3,Vah 9 8,Ya 10 2 2,Vah 11 10,Vbo 12 39 9 11,Yv 4 12])) (Yr 3 [Vd3 13 2,Vah 14 13,Vcx 15 14 0,Yv 16 15,Vam 17 16 1 2,Vad 18 16 17,Vb1 19 16 18 3,Vag 20 16 19,Yv 21 20,Vam 22 21 2 2,Vad 23 21 22,Vbt 24 21 23,Vag 25 21 24,Yv 4 25])))⟩
theorem ok_c_Z3o:Qao prog 80 c_Z3o=true:=Qac func80 X0k
def s_Z3o:=Uaz a0 U fun p0=> Uaz a1 p0.2 fun p1=> Udu p0.1 fun x2=> Uac x2 p1.2 fun x3=> Uai x3 3 fun x4=> br x4.ng (Uaf p1.1 2 fun x5=> Uac x5 p1.2 fun x6=> Uaf p0.1 2 fun x7=> Uac x7 p1.2 fun x8=> Ucn x6 x8 p1.2 39 M fun p9=> bd (oK false p9.1.ng) (nK U.length p9.2)) (Udu p0.1 fun x10=> Uac x10 p1.2 fun x11=> Uc1 x11 fun x12=> Ua9 x12 p0.1 1 fun x13=> Uax x12 x13 p1.2 fun x14=> Ucy x12 x14 3 fun x15=> Uab x12 x15 fun x16=> Ua9 x16 p0.1 2 fun x17=> Uax x16 x17 p1.2 fun x18=> Ub6 x16 x18 fun x19=> Uab x16 x19 fun x20=> bd (oK false x20.ng) (nK U.length p1.2))
theorem k_Z3o:fnK M c_Z3o [a0,a1] U=s_Z3o M a0 a1 U:=X0k
def c_Z3i:Ev.Fn:=⟨52,[.tmp 2],false,false,(Yq 0 [Vbz 1,Vbf 2] (Yj (Yq 1 [Ya 3 4 1,Vdg 4 3,Vah 5 4,Vck 6 5 1,Yv 7 6,Vaq 8 7 4 1,Vaq 9 7 0 8,Vae 10 7 9,Vav 11 7 10 7,Vap 12 7 11,Yv 13 12,Vaq 14 13 4 1,Vaq 15 13 1 14,Vae 16 13 15,Vbe 17 13 37 16,Va3 18 13 17,Vap 19 13 18,Yv 20 19,Vaq 21 20 7 1,Vae 22 20 21,Vdl 23 20 22,Vap 24 20 23,Yv 25 24,Vaq 26 25 7 1,Vae 27 25 26,Vav 28 25 27 2,Vap 29 25 28] (Ym 29 2 [Vbf 2])) (Yj (Yq 3 [Ya 30 4 1,Vdg 31 30,Vah 32 31,Vai 33 32 1,Yv 34 33,Vam 35 34 4 1,Vam 36 34 1 35,Vad 37 34 36,Vb8 38 34 37,Vaa 39 34 38,Vaq 40 39 7 1,Vae 41 39 40,Vcd 42 39 41 0,Va0 43 34 39 42,Vag 44 34 43] (Ym 44 4 [Vbf 2])) (Yr 5 [Ya 45 4 1,Ya 46 2 45,Vah 47 46,Ya 48 7 1,Vah 49 48,Vai 50 49 1,Yo 51 .eql .bool 47 50,Yv 2 51]))))⟩
theorem ok_c_Z3i:Qao prog 81 c_Z3i=true:=Qac func81 X0k
def s_Z3i:=Uaz a0 U fun p0=> Uen p0.1 fun x1=> Uc7 x1 fun x2=> Uac x2 p0.2 fun x3=> Ucw x3 1 fun x4=> Uas x4 p0.1 4 fun x5=> Uas x4 x5 0 fun x6=> Uag x4 x6 p0.2 fun x7=> Ubf x4 x7 7 fun x8=> Uad x4 x8 fun x9=> Uas x9 p0.1 4 fun x10=> Uas x9 x10 1 fun x11=> Uag x9 x11 p0.2 fun x12=> Uc8 x9 x12 p0.2 37 M fun p13=> Ua7 x9 p13.1 fun x14=> Uad x9 x14 fun x15=> Uas x15 p0.1 7 fun x16=> Uag x15 x16 p13.2 fun x17=> bd (gdv x15.ng false (pu (eB .lss .no x17.ng (.int .i64 0)))) fun x18=> Uad x15 x18 fun x19=> Uas x19 p0.1 7 fun x20=> Uag x19 x20 p13.2 fun x21=> Ubf x19 x21 2 fun x22=> Uad x19 x22 fun x23=> br x23.ng (bd (oK false (.bool false)) (nK U.length p13.2)) (Uen p0.1 fun x24=> Uc7 x24 fun x25=> Uac x25 p13.2 fun x26=> Uai x26 1 fun x27=> Ua9 x27 p0.1 4 fun x28=> Ua9 x27 x28 1 fun x29=> Uax x27 x29 p13.2 fun x30=> Udp x27 x30 fun x31=> Uak x27 x31 fun x32=> Ueh x32 p0.1 7 fun x33=> Ucx x32 x33 p13.2 fun x34=> bd (gdv x32 false (pu (eB .neq .no x34.ng (.int .i64 0)))) fun x35=> Ua8 x27 x32 x35 fun x36=> Uab x27 x36 fun x37=> br x37.ng (bd (oK false (.bool false)) (nK U.length p13.2)) (Uen p0.1 fun x38=> Uaf x38 2 fun x39=> Uac x39 p13.2 fun x40=> Uaf p0.1 7 fun x41=> Uac x41 p13.2 fun x42=> Uai x42 1 fun x43=> bd (pu (eB .eql .bool x40.ng x43.ng)) fun x44=> bd (oK false x44.ng) (nK U.length p13.2)))
theorem k_Z3i:fnK M c_Z3i [a0] U=s_Z3i M a0 U:=X0k
def c_Z39:Ev.Fn:=⟨6,[.tmp 2],false,false,(Yq 0 [Vbf 2] (Yq 1 [Yk 3 (.buildSl false 1 8 Yn [(0,(Ys [98,101,102,111,114,101])),(1,(Ys [97,102,116,101,114])),(2,(Ys [102,105,114,115,116,45,108,105,110,101])),(3,(Ys [102,105,114,115,116,45,108,101,116,116,101,114])),(4,(Ys [109,97,114,107,101,114])),(5,(Ys [115,101,108,101,99,116,105,111,110])),(6,(Ys [112,108,97,99,101,104,111,108,100,101,114])),(7,(Ys [98,97,99,107,100,114,111,112]))] false),Vbp 4,Vbo 5 39 3 4,Yv 2 5] .ret))⟩
theorem ok_c_Z39:Qao prog 82 c_Z39=true:=Qac func82 X0k
def s_Z39:=bd (Qam false 1 8 (.str []) [(0,(.str [98,101,102,111,114,101])),(1,(.str [97,102,116,101,114])),(2,(.str [102,105,114,115,116,45,108,105,110,101])),(3,(.str [102,105,114,115,116,45,108,101,116,116,101,114])),(4,(.str [109,97,114,107,101,114])),(5,(.str [115,101,108,101,99,116,105,111,110])),(6,(.str [112,108,97,99,101,104,111,108,100,101,114])),(7,(.str [98,97,99,107,100,114,111,112]))]) fun x0=> Ud3 x0 a0 U 39 M fun p1=> bd (oK false p1.1.ng) (nK U.length p1.2)
theorem k_Z39:fnK M c_Z39 [a0] U=s_Z39 M a0 U:=X0k
def c_Z3n:Ev.Fn:=⟨9,[.tmp 2],true,false,(Yq 0 [Vbf 2] (Yr 1 [Vbp 3,Yo 4 .geq .no 3 (Yi (-1000000)),Yv 5 4,Vab 6 5,Vbw 7 5 6 1000000,Vag 8 5 7,Yv 2 8]))⟩
theorem ok_c_Z3n:Qao prog 83 c_Z3n=true:=Qac func83 X0k
def s_Z3n (M:Mach) (a0:V) (U:Objs):Ro:=bd (pu (eB .geq .no a0.ng.ng (.int .i64 (-1000000)))) fun x0=> Uak x0 a0 fun x1=> Uem x0 x1 1000000 fun x2=> Uab x0 x2 fun x3=> bd (oK true x3.ng) (nK U.length U)
theorem k_Z3n:fnK M c_Z3n [a0] U=s_Z3n M a0 U:=X0k
def c_Z3d:Ev.Fn:=⟨44,[.tmp 2],false,false,(Yq 0 [Vbz 1,Vb7 2] (Yq 1 [Ya 5 0 1,Vah 6 5,Yh 7 6,Yv 3 7] (Yj (Yq 2 [Yv 8 3,Vaj 9 8,Yv 10 9,Vaq 11 10 0 1,Vae 12 10 11,Vac 13 10 3,Vcu 14 10 13,Vbu 15 10 2 12 14,Vaq 16 10 1 15,Vae 17 10 16,Vax 18 10 17,Vao 19 10 18 0,Vap 20 10 19] (Ym 20 3 [Vb7 2])) (Yj (.drw 4 [⟨Ya 21 0 1,0,[]⟩,⟨Yl 22 false 1 21,1,[]⟩,⟨Yv 23 3,2,[]⟩,⟨Yo 24 .sub .no 23 (Yi 1),3,[]⟩,⟨Ye 25 2 22 24,4,[]⟩,⟨Ya 26 1 25,5,[]⟩,⟨Yl 27 false 1 26,6,[]⟩,⟨Ya 28 0 1,7,[]⟩,⟨Yl 29 false 1 28,8,[]⟩,⟨Yv 30 3,9,[]⟩,⟨Yo 31 .sub .no 30 (Yi 1),10,[]⟩,⟨Ye 32 2 29 31,11,[]⟩,⟨Ya 33 1 32,12,[]⟩,⟨Yl 34 false 1 33,13,[]⟩,⟨Yh 35 34,14,[]⟩,⟨Yo 36 .sub .no 35 (Yi 1),15,[]⟩,⟨Ye 37 11 27 36,16,[]⟩,⟨Yl 38 true 11 37,17,[]⟩,⟨Yk 4 (.alloc [Y0,Y0,Yn,Yn,Y0,Yn,Yb,Y0,Y0,Y0,.nils]),18,[]⟩,⟨Yw 11 4 38 false,19,[]⟩]) (Yj (Yq 5 [Vdg 39 4,Vah 40 39,Vcp 41 40 13] (Ym 41 6 [Vb7 2])) (Yr 7 [Ya 42 3 4,Vah 43 42,Yv 2 43]))))))⟩
theorem ok_c_Z3d:Qao prog 87 c_Z3d=true:=Qac func87 X0k
def s_Z3d (M:Mach) (a0:V) (U:Objs):Ro:=Uaz a0 U fun p0=> Uc7 p0.1 fun x1=> Uac x1 p0.2 fun x2=> Uam x2 fun x3=> Ub7 x3 0 fun x4=> Uas x4 p0.1 0 fun x5=> Uag x4 x5 p0.2 fun x6=> Ub9 x4 x3 fun x7=> bd (gdv x4.ng false (pu (eB .sub .no x7.ng (.int .i64 1)))) fun x8=> Ubp x4 x8 x6 2 fun x9=> Uas x4 x9 1 fun x10=> Uag x4 x10 p0.2 fun x11=> Ua5 x4 x11 fun x12=> Ua4 x4 x12 0 fun x13=> Uad x4 x13 fun x14=> br x14.ng (bd (oK false (.str [])) (nK U.length p0.2)) (Uc7 p0.1 fun x15=> Uac x15 p0.2 fun x16=> Uer x3 fun x17=> Ubm x17 x16 2 fun x18=> Udu x18 fun x19=> Uac x19 p0.2 fun x20=> Uc7 p0.1 fun x21=> Uac x21 p0.2 fun x22=> Uer x3 fun x23=> Ubm x23 x22 2 fun x24=> Udu x24 fun x25=> Uac x25 p0.2 fun x26=> Uam x26 fun x27=> Ubz x27 1 fun x28=> Ubm x28 x20 11 fun x29=> Uaq x29 p0.2 11 fun x30=>
 let s31:Objs:=p0.2++[.cells [(.int .i64 0),(.int .i64 0),(.str []),(.str []),(.int .i64 0),(.str []),(.bool false),(.int .i64 0),(.int .i64 0),(.int .i64 0),.nils]]
 Uao x30 s31 p0.2 11 0 fun p32=> Ubs p0.2 fun x33=> Uac x33 p32.2 fun x34=> Ucv x34 13 fun x35=> br x35.ng (bd (oK false (.str [])) (nK U.length p32.2)) (Ubq p0.2 3 0 fun x36=> Uac x36 p32.2 fun x37=> bd (oK false x37.ng) (nK U.length p32.2)))
theorem k_Z3d:fnK M c_Z3d [a0] U=s_Z3d M a0 U:=X0k
def c_Zv:Ev.Fn:=⟨144,[.cell 4 true 3],false,false,(Yq 0 [Vby 3,Vau 4] (Yj (Yq 1 [Vdg 11 3,Vah 12 11,Vai 13 12 1,Yv 14 13,Vaq 15 14 0 3,Vae 16 14 15,Vao 17 14 16 2,Vap 18 14 17] (Ym 18 2 [Vbp 19,Ya 20 3 3,Vah 21 20,Vd3 22 3,Vah 23 22,Ya 24 2 3,Vah 25 24,Yc 26 110 [19,21,23,25],Var 3 4 26])) (Yj (Yq 3 [Vdg 27 3,Vah 28 27,Vai 29 28 3] (Yz 29 (Yq 4 [Vbp 30,Ya 31 3 3,Vah 32 31,Yc 33 111 [30,(Ys [99,108,97,115,115]),(Yi 3),32],Var 3 4 33] .ret) .skip)) (Yj (Yq 5 [Vdg 34 3,Vah 35 34,Vai 36 35 4] (Yz 36 (Yq 6 [Vbp 37,Ya 38 3 3,Vah 39 38,Yc 40 111 [37,(Ys [105,100]),(Yi 2),39],Var 3 4 40] .ret) .skip)) (Yj (Yq 7 [Vdg 41 3,Vah 42 41,Vai 43 42 5] (Yz 43 (Yq 8 [Vbp 45,Vd3 46 3,Vah 47 46,Ya 48 2 3,Vah 49 48,Yc 50 112 [45,47,49,Yt],Yv 44 50,Vex 51 44,Vey 52 44,Yv 5 51,Yv 6 52] (Yr 9 [Vbp 53,Yv 54 5,Yv 55 6,Ya 56 3 3,Vah 57 56,Ya 58 4 3,Va7 59 3 58,Yk 60 (.build [Y0,Yb,Yn,Yn,Y0,Yn,Yb] [(0,1,(Yi 2)),(1,1,54),(2,1,55),(3,1,57),(4,3,59)]),Vbo 61 113 53 60,Var 3 4 61])) .skip)) (Yj (Yq 10 [Vdg 62 3,Vah 63 62,Vai 64 63 11] (Ym 64 11 [Vbp 65,Ya 66 3 3,Vah 67 66,Vef 68 0 1 3 3 1 67,Vbo 69 113 65 68,Var 3 4 69])) (Yj (Yq 12 [Vdg 70 3,Vah 71 70,Vai 72 71 6] (Ym 72 13 [Vbs 73 6,Var 3 4 73])) (Yj (Yq 14 [Vdg 74 3,Vah 75 74,Vai 76 75 8,Yv 77 76,Vaq 78 77 0 3,Vae 79 77 78,Vao 80 77 79 9,Vap 81 77 80] (Ym 81 15 [Vbp 82,Ya 83 10 3,Vah 84 83,Vbo 85 114 82 84,Var 3 4 85])) (Yj (Yq 16 [Vdg 86 3,Vah 87 86,Vai 88 87 10] (Ym 88 17 [Vbp 89,Ya 90 10 3,Vah 91 90,Vbo 92 114 89 91,Vc9 93 115 92,Var 3 4 93])) (Yj (Yq 18 [Vdg 94 3,Vah 95 94,Vai 96 95 7] (Yz 96 (Yj (.drw 19 [⟨Ya 97 8 3,0,[]⟩,⟨Yl 98 true 2 97,1,[]⟩,⟨Yv 99 0,2,[]⟩,⟨Ya 100 10 3,3,[]⟩,⟨Yl 101 false 1 100,4,[]⟩,⟨Yk 7 (.alloc [Y0,Y0,.nils]),7,[]⟩,⟨Yc 102 41 [99,101],5,[1,5]⟩,⟨Yk 103 (.build [Y0,Y0,.nils] [(0,2,98),(2,1,102)]),6,[]⟩,⟨Yw 3 7 103 false,8,[]⟩]) (Yj (.drw 20 [⟨Yv 104 0,0,[]⟩,⟨Yv 105 0,1,[]⟩,⟨Yk 106 (.nilc 105),2,[]⟩,⟨Ya 107 4 106,3,[]⟩,⟨Ya 108 2 107,4,[]⟩,⟨Yk 109 (.loadT 108),5,[]⟩,⟨Yl 110 true 3 7,6,[]⟩,⟨Yk 111 (.buildSl true 3 1 (.agg [Y0,Y0,.nils]) [(0,110)] false),7,[]⟩,⟨Yk 112 (.app false true 3 40 109 111 true),8,[]⟩,⟨Yk 113 (.nilc 104),9,[]⟩,⟨Ya 114 4 113,10,[]⟩,⟨Ya 115 2 114,11,[]⟩,⟨Yw 1 115 112 true,12,[]⟩]) (Yr 21 [Vbp 116,Vbn 117 116,Ya 118 4 117,Ya 119 2 118,Vah 120 119,Yh 121 120,Vcb 122 121,Vce 123 0 1 5 1 1 122,Var 3 4 123]))) .skip)) (Yj (Yq 22 [Vdg 124 3,Vah 125 124,Vai 126 125 12] (Yz 126 (Yq 23 [Vbp 127,Yc 128 110 [127,(Ys [97]),(Yi 0),(Ys [])],Vau 8,Var 3 8 128] (Yq 24 [Vbp 129,Yc 130 110 [129,(Ys [97,114,101,97]),(Yi 0),(Ys [])],Vau 9,Var 3 9 130] (Yq 25 [Vbp 131,Ve2 132 111 131 104 114 101 102,Vau 10,Var 3 10 132] (Yj (.drw 26 [⟨Yl 133 true 3 8,0,[]⟩,⟨Yl 134 true 3 9,1,[]⟩,⟨Yk 135 (.buildSl true 3 2 (.agg [Y0,Y0,.nils]) [(0,133),(1,134)] false),2,[]⟩,⟨Yk 136 (.build [Y0,Y0,.nils] [(0,1,(Yi 4)),(2,1,135)]),3,[]⟩,⟨Yl 138 true 3 10,5,[]⟩,⟨Yc 137 115 [136],4,[4]⟩,⟨Yc 139 115 [138],6,[]⟩,⟨Yk 140 (.buildSl true 3 2 (.agg [Y0,Y0,.nils]) [(0,137),(1,139)] false),7,[]⟩,⟨Yk 141 (.build [Y0,Y0,.nils] [(0,1,(Yi 4)),(2,1,140)]),8,[]⟩,⟨Yc 142 115 [141],9,[]⟩,⟨Yw 3 4 142 false,10,[]⟩]) .ret)))) .skip)) (Yr 27 [Vbs 143 7,Var 3 4 143]))))))))))))⟩
theorem ok_c_Zv:Qao prog 88 c_Zv=true:=Qac func88 X0k
def s_Zv:=Uaz a1 U fun p0=>
 let s1:Objs:=p0.2++[.cells [(.int .i64 0),(.int .i64 0),.nils]]
 Uc7 p0.1 fun x2=> Uac x2 s1 fun x3=> Uai x3 1 fun x4=> Uas x4 p0.1 0 fun x5=> Uag x4 x5 s1 fun x6=> Ua4 x4 x6 2 fun x7=> Uad x4 x7 fun x8=> br x8.ng (Uaf p0.1 3 fun x9=> Uac x9 s1 fun x10=> Udu p0.1 fun x11=> Uac x11 s1 fun x12=> Uaf p0.1 2 fun x13=> Uac x13 s1 fun x14=> bd (M.call 110 [a0.ng.ng,x10.ng,x12.ng,x14.ng] s1) fun p15=> Ud4 p15.1 p15.2 p0.2 fun p16=> Uba p16.2 p0.2 fun x17=> bd (oK false x17) (nK U.length p16.2)) (Uc7 p0.1 fun x18=> Uac x18 s1 fun x19=> Uai x19 3 fun x20=> br x20.ng (Uaf p0.1 3 fun x21=> Uac x21 s1 fun x22=> bd (M.call 111 [a0.ng.ng,(.str [99,108,97,115,115]),(.int .i64 3),x22.ng] s1) fun p23=> Ud4 p23.1 p23.2 p0.2 fun p24=> Uba p24.2 p0.2 fun x25=> bd (oK false x25) (nK U.length p24.2)) (Uc7 p0.1 fun x26=> Uac x26 s1 fun x27=> Uai x27 4 fun x28=> br x28.ng (Uaf p0.1 3 fun x29=> Uac x29 s1 fun x30=> bd (M.call 111 [a0.ng.ng,(.str [105,100]),(.int .i64 2),x30.ng] s1) fun p31=> Ud4 p31.1 p31.2 p0.2 fun p32=> Uba p32.2 p0.2 fun x33=> bd (oK false x33) (nK U.length p32.2)) (Uc7 p0.1 fun x34=> Uac x34 s1 fun x35=> Uai x35 5 fun x36=> br x36.ng (Udu p0.1 fun x37=> Uac x37 s1 fun x38=> Uaf p0.1 2 fun x39=> Uac x39 s1 fun x40=> bd (M.call 112 [a0.ng.ng,x38.ng,x40.ng,(.bool true)] s1) fun p41=> Ubk p41.1 0 fun x42=> Ubk p41.1 1 fun x43=> Uaf p0.1 3 fun x44=> Uac x44 p41.2 fun x45=> Uen p0.1 fun x46=> Uaq x46 p41.2 3 fun x47=> bd (pu (Qaw [(.int .i64 0),(.bool false),(.str []),(.str []),(.int .i64 0),(.str []),(.bool false)] [(0,1,(.int .i64 2)),(1,1,x42.ng.ng.ng),(2,1,x43.ng.ng.ng),(3,1,x45.ng),(4,3,x47.ng)])) fun x48=> Ubj a0 x48 p41.2 113 M fun p49=> Ud4 p49.1 p49.2 p0.2 fun p50=> Uba p50.2 p0.2 fun x51=> bd (oK false x51) (nK U.length p50.2)) (Uc7 p0.1 fun x52=> Uac x52 s1 fun x53=> Uai x53 11 fun x54=> br x54.ng (Uaf p0.1 3 fun x55=> Uac x55 s1 fun x56=> Uco x56 0 1 3 0 3 fun x57=> Ubj a0 x57 s1 113 M fun p58=> Ud4 p58.1 p58.2 p0.2 fun p59=> Uba p59.2 p0.2 fun x60=> bd (oK false x60) (nK U.length p59.2)) (Uc7 p0.1 fun x61=> Uac x61 s1 fun x62=> Uai x62 6 fun x63=> br x63.ng (Ub2 0 1 0 6 fun x64=> Ud4 x64 s1 p0.2 fun p65=> Uba p65.2 p0.2 fun x66=> bd (oK false x66) (nK U.length p65.2)) (Uc7 p0.1 fun x67=> Uac x67 s1 fun x68=> Uai x68 8 fun x69=> Uas x69 p0.1 0 fun x70=> Uag x69 x70 s1 fun x71=> Ua4 x69 x71 9 fun x72=> Uad x69 x72 fun x73=> br x73.ng (Uaf p0.1 10 fun x74=> Uac x74 s1 fun x75=> Ubj a0 x75 s1 114 M fun p76=> Ud4 p76.1 p76.2 p0.2 fun p77=> Uba p77.2 p0.2 fun x78=> bd (oK false x78) (nK U.length p77.2)) (Uc7 p0.1 fun x79=> Uac x79 s1 fun x80=> Uai x80 10 fun x81=> br x81.ng (Uaf p0.1 10 fun x82=> Uac x82 s1 fun x83=> Ubj a0 x83 s1 114 M fun p84=> Ubr p84.1 p84.2 115 M fun p85=> Ud4 p85.1 p85.2 p0.2 fun p86=> Uba p86.2 p0.2 fun x87=> bd (oK false x87) (nK U.length p86.2)) (Uc7 p0.1 fun x88=> Uac x88 s1 fun x89=> Uai x89 7 fun x90=> br x90.ng (Uaf p0.1 8 fun x91=> Uaq x91 s1 2 fun x92=> Uaf p0.1 10 fun x93=> Uac x93 s1 fun x94=>
 let s95:Objs:=s1++[.cells [(.int .i64 0),(.int .i64 0),.nils]]
 bd (Qgd [Qcn true 2 x91.ng,.made s1.length] s95) fun s96=> Ubj a0 x94 s96 41 M fun p98=> bd (Qei [Qcn true 2 x91.ng,.made s1.length] s95 p98.2) fun s97=> bd (pu (Qaw [(.int .i64 0),(.int .i64 0),.nils] [(0,2,x92.ng),(2,1,p98.1.ng)])) fun x99=> Ud4 x99 s97 s1 fun p100=> Uat a0 fun x101=> Uen x101 fun x102=> Uaf x102 2 fun x103=> Ucu x103 p100.2 fun p104=> Ub1 p104.2 s1 3 0 fun x105=> Ubo x105 fun x106=> Ucr p104.1 x106 p104.2 3 40 fun x107=> Uat a0 fun x108=> Uen x108 fun x109=> Uaf x109 2 fun x110=> Uct x110 x107 p104.2 fun p111=> Uat a0 fun x112=> Uen x112 fun x113=> Uaf x113 2 fun x114=> Uac x114 p111.2 fun x115=> Uam x115 fun x116=> Ubz x116 1 fun x117=> Ucs x117 0 1 0 5 fun x118=> Ud4 x118 p111.2 p0.2 fun p119=> Uba p119.2 p0.2 fun x120=> bd (oK false x120) (nK U.length p119.2)) (Uc7 p0.1 fun x121=> Uac x121 s1 fun x122=> Uai x122 12 fun x123=> br x123.ng (bd (M.call 110 [a0.ng.ng,(.str [97]),(.int .i64 0),(.str [])] s1) fun p124=>
 let s125:Objs:=p124.2++[.cells [(.int .i64 0),(.int .i64 0),.nils]]
 Ud4 p124.1 s125 p124.2 fun p126=> bd (M.call 110 [a0.ng.ng,(.str [97,114,101,97]),(.int .i64 0),(.str [])] p126.2) fun p127=>
 let s128:Objs:=p127.2++[.cells [(.int .i64 0),(.int .i64 0),.nils]]
 Ud4 p127.1 s128 p127.2 fun p129=> bd (M.call 111 [a0.ng.ng,(.str [104,114,101,102]),(.int .i64 1),(.str [])] p129.2) fun p130=>
 let s131:Objs:=p130.2++[.cells [(.int .i64 0),(.int .i64 0),.nils]]
 Ud4 p130.1 s131 p130.2 fun p132=> Ub1 p132.2 p124.2 3 0 fun x133=> Ub1 p132.2 p127.2 3 0 fun x134=> Ucp x133 x134 fun x135=> Ucg x135 0 1 2 0 4 fun x136=> Ub1 p132.2 p130.2 3 0 fun x137=> bd (Qgd [Qcn true 3 (.ptr p130.2.length 0)] p132.2) fun s138=> Ubr x136 s138 115 M fun p140=> bd (Qei [Qcn true 3 (.ptr p130.2.length 0)] p132.2 p140.2) fun s139=> Ubr x137 s139 115 M fun p141=> Ucp p140.1 p141.1 fun x142=> Ucg x142 0 1 2 0 4 fun x143=> Ubr x143 p141.2 115 M fun p144=> Ud4 p144.1 p144.2 p0.2 fun p145=> Uba p145.2 p0.2 fun x146=> bd (oK false x146) (nK U.length p145.2)) (Ub2 0 1 0 7 fun x147=> Ud4 x147 s1 p0.2 fun p148=> Uba p148.2 p0.2 fun x149=> bd (oK false x149) (nK U.length p148.2)))))))))))
theorem k_Zv:fnK M c_Zv [a0,a1] U=s_Zv M a0 a1 U:=X0k
def c_Z1f:Ev.Fn:=⟨12,[.tmp 4],false,false,(Yq 0 [Vaw 4] (Yj (.block 0 (.loop [0,1] [0,4] (Yj (Yq 1 [Vcj 5,Vb0 6 5 0] (Yz 6 .skip (.exit 0))) (.block 1 (.drw 2 [⟨Yv 7 1,0,[]⟩,⟨Yv 8 0,1,[]⟩,⟨Yv 9 1,2,[]⟩,⟨Yo 10 .rem .no 8 9,3,[]⟩,⟨Yv 0 7,4,[]⟩,⟨Yv 1 10,5,[]⟩]))))) (Yr 3 [Vbp 11,Yv 4 11])))⟩
theorem ok_c_Z1f:Qao prog 89 c_Z1f=true:=Qac func89 X0k
def b_Z1f_0 (M:Mach) (n0:Nat) (n1:Nat) (r1:Rk) (z0 z1:V) (U:Objs):Ro:=bd (pu (eB .gtr .no z1.ng.ng (.int .i64 0))) fun x0=> br x0.ng (Uej z0 z1 fun x1=> UF n1 U [z1.ng.ng,x1.ng] r1) (Uae z0 U n1 fun y5=> Uar U n1 fun y6=> Uay U n1 fun s7=> bd (oK false y5.ng.ng) (nK n0 s7))
def l_Z1f_0:=M.fx (X0Lc (b_Z1f_0 M n0 n1))
def s_Z1f:=Uaa a0 U fun y8=> Uaa a1 U fun y9=> l_Z1f_0 M U.length U.length [y8,y9] U
theorem k_Z1f:fnK M c_Z1f [a0,a1] U=s_Z1f M a0 a1 U:=X0k
def c_Z2e:Ev.Fn:=⟨17,[.tmp 2],false,false,(Yq 0 [Vbf 2] (Yr 1 [Vbp 3,Vcx 4 3 0,Yv 5 4,Vab 6 5,Vb1 7 5 6 1114112,Vag 8 5 7,Yv 9 8,Vab 10 9,Vb1 11 9 10 55296,Vaa 12 9 11,Vac 13 12 0,Vav 14 12 13 57343,Va0 15 9 12 14,Vag 16 9 15,Yv 2 16]))⟩
theorem ok_c_Z2e:Qao prog 95 c_Z2e=true:=Qac func95 X0k
def s_Z2e (M:Mach) (a0:V) (U:Objs):Ro:=bd (pu (eB .geq .no a0.ng.ng (.int .i64 0))) fun x0=> Uak x0 a0 fun x1=> Ucy x0 x1 1114112 fun x2=> Uab x0 x2 fun x3=> Uak x3 a0 fun x4=> Ucy x3 x4 55296 fun x5=> Uak x3 x5 fun x6=> bd (gdv x6 false (some a0.ng)) fun x7=> bd (gdv x6 false (pu (eB .gtr .no x7.ng (.int .i64 57343)))) fun x8=> Ua8 x3 x6 x8 fun x9=> Uab x3 x9 fun x10=> bd (oK false x10.ng) (nK U.length U)
theorem k_Z2e:fnK M c_Z2e [a0] U=s_Z2e M a0 U:=X0k
def c_Z2t:Ev.Fn:=⟨192,[.cell 4 true 6],false,false,(Yq 0 [Vbc 4] (Yj (Yq 1 [Vcj 15,Vck 16 15 0] (Yz 16 (Ys1 2 [Vaw 1]) .skip)) (Yj (Yq 3 [Vcj 17,Vbp 18,Yh 19 18,Vdo 20 17 19] (Yz 20 (Ys1 4 [Vbp 21,Yh 22 21,Yv 1 22]) .skip)) (Yq 5 [Vbp 23,Vcj 24,Vbo 25 118 23 24,Yv 5 25] (Yj (Yq 6 [Yv 26 5,Vbp 27,Yh 28 27,Yo 29 .geq .no 26 28] (Ym 29 7 [Vbp 30,Yh 31 30,Vez 32,Yh 33 32,Vdq 34 0 1 0 1 1 31 2 1 33,Var 6 4 34])) (Yq 8 [Vbp 35,Yv 36 5,Vet 37 35 36,Vah 38 37,Yv 6 38] (Yj (Yq 9 [Yv 39 6,Vc9 40 119 39] (Yz 40 (Yq 10 [Yv 41 5,Yv 7 41] (Yj (.block 0 (.loop [0,4,5,7] [4,5,7] (Yj (Yq 11 [Vbp 42,Yv 43 7,Vbo 44 120 42 43] (Yz 44 .skip (.exit 0))) (.block 1 (Ys1 12 [Yv 45 7,Vaf 46 45,Yv 7 46]))))) (Yr 13 [Yv 47 5,Yv 48 7,Vdq 49 0 1 13 1 1 47 2 1 48,Var 6 4 49]))) .skip)) (Yj (Yq 14 [Yv 50 6,Vai 51 50 34,Yv 52 51,Vac 53 52 6,Vao 54 52 53 39,Vap 55 52 54] (Ym 55 15 [Vez 56,Yv 57 5,Vbo 58 121 56 57,Var 6 4 58])) (Yj (Yq 16 [Vbp 59,Yv 60 5,Vbo 61 122 59 60] (Ym 61 17 [Vez 62,Yv 63 5,Vbo 64 123 62 63,Var 6 4 64])) (Yj (Yq 18 [Yv 65 6,Vai 66 65 45,Yv 67 66,Vab 68 67,Vaa 69 67 5,Va1 70 67 69,Vay 71 67 124 68 70 45,Vag 72 67 71,Yv 73 72,Vab 74 73,Vaa 75 73 5,Vc1 76 73 75 2,Vay 77 73 124 74 76 62,Vag 78 73 77] (Ym 78 19 [Yv 79 5,Yv 80 5,Vb5 81 80 3,Vdq 82 0 1 15 1 1 79 2 1 81,Var 6 4 82])) (Yj (Yq 20 [Vbp 83,Yv 84 5,Vbo 85 125 83 84] (Ym 85 21 [Vez 86,Yv 87 5,Vbo 88 126 86 87,Var 6 4 88])) (Yj (Yq 22 [Yv 89 6,Vai 90 89 60,Yv 91 90,Vab 92 91,Vaa 93 91 5,Va1 94 91 93,Vay 95 91 124 92 94 33,Vag 96 91 95,Yv 97 96,Vab 98 97,Vaa 99 97 5,Vc1 100 97 99 2,Vay 101 97 124 98 100 45,Vag 102 97 101,Yv 103 102,Vab 104 103,Vaa 105 103 5,Vc1 106 103 105 3,Vay 107 103 124 104 106 45,Vag 108 103 107] (Ym 108 23 [Yv 109 5,Yv 110 5,Vb5 111 110 4,Vdq 112 0 1 14 1 1 109 2 1 111,Var 6 4 112])) (Yj (Yq 24 [Yv 113 6,Vai 114 113 64,Yv 115 114,Vab 116 115,Vaa 117 115 5,Va1 118 115 117,Va4 119 115 125 116 118,Vag 120 115 119] (Yz 120 (Yq 25 [Vez 122,Yv 123 5,Vaf 124 123,Vbo 125 127 122 124,Yv 121 125,Vex 126 121,Vey 127 121,Yv 8 126,Yv 9 127] (Yr 26 [Yv 128 5,Yv 129 9,Yv 130 8,Vdn 131 0 1 3 1 1 128 2 1 129 3 1 130,Var 6 4 131])) .skip)) (Yj (Yq 27 [Yv 132 6,Vai 133 132 35,Yv 134 133,Vab 135 134,Vaa 136 134 5,Va1 137 134 136,Va4 138 134 128 135 137,Vaa 139 134 138,Vac 140 139 0,Vac 141 139 5,Vcv 142 139 141,Vbb 143 139 129 140 142,Va0 144 134 139 143,Vag 145 134 144] (Yz 145 (Yq 28 [Vbp 147,Yv 148 5,Vaf 149 148,Vbo 150 127 147 149,Yv 146 150,Vex 151 146,Vey 152 146,Yv 10 151,Yv 11 152] (Yr 29 [Yv 153 5,Yv 154 11,Yv 155 10,Vez 156,Yv 157 5,Vaf 158 157,Vbo 159 125 156 158,Yk 160 (.build [Y0,Y0,Y0,Yn,Yn,Yb] [(0,1,(Yi 4)),(1,1,153),(2,1,154),(3,1,155),(5,1,159)]),Var 6 4 160])) .skip)) (Yq 30 [Yk 161 (.buildSl false 1 9 Y0 [(0,(Yi 21)),(1,(Yi 22)),(2,(Yi 19)),(3,(Yi 20)),(4,(Yi 23)),(5,(Yi 24)),(6,(Yi 18)),(7,(Yi 16)),(8,(Yi 17))] false),Yv 12 (Ys [40,41,91,93,123,125,44,58,59]),Yu 13 161] (Yj (Yq 31 [Vaw 14] (.block 2 (.loop [0,4,5,6,12,13,14] [0,4,5] (Yj (Yq 32 [Yv 162 14,Yv 163 12,Vec 164 163,Vat 165 162 164] (Yz 165 .skip (.exit 2))) (Yj (.block 3 (Yq 34 [Yv 168 12,Yv 169 14,Yk 170 (.idx 168 169),Vcs 171 170,Yv 172 6,Vcm 173 171 172] (Ym 173 35 [Yu 174 13,Yv 175 14,Vet 176 174 175,Vah 177 176,Yv 178 5,Yv 179 5,Vaf 180 179,Yk 181 (.build [Y0,Y0,Y0,Yn,Yn,Yb] [(0,1,177),(1,1,178),(2,1,180)]),Var 6 4 181]))) (Ys1 33 [Yv 166 14,Vaf 167 166,Yv 14 167])))))) (Yr 36 [Yv 182 5,Yv 183 5,Vaf 184 183,Vez 185,Yv 186 5,Yv 187 5,Vaf 188 187,Vdr 189 185 186 188,Vc9 190 130 189,Vdn 191 0 1 9 1 1 182 2 1 184 3 1 190,Var 6 4 191])))))))))))))))))⟩
theorem ok_c_Z2t:Qao prog 94 c_Z2t=true:=Qac func94 X0k
def b_Z2t_0:=bd (M.call 120 [z0.ng.ng,z7.ng.ng] U) fun p12=> br p12.1.ng (Uap z7 fun x13=> UF n1 p12.2 [z0,z4,z5,x13.ng] r1) (Uae z4 p12.2 n1 fun y19=> Uae z5 p12.2 n1 fun y20=> Uae z7 p12.2 n1 fun y21=> Uay p12.2 n1 fun s22=> bd (pu (Qaw [(.int .i64 0),(.int .i64 0),(.int .i64 0),(.str []),(.str []),(.bool false)] [(0,1,(.int .i64 13)),(1,1,y20.ng.ng),(2,1,y21.ng.ng)])) fun x23=> Ua3 y19 x23 s22 6 fun p24=> Ub4 y19 p24.2 6 fun x25=> bd (oK false x25) (nK n0 p24.2))
def l_Z2t_0:=M.fx (X0Le (b_Z2t_0 M n0 n1))
def b_Z2t_1:=bd (pu (Qfw z12.ng.ng)) fun x115=> Ual z14 x115 fun x116=> br x116.ng (bd (pu (Qm3 z14.ng.ng z12.ng.ng)) fun x117=> Uc0 x117 U fun x118=> Udn x118 z6 fun x119=> br x119.ng (Ube z14 z13 1 fun x120=> Uac x120 U fun x121=> Uap z5 fun x122=> bd (pu (Qaw [(.int .i64 0),(.int .i64 0),(.int .i64 0),(.str []),(.str []),(.bool false)] [(0,1,x121.ng),(1,1,z5.ng.ng),(2,1,x122.ng)])) fun x123=> Ua3 z4 x123 U 6 fun p124=> Uae z0 p124.2 n1 fun y125=> Uae z4 p124.2 n1 fun y126=> Uae z5 p124.2 n1 fun y127=> Uay p124.2 n1 fun s128=> Ub4 y126 s128 6 fun x129=> bd (oK false x129) (nK n0 s128)) (Uap z14 fun x130=> UF n1 U [z0,z4,z5,z6,z12,z13,x130.ng] r1)) (Uae z0 U n1 fun y139=> Uae z4 U n1 fun y140=> Uae z5 U n1 fun y141=> Uay U n1 fun s142=> Uap y141 fun x143=> Uap y141 fun x144=> bd (pu (Qbm 1 y139.ng (some y141.ng.ng) (some x144.ng) none)) fun x145=> Ubr x145 s142 130 M fun p146=> bd (pu (Qaw [(.int .i64 0),(.int .i64 0),(.int .i64 0),(.str []),(.str []),(.bool false)] [(0,1,(.int .i64 9)),(1,1,y141.ng.ng),(2,1,x143.ng),(3,1,p146.1.ng)])) fun x147=> Ua3 y140 x147 p146.2 6 fun p148=> Ub4 y140 p148.2 6 fun x149=> bd (oK false x149) (nK n0 p148.2))
def l_Z2t_1:=M.fx (X0Lh (b_Z2t_1 M n0 n1))
def j_Z2t_1:=bd (M.call 118 [z0.ng.ng,z1.ng.ng] U) fun p1=> Uau z0 fun x2=> Uek p1.1 x2 fun x3=> br x3.ng (Uau z0 fun x4=> Uam z0 fun x5=> bd (pu (Qaw [(.int .i64 0),(.int .i64 0),(.int .i64 0),(.str []),(.str []),(.bool false)] [(0,1,(.int .i64 0)),(1,1,x4.ng),(2,1,x5.ng)])) fun x6=> Ua3 z4 x6 p1.2 6 fun p7=> Ub4 z4 p7.2 6 fun x8=> bd (oK false x8) (nK n0 p7.2)) (bd (pu (eI 1 p1.1.ng.ng.ng z0.ng.ng)) fun x9=> Uac x9 p1.2 fun x10=> bd (M.call 119 [x10.ng.ng.ng] p1.2) fun p11=> br p11.1.ng (Uaa z0 p11.2 fun y26=> Uaa z4 p11.2 fun y27=> Ua2 p1.1 p11.2 fun y28=> bd (fz p11.2.length p11.2 fzD p1.1.ng.ng.ng) fun y29=> l_Z2t_0 M n0 p11.2.length [y26,y27,y28,y29] p11.2) (Ub7 x10 34 fun x30=> Ub9 x30 x10 fun x31=> Ua4 x30 x31 39 fun x32=> Uad x30 x32 fun x33=> br x33.ng (bd (M.call 121 [z0.ng,p1.1.ng.ng.ng] p11.2) fun p34=> Ua3 z4 p34.1 p34.2 6 fun p35=> Ub4 z4 p35.2 6 fun x36=> bd (oK false x36) (nK n0 p35.2)) (bd (M.call 122 [z0.ng.ng,p1.1.ng.ng.ng] p11.2) fun p37=> br p37.1.ng (bd (M.call 123 [z0.ng,p1.1.ng.ng.ng] p37.2) fun p38=> Ua3 z4 p38.1 p38.2 6 fun p39=> Ub4 z4 p39.2 6 fun x40=> bd (oK false x40) (nK n0 p39.2)) (Ub7 x10 45 fun x41=> Uak x41 z0 fun x42=> Uan x41 p1.1 fun x43=> Uce x41 x43 1 fun x44=> Uda x41 x42 x44 p37.2 124 45 M fun p45=> Uab x41 p45.1 fun x46=> Uak x46 z0 fun x47=> Uan x46 p1.1 fun x48=> Uce x46 x48 2 fun x49=> Uda x46 x47 x49 p45.2 124 62 M fun p50=> Uab x46 p50.1 fun x51=> br x51.ng (Ude p1.1 3 fun x52=> Ued p1.1 x52 0 1 2 0 15 fun x53=> Ua3 z4 x53 p50.2 6 fun p54=> Ub4 z4 p54.2 6 fun x55=> bd (oK false x55) (nK n0 p54.2)) (bd (M.call 125 [z0.ng.ng,p1.1.ng.ng.ng] p50.2) fun p56=> br p56.1.ng (bd (M.call 126 [z0.ng,p1.1.ng.ng.ng] p56.2) fun p57=> Ua3 z4 p57.1 p57.2 6 fun p58=> Ub4 z4 p58.2 6 fun x59=> bd (oK false x59) (nK n0 p58.2)) (Ub7 x10 60 fun x60=> Uak x60 z0 fun x61=> Uan x60 p1.1 fun x62=> Uce x60 x62 1 fun x63=> Uda x60 x61 x63 p56.2 124 33 M fun p64=> Uab x60 p64.1 fun x65=> Uak x65 z0 fun x66=> Uan x65 p1.1 fun x67=> Uce x65 x67 2 fun x68=> Uda x65 x66 x68 p64.2 124 45 M fun p69=> Uab x65 p69.1 fun x70=> Uak x70 z0 fun x71=> Uan x70 p1.1 fun x72=> Uce x70 x72 3 fun x73=> Uda x70 x71 x73 p69.2 124 45 M fun p74=> Uab x70 p74.1 fun x75=> br x75.ng (Ude p1.1 4 fun x76=> Ued p1.1 x76 0 1 2 0 14 fun x77=> Ua3 z4 x77 p74.2 6 fun p78=> Ub4 z4 p78.2 6 fun x79=> bd (oK false x79) (nK n0 p78.2)) (Ub7 x10 64 fun x80=> Uak x80 z0 fun x81=> Uan x80 p1.1 fun x82=> Uce x80 x82 1 fun x83=> Uci x80 x81 x83 p74.2 125 M fun p84=> Uab x80 p84.1 fun x85=> br x85.ng (Ude p1.1 1 fun x86=> Ucn z0 x86 p84.2 127 M fun p87=> Ubk p87.1 0 fun x88=> Ubk p87.1 1 fun x89=> bd (pu (Qaw [(.int .i64 0),(.int .i64 0),(.int .i64 0),(.str []),(.str []),(.bool false)] [(0,1,(.int .i64 3)),(1,1,p1.1.ng.ng.ng),(2,1,x89.ng.ng.ng),(3,1,x88.ng.ng.ng)])) fun x90=> Ua3 z4 x90 p87.2 6 fun p91=> Ub4 z4 p91.2 6 fun x92=> bd (oK false x92) (nK n0 p91.2)) (Ub7 x10 35 fun x93=> Uak x93 z0 fun x94=> Uan x93 p1.1 fun x95=> Uce x93 x95 1 fun x96=> Uci x93 x94 x96 p84.2 128 M fun p97=> Uak x93 p97.1 fun x98=> bd (gdv x98 false (some z0.ng)) fun x99=> bd (gdv x98 false (some p1.1.ng.ng)) fun x100=> bd (gdv x98 false (pu (eB .add .no x100.ng (.int .i64 1)))) fun x101=> bd (gdp x98 false (M.call 129 [x99.ng,x101.ng] p97.2) p97.2) fun p102=> Ua8 x93 x98 p102.1 fun x103=> Uab x93 x103 fun x104=> br x104.ng (Ude p1.1 1 fun x105=> Ubj z0 x105 p102.2 127 M fun p106=> Ubk p106.1 0 fun x107=> Ubk p106.1 1 fun x108=> Ude p1.1 1 fun x109=> Ucn z0 x109 p106.2 125 M fun p110=> bd (pu (Qaw [(.int .i64 0),(.int .i64 0),(.int .i64 0),(.str []),(.str []),(.bool false)] [(0,1,(.int .i64 4)),(1,1,p1.1.ng.ng.ng),(2,1,x108.ng.ng.ng),(3,1,x107.ng.ng.ng),(5,1,p110.1.ng)])) fun x111=> Ua3 z4 x111 p110.2 6 fun p112=> Ub4 z4 p112.2 6 fun x113=> bd (oK false x113) (nK n0 p112.2)) (bd (Qam false 1 9 (.int .i64 0) [(0,(.int .i64 21)),(1,(.int .i64 22)),(2,(.int .i64 19)),(3,(.int .i64 20)),(4,(.int .i64 23)),(5,(.int .i64 24)),(6,(.int .i64 18)),(7,(.int .i64 16)),(8,(.int .i64 17))]) fun x114=> Uaa z0 p102.2 fun y150=> Uaa z4 p102.2 fun y151=> Ua2 p1.1 p102.2 fun y152=> Ua2 x10 p102.2 fun y153=> bd (fz p102.2.length p102.2 fzD (.str [40,41,91,93,123,125,44,58,59])) fun y154=> Uaa x114 p102.2 fun y155=> Ud2 p102.2 fun y156=> l_Z2t_1 M n0 p102.2.length [y150,y151,y152,y153,y154,y155,y156] p102.2)))))))))
def j_Z2t_0:=Uau z0 fun x157=> Udo z1 x157 fun x158=> br x158.ng (Uau z0 fun x159=> j_Z2t_1 M n0 z0 x159.ng z4 U) (j_Z2t_1 M n0 z0 z1 z4 U)
def s_Z2t:=
 let s0:Objs:=U++[.cells [(.int .i64 0),(.int .i64 0),(.int .i64 0),(.str []),(.str []),(.bool false)]]
 Uc3 a1 0 fun x160=> br x160.ng (j_Z2t_0 M U.length a0 (.int .i64 0) (.ptr U.length 0) s0) (j_Z2t_0 M U.length a0 a1 (.ptr U.length 0) s0)
theorem k_Z2t:fnK M c_Z2t [a0,a1] U=s_Z2t M a0 a1 U:=X0k
def c_Za:Ev.Fn:=⟨13,[.tmp 4],false,false,(Yq 0 [Vaw 4] (Yj (.block 0 (.loop [0,1] [1,4] (Yj (Yq 1 [Vbp 5,Vcj 6,Vbo 7 92 5 6,Vd6 8 7,Vai 9 8 13] (Yz 9 .skip (.exit 0))) (.block 1 (Ys1 2 [Vcj 10,Vaf 11 10,Yv 1 11]))))) (Yr 3 [Vcj 12,Yv 4 12])))⟩
theorem ok_c_Za:Qao prog 91 c_Za=true:=Qac func91 X0k
def c_Ze:Ev.Fn:=⟨88,[.cell 8 true 1,.tmp 9],false,false,(Yq 0 [Vcf 8,Vaw 9] (Yq 1 [Yk 17 (.build [.nils] []),Vcf 10,Var 1 10 17,Vaw 11] (Yj (.block 0 (.loop [0,1,2,3,8,10,11] [1,8,9,10] (Yj (Yq 2 [Vbp 18,Vbn 19 18,Ya 20 5 19,Vah 21 20,Vaj 22 21] (Yz 22 .skip (.exit 0))) (.block 1 (Yq 3 [Vbp 24,Vcj 25,Yv 26 2,Yv 27 3,Yc 28 116 [24,25,26,27],Yv 23 28,Vex 29 23,Vey 30 23,Yx 31 23 2,Yv 12 29,Yv 13 30,Yv 14 31] (Yq 4 [Vdg 32 10,Vdu 33 32,Yv 34 11,Yv 35 12,Yk 36 (.build [Y0,.nils] [(0,1,34),(1,1,35)]),Vd1 37 36,Vb4 38 2 32 33 37,Vdg 39 10,Yw 1 39 38 true] (Yq 5 [Vbp 40,Yv 41 13,Vbo 42 91 40 41,Yv 15 42] (Yq 6 [Vbp 43,Yv 44 15,Vbo 45 92 43 44,Vd6 46 45,Yv 16 46] (Yj (Yq 7 [Vbp 47,Vbn 48 47,Ya 49 5 48,Vah 50 49,Vcp 51 50 0,Yv 52 51,Vac 53 52 16,Vac 54 52 2,Vc3 55 52 53 54,Vap 56 52 55,Yv 57 56,Vac 58 57 16,Vao 59 57 58 18,Vap 60 57 59] (Ym 60 8 [Va7 61 1 10,Yv 62 15,Var 1 8 61,Yv 9 62])) (Yq 9 [Vbp 63,Yv 64 15,Vbo 65 117 63 64,Yv 11 65] (Yq 10 [Yv 66 14,Yv 67 66,Vac 68 67 11,Vao 69 67 68 0,Vac 70 67 69,Vaa 71 70 15,Vaa 72 70 13,Vbd 73 70 71 72,Vba 74 67 70 73,Vap 75 67 74] (Yz 75 (Ys1 11 [Vbp 76,Yv 77 15,Vdb 78 93 76 10 77]) (Yq 12 [Yv 79 11,Vaj 80 79] (Yz 80 (Yq 13 [Vdd 11 1] (Ys1 14 [Yv 81 15,Yv 1 81])) (Ys1 15 [Vbp 82,Yv 83 15,Vaf 84 83,Vbo 85 91 82 84,Yv 1 85]))))))))))))))) (Yr 16 [Va7 86 1 10,Vcj 87,Var 1 8 86,Yv 9 87]))))⟩
theorem ok_c_Ze:Qao prog 90 c_Ze=true:=Qac func90 X0k
def c_Zn:Ev.Fn:=⟨45,[.cell 4 true 6],false,false,(Yq 0 [Vbc 4] (Yj (Yq 1 [Vcj 6,Vbp 7,Vbn 8 7,Vdg 9 8,Vah 10 9,Yh 11 10,Vat 12 6 11] (Ym 12 2 [Vbp 13,Vbn 14 13,Vdg 15 14,Vah 16 15,Vcj 17,Ye 18 6 16 17,Va7 19 6 18,Var 6 4 19])) (Yq 3 [Ver 20,Vbc 5,Var 6 5 20] (Yj (Yq 4 [Vbp 21,Vbn 22 21,Vdg 23 22,Vah 24 23,Yh 25 24,Vb0 26 25 0] (Yz 26 (.drw 5 [⟨Yv 27 0,0,[]⟩,⟨Yk 28 (.nilc 27),1,[]⟩,⟨Ya 29 0 28,2,[]⟩,⟨Yl 30 false 1 29,3,[]⟩,⟨Yv 31 0,4,[]⟩,⟨Yk 32 (.nilc 31),5,[]⟩,⟨Ya 33 0 32,6,[]⟩,⟨Yl 34 false 1 33,7,[]⟩,⟨Yh 35 34,8,[]⟩,⟨Yo 36 .sub .no 35 (Yi 1),9,[]⟩,⟨Ye 37 6 30 36,10,[]⟩,⟨Ya 38 2 37,11,[]⟩,⟨Yl 39 false 1 38,12,[]⟩,⟨Ya 40 1 5,13,[]⟩,⟨Yw 1 40 39 false,14,[]⟩]) .skip)) (Yq 6 [Vd3 41 5,Vah 42 41,Ya 43 2 5,Var 1 43 42] (Yr 7 [Va7 44 6 5,Var 6 4 44]))))))⟩
theorem ok_c_Zn:Qao prog 92 c_Zn=true:=Qac func92 X0k
def j_Zn_0 (M:Mach) (n0:Nat) (z4 z5:V) (U:Objs):Ro:=Udu z5 fun x16=> Uac x16 U fun x17=> Uaf z5 2 fun x18=> Ua3 x18 x17 U 1 fun p19=> Uaq z5 p19.2 6 fun x20=> Ua3 z4 x20 p19.2 6 fun p21=> Ub4 z4 p21.2 6 fun x22=> bd (oK false x22) (nK n0 p21.2)
def s_Zn:=
 let s0:Objs:=U++[.cells [(.int .i64 0),(.int .i64 0),(.int .i64 0),(.str []),(.str []),(.bool false)]]
 Uat a0 fun x1=> Uc7 x1 fun x2=> Uac x2 s0 fun x3=> Uam x3 fun x4=> Ual a1 x4 fun x5=> br x5.ng (Uat a0 fun x6=> Uc7 x6 fun x7=> Uac x7 s0 fun x8=> Ube a1 x8 6 fun x9=> Uaq x9 s0 6 fun x10=> Uao x10 s0 U 6 0 fun p11=> bd (resC p11.2 true 6 (.ptr U.length 0)) fun x12=> bd (oK false x12) (nK U.length p11.2)) (bd (pu (Qaw [(.int .i64 0),(.int .i64 0),(.int .i64 0),(.str []),(.str []),(.bool false)] [])) fun x13=>
 let s14:Objs:=s0++[.cells [(.int .i64 0),(.int .i64 0),(.int .i64 0),(.str []),(.str []),(.bool false)]]
 Uao x13 s14 s0 6 0 fun p15=> Uat a0 fun x23=> Uc7 x23 fun x24=> Uac x24 p15.2 fun x25=> Uam x25 fun x26=> Ubd x26 0 fun x27=> br x27.ng (Uat a0 fun x28=> Uc7 x28 fun x29=> Uac x29 p15.2 fun x30=> Uat a0 fun x31=> Uc7 x31 fun x32=> Uac x32 p15.2 fun x33=> Uam x33 fun x34=> Ubz x34 1 fun x35=> Ubm x35 x30 6 fun x36=> Uaf x36 2 fun x37=> Uac x37 p15.2 fun x38=> Ubq s0 1 0 fun x39=> Ua3 x39 x38 p15.2 1 fun p40=> j_Zn_0 M U.length (.ptr U.length 0) (.ptr s0.length 0) p40.2) (j_Zn_0 M U.length (.ptr U.length 0) (.ptr s0.length 0) p15.2))
theorem k_Zn:fnK M c_Zn [a0,a1] U=s_Zn M a0 a1 U:=X0k
end
section
variable (M:Mach) (n0 n1:Nat) (r1:Rk) (n2:Nat) (r2:Rk) (n3:Nat) (r3:Rk) (n4:Nat) (r4:Rk) (n5:Nat) (a0 a1 a2 a3 a4 a5 a6 a7 a8 a9 a10 a11:V) (z0 z1 z2 z3 z4 z5 z6 z10 z11 z12 z30 z76 z102:V) (U:Objs)
def c_Z1y:Ev.Fn:=⟨188,[.tmp 2],false,false,(Yq 0 [Vbf 2] (Yq 1 [Vbp 7,Vbp 8,Yh 9 8,Vez 10,Yh 11 10,Yk 12 (.cut 1 7 none (some 9) (some 11)),Yv 0 12] (Yj (.block 0 (.loop [0] [2] (Yj (Yq 2 [Vbp 13,Yh 14 13,Vb0 15 14 0] (Yz 15 .skip (.exit 0))) (.block 1 (Yq 3 [Vbp 16,Ye 17 1 16 (Yi 0),Vah 18 17,Yv 3 18] (Yj (Yq 4 [Yv 19 3,Yo 20 .lss .no 19 (.c (.int .u8 128))] (Yz 20 (Yq 5 [Vez 21,Yk 22 (.cut 1 21 (some (Yi 1)) none none),Yv 0 22] (Yj (Yq 6 [Vbp 23,Yh 24 23,Vb0 25 24 8,Yv 26 25,Vab 27 26,Van 28 26 131 27,Vd2 29 26 28 9259542123273814144,⟨some 30,(some (26,true)),.bin .eql .no 29 (.c (.int .u64 0))⟩,Vag 31 26 30] (Yz 31 (Yq 7 [Vez 32,Vci 33 32 8,Yv 0 33] (Yj (.drw 8 [⟨Yv 34 0,0,[]⟩,⟨Yh 35 34,1,[]⟩,⟨Yo 36 .gtr .no 35 (Yi 16),2,[]⟩,⟨Yv 37 36,3,[]⟩,⟨⟨some 38,(some (37,true)),.mv 0 false⟩,4,[]⟩,⟨⟨some 40,(some (37,true)),.mv 0 false⟩,6,[]⟩,⟨⟨some 41,(some (37,true)),.cut 1 40 (some (Yi 8)) none none⟩,7,[]⟩,⟨⟨some 39,(some (37,true)),.call 131 [38]⟩,5,[]⟩,⟨⟨some 42,(some (37,true)),.call 131 [41]⟩,8,[]⟩,⟨⟨some 43,(some (37,true)),.bin .or .no 39 42⟩,9,[]⟩,⟨⟨some 44,(some (37,true)),.bin .and .no 43 (.c (.int .u64 9259542123273814144))⟩,10,[]⟩,⟨⟨some 45,(some (37,true)),.bin .eql .no 44 (.c (.int .u64 0))⟩,11,[]⟩,⟨Yk 46 (.pick 37 45 Yf),12,[]⟩]) (Yz 46 (Yq 9 [Vez 47,Vci 48 47 16,Yv 0 48] (.block 2 (.loop [0] [0,2] (Yj (Yj (.drw 10 [⟨Yv 49 0,0,[]⟩,⟨Yh 50 49,1,[]⟩,⟨Yo 51 .gtr .no 50 (Yi 32),2,[]⟩,⟨Yv 52 51,3,[]⟩,⟨⟨some 53,(some (52,true)),.mv 0 false⟩,4,[]⟩,⟨⟨some 55,(some (52,true)),.mv 0 false⟩,6,[]⟩,⟨⟨some 56,(some (52,true)),.cut 1 55 (some (Yi 8)) none none⟩,7,[]⟩,⟨⟨some 59,(some (52,true)),.mv 0 false⟩,10,[]⟩,⟨⟨some 60,(some (52,true)),.cut 1 59 (some (Yi 16)) none none⟩,11,[]⟩,⟨⟨some 62,(some (52,true)),.mv 0 false⟩,13,[]⟩,⟨⟨some 63,(some (52,true)),.cut 1 62 (some (Yi 24)) none none⟩,14,[]⟩,⟨⟨some 54,(some (52,true)),.call 131 [53]⟩,5,[]⟩,⟨⟨some 57,(some (52,true)),.call 131 [56]⟩,8,[]⟩,⟨⟨some 58,(some (52,true)),.bin .or .no 54 57⟩,9,[]⟩,⟨⟨some 61,(some (52,true)),.call 131 [60]⟩,12,[]⟩,⟨⟨some 64,(some (52,true)),.call 131 [63]⟩,15,[]⟩,⟨⟨some 65,(some (52,true)),.bin .or .no 61 64⟩,16,[]⟩,⟨⟨some 66,(some (52,true)),.bin .or .no 58 65⟩,17,[]⟩,⟨⟨some 67,(some (52,true)),.bin .and .no 66 (.c (.int .u64 9259542123273814144))⟩,18,[]⟩,⟨⟨some 68,(some (52,true)),.bin .eql .no 67 (.c (.int .u64 0))⟩,19,[]⟩,⟨Yk 69 (.pick 52 68 Yf),20,[]⟩]) (Yz 69 .skip (.exit 2))) (.block 3 (Ys1 11 [Vez 70,Vci 71 70 32,Yv 0 71])))))) .skip))) .skip)) (.exit 1))) .skip)) (Yq 12 [Yv 72 3,Yk 73 (.iaddrA 256 1 (.g 1) 72),Vah 74 73,Yv 4 74] (Yq 13 [Yv 75 4,Yo 76 .and .no 75 (.c (.int .u8 7)),Vcs 77 76,Yv 5 77] (Yq 14 [Yv 78 4,Yo 79 .shr .no 78 (.c (.int .u64 4)),Yk 80 (.iaddrA 16 2 (.g 2) 79),Va7 81 2 80,Yk 6 (.alloc [(.int .u8 0),(.int .u8 0)]),Var 2 6 81] (Yq 15 [Yv 82 5] (.block 4 (Yq 17 [Vai 84 82 2,Yv 83 84] (Yz 83 (Yj (Yj (.drw 18 [⟨Yv 85 0,0,[]⟩,⟨Yh 86 85,1,[]⟩,⟨Yo 87 .lss .no 86 (Yi 2),2,[]⟩,⟨Yv 88 87,3,[]⟩,⟨⟨some 89,(some (88,false)),.mv 0 false⟩,4,[]⟩,⟨⟨some 90,(some (88,false)),.iaddr 1 89 (Yi 1)⟩,5,[]⟩,⟨⟨some 91,(some (88,false)),.load false 1 90⟩,6,[]⟩,⟨⟨some 92,(some (88,false)),.faddr 0 6⟩,7,[]⟩,⟨⟨some 93,(some (88,false)),.load false 1 92⟩,8,[]⟩,⟨⟨some 94,(some (88,false)),.bin .lss .no 91 93⟩,9,[]⟩,⟨Yk 95 (.pick 88 Yt 94),10,[]⟩,⟨Yv 96 95,11,[]⟩,⟨⟨some 97,(some (96,false)),.faddr 1 6⟩,12,[]⟩,⟨⟨some 98,(some (96,false)),.load false 1 97⟩,13,[]⟩,⟨⟨some 99,(some (96,false)),.mv 0 false⟩,14,[]⟩,⟨⟨some 100,(some (96,false)),.iaddr 1 99 (Yi 1)⟩,15,[]⟩,⟨⟨some 101,(some (96,false)),.load false 1 100⟩,16,[]⟩,⟨⟨some 102,(some (96,false)),.bin .lss .no 98 101⟩,17,[]⟩,⟨Yk 103 (.pick 96 Yt 102),18,[]⟩]) (Ym 103 19 [Vbf 2])) (Ys1 20 [Vez 104,Vci 105 104 2,Yv 0 105])) (Yq 21 [Vai 107 82 3,Yv 106 107] (Yz 106 (Yj (Yj (.drw 22 [⟨Yv 108 0,0,[]⟩,⟨Yh 109 108,1,[]⟩,⟨Yo 110 .lss .no 109 (Yi 3),2,[]⟩,⟨Yv 111 110,3,[]⟩,⟨⟨some 112,(some (111,false)),.mv 0 false⟩,4,[]⟩,⟨⟨some 113,(some (111,false)),.iaddr 1 112 (Yi 1)⟩,5,[]⟩,⟨⟨some 114,(some (111,false)),.load false 1 113⟩,6,[]⟩,⟨⟨some 115,(some (111,false)),.faddr 0 6⟩,7,[]⟩,⟨⟨some 116,(some (111,false)),.load false 1 115⟩,8,[]⟩,⟨⟨some 117,(some (111,false)),.bin .lss .no 114 116⟩,9,[]⟩,⟨Yk 118 (.pick 111 Yt 117),10,[]⟩,⟨Yv 119 118,11,[]⟩,⟨⟨some 120,(some (119,false)),.faddr 1 6⟩,12,[]⟩,⟨⟨some 121,(some (119,false)),.load false 1 120⟩,13,[]⟩,⟨⟨some 122,(some (119,false)),.mv 0 false⟩,14,[]⟩,⟨⟨some 123,(some (119,false)),.iaddr 1 122 (Yi 1)⟩,15,[]⟩,⟨⟨some 124,(some (119,false)),.load false 1 123⟩,16,[]⟩,⟨⟨some 125,(some (119,false)),.bin .lss .no 121 124⟩,17,[]⟩,⟨Yk 126 (.pick 119 Yt 125),18,[]⟩,⟨Yv 127 126,19,[]⟩,⟨⟨some 128,(some (127,false)),.mv 0 false⟩,20,[]⟩,⟨⟨some 129,(some (127,false)),.iaddr 1 128 (Yi 2)⟩,21,[]⟩,⟨⟨some 130,(some (127,false)),.load false 1 129⟩,22,[]⟩,⟨⟨some 131,(some (127,false)),.bin .lss .no 130 (.c (.int .u8 128))⟩,23,[]⟩,⟨Yk 132 (.pick 127 Yt 131),24,[]⟩,⟨Yv 133 132,25,[]⟩,⟨⟨some 134,(some (133,false)),.mv 0 false⟩,26,[]⟩,⟨⟨some 135,(some (133,false)),.iaddr 1 134 (Yi 2)⟩,27,[]⟩,⟨⟨some 136,(some (133,false)),.load false 1 135⟩,28,[]⟩,⟨⟨some 137,(some (133,false)),.bin .lss .no (.c (.int .u8 191)) 136⟩,29,[]⟩,⟨Yk 138 (.pick 133 Yt 137),30,[]⟩]) (Ym 138 23 [Vbf 2])) (Ys1 24 [Vez 139,Vci 140 139 3,Yv 0 140])) (Yq 25 [Vai 142 82 4,Yv 141 142] (Yz 141 (Yj (Yj (.drw 26 [⟨Yv 143 0,0,[]⟩,⟨Yh 144 143,1,[]⟩,⟨Yo 145 .lss .no 144 (Yi 4),2,[]⟩,⟨Yv 146 145,3,[]⟩,⟨⟨some 147,(some (146,false)),.mv 0 false⟩,4,[]⟩,⟨⟨some 148,(some (146,false)),.iaddr 1 147 (Yi 1)⟩,5,[]⟩,⟨⟨some 149,(some (146,false)),.load false 1 148⟩,6,[]⟩,⟨⟨some 150,(some (146,false)),.faddr 0 6⟩,7,[]⟩,⟨⟨some 151,(some (146,false)),.load false 1 150⟩,8,[]⟩,⟨⟨some 152,(some (146,false)),.bin .lss .no 149 151⟩,9,[]⟩,⟨Yk 153 (.pick 146 Yt 152),10,[]⟩,⟨Yv 154 153,11,[]⟩,⟨⟨some 155,(some (154,false)),.faddr 1 6⟩,12,[]⟩,⟨⟨some 156,(some (154,false)),.load false 1 155⟩,13,[]⟩,⟨⟨some 157,(some (154,false)),.mv 0 false⟩,14,[]⟩,⟨⟨some 158,(some (154,false)),.iaddr 1 157 (Yi 1)⟩,15,[]⟩,⟨⟨some 159,(some (154,false)),.load false 1 158⟩,16,[]⟩,⟨⟨some 160,(some (154,false)),.bin .lss .no 156 159⟩,17,[]⟩,⟨Yk 161 (.pick 154 Yt 160),18,[]⟩,⟨Yv 162 161,19,[]⟩,⟨⟨some 163,(some (162,false)),.mv 0 false⟩,20,[]⟩,⟨⟨some 164,(some (162,false)),.iaddr 1 163 (Yi 2)⟩,21,[]⟩,⟨⟨some 165,(some (162,false)),.load false 1 164⟩,22,[]⟩,⟨⟨some 166,(some (162,false)),.bin .lss .no 165 (.c (.int .u8 128))⟩,23,[]⟩,⟨Yk 167 (.pick 162 Yt 166),24,[]⟩,⟨Yv 168 167,25,[]⟩,⟨⟨some 169,(some (168,false)),.mv 0 false⟩,26,[]⟩,⟨⟨some 170,(some (168,false)),.iaddr 1 169 (Yi 2)⟩,27,[]⟩,⟨⟨some 171,(some (168,false)),.load false 1 170⟩,28,[]⟩,⟨⟨some 172,(some (168,false)),.bin .lss .no (.c (.int .u8 191)) 171⟩,29,[]⟩,⟨Yk 173 (.pick 168 Yt 172),30,[]⟩,⟨Yv 174 173,31,[]⟩,⟨⟨some 175,(some (174,false)),.mv 0 false⟩,32,[]⟩,⟨⟨some 176,(some (174,false)),.iaddr 1 175 (Yi 3)⟩,33,[]⟩,⟨⟨some 177,(some (174,false)),.load false 1 176⟩,34,[]⟩,⟨⟨some 178,(some (174,false)),.bin .lss .no 177 (.c (.int .u8 128))⟩,35,[]⟩,⟨Yk 179 (.pick 174 Yt 178),36,[]⟩,⟨Yv 180 179,37,[]⟩,⟨⟨some 181,(some (180,false)),.mv 0 false⟩,38,[]⟩,⟨⟨some 182,(some (180,false)),.iaddr 1 181 (Yi 3)⟩,39,[]⟩,⟨⟨some 183,(some (180,false)),.load false 1 182⟩,40,[]⟩,⟨⟨some 184,(some (180,false)),.bin .lss .no (.c (.int .u8 191)) 183⟩,41,[]⟩,⟨Yk 185 (.pick 180 Yt 184),42,[]⟩]) (Ym 185 27 [Vbf 2])) (Ys1 28 [Vez 186,Vci 187 186 4,Yv 0 187])) (Yr 16 [Vbf 2])))))))))))))))))) (Yr 29 [Vdc 2]))))⟩
theorem ok_c_Z1y:Qao prog 96 c_Z1y=true:=Qac func96 X0k
def j_Z1y_0 (M:Mach) (n0:Nat) (n1:Nat) (r1:Rk) (z0:V) (U:Objs):Ro:=UF n1 U [z0] r1
def j_Z1y_1 (M:Mach) (n0:Nat) (n1:Nat) (r1:Rk) (z2:V) (U:Objs):Ro:=Uae z2 U n1 fun y5=> Uay U n1 fun s6=> bd (oK false y5) (nK n0 s6)
def j_Z1y_2:=j_Z1y_0 M n0 n1 r1 z0 U
def b_Z1y_1:=Uau z0 fun x33=> Ubd x33 32 fun x34=> Uak x34 z0 fun x35=> Uak x34 z0 fun x36=> Udd x34 x36 1 8 fun x37=> Uak x34 z0 fun x38=> Udd x34 x38 1 16 fun x39=> Uak x34 z0 fun x40=> Udd x34 x40 1 24 fun x41=> Ua1 x34 x35 U 131 M fun p42=> Ua1 x34 x37 p42.2 131 M fun p43=> Ucl x34 p42.1 p43.1 fun x44=> Ua1 x34 x39 p43.2 131 M fun p45=> Ua1 x34 x41 p45.2 131 M fun p46=> Ucl x34 p45.1 p46.1 fun x47=> Ucl x34 x44 x47 fun x48=> Udq x34 x48 fun x49=> Uec x34 x49 fun x50=> Uab x34 x50 fun x51=> br x51.ng (Udc z0 1 32 fun x52=> UF n2 p46.2 [x52.ng] r2) (Uae z0 p46.2 n2 fun y55=> Uar p46.2 n2 fun y56=> Uay p46.2 n2 fun s57=> j_Z1y_2 M n0 n1 r1 y55 s57)
def l_Z1y_1:=M.fx (X0Lb (b_Z1y_1 M n0 n1 r1 n2))
def b_Z1y_0:=Uau z0 fun x7=> Ubd x7 0 fun x8=> br x8.ng (Ub5 z0 1 0 fun x9=> Uac x9 U fun x10=> bd (pu (eB .lss .no x10.ng.ng.ng (.int .u8 128))) fun x11=> br x11.ng (Udc z0 1 1 fun x12=> bd (pu (Qai x12.ng.ng.ng)) fun x13=> Ubd x13 8 fun x14=> Uan x14 x12 fun x15=> Ua1 x14 x15 U 131 M fun p16=> Udq x14 p16.1 fun x17=> Uec x14 x17 fun x18=> Uab x14 x18 fun x19=> br x19.ng (bd (pu (Qbm 1 x12.ng.ng (some (.int .i64 8)) none none)) fun x20=> bd (pu (Qai x20.ng.ng.ng)) fun x21=> Ubd x21 16 fun x22=> Uan x22 x20 fun x23=> Uan x22 x20 fun x24=> Udd x22 x24 1 8 fun x25=> Ua1 x22 x23 p16.2 131 M fun p26=> Ua1 x22 x25 p26.2 131 M fun p27=> Ucl x22 p26.1 p27.1 fun x28=> Udq x22 x28 fun x29=> Uec x22 x29 fun x30=> Uab x22 x30 fun x31=> br x31.ng (bd (pu (Qbm 1 x20.ng.ng (some (.int .i64 16)) none none)) fun x32=> Ua2 x32 p27.2 fun y58=> l_Z1y_1 M n0 n1 r1 p27.2.length [y58] p27.2) (j_Z1y_2 M n0 n1 r1 x20.ng p27.2)) (j_Z1y_2 M n0 n1 r1 x12.ng p16.2)) (bd (pu (Qc8 256 1 x10.ng.ng.ng (M.G.g 1).ng)) fun x59=> Uac x59 U fun x60=> bd (pu (eB .and .no x60.ng.ng.ng (.int .u8 7))) fun x61=> Uc0 x61 U fun x62=> bd (pu (eB .shr .no x60.ng.ng.ng (.int .u64 4))) fun x63=> bd (pu (Qc8 16 2 x63.ng (M.G.g 2).ng)) fun x64=> Uaq x64 U 2 fun x65=>
 let s66:Objs:=U++[.cells [(.int .u8 0),(.int .u8 0)]]
 Uao x65 s66 U 2 0 fun p67=> Ub7 x62 2 fun x68=> br x68.ng.ng (Uau z0 fun x69=> Ucw x69 2 fun x70=> Uah x70 z0 fun x71=> Ubx x70 x71 1 1 fun x72=> Uag x70 x72 p67.2 fun x73=> Ucq x70 U fun x74=> Uag x70 x74 p67.2 fun x75=> Ubw x70 x73 x75 fun x76=> Uad x70 x76 fun x77=> Uc9 x77 U fun x78=> Uag x77 x78 p67.2 fun x79=> Uah x77 z0 fun x80=> Ubx x77 x80 1 1 fun x81=> Uag x77 x81 p67.2 fun x82=> Ubw x77 x79 x82 fun x83=> Uad x77 x83 fun x84=> br x84.ng (j_Z1y_1 M n0 n1 r1 (.bool false) p67.2) (Udc z0 1 2 fun x85=> j_Z1y_0 M n0 n1 r1 x85.ng p67.2)) (Ub7 x62 3 fun x86=> br x86.ng.ng (Uau z0 fun x87=> Ucw x87 3 fun x88=> Uah x88 z0 fun x89=> Ubx x88 x89 1 1 fun x90=> Uag x88 x90 p67.2 fun x91=> Ucq x88 U fun x92=> Uag x88 x92 p67.2 fun x93=> Ubw x88 x91 x93 fun x94=> Uad x88 x94 fun x95=> Uc9 x95 U fun x96=> Uag x95 x96 p67.2 fun x97=> Uah x95 z0 fun x98=> Ubx x95 x98 1 1 fun x99=> Uag x95 x99 p67.2 fun x100=> Ubw x95 x97 x100 fun x101=> Uad x95 x101 fun x102=> Uah x102 z0 fun x103=> Ubx x102 x103 1 2 fun x104=> Uag x102 x104 p67.2 fun x105=> Ud8 x102 x105 fun x106=> Uad x102 x106 fun x107=> Uah x107 z0 fun x108=> Ubx x107 x108 1 2 fun x109=> Uag x107 x109 p67.2 fun x110=> Ud9 x107 x110 fun x111=> Uad x107 x111 fun x112=> br x112.ng (j_Z1y_1 M n0 n1 r1 (.bool false) p67.2) (Udc z0 1 3 fun x113=> j_Z1y_0 M n0 n1 r1 x113.ng p67.2)) (Ub7 x62 4 fun x114=> br x114.ng.ng (Uau z0 fun x115=> Ucw x115 4 fun x116=> Uah x116 z0 fun x117=> Ubx x116 x117 1 1 fun x118=> Uag x116 x118 p67.2 fun x119=> Ucq x116 U fun x120=> Uag x116 x120 p67.2 fun x121=> Ubw x116 x119 x121 fun x122=> Uad x116 x122 fun x123=> Uc9 x123 U fun x124=> Uag x123 x124 p67.2 fun x125=> Uah x123 z0 fun x126=> Ubx x123 x126 1 1 fun x127=> Uag x123 x127 p67.2 fun x128=> Ubw x123 x125 x128 fun x129=> Uad x123 x129 fun x130=> Uah x130 z0 fun x131=> Ubx x130 x131 1 2 fun x132=> Uag x130 x132 p67.2 fun x133=> Ud8 x130 x133 fun x134=> Uad x130 x134 fun x135=> Uah x135 z0 fun x136=> Ubx x135 x136 1 2 fun x137=> Uag x135 x137 p67.2 fun x138=> Ud9 x135 x138 fun x139=> Uad x135 x139 fun x140=> Uah x140 z0 fun x141=> Ubx x140 x141 1 3 fun x142=> Uag x140 x142 p67.2 fun x143=> Ud8 x140 x143 fun x144=> Uad x140 x144 fun x145=> Uah x145 z0 fun x146=> Ubx x145 x146 1 3 fun x147=> Uag x145 x147 p67.2 fun x148=> Ud9 x145 x148 fun x149=> Uad x145 x149 fun x150=> br x150.ng (j_Z1y_1 M n0 n1 r1 (.bool false) p67.2) (Udc z0 1 4 fun x151=> j_Z1y_0 M n0 n1 r1 x151.ng p67.2)) (j_Z1y_1 M n0 n1 r1 (.bool false) p67.2))))) (Uar U n1 fun y152=> Uay U n1 fun s153=> bd (oK false (.bool true)) (nK n0 s153))
def l_Z1y_0:=M.fx (X0Lb (b_Z1y_0 M n0 n1))
def s_Z1y:=Uau a0 fun x0=> Uam a0 fun x1=> bd (pu (Qbm 1 a0.ng.ng none (some x0.ng) (some x1.ng))) fun x2=> Ua2 x2 U fun y154=> l_Z1y_0 M U.length U.length [y154] U
theorem k_Z1y:fnK M c_Z1y [a0] U=s_Z1y M a0 U:=X0k
def c_Zy:Ev.Fn:=⟨114,[.tmp 4],false,false,(Yq 0 [Vbz 2,Vby 3,Vbf 4] (Yj (Yq 1 [Vdg 5 3,Vah 6 5] (.block 0 (Yq 2 [Vai 8 6 1,Yv 7 8] (Yz 7 (Yr 3 [Va7 9 4 2,Va7 10 11 3,Vbo 11 132 9 10,Yv 12 11,Vam 13 12 3 3,Vad 14 12 13,Van 15 12 51 14,Vag 16 12 15,Yv 17 16,Vaz 18 17 11 3,Va8 19 17 133 18 134,Vag 20 17 19,Yv 4 20]) (Yq 4 [Vai 22 6 2,Yv 21 22] (Yz 21 (Yr 5 [Va7 23 4 2,Va7 24 11 3,Vbo 25 132 23 24,Yv 26 25,Vaz 27 26 11 3,Va8 28 26 133 27 135,Vag 29 26 28,Yv 4 29]) (Yj (Yq 6 [Vai 31 6 3,Yv 30 31] (Yz 30 .skip (Ys1 7 [Vai 32 6 4,Yv 30 32]))) (Yz 30 (Yr 8 [Ya 33 3 3,Vah 34 33,Vc9 35 51 34,Yv 36 35,Vaz 37 36 11 3,Va8 38 36 133 37 136,Vag 39 36 38,Yv 4 39]) (Yq 9 [Vai 41 6 11,Yv 40 41] (Yz 40 (Yr 10 [Ya 42 3 3,Vah 43 42,Vc9 44 137 43,Yv 45 44,Vaz 46 45 11 3,Va8 47 45 133 46 136,Vag 48 45 47,Yv 4 48]) (Yq 11 [Vai 50 6 13,Yv 49 50] (Yz 49 (Yr 12 [Ya 51 3 3,Vah 52 51,Vc9 53 138 52,Yv 54 53,Vaz 55 54 11 3,Va8 56 54 133 55 136,Vag 57 54 56,Yv 4 57]) (Yq 13 [Vai 59 6 5,Yv 58 59] (Yz 58 (Yr 14 [Va7 60 4 2,Va7 61 11 3,Vbo 62 132 60 61,Yv 63 62,Vam 64 63 3 3,Vad 65 63 64,Van 66 63 51 65,Vag 67 63 66,Yv 68 67,Vaz 69 68 11 3,Van 70 68 139 69,Vag 71 68 70,Yv 72 71,Vaz 73 72 11 3,Va8 74 72 133 73 140,Vag 75 72 74,Yv 4 75]) (Yj (Yq 15 [Vai 77 6 6,Yv 76 77] (Yz 76 .skip (Ys1 16 [Vai 78 6 12,Yv 76 78]))) (Yz 76 (Yr 17 [Va7 79 11 3,Yc 80 133 [79,(.f 141)],Yv 4 80]) (Yq 18 [Vai 82 6 7,Yv 81 82] (Yz 81 (Yr 19 [Ya 83 8 3,Va7 84 2 83,Vc9 85 142 84,Yv 86 85,Vam 87 86 10 3,Vad 88 86 87,Va2 89 86 88,Vbk 90 86 89 0,Vaa 91 86 90,Vbx 92 91 4 2,Vaq 93 91 10 3,Vae 94 91 93,Vc8 95 91 54 92 94,Va0 96 86 91 95,Vag 97 86 96,Yv 98 97,Vaz 99 98 11 3,Va8 100 98 133 99 143,Vag 101 98 100,Yv 4 101]) (Yj (Yq 20 [Vai 103 6 8,Yv 102 103] (Yz 102 .skip (Yq 21 [Vai 104 6 9,Yv 102 104] (Yz 102 .skip (Ys1 22 [Vai 105 6 10,Yv 102 105]))))) (Ym 102 23 [Va7 106 4 2,Ya 107 10 3,Vah 108 107,Yc 109 54 [106,108,Yf],Yv 110 109,Vaz 111 110 11 3,Va8 112 110 133 111 144,Vag 113 110 112,Yv 4 113])))))))))))))))))))) (Yr 24 [Vbf 4])))⟩
theorem ok_c_Zy:Qao prog 98 c_Zy=true:=Qac func98 X0k
def j_Zy_2:=br z102.ng (Uaq z2 U 4 fun x76=> Uaf z3 10 fun x77=> Uac x77 U fun x78=> bd (M.call 54 [x76.ng,x78.ng,(.bool false)] U) fun p79=> Ub3 p79.1 z3 p79.2 11 fun x80=> Ucb p79.1 x80 p79.2 133 144 M fun p81=> Uab p79.1 p81.1 fun x82=> bd (oK false x82.ng) (nK n0 p81.2)) (bd (oK false (.bool false)) (nK n0 U))
def j_Zy_1:=br z76.ng (Uaq z3 U 11 fun x56=> bd (M.call 133 [x56.ng,(.fn 141 [] [])] U) fun p57=> bd (oK false p57.1.ng) (nK n0 p57.2)) (Uai z6 7 fun x58=> br x58.ng.ng (Uaf z3 8 fun x59=> Uaq x59 U 2 fun x60=> Ubr x60 U 142 M fun p61=> Ua9 p61.1 z3 10 fun x62=> Uax p61.1 x62 p61.2 fun x63=> Uby p61.1 x63 fun x64=> Ucz p61.1 x64 0 fun x65=> Uak p61.1 x65 fun x66=> bd (gdv x66 false (pu (eL p61.2 true 4 z2.ng))) fun x67=> Ueh x66 z3 10 fun x68=> Ucx x66 x68 p61.2 fun x69=> bd (gdp x66 false (M.call 54 [x67.ng,x69.ng,(.bool false)] p61.2) p61.2) fun p70=> Ua8 p61.1 x66 p70.1 fun x71=> Uab p61.1 x71 fun x72=> Ub3 x72 z3 p70.2 11 fun x73=> Ucb x72 x73 p70.2 133 143 M fun p74=> Uab x72 p74.1 fun x75=> bd (oK false x75.ng) (nK n0 p74.2)) (Uai z6 8 fun x83=> br x83.ng.ng (j_Zy_2 M n0 z2 z3 x83.ng U) (Uai z6 9 fun x84=> br x84.ng.ng (j_Zy_2 M n0 z2 z3 x84.ng U) (Uai z6 10 fun x85=> j_Zy_2 M n0 z2 z3 x85.ng U))))
def j_Zy_0:=br z30.ng (Uaf z3 3 fun x22=> Uac x22 U fun x23=> Ubr x23 U 51 M fun p24=> Ub3 p24.1 z3 p24.2 11 fun x25=> Ucb p24.1 x25 p24.2 133 136 M fun p26=> Uab p24.1 p26.1 fun x27=> bd (oK false x27.ng) (nK n0 p26.2)) (Uai z6 11 fun x28=> br x28.ng.ng (Uaf z3 3 fun x29=> Uac x29 U fun x30=> Ubr x30 U 137 M fun p31=> Ub3 p31.1 z3 p31.2 11 fun x32=> Ucb p31.1 x32 p31.2 133 136 M fun p33=> Uab p31.1 p33.1 fun x34=> bd (oK false x34.ng) (nK n0 p33.2)) (Uai z6 13 fun x35=> br x35.ng.ng (Uaf z3 3 fun x36=> Uac x36 U fun x37=> Ubr x37 U 138 M fun p38=> Ub3 p38.1 z3 p38.2 11 fun x39=> Ucb p38.1 x39 p38.2 133 136 M fun p40=> Uab p38.1 p40.1 fun x41=> bd (oK false x41.ng) (nK n0 p40.2)) (Uai z6 5 fun x42=> br x42.ng.ng (Uaq z2 U 4 fun x43=> Uaq z3 U 11 fun x44=> Ucn x43 x44 U 132 M fun p45=> Ua9 p45.1 z3 3 fun x46=> Uax p45.1 x46 p45.2 fun x47=> Ua1 p45.1 x47 p45.2 51 M fun p48=> Uab p45.1 p48.1 fun x49=> Ub3 x49 z3 p48.2 11 fun x50=> Ua1 x49 x50 p48.2 139 M fun p51=> Uab x49 p51.1 fun x52=> Ub3 x52 z3 p51.2 11 fun x53=> Ucb x52 x53 p51.2 133 140 M fun p54=> Uab x52 p54.1 fun x55=> bd (oK false x55.ng) (nK n0 p54.2)) (Uai z6 6 fun x86=> br x86.ng.ng (j_Zy_1 M n0 z2 z3 z6 x86.ng U) (Uai z6 12 fun x87=> j_Zy_1 M n0 z2 z3 z6 x87.ng U)))))
def s_Zy:=Uaz a0 U fun p0=> Uaz a1 p0.2 fun p1=> Uc7 p1.1 fun x2=> Uac x2 p1.2 fun x3=> Uai x3 1 fun x4=> br x4.ng.ng (Uaq p0.1 p1.2 4 fun x5=> Uaq p1.1 p1.2 11 fun x6=> Ucn x5 x6 p1.2 132 M fun p7=> Ua9 p7.1 p1.1 3 fun x8=> Uax p7.1 x8 p7.2 fun x9=> Ua1 p7.1 x9 p7.2 51 M fun p10=> Uab p7.1 p10.1 fun x11=> Ub3 x11 p1.1 p10.2 11 fun x12=> Ucb x11 x12 p10.2 133 134 M fun p13=> Uab x11 p13.1 fun x14=> bd (oK false x14.ng) (nK U.length p13.2)) (Uai x3 2 fun x15=> br x15.ng.ng (Uaq p0.1 p1.2 4 fun x16=> Uaq p1.1 p1.2 11 fun x17=> Ucn x16 x17 p1.2 132 M fun p18=> Ub3 p18.1 p1.1 p18.2 11 fun x19=> Ucb p18.1 x19 p18.2 133 135 M fun p20=> Uab p18.1 p20.1 fun x21=> bd (oK false x21.ng) (nK U.length p20.2)) (Uai x3 3 fun x88=> br x88.ng.ng (j_Zy_0 M U.length p0.1 p1.1 x3 x88.ng p1.2) (Uai x3 4 fun x89=> j_Zy_0 M U.length p0.1 p1.1 x3 x89.ng p1.2)))
theorem k_Zy:fnK M c_Zy [a0,a1] U=s_Zy M a0 a1 U:=X0k
def c_Z3:Ev.Fn:=⟨24,[.cell 4 true 3],false,false,(Yq 0 [Vby 3,Vau 4] (Yq 1 [Vbp 6,Ya 7 3 3,Vah 8 7,Vef 9 0 1 1 3 1 8,Va7 10 11 3,Ve3 11 102 6 9 10,Vbl 5,Var 7 5 11] (Yj (Yq 2 [Ya 12 3 5,Vah 13 12,Vel 14 13,Yv 15 14,Vam 16 15 1 5,Vad 17 15 16,Vak 18 15 17,Vag 19 15 18] (Ym 19 3 [Vbs 20 7,Var 3 4 20])) (Yr 4 [Vbp 21,Va7 22 7 5,Vbo 23 101 21 22,Var 3 4 23]))))⟩
theorem ok_c_Z3:Qao prog 99 c_Z3=true:=Qac func99 X0k
def s_Z3:=Uaz a1 U fun p0=>
 let s1:Objs:=p0.2++[.cells [(.int .i64 0),(.int .i64 0),.nils]]
 Uaf p0.1 3 fun x2=> Uac x2 s1 fun x3=> Uco x3 0 1 3 0 1 fun x4=> Uaq p0.1 s1 11 fun x5=> bd (M.call 102 [a0.ng.ng,x4.ng,x5.ng] s1) fun p6=>
 let s7:Objs:=p6.2++[.cells [(.int .i64 0),(.bool false),(.str []),(.str []),(.int .i64 0),(.str []),(.bool false)]]
 Uao p6.1 s7 p6.2 7 0 fun p8=> Ubq p6.2 3 0 fun x9=> Uac x9 p8.2 fun x10=> bd (pu (eB .eql .no x10.ng (.str []))) fun x11=> Ubu x11 p6.2 1 0 fun x12=> Uax x11 x12 p8.2 fun x13=> Uav x11 x13 fun x14=> Uab x11 x14 fun x15=> br x15.ng (Ub2 0 1 0 7 fun x16=> Ud4 x16 p8.2 p0.2 fun p17=> Uba p17.2 p0.2 fun x18=> bd (oK false x18) (nK U.length p17.2)) (Ub1 p8.2 p6.2 7 0 fun x19=> Ubj a0 x19 p8.2 101 M fun p20=> Ud4 p20.1 p20.2 p0.2 fun p21=> Uba p21.2 p0.2 fun x22=> bd (oK false x22) (nK U.length p21.2))
theorem k_Z3:fnK M c_Z3 [a0,a1] U=s_Z3 M a0 a1 U:=X0k
def c_Z1:Ev.Fn:=⟨16,[.cell 8 true 3],false,false,(Yq 0 [Vau 8] (Yr 1 [Vbp 9,Vcj 10,Yv 11 2,Yv 12 3,Vdt 13 11 12,Ves 14 10 4 13,Vbo 15 101 9 14,Var 3 8 15]))⟩
theorem ok_c_Z1:Qao prog 100 c_Z1=true:=Qac func100 X0k
def s_Z1:=
 let s0:Objs:=U++[.cells [(.int .i64 0),(.int .i64 0),.nils]]
 Ues a2 a3 fun x1=> Uc6 a1 x1 fun x2=> Ubj a0 x2 s0 101 M fun p3=> Ud4 p3.1 p3.2 U fun p4=> Uba p4.2 U fun x5=> bd (oK false x5) (nK U.length p4.2)
theorem k_Z1:fnK M c_Z1 [a0,a1,a2,a3] U=s_Z1 M a0 a1 a2 a3 U:=X0k
def c_Z8:Ev.Fn:=⟨46,[.cell 6 true 7],false,false,(Yq 0 [Vby 4,Vd8 5 2,Vbl 6] (Yj (Yq 1 [Vd3 7 5,Vah 8 7] (.block 0 (Yq 2 [Vaj 10 8,Yv 9 10] (Yz 9 (.drw 3 [⟨Yv 11 0,0,[]⟩,⟨Yk 12 (.nilc 11),1,[]⟩,⟨Ya 13 0 12,2,[]⟩,⟨Ya 14 0 13,3,[]⟩,⟨Yl 15 false 1 14,4,[]⟩,⟨Yv 16 0,5,[]⟩,⟨Yk 17 (.nilc 16),6,[]⟩,⟨Ya 18 0 17,7,[]⟩,⟨Ya 19 1 18,8,[]⟩,⟨Yl 20 false 1 19,9,[]⟩,⟨Ya 21 1 4,10,[]⟩,⟨Yw 1 21 15 false,11,[9]⟩,⟨Ya 22 2 4,12,[]⟩,⟨Yw 1 22 20 false,13,[]⟩]) (Yq 4 [Vai 24 8 2,Yv 23 24] (Yz 23 (Ys1 5 [Vd3 25 4,Yw 1 25 Yt false,Ya 26 2 4,Vdi 1 26]) (Yq 6 [Vai 28 8 3,Yv 27 28] (Yz 27 (Yq 7 [Vd3 29 4,Yw 1 29 Yt false] (.drw 8 [⟨Yv 31 0,0,[]⟩,⟨Yk 32 (.nilc 31),1,[]⟩,⟨Ya 33 0 32,2,[]⟩,⟨Yl 34 true 4 33,3,[]⟩,⟨Ya 35 2 5,4,[]⟩,⟨Yl 36 false 1 35,5,[]⟩,⟨Yc 37 146 [34,36],6,[]⟩,⟨Yv 30 37,7,[]⟩,⟨Yx 38 30 0,8,[]⟩,⟨Yx 39 30 1,9,[]⟩,⟨Ya 40 2 4,10,[]⟩,⟨Yw 1 40 38 false,11,[]⟩])) .skip)))))))) (Yj (Yq 9 [Vd3 41 4,Vah 42 41,Vbm 43 42] (Yz 43 (Ys1 10 [Ya 44 2 4,Vdi 1 44]) .skip)) (Yr 11 [Va7 45 7 4,Var 7 6 45]))))⟩
theorem ok_c_Z8:Qao prog 102 c_Z8=true:=Qac func102 X0k
def j_Z8_1 (M:Mach) (n0:Nat) (z4 z6:V) (U:Objs):Ro:=Uaq z4 U 7 fun x3=> Ua3 z6 x3 U 7 fun p4=> Ub4 z6 p4.2 7 fun x5=> bd (oK false x5) (nK n0 p4.2)
def j_Z8_0:=Udu z4 fun x6=> Uac x6 U fun x7=> Ubh x7 fun x8=> br x8.ng (Uaf z4 2 fun x9=> Uel x9 U fun p10=> j_Z8_1 M n0 z4 z6 p10.2) (j_Z8_1 M n0 z4 z6 U)
def s_Z8:=Uaz a1 U fun p0=> Uaz a2 p0.2 fun p1=>
 let s2:Objs:=p1.2++[.cells [(.int .i64 0),(.bool false),(.str []),(.str []),(.int .i64 0),(.str []),(.bool false)]]
 Udu p1.1 fun x11=> Uac x11 s2 fun x12=> Uai x12 0 fun x13=> br x13.ng.ng (Uat a0 fun x14=> Uc7 x14 fun x15=> Uc7 x15 fun x16=> Uac x16 s2 fun x17=> Uat a0 fun x18=> Uc7 x18 fun x19=> Udu x19 fun x20=> Uac x20 s2 fun x21=> Udu p0.1 fun x22=> bd (Qgd [Qcn false 1 x20.ng] s2) fun s23=> Ua3 x22 x17 s23 1 fun p25=> bd (Qei [Qcn false 1 x20.ng] s2 p25.2) fun s24=> Uaf p0.1 2 fun x26=> Ua3 x26 x21 s24 1 fun p27=> j_Z8_0 M U.length p0.1 (.ptr p1.2.length 0) p27.2) (Uai x12 2 fun x28=> br x28.ng.ng (Udu p0.1 fun x29=> bd (stV s2 1 x29.ng (.bool true) (.bool true)) fun p30=> Uaf p0.1 2 fun x31=> Uel x31 p30.2 fun p32=> j_Z8_0 M U.length p0.1 (.ptr p1.2.length 0) p32.2) (Uai x12 3 fun x33=> br x33.ng.ng (Udu p0.1 fun x34=> bd (stV s2 1 x34.ng (.bool true) (.bool true)) fun p35=> Uat a0 fun x36=> Uc7 x36 fun x37=> Uaq x37 p35.2 4 fun x38=> Uaf p1.1 2 fun x39=> Uac x39 p35.2 fun x40=> Ucn x38 x40 p35.2 146 M fun p41=> Ubk p41.1 0 fun x42=> Ubk p41.1 1 fun x43=> Uaf p0.1 2 fun x44=> Ua3 x44 x42 p41.2 1 fun p45=> j_Z8_0 M U.length p0.1 (.ptr p1.2.length 0) p45.2) (j_Z8_0 M U.length p0.1 (.ptr p1.2.length 0) s2)))
theorem k_Z8:fnK M c_Z8 [a0,a1,a2] U=s_Z8 M a0 a1 a2 U:=X0k
def c_Z0:Ev.Fn:=⟨36,[.cell 4 true 3],false,false,(Yq 0 [Vby 3,Vau 4] (Yj (.drw 1 [⟨Yv 6 0,0,[]⟩,⟨Yk 7 (.nilc 6),1,[]⟩,⟨Ya 8 4 7,2,[]⟩,⟨Ya 9 0 8,3,[]⟩,⟨Yl 10 false 1 9,4,[]⟩,⟨Yl 11 true 7 3,5,[]⟩,⟨Yc 12 145 [10,11],6,[]⟩,⟨Yv 5 12,7,[]⟩]) (Yj (Yq 2 [Yv 13 5,Vck 14 13 0] (Yz 14 (Yj (.drw 3 [⟨Yv 15 0,0,[]⟩,⟨Yv 16 0,1,[]⟩,⟨Yk 17 (.nilc 16),2,[]⟩,⟨Ya 18 4 17,3,[]⟩,⟨Ya 19 0 18,4,[]⟩,⟨Yk 20 (.loadT 19),5,[]⟩,⟨Yl 21 true 7 3,6,[]⟩,⟨Yk 22 (.buildSl true 7 1 (.agg [Y0,Yb,Yn,Yn,Y0,Yn,Yb]) [(0,21)] false),7,[]⟩,⟨Yk 23 (.app false true 7 80 20 22 true),8,[]⟩,⟨Yk 24 (.nilc 15),9,[]⟩,⟨Ya 25 4 24,10,[]⟩,⟨Ya 26 0 25,11,[]⟩,⟨Yw 1 26 23 true,12,[]⟩]) (Ys1 4 [Vbp 27,Vbn 28 27,Ya 29 4 28,Vdg 30 29,Vah 31 30,Yh 32 31,Vcb 33 32,Yv 5 33])) .skip)) (Yr 5 [Yv 34 5,Vce 35 0 1 1 1 1 34,Var 3 4 35]))))⟩
theorem ok_c_Z0:Qao prog 101 c_Z0=true:=Qac func101 X0k
def j_Z0_0 (M:Mach) (n0:Nat) (z4 z5:V) (U:Objs):Ro:=Ueg z5 fun x8=> Ua3 z4 x8 U 3 fun p9=> Ub4 z4 p9.2 3 fun x10=> bd (oK false x10) (nK n0 p9.2)
def s_Z0:=Uaz a1 U fun p0=>
 let s1:Objs:=p0.2++[.cells [(.int .i64 0),(.int .i64 0),.nils]]
 Uat a0 fun x2=> Uen x2 fun x3=> Uc7 x3 fun x4=> Uac x4 s1 fun x5=> Uaq p0.1 s1 7 fun x6=> Ucn x5 x6 s1 145 M fun p7=> Uep p7.1 fun x11=> br x11.ng (Uat a0 fun x12=> Uen x12 fun x13=> Uc7 x13 fun x14=> Ucu x14 p7.2 fun p15=> Uaq p0.1 p15.2 7 fun x16=> Udr x16 fun x17=> Ucr p15.1 x17 p15.2 7 80 fun x18=> Uat a0 fun x19=> Uen x19 fun x20=> Uc7 x20 fun x21=> Uct x21 x18 p15.2 fun p22=> Uat a0 fun x23=> Uen x23 fun x24=> Uc7 x24 fun x25=> Uac x25 p22.2 fun x26=> Uam x26 fun x27=> Ubz x27 1 fun x28=> j_Z0_0 M U.length (.ptr p0.2.length 0) x28.ng p22.2) (j_Z0_0 M U.length (.ptr p0.2.length 0) p7.1.ng p7.2)
theorem k_Z0:fnK M c_Z0 [a0,a1] U=s_Z0 M a0 a1 U:=X0k
def c_Z7:Ev.Fn:=⟨24,[.cell 4 true 3],false,false,(Yq 0 [Vau 4] (Yq 1 [Vbg 5] (Yj (Yq 2 [Vbp 8,Yu 9 1,Vbo 10 32 8 9,Yh 11 10,Vaw 12] (.block 0 (.loop [4,5,10,11,12] [4,5] (Yq 3 [Vat 13 12 11] (Yj (Yz 13 .skip (.exit 0)) (Yj (.block 1 (Yq 4 [Vet 14 10 12,Vah 15 14,Yv 7 15] (Ys1 5 [Yu 16 5,Yv 17 7,Vce 18 0 1 2 1 1 17,Vdf 19 3 18,Vb4 20 3 40 16 19,Yu 5 20]))) (Ys1 6 [Vaf 21 12,Yv 12 21]))))))) (Yr 7 [Yu 22 5,Vc9 23 147 22,Var 3 4 23]))))⟩
theorem ok_c_Z7:Qao prog 103 c_Z7=true:=Qac func103 X0k
def b_Z7_0:=Uaw z12 z11 fun x3=> br x3.ng (Ubm z12 z10 1 fun x4=> Uac x4 U fun x5=> bd (pu (Qaw [(.int .i64 0),(.int .i64 0),.nils] [(0,1,(.int .i64 2)),(1,1,x5.ng.ng.ng)])) fun x6=> Ubo x6 fun x7=> Ucr z5 x7 U 3 40 fun x8=> Ua0 z12 fun x9=> UF n1 U [z4,x8,z10,z11,x9.ng] r1) (Uae z4 U n1 fun y16=> Uae z5 U n1 fun y17=> Uay U n1 fun s18=> Ubr y17 s18 147 M fun p19=> Ua3 y16 p19.1 p19.2 3 fun p20=> Ub4 y16 p20.2 3 fun x21=> bd (oK false x21) (nK n0 p20.2))
def l_Z7_0:=M.fx (X0Lf (b_Z7_0 M n0 n1))
def s_Z7:=
 let s0:Objs:=U++[.cells [(.int .i64 0),(.int .i64 0),.nils]]
 Ubj a0 a1 s0 32 M fun p1=> Uam p1.1 fun x2=> Ubl p1.2 U fun y22=> Ucc p1.2 fun y23=> Uaa p1.1 p1.2 fun y24=> Uaa x2 p1.2 fun y25=> Ud2 p1.2 fun y26=> l_Z7_0 M U.length p1.2.length [y22,y23,y24,y25,y26] p1.2
theorem k_Z7:fnK M c_Z7 [a0,a1] U=s_Z7 M a0 a1 U:=X0k
def c_Z1c:Ev.Fn:=⟨6,[.cell 2 true 3],false,false,(Yq 0 [Vbz 1,Vau 2] (Yr 1 [Va7 3 3 1,Vdf 4 3 3,Vce 5 0 1 3 2 1 4,Var 3 2 5]))⟩
theorem ok_c_Z1c:Qao prog 104 c_Z1c=true:=Qac func104 X0k
def s_Z1c (M:Mach) (a0:V) (U:Objs):Ro:=Uaz a0 U fun p0=>
 let s1:Objs:=p0.2++[.cells [(.int .i64 0),(.int .i64 0),.nils]]
 Uaq p0.1 s1 3 fun x2=> Ubo x2 fun x3=> Ucg x3 0 1 2 0 3 fun x4=> Ud4 x4 s1 p0.2 fun p5=> Uba p5.2 p0.2 fun x6=> bd (oK false x6) (nK U.length p5.2)
theorem k_Z1c:fnK M c_Z1c [a0] U=s_Z1c M a0 U:=X0k
def c_Z2:Ev.Fn:=⟨33,[.cell 4 true 3],false,false,(Yq 0 [Vby 3,Vau 4] (Yq 1 [Vbp 6,Ya 7 10 3,Vah 8 7,Vbo 9 32 6 8,Yu 5 9] (Yj (.drw 2 [⟨Yv 10 0,0,[]⟩,⟨Yv 11 0,1,[]⟩,⟨Yk 12 (.nilc 11),2,[]⟩,⟨Ya 13 4 12,3,[]⟩,⟨Ya 14 2 13,4,[]⟩,⟨Yk 15 (.loadT 14),5,[]⟩,⟨Ya 16 8 3,6,[]⟩,⟨Yl 17 true 2 16,7,[]⟩,⟨Yu 18 5,8,[]⟩,⟨Yk 19 (.build [Y0,Y0,.nils] [(0,2,17),(2,1,18)]),9,[]⟩,⟨Yk 20 (.buildSl true 3 1 (.agg [Y0,Y0,.nils]) [(0,19)] false),10,[]⟩,⟨Yk 21 (.app false true 3 40 15 20 true),11,[]⟩,⟨Yk 22 (.nilc 10),12,[]⟩,⟨Ya 23 4 22,13,[]⟩,⟨Ya 24 2 23,14,[]⟩,⟨Yw 1 24 21 true,15,[]⟩]) (Yr 3 [Vbp 25,Vbn 26 25,Ya 27 4 26,Ya 28 2 27,Vah 29 28,Yh 30 29,Vcb 31 30,Vce 32 0 1 5 1 1 31,Var 3 4 32]))))⟩
theorem ok_c_Z2:Qao prog 105 c_Z2=true:=Qac func105 X0k
def s_Z2:=Uaz a1 U fun p0=>
 let s1:Objs:=p0.2++[.cells [(.int .i64 0),(.int .i64 0),.nils]]
 Uaf p0.1 10 fun x2=> Uac x2 s1 fun x3=> Ubj a0 x3 s1 32 M fun p4=> Uat a0 fun x5=> Uen x5 fun x6=> Uaf x6 2 fun x7=> Ucu x7 p4.2 fun p8=> Uaf p0.1 8 fun x9=> Uaq x9 p8.2 2 fun x10=> bd (pu (Qaw [(.int .i64 0),(.int .i64 0),.nils] [(0,2,x10.ng),(2,1,p4.1.ng)])) fun x11=> Ubo x11 fun x12=> Ucr p8.1 x12 p8.2 3 40 fun x13=> Uat a0 fun x14=> Uen x14 fun x15=> Uaf x15 2 fun x16=> Uct x16 x13 p8.2 fun p17=> Uat a0 fun x18=> Uen x18 fun x19=> Uaf x19 2 fun x20=> Uac x20 p17.2 fun x21=> Uam x21 fun x22=> Ubz x22 1 fun x23=> Ucs x23 0 1 0 5 fun x24=> Ud4 x24 p17.2 p0.2 fun p25=> Uba p25.2 p0.2 fun x26=> bd (oK false x26) (nK U.length p25.2)
theorem k_Z2:fnK M c_Z2 [a0,a1] U=s_Z2 M a0 a1 U:=X0k
def c_Z4:Ev.Fn:=⟨22,[.cell 2 true 3],false,false,(Yq 0 [Vau 2] (Yq 1 [Vbp 5,Yk 6 (.build [Y0,Y0,Yn,Yn,Y0,Yn,Yb,Y0,Y0,Y0,.nils] [(3,1,(Ys [97]))]),Vbo 7 99 5 6,Vbp 8,Yk 9 (.build [Y0,Y0,Yn,Yn,Y0,Yn,Yb,Y0,Y0,Y0,.nils] [(3,1,(Ys [97,114,101,97]))]),Vbo 10 99 8 9,Yk 11 (.buildSl true 3 2 (.agg [Y0,Y0,.nils]) [(0,7),(1,10)] false),Vc9 12 147 11,Vau 3,Var 3 3 12] (Yq 2 [Vbp 13,Ve2 14 100 13 104 114 101 102,Vau 4,Var 3 4 14] (Yj (.drw 3 [⟨Yl 15 true 3 3,0,[]⟩,⟨Yl 17 true 3 4,2,[]⟩,⟨Yc 16 104 [15],1,[1]⟩,⟨Yc 18 104 [17],3,[]⟩,⟨Yk 19 (.buildSl true 3 2 (.agg [Y0,Y0,.nils]) [(0,16),(1,18)] false),4,[]⟩,⟨Yc 20 147 [19],5,[]⟩,⟨Yc 21 104 [20],6,[]⟩,⟨Yw 3 2 21 false,7,[]⟩]) .ret))))⟩
theorem ok_c_Z4:Qao prog 106 c_Z4=true:=Qac func106 X0k
def s_Z4:=
 let s0:Objs:=U++[.cells [(.int .i64 0),(.int .i64 0),.nils]]
 bd (pu (Qaw [(.int .i64 0),(.int .i64 0),(.str []),(.str []),(.int .i64 0),(.str []),(.bool false),(.int .i64 0),(.int .i64 0),(.int .i64 0),.nils] [(3,1,(.str [97]))])) fun x1=> Ubj a0 x1 s0 99 M fun p2=> bd (pu (Qaw [(.int .i64 0),(.int .i64 0),(.str []),(.str []),(.int .i64 0),(.str []),(.bool false),(.int .i64 0),(.int .i64 0),(.int .i64 0),.nils] [(3,1,(.str [97,114,101,97]))])) fun x3=> Ubj a0 x3 p2.2 99 M fun p4=> Ucp p2.1 p4.1 fun x5=> Ubr x5 p4.2 147 M fun p6=>
 let s7:Objs:=p6.2++[.cells [(.int .i64 0),(.int .i64 0),.nils]]
 Ud4 p6.1 s7 p6.2 fun p8=> bd (M.call 100 [a0.ng.ng,(.str [104,114,101,102]),(.int .i64 1),(.str [])] p8.2) fun p9=>
 let s10:Objs:=p9.2++[.cells [(.int .i64 0),(.int .i64 0),.nils]]
 Ud4 p9.1 s10 p9.2 fun p11=> Ub1 p11.2 p6.2 3 0 fun x12=> Ub1 p11.2 p9.2 3 0 fun x13=> bd (Qgd [Qcn true 3 (.ptr p9.2.length 0)] p11.2) fun s14=> Ubr x12 s14 104 M fun p16=> bd (Qei [Qcn true 3 (.ptr p9.2.length 0)] p11.2 p16.2) fun s15=> Ubr x13 s15 104 M fun p17=> Ucp p16.1 p17.1 fun x18=> Ubr x18 p17.2 147 M fun p19=> Ubr p19.1 p19.2 104 M fun p20=> Ud4 p20.1 p20.2 U fun p21=> Uba p21.2 U fun x22=> bd (oK false x22) (nK U.length p21.2)
theorem k_Z4:fnK M c_Z4 [a0] U=s_Z4 M a0 U:=X0k
def c_Z2i:Ev.Fn:=⟨33,[.tmp 2],false,false,(Yq 0 [Vaw 2] (Yq 1 [Yk 6 (.buildSl false 1 5 Y0 [(0,(Yi 0)),(1,(Yi 0)),(2,(Yi 192)),(3,(Yi 224)),(4,(Yi 240))] false),Yu 3 6] (Yj (.drw 2 [⟨Yv 7 0,0,[]⟩,⟨Ye 8 1 7 (Yi 0),1,[]⟩,⟨Yl 9 false 1 8,2,[]⟩,⟨Yk 10 (.conv (.toInt .i64) 9),3,[]⟩,⟨Yu 11 3,4,[]⟩,⟨Yv 12 0,5,[]⟩,⟨Yh 13 12,6,[]⟩,⟨Ye 14 1 11 13,7,[]⟩,⟨Yl 15 false 1 14,8,[]⟩,⟨Yo 16 .sub .no 10 15,9,[]⟩,⟨Yv 4 16,10,[]⟩]) (Yj (Yq 3 [Vdd 5 1] (.block 0 (.loop [0,4,5] [2,4] (Yj (Yq 4 [Yv 17 5,Vbp 18,Yh 19 18,Vat 20 17 19] (Yz 20 .skip (.exit 0))) (Yj (.block 1 (Ys1 6 [Yv 23 4,Yo 24 .mul .no (Yi 64) 23,Vbp 25,Yv 26 5,Vet 27 25 26,Vah 28 27,Vcs 29 28,Vcl 30 24 29,Yo 31 .sub .no 30 (Yi 128),Yv 4 31])) (Ys1 5 [Yv 21 5,Vaf 22 21,Yv 5 22])))))) (Yr 7 [Yv 32 4,Yv 2 32])))))⟩
theorem ok_c_Z2i:Qao prog 107 c_Z2i=true:=Qac func107 X0k
def b_Z2i_0 (M:Mach) (n0:Nat) (n1:Nat) (r1:Rk) (z0 z4 z5:V) (U:Objs):Ro:=Uau z0 fun x8=> Ual z5 x8 fun x9=> br x9.ng (bd (pu (eB .mul .no (.int .i64 64) z4.ng.ng)) fun x10=> Ubb z5 z0 1 fun x11=> Uac x11 U fun x12=> Uc0 x12 U fun x13=> Udv x10 x13 fun x14=> Ubz x14 128 fun x15=> Uap z5 fun x16=> UF n1 U [z0,x15.ng,x16.ng] r1) (Uar U n1 fun y21=> Uae z4 U n1 fun y22=> Uay U n1 fun s23=> bd (oK false y22.ng.ng) (nK n0 s23))
def l_Z2i_0:=M.fx (X0Ld (b_Z2i_0 M n0 n1))
def s_Z2i:=bd (Qam false 1 5 (.int .i64 0) [(0,(.int .i64 0)),(1,(.int .i64 0)),(2,(.int .i64 192)),(3,(.int .i64 224)),(4,(.int .i64 240))]) fun x0=> Ub5 a0 1 0 fun x1=> Uac x1 U fun x2=> Uc0 x2 U fun x3=> Uau a0 fun x4=> Ubm x4 x0 1 fun x5=> Uac x5 U fun x6=> bd (pu (eB .sub .no x3.ng x6.ng)) fun x7=> Uaa a0 U fun y24=> Ua2 x7 U fun y25=> Uaj U 1 fun y26=> l_Z2i_0 M U.length U.length [y24,y25,y26] U
theorem k_Z2i:fnK M c_Z2i [a0] U=s_Z2i M a0 U:=X0k
def c_Z2g:Ev.Fn:=⟨21,[.tmp 2],false,false,(Yq 0 [Vbf 2] (Yj (Yq 1 [Vbp 4,Yh 5 4,Vaf 6 5,Yv 3 6] (.block 0 (.loop [0,3] [2] (Yj (Yq 2 [Yv 7 3,Vd4 8 7 4] (Yz 8 .skip (.exit 0))) (Yj (.block 1 (Yq 4 [Vbp 11,Yv 12 3,Yc 13 148 [11,(.c (.int .u8 128)),12],Vc9 14 78 13,Yv 15 14,Vac 16 15 0,Vac 17 15 3,Veg 18 15 148 16 191 17,Vbe 19 15 78 18,Vap 20 15 19] (Ym 20 5 [Vdc 2]))) (Ys1 3 [Yv 9 3,Vaf 10 9,Yv 3 10])))))) (Yr 6 [Vbf 2])))⟩
theorem ok_c_Z2g:Qao prog 108 c_Z2g=true:=Qac func108 X0k
def b_Z2g_0:=bd (pu (eB .leq .no z3.ng.ng (.int .i64 4))) fun x2=> br x2.ng (bd (M.call 148 [z0.ng.ng,(.int .u8 128),z3.ng.ng] U) fun p3=> Ubr p3.1 p3.2 78 M fun p4=> Uah p4.1 z0 fun x5=> Uah p4.1 z3 fun x6=> bd (gdp p4.1.ng false (M.call 148 [x5.ng,(.int .u8 191),x6.ng] p4.2) p4.2) fun p7=> Uc8 p4.1 p7.1 p7.2 78 M fun p8=> Uad p4.1 p8.1 fun x9=> br x9.ng (Udi p8.2 n1 fun y10=> Uay p8.2 n1 fun s11=> bd (oK false y10) (nK n0 s11)) (Uap z3 fun x12=> UF n1 p8.2 [z0,x12.ng] r1)) (Uar U n1 fun y16=> Uay U n1 fun s17=> bd (oK false (.bool false)) (nK n0 s17))
def l_Z2g_0:=M.fx (X0Lc (b_Z2g_0 M n0 n1))
def s_Z2g:=Uau a0 fun x0=> Ua0 x0 fun x1=> Uaa a0 U fun y18=> Ua2 x1 U fun y19=> l_Z2g_0 M U.length U.length [y18,y19] U
theorem k_Z2g:fnK M c_Z2g [a0] U=s_Z2g M a0 U:=X0k
def c_Z2d:Ev.Fn:=⟨54,[.tmp 2],false,false,(Yq 0 [Vbg 2] (Yj (Yq 1 [Vbp 3,Vck 4 3 128] (Ym 4 2 [Vbp 5,Vbj 6 5,Vct 7 6,Yu 2 7])) (Yj (Yq 3 [Vbp 8,Vck 9 8 2048] (Ym 9 4 [Vbp 10,Vcy 11 10 64,Vb6 12 192 11,Vbj 13 12,Vbp 14,Vcz 15 14 64,Vb6 16 128 15,Vbj 17 16,Yk 18 (.buildSl false 1 2 (.int .u8 0) [(0,13),(1,17)] false),Yu 2 18])) (Yj (Yq 5 [Vbp 19,Vck 20 19 65536] (Ym 20 6 [Vbp 21,Vcy 22 21 4096,Vb6 23 224 22,Vbj 24 23,Vbp 25,Vcy 26 25 64,Vcz 27 26 64,Vb6 28 128 27,Vbj 29 28,Vbp 30,Vcz 31 30 64,Vb6 32 128 31,Vbj 33 32,Yk 34 (.buildSl false 1 3 (.int .u8 0) [(0,24),(1,29),(2,33)] false),Yu 2 34])) (Yr 7 [Vbp 35,Vcy 36 35 262144,Vb6 37 240 36,Vbj 38 37,Vbp 39,Vcy 40 39 4096,Vcz 41 40 64,Vb6 42 128 41,Vbj 43 42,Vbp 44,Vcy 45 44 64,Vcz 46 45 64,Vb6 47 128 46,Vbj 48 47,Vbp 49,Vcz 50 49 64,Vb6 51 128 50,Vbj 52 51,Yk 53 (.buildSl false 1 4 (.int .u8 0) [(0,38),(1,43),(2,48),(3,52)] false),Yu 2 53])))))⟩
theorem ok_c_Z2d:Qao prog 109 c_Z2d=true:=Qac func109 X0k
def s_Z2d (M:Mach) (a0:V) (U:Objs):Ro:=Uc3 a0 128 fun x0=> br x0.ng (bd (pu (eC U (.toInt .u8) a0.ng.ng)) fun x1=> bd (Qam false 1 1 (.int .u8 0) [(0,x1.ng)]) fun x2=> bd (oK false x2) (nK U.length U)) (Uc3 a0 2048 fun x3=> br x3.ng (Uc5 a0 64 fun x4=> Uch x4 192 fun x5=> Ubv x5 U fun x6=> Uet a0 fun x7=> Uch x7 128 fun x8=> Ubv x8 U fun x9=> bd (Qam false 1 2 (.int .u8 0) [(0,x6.ng),(1,x9.ng)]) fun x10=> bd (oK false x10) (nK U.length U)) (Uc3 a0 65536 fun x11=> br x11.ng (Uc5 a0 4096 fun x12=> Uch x12 224 fun x13=> Ubv x13 U fun x14=> Uc5 a0 64 fun x15=> bd (pu (eB .rem .no x15.ng (.int .i64 64))) fun x16=> Uch x16 128 fun x17=> Ubv x17 U fun x18=> Uet a0 fun x19=> Uch x19 128 fun x20=> Ubv x20 U fun x21=> bd (Qam false 1 3 (.int .u8 0) [(0,x14.ng),(1,x18.ng),(2,x21.ng)]) fun x22=> bd (oK false x22) (nK U.length U)) (Uc5 a0 262144 fun x23=> Uch x23 240 fun x24=> Ubv x24 U fun x25=> Uc5 a0 4096 fun x26=> bd (pu (eB .rem .no x26.ng (.int .i64 64))) fun x27=> Uch x27 128 fun x28=> Ubv x28 U fun x29=> Uc5 a0 64 fun x30=> bd (pu (eB .rem .no x30.ng (.int .i64 64))) fun x31=> Uch x31 128 fun x32=> Ubv x32 U fun x33=> Uet a0 fun x34=> Uch x34 128 fun x35=> Ubv x35 U fun x36=> bd (Qam false 1 4 (.int .u8 0) [(0,x25.ng),(1,x29.ng),(2,x33.ng),(3,x36.ng)]) fun x37=> bd (oK false x37) (nK U.length U))))
theorem k_Z2d:fnK M c_Z2d [a0] U=s_Z2d M a0 U:=X0k
def c_Zp:Ev.Fn:=⟨31,[.cell 8 true 3],false,false,(Yq 0 [Vau 8] (Yq 1 [Vbp 12,Yv 13 2,Yv 14 3,Yc 15 112 [12,13,14,Yf],Yv 11 15,Vex 16 11,Vey 17 11,Yv 9 16,Yv 10 17] (Yj (Yq 2 [Vcj 18,Vel 19 18,Yv 20 19,Vaa 21 20 9,Vak 22 20 21,Vag 23 20 22] (Ym 23 3 [Vbs 24 7,Var 3 8 24])) (Yr 4 [Vbp 25,Yv 26 9,Yv 27 10,Vcj 28,Yk 29 (.build [Y0,Yb,Yn,Yn,Y0,Yn,Yb] [(0,1,(Yi 1)),(1,1,26),(2,1,27),(3,1,28)]),Vbo 30 113 25 29,Var 3 8 30]))))⟩
theorem ok_c_Zp:Qao prog 110 c_Zp=true:=Qac func110 X0k
def s_Zp:=
 let s0:Objs:=U++[.cells [(.int .i64 0),(.int .i64 0),.nils]]
 bd (M.call 112 [a0.ng.ng,a2.ng.ng,a3.ng.ng,(.bool false)] s0) fun p1=> Ubk p1.1 0 fun x2=> Ubk p1.1 1 fun x3=> bd (pu (eB .eql .no a1.ng.ng (.str []))) fun x4=> Uan x4 x2 fun x5=> Uav x4 x5 fun x6=> Uab x4 x6 fun x7=> br x7.ng (Ub2 0 1 0 7 fun x8=> Ud4 x8 p1.2 U fun p9=> Uba p9.2 U fun x10=> bd (oK false x10) (nK U.length p9.2)) (bd (pu (Qaw [(.int .i64 0),(.bool false),(.str []),(.str []),(.int .i64 0),(.str []),(.bool false)] [(0,1,(.int .i64 1)),(1,1,x2.ng.ng.ng),(2,1,x3.ng.ng.ng),(3,1,a1.ng.ng)])) fun x11=> Ubj a0 x11 p1.2 113 M fun p12=> Ud4 p12.1 p12.2 U fun p13=> Uba p13.2 U fun x14=> bd (oK false x14) (nK U.length p13.2))
theorem k_Zp:fnK M c_Zp [a0,a1,a2,a3] U=s_Zp M a0 a1 a2 a3 U:=X0k
def c_Zr:Ev.Fn:=⟨16,[.cell 8 true 3],false,false,(Yq 0 [Vau 8] (Yr 1 [Vbp 9,Vcj 10,Yv 11 2,Yv 12 3,Vdt 13 11 12,Ves 14 10 4 13,Vbo 15 113 9 14,Var 3 8 15]))⟩
theorem ok_c_Zr:Qao prog 111 c_Zr=true:=Qac func111 X0k
def s_Zr:=
 let s0:Objs:=U++[.cells [(.int .i64 0),(.int .i64 0),.nils]]
 Ues a2 a3 fun x1=> Uc6 a1 x1 fun x2=> Ubj a0 x2 s0 113 M fun p3=> Ud4 p3.1 p3.2 U fun p4=> Uba p4.2 U fun x5=> bd (oK false x5) (nK U.length p4.2)
theorem k_Zr:fnK M c_Zr [a0,a1,a2,a3] U=s_Zr M a0 a1 a2 a3 U:=X0k
def c_Zu:Ev.Fn:=⟨53,[.tmp 8,.tmp 9],false,false,(Yq 0 [Vbf 8,Vb7 9] (Yj (Yq 1 [Vcj 12,Vai 13 12 1,Yv 14 13,Vac 15 14 1,Vao 16 14 15 0,Vac 17 14 16,Vaa 18 17 3,Vak 19 17 18,Vba 20 14 17 19,Vac 21 14 20,Vab 22 21,Vdh 23 21 22,Vam 24 21 0 23,Vam 25 21 0 24,Vad 26 21 25,Vak 27 21 26,Vba 28 14 21 27,Vap 29 14 28] (Ym 29 2 [Vbf 8,Vb7 9])) (Yj (Yq 3 [Vcj 30,Vaj 31 30,Yv 32 31,Vaa 33 32 3,Vak 34 32 33,Vag 35 32 34] (Yz 35 (Yj (.drw 4 [⟨Yv 36 0,0,[]⟩,⟨Yk 37 (.nilc 36),1,[]⟩,⟨Ya 38 0 37,2,[]⟩,⟨Ya 39 1 38,3,[]⟩,⟨Yl 40 false 1 39,4,[]⟩,⟨Yv 8 Yt,5,[]⟩,⟨Yv 9 40,6,[]⟩]) .ret) .skip)) (Yj (Yq 5 [Vcj 41,Vai 42 41 3] (Yz 42 (Yq 6 [Vbp 44,Vbn 45 44,Vdg 46 45,Va7 47 4 46,Yv 48 2,Vbo 49 149 47 48,Yv 43 49,Vex 50 43,Vey 51 43,Yv 10 50,Yv 11 51] (Yr 7 [Yv 52 10,Vdc 8,Yv 9 52])) .skip)) (Yr 8 [Vdc 8,Vb7 9])))))⟩
theorem ok_c_Zu:Qao prog 112 c_Zu=true:=Qac func112 X0k
def s_Zu:=Ud6 a1 1 fun x0=> Uah x0 a1 fun x1=> Ua4 x0 x1 0 fun x2=> Uah x0 x2 fun x3=> Uc2 x3 a3 fun x4=> Udf x3 x4 fun x5=> Ub0 x0 x3 x5 fun x6=> Uah x0 x6 fun x7=> Uc2 x7 a0 fun x8=> bd (gdv x7 true (pu (Qa4 x8.ng))) fun x9=> bd (gdv x7 true (pu (eF 0 x9.ng))) fun x10=> bd (gdv x7 true (pu (eF 0 x10.ng))) fun x11=> bd (gdv x7 true (pu (eL U false 1 x11.ng))) fun x12=> Udf x7 x12 fun x13=> Ub0 x0 x7 x13 fun x14=> Uad x0 x14 fun x15=> br x15.ng (nK U.length U (.tup [(.bool false),(.str [])])) (Ud6 a1 0 fun x16=> Uak x16 a3 fun x17=> Uav x16 x17 fun x18=> Uab x16 x18 fun x19=> br x19.ng (Uat a0 fun x20=> Uc7 x20 fun x21=> Udu x21 fun x22=> Uac x22 U fun x23=> nK U.length U (.tup [(.bool true),x23.ng.ng])) (Ud6 a1 3 fun x24=> br x24.ng (Uat a0 fun x25=> Uc7 x25 fun x26=> Uaq x26 U 4 fun x27=> Ud3 x27 a2 U 149 M fun p28=> Ubk p28.1 0 fun x29=> Ubk p28.1 1 fun x30=> nK U.length p28.2 (.tup [(.bool true),x29.ng.ng.ng.ng])) (nK U.length U (.tup [(.bool true),(.str [])]))))
theorem k_Zu:fnK M c_Zu [a0,a1,a2,a3] U=s_Zu M a0 a1 a2 a3 U:=X0k
def c_Zo:Ev.Fn:=⟨48,[.cell 4 true 3],false,false,(Yq 0 [Vby 3,Vau 4] (Yj (Yq 1 [Vaw 5] (.block 0 (.loop [0,3,4,5] [0,3,4] (Yj (Yq 2 [Yv 6 5,Vbp 7,Vbn 8 7,Ya 9 4 8,Vdg 10 9,Vah 11 10,Yh 12 11,Vat 13 6 12] (Yz 13 .skip (.exit 0))) (Yj (.block 1 (Yj (.drw 4 [⟨Yv 16 0,0,[]⟩,⟨Yk 17 (.nilc 16),1,[]⟩,⟨Ya 18 4 17,2,[]⟩,⟨Ya 19 0 18,3,[]⟩,⟨Yl 20 false 1 19,4,[]⟩,⟨Yv 21 5,5,[]⟩,⟨Ye 22 7 20 21,6,[]⟩,⟨Yl 23 true 7 22,7,[]⟩,⟨Yl 24 true 7 3,8,[]⟩,⟨Yo 25 .eql (.agg [.i,.b,.s,.s,.i,.s,.b]) 23 24,9,[]⟩]) (Ym 25 5 [Yv 26 5,Vce 27 0 1 1 1 1 26,Var 3 4 27]))) (Ys1 3 [Yv 14 5,Vaf 15 14,Yv 5 15])))))) (Yj (.drw 6 [⟨Yv 28 0,0,[]⟩,⟨Yv 29 0,1,[]⟩,⟨Yk 30 (.nilc 29),2,[]⟩,⟨Ya 31 4 30,3,[]⟩,⟨Ya 32 0 31,4,[]⟩,⟨Yk 33 (.loadT 32),5,[]⟩,⟨Yl 34 true 7 3,6,[]⟩,⟨Yk 35 (.buildSl true 7 1 (.agg [Y0,Yb,Yn,Yn,Y0,Yn,Yb]) [(0,34)] false),7,[]⟩,⟨Yk 36 (.app false true 7 80 33 35 true),8,[]⟩,⟨Yk 37 (.nilc 28),9,[]⟩,⟨Ya 38 4 37,10,[]⟩,⟨Ya 39 0 38,11,[]⟩,⟨Yw 1 39 36 true,12,[]⟩]) (Yr 7 [Vbp 40,Vbn 41 40,Ya 42 4 41,Vdg 43 42,Vah 44 43,Yh 45 44,Vcb 46 45,Vce 47 0 1 1 1 1 46,Var 3 4 47]))))⟩
theorem ok_c_Zo:Qao prog 113 c_Zo=true:=Qac func113 X0k
def b_Zo_0 (M:Mach) (n0:Nat) (n1:Nat) (r1:Rk) (z0 z3 z4 z5:V) (U:Objs):Ro:=Uat z0 fun x2=> Uen x2 fun x3=> Uc7 x3 fun x4=> Uac x4 U fun x5=> Uam x5 fun x6=> Ual z5 x6 fun x7=> br x7.ng (Uat z0 fun x8=> Uen x8 fun x9=> Uc7 x9 fun x10=> Uac x10 U fun x11=> Ube z5 x11 7 fun x12=> Uaq x12 U 7 fun x13=> Uaq z3 U 7 fun x14=> Ucd x13 x14 fun x15=> br x15.ng (Ueg z5 fun x16=> Ua3 z4 x16 U 3 fun p17=> Uae z0 p17.2 n1 fun y18=> Uae z3 p17.2 n1 fun y19=> Uae z4 p17.2 n1 fun y20=> Uay p17.2 n1 fun s21=> Ub4 y20 s21 3 fun x22=> bd (oK false x22) (nK n0 s21)) (Uap z5 fun x23=> UF n1 U [z0,z3,z4,x23.ng] r1)) (Uae z0 U n1 fun y29=> Uae z3 U n1 fun y30=> Uae z4 U n1 fun y31=> Uay U n1 fun s32=> Uat y29 fun x33=> Uen x33 fun x34=> Uc7 x34 fun x35=> Ucu x35 s32 fun p36=> Uaq y30 p36.2 7 fun x37=> Udr x37 fun x38=> Ucr p36.1 x38 p36.2 7 80 fun x39=> Uat y29 fun x40=> Uen x40 fun x41=> Uc7 x41 fun x42=> Uct x42 x39 p36.2 fun p43=> Uat y29 fun x44=> Uen x44 fun x45=> Uc7 x45 fun x46=> Uac x46 p43.2 fun x47=> Uam x47 fun x48=> Ubz x48 1 fun x49=> Ucs x49 0 1 0 1 fun x50=> Ua3 y31 x50 p43.2 3 fun p51=> Ub4 y31 p51.2 3 fun x52=> bd (oK false x52) (nK n0 p51.2))
def l_Zo_0:=M.fx (X0Le (b_Zo_0 M n0 n1))
def s_Zo:=Uaz a1 U fun p0=>
 let s1:Objs:=p0.2++[.cells [(.int .i64 0),(.int .i64 0),.nils]]
 Uaa a0 s1 fun y53=> Uaa p0.1 s1 fun y54=> Ubl s1 p0.2 fun y55=> Ud2 s1 fun y56=> l_Zo_0 M U.length s1.length [y53,y54,y55,y56] s1
theorem k_Zo:fnK M c_Zo [a0,a1] U=s_Zo M a0 a1 U:=X0k
def c_Zt:Ev.Fn:=⟨29,[.cell 4 true 3],false,false,(Yq 0 [Vau 4] (Yq 1 [Vbs 8 4,Vbp 9,Yu 10 1,Vbo 11 41 9 10,Vau 5,Var 3 5 8,Yu 6 11] (Yj (Yq 2 [Vaw 7] (.block 0 (.loop [4,5,6,7] [4,5] (Yj (Yq 3 [Yv 12 7,Yv 13 6,Yh 14 13,Vat 15 12 14] (Yz 15 .skip (.exit 0))) (Yj (.block 1 (.drw 5 [⟨Ya 18 2 5,0,[]⟩,⟨Yk 19 (.loadT 18),1,[]⟩,⟨Yv 20 6,2,[]⟩,⟨Yv 21 7,3,[]⟩,⟨Ye 22 1 20 21,4,[]⟩,⟨Yl 23 false 1 22,5,[]⟩,⟨Yk 24 (.build [Y0,Y0,.nils] [(0,1,(Yi 2)),(1,1,23)]),6,[]⟩,⟨Yk 25 (.buildSl true 3 1 (.agg [Y0,Y0,.nils]) [(0,24)] false),7,[]⟩,⟨Yk 26 (.app false true 3 40 19 25 true),8,[]⟩,⟨Ya 27 2 5,9,[]⟩,⟨Yw 1 27 26 true,10,[]⟩])) (Ys1 4 [Yv 16 7,Vaf 17 16,Yv 7 17])))))) (Yr 6 [Va7 28 3 5,Var 3 4 28]))))⟩
theorem ok_c_Zt:Qao prog 114 c_Zt=true:=Qac func114 X0k
def b_Zt_0 (M:Mach) (n0:Nat) (n1:Nat) (r1:Rk) (z4 z5 z6 z7:V) (U:Objs):Ro:=Uau z6 fun x5=> Ual z7 x5 fun x6=> br x6.ng (Uaf z5 2 fun x7=> Ucu x7 U fun p8=> Ubb z7 z6 1 fun x9=> Uac x9 p8.2 fun x10=> Ucs x10 0 1 0 2 fun x11=> Ubo x11 fun x12=> Ucr p8.1 x12 p8.2 3 40 fun x13=> Uaf z5 2 fun x14=> Uct x14 x13 p8.2 fun p15=> Uap z7 fun x16=> UF n1 p15.2 [z4,z5,z6,x16.ng] r1) (Uae z4 U n1 fun y22=> Uae z5 U n1 fun y23=> Uay U n1 fun s24=> Uaq y23 s24 3 fun x25=> Ua3 y22 x25 s24 3 fun p26=> Ub4 y22 p26.2 3 fun x27=> bd (oK false x27) (nK n0 p26.2))
def l_Zt_0:=M.fx (X0Le (b_Zt_0 M n0 n1))
def s_Zt:=
 let s0:Objs:=U++[.cells [(.int .i64 0),(.int .i64 0),.nils]]
 Ub2 0 1 0 4 fun x1=> Ubj a0 a1 s0 41 M fun p2=>
 let s3:Objs:=p2.2++[.cells [(.int .i64 0),(.int .i64 0),.nils]]
 Ud4 x1 s3 p2.2 fun p4=> Ubl p4.2 U fun y28=> Ubl p4.2 p2.2 fun y29=> Uaa p2.1 p4.2 fun y30=> Ud2 p4.2 fun y31=> l_Zt_0 M U.length p4.2.length [y28,y29,y30,y31] p4.2
theorem k_Zt:fnK M c_Zt [a0,a1] U=s_Zt M a0 a1 U:=X0k
def c_Z40:Ev.Fn:=⟨6,[.cell 2 true 3],false,false,(Yq 0 [Vbz 1,Vau 2] (Yr 1 [Va7 3 3 1,Vdf 4 3 3,Vce 5 0 1 3 2 1 4,Var 3 2 5]))⟩
theorem ok_c_Z40:Qao prog 115 c_Z40=true:=Qac func115 X0k
def s_Z40 (M:Mach) (a0:V) (U:Objs):Ro:=Uaz a0 U fun p0=>
 let s1:Objs:=p0.2++[.cells [(.int .i64 0),(.int .i64 0),.nils]]
 Uaq p0.1 s1 3 fun x2=> Ubo x2 fun x3=> Ucg x3 0 1 2 0 3 fun x4=> Ud4 x4 s1 p0.2 fun p5=> Uba p5.2 p0.2 fun x6=> bd (oK false x6) (nK U.length p5.2)
theorem k_Z40:fnK M c_Z40 [a0] U=s_Z40 M a0 U:=X0k
def c_Z2v:Ev.Fn:=⟨43,[.tmp 4],false,false,(Yq 0 [Vaw 4] (Yj (.block 0 (.loop [0,1] [1,4] (Yj (Yq 1 [Vbp 5,Vcj 6,Vc6 7 124 5 6 47,Yv 8 7,Vab 9 8,Vaa 10 8 1,Va1 11 8 10,Vay 12 8 124 9 11 42,Vag 13 8 12] (Yz 13 .skip (.exit 0))) (.block 1 (Yq 2 [Vcj 14,Vb5 15 14 2,Yv 1 15] (Yj (.block 2 (.loop [0,1] [0,1,4] (Yj (Yq 3 [Vcj 16,Vbp 17,Yh 18 17,Vat 19 16 18,Yv 20 19,Vab 21 20,Vaa 22 20 1,Vay 23 20 124 21 22 42,Vaa 24 20 23,Vab 25 24,Vaa 26 24 1,Va1 27 24 26,Vay 28 24 124 25 27 47,⟨some 29,(some (20,true)),.pick 24 28 Yf⟩,Vak 30 20 29,Vag 31 20 30] (Yz 31 .skip (.exit 2))) (.block 3 (Ys1 4 [Vcj 32,Vaf 33 32,Yv 1 33]))))) (Yq 5 [Vcj 34,Vb5 35 34 2,Yv 1 35] (Yq 6 [Vcj 36,Vbp 37,Yh 38 37,Vdo 39 36 38] (Yz 39 (Ys1 7 [Vbp 40,Yh 41 40,Yv 1 41]) .skip))))))))) (Yr 8 [Vcj 42,Yv 4 42])))⟩
theorem ok_c_Z2v:Qao prog 118 c_Z2v=true:=Qac func118 X0k
def c_Z2o:Ev.Fn:=⟨13,[.tmp 2],false,false,(Yq 0 [Vbf 2] (Yr 1 [Vbp 3,Vai 4 3 32,Yv 5 4,Vac 6 5 0,Vao 7 5 6 9,Vap 8 5 7,Yv 9 8,Vac 10 9 0,Vao 11 9 10 10,Vap 12 9 11,Yv 2 12]))⟩
theorem ok_c_Z2o:Qao prog 119 c_Z2o=true:=Qac func119 X0k
def c_Z32:Ev.Fn:=⟨16,[.tmp 4],false,false,(Yq 0 [Vbf 4] (Yr 1 [Vcj 5,Vbp 6,Yh 7 6,Vat 8 5 7,Yv 9 8,Vbq 10 9,Vaa 11 9 1,Vb2 12 9 10 11,Vad 13 9 12,Van 14 9 119 13,Vag 15 9 14,Yv 4 15]))⟩
theorem ok_c_Z32:Qao prog 120 c_Z32=true:=Qac func120 X0k
def c_Z31:Ev.Fn:=⟨29,[.tmp 4],false,false,(Yq 0 [Vbf 4] (Yj (Yq 1 [Vbp 5,Vcj 6,Vc6 7 124 5 6 43,Yv 8 7,Vac 9 8 0,Vac 10 8 1,Vc4 11 8 124 9 10 45,Vap 12 8 11] (Yz 12 (Ys1 2 [Vcj 13,Vaf 14 13,Yv 1 14]) .skip)) (Yr 3 [Vbp 15,Vcj 16,Vbo 17 155 15 16,Yv 18 17,Vac 19 18 0,Vac 20 18 1,Vc4 21 18 124 19 20 46,Vac 22 18 21,Vbq 23 22,Vaa 24 22 1,Va1 25 22 24,Va4 26 22 155 23 25,Vba 27 18 22 26,Vap 28 18 27,Yv 4 28])))⟩
theorem ok_c_Z31:Qao prog 122 c_Z31=true:=Qac func122 X0k
def c_Z2z:Ev.Fn:=⟨19,[.tmp 6],false,false,(Yq 0 [Vbf 6] (Yr 1 [Vcj 7,Vbp 8,Yh 9 8,Vat 10 7 9,Yv 11 10,Vbq 12 11,Vaa 13 11 1,Vb2 14 11 12 13,Vad 15 11 14,Vaa 16 11 2,Vbd 17 11 15 16,Vag 18 11 17,Yv 6 18]))⟩
theorem ok_c_Z2z:Qao prog 124 c_Z2z=true:=Qac func124 X0k
def s_Z2z (M:Mach) (a0 a1 a2:V) (U:Objs):Ro:=Uau a0 fun x0=> Ual a1 x0 fun x1=> gd x1.ng true (Uak x1 a1 fun x2=> bd (gdv x1.ng true (pu (eI 1 x2.ng a0.ng))) fun x3=> Uax x1 x3 U fun x4=> Uak x1 a2 fun x5=> Ubg x1 x4 x5 fun x6=> Uab x1 x6 fun x7=> bd (oK false x7.ng) (nK U.length U)) (Uak x1 a1 fun x8=> bd (gdv x1.ng true (pu (eI 1 x8.ng .undef))) fun x9=> Uax x1 x9 U fun x10=> Uak x1 a2 fun x11=> Ubg x1 x10 x11 fun x12=> Uab x1 x12 fun x13=> bd (oK false x13.ng) (nK U.length U))
theorem k_Z2z:fnK M c_Z2z [a0,a1,a2] U=s_Z2z M a0 a1 a2 U:=X0k
def c_Z2s:Ev.Fn:=⟨32,[.tmp 4],false,false,(Yq 0 [Vbf 4] (Yj (Yq 1 [Vbp 5,Vcj 6,Vc6 7 124 5 6 45] (Ym 7 2 [Vbp 8,Vcj 9,Vaf 10 9,Vc6 11 124 8 10 45,Yv 12 11,Vac 13 12 0,Vac 14 12 1,Vcv 15 12 14,Vbb 16 12 157 13 15,Vap 17 12 16,Yv 18 17,Vdx 19 18,Vac 20 18 1,Vcv 21 18 20,Vbb 22 18 129 19 21,Vap 23 18 22,Yv 4 23])) (Yr 3 [Vbp 24,Vcj 25,Vbo 26 157 24 25,Yv 27 26,Vdx 28 27,Vac 29 27 1,Vbb 30 27 129 28 29,Vap 31 27 30,Yv 4 31])))⟩
theorem ok_c_Z2s:Qao prog 125 c_Z2s=true:=Qac func125 X0k
def c_Z2w:Ev.Fn:=⟨53,[.cell 4 true 6],false,false,(Yq 0 [Vbc 4] (Yq 1 [Vbp 9,Vcj 10,Vbo 11 127 9 10,Yv 8 11,Vex 12 8,Vey 13 8,Yv 5 12,Yv 6 13] (Yj (Yq 2 [Vbp 14,Yv 15 6,Vc6 16 124 14 15 40,Vbm 17 16] (Ym 17 3 [Vcj 18,Yv 19 6,Yv 20 5,Vdn 21 0 1 1 1 1 18 2 1 19 3 1 20,Var 6 4 21])) (Yq 4 [Yv 22 6,Vaf 23 22,Yv 7 23] (Yj (.block 0 (.loop [0,1,4,5,6,7] [0,1,4,5,6,7] (Yj (Yq 5 [Vbp 24,Yv 25 7,Vbo 26 120 24 25] (Yz 26 .skip (.exit 0))) (.block 1 (Ys1 6 [Yv 27 7,Vaf 28 27,Yv 7 28]))))) (Yj (Yq 7 [Yv 29 5,Vc9 30 158 29,Yo 31 .eql .no 30 (Ys [117,114,108]),Yv 32 31,Vab 33 32,Vaa 34 32 7,Vay 35 32 124 33 34 34,Vak 36 32 35,Vag 37 32 36,Yv 38 37,Vab 39 38,Vaa 40 38 7,Vay 41 38 124 39 40 39,Vak 42 38 41,Vag 43 38 42] (Ym 43 8 [Vez 44,Vcj 45,Yv 46 7,Ve3 47 159 44 45 46,Var 6 4 47])) (Yr 9 [Vcj 48,Yv 49 6,Vaf 50 49,Yv 51 5,Vdn 52 0 1 2 1 1 48 2 1 50 3 1 51,Var 6 4 52])))))))⟩
theorem ok_c_Z2w:Qao prog 126 c_Z2w=true:=Qac func126 X0k
def c_Z30:Ev.Fn:=⟨39,[.tmp 4,.tmp 5],false,false,(Yq 0 [Vb7 4,Vaw 5] (Yq 1 [Va9 9,Yu 6 9] (.block 0 (.loop [0,1,6] [4,5] (.block 1 (Yq 2 [Vbp 10,Vcj 11,Vbo 12 128 10 11] (Yz 12 (Yq 3 [Yu 13 6,Vbp 14,Vcj 15,Vet 16 14 15,Vah 17 16,Va6 18 17,Va5 19 8 13 18,Yu 6 19] (Ys1 4 [Vcj 20,Vaf 21 20,Yv 1 21])) (Yq 5 [Vbp 22,Vcj 23,Vbo 24 129 22 23] (Yz 24 (Yq 6 [Vbp 26,Vcj 27,Vbo 28 154 26 27,Yv 25 28,Vex 29 25,Vey 30 25,Yv 7 29,Yv 8 30] (Yq 7 [Yu 31 6,Yv 32 7,Va6 33 32,Va5 34 8 31 33,Yu 6 34] (Ys1 8 [Yv 35 8,Yv 1 35]))) (Yr 9 [Yu 36 6,Vc9 37 130 36,Vcj 38,Yv 4 37,Yv 5 38]))))))))))⟩
theorem ok_c_Z30:Qao prog 127 c_Z30=true:=Qac func127 X0k
def c_Z2y:Ev.Fn:=⟨16,[.tmp 4],false,false,(Yq 0 [Vbf 4] (Yr 1 [Vcj 5,Vbp 6,Yh 7 6,Vat 8 5 7,Yv 9 8,Vbq 10 9,Vaa 11 9 1,Vb2 12 9 10 11,Vad 13 9 12,Van 14 9 160 13,Vag 15 9 14,Yv 4 15]))⟩
theorem ok_c_Z2y:Qao prog 128 c_Z2y=true:=Qac func128 X0k
def c_Z2r:Ev.Fn:=⟨15,[.tmp 4],false,false,(Yq 0 [Vbf 4] (Yr 1 [Vbp 5,Vcj 6,Vc6 7 124 5 6 92,Yv 8 7,Vbq 9 8,Vaa 10 8 1,Va1 11 8 10,Vay 12 8 124 9 11 10,Vak 13 8 12,Vag 14 8 13,Yv 4 14]))⟩
theorem ok_c_Z2r:Qao prog 129 c_Z2r=true:=Qac func129 X0k
def c_Z34:Ev.Fn:=⟨30,[.tmp 2],false,false,(Yq 0 [Vb7 2] (Yq 1 [Va9 5,Yu 3 5] (Yj (Yq 2 [Vaw 4] (.block 0 (.loop [0,3,4] [2,3] (Yj (Yq 3 [Yv 6 4,Vbp 7,Yh 8 7,Vat 9 6 8] (Yz 9 .skip (.exit 0))) (Yj (.block 1 (Yq 5 [Vbp 12,Yv 13 4,Vet 14 12 13,Vah 15 14,Vaj 16 15] (Yz 16 (Ys1 6 [Yu 17 3,Yk 18 (.buildSl false 1 1 Y0 [(0,(Yi 65533))] false),Va5 19 8 17 18,Yu 3 19]) (Ys1 7 [Yu 20 3,Vbp 21,Yv 22 4,Vet 23 21 22,Vah 24 23,Va6 25 24,Va5 26 8 20 25,Yu 3 26])))) (Ys1 4 [Yv 10 4,Vaf 11 10,Yv 4 11])))))) (Yr 8 [Yu 27 3,Vc9 28 161 27,Vej 29 28,Yv 2 29]))))⟩
theorem ok_c_Z34:Qao prog 130 c_Z34=true:=Qac func130 X0k
def c_Zf:Ev.Fn:=⟨81,[.tmp 8,.tmp 9,.tmp 10],false,false,(Yq 0 [Vbg 8,Vaw 9,Vbf 10] (Yq 1 [Vdw 16 11,Yu 11 16] (Yq 2 [Vbp 18,Vcj 19,Yc 20 150 [18,19,Yf],Yv 17 20,Vex 21 17,Vey 22 17,Vas 12,Var 11 12 21,Yv 13 22] (Yj (Yq 3 [Vbp 23,Yv 24 13,Vbo 25 151 23 24] (Yz 25 (Yq 4 [Vdg 26 12,Vdz 1 26 1] (Ys1 5 [Vbp 27,Yv 28 13,Vbo 29 92 27 28,Yg 30 false 3 1 29,Ya 31 3 12,Var 1 31 30])) (Yq 6 [Vbp 32,Yv 33 13,Vd7 34 152 32 33 42] (Yz 34 (Ys1 7 [Vdg 35 12,Vdz 1 35 2]) .skip)))) (Yj (Yq 8 [Vdg 36 12,Vah 37 36,Vcp 38 37 0] (Yz 38 (Yq 9 [Yu 39 11,Va7 40 11 12,Vcn 41 11 40,Vb4 42 11 128 39 41,Yu 11 42] (Ys1 10 [Yv 43 13,Vaf 44 43,Yv 13 44])) .skip)) (Yj (.block 0 (.loop [0,2,3,11,13] [0,8,9,10,11,13] (Yj (Yq 11 [Vbp 45,Vbn 46 45,Ya 47 5 46,Vah 48 47,Vaj 49 48] (Yz 49 .skip (.exit 0))) (.block 1 (Yq 12 [Vbp 51,Yv 52 13,Yv 53 2,Vaj 54 53,Yv 55 3,Yv 56 11,Yc 57 153 [51,52,54,55,56],Yv 50 57,Vex 58 50,Vey 59 50,Vas 14,Var 11 14 58,Yv 15 59] (Yj (Yq 13 [Yv 60 15,Yv 61 13,Vcm 62 60 61] (Yz 62 (.exit 0) .skip)) (Yq 14 [Yu 63 11,Va7 64 11 14,Vcn 65 11 64,Vb4 66 11 128 63 65,Yu 11 66] (Yq 15 [Yv 67 15,Yv 13 67] (Yq 16 [Vdg 68 14,Vah 69 68,Vai 70 69 13] (Ym 70 17 [Yu 71 11,Yv 72 13,Yu 8 71,Yv 9 72,Vdc 10])))))))))) (Yj (Yq 18 [Yv 73 11,Yh 74 73,Vaj 75 74] (Yz 75 (Ys1 19 [Vbp 76,Yv 77 13,Vdb 78 93 76 10 77]) .skip)) (Yr 20 [Yu 79 11,Yv 80 13,Yu 8 79,Yv 9 80,Vbf 10]))))))))⟩
theorem ok_c_Zf:Qao prog 116 c_Zf=true:=Qac func116 X0k
def c_Zd:Ev.Fn:=⟨21,[.tmp 4],false,false,(Yq 0 [Vaw 4] (Yq 1 [Yk 7 (.buildSl false 1 3 Yn [(0,(Ys [62])),(1,(Ys [43])),(2,(Ys [126]))] false),Yu 5 7] (Yj (Yq 2 [Vaw 6] (.block 0 (.loop [0,1,5,6] [4] (Yj (Yq 3 [Yv 8 6,Vck 9 8 3] (Yz 9 .skip (.exit 0))) (Yj (.block 1 (Yq 5 [Vbp 12,Vcj 13,Yv 14 5,Yv 15 6,Vet 16 14 15,Vah 17 16,Ve3 18 152 12 13 17] (Ym 18 6 [Yv 19 6,Vb6 20 2 19,Yv 4 20]))) (Ys1 4 [Yv 10 6,Vaf 11 10,Yv 6 11])))))) (Yr 7 [Vaw 4]))))⟩
theorem ok_c_Zd:Qao prog 117 c_Zd=true:=Qac func117 X0k
def c_Z1z:Ev.Fn:=⟨71,[.tmp 2],false,false,(Yq 0 [Yv 2 (.c (.int .u64 0))] (Yj (Yz Yf (Yj (.drw 1 [⟨Yv 3 0,0,[]⟩,⟨Ye 4 1 3 (Yi 0),1,[]⟩,⟨Yl 5 false 1 4,2,[]⟩,⟨Yk 6 (.conv (.toInt .u64) 5),3,[]⟩,⟨Yv 7 0,4,[]⟩,⟨Ye 8 1 7 (Yi 1),5,[]⟩,⟨Yl 9 false 1 8,6,[]⟩,⟨Yk 10 (.conv (.toInt .u64) 9),7,[]⟩,⟨Yo 11 .shl .no 10 (.c (.int .u64 8)),8,[]⟩,⟨Yo 12 .or .no 6 11,9,[]⟩,⟨Yv 13 0,10,[]⟩,⟨Ye 14 1 13 (Yi 2),11,[]⟩,⟨Yl 15 false 1 14,12,[]⟩,⟨Yk 16 (.conv (.toInt .u64) 15),13,[]⟩,⟨Yo 17 .shl .no 16 (.c (.int .u64 16)),14,[]⟩,⟨Yo 18 .or .no 12 17,15,[]⟩,⟨Yv 19 0,16,[]⟩,⟨Ye 20 1 19 (Yi 3),17,[]⟩,⟨Yl 21 false 1 20,18,[]⟩,⟨Yk 22 (.conv (.toInt .u64) 21),19,[]⟩,⟨Yo 23 .shl .no 22 (.c (.int .u64 24)),20,[]⟩,⟨Yo 24 .or .no 18 23,21,[]⟩,⟨Yv 2 24,22,[]⟩]) .ret) .skip) (Yj (.drw 2 [⟨Yv 25 0,0,[]⟩,⟨Ye 26 1 25 (Yi 0),1,[]⟩,⟨Yl 27 false 1 26,2,[]⟩,⟨Yk 28 (.conv (.toInt .u64) 27),3,[]⟩,⟨Yv 29 0,4,[]⟩,⟨Ye 30 1 29 (Yi 1),5,[]⟩,⟨Yl 31 false 1 30,6,[]⟩,⟨Yk 32 (.conv (.toInt .u64) 31),7,[]⟩,⟨Yo 33 .shl .no 32 (.c (.int .u64 8)),8,[]⟩,⟨Yo 34 .or .no 28 33,9,[]⟩,⟨Yv 35 0,10,[]⟩,⟨Ye 36 1 35 (Yi 2),11,[]⟩,⟨Yl 37 false 1 36,12,[]⟩,⟨Yk 38 (.conv (.toInt .u64) 37),13,[]⟩,⟨Yo 39 .shl .no 38 (.c (.int .u64 16)),14,[]⟩,⟨Yo 40 .or .no 34 39,15,[]⟩,⟨Yv 41 0,16,[]⟩,⟨Ye 42 1 41 (Yi 3),17,[]⟩,⟨Yl 43 false 1 42,18,[]⟩,⟨Yk 44 (.conv (.toInt .u64) 43),19,[]⟩,⟨Yo 45 .shl .no 44 (.c (.int .u64 24)),20,[]⟩,⟨Yo 46 .or .no 40 45,21,[]⟩,⟨Yv 47 0,22,[]⟩,⟨Ye 48 1 47 (Yi 4),23,[]⟩,⟨Yl 49 false 1 48,24,[]⟩,⟨Yk 50 (.conv (.toInt .u64) 49),25,[]⟩,⟨Yo 51 .shl .no 50 (.c (.int .u64 32)),26,[]⟩,⟨Yo 52 .or .no 46 51,27,[]⟩,⟨Yv 53 0,28,[]⟩,⟨Ye 54 1 53 (Yi 5),29,[]⟩,⟨Yl 55 false 1 54,30,[]⟩,⟨Yk 56 (.conv (.toInt .u64) 55),31,[]⟩,⟨Yo 57 .shl .no 56 (.c (.int .u64 40)),32,[]⟩,⟨Yo 58 .or .no 52 57,33,[]⟩,⟨Yv 59 0,34,[]⟩,⟨Ye 60 1 59 (Yi 6),35,[]⟩,⟨Yl 61 false 1 60,36,[]⟩,⟨Yk 62 (.conv (.toInt .u64) 61),37,[]⟩,⟨Yo 63 .shl .no 62 (.c (.int .u64 48)),38,[]⟩,⟨Yo 64 .or .no 58 63,39,[]⟩,⟨Yv 65 0,40,[]⟩,⟨Ye 66 1 65 (Yi 7),41,[]⟩,⟨Yl 67 false 1 66,42,[]⟩,⟨Yk 68 (.conv (.toInt .u64) 67),43,[]⟩,⟨Yo 69 .shl .no 68 (.c (.int .u64 56)),44,[]⟩,⟨Yo 70 .or .no 64 69,45,[]⟩,⟨Yv 2 70,46,[]⟩]) .ret)))⟩
theorem ok_c_Z1z:Qao prog 131 c_Z1z=true:=Qac func131 X0k
def s_Z1z (M:Mach) (a0:V) (U:Objs):Ro:=br (.bool false) (Ub5 a0 1 0 fun x0=> Uac x0 U fun x1=> Ubc x1 U fun x2=> Ub5 a0 1 1 fun x3=> Uac x3 U fun x4=> Ubc x4 U fun x5=> Uca x5 8 fun x6=> Ubt x2 x6 fun x7=> Ub5 a0 1 2 fun x8=> Uac x8 U fun x9=> Ubc x9 U fun x10=> Uca x10 16 fun x11=> Ubt x7 x11 fun x12=> Ub5 a0 1 3 fun x13=> Uac x13 U fun x14=> Ubc x14 U fun x15=> Uca x15 24 fun x16=> Ubt x12 x16 fun x17=> bd (oK false x17.ng) (nK U.length U)) (Ub5 a0 1 0 fun x18=> Uac x18 U fun x19=> Ubc x19 U fun x20=> Ub5 a0 1 1 fun x21=> Uac x21 U fun x22=> Ubc x22 U fun x23=> Uca x23 8 fun x24=> Ubt x20 x24 fun x25=> Ub5 a0 1 2 fun x26=> Uac x26 U fun x27=> Ubc x27 U fun x28=> Uca x28 16 fun x29=> Ubt x25 x29 fun x30=> Ub5 a0 1 3 fun x31=> Uac x31 U fun x32=> Ubc x32 U fun x33=> Uca x33 24 fun x34=> Ubt x30 x34 fun x35=> Ub5 a0 1 4 fun x36=> Uac x36 U fun x37=> Ubc x37 U fun x38=> Uca x38 32 fun x39=> Ubt x35 x39 fun x40=> Ub5 a0 1 5 fun x41=> Uac x41 U fun x42=> Ubc x42 U fun x43=> Uca x43 40 fun x44=> Ubt x40 x44 fun x45=> Ub5 a0 1 6 fun x46=> Uac x46 U fun x47=> Ubc x47 U fun x48=> Uca x48 48 fun x49=> Ubt x45 x49 fun x50=> Ub5 a0 1 7 fun x51=> Uac x51 U fun x52=> Ubc x52 U fun x53=> Uca x53 56 fun x54=> Ubt x50 x54 fun x55=> bd (oK false x55.ng) (nK U.length U))
theorem k_Z1z:fnK M c_Z1z [a0] U=s_Z1z M a0 U:=X0k
def c_Z13:Ev.Fn:=⟨27,[.tmp 4],false,false,(Yq 0 [Vbz 2,Vby 3,Vbf 4] (Yj (Yq 1 [Vd3 5 3,Vah 6 5,Vai 7 6 3] (Ym 7 2 [Vdg 8 2,Ya 9 2 8,Vah 10 9,Ya 11 2 3,Vah 12 11,Vbo 13 46 10 12,Yv 4 13])) (Yr 3 [Vd3 14 3,Vah 15 14,Vcx 16 15 0,Yv 17 16,Vam 18 17 1 3,Vad 19 17 18,Vb1 20 17 19 3,Vag 21 17 20,Yv 22 21,Vam 23 22 2 3,Vad 24 22 23,Vbt 25 22 24,Vag 26 22 25,Yv 4 26])))⟩
theorem ok_c_Z13:Qao prog 132 c_Z13=true:=Qac func132 X0k
def s_Z13:=Uaz a0 U fun p0=> Uaz a1 p0.2 fun p1=> Udu p1.1 fun x2=> Uac x2 p1.2 fun x3=> Uai x3 3 fun x4=> br x4.ng (Uc7 p0.1 fun x5=> Uaf x5 2 fun x6=> Uac x6 p1.2 fun x7=> Uaf p1.1 2 fun x8=> Uac x8 p1.2 fun x9=> Ucn x7 x9 p1.2 46 M fun p10=> bd (oK false p10.1.ng) (nK U.length p10.2)) (Udu p1.1 fun x11=> Uac x11 p1.2 fun x12=> Uc1 x12 fun x13=> Ua9 x13 p1.1 1 fun x14=> Uax x13 x14 p1.2 fun x15=> Ucy x13 x15 3 fun x16=> Uab x13 x16 fun x17=> Ua9 x17 p1.1 2 fun x18=> Uax x17 x18 p1.2 fun x19=> Ub6 x17 x19 fun x20=> Uab x17 x20 fun x21=> bd (oK false x21.ng) (nK U.length p1.2))
theorem k_Z13:fnK M c_Z13 [a0,a1] U=s_Z13 M a0 a1 U:=X0k
def c_Z1s:Ev.Fn:=⟨45,[.tmp 4],false,false,(Yq 0 [Vbz 2,Vbf 4] (Yq 1 [Va7 6 11 2,Vas 5,Var 11 5 6] (Yq 2 [Vcj 7,Yk 8 (.callv 7 [5])] (Yr 3 [Vd3 9 5,Vah 10 9,Vaj 11 10,Yv 12 11,Vam 13 12 2 5,Vad 14 12 13,Vbt 15 12 14,Vag 16 12 15,Yv 17 16,Vam 18 17 3 5,Vad 19 17 18,Vbt 20 17 19,Vag 21 17 20,Yv 22 21,Vam 23 22 4 5,Vaz 24 22 3 23,Vea 25 22,Vd5 26 22 24 25,Vag 27 22 26,Yv 28 27,Vam 29 28 7 5,Vad 30 28 29,Vbk 31 28 30 0,Vag 32 28 31,Yv 33 32,Vam 34 33 8 5,Vaz 35 33 2 34,Veh 36 33,Veb 37 33 35 36,Vag 38 33 37,Yv 39 38,Vam 40 39 10 5,Vad 41 39 40,Va2 42 39 41,Vbk 43 39 42 0,Vag 44 39 43,Yv 4 44]))))⟩
theorem ok_c_Z1s:Qao prog 133 c_Z1s=true:=Qac func133 X0k
def s_Z1s:=Uaz a0 U fun p0=> Uaq p0.1 p0.2 11 fun x1=>
 let s2:Objs:=p0.2++[.cells [(.int .i64 0),(.int .i64 0),(.str []),(.str []),(.int .i64 0),(.str []),(.bool false),(.int .i64 0),(.int .i64 0),(.int .i64 0),.nils]]
 Uao x1 s2 p0.2 11 0 fun p3=> bd (Qif M p3.2 a1.ng.ng [(.ptr p0.2.length 0)]) fun p4=> Ubq p0.2 1 0 fun x5=> Uac x5 p4.2 fun x6=> Uai x6 0 fun x7=> Ubu x7 p0.2 2 0 fun x8=> Uax x7 x8 p4.2 fun x9=> Ub6 x7 x9 fun x10=> Uab x7 x10 fun x11=> Ubu x11 p0.2 3 0 fun x12=> Uax x11 x12 p4.2 fun x13=> Ub6 x11 x13 fun x14=> Uab x11 x14 fun x15=> Ubu x15 p0.2 4 0 fun x16=> Ub3 x15 x16 p4.2 3 fun x17=> bd (gdv x15.ng true (pu (Qaw [(.int .i64 0),(.str []),(.bool false)] []))) fun x18=> bd (gdv x15.ng true (pu (eB .eql (.agg [.i,.s,.b]) x17.ng x18.ng))) fun x19=> Uab x15 x19 fun x20=> Ubu x20 p0.2 7 0 fun x21=> Uax x20 x21 p4.2 fun x22=> Ucz x20 x22 0 fun x23=> Uab x20 x23 fun x24=> Ubu x24 p0.2 8 0 fun x25=> Ub3 x24 x25 p4.2 2 fun x26=> bd (gdv x24.ng true (pu (Qaw [(.int .i64 0),(.int .i64 0)] []))) fun x27=> bd (gdv x24.ng true (pu (eB .eql (.agg [.i,.i]) x26.ng x27.ng))) fun x28=> Uab x24 x28 fun x29=> Ubu x29 p0.2 10 0 fun x30=> Uax x29 x30 p4.2 fun x31=> Uby x29 x31 fun x32=> Ucz x29 x32 0 fun x33=> Uab x29 x33 fun x34=> bd (oK false x34.ng) (nK U.length p4.2)
theorem k_Z1s:fnK M c_Z1s [a0,a1] U=s_Z1s M a0 a1 U:=X0k
def c_Zy_1:Ev.Fn:=⟨6,[],false,false,(Yq 0 [Vbp 2,Vc9 3 135 2] (Ys1 1 [Vbp 4,Vc9 5 136 4]))⟩
theorem ok_c_Zy_1:Qao prog 134 c_Zy_1=true:=Qac func134 X0k
def s_Zy_1:=Udx a0 U 135 M fun p0=> Udx a0 p0.2 136 M fun p1=> nK U.length p1.2 (.tup [])
theorem k_Zy_1:fnK M c_Zy_1 [a0] U=s_Zy_1 M a0 U:=X0k
def c_Z1t:Ev.Fn:=⟨8,[],false,false,(Ys1 0 [Vbp 2,Vbp 3,Vbn 4 2,Vd3 5 4,Vdz 1 5 0,Vbn 6 3,Ya 7 2 6,Vdi 1 7])⟩
theorem ok_c_Z1t:Qao prog 135 c_Z1t=true:=Qac func135 X0k
def s_Z1t (M:Mach) (a0:V) (U:Objs):Ro:=Uat a0 fun x0=> Udu x0 fun x1=> bd (stV U 1 x1.ng (.int .i64 0) (.int .i64 0)) fun p2=> Uat a0 fun x3=> Uaf x3 2 fun x4=> Uel x4 p2.2 fun p5=> nK U.length p5.2 (.tup [])
theorem k_Z1t:fnK M c_Z1t [a0] U=s_Z1t M a0 U:=X0k
def c_Z1q:Ev.Fn:=⟨5,[],false,false,(Ys1 0 [Vbp 2,Vbn 3 2,Ya 4 3 3,Vdi 1 4])⟩
theorem ok_c_Z1q:Qao prog 136 c_Z1q=true:=Qac func136 X0k
def s_Z1q (M:Mach) (a0:V) (U:Objs):Ro:=Uat a0 fun x0=> Uaf x0 3 fun x1=> Uel x1 U fun p2=> nK U.length p2.2 (.tup [])
theorem k_Z1q:fnK M c_Z1q [a0] U=s_Z1q M a0 U:=X0k
def c_Z1m:Ev.Fn:=⟨6,[.tmp 2],false,false,(Yq 0 [Vbf 2] (Yr 1 [Yk 3 (.cutA 10 1 false (.g 3) none none),Vbp 4,Vbo 5 46 3 4,Yv 2 5]))⟩
theorem ok_c_Z1m:Qao prog 137 c_Z1m=true:=Qac func137 X0k
def s_Z1m:=bd (pu (Qfv 10 1 false (M.G.g 3).ng none none)) fun x0=> Ud3 x0 a0 U 46 M fun p1=> bd (oK false p1.1.ng) (nK U.length p1.2)
theorem k_Z1m:fnK M c_Z1m [a0] U=s_Z1m M a0 U:=X0k
def c_Z1j:Ev.Fn:=⟨6,[.tmp 2],false,false,(Yq 0 [Vbf 2] (Yr 1 [Yk 3 (.cutA 8 1 false (.g 4) none none),Vbp 4,Vbo 5 46 3 4,Yv 2 5]))⟩
theorem ok_c_Z1j:Qao prog 138 c_Z1j=true:=Qac func138 X0k
def s_Z1j:=bd (pu (Qfv 8 1 false (M.G.g 4).ng none none)) fun x0=> Ud3 x0 a0 U 46 M fun p1=> bd (oK false p1.1.ng) (nK U.length p1.2)
theorem k_Z1j:fnK M c_Z1j [a0] U=s_Z1j M a0 U:=X0k
def c_Z1n:Ev.Fn:=⟨49,[.tmp 2],false,false,(Yq 0 [Vbz 1,Vbf 2] (Yq 1 [Ya 4 4 1,Va7 5 3 4,Yk 3 (.alloc [Y0,Yn,Yb]),Var 3 3 5] (Yj (Yq 2 [Vdg 6 3,Vah 7 6,Vck 8 7 1,Yv 9 8,Vaq 10 9 0 3,Vae 11 9 10,Vav 12 9 11 7,Vap 13 9 12,Yv 14 13,Vaq 15 14 1 3,Vae 16 14 15,Vbe 17 14 50 16,Va3 18 14 17,Vap 19 14 18,Yv 20 19,Vaq 21 20 7 1,Vae 22 20 21,Vdl 23 20 22,Vap 24 20 23,Yv 25 24,Vaq 26 25 7 1,Vae 27 25 26,Vav 28 25 27 2,Vap 29 25 28] (Ym 29 3 [Vbf 2])) (Yj (Yq 4 [Vdg 30 3,Vah 31 30,Vai 32 31 1,Yv 33 32,Vam 34 33 1 3,Vad 35 33 34,Vb8 36 33 35,Vaa 37 33 36,Vaq 38 37 7 1,Vae 39 37 38,Vcd 40 37 39 0,Va0 41 33 37 40,Vag 42 33 41] (Ym 42 5 [Vbf 2])) (Yr 6 [Ya 43 2 3,Vah 44 43,Ya 45 7 1,Vah 46 45,Vai 47 46 1,Yo 48 .eql .bool 44 47,Yv 2 48])))))⟩
theorem ok_c_Z1n:Qao prog 139 c_Z1n=true:=Qac func139 X0k
def s_Z1n:=Uaz a0 U fun p0=> Uen p0.1 fun x1=> Uaq x1 p0.2 3 fun x2=>
 let s3:Objs:=p0.2++[.cells [(.int .i64 0),(.str []),(.bool false)]]
 Ud4 x2 s3 p0.2 fun p4=> Ubs p0.2 fun x5=> Uac x5 p4.2 fun x6=> Ucw x6 1 fun x7=> Ucq x7 p0.2 fun x8=> Uag x7 x8 p4.2 fun x9=> Ubf x7 x9 7 fun x10=> Uad x7 x10 fun x11=> Uc9 x11 p0.2 fun x12=> Uag x11 x12 p4.2 fun x13=> Uc8 x11 x13 p4.2 50 M fun p14=> Ua7 x11 p14.1 fun x15=> Uad x11 x15 fun x16=> Uas x16 p0.1 7 fun x17=> Uag x16 x17 p14.2 fun x18=> bd (gdv x16.ng false (pu (eB .lss .no x18.ng (.int .i64 0)))) fun x19=> Uad x16 x19 fun x20=> Uas x20 p0.1 7 fun x21=> Uag x20 x21 p14.2 fun x22=> Ubf x20 x22 2 fun x23=> Uad x20 x23 fun x24=> br x24.ng (bd (oK false (.bool false)) (nK U.length p14.2)) (Ubs p0.2 fun x25=> Uac x25 p14.2 fun x26=> Uai x26 1 fun x27=> Ubu x27 p0.2 1 0 fun x28=> Uax x27 x28 p14.2 fun x29=> Udp x27 x29 fun x30=> Uak x27 x30 fun x31=> Ueh x31 p0.1 7 fun x32=> Ucx x31 x32 p14.2 fun x33=> bd (gdv x31 false (pu (eB .neq .no x33.ng (.int .i64 0)))) fun x34=> Ua8 x27 x31 x34 fun x35=> Uab x27 x35 fun x36=> br x36.ng (bd (oK false (.bool false)) (nK U.length p14.2)) (Ubq p0.2 2 0 fun x37=> Uac x37 p14.2 fun x38=> Uaf p0.1 7 fun x39=> Uac x39 p14.2 fun x40=> Uai x40 1 fun x41=> bd (pu (eB .eql .bool x38.ng x41.ng)) fun x42=> bd (oK false x42.ng) (nK U.length p14.2)))
theorem k_Z1n:fnK M c_Z1n [a0] U=s_Z1n M a0 U:=X0k
def c_Zy_2:Ev.Fn:=⟨13,[],false,false,(Yq 0 [Vbp 2,Vc9 3 135 2] (Yq 1 [Vbp 4,Vc9 5 136 4] (Ys1 2 [Vbp 6,Vbp 7,Yk 8 (.build [Y0,Yn,Yb] []),Vbn 9 6,Ya 10 4 9,Var 3 10 8,Vbn 11 7,Ya 12 7 11,Vdz 1 12 0])))⟩
theorem ok_c_Zy_2:Qao prog 140 c_Zy_2=true:=Qac func140 X0k
def s_Zy_2:=Udx a0 U 135 M fun p0=> Udx a0 p0.2 136 M fun p1=> bd (pu (Qaw [(.int .i64 0),(.str []),(.bool false)] [])) fun x2=> Uat a0 fun x3=> Uen x3 fun x4=> Ua3 x4 x2 p1.2 3 fun p5=> Uat a0 fun x6=> Uaf x6 7 fun x7=> bd (stV p5.2 1 x7.ng (.int .i64 0) (.int .i64 0)) fun p8=> nK U.length p8.2 (.tup [])
theorem k_Zy_2:fnK M c_Zy_2 [a0] U=s_Zy_2 M a0 U:=X0k
def c_Zy_3:Ev.Fn:=⟨2,[],false,false,.skip⟩
theorem ok_c_Zy_3:Qao prog 141 c_Zy_3=true:=Qac func141 X0k
def s_Zy_3 (M:Mach) (a0:V) (U:Objs):Ro:=nK U.length U (.tup [])
theorem k_Zy_3:fnK M c_Zy_3 [a0] U=s_Zy_3 M a0 U:=X0k
def c_Z1r:Ev.Fn:=⟨17,[.tmp 2],false,false,(Yq 0 [Vbz 1,Vbf 2] (Yr 1 [Ya 3 0 1,Vah 4 3,Ya 5 1 1,Vah 6 5,Vdj 7 4 6,Vd4 8 7 1000000,Yv 9 8,Vam 10 9 0 1,Vad 11 9 10,Vam 12 9 1 1,Vad 13 9 12,Ve5 14 9 11 13,Vek 15 9 14 1000000,Vag 16 9 15,Yv 2 16]))⟩
theorem ok_c_Z1r:Qao prog 142 c_Z1r=true:=Qac func142 X0k
def s_Z1r (M:Mach) (a0:V) (U:Objs):Ro:=Uaz a0 U fun p0=> Uc7 p0.1 fun x1=> Uac x1 p0.2 fun x2=> Udu p0.1 fun x3=> Uac x3 p0.2 fun x4=> bd (pu (mmV true [x2.ng,x4.ng])) fun x5=> bd (pu (eB .leq .no x5.ng (.int .i64 1000000))) fun x6=> Ua9 x6 p0.1 0 fun x7=> Uax x6 x7 p0.2 fun x8=> Ua9 x6 p0.1 1 fun x9=> Uax x6 x9 p0.2 fun x10=> bd (gdv x6.ng true (pu (mmV false [x8.ng,x10.ng]))) fun x11=> bd (gdv x6.ng true (pu (eB .geq .no x11.ng (.int .i64 (-1000000))))) fun x12=> Uab x6 x12 fun x13=> bd (oK false x13.ng) (nK U.length p0.2)
theorem k_Z1r:fnK M c_Z1r [a0] U=s_Z1r M a0 U:=X0k
def c_Zy_4:Ev.Fn:=⟨8,[],false,false,(Yq 0 [Vbp 2,Vc9 3 144 2] (Ys1 1 [Vbp 4,Yk 5 (.build [Y0,Y0] []),Vbn 6 4,Ya 7 8 6,Var 2 7 5]))⟩
theorem ok_c_Zy_4:Qao prog 143 c_Zy_4=true:=Qac func143 X0k
def s_Zy_4:=Udx a0 U 144 M fun p0=> bd (pu (Qaw [(.int .i64 0),(.int .i64 0)] [])) fun x1=> Uat a0 fun x2=> Uaf x2 8 fun x3=> Ua3 x3 x1 p0.2 2 fun p4=> nK U.length p4.2 (.tup [])
theorem k_Zy_4:fnK M c_Zy_4 [a0] U=s_Zy_4 M a0 U:=X0k
def c_Z1o:Ev.Fn:=⟨5,[],false,false,(Ys1 0 [Vbp 2,Vbn 3 2,Ya 4 10 3,Yw 1 4 (.c .nils) false])⟩
theorem ok_c_Z1o:Qao prog 144 c_Z1o=true:=Qac func144 X0k
def s_Z1o (M:Mach) (a0:V) (U:Objs):Ro:=Uat a0 fun x0=> Uaf x0 10 fun x1=> bd (stV U 1 x1.ng .nils .nils) fun p2=> nK U.length p2.2 (.tup [])
theorem k_Z1o:fnK M c_Z1o [a0] U=s_Z1o M a0 U:=X0k
def c_Z1l:Ev.Fn:=⟨25,[.tmp 4,.tmp 5],false,false,(Yq 0 [Vbz 2,Vb7 4,Vbf 5] (Yq 1 [Ya 7 2 2,Vah 8 7,Vcj 9,Vbo 10 67 8 9,Yv 6 10] (Yj (.block 0 (Yq 2 [Yv 12 6,Vck 13 12 0,Yv 11 13] (Yz 11 (Yr 3 [Vb7 4,Vbf 5]) (Yq 4 [Yv 15 6,Ya 16 3 2,Vah 17 16,Yh 18 17,Yo 19 .geq .no 15 18,Yv 14 19] (Ym 14 5 [Vb7 4,Vdc 5]))))) (Yr 6 [Ya 20 3 2,Vah 21 20,Yv 22 6,Vet 23 21 22,Vah 24 23,Yv 4 24,Vdc 5]))))⟩
theorem ok_c_Z1l:Qao prog 146 c_Z1l=true:=Qac func146 X0k
def s_Z1l:=Uaz a0 U fun p0=> Uaf p0.1 2 fun x1=> Uac x1 p0.2 fun x2=> Ud3 x2 a1 p0.2 67 M fun p3=> Uep p3.1 fun x4=> br x4.ng.ng (nK U.length p3.2 (.tup [(.str []),(.bool false)])) (Uaf p0.1 3 fun x5=> Uac x5 p3.2 fun x6=> Uam x6 fun x7=> Uek p3.1 x7 fun x8=> br x8.ng.ng (nK U.length p3.2 (.tup [(.str []),(.bool true)])) (Uaf p0.1 3 fun x9=> Uac x9 p3.2 fun x10=> bd (pu (eI 1 p3.1.ng.ng.ng x10.ng)) fun x11=> Uac x11 p3.2 fun x12=> nK U.length p3.2 (.tup [x12.ng.ng,(.bool true)])))
theorem k_Z1l:fnK M c_Z1l [a0,a1] U=s_Z1l M a0 a1 U:=X0k
def c_Z1w:Ev.Fn:=⟨19,[.tmp 4],false,false,(Yq 0 [Vby 3,Vaw 4] (Yj (Yq 1 [Vbp 6,Yh 7 6,Vaw 8] (.block 0 (.loop [0,3,7,8] [4] (Yq 2 [Vat 9 8 7] (Yj (Yz 9 .skip (.exit 0)) (Yj (.block 1 (Yq 3 [Yv 10 8,Yv 5 10] (Yj (.drw 4 [⟨Yl 11 true 7 3,0,[]⟩,⟨Yv 12 0,1,[]⟩,⟨Yv 13 5,2,[]⟩,⟨Ye 14 7 12 13,3,[]⟩,⟨Yl 15 true 7 14,4,[]⟩,⟨Yo 16 .eql (.agg [.i,.b,.s,.s,.i,.s,.b]) 11 15,5,[]⟩]) (Ym 16 5 [Yv 17 5,Yv 4 17])))) (Ys1 6 [Vaf 18 8,Yv 8 18]))))))) (Yr 7 [Ve1 4])))⟩
theorem ok_c_Z1w:Qao prog 145 c_Z1w=true:=Qac func145 X0k
def b_Z1w_0 (M:Mach) (n0:Nat) (n1:Nat) (r1:Rk) (z0 z3 z7 z8:V) (U:Objs):Ro:=Uaw z8 z7 fun x2=> br x2.ng (Uaq z3 U 7 fun x3=> bd (pu (eI 7 z8.ng.ng.ng.ng z0.ng.ng)) fun x4=> Uaq x4 U 7 fun x5=> Ucd x3 x5 fun x6=> br x6.ng (bd (fz n1 U fzD z8.ng.ng.ng.ng) fun y7=> Uay U n1 fun s8=> bd (oK false y7) (nK n0 s8)) (Ua0 z8 fun x9=> UF n1 U [z0,z3,z7,x9.ng] r1)) (Uar U n1 fun y15=> Uay U n1 fun s16=> bd (oK false (.int .i64 (-1))) (nK n0 s16))
def l_Z1w_0:=M.fx (X0Le (b_Z1w_0 M n0 n1))
def s_Z1w:=Uaz a1 U fun p0=> Uau a0 fun x1=> Uaa a0 p0.2 fun y17=> Uaa p0.1 p0.2 fun y18=> Uaa x1 p0.2 fun y19=> Ud2 p0.2 fun y20=> l_Z1w_0 M U.length p0.2.length [y17,y18,y19,y20] p0.2
theorem k_Z1w:fnK M c_Z1w [a0,a1] U=s_Z1w M a0 a1 U:=X0k
def c_Z1b:Ev.Fn:=⟨5,[.cell 2 true 3],false,false,(Yq 0 [Vau 2] (Yr 1 [Vez 3,Vce 4 0 1 4 2 1 3,Var 3 2 4]))⟩
theorem ok_c_Z1b:Qao prog 147 c_Z1b=true:=Qac func147 X0k
def s_Z1b (M:Mach) (a0:V) (U:Objs):Ro:=
 let s0:Objs:=U++[.cells [(.int .i64 0),(.int .i64 0),.nils]]
 Ucg a0 0 1 2 0 4 fun x1=> Ud4 x1 s0 U fun p2=> Uba p2.2 U fun x3=> bd (oK false x3) (nK U.length p2.2)
theorem k_Z1b:fnK M c_Z1b [a0] U=s_Z1b M a0 U:=X0k
def c_Z2h:Ev.Fn:=⟨20,[.tmp 6],false,false,(Yq 0 [Vbg 6] (Yq 1 [Va9 8,Vez 9,Vcq 10 8 9,Yu 7 10] (Yj (.block 0 (.loop [1,2,7] [6,7] (Yj (Yq 2 [Yv 11 7,Yh 12 11,Yv 13 2,Vat 14 12 13] (Yz 14 .skip (.exit 0))) (.block 1 (Ys1 3 [Yu 15 7,Vcj 16,Vct 17 16,Vcq 18 15 17,Yu 7 18]))))) (Yr 4 [Yu 19 7,Yu 6 19]))))⟩
theorem ok_c_Z2h:Qao prog 148 c_Z2h=true:=Qac func148 X0k
def b_Z2h_0 (M:Mach) (n0:Nat) (n1:Nat) (r1:Rk) (z1 z2 z7:V) (U:Objs):Ro:=Uau z7 fun x2=> bd (pu (eB .lss .no x2.ng z2.ng.ng)) fun x3=> br x3.ng (bd (Qam false 1 1 (.int .u8 0) [(0,z1.ng.ng)]) fun x4=> bd (appV false false 1 1 U z7 x4.ng) fun x5=> UF n1 U [z1,z2,x5] r1) (Uar U n1 fun y10=> Uae z7 U n1 fun y11=> Uay U n1 fun s12=> bd (oK false y11) (nK n0 s12))
def l_Z2h_0:=M.fx (X0Ld (b_Z2h_0 M n0 n1))
def s_Z2h:=Udh fun x0=> bd (appV false false 1 1 U x0 a0.ng) fun x1=> Uaa a1 U fun y13=> Uaa a2 U fun y14=> Uaa x1 U fun y15=> l_Z2h_0 M U.length U.length [y13,y14,y15] U
theorem k_Z2h:fnK M c_Z2h [a0,a1,a2] U=s_Z2h M a0 a1 a2 U:=X0k
def c_Z3g:Ev.Fn:=⟨31,[.tmp 4,.tmp 5],false,false,(Yq 0 [Vbz 2,Vb7 4,Vbf 5] (Yj (Yq 1 [Vaw 6] (.block 0 (.loop [1,2,6] [4,5] (Yj (Yq 2 [Yv 7 6,Ya 8 2 2,Vah 9 8,Yh 10 9,Vat 11 7 10] (Yz 11 .skip (.exit 0))) (Yj (.block 1 (Yq 4 [Ya 14 2 2,Vah 15 14,Yv 16 6,Vet 17 15 16,Vah 18 17,Vcj 19,Vcm 20 18 19] (Yz 20 (Yj (Yq 5 [Yv 21 6,Ya 22 3 2,Vah 23 22,Yh 24 23,Vat 25 21 24] (Ym 25 6 [Ya 26 3 2,Vah 27 26,Yv 28 6,Vet 29 27 28,Vah 30 29,Yv 4 30,Vdc 5])) (Yr 7 [Vb7 4,Vdc 5])) .skip))) (Ys1 3 [Yv 12 6,Vaf 13 12,Yv 6 13])))))) (Yr 8 [Vb7 4,Vbf 5])))⟩
theorem ok_c_Z3g:Qao prog 149 c_Z3g=true:=Qac func149 X0k
def j_Z3g_0 (M:Mach) (n0:Nat) (n1:Nat) (r1:Rk) (z4 z5:V) (U:Objs):Ro:=Uae z4 U n1 fun y1=> Uae z5 U n1 fun y2=> Uay U n1 fun s3=> nK n0 s3 (.tup [y1.ng,y2.ng])
def b_Z3g_0:=Uaf z2 2 fun x4=> Uac x4 U fun x5=> Uam x5 fun x6=> Ual z6 x6 fun x7=> br x7.ng (Uaf z2 2 fun x8=> Uac x8 U fun x9=> Ube z6 x9 1 fun x10=> Uac x10 U fun x11=> Udn x11 z1 fun x12=> br x12.ng (Uaf z2 3 fun x13=> Uac x13 U fun x14=> Uam x14 fun x15=> Ual z6 x15 fun x16=> br x16.ng (Uaf z2 3 fun x17=> Uac x17 U fun x18=> Ube z6 x18 1 fun x19=> Uac x19 U fun x20=> j_Z3g_0 M n0 n1 r1 x20.ng (.bool true) U) (j_Z3g_0 M n0 n1 r1 (.str []) (.bool true) U)) (Uap z6 fun x21=> UF n1 U [z1,z2,x21.ng] r1)) (Uar U n1 fun y26=> Uar U n1 fun y27=> Uay U n1 fun s28=> nK n0 s28 (.tup [(.str []),(.bool false)]))
def l_Z3g_0:=M.fx (X0Ld (b_Z3g_0 M n0 n1))
def s_Z3g:=Uaz a0 U fun p0=> Uaa a1 p0.2 fun y29=> Uaa p0.1 p0.2 fun y30=> Ud2 p0.2 fun y31=> l_Z3g_0 M U.length p0.2.length [y29,y30,y31] p0.2
theorem k_Z3g:fnK M c_Z3g [a0,a1] U=s_Z3g M a0 a1 U:=X0k
def c_Z2x:Ev.Fn:=⟨16,[.tmp 4],false,false,(Yq 0 [Vbf 4] (Yr 1 [Vcj 5,Vbp 6,Yh 7 6,Vat 8 5 7,Yv 9 8,Vbq 10 9,Vaa 11 9 1,Vb2 12 9 10 11,Vad 13 9 12,Van 14 9 167 13,Vag 15 9 14,Yv 4 15]))⟩
theorem ok_c_Z2x:Qao prog 155 c_Z2x=true:=Qac func155 X0k
def c_Z33:Ev.Fn:=⟨16,[.tmp 4],false,false,(Yq 0 [Vbf 4] (Yr 1 [Vcj 5,Vbp 6,Yh 7 6,Vat 8 5 7,Yv 9 8,Vbq 10 9,Vaa 11 9 1,Vb2 12 9 10 11,Vad 13 9 12,Van 14 9 168 13,Vag 15 9 14,Yv 4 15]))⟩
theorem ok_c_Z33:Qao prog 157 c_Z33=true:=Qac func157 X0k
def c_Z2l:Ev.Fn:=⟨23,[.tmp 2],false,false,(Yq 0 [Vb7 2] (Yq 1 [Va9 5,Yu 3 5] (Yj (Yq 2 [Vaw 4] (.block 0 (.loop [0,3,4] [2,3] (Yj (Yq 3 [Yv 6 4,Vbp 7,Vec 8 7,Vat 9 6 8] (Yz 9 .skip (.exit 0))) (Yj (.block 1 (Ys1 5 [Yu 12 3,Vbp 13,Yv 14 4,Yk 15 (.idx 13 14),Vcs 16 15,Vc9 17 169 16,Vbj 18 17,Vct 19 18,Vcq 20 12 19,Yu 3 20])) (Ys1 4 [Yv 10 4,Vaf 11 10,Yv 4 11])))))) (Yr 6 [Yu 21 3,Vej 22 21,Yv 2 22]))))⟩
theorem ok_c_Z2l:Qao prog 158 c_Z2l=true:=Qac func158 X0k
end
section
variable (M:Mach) (n0 n1:Nat) (r1:Rk) (n2:Nat) (r2:Rk) (n3:Nat) (r3:Rk) (n4:Nat) (r4:Rk) (n5:Nat) (a0 a1 a2 a3 a4 a5 a6 a7 a8 a9 a10 a11:V) (U:Objs)
def c_Z2m:Ev.Fn:=⟨13,[.tmp 2],false,false,(Yq 0 [Vbf 2] (Yr 1 [Vbp 3,Vc9 4 168 3,Yv 5 4,Vac 6 5 0,Vbe 7 5 167 6,Vap 8 5 7,Yv 9 8,Vac 10 9 0,Vao 11 9 10 45,Vap 12 9 11,Yv 2 12]))⟩
theorem ok_c_Z2m:Qao prog 160 c_Z2m=true:=Qac func160 X0k
def c_Z2f:Ev.Fn:=⟨28,[.tmp 2],false,false,(Yq 0 [Vbg 2] (Yq 1 [Va9 5,Yu 3 5] (Yj (Yq 2 [Vaw 4] (.block 0 (.loop [0,3,4] [2,3] (Yj (Yq 3 [Yv 6 4,Vbp 7,Yh 8 7,Vat 9 6 8] (Yz 9 .skip (.exit 0))) (Yj (.block 1 (Yq 5 [Vbp 12,Yv 13 4,Vet 14 12 13,Vah 15 14,Vc9 16 95 15] (Yz 16 (Ys1 6 [Yu 17 3,Vbp 18,Yv 19 4,Vet 20 18 19,Vah 21 20,Vc9 22 109 21,Vcq 23 17 22,Yu 3 23]) (Ys1 7 [Yu 24 3,Yc 25 109 [(Yi 65533)],Vcq 26 24 25,Yu 3 26])))) (Ys1 4 [Yv 10 4,Vaf 11 10,Yv 4 11])))))) (Yr 8 [Yu 27 3,Yu 2 27]))))⟩
theorem ok_c_Z2f:Qao prog 161 c_Z2f=true:=Qac func161 X0k
def c_Zj:Ev.Fn:=⟨49,[.cell 6 true 11,.tmp 7],false,false,(Yq 0 [Vas 6,Vaw 7] (Yq 1 [Vbv 10,Vbp 11,Vcj 12,Yv 13 2,Ve3 14 162 11 12 13,Vas 8,Var 11 8 10,Yv 9 14] (Yj (Yq 2 [Yv 15 9,Vcj 16,Vcm 17 15 16] (Ym 17 3 [Va7 18 11 8,Vcj 19,Var 11 6 18,Yv 7 19])) (Yj (Yq 4 [Yv 20 9,Vcj 21,Vaf 22 21,Vcm 23 20 22] (Yz 23 (Ys1 5 [Vd3 24 8,Vdz 1 24 2]) (Yq 6 [Vbp 25,Vcj 26,Vd7 27 152 25 26 42] (Yz 27 (Ys1 7 [Vd3 28 8,Vdz 1 28 1]) (Yq 8 [Vd3 29 8,Vdz 1 29 3] (Yq 9 [Vbp 30,Vcj 31,Vbo 32 92 30 31,Yg 33 false 3 1 32,Ya 34 2 8,Var 1 34 33] (Yj (.drw 10 [⟨Yv 35 0,0,[]⟩,⟨Yk 36 (.nilc 35),1,[]⟩,⟨Ya 37 1 36,2,[]⟩,⟨Ya 38 2 37,3,[]⟩,⟨Yl 39 false 1 38,4,[]⟩,⟨Ya 40 2 8,5,[]⟩,⟨Yl 41 false 1 40,6,[]⟩,⟨Yc 42 39 [39,41],7,[]⟩,⟨Yk 43 (.un .not 42),8,[]⟩]) (Yz 43 (Ys1 11 [Vbp 44,Vcj 45,Vdb 46 93 44 14 45]) .skip)))))))) (Yr 12 [Va7 47 11 8,Yv 48 9,Var 11 6 47,Yv 7 48])))))⟩
theorem ok_c_Zj:Qao prog 150 c_Zj=true:=Qac func150 X0k
def c_Zi:Ev.Fn:=⟨10,[.tmp 4],false,false,(Yq 0 [Vbf 4] (Yr 1 [Vbp 5,Vcj 6,Vbo 7 92 5 6,Vd6 8 7,Vai 9 8 1,Yv 4 9]))⟩
theorem ok_c_Zi:Qao prog 151 c_Zi=true:=Qac func151 X0k
def c_Zl:Ev.Fn:=⟨20,[.tmp 6],false,false,(Yq 0 [Vbf 6] (Yq 1 [Vbp 8,Vcj 9,Vbo 10 92 8 9,Vbc 7,Var 6 7 10] (Yr 2 [Vdg 11 7,Vah 12 11,Vai 13 12 9,Yv 14 13,Vam 15 14 3 7,Vad 16 14 15,Vaa 17 14 2,Vbd 18 14 16 17,Vag 19 14 18,Yv 6 19])))⟩
theorem ok_c_Zl:Qao prog 152 c_Zl=true:=Qac func152 X0k
def c_Zm:Ev.Fn:=⟨106,[.cell 10 true 11,.tmp 11],false,false,(Yq 0 [Vas 10,Vaw 11] (Yq 1 [Vbp 14,Vcj 15,Vbo 16 92 14 15,Vbc 12,Var 6 12 16] (Yj (Yq 2 [Vdg 17 12,Vah 18 17,Vai 19 18 4,Yv 20 19,Vam 21 20 5 12,Vad 22 20 21,Vag 23 20 22] (Ym 23 3 [Ya 24 3 12,Vah 25 24,Vch 26 0 1 4 3 1 25,Vcj 27,Vaf 28 27,Var 11 10 26,Yv 11 28])) (Yj (Yq 4 [Vbp 29,Vcj 30,Vd7 31 152 29 30 46] (Yz 31 (Yj (Yq 5 [Vbp 32,Vcj 33,Vaf 34 33,Vbo 35 151 32 34,Vbm 36 35] (Yz 36 (Ys1 6 [Vbp 37,Vcj 38,Vaf 39 38,Vdb 40 93 37 10 39]) .skip)) (Yr 7 [Vbp 41,Vcj 42,Vaf 43 42,Vbo 44 92 41 43,Yg 45 false 3 1 44,Vch 46 0 1 3 3 1 45,Vcj 47,Vb5 48 47 2,Var 11 10 46,Yv 11 48])) .skip)) (Yj (Yq 8 [Vdg 49 12,Vah 50 49,Vai 51 50 19] (Ym 51 9 [Vbp 52,Vcj 53,Vaf 54 53,Vbo 55 163 52 54,Vex 56 55,Vey 57 55,Var 11 10 56,Yv 11 57])) (Yj (Yq 10 [Vdg 58 12,Vah 59 58,Vcp 60 59 16] (Ym 60 11 [Vbv 61,Vcj 62,Var 11 10 61,Yv 11 62])) (Yj (Yq 12 [Vbp 63,Vcj 64,Vaf 65 64,Vbo 66 92 63 65,Vd6 67 66,Vai 68 67 16] (Ym 68 13 [Vbp 69,Vcj 70,Vb5 71 70 2,Yv 72 2,Ve3 73 164 69 71 72,Vex 74 73,Vey 75 73,Var 11 10 74,Yv 11 75])) (Yq 14 [Vbp 76,Vcj 77,Vaf 78 77,Vbo 79 92 76 78,Yg 80 false 3 1 79,Vc9 81 158 80,Yv 13 81] (Yj (Yq 15 [Vbp 82,Vcj 83,Vaf 84 83,Vbo 85 151 82 84,Yv 86 85,⟨some 87,(some (86,true)),.buildSl false 1 4 Yn [(0,(Ys [98,101,102,111,114,101])),(1,(Ys [97,102,116,101,114])),(2,(Ys [102,105,114,115,116,45,108,105,110,101])),(3,(Ys [102,105,114,115,116,45,108,101,116,116,101,114]))] false⟩,Vaa 88 86 13,Va4 89 86 39 87 88,Vag 90 86 89] (Ym 90 16 [Vbp 91,Vcj 92,Vaf 93 92,Yv 94 2,Ve3 95 164 91 93 94,Vex 96 95,Vey 97 95,Var 11 10 96,Yv 11 97])) (Yr 17 [Vbp 98,Vcj 99,Yv 100 13,Yv 101 3,Yu 102 4,Yc 103 165 [98,99,100,101,102],Vex 104 103,Vey 105 103,Var 11 10 104,Yv 11 105]))))))))))⟩
theorem ok_c_Zm:Qao prog 153 c_Zm=true:=Qac func153 X0k
def c_Z2k:Ev.Fn:=⟨9,[.tmp 2],false,false,(Yq 0 [Vbf 2] (Yr 1 [Vbp 3,Vcx 4 3 48,Yv 5 4,Vab 6 5,Vbw 7 5 6 57,Vag 8 5 7,Yv 2 8]))⟩
theorem ok_c_Z2k:Qao prog 167 c_Z2k=true:=Qac func167 X0k
def c_Z2p:Ev.Fn:=⟨20,[.tmp 2],false,false,(Yq 0 [Vbf 2] (Yq 1 [Vbp 4,Vc9 5 169 4,Yv 3 5] (Yr 2 [Yv 6 3,Vcx 7 6 97,Yv 8 7,Vaa 9 8 3,Vbw 10 8 9 122,Vag 11 8 10,Yv 12 11,Vac 13 12 0,Vao 14 12 13 95,Vap 15 12 14,Yv 16 15,Vac 17 16 0,Vem 18 16 17 128,Vap 19 16 18,Yv 2 19])))⟩
theorem ok_c_Z2p:Qao prog 168 c_Z2p=true:=Qac func168 X0k
def s_Z2p:=Udx a0 U 169 M fun p0=> bd (pu (eB .geq .no p0.1.ng.ng.ng (.int .i64 97))) fun x1=> Uan x1 p0.1 fun x2=> Uem x1 x2 122 fun x3=> Uab x1 x3 fun x4=> Uah x4 a0 fun x5=> Ua4 x4 x5 95 fun x6=> Uad x4 x6 fun x7=> Uah x7 a0 fun x8=> bd (gdv x7.ng false (pu (eB .geq .no x8.ng (.int .i64 128)))) fun x9=> Uad x7 x9 fun x10=> bd (oK false x10.ng) (nK U.length p0.2)
theorem k_Z2p:fnK M c_Z2p [a0] U=s_Z2p M a0 U:=X0k
def c_Z2n:Ev.Fn:=⟨12,[.tmp 2],false,false,(Yq 0 [Vaw 2] (Yj (Yq 1 [Vbp 3,Vcx 4 3 65,Yv 5 4,Vab 6 5,Vbw 7 5 6 90,Vag 8 5 7] (Ym 8 2 [Vbp 9,Vb5 10 9 32,Yv 2 10])) (Yr 3 [Vbp 11,Yv 2 11])))⟩
theorem ok_c_Z2n:Qao prog 169 c_Z2n=true:=Qac func169 X0k
def s_Z2n (M:Mach) (a0:V) (U:Objs):Ro:=bd (pu (eB .geq .no a0.ng.ng (.int .i64 65))) fun x0=> Uak x0 a0 fun x1=> Uem x0 x1 90 fun x2=> Uab x0 x2 fun x3=> br x3.ng (bd (pu (eB .add .no a0.ng.ng (.int .i64 32))) fun x4=> bd (oK false x4.ng) (nK U.length U)) (bd (oK false a0.ng.ng) (nK U.length U))
theorem k_Z2n:fnK M c_Z2n [a0] U=s_Z2n M a0 U:=X0k
def c_Zk:Ev.Fn:=⟨41,[.tmp 6],false,false,(Yq 0 [Vaw 6] (Yq 1 [Vcj 8,Yv 7 8] (Yj (Yq 2 [Vbp 9,Vcj 10,Vbo 11 151 9 10,Yv 12 11,Vac 13 12 0,Vac 14 12 1,Ve0 15 12 152 13 14 42,Vap 16 12 15] (Yz 16 (Ys1 3 [Vcj 17,Vaf 18 17,Yv 7 18]) .skip)) (Yj (Yq 4 [Vbp 19,Yv 20 7,Vd7 21 152 19 20 124,Yv 22 21,Vab 23 22,Vaa 24 22 7,Va1 25 22 24,Va4 26 22 151 23 25,Vaa 27 22 26,Vac 28 27 2,Va3 29 27 28,Vac 30 27 29,Vab 31 30,Vaa 32 30 7,Va1 33 30 32,Ve6 34 30 152 31 33 42,Vba 35 27 30 34,Va0 36 22 27 35,Vag 37 22 36] (Ym 37 5 [Yv 38 7,Vaf 39 38,Yv 6 39])) (Yr 6 [Vcj 40,Yv 6 40])))))⟩
theorem ok_c_Zk:Qao prog 162 c_Zk=true:=Qac func162 X0k
def c_Zc:Ev.Fn:=⟨92,[.cell 10 true 11,.tmp 11],false,false,(Yq 0 [Vas 10,Vaw 11] (Yq 1 [Vbp 15,Vcj 16,Vaf 17 16,Vbo 18 92 15 17,Vbc 12,Var 6 12 18] (Yq 2 [Yv 20 2,Vdg 21 12,Vah 22 21,Vai 23 22 2,Vbo 24 172 20 23,Yv 19 24,Vex 25 19,Vey 26 19,Yv 13 25,Yv 14 26] (Yj (Yq 3 [Vdg 27 12,Vah 28 27,Vcp 29 28 1,Yv 30 29,Vam 31 30 0 12,Vad 32 30 31,⟨some 33,(some (30,true)),.bin .neq .no 32 (Yi 2)⟩,Vag 34 30 33,Yv 35 34,Vac 36 35 13,Va3 37 35 36,Vap 38 35 37] (Ym 38 4 [Vbv 39,Vbp 40,Vcj 41,Vaf 42 41,Vdb 43 93 40 10 42,Vaf 44 43,Var 11 10 39,Yv 11 44])) (Yj (Yq 5 [Yv 45 14,Vbm 46 45] (Yz 46 (Ys1 6 [Vbp 47,Vcj 48,Vbo 49 173 47 48]) .skip)) (Yj (Yq 7 [Vdg 50 12,Vah 51 50,Vai 52 51 2] (Ym 52 8 [Vbp 53,Vcj 54,Yv 55 2,Yv 56 14,Yv 57 3,Yu 58 4,Yc 59 174 [53,54,55,56,57,58],Vex 60 59,Vey 61 59,Var 11 10 60,Yv 11 61])) (Yj (Yq 9 [Yv 62 2,Yo 63 .eql .no 62 (Ys [102,105,114,115,116,45,111,102,45,116,121,112,101])] (Ym 63 10 [Vbp 64,Vcj 65,Vd0 66,Yv 67 3,Yu 68 4,Yc 69 175 [64,65,66,67,68],Vcj 70,Vb5 71 70 2,Var 11 10 69,Yv 11 71])) (Yj (Yq 11 [Yv 72 2,Yo 73 .eql .no 72 (Ys [102,105,114,115,116,45,99,104,105,108,100])] (Ym 73 12 [Vd0 74,Vch 75 0 1 7 8 2 74,Vcj 76,Vb5 77 76 2,Var 11 10 75,Yv 11 77])) (Yj (Yq 13 [Yv 78 2,Yo 79 .eql .no 78 (Ys [114,111,111,116])] (Ym 79 14 [Vca 80 6,Vcj 81,Vb5 82 81 2,Var 11 10 80,Yv 11 82])) (Yj (Yq 15 [Yv 83 2,Yo 84 .eql .no 83 (Ys [97,110,121,45,108,105,110,107])] (Ym 84 16 [Vca 85 12,Vcj 86,Vb5 87 86 2,Var 11 10 85,Yv 11 87])) (Yr 17 [Yv 88 2,Vch 89 0 1 11 3 1 88,Vcj 90,Vb5 91 90 2,Var 11 10 89,Yv 11 91])))))))))))⟩
theorem ok_c_Zc:Qao prog 165 c_Zc=true:=Qac func165 X0k
def c_Z3p:Ev.Fn:=⟨36,[.tmp 4,.tmp 5],false,false,(Yq 0 [Vbf 4,Vbf 5] (Yq 1 [Vbp 9,Vc9 10 158 9,Yv 6 10] (Yj (Yq 2 [Vcj 11] (Yz 11 (Yq 3 [Yk 12 (.buildSl false 1 5 Yn [(0,(Ys [105,115])),(1,(Ys [119,104,101,114,101])),(2,(Ys [110,111,116])),(3,(Ys [110,116,104,45,99,104,105,108,100])),(4,(Ys [110,116,104,45,111,102,45,116,121,112,101]))] false),Yv 13 6,Vbo 14 39 12 13,Yv 7 14] (Yq 4 [Yv 15 7,Yv 16 15,⟨some 17,(some (16,false)),.buildSl false 1 5 Yn [(0,(Ys [108,97,110,103])),(1,(Ys [100,105,114])),(2,(Ys [104,97,115])),(3,(Ys [110,116,104,45,108,97,115,116,45,99,104,105,108,100])),(4,(Ys [110,116,104,45,108,97,115,116,45,111,102,45,116,121,112,101]))] false⟩,Vac 18 16 6,Vbb 19 16 39 17 18,Vap 20 16 19,Yv 21 7,Yv 4 20,Yv 5 21] .ret)) .skip)) (Yq 5 [Yv 22 6,Vc9 23 34 22,Yv 24 23,⟨some 25,(some (24,false)),.buildSl false 1 4 Yn [(0,(Ys [114,111,111,116])),(1,(Ys [97,110,121,45,108,105,110,107])),(2,(Ys [102,105,114,115,116,45,99,104,105,108,100])),(3,(Ys [102,105,114,115,116,45,111,102,45,116,121,112,101]))] false⟩,Vac 26 24 6,Vbb 27 24 39 25 26,Vap 28 24 27,Yv 8 28] (Yq 6 [Yv 29 8,Yv 30 29,⟨some 31,(some (30,false)),.buildSl false 1 6 Yn [(0,(Ys [108,97,115,116,45,99,104,105,108,100])),(1,(Ys [111,110,108,121,45,99,104,105,108,100])),(2,(Ys [108,97,115,116,45,111,102,45,116,121,112,101])),(3,(Ys [111,110,108,121,45,111,102,45,116,121,112,101])),(4,(Ys [101,109,112,116,121])),(5,(Ys [115,99,111,112,101]))] false⟩,Vac 32 30 6,Vbb 33 30 39 31 32,Vap 34 30 33,Yv 35 8,Yv 4 34,Yv 5 35] .ret)))))⟩
theorem ok_c_Z3p:Qao prog 172 c_Z3p=true:=Qac func172 X0k
def c_Zb:Ev.Fn:=⟨118,[.cell 12 true 11,.tmp 13],false,false,(Yq 0 [Vas 12,Vaw 13] (Yj (Yq 1 [Yv 22 3,Vbm 23 22] (Ym 23 2 [Vca 24 6,Vbp 25,Vcj 26,Vb5 27 26 2,Vbo 28 176 25 27,Var 11 12 24,Yv 13 28])) (Yq 3 [Yk 29 (.buildSl false 1 3 Yn [(0,(Ys [105,115])),(1,(Ys [119,104,101,114,101])),(2,(Ys [110,111,116]))] false),Yu 14 29] (Yj (Yq 4 [Vaw 15] (.block 0 (.loop [0,1,2,4,5,12,14,15] [0,1,2,4,5,12,13] (Yj (Yq 5 [Yv 30 15,Vck 31 30 3] (Yz 31 .skip (.exit 0))) (Yj (.block 1 (Yq 7 [Yv 34 14,Yv 35 15,Vet 36 34 35,Vah 37 36,Yv 38 2,Vcm 39 37 38] (Yz 39 (Yq 8 [Vbp 41,Vcj 42,Vcj 43,Vb5 44 43 2,Yv 45 4,Yc 46 177 [41,42,44,45],Yv 40 46,Vex 47 40,Vey 48 40,Yv 16 47,Yv 17 48] (Yr 9 [Yv 49 15,Vb6 50 8 49,Yv 51 16,Ve7 52 50 10 51,Yv 53 17,Var 11 12 52,Yv 13 53])) .skip))) (Ys1 6 [Yv 32 15,Vaf 33 32,Yv 15 33])))))) (Yq 10 [Vbp 55,Vcj 56,Vb5 57 56 2,Vbo 58 178 55 57,Yv 54 58,Vex 59 54,Vey 60 54,Vee 18,Var 2 18 59,Yv 19 60] (Yj (Yq 11 [Yv 61 2,Veo 62 61 110 116 104 45 99 104 105 108 100,Yv 63 62,Vab 64 63,Vaa 65 63 19,Va4 66 63 151 64 65,Vag 67 63 66,Yv 68 67,Vab 69 68,Vaa 70 68 19,Va4 71 68 92 69 70,⟨some 72,(some (68,true)),.field false 3 1 71⟩,Van 73 68 158 72,Ven 74 68 73 111 102,Vag 75 68 74,Yv 76 75,Vab 77 76,Vdh 78 76 77,Vam 79 76 5 78,Vad 80 76 79,Vbk 81 76 80 0,Vag 82 76 81] (Yz 82 (Yq 12 [Vbp 84,Vcj 85,Yv 86 19,Vaf 87 86,Yv 88 4,Yc 89 177 [84,85,87,88],Yv 83 89,Vex 90 83,Vey 91 83,Yv 20 90,Yv 21 91] (Yr 13 [Va7 92 2 18,Yv 93 20,Yk 94 (.build [Y0,Y0,Yn,Yn,Y0,Yn,Yb,Y0,Y0,Y0,.nils] [(0,1,(Yi 7)),(8,2,92),(10,1,93)]),Yv 95 21,Var 11 12 94,Yv 13 95])) .skip)) (Yj (Yq 14 [Vbp 96,Yv 97 19,Vbo 98 92 96 97,Vd6 99 98,Vcp 100 99 22] (Yz 100 (Ys1 15 [Vbp 101,Yv 102 19,Vdb 103 93 101 10 102]) .skip)) (Yj (Yq 16 [Yv 104 2,Veo 105 104 110 116 104 45 99 104 105 108 100] (Ym 105 17 [Va7 106 2 18,Vch 107 0 1 7 8 2 106,Yv 108 19,Vaf 109 108,Var 11 12 107,Yv 13 109])) (Yr 18 [Vbp 110,Vcj 111,Va7 112 2 18,Yv 113 4,Yu 114 5,Yc 115 175 [110,111,112,113,114],Yv 116 19,Vaf 117 116,Var 11 12 115,Yv 13 117])))))))))⟩
theorem ok_c_Zb:Qao prog 174 c_Zb=true:=Qac func174 X0k
def c_Zg:Ev.Fn:=⟨29,[.tmp 8,.tmp 9],false,false,(Yq 0 [Vbg 8,Vaw 9] (Yj (Yq 1 [Yv 12 3,Vcx 13 12 32] (Yz 13 (Ys1 2 [Vbp 14,Vcj 15,Vaf 16 15,Vdb 17 93 14 12 16]) .skip)) (Yq 3 [Vbp 19,Yv 20 2,Yv 21 3,Vaf 22 21,Yc 23 68 [19,20,(Yi 22),22],Yv 18 23,Vex 24 18,Vey 25 18,Yv 10 24,Yv 11 25] (Yr 4 [Yv 26 10,Yv 27 11,Vaf 28 27,Yv 8 26,Yv 9 28]))))⟩
theorem ok_c_Zg:Qao prog 177 c_Zg=true:=Qac func177 X0k
end
def Qni:List (Nat×Ev.Fn):=[(3,c_Z22),
 (5,c_Z21),
 (6,c_Z26),
 (7,c_Z23),
 (8,c_Z18),
 (9,c_Z24),
 (10,c_Z3s),
 (11,c_Z37),
 (12,c_Z25),
 (13,c_Z27),
 (14,c_Z3c),
 (17,c_Z3v),
 (18,c_Z3x),
 (19,c_Z1a),
 (20,c_Z3y),
 (21,c_Z17),
 (22,c_Z3u),
 (24,c_Z19),
 (25,c_Z3w),
 (23,c_Z28),
 (26,c_Z3q),
 (27,c_Z20),
 (28,c_Z3a),
 (29,c_Z1i),
 (30,c_Z1h),
 (31,c_Z15),
 (32,c_Z6),
 (33,c_Z3t),
 (34,c_Z3h),
 (35,c_Z38),
 (36,c_Z3e),
 (37,c_Z3m),
 (38,c_Z3k),
 (39,c_Z3b),
 (41,c_Zq),
 (42,c_Z41),
 (43,c_Z3z),
 (44,c_Z1d),
 (45,c_Z35),
 (46,c_Z1v),
 (48,c_Z2u),
 (47,c_Z3r),
 (49,c_Z3j),
 (50,c_Z1u),
 (51,c_Z1p),
 (52,c_Z14),
 (54,c_Zx),
 (55,c_Z5),
 (56,c_Z2b),
 (57,c_Z3f),
 (62,c_Zs),
 (63,c_Z42),
 (65,c_Z1g),
 (64,c_Z1e),
 (66,c_Z36),
 (67,c_Z1x),
 (71,c_Z29),
 (70,c_Z2c),
 (69,c_Z2q),
 (68,c_Zh),
 (72,c_Z16),
 (74,c_Zw),
 (75,c_Z1k),
 (76,c_Z9),
 (77,c_Z2a),
 (78,c_Z2j),
 (79,c_Z3l),
 (80,c_Z3o),
 (81,c_Z3i),
 (82,c_Z39),
 (83,c_Z3n),
 (87,c_Z3d),
 (88,c_Zv),
 (89,c_Z1f),
 (95,c_Z2e),
 (94,c_Z2t),
 (91,c_Za),
 (90,c_Ze),
 (92,c_Zn),
 (96,c_Z1y),
 (98,c_Zy),
 (99,c_Z3),
 (100,c_Z1),
 (102,c_Z8),
 (101,c_Z0),
 (103,c_Z7),
 (104,c_Z1c),
 (105,c_Z2),
 (106,c_Z4),
 (107,c_Z2i),
 (108,c_Z2g),
 (109,c_Z2d),
 (110,c_Zp),
 (111,c_Zr),
 (112,c_Zu),
 (113,c_Zo),
 (114,c_Zt),
 (115,c_Z40),
 (118,c_Z2v),
 (119,c_Z2o),
 (120,c_Z32),
 (122,c_Z31),
 (124,c_Z2z),
 (125,c_Z2s),
 (126,c_Z2w),
 (127,c_Z30),
 (128,c_Z2y),
 (129,c_Z2r),
 (130,c_Z34),
 (116,c_Zf),
 (117,c_Zd),
 (131,c_Z1z),
 (132,c_Z13),
 (133,c_Z1s),
 (134,c_Zy_1),
 (135,c_Z1t),
 (136,c_Z1q),
 (137,c_Z1m),
 (138,c_Z1j),
 (139,c_Z1n),
 (140,c_Zy_2),
 (141,c_Zy_3),
 (142,c_Z1r),
 (143,c_Zy_4),
 (144,c_Z1o),
 (146,c_Z1l),
 (145,c_Z1w),
 (147,c_Z1b),
 (148,c_Z2h),
 (149,c_Z3g),
 (155,c_Z2x),
 (157,c_Z33),
 (158,c_Z2l),
 (160,c_Z2m),
 (161,c_Z2f),
 (150,c_Zj),
 (151,c_Zi),
 (152,c_Zl),
 (153,c_Zm),
 (167,c_Z2k),
 (168,c_Z2p),
 (169,c_Z2n),
 (162,c_Zk),
 (165,c_Zc),
 (172,c_Z3p),
 (174,c_Zb),
 (177,c_Zg)]
def Qxy (f:FuncId):Option Ev.Fn:=Qo8 Qni f
theorem Wm5:∀f F,Qxy f=some F→Qao prog f F=true:=Qsx (l:=Qni) ⟨ok_c_Z22,ok_c_Z21,ok_c_Z26,ok_c_Z23,ok_c_Z18,ok_c_Z24,ok_c_Z3s,ok_c_Z37,ok_c_Z25,ok_c_Z27,ok_c_Z3c,ok_c_Z3v,ok_c_Z3x,ok_c_Z1a,ok_c_Z3y,ok_c_Z17,ok_c_Z3u,ok_c_Z19,ok_c_Z3w,ok_c_Z28,ok_c_Z3q,ok_c_Z20,ok_c_Z3a,ok_c_Z1i,ok_c_Z1h,ok_c_Z15,ok_c_Z6,ok_c_Z3t,ok_c_Z3h,ok_c_Z38,ok_c_Z3e,ok_c_Z3m,ok_c_Z3k,ok_c_Z3b,ok_c_Zq,ok_c_Z41,ok_c_Z3z,ok_c_Z1d,ok_c_Z35,ok_c_Z1v,ok_c_Z2u,ok_c_Z3r,ok_c_Z3j,ok_c_Z1u,ok_c_Z1p,ok_c_Z14,ok_c_Zx,ok_c_Z5,ok_c_Z2b,ok_c_Z3f,ok_c_Zs,ok_c_Z42,ok_c_Z1g,ok_c_Z1e,ok_c_Z36,ok_c_Z1x,ok_c_Z29,ok_c_Z2c,ok_c_Z2q,ok_c_Zh,ok_c_Z16,ok_c_Zw,ok_c_Z1k,ok_c_Z9,ok_c_Z2a,ok_c_Z2j,ok_c_Z3l,ok_c_Z3o,ok_c_Z3i,ok_c_Z39,ok_c_Z3n,ok_c_Z3d,ok_c_Zv,ok_c_Z1f,ok_c_Z2e,ok_c_Z2t,ok_c_Za,ok_c_Ze,ok_c_Zn,ok_c_Z1y,ok_c_Zy,ok_c_Z3,ok_c_Z1,ok_c_Z8,ok_c_Z0,ok_c_Z7,ok_c_Z1c,ok_c_Z2,ok_c_Z4,ok_c_Z2i,ok_c_Z2g,ok_c_Z2d,ok_c_Zp,ok_c_Zr,ok_c_Zu,ok_c_Zo,ok_c_Zt,ok_c_Z40,ok_c_Z2v,ok_c_Z2o,ok_c_Z32,ok_c_Z31,ok_c_Z2z,ok_c_Z2s,ok_c_Z2w,ok_c_Z30,ok_c_Z2y,ok_c_Z2r,ok_c_Z34,ok_c_Zf,ok_c_Zd,ok_c_Z1z,ok_c_Z13,ok_c_Z1s,ok_c_Zy_1,ok_c_Z1t,ok_c_Z1q,ok_c_Z1m,ok_c_Z1j,ok_c_Z1n,ok_c_Zy_2,ok_c_Zy_3,ok_c_Z1r,ok_c_Zy_4,ok_c_Z1o,ok_c_Z1l,ok_c_Z1w,ok_c_Z1b,ok_c_Z2h,ok_c_Z3g,ok_c_Z2x,ok_c_Z33,ok_c_Z2l,ok_c_Z2m,ok_c_Z2f,ok_c_Zj,ok_c_Zi,ok_c_Zl,ok_c_Zm,ok_c_Z2k,ok_c_Z2p,ok_c_Z2n,ok_c_Zk,ok_c_Zc,ok_c_Z3p,ok_c_Zb,ok_c_Zg,trivial⟩
end Go.Proofs.YtapnplljnpconaaGreatDoor
namespace Go.Ev
open Go
attribute [congr] Wbz Wb0 Wb1
attribute [congr] ite_congr
attribute [go_sem] Qcq Wf5 Wf6
theorem Wgg {v:V} : pu (some v)=some v.ng:=rfl
theorem Wgh:pu none=none:=rfl
theorem Wm6 {c:Bool} {x:Option V} : gdv (.bool c) true x=if c=true then x else some .undef:=by cases c <;> rfl
theorem Wm7 {c:Bool} {x:Option V} : gdv (.bool c) false x=if c=true then some .undef else x:=by cases c <;> rfl
theorem Wm8 {t:Bool} {x:Option V} : gdv .undef t x=some .undef:=rfl
theorem Wm9 {c:Bool} {x:Ro} {U:Objs} : gdp (.bool c) true x U=if c=true then x else some (.undef,U):=by cases c <;> rfl
theorem Wna {c:Bool} {x:Ro} {U:Objs} : gdp (.bool c) false x U=if c=true then some (.undef,U) else x:=by cases c <;> rfl
theorem Wnb {t:Bool} {x:Ro} {U:Objs} : gdp .undef t x U=some (.undef,U):=rfl
theorem gd_b {c:Bool} {x y:Ro} : gd (.bool c) true x y=if c=true then x else y:=by cases c <;> rfl
theorem gd_n {c:Bool} {x y:Ro} : gd (.bool c) false x y=if c=true then y else x:=by cases c <;> rfl
theorem gd_u {t:Bool} {x y:Ro} : gd .undef t x y=y:=rfl
section
variable {p:Prop} [Decidable p]
theorem Wb3 {α:Type} {a b:α} : (if p then some a else some b)=some (if p then a else b):=by split <;> rfl
theorem Wb4 {α β:Type} {a b:α} {s:β} : (if p then (a,s) else (b,s))=(if p then a else b,s):=by split <;> rfl
theorem Wgi {d:Bool} : (if p then V.bool d else V.bool false)=V.bool (decide p&&d):=by by_cases h:p <;> simp [h]
theorem Wjk {d:Bool} : (if p then V.bool true else V.bool d)=V.bool (decide p||d):=by by_cases h:p <;> simp [h]
theorem Wb5 {a b:V} : (if p then a else b).ng=if p then a.ng else b.ng:=by split <;> rfl
theorem Wjl {c:Bool} {α:Type} {x y:α} : (if c=false then x else y)=if c=true then y else x:=by cases c <;> rfl
theorem Wjm {α:Type} {x y:α} : (if ¬p then x else y)=if p then y else x:=by by_cases h:p <;> simp [h]
theorem Wgj {a b:V} {t:Bool} {x:Option V} : gdv (if p then a else b) t x=if p then gdv a t x else gdv b t x:=by split <;> rfl
theorem Wgk {a b:V} {t:Bool} {x:Ro} {U:Objs} : gdp (if p then a else b) t x U=if p then gdp a t x U else gdp b t x U:=by split <;> rfl
theorem Wjn {a b:V} {t:Bool} {x y:Ro} : gd (if p then a else b) t x y=if p then gd a t x y else gd b t x y:=by split <;> rfl
theorem Wjo {α:Type} {x y:Option α} {f:α→Ro} : bd (if p then x else y) f=if p then bd x f else bd y f:=by split <;> rfl
theorem Wjp {x y:Option V} : pu (if p then x else y)=if p then pu x else pu y:=by split <;> rfl
theorem Wgl {k:IntKind} {a b:Int} : (if p then V.int k a else V.int k b)=V.int k (if p then a else b):=by split <;> rfl
theorem Wgm {a b:List UInt8} : (if p then V.str a else V.str b)=V.str (if p then a else b):=by split <;> rfl
theorem iteT {α:Type} {a b:α} : (if True then a else b)=a:=rfl
theorem iteF {α:Type} {a b:α} : (if False then a else b)=b:=rfl
end
theorem Wjq {x:Option V} : gdv (.bool true) true x=x:=rfl
theorem Wjr {x:Option V} : gdv (.bool false) false x=x:=rfl
theorem Wjs {x:Option V} : gdv (.bool true) false x=some .undef:=rfl
theorem Wjt {x:Option V} : gdv (.bool false) true x=some .undef:=rfl
theorem Wju {x:Ro} {U:Objs} : gdp (.bool true) true x U=x:=rfl
theorem Wjv {x:Ro} {U:Objs} : gdp (.bool false) false x U=x:=rfl
theorem Wjw {x:Ro} {U:Objs} : gdp (.bool true) false x U=some (.undef,U):=rfl
theorem Wjx {x:Ro} {U:Objs} : gdp (.bool false) true x U=some (.undef,U):=rfl
theorem Wnc {x y:Ro} : gd (.bool true) true x y=x:=rfl
theorem Wnd {x y:Ro} : gd (.bool false) false x y=x:=rfl
theorem Wne {x y:Ro} : gd (.bool true) false x y=y:=rfl
theorem Wnf {x y:Ro} : gd (.bool false) true x y=y:=rfl
attribute [go_sem high] Wjq Wjr Wjs Wjt Wju Wjv Wjw Wjx Wnc Wnd Wne Wnf br_t br_f
attribute [go_sem] Wgg Wgh Wm6 Wm7 Wm8 Wm9 Wna Wnb gd_b gd_n gd_u Wgj Wgk Wjn Bool.decide_eq_true Wgl Wgm Wjl Wjm Wb3 Wb4 Wgi Wjk Wb5 Wjo Wjp iteT iteF decide_eq_true_eq decide_eq_false_iff_not Xac Xcm Xcl Bool.not_eq_true Bool.true_eq_false Xaj if_true if_false not_true_eq_false not_false_eq_true and_true true_and and_false false_and or_true true_or or_false false_or Bool.decide_and Bool.decide_or decide_true decide_false
theorem Wjy:V.nilm.ng = .nilm:=rfl
theorem Wjz:V.nilf.ng = .nilf:=rfl
theorem n_mp {o:Nat} : (V.mp o).ng = .mp o:=rfl
attribute [go_sem] Ql2 Qo7 Qva Wf4 Wmw Wi7 Wmx Wi8 Wi9 n_sl n_hs Wmy Wmz Wm0 Wja n_fn Wjy Wjz n_mp Wgf
section
variable {k:IntKind} {e:EqK} {a b:Int} {s t:List UInt8}
theorem Wng:eB .add e (.int k a) (.int k b)=some (.int k (k.wrap (a+b))):=by simp [eB]
theorem Wnh:eB .sub e (.int k a) (.int k b)=some (.int k (k.wrap (a - b))):=by simp [eB]
theorem Wni:eB .mul e (.int k a) (.int k b)=some (.int k (k.wrap (a * b))):=by simp [eB]
theorem Wnj (h:¬b=0):eB .quo e (.int k a) (.int k b)=some (.int k (k.wrap (a.tdiv b))):=by simp [eB,h]
theorem Wnk (h:¬b=0):eB .rem e (.int k a) (.int k b)=some (.int k (a.tmod b)):=by simp [eB,h]
theorem Wnl:eB .eql e (.int k a) (.int k b)=some (.bool (decide (a=b))):=by simp [eB];by_cases h:a=b <;> simp [h]
theorem Wnm:eB .neq e (.int k a) (.int k b)=some (.bool (decide (¬a=b))):=by simp [eB];by_cases h:a=b <;> simp [h]
theorem Wnn:eB .lss e (.int k a) (.int k b)=some (.bool (decide (a<b))):=by simp [eB]
theorem Wno:eB .leq e (.int k a) (.int k b)=some (.bool (decide (a≤b))):=by simp [eB]
theorem Wnp:eB .gtr e (.int k a) (.int k b)=some (.bool (decide (b<a))):=by simp [eB]
theorem Wnq:eB .geq e (.int k a) (.int k b)=some (.bool (decide (b≤a))):=by simp [eB]
theorem Wj0 (h:s.length+t.length≤Qwi):eB .add e (.str s) (.str t)=some (.str (s++t)):=by simp [eB,h]
theorem Wj1:eB .eql e (.str s) (.str t)=some (.bool (decide (s=t))):=by simp [eB]
theorem Wj2:eB .neq e (.str s) (.str t)=some (.bool (decide (¬s=t))):=by simp [eB]
theorem Wj3:eB .lss e (.str s) (.str t)=some (.bool (bytesLess s t)):=by simp [eB]
theorem Wj4 {x y:Bool} : eB .eql .bool (.bool x) (.bool y)=some (.bool (decide (x=y))):=by cases x <;> cases y <;> rfl
theorem Wj5 {x y:Bool} : eB .neq .bool (.bool x) (.bool y)=some (.bool (decide (¬x=y))):=by cases x <;> cases y <;> rfl
theorem Wnr:evUn .neg (.int k a)=some (.int k (k.wrap (0 - a))):=rfl
theorem Wns {x:Bool} : evUn .not (.bool x)=some (.bool !x):=rfl
theorem Wgn {U:Objs} {j:IntKind} : eC U (.toInt k) (.int j a)=some (.int k (k.wrap a)):=rfl
theorem Wj6 {U:Objs} : eC U .same (.str s)=some (.str s):=rfl
theorem Qvd {U:Objs} : eC U .strBytes (.str s)=some (.sl (Qae s) (.gr 1)):=rfl
theorem Wgo:Qfw (.str s)=some (.int .i64 s.length):=rfl
theorem Wb6:Qai .nils=some (.int .i64 0):=rfl
theorem Weg {xs:List V} {c:Cap} : Qai (.sl xs c)=some (.int .i64 xs.length):=rfl
theorem Wj7 {o off len sz:Nat} {ag:Bool} : Qai (.hs o off len sz ag)=some (.int .i64 len):=rfl
theorem Wj8 {x:Bool} {v w:V} : pV (.bool x) v w=some (if x then v else w):=rfl
theorem Wj9 {v w:V} : pV (.bool true) v w=some v:=rfl
theorem Wka {v w:V} : pV (.bool false) v w=some w:=rfl
theorem Wgp (h:0≤a∧a<s.length):Qm3 (.int k a) (.str s)=some (.int .u8 (s.getD a.toNat 0).toNat):=by
 have h3:a.toNat<s.length:=by omega
 simp only [Qm3,index,if_pos h,Xaa,Xad,Xae h3,Xav,Xbg]
theorem Wb7 {vs:List V} {i:Nat} : eX i (.tup vs)=vs[i]? := rfl
theorem Qxz {o i off:Nat} : eF off (.ptr o i)=some (.ptr o (i+off)):=rfl
theorem Qve {cs:List V} {i off:Nat} : eF off (.eptr cs i)=some (.eptr cs (i+off)):=rfl
theorem Wb8 {o i:Nat} : Qa4 (.ptr o i)=some (.ptr o i):=rfl
theorem Qx0 {cs:List V} {i:Nat} : Qa4 (.eptr cs i)=some (.eptr cs i):=rfl
theorem Wb9 {U:Objs} {ag:Bool} {sz o off:Nat} : eL U ag sz (.ptr o off)=(Objs.get U o).bind fun cs=>part ag sz cs off:=rfl
theorem Qx1 {U:Objs} {ag:Bool} {sz off:Nat} {cs:List V} : eL U ag sz (.eptr cs off)=part ag sz cs off:=rfl
theorem Qx2 {ag:Bool} {sz off:Nat} {cs:List V} : Qhl ag off sz (.agg cs)=part ag sz cs off:=rfl
theorem Wkb {c:V} {cs:List V} : part false 1 (c::cs) 0=some c.ng:=rfl
theorem Wkc {c:V} {cs:List V} {n:Nat} : part false 1 (c::cs) (n+1)=part false 1 cs n:=rfl
theorem Wgq {cs:List V} {sz off:Nat} (h:off+sz≤cs.length):part true sz cs off=some (.agg (((cs.drop off).take sz).map V.ng)):=by simp [part,h]
theorem Wgr {keep:Bool} : oK keep (.int k a)=some (.int k a):=by cases keep <;> rfl
theorem Wca {keep x:Bool} : oK keep (.bool x)=some (.bool x):=by cases keep <;> rfl
theorem Wgs {keep:Bool} : oK keep (.str s)=some (.str s):=by cases keep <;> rfl
theorem Wgt {keep:Bool} {cs:List V} : oK keep (.agg cs)=some (.agg cs):=by cases keep <;> rfl
theorem Wgu {keep:Bool} {t:TypeId} {x:V} : oK keep (.ifc t x)=some (.ifc t x):=by cases keep <;> rfl
theorem Wcb {keep:Bool} : oK keep .nili=some .nili:=by cases keep <;> rfl
theorem Wcc {keep:Bool} : oK keep .nils=some .nils:=by cases keep <;> rfl
theorem Wgv {keep:Bool} {o i:Nat} : oK keep (.ptr o i)=some (.ptr o i):=by cases keep <;> rfl
theorem Wcd {keep:Bool} {cs:List V} {i:Nat} : oK keep (.eptr cs i)=some (.eptr cs i):=by cases keep <;> rfl
theorem Wkd {xs:List V} {c:Cap} : oK false (.sl xs c)=some (.sl xs .no):=rfl
theorem Wgw {xs:List V} {c:Cap} : oK true (.sl xs c)=some (.sl xs c):=rfl
theorem Wke {keep:Bool} {o off len sz:Nat} {ag:Bool} : oK keep (.hs o off len sz ag)=some (.hs o off len sz ag):=by cases keep <;> rfl
end
attribute [go_sem] Wng Wnh Wni Wnj Wnk Wnl Wnm Wnn Wno Wnp Wnq Wj0 Wj1 Wj2 Wj3 Wj4 Wj5 Wnr Wns Wgn Wj6 Qvd Wgo Wb6 Weg Wj7 Wj8 Wgp Wb7 Qxz Qve Wb8 Qx0 Wb9 Qx1 Qx2 Wkb Wkc Wgq Wgr Wca Wgs Wgt Wgu Wcb Wcc Wgv Wcd Wkd Wgw Wke
attribute [go_sem high] Wj9 Wka
def O.rb (n:Nat):O→Bool
 | .cells cs=>V.rbs n cs
 | .mp es=>V.rbs n (es.map Prod.fst)&&V.rbs n (es.map Prod.snd)
def Wf (U:Objs):Prop:=U.all (O.rb U.length)=true
theorem Weh {n:Nat} {U:Objs} {o:O} (h:o.rb n=true):fzO n U o=some o:=by
 cases o with
 |cells cs=>simp only [O.rb] at h;simp [fzO,h]
 |mp es=>simp only [O.rb] at h;simp [fzO,h]
theorem Qnj {n:Nat} {U:Objs} : ∀ {l:List O},l.all (O.rb n)=true→l.mapM (fzO n U)=some l
 |[],_=>by simp
 |o::l,h=>by
  simp only [Xcg,Xac] at h
  simp [Xbo,Weh h.1,Qnj h.2]
theorem Qcz {U:Objs} (h:Wf U):cuO U.length U=some U:=by
 unfold cuO
 rw [Xbx]
 exact Qnj h
theorem Qew {U H:Objs} (h:Wf U):cuO U.length (U++H)=some U:=by
 unfold cuO
 rw [List.take_left']
 ·exact Qnj h
 ·rfl
theorem Qs4:Wf []:=rfl
theorem Qx3 {U:Objs} {r:V} (h:Wf U) (hr:r.rb U.length=true):nK U.length U r=some (r,U):=by
 unfold nK
 rw [Qcz h,Qcq,Qar hr,Qcq]
theorem Qq5 {U H:Objs} {r:V} (h:Wf U) (hr:r.rb U.length=true):nK U.length (U++H) r=some (r,U):=by
 unfold nK
 rw [Qew h,Qcq,Qar hr,Qcq]
theorem Wnt {r:V} (hr:r.rb 0=true):nK 0 [] r=some (r,[]):=Qx3 (U:=[]) Qs4 hr
theorem Qdh {n:Nat} {k:IntKind} {a:Int} : V.rb n (.int k a)=true:=rfl
theorem Qi7 {n:Nat} {b:Bool} : V.rb n (.bool b)=true:=rfl
theorem Qju {n:Nat} {s:List UInt8} : V.rb n (.str s)=true:=rfl
theorem Wgx {n:Nat} : V.rb n .nili=true:=rfl
theorem Qx4 {n:Nat} : V.rb n .nils=true:=rfl
theorem Wgy {n:Nat} : V.rb n .nilp=true:=rfl
theorem Wkf {n:Nat} : V.rb n .any=true:=rfl
theorem Wce {n:Nat} : V.rb n .undef=true:=rfl
theorem Qx5 {n o i:Nat} : V.rb n (.ptr o i)=decide (o<n):=rfl
theorem Wnu {n o off len sz:Nat} {ag:Bool} : V.rb n (.hs o off len sz ag)=decide (o<n):=rfl
theorem Qa0 {n:Nat} {cs:List V} : V.rb n (.agg cs)=V.rbs n cs:=rfl
theorem Qx6 {n:Nat} {cs:List V} : V.rb n (.tup cs)=V.rbs n cs:=rfl
theorem Wcf {n:Nat} {cs:List V} {c:Cap} : V.rb n (.sl cs c)=V.rbs n cs:=rfl
theorem Qq6 {n i:Nat} {cs:List V} : V.rb n (.eptr cs i)=V.rbs n cs:=rfl
theorem Qs5 {n:Nat} {t:TypeId} {x:V} : V.rb n (.ifc t x)=V.rb n x:=rfl
theorem Qby {n:Nat} : V.rbs n []=true:=rfl
theorem Qag {n:Nat} {x:V} {xs:List V} : V.rbs n (x::xs)=(V.rb n x&&V.rbs n xs):=rfl
theorem Qx7 {α:Type} {n:Nat} {f:α→V} (h:∀x,V.rb n (f x)=true):∀ {l:List α},V.rbs n (l.map f)=true
 |[]=>rfl
 |x::l=>by rw [Xak,Qag,h,Qx7 h];rfl
attribute [go_sem] Qcz Qew Qx3 Qq5 Wnt Qdh Qi7 Qju Wgx Qx4 Wgy Wkf Wce Qx5 Wnu Qa0 Qx6 Wcf Qq6 Qs5 Qby Qag Qie Wi4 Wfz Wi5 Wf0 Wf1 Wf2 Wf3 Wbx Wi6 Wby Qar
theorem w64 {x:Int} (h:-9223372036854775808≤x∧x≤9223372036854775807):IntKind.i64.wrap x=x:=by simp only [IntKind.wrap_i64];omega
theorem w8 {x:Int} (h:0≤x∧x≤255):IntKind.u8.wrap x=x:=by simp only [IntKind.wrap_u8];omega
theorem w32 {x:Int} (h:-2147483648≤x∧x≤2147483647):IntKind.i32.wrap x=x:=by simp only [IntKind.wrap_i32];omega
attribute [go_sem] List.getD_cons_zero List.getD_cons_succ Xad Xdo Xau Xa0 Bool.not_true Bool.not_false Xc2 Bool.or_false Xco Bool.or_true Xbt Bool.and_false
theorem Qx8 {U:Objs} {cs:List V} : Objs.get (U++[.cells cs]) U.length=some cs:=by simp [Objs.get]
theorem Qx9 {n d:Nat} {U:Objs} : ∀ {cs:List V},V.rbs n cs=true→cs.mapM (fz n U d)=some cs
 |[],_=>by simp
 |c::cs,h=>by
  rw [Qag,Xac] at h
  simp [Xbo,Qar h.1,Qx9 h.2]
theorem Wgz {U:Objs} {cs:List V} {d off:Nat} (h:V.rbs U.length cs=true):fz U.length (U++[.cells cs]) (d+1) (.ptr U.length off)=some (.eptr cs off):=by
 simp [fz,Qx5,Qx8,Qx9 h]
theorem Wkg {U:Objs} {cs:List V} {t:TypeId} {off:Nat} (h:V.rbs U.length cs=true):fz U.length (U++[.cells cs]) fzD (.ifc t (.ptr U.length off))=some (.ifc t (.eptr cs off)):=by
 unfold fzD
 rw [show (40:Nat)=39+1 from rfl]
 unfold fz
 simp only [Qs5,Qx5,Nat.lt_irrefl,decide_false,Xaj,if_false,Wgz h]
 rfl
theorem Qq7 {U:Objs} {cs:List V} {t:TypeId} {off:Nat} (hσ:Wf U) (h:V.rbs U.length cs=true):nK U.length (U++[.cells cs]) (.ifc t (.ptr U.length off))=some (.ifc t (.eptr cs off),U):=by
 unfold nK
 rw [Qew hσ,Qcq,Wkg h,Qcq]
theorem Wei {U:Objs} {x:V} : boxV U x=if Qan x.cells=true then some (.ptr U.length 0,U++[.cells (x.cells.map V.ng)]) else none:=by unfold boxV;rfl
theorem Qbv {cs:List V} : (V.agg cs).cells=cs:=rfl
theorem Qya {k:IntKind} {a:Int} : (V.int k a).cells=[.int k a]:=rfl
theorem Qvf {b:Bool} : (V.bool b).cells=[.bool b]:=rfl
theorem Qyb {s:List UInt8} : (V.str s).cells=[.str s]:=rfl
theorem Qvg:V.nili.cells=[.nili]:=rfl
theorem Qvh:V.nils.cells=[.nils]:=rfl
theorem Wcg {xs:List V} {c:Cap} : (V.sl xs c).cells=[.sl xs c]:=rfl
theorem Qyc {t:TypeId} {x:V} : (V.ifc t x).cells=[.ifc t x]:=rfl
theorem Qyd {o i:Nat} : (V.ptr o i).cells=[.ptr o i]:=rfl
theorem Qvi {cs:List V} {i:Nat} : (V.eptr cs i).cells=[.eptr cs i]:=rfl
theorem Qdm:Qan []=true:=rfl
theorem Qcb {x:V} {xs:List V} : Qan (x::xs)=(V.one x&&Qan xs):=rfl
theorem Qc9 {k:IntKind} {a:Int} : V.one (.int k a)=true:=rfl
theorem Qgf {b:Bool} : V.one (.bool b)=true:=rfl
theorem Qgz {s:List UInt8} : V.one (.str s)=true:=rfl
theorem Qye:V.one .nili=true:=rfl
theorem Qyf:V.one .nils=true:=rfl
theorem Qyg:V.one .nilp=true:=rfl
theorem Wg0 {xs:List V} {c:Cap} : V.one (.sl xs c)=true:=rfl
theorem Wch {t:TypeId} {x:V} : V.one (.ifc t x)=true:=rfl
theorem Wci {o i:Nat} : V.one (.ptr o i)=true:=rfl
theorem Qyh {cs:List V} {i:Nat} : V.one (.eptr cs i)=true:=rfl
attribute [go_sem] Qx8 Qq7 Wei Qbv Qya Qvf Qyb Qvg Qvh Wcg Qyc Qyd Qvi Qdm Qcb Qc9 Qgf Qgz Qye Qyf Qyg Wg0 Wch Wci Qyh Xak Xa8 List.drop_succ_cons Xb0 List.take_succ_cons List.take_zero List.take_nil List.drop_nil Xal Xa9 Nat.reduceAdd Nat.reduceLeDiff Nat.reduceLT Xb1 Xd2
theorem Qke {z:List V} {ps:List (Nat×Nat×V)} : Qaw z ps=(lay z ps).map V.agg:=rfl
theorem Qnk {z:List V} : lay z []=some z:=rfl
theorem Qkf {z:List V} {off sz:Nat} {x:V} {r:List (Nat×Nat×V)} (h1:x.cells.length=sz) (h2:off+sz≤z.length) (h3:Qan x.cells=true):lay z ((off,sz,x)::r)=lay (Qcp z off (x.cells.map V.ng)) r:=by
 simp [lay,h1,h2,h3]
theorem Qk9 {z:List V} {n:Nat} : Qcp z n []=z:=by cases z <;> cases n <;> rfl
theorem Qyi {c x:V} {cs xs:List V} : Qcp (c::cs) 0 (x::xs)=x::Qcp cs 0 xs:=rfl
theorem Qyj {c x:V} {cs xs:List V} {n:Nat} : Qcp (c::cs) (n+1) (x::xs)=c::Qcp cs n (x::xs):=rfl
theorem Qal {α β:Type} {a:α} {f:α→β} : (some a).map f=some (f a):=rfl
attribute [go_sem] Qke Qnk Qkf Qk9 Qyi Qyj Qal
theorem Wg1:Wf []=True:=by simp [Wf]
theorem Qeo {cs:List V} : Wf [.cells cs]=(V.rbs 1 cs=true):=by simp [Wf,O.rb]
theorem Wej {U:Objs} : cuO 0 U=some []:=rfl
theorem Wnv {U:Objs} {r:V} (hr:r.rb 0=true):nK 0 U r=some (r,[]):=by
 unfold nK
 rw [Wej,Qcq,Qar hr,Qcq]
theorem Wcj {cs:List V} {t:TypeId} {off:Nat} (h:V.rbs 0 cs=true):nK 0 [.cells cs] (.ifc t (.ptr 0 off))=some (.ifc t (.eptr cs off),[]):=Qq7 (U:=[]) Qs4 h
theorem Wg2 {cs:List V} (h:V.rbs 1 cs=true):cuO 1 [.cells cs]=some [.cells cs]:=Qcz (U:=[.cells cs]) (by rw [Qeo];exact h)
theorem Qda {cs:List V} {H:Objs} (h:V.rbs 1 cs=true):cuO 1 (.cells cs::H)=some [.cells cs]:=Qew (U:=[.cells cs]) (H:=H) (by rw [Qeo];exact h)
theorem Wg3 {cs:List V} {r:V} (h:V.rbs 1 cs=true) (hr:r.rb 1=true):nK 1 [.cells cs] r=some (r,[.cells cs]):=Qx3 (U:=[.cells cs]) (by rw [Qeo];exact h) hr
theorem Wck {cs:List V} {H:Objs} {r:V} (h:V.rbs 1 cs=true) (hr:r.rb 1=true):nK 1 (.cells cs::H) r=some (r,[.cells cs]):=Qq5 (U:=[.cells cs]) (H:=H) (by rw [Qeo];exact h) hr
theorem Wcl {cs ds:List V} {t:TypeId} {off:Nat} (h:V.rbs 1 cs=true) (hd:V.rbs 1 ds=true):nK 1 [.cells cs,.cells ds] (.ifc t (.ptr 1 off))=some (.ifc t (.eptr ds off),[.cells cs]):=Qq7 (U:=[.cells cs]) (by rw [Qeo];exact h) hd
theorem get1 {O:O} {cs:List V} {H:Objs} : Objs.get (O :: .cells cs::H) 1=some cs:=rfl
theorem Wg4 {k:IntKind} {a:Int} {s:List UInt8} (h:0≤a∧a≤s.length):Qhb (.str s) (some (.int k a)) none=some (.str (s.drop a.toNat)):=by
 have hb:bound (.int k a) s.length=some a.toNat:=by simp [bound,h]
 have h3:((s.drop a.toNat).take (s.length - a.toNat))=s.drop a.toNat:=by rw [Xbl];simp
 simp [Qhb,bounds,hb,h3]
theorem Wg5 {k:IntKind} {a:Int} {s:List UInt8} (h:0≤a∧a≤s.length):Qhb (.str s) none (some (.int k a))=some (.str (s.take a.toNat)):=by
 have hb:bound (.int k a) s.length=some a.toNat:=by simp [bound,h]
 simp [Qhb,bounds,hb]
attribute [go_sem] Wg1 Qeo Wej Wnv Wcj Wg2 Qda Wg3 Wck Wcl get0 get1 Wg4 Wg5 Xcn Xcs
theorem iP {p:Prop} [Decidable p] {α:Type} {a b:α} (h:p):(if p then a else b)=a:=if_pos h
theorem iN {p:Prop} [Decidable p] {α:Type} {a b:α} (h:¬p):(if p then a else b)=b:=if_neg h
attribute [go_sem] Int.reduceToNat Xbf Int.toNat_zero Int.reduceAdd Int.reduceSub Int.reduceMul Int.reduceNeg Int.reduceLT Int.reduceLE Nat.reduceSub Nat.reduceMul
theorem Qb8 {k:IntKind} {i:Int} {s:List UInt8} {c:Cap} (h:0≤i∧i<s.length):eI 1 (.int k i) (.sl (Qae s) c)=some (.eptr [.int .u8 (s.getD i.toNat 0).toNat] 0):=by
 have h3:i.toNat<s.length:=by omega
 have h4:(Qae s).length=s.length:=by simp [Qae]
 have h5:(Qae s)[i.toNat]? = some (.int .u8 (s.getD i.toNat 0).toNat):=by simp [Qae,h3]
 simp only [eI,index,h4,if_pos h,Xaa,Xad,h5]
 rfl
theorem Qpg {s:List UInt8} : (Qae s).length=s.length:=by simp [Qae]
theorem Wcm {α:Type} {p r:List α} {b x:α} : (p++b::r).getD p.length x=b:=by simp
attribute [go_sem] Qb8 Qpg Wcm
attribute [go_sem] reduceCtorEq Xb9 Xcq Xas
theorem Qnl {a b:Int} (h:0≤a∧0≤b):a.tmod b=a % b:=Int.tmod_eq_emod_of_nonneg h.1
theorem Qla {a b:Int} (h:0≤a∧0≤b):a.tdiv b=a / b:=Int.tdiv_eq_ediv_of_nonneg h.1
theorem Wcn {k:IntKind} {a:Int} : agOk false (.int k a)=true:=rfl
theorem Wco {s:List UInt8} : agOk false (.str s)=true:=rfl
theorem Qyk {b:Bool} : agOk false (.bool b)=true:=rfl
theorem Wcp {cs:List V} : agOk true (.agg cs)=true:=rfl
theorem Qyl {ag:Bool} {sz len:Nat} {z:V} {ps:List (Nat×V)} : Qam ag sz len z ps=(Qdr sz (List.replicate len z) ps).bind fun xs=>if Qdj ag sz xs=true then some (.sl xs .fx) else none:=rfl
theorem Qym {sz:Nat} {z:List V} : Qdr sz z []=some z:=rfl
theorem Qvj {sz i:Nat} {z:List V} {x:V} {r:List (Nat×V)} (h1:x.cells.length=sz) (h2:i<z.length) (h3:Qan x.cells=true):Qdr sz z ((i,x)::r)=Qdr sz (z.set i x.ng) r:=by simp [Qdr,h1,h2,h3]
theorem Qph {ag:Bool} {sz:Nat} : Qdj ag sz []=true:=rfl
theorem Qvk {ag:Bool} {sz:Nat} {y:V} {ys:List V} : Qdj ag sz (y::ys)=(decide (y.cells.length=sz)&&Qan y.cells&&agOk ag y&&Qdj ag sz ys):=rfl
theorem Qq8 {U:Objs} {xs:List V} {c:Cap} : eC U .bytesStr (.sl xs c)=(bytesOf xs).map V.str:=rfl
theorem Qq9:bytesOf []=some []:=rfl
theorem Qjv {n:Int} {xs:List V} : bytesOf (.int .u8 n::xs)=(bytesOf xs).map fun bs=>UInt8.ofNat n.toNat::bs:=by simp only [bytesOf];cases bytesOf xs <;> rfl
theorem Wcq:eB .neq .ifc .nili .nili=some (.bool false):=rfl
theorem Wg6:eB .eql .ifc .nili .nili=some (.bool true):=rfl
theorem Wg7 {t:TypeId} {x:V} : eB .neq .ifc (.ifc t x) .nili=some (.bool true):=rfl
theorem Wkh {t:TypeId} {x:V} : eB .eql .ifc (.ifc t x) .nili=some (.bool false):=rfl
attribute [go_sem] Wcn Wco Qyk Wcp Qyl Qym Qvj Qph Qvk Qq8 Qq9 Qjv Wcq Wg6 Wg7 Wkh Xcd List.replicate_succ Xdy List.set_cons_zero List.set_cons_succ
attribute [go_sem] iP iN w64 w8 w32
def rn (b k o:Nat):Nat:=if o<b then o else o+k
theorem Wg8 {b k o n:Nat} (hn:b≤n):(rn b k o<n+k)↔o<n:=by unfold rn;split <;> omega
theorem Wki {b k o p:Nat} : (rn b k o=rn b k p)↔o=p:=by unfold rn;split <;> split <;> omega
mutual
def V.sh (b k:Nat):V→V
 | .ptr o off=>.ptr (rn b k o) off
 | .hs o off len sz ag=>.hs (rn b k o) off len sz ag
 | .mp o=>.mp (rn b k o)
 | .eptr cs off=>.eptr (V.shs b k cs) off
 | .sl xs c=>.sl (V.shs b k xs) c
 | .agg cs=>.agg (V.shs b k cs)
 | .tup cs=>.tup (V.shs b k cs)
 | .ifc t x=>.ifc t (V.sh b k x)
 | .fn f xs ys=>.fn f (V.shs b k xs) (V.shs b k ys)
 | .any=>.any | .undef=>.undef | .bool x=>.bool x | .int j n=>.int j n | .str s=>.str s
 | .nilp=>.nilp | .nils=>.nils | .nili=>.nili | .nilf=>.nilf | .nilm=>.nilm
def V.shs (b k:Nat):List V→List V
 |[]=>[]
 |x::xs=>V.sh b k x::V.shs b k xs
end
theorem Qat {b k:Nat} : ∀ {l:List V},V.shs b k l=l.map (V.sh b k)
 |[]=>rfl
 |x::xs=>by rw [V.shs,Qat];rfl
mutual
theorem Qb1 {b k:Nat} : ∀ {x:V},V.rb 0 x=true→V.sh b k x=x
 | .ptr o off,h=>by simp [V.rb] at h
 | .hs o off len sz ag,h=>by simp [V.rb] at h
 | .mp o,h=>by simp [V.rb] at h
 | .eptr cs off,h=>by rw [V.sh,Qb0 (by simpa [V.rb] using h)]
 | .sl xs c,h=>by rw [V.sh,Qb0 (by simpa [V.rb] using h)]
 | .agg cs,h=>by rw [V.sh,Qb0 (by simpa [V.rb] using h)]
 | .tup cs,h=>by rw [V.sh,Qb0 (by simpa [V.rb] using h)]
 | .ifc t x,h=>by rw [V.sh,Qb1 (by simpa [V.rb] using h)]
 | .fn f xs ys,h=>by
  have h':V.rbs 0 xs=true∧V.rbs 0 ys=true:=by simpa [V.rb] using h
  rw [V.sh,Qb0 h'.1,Qb0 h'.2]
 | .any,_=>rfl | .undef,_=>rfl | .bool x,_=>rfl | .int j n,_=>rfl | .str s,_=>rfl
 | .nilp,_=>rfl | .nils,_=>rfl | .nili,_=>rfl | .nilf,_=>rfl | .nilm,_=>rfl
theorem Qb0 {b k:Nat} : ∀ {l:List V},V.rbs 0 l=true→V.shs b k l=l
 |[],_=>rfl
 |x::xs,h=>by
  rw [Qag,Xac] at h
  rw [V.shs,Qb1 h.1,Qb0 h.2]
end
mutual
theorem Wcr {b k n:Nat} (hn:b≤n):∀ {x:V},V.rb (n+k) (V.sh b k x)=V.rb n x
 | .ptr o off=>by simp [V.rb,V.sh,Wg8 hn]
 | .hs o off len sz ag=>by simp [V.rb,V.sh,Wg8 hn]
 | .mp o=>by simp [V.rb,V.sh,Wg8 hn]
 | .eptr cs off=>by rw [V.sh,Qq6,Qq6,Qig hn]
 | .sl xs c=>by rw [V.sh,Wcf,Wcf,Qig hn]
 | .agg cs=>by rw [V.sh,Qa0,Qa0,Qig hn]
 | .tup cs=>by rw [V.sh,Qx6,Qx6,Qig hn]
 | .ifc t x=>by rw [V.sh,Qs5,Qs5,Wcr hn]
 | .fn f xs ys=>by
  have h1:=Qig (k:=k) hn (l:=xs)
  have h2:=Qig (k:=k) hn (l:=ys)
  simp [V.rb,V.sh,h1,h2]
 | .any=>rfl | .undef=>rfl | .bool x=>rfl | .int j n=>rfl | .str s=>rfl
 | .nilp=>rfl | .nils=>rfl | .nili=>rfl | .nilf=>rfl | .nilm=>rfl
theorem Qig {b k n:Nat} (hn:b≤n):∀ {l:List V},V.rbs (n+k) (V.shs b k l)=V.rbs n l
 |[]=>rfl
 |x::xs=>by rw [V.shs,Qag,Qag,Wcr hn,Qig hn]
end
theorem Wkj {b k o p:Nat} : (rn b k o == rn b k p)=(o == p):=by rw [Bool.eq_iff_iff];simp [Wki]
mutual
theorem Wek {b k:Nat} : ∀ {x y:V},V.beq (V.sh b k x) (V.sh b k y)=V.beq x y
 |x,y=>by
  cases x <;> cases y <;> first
   |rfl
   |(simp only [V.sh,V.beq,Qra,Wek];done)
   |(simp only [V.sh,V.beq,Wkj];done)
theorem Qra {b k:Nat} : ∀ {l m:List V},V.beqs (V.shs b k l) (V.shs b k m)=V.beqs l m
 |[],[]=>rfl
 |[],_::_=>rfl
 |_::_,[]=>rfl
 |x::xs,y::ys=>by simp only [V.shs,V.beqs];rw [Wek,Qra]
end
section
variable {b k:Nat}
theorem Qgg {x:V} : (V.sh b k x).ng=V.sh b k x.ng:=by cases x <;> rfl
theorem Wg9 {x:V} : (V.sh b k x).isLk=x.isLk:=by
 cases x with
 |sl xs c=>cases c <;> rfl
 |_=>rfl
theorem Qep {x:V} : (V.sh b k x).cells=x.cells.map (V.sh b k):=by
 cases x <;> first|rfl|(simp only [V.sh,V.cells,Qat,Xak,Xa8];done)
theorem Wel {x:V} : V.one (V.sh b k x)=V.one x:=by cases x <;> rfl
theorem Qyn {ag:Bool} {x:V} : agOk ag (V.sh b k x)=agOk ag x:=by cases x <;> rfl
theorem Qml {l:List V} : Qan (l.map (V.sh b k))=Qan l:=by
 unfold Qan
 rw [Xda]
 congr 1
 funext x
 exact Wel
theorem Qch {l:List V} : (l.map (V.sh b k)).map V.ng=(l.map V.ng).map (V.sh b k):=by
 rw [Xce,Xce]
 congr 1
 funext x
 exact Qgg
theorem Qi8 {ag:Bool} {sz off:Nat} {cs:List V} : part ag sz (cs.map (V.sh b k)) off=(part ag sz cs off).map (V.sh b k):=by
 unfold part
 rw [Xao]
 cases ag with
 |true=>
  simp only [if_true]
  split
  ·simp only [Xag,V.sh,Qat,←Xdw,←Xde,Qch]
  ·rfl
 |false=>
  simp only [Xaj,if_false]
  split
  ·rw [Xan]
   cases cs[off]? with
   |none=>rfl
   |some x=>simp only [Xag,Qgg]
  ·rfl
theorem Qih {ag:Bool} {sz:Nat} {cs:List V} : ∀ {n off:Nat},chunks ag sz (cs.map (V.sh b k)) n off=(chunks ag sz cs n off).map (List.map (V.sh b k))
 |0,_=>rfl
 |n+1,off=>by
  simp only [chunks,Qi8,Qih,Xaa]
  cases part ag sz cs off with
  |none=>rfl
  |some x=>
   simp only [Xag,Xad]
   cases chunks ag sz cs n (off+sz) <;> rfl
theorem Qkg:∀ {cs:List V} {n:Nat} {xs:List V},Qcp (cs.map (V.sh b k)) n (xs.map (V.sh b k))=(Qcp cs n xs).map (V.sh b k)
 |cs,n,[]=>by rw [Xa8,Qk9,Qk9]
 |[],n,x::xs=>by cases n <;> rfl
 |c::cs,0,x::xs=>by simp only [Xak,Qyi,Qkg]
 |c::cs,n+1,x::xs=>by
  have:=Qkg (cs:=cs) (n:=n) (xs:=x::xs)
  simp only [Xak] at this
  simp only [Xak,Qyj,this]
theorem Wem:∀ {ps:List (Nat×Nat×V)} {z:List V},lay (z.map (V.sh b k)) (ps.map fun p=>(p.1,p.2.1,V.sh b k p.2.2))=(lay z ps).map (List.map (V.sh b k))
 |[],z=>rfl
 |(off,sz,x)::r,z=>by
  simp only [Xak,lay,Qep,Xao,Qml,Qch,Qkg]
  split
  ·exact Wem
  ·rfl
theorem Qnm {sz:Nat} : ∀ {ps:List (Nat×V)} {z:List V},Qdr sz (z.map (V.sh b k)) (ps.map fun p=>(p.1,V.sh b k p.2))=(Qdr sz z ps).map (List.map (V.sh b k))
 |[],z=>rfl
 |(i,x)::r,z=>by
  simp only [Xak,Qdr,Qep,Xao,Qml,Qgg,←Xcf]
  split
  ·exact Qnm
  ·rfl
theorem Qnn {ag:Bool} {sz:Nat} {ys:List V} : Qdj ag sz (ys.map (V.sh b k))=Qdj ag sz ys:=by
 unfold Qdj
 rw [Xda]
 congr 1
 funext x
 simp only [Function.comp,Qep,Xao,Qml,Qyn]
theorem Qrb {xs:List V} : (xs.map (V.sh b k)).flatMap V.cells=(xs.flatMap V.cells).map (V.sh b k):=by
 rw [List.flatMap_map,List.map_flatMap]
 congr 1
 funext x
 exact Qep
theorem Qrc {f g:V→Option V} (h:∀x,g (V.sh b k x)=(f x).map (V.sh b k)):∀ {l:List V},(l.map (V.sh b k)).mapM g=(l.mapM f).map (List.map (V.sh b k))
 |[]=>rfl
 |x::xs=>by
  simp only [Xak,Xbo,h,Qrc h,Xaa]
  cases f x with
  |none=>rfl
  |some y=>
   simp only [Xag,Xad]
   cases xs.mapM f <;> rfl
def O.sh (b k:Nat):O→O
 | .cells cs=>.cells (cs.map (V.sh b k))
 | .mp es=>.mp (es.map fun p=>(V.sh b k p.1,V.sh b k p.2))
end
def ins (b:Nat) (B U:Objs):Objs:=(U.map (O.sh b B.length)).take b++B++(U.map (O.sh b B.length)).drop b
section
variable {b:Nat} {B U:Objs}
theorem Qrd (hb:b≤U.length):(ins b B U).length=U.length+B.length:=by simp [ins];omega
theorem Qre (hb:b≤U.length) (o:Nat):(ins b B U)[rn b B.length o]? = (U[o]?).map (O.sh b B.length):=by
 unfold ins rn
 split
 ·rename_i h
  rw [Xa2,Xaz (by simp;omega),Xar,if_pos h,Xan]
 ·rename_i h
  rw [Xbu (by simp;omega),Xa6,Xan]
  congr 2
  simp;omega
theorem Qi9 (hb:b≤U.length) (o:Nat) (x:O):(ins b B U).set (rn b B.length o) (x.sh b B.length)=ins b B (U.set o x):=by
 unfold ins rn
 split
 ·rename_i h
  rw [Xa2,List.set_append_left _ _ (by simp;omega),←Xa2,Xcf,List.take_set,List.drop_set_of_lt h]
 ·rename_i h
  rw [List.set_append_right _ _ (by simp;omega),Xcf,List.take_set_of_le X0o,List.drop_set]
  rw [if_neg X0o]
  congr 2
  simp;omega
theorem Qhv (hb:b≤U.length) (x:O):ins b B U++[x.sh b B.length]=ins b B (U++[x]):=by
 unfold ins
 rw [Xbj,List.take_append_of_le_length (by simpa using hb),List.drop_append_of_le_length (by simpa using hb),Xa2]
 rfl
theorem Qdn (hb:b≤U.length) (o:Nat):Objs.get (ins b B U) (rn b B.length o)=(Objs.get U o).map (List.map (V.sh b B.length)):=by
 unfold Objs.get
 rw [Qre hb]
 cases U[o]? with
 |none=>rfl
 |some x=>cases x <;> rfl
theorem Qgh (hb:b≤U.length):(ins b B U).length=rn b B.length U.length:=by
 rw [Qrd hb];unfold rn;rw [if_neg X0o]
theorem Wcs (hb:b≤U.length) {n:Nat} (hn:b≤n):∀ {d:Nat} {x:V},fz (n+B.length) (ins b B U) d (V.sh b B.length x)=(fz n U d x).map (V.sh b B.length)
 |0,x=>by
  unfold fz
  rw [Wcr hn]
  split <;> rfl
 |d+1,x=>by
  have ih:∀y,fz (n+B.length) (ins b B U) d (V.sh b B.length y)=(fz n U d y).map (V.sh b B.length):=fun y=>Wcs hb hn
  have ihm:∀l:List V,(l.map (V.sh b B.length)).mapM (fz (n+B.length) (ins b B U) d)=(l.mapM (fz n U d)).map (List.map (V.sh b B.length)):=fun l=>Qrc ih
  unfold fz
  rw [Wcr hn]
  split
  ·rfl
  ·cases x with
   |ptr o off=>
    simp only [V.sh,Qdn hb,Xaa]
    cases Objs.get U o with
    |none=>rfl
    |some cs=>
     simp only [Xag,Xad,ihm]
     cases cs.mapM (fz n U d) with
     |none=>rfl
     |some ds=>simp only [Xag,Xad,Xbm,V.sh,Qat]
   |hs o off len sz ag=>
    simp only [V.sh,Qdn hb,Xaa]
    cases Objs.get U o with
    |none=>rfl
    |some cs=>
     simp only [Xag,Xad,Qih]
     cases chunks ag sz cs len off with
     |none=>rfl
     |some xs=>
      simp only [Xag,Xad,ihm]
      cases xs.mapM (fz n U d) with
      |none=>rfl
      |some ds=>simp only [Xag,Xad,Xbm,V.sh,Qat]
   |eptr cs off=>
    simp only [V.sh,Qat,ihm,Xaa]
    cases cs.mapM (fz n U d) with
    |none=>rfl
    |some ds=>simp only [Xag,Xad,Xbm,V.sh,Qat]
   |sl cs c=>
    simp only [V.sh,Qat,ihm,Xaa]
    cases cs.mapM (fz n U d) with
    |none=>rfl
    |some ds=>simp only [Xag,Xad,Xbm,V.sh,Qat]
   |agg cs=>
    simp only [V.sh,Qat,ihm,Xaa]
    cases cs.mapM (fz n U d) with
    |none=>rfl
    |some ds=>simp only [Xag,Xad,Xbm,V.sh,Qat]
   |tup cs=>
    simp only [V.sh,Qat,ihm,Xaa]
    cases cs.mapM (fz n U d) with
    |none=>rfl
    |some ds=>simp only [Xag,Xad,Xbm,V.sh,Qat]
   |ifc t x=>
    simp only [V.sh,ih,Xaa]
    cases fz n U d x with
    |none=>rfl
    |some ds=>simp only [Xag,Xad,Xbm,V.sh]
   |fn g xs ys=>
    simp only [V.sh,Qat,ihm,Xaa]
    cases xs.mapM (fz n U d) with
    |none=>rfl
    |some us=>
     simp only [Xag,Xad]
     cases ys.mapM (fz n U d) with
     |none=>rfl
     |some ds=>simp only [Xag,Xad,Xbm,V.sh,Qat]
   |_=>rfl
end
section
variable {b k:Nat}
theorem Qpi {x y:V} : Ql8 (V.sh b k x) (V.sh b k y)=Ql8 x y:=by cases x <;> cases y <;> rfl
theorem Qvl {c:CK} {x y:V} : Qdq c (V.sh b k x) (V.sh b k y)=Qdq c x y:=by cases c <;> cases x <;> cases y <;> rfl
theorem Qmm:∀ {ks:List CK} {xs ys:List V},Qbg ks (xs.map (V.sh b k)) (ys.map (V.sh b k))=Qbg ks xs ys
 |[],[],[]=>rfl
 |[],[],_::_=>rfl
 |[],_::_,_=>rfl
 |_::_,[],_=>rfl
 |_::_,_::_,[]=>rfl
 |c::ks,x::xs,y::ys=>by simp only [Xak,Qbg,Qvl,Qmm]
theorem Wkk {e:EqK} {x y:V} : eqV e (V.sh b k x) (V.sh b k y)=eqV e x y:=by
 cases e with
 |agg ks=>
  cases x <;> cases y <;> first|rfl|(simp only [V.sh,eqV,Qat,Qmm];done)
 |_=>cases x <;> cases y <;> rfl
theorem Qyo {op:BinOp} {e:EqK} {x y:V} : eB op e (V.sh b k x) (V.sh b k y)=eB op e x y:=by
 have h:=@Wkk b k e x y
 cases x <;> cases y <;> first|rfl|(simp only [V.sh] at h ⊢; simp only [eB,h];done)
theorem Qyp {op:BinOp} {e:EqK} {x y v:V} (h:eB op e x y=some v):V.rb 0 v=true:=by
 unfold eB at h
 split at h
 ·split at h
  ·split at h <;> cases h;rfl
  ·split at h <;> cases h;rfl
  ·split at h
   ·split at h <;> first|(cases h;rfl)|(split at h <;> cases h;rfl)|cases h
   ·cases h
 ·split at h <;> first|(cases h;rfl)|(split at h <;> cases h;rfl)|cases h
 ·split at h
  ·rw [Xam] at h;obtain ⟨a,_,rfl⟩:=h;rfl
  ·rw [Xam] at h;obtain ⟨a,_,rfl⟩:=h;rfl
  ·cases h
theorem Qvm {x:Option V} (h:∀v,x=some v→V.rb 0 v=true):x.map (V.sh b k)=x:=by
 cases x with
 |none=>rfl
 |some v=>rw [Xag,Qb1 (h v rfl)]
theorem Wct {op:BinOp} {e:EqK} {x y:V} : eB op e (V.sh b k x) (V.sh b k y)=(eB op e x y).map (V.sh b k):=by
 rw [Qyo,Qvm fun v h=>Qyp h]
theorem Wha {op:UnOp} {x:V} : evUn op (V.sh b k x)=(evUn op x).map (V.sh b k):=by cases op <;> cases x <;> rfl
theorem Qg0:∀ {l:List V},bytesOf (l.map (V.sh b k))=bytesOf l
 |[]=>rfl
 |x::xs=>by
  cases x with
  |int j n=>cases j <;> simp only [Xak,V.sh,bytesOf,Qg0]
  |_=>rfl
theorem Wcu {x:V} {hi:Nat} : bound (V.sh b k x) hi=bound x hi:=by cases x <;> rfl
theorem Qgi {len:Nat} {lo hi mx:Option V} : bounds len (lo.map (V.sh b k)) (hi.map (V.sh b k)) (mx.map (V.sh b k))=bounds len lo hi mx:=by
 cases lo <;> cases hi <;> cases mx <;> simp only [bounds,Xag,Xdf,Wcu]
theorem Qyq {x:V} {lo hi:Option V} : Qhb (V.sh b k x) (lo.map (V.sh b k)) (hi.map (V.sh b k))=(Qhb x lo hi).map (V.sh b k):=by
 cases x with
 |str s=>
  have:=@Qgi b k s.length lo hi none
  simp only [Xdf] at this
  simp only [V.sh,Qhb,this,Xaa]
  cases bounds s.length lo hi none <;> rfl
 |_=>rfl
theorem Qyr {sz:Nat} {xs:List V} : (xs.map (V.sh b k)).all (fun y=>decide (y.cells.length=sz))=xs.all (fun y=>decide (y.cells.length=sz)):=by
 rw [Xda]
 congr 1
 funext x
 simp only [Function.comp,Qep,Xao]
theorem Wcv {sz:Nat} {x:V} {lo hi mx:Option V} : Qbm sz (V.sh b k x) (lo.map (V.sh b k)) (hi.map (V.sh b k)) (mx.map (V.sh b k))=(Qbm sz x lo hi mx).map (V.sh b k):=by
 cases x with
 |nils=>
  simp only [V.sh,Qbm,Qgi,Xaa]
  cases bounds 0 lo hi mx <;> rfl
 |sl xs c=>
  simp only [V.sh,Qbm,Qat,Xao,Qgi,Qyr,Xaa]
  cases bounds xs.length lo hi mx with
  |none=>rfl
  |some p=>
   obtain ⟨l,h,m⟩:=p
   simp only [Xad]
   split
   ·simp only [Xag,V.sh,Qat,Xde,Xdw]
   ·rfl
 |hs o off len s ag=>
  simp only [V.sh,Qbm,Qgi,Xaa]
  cases bounds len lo hi mx with
  |none=>rfl
  |some p=>
   obtain ⟨l,h,m⟩:=p
   simp only [Xad]
   split
   ·split <;> rfl
   ·rfl
 |_=>rfl
theorem Qys {n sz:Nat} {ag:Bool} {x:V} {lo hi:Option V} : Qfv n sz ag (V.sh b k x) (lo.map (V.sh b k)) (hi.map (V.sh b k))=(Qfv n sz ag x lo hi).map (V.sh b k):=by
 have:=@Qgi b k n lo hi none
 simp only [Xdf] at this
 unfold Qfv
 rw [this]
 cases bounds n lo hi none with
 |none=>rfl
 |some p=>
  obtain ⟨l,h,m⟩:=p
  simp only [Xaa,Xad]
  cases x with
  |ptr o off=>simp only [V.sh];split <;> rfl
  |eptr cs off=>
   simp only [V.sh,Qat,Qih]
   cases chunks ag sz cs (h - l) (off+l * sz) with
   |none=>rfl
   |some xs=>
    simp only [Xag,Xad,Qml]
    split
    ·simp only [Xag,V.sh,Qat]
    ·rfl
  |_=>rfl
theorem Qii {x:V} {n:Nat} : index (V.sh b k x) n=index x n:=by cases x <;> rfl
theorem Qvn {ag:Bool} {off sz:Nat} {x:V} : Qhl ag off sz (V.sh b k x)=(Qhl ag off sz x).map (V.sh b k):=by
 cases x <;> first|rfl|(simp only [V.sh,Qhl,Qat,Qi8];done)
theorem Qvo {off:Nat} {x:V} : eF off (V.sh b k x)=(eF off x).map (V.sh b k):=by cases x <;> rfl
theorem Qvp {sz:Nat} {i x:V} : eI sz (V.sh b k i) (V.sh b k x)=(eI sz i x).map (V.sh b k):=by
 cases x with
 |sl xs c=>
  simp only [V.sh,eI,Qii,Qat,Xao,Xan,Xaa]
  cases index i xs.length with
  |none=>rfl
  |some j=>
   simp only [Xad]
   cases xs[j]? with
   |none=>rfl
   |some e=>
    simp only [Xag,Xad,Qep,Xao]
    split
    ·simp only [Xag,V.sh,Qat]
    ·rfl
 |hs o off len s ag=>
  simp only [V.sh,eI,Qii,Xaa]
  cases index i len with
  |none=>rfl
  |some j=>
   simp only [Xad]
   split <;> rfl
 |_=>rfl
theorem Qrf {n sz:Nat} {i x:V} : Qc8 n sz (V.sh b k i) (V.sh b k x)=(Qc8 n sz i x).map (V.sh b k):=by
 simp only [Qc8,Qii,Xaa]
 cases index i n with
 |none=>rfl
 |some j=>cases x <;> rfl
theorem Wcw {i x:V} : Qm3 (V.sh b k i) (V.sh b k x)=(Qm3 i x).map (V.sh b k):=by
 cases x with
 |str s=>
  simp only [V.sh,Qm3,Qii,Xaa]
  cases index i s.length with
  |none=>rfl
  |some j=>
   simp only [Xad]
   cases s[j]? <;> rfl
 |_=>rfl
theorem Qyt {n:Nat} {ag:Bool} {sz:Nat} {i x:V} : Ql9 n ag sz (V.sh b k i) (V.sh b k x)=(Ql9 n ag sz i x).map (V.sh b k):=by
 simp only [Ql9,Qii,Xaa]
 cases index i n with
 |none=>rfl
 |some j=>cases x <;> first|rfl|(simp only [V.sh,Qat,Qi8,Xad];done)
theorem Qyu {i:Nat} {x:V} : eX i (V.sh b k x)=(eX i x).map (V.sh b k):=by
 cases x <;> first|rfl|(simp only [V.sh,eX,Qat,Xan];done)
theorem Qyv {x:V} : Qfw (V.sh b k x)=(Qfw x).map (V.sh b k):=by cases x <;> rfl
theorem Wcx {x:V} : Qai (V.sh b k x)=(Qai x).map (V.sh b k):=by
 cases x <;> first|rfl|(simp only [V.sh,Qai,Qat,Xao,Xag];done)
theorem Qyw {x:V} : Qa4 (V.sh b k x)=(Qa4 x).map (V.sh b k):=by cases x <;> rfl
theorem Qs6 {x:V} : Qf1 (V.sh b k x)=Qf1 x:=by cases x <;> rfl
theorem Qs7 {mx:Bool} : ∀ {xs:List V} {x:V},Qkp mx (V.sh b k x) (xs.map (V.sh b k))=(Qkp mx x xs).map (V.sh b k)
 |[],x=>rfl
 |y::ys,x=>by
  cases x with
  |int j a=>
   cases y with
   |int i c=>
    have:=Qs7 (mx:=mx) (xs:=ys) (x:=.int j (if mx then (if c > a then c else a) else (if c<a then c else a)))
    simp only [V.sh] at this
    simp only [Xak,V.sh,Qkp]
    split
    ·exact this
    ·rfl
   |_=>simp only [Xak,V.sh,Qkp,Xdf]
  |_=>simp only [Xak,V.sh,Qkp,Xdf]
theorem Qs8 {x:V} : ∀ {es:List (V×V)},mfind (V.sh b k x) (es.map fun p=>(V.sh b k p.1,V.sh b k p.2))=(mfind x es).map (Option.map (V.sh b k))
 |[]=>rfl
 |(y,z)::r=>by
  simp only [Xak,mfind,Qpi,Xaa]
  cases Ql8 x y with
  |none=>rfl
  |some t=>
   simp only [Xad]
   split
   ·rfl
   ·exact Qs8
theorem Qyx {x z:V} : ∀ {es:List (V×V)},mput (V.sh b k x) (V.sh b k z) (es.map fun p=>(V.sh b k p.1,V.sh b k p.2))=(mput x z es).map (List.map fun p=>(V.sh b k p.1,V.sh b k p.2))
 |[]=>rfl
 |(y,u)::r=>by
  simp only [Xak,mput,Qpi,Xaa]
  cases Ql8 x y with
  |none=>rfl
  |some t=>
   simp only [Xad]
   split
   ·rfl
   ·rw [Qyx]
    cases mput x z r <;> rfl
theorem Qno {ag:Bool} {sz bytes:Nat} {x:V} {ys:List V} : Qd1 ag sz bytes (V.sh b k x) (ys.map (V.sh b k))=(Qd1 ag sz bytes x ys).map (V.sh b k):=by
 unfold Qd1
 rw [Qnn]
 split
 ·cases x with
  |nils=>
   simp only [V.sh,List.map_eq_nil_iff,Xao]
   split
   ·rfl
   ·split
    ·simp only [Xag,V.sh,Qat]
    ·rfl
  |sl xs c=>
   cases ys with
   |nil=>simp only [V.sh,Xa8,Xag]
   |cons y ys=>
    simp only [V.sh,Xak,Qat,Qyr,Xao,Xal]
    split
    ·simp only [Xag,V.sh,Qat,Xbj,Xak]
    ·rfl
  |_=>rfl
 ·rfl
end
section
variable {b:Nat} {B U:Objs}
theorem Qyy (hb:b≤U.length) {ag:Bool} {sz:Nat} {x:V} : eL (ins b B U) ag sz (V.sh b B.length x)=(eL U ag sz x).map (V.sh b B.length):=by
 cases x with
 |ptr o off=>
  simp only [V.sh,eL,Qdn hb,Xaa]
  cases Objs.get U o with
  |none=>rfl
  |some cs=>simp only [Xag,Xad,Qi8]
 |eptr cs off=>simp only [V.sh,eL,Qat,Qi8]
 |_=>rfl
theorem Qs9 (hb:b≤U.length) {x:V} : Qiu (ins b B U) (V.sh b B.length x)=(Qiu U x).map (List.map (V.sh b B.length)):=by
 cases x with
 |sl xs c=>simp only [V.sh,Qiu,Qat,Xag]
 |hs o off len sz ag=>
  simp only [V.sh,Qiu,Qdn hb,Xaa]
  cases Objs.get U o with
  |none=>rfl
  |some cs=>simp only [Xag,Xad,Qih]
 |_=>rfl
theorem Qja {c k:Nat} {s:List UInt8} : (Qae s).map (V.sh c k)=Qae s:=by
 unfold Qae
 rw [Xce]
 congr 1
theorem Qta (hb:b≤U.length) {str:Bool} {x:V} : Qfj str (ins b B U) (V.sh b B.length x)=(Qfj str U x).map (List.map (V.sh b B.length)):=by
 cases str with
 |true=>
  cases x with
  |str s=>simp only [V.sh,Qfj,if_true,Xag,Qja]
  |_=>rfl
 |false=>exact Qs9 hb
theorem Qpj (hb:b≤U.length) {c:Conv} {x:V} : eC (ins b B U) c (V.sh b B.length x)=(eC U c x).map (V.sh b B.length):=by
 have hbs:∀y:Option (List UInt8),y.map V.str=(y.map V.str).map (V.sh b B.length):=fun y=>by cases y <;> rfl
 cases c with
 |toInt j=>cases x <;> rfl
 |same=>cases x <;> rfl
 |intStr=>cases x <;> rfl
 |strBytes=>
  cases x with
  |str s=>simp only [V.sh,eC,Xag,Qat,Qja]
  |_=>rfl
 |bytesStr=>
  cases x with
  |sl xs c=>simp only [V.sh,eC,Qat,Qg0];exact hbs _
  |hs o off len sz ag=>
   have:=Qs9 hb (B:=B) (x:=.hs o off len sz ag)
   simp only [V.sh] at this
   simp only [V.sh,eC,this,Xaa]
   cases Qiu U (.hs o off len sz ag) with
   |none=>rfl
   |some xs=>simp only [Xag,Xad,Qg0];exact hbs _
  |_=>rfl
 |bytesStrN=>
  cases x with
  |sl xs c=>simp only [V.sh,eC,Qat,Qg0];exact hbs _
  |_=>rfl
end
def Arg.cl:Arg→Bool
 | .c x=>V.rb 0 x
 |_=>true
def oCl:Option Arg→Bool
 |none=>true
 |some a=>a.cl
def Ins.cl:Ins→Bool
 | .mv x _ | .box x | .loadT x | .nilc x | .un _ x | .conv _ x | .faddr _ x | .field _ _ _ x | .lenS x | .len x | .mkif _ x | .extr x _ | .bytesH x | .mark x | .load _ _ x=>x.cl
 | .pick c a b=>c.cl&&a.cl&&b.cl
 | .alloc z=>V.rbs 0 z
 | .build z ps=>V.rbs 0 z&&ps.all fun p=>p.2.2.cl
 | .buildSl _ _ _ z ps _=>V.rb 0 z&&ps.all fun p=>p.2.cl
 | .buildG _ _ _ z ps=>V.rb 0 z&&ps.all fun p=>p.2.cl
 | .store _ p x _=>p.cl&&x.cl
 | .bin _ _ x y=>x.cl&&y.cl
 | .cutS x lo hi=>x.cl&&oCl lo&&oCl hi
 | .cut _ x lo hi mx=>x.cl&&oCl lo&&oCl hi&&oCl mx
 | .cutA _ _ _ x lo hi=>x.cl&&oCl lo&&oCl hi
 | .iaddr _ x i | .iaddrA _ _ x i | .idx x i | .idxA _ _ _ x i=>x.cl&&i.cl
 | .app _ _ _ _ x y _ | .appH _ _ _ _ x y=>x.cl&&y.cl
 | .call _ az=>az.all Arg.cl
 | .callv x az=>x.cl&&az.all Arg.cl
 | .mkfn _ a c=>a.all Arg.cl&&c.all Arg.cl
 | .mkSl _ _ _ z l c _=>V.rb 0 z&&l.cl&&c.cl
 | .mm _ az=>az.all Arg.cl
 | .mkmp=>true
 | .mset m k x=>m.cl&&k.cl&&x.cl
 | .mget z m k _=>V.rb 0 z&&m.cl&&k.cl
section
variable {b:Nat} {B U:Objs} {A A':Arg→V}
theorem Qjb {k:Nat} (hA:∀a,a.cl=true→A' a=V.sh b k (A a)):∀ {az:List Arg},az.all Arg.cl=true→az.map A'=(az.map A).map (V.sh b k)
 |[],_=>rfl
 |a::az,h=>by
  simp only [Xcg,Xac] at h
  simp only [Xak,hA a h.1,Qjb hA h.2]
theorem Qhw {k:Nat} (hA:∀a,a.cl=true→A' a=V.sh b k (A a)) {x:Option Arg} (h:oCl x=true):x.map A'=(x.map A).map (V.sh b k):=by
 cases x with
 |none=>rfl
 |some a=>simp only [Xag,hA a h]
theorem Qnp {k:Nat} (hA:∀a,a.cl=true→A' a=V.sh b k (A a)):∀ {ps:List (Nat×Arg)},ps.all (fun p=>p.2.cl)=true→(ps.map fun p=>(p.1,A' p.2))=(ps.map fun p=>(p.1,A p.2)).map fun p=>(p.1,V.sh b k p.2)
 |[],_=>rfl
 |p::ps,h=>by
  simp only [Xcg,Xac] at h
  simp only [Xak,hA p.2 h.1,Qnp hA h.2]
theorem Qpk {k:Nat} (hA:∀a,a.cl=true→A' a=V.sh b k (A a)):∀ {ps:List (Nat×Nat×Arg)},ps.all (fun p=>p.2.2.cl)=true→(ps.map fun p=>(p.1,p.2.1,A' p.2.2))=(ps.map fun p=>(p.1,p.2.1,A p.2.2)).map fun p=>(p.1,p.2.1,V.sh b k p.2.2)
 |[],_=>rfl
 |p::ps,h=>by
  simp only [Xcg,Xac] at h
  simp only [Xak,hA p.2.2 h.1,Qpk hA h.2]
theorem Wkl {c k:Nat} {z:List V} (h:V.rbs 0 z=true):z.map (V.sh c k)=z:=by rw [←Qat,Qb0 h]
theorem Qyz (hb:b≤U.length) (hA:∀a,a.cl=true→A' a=V.sh b B.length (A a)) {i:Ins} (hi:i.cl=true):Qa8 A' (ins b B U) i=(Qa8 A U i).map (V.sh b B.length):=by
 cases i with
 |pick c x y=>
  simp only [Ins.cl,Xac] at hi
  simp only [Qa8,hA c hi.1.1,hA x hi.1.2,hA y hi.2]
  cases A c with
  |bool t=>cases t <;> rfl
  |_=>rfl
 |build z ps=>
  simp only [Ins.cl,Xac] at hi
  have h1:=@Wem b B.length (ps.map fun p=>(p.1,p.2.1,A p.2.2)) z
  rw [←Qpk hA hi.2,Wkl hi.1] at h1
  simp only [Qa8]
  rw [h1]
  cases lay z (ps.map fun p=>(p.1,p.2.1,A p.2.2)) with
  |none=>rfl
  |some cs=>simp only [Xag,V.sh,Qat]
 |nilc x=>simp only [Qa8,hA x hi,Qyw]
 |bin op e x y=>
  simp only [Ins.cl,Xac] at hi
  simp only [Qa8,hA x hi.1,hA y hi.2,Wct]
 |un op x=>simp only [Qa8,hA x hi,Wha]
 |conv c x=>simp only [Qa8,hA x hi,Qpj hb]
 |cutS x lo hi'=>
  simp only [Ins.cl,Xac] at hi
  simp only [Qa8,hA x hi.1.1,Qhw hA hi.1.2,Qhw hA hi.2,Qyq]
 |cut sz x lo hi' mx=>
  simp only [Ins.cl,Xac] at hi
  simp only [Qa8,hA x hi.1.1.1,Qhw hA hi.1.1.2,Qhw hA hi.1.2,Qhw hA hi.2,Wcv]
 |cutA n sz ag x lo hi'=>
  simp only [Ins.cl,Xac] at hi
  simp only [Qa8,hA x hi.1.1,Qhw hA hi.1.2,Qhw hA hi.2,Qys]
 |load ag sz x=>simp only [Qa8,hA x hi,Qyy hb]
 |faddr off x=>simp only [Qa8,hA x hi,Qvo]
 |field ag off sz x=>simp only [Qa8,hA x hi,Qvn]
 |iaddr sz x i=>
  simp only [Ins.cl,Xac] at hi
  simp only [Qa8,hA x hi.1,hA i hi.2,Qvp]
 |iaddrA n sz x i=>
  simp only [Ins.cl,Xac] at hi
  simp only [Qa8,hA x hi.1,hA i hi.2,Qrf]
 |idx x i=>
  simp only [Ins.cl,Xac] at hi
  simp only [Qa8,hA x hi.1,hA i hi.2,Wcw]
 |idxA n ag sz x i=>
  simp only [Ins.cl,Xac] at hi
  simp only [Qa8,hA x hi.1,hA i hi.2,Qyt]
 |lenS x=>simp only [Qa8,hA x hi,Qyv]
 |len x=>simp only [Qa8,hA x hi,Wcx]
 |mkfn f xs ys=>
  simp only [Ins.cl,Xac] at hi
  simp only [Qa8,Qjb hA hi.1,Qjb hA hi.2,Xag,V.sh,Qat]
 |mkif t x=>simp only [Qa8,hA x hi,Xag,V.sh]
 |extr x i=>simp only [Qa8,hA x hi,Qyu]
 |mm mx az=>
  simp only [Qa8,Qjb hA hi]
  cases az.map A with
  |nil=>rfl
  |cons x r=>
   simp only [Xak,Qs6,Qs7]
   split <;> rfl
 |mget z m kk ok=>
  simp only [Ins.cl,Xac] at hi
  have fin:∀r:Option (Option V),(r.map (Option.map (V.sh b B.length))).bind (fun r=>(some (if ok=true then V.tup [r.getD z,.bool r.isSome] else r.getD z):Option V))=(r.bind fun r=>(some (if ok=true then V.tup [r.getD z,.bool r.isSome] else r.getD z):Option V)).map (V.sh b B.length):=by
   intro r
   cases r with
   |none=>rfl
   |some r=>
    cases r with
    |none=>
     have hz:=Qb1 (b:=b) (k:=B.length) hi.1.1
     cases ok
     ·simp [hz]
     ·simp [hz,V.sh,V.shs]
    |some v=>cases ok <;> simp [V.sh,V.shs]
  simp only [Qa8,hA m hi.1.2,hA kk hi.2]
  cases A m with
  |nilm=>exact fin (some none)
  |mp o=>
   simp only [V.sh,Qre hb]
   cases U[o]? with
   |none=>rfl
   |some O=>
    cases O with
    |cells cs=>rfl
    |mp es=>
     simp only [Xag,O.sh,Qs8]
     exact fin _
  |_=>rfl
 |_=>rfl
end
section
variable {b:Nat} {B:Objs}
def FrR (b:Nat) (B:Objs) (x' x:Ro):Prop:=x'=x.map (fun p=>(V.sh b B.length p.1,ins b B p.2))∧∀p,x=some p→b≤p.2.length
theorem FrR.none:FrR b B none none:=⟨rfl,fun _ h=>by cases h⟩
theorem FrR.some {v:V} {U:Objs} (h:b≤U.length):FrR b B (some (V.sh b B.length v,ins b B U)) (some (v,U)):=⟨rfl,fun _ h'=>by cases h';exact h⟩
def FrC (b:Nat) (B:Objs) (call' call:FuncId→List V→Objs→Ro):Prop:=∀f args U,b≤U.length→FrR b B (call' f (args.map (V.sh b B.length)) (ins b B U)) (call f args U)
theorem Qy0 {x' x:Option V} {U:Objs} (hb:b≤U.length) (h:x'=x.map (V.sh b B.length)):FrR b B (x'.bind fun v=>Option.some (v,ins b B U)) (x.bind fun v=>Option.some (v,U)):=by
 subst h
 cases x with
 |none=>exact .none
 |some v=>exact .some hb
theorem Qnq {x' x:Option V} {U:Objs} (hb:b≤U.length) (h:x'=x.map (V.sh b B.length)):FrR b B (x'.bind fun v=>Option.some (v.ng,ins b B U)) (x.bind fun v=>Option.some (v.ng,U)):=by
 subst h
 cases x with
 |none=>exact .none
 |some v=>
  show FrR b B (Option.some ((V.sh b B.length v).ng,ins b B U)) (Option.some (v.ng,U))
  rw [Qgg]
  exact .some hb
theorem Wkm {U:Objs} (hb:b≤U.length) {call call':FuncId→List V→Objs→Ro} (hc:FrC b B call' call) {A A' T T':Arg→V} (hA:∀a,a.cl=true→A' a=V.sh b B.length (A a)) (hT:∀a,a.cl=true→T' a=V.sh b B.length (T a)) {i:Ins} (hi:i.cl=true):
  FrR b B (Qa5 call' A' T' (ins b B U) i) (Qa5 call A T U i):=by
 have happ:∀x:O,b≤(U++[x]).length:=fun x=>by simp;omega
 have hset:∀o (x:O),b≤(U.set o x).length:=fun o x=>by simpa using hb
 have hp:Qa8 A' (ins b B U) i=(Qa8 A U i).map (V.sh b B.length):=Qyz hb hA hi
 have ptr0:V.ptr (ins b B U).length 0=V.sh b B.length (.ptr U.length 0):=by rw [Qgh hb];rfl
 cases i with
 |mv x tk=>
  simp only [Qa5,hA x hi,hT x hi]
  cases tk <;> exact .some hb
 |alloc z=>
  simp only [Qa5]
  split
  ·have h1:=Qhv (b:=b) (B:=B) hb (.cells z)
   rw [show (O.cells z).sh b B.length = .cells z by rw [O.sh,Wkl hi]] at h1
   rw [h1,ptr0]
   exact .some (happ _)
  ·exact .none
 |box x=>
  simp only [Qa5,hA x hi,Qep,Qml,Qch]
  split
  ·rw [ptr0]
   have h1:=Qhv (b:=b) (B:=B) hb (.cells ((A x).cells.map V.ng))
   rw [show (O.cells ((A x).cells.map V.ng)).sh b B.length = .cells (((A x).cells.map V.ng).map (V.sh b B.length)) from rfl] at h1
   rw [h1]
   exact .some (happ _)
  ·exact .none
 |buildSl ag sz len z ps h=>
  simp only [Ins.cl,Xac] at hi
  have h1:=@Qnm b B.length sz (ps.map fun p=>(p.1,A p.2)) (List.replicate len z)
  rw [←Qnp hA hi.2,Xcx,Qb1 hi.1] at h1
  simp only [Qa5]
  rw [h1]
  cases Qdr sz (List.replicate len z) (ps.map fun p=>(p.1,A p.2)) with
  |none=>exact .none
  |some xs=>
   simp only [Xag,Xaa,Xad,Qnn]
   split
   ·cases h with
    |true=>
     simp only [if_true,Qrb,Qch]
     have h2:=Qhv (b:=b) (B:=B) hb (.cells ((xs.flatMap V.cells).map V.ng))
     rw [show (O.cells ((xs.flatMap V.cells).map V.ng)).sh b B.length = .cells (((xs.flatMap V.cells).map V.ng).map (V.sh b B.length)) from rfl] at h2
     rw [h2,Qgh hb]
     exact .some (v:=.hs U.length 0 len sz ag) (happ _)
    |false=>
     simp only [Xaj,if_false]
     rw [←Qat]
     exact .some (v:=.sl xs .fx) hb
   ·exact .none
 |buildG ag sz len z ps=>
  simp only [Ins.cl,Xac] at hi
  have h1:=@Qnm b B.length sz (ps.map fun p=>(p.1,A p.2)) (List.replicate len z)
  rw [←Qnp hA hi.2,Xcx,Qb1 hi.1] at h1
  simp only [Qa5]
  rw [h1]
  cases Qdr sz (List.replicate len z) (ps.map fun p=>(p.1,A p.2)) with
  |none=>exact .none
  |some xs=>
   simp only [Xag,Xaa,Xad,Qnn]
   split
   ·rw [←Qat]
    exact .some (v:=.sl xs (.gr sz)) hb
   ·exact .none
 |mark x=>
  simp only [Qa5,hT x hi]
  cases T x with
  |sl xs c=>
   cases c with
   |gr s=>exact .some (v:=.sl xs .no) hb
   |_=>exact .none
  |_=>exact .none
 |store sz p x tk=>
  simp only [Ins.cl,Xac] at hi
  have hv:(if tk=true then T' x else A' x)=V.sh b B.length (if tk=true then T x else A x):=by
   cases tk
   ·exact hA x hi.2
   ·exact hT x hi.2
  simp only [Qa5]
  simp only [hv]
  generalize (if tk=true then T x else A x)=tv
  simp only [hA p hi.1,hA x hi.2]
  cases A p with
  |ptr o off=>
   simp only [V.sh,Qdn hb,Xaa]
   cases Objs.get U o with
   |none=>exact .none
   |some cs=>
    simp only [Xag,Xad,Qep,Xao,Qml]
    split
    ·have plain:∀w,w=A x→(∀cs,w≠.agg cs)→FrR b B
       (if (V.sh b B.length tv).isLk=true then Option.none else Option.some (V.undef,(ins b B U).set (rn b B.length o) (.cells ((cs.map (V.sh b B.length)).set off (V.sh b B.length tv)))))
       (if tv.isLk=true then Option.none else Option.some (V.undef,List.set U o (.cells (cs.set off tv)))):=by
      intro w _ _
      rw [Wg9]
      split
      ·exact .none
      ·rw [←Xcf]
       have h2:=Qi9 (b:=b) (B:=B) hb o (.cells (cs.set off tv))
       rw [show (O.cells (cs.set off tv)).sh b B.length = .cells ((cs.set off tv).map (V.sh b B.length)) from rfl] at h2
       rw [h2]
       exact .some (v:=.undef) (hset _ _)
     cases hx:A x with
     |agg ds=>
      simp only [V.sh,V.cells,Qch,Qkg]
      have h2:=Qi9 (b:=b) (B:=B) hb o (.cells (Qcp cs off (ds.map V.ng)))
      rw [show (O.cells (Qcp cs off (ds.map V.ng))).sh b B.length = .cells ((Qcp cs off (ds.map V.ng)).map (V.sh b B.length)) from rfl] at h2
      rw [h2]
      exact .some (v:=.undef) (hset _ _)
     |_=>exact plain _ hx.symm (fun _ h=>by cases h)
    ·exact .none
  |_=>exact .none
 |loadT x=>
  simp only [Qa5,hA x hi]
  cases A x with
  |ptr o off=>
   simp only [V.sh,Qdn hb,Xaa]
   cases Objs.get U o with
   |none=>exact .none
   |some cs=>
    simp only [Xag,Xad,Xan]
    cases cs[off]? with
    |none=>exact .none
    |some v=>
     simp only [Xag,Xad]
     cases v with
     |sl xs c=>
      cases c with
      |gr s=>
       simp only [V.sh]
       have h2:=Qi9 (b:=b) (B:=B) hb o (.cells (cs.set off (.sl xs .no)))
       rw [show (O.cells (cs.set off (.sl xs .no))).sh b B.length = .cells ((cs.map (V.sh b B.length)).set off (.sl (V.shs b B.length xs) .no)) by rw [O.sh,Xcf];rfl] at h2
       rw [h2]
       exact .some (v:=.sl xs (.gr s)) (hset _ _)
      |lk=>exact .none
      |no=>exact .some (v:=.sl xs .no) hb
      |fx=>exact .some (v:=.sl xs .fx) hb
     |ptr o' i=>exact .some (v:=.ptr o' i) hb
     |eptr cs' i=>exact .some (v:=.eptr cs' i) hb
     |hs a1 a2 a3 a4 a5=>exact .some (v:=.hs a1 a2 a3 a4 a5) hb
     |agg cs'=>exact .some (v:=.agg cs') hb
     |tup cs'=>exact .some (v:=.tup cs') hb
     |ifc t x'=>exact .some (v:=.ifc t x') hb
     |fn f a1 a2=>exact .some (v:=.fn f a1 a2) hb
     |mp o'=>exact .some (v:=.mp o') hb
     |any=>exact .some (v:=.any) hb
     |undef=>exact .some (v:=.undef) hb
     |bool x'=>exact .some (v:=.bool x') hb
     |int j n=>exact .some (v:=.int j n) hb
     |str s=>exact .some (v:=.str s) hb
     |nilp=>exact .some (v:=.nilp) hb
     |nils=>exact .some (v:=.nils) hb
     |nili=>exact .some (v:=.nili) hb
     |nilf=>exact .some (v:=.nilf) hb
     |nilm=>exact .some (v:=.nilm) hb
  |eptr cs off=>
   simp only [V.sh,Qat,Xan,Xaa]
   cases cs[off]? with
   |none=>exact .none
   |some v=>
    simp only [Xag,Xad,Qgg]
    exact .some hb
  |_=>exact .none
 |app str ag sz bytes x y tk=>
  simp only [Ins.cl,Xac] at hi
  have hv:(if tk=true then T' x else A' x)=V.sh b B.length (if tk=true then T x else A x):=by
   cases tk
   ·exact hA x hi.1
   ·exact hT x hi.1
  simp only [Qa5,hv,hA y hi.2,Qta hb,Xaa]
  cases Qfj str U (A y) with
  |none=>exact .none
  |some ys=>
   simp only [Xag,Xad]
   exact Qy0 hb Qno
 |appH str ag sz bytes x y=>
  simp only [Ins.cl,Xac] at hi
  simp only [Qa5,hA x hi.1,hA y hi.2,Qta hb,Xaa]
  cases Qfj str U (A y) with
  |none=>exact .none
  |some ys=>
   simp only [Xag,Xad]
   cases ys with
   |nil=>exact Qnq hb (Qno (ys:=[]))
   |cons y0 ys=>
    have h1:=@Qno b B.length ag sz bytes (A x) (y0::ys)
    simp only [Xak] at h1 ⊢
    rw [h1]
    cases Qd1 ag sz bytes (A x) (y0::ys) with
    |none=>exact .none
    |some v=>
     simp only [Xag,Xad]
     cases v with
     |sl xs c=>
      simp only [V.sh,Qat,Qrb,Qch,Xao]
      have h2:=Qhv (b:=b) (B:=B) hb (.cells ((xs.flatMap V.cells).map V.ng))
      rw [show (O.cells ((xs.flatMap V.cells).map V.ng)).sh b B.length = .cells (((xs.flatMap V.cells).map V.ng).map (V.sh b B.length)) from rfl] at h2
      rw [h2,Qgh hb]
      exact .some (v:=.hs U.length 0 xs.length sz ag) (happ _)
     |_=>exact .none
 |bytesH x=>
  simp only [Qa5,hA x hi]
  cases A x with
  |str s=>
   simp only [V.sh]
   have h2:=Qhv (b:=b) (B:=B) hb (.cells (Qae s))
   rw [show (O.cells (Qae s)).sh b B.length = .cells (Qae s) by rw [O.sh,Qja]] at h2
   rw [h2,Qgh hb]
   exact .some (v:=.hs U.length 0 s.length 1 false) (happ _)
  |_=>exact .none
 |mkSl ag sz bytes z l c h=>
  simp only [Ins.cl,Xac] at hi
  simp only [Qa5,hA l hi.1.2,hA c hi.2,Qs6,Xaa]
  cases Qf1 (A l) with
  |none=>exact .none
  |some l=>
   cases Qf1 (A c) with
   |none=>exact .none
   |some c=>
    simp only [Xad]
    split
    ·cases h with
     |true=>
      simp only [if_true]
      have hz:((List.replicate c.toNat z).flatMap V.cells).map (V.sh b B.length)=(List.replicate c.toNat z).flatMap V.cells:=by
       rw [←Qrb,Xcx,Qb1 hi.1.1]
      have h2:=Qhv (b:=b) (B:=B) hb (.cells ((List.replicate c.toNat z).flatMap V.cells))
      rw [show (O.cells ((List.replicate c.toNat z).flatMap V.cells)).sh b B.length = .cells ((List.replicate c.toNat z).flatMap V.cells) by rw [O.sh,hz]] at h2
      rw [h2,Qgh hb]
      exact .some (v:=.hs U.length 0 l.toNat sz ag) (happ _)
     |false=>
      simp only [Xaj,if_false]
      have hz:V.sl (List.replicate l.toNat z) (if l=c then .fx else .gr sz)=V.sh b B.length (.sl (List.replicate l.toNat z) (if l=c then .fx else .gr sz)):=by
       rw [V.sh,Qat,Xcx,Qb1 hi.1.1]
      refine ⟨?_,fun p hp=>by cases hp;exact hb⟩
      show some (V.sl (List.replicate l.toNat z) (if l=c then .fx else .gr sz),ins b B U)=some (V.sh b B.length (V.sl (List.replicate l.toNat z) (if l=c then .fx else .gr sz)),ins b B U)
      rw [←hz]
    ·exact .none
 |mkmp=>
  simp only [Qa5]
  have h2:=Qhv (b:=b) (B:=B) hb (.mp [])
  rw [show (O.mp []).sh b B.length = .mp [] from rfl] at h2
  rw [h2,Qgh hb]
  exact .some (v:=.mp U.length) (happ _)
 |mset m kk x=>
  simp only [Ins.cl,Xac] at hi
  simp only [Qa5,hA m hi.1.1,hA kk hi.1.2,hA x hi.2]
  cases A m with
  |mp o=>
   simp only [V.sh,Qre hb]
   cases U[o]? with
   |none=>exact .none
   |some O=>
    cases O with
    |cells cs=>exact .none
    |mp es=>
     simp only [Xag,O.sh,Qyx,Xaa]
     cases mput (A kk) (A x) es with
     |none=>exact .none
     |some es'=>
      simp only [Xag,Xad]
      have h2:=Qi9 (b:=b) (B:=B) hb o (.mp es')
      rw [show (O.mp es').sh b B.length = .mp (es'.map fun p=>(V.sh b B.length p.1,V.sh b B.length p.2)) from rfl] at h2
      rw [h2]
      exact .some (v:=.undef) (hset _ _)
  |_=>exact .none
 |call f az=>
  simp only [Qa5,Qjb hA hi]
  exact hc f _ U hb
 |callv x az=>
  simp only [Ins.cl,Xac] at hi
  simp only [Qa5,hA x hi.1,Qjb hA hi.2]
  cases A x with
  |fn f first caps=>
   simp only [V.sh,Qat,←Xbj,Qch]
   exact hc f _ U hb
  |_=>exact .none
 |conv c x=>
  cases c with
  |strBytes=>
   simp only [Qa5,hA x hi,Xaa]
   exact Qy0 hb (Qpj hb)
  |_=>exact Qnq hb hp
 |_=>exact Qnq hb hp
end
section
variable {b:Nat} {B:Objs} {G:GV} {call call':FuncId→List V→Objs→Ro}
def GCl (G:GV):Prop:=∀n,V.rb 0 (G n)=true
theorem Qy1 (hG:GCl G) {J:List V} {k:Nat} {a:Arg} (h:a.cl=true):argT G (J.map (V.sh b k)) a=V.sh b k (argT G J a):=by
 cases a with
 |t n=>
  simp only [argT,Xav,Xan]
  cases J[n]? <;> rfl
 |c x=>exact (Qb1 h).symm
 |g n=>exact (Qb1 (hG n)).symm
 |f id=>rfl
theorem Qy2 (hG:GCl G) {J:List V} {k:Nat} {a:Arg} (h:a.cl=true):arg G (J.map (V.sh b k)) a=V.sh b k (arg G J a):=by
 unfold arg
 rw [Qy1 hG h,Qgg]
theorem Qnr {J:List V} {k n:Nat} : (J.map (V.sh b k)).getD n .undef=V.sh b k (J.getD n .undef):=by
 simp only [Xav,Xan]
 cases J[n]? <;> rfl
theorem Wen {J:List V} {k:Nat} {d:Option Nat} {x:V} : put (J.map (V.sh b k)) d (V.sh b k x)=(put J d x).map (V.sh b k):=by
 cases d <;> simp [put,Xcf]
theorem Qy3 {J:List V} {k:Nat} {x:Arg} {tk:Bool} : unslot (J.map (V.sh b k)) x tk=(unslot J x tk).map (V.sh b k):=by
 cases x <;> cases tk <;> simp only [unslot,Xcf,Qnr,Qgg]
def FrS (b:Nat) (B:Objs) (x' x:Option (List V×Objs)):Prop:=x'=x.map (fun p=>(p.1.map (V.sh b B.length),ins b B p.2))∧∀p,x=some p→b≤p.2.length
theorem FrS.none:FrS b B none none:=⟨rfl,fun _ h=>by cases h⟩
theorem FrS.some {J:List V} {U:Objs} (h:b≤U.length):FrS b B (some (J.map (V.sh b B.length),ins b B U)) (some (J,U)):=⟨rfl,fun _ h'=>by cases h';exact h⟩
theorem FrS.bind {x' x:Option (List V×Objs)} {f' f:List V×Objs→Option (List V×Objs)} (h:FrS b B x' x) (hf:∀J U,b≤U.length→FrS b B (f' (J.map (V.sh b B.length),ins b B U)) (f (J,U))):FrS b B (x'.bind f') (x.bind f):=by
 obtain ⟨rfl,h2⟩:=h
 cases x with
 |none=>exact .none
 |some p=>exact hf p.1 p.2 (h2 p rfl)
theorem Wkn (hG:GCl G) (hc:FrC b B call' call) {s:Step} (hs:s.ins.cl=true) {J:List V} {U:Objs} (hb:b≤U.length):FrS b B (ev1 G call' s (J.map (V.sh b B.length)) (ins b B U)) (ev1 G call s J U):=by
 unfold ev1
 have h:=Wkm hb hc (A:=arg G J) (A':=arg G (J.map (V.sh b B.length))) (T:=argT G J) (T':=argT G (J.map (V.sh b B.length))) (fun a ha=>Qy2 hG ha) (fun a ha=>Qy1 hG ha) hs
 obtain ⟨h1,h2⟩:=h
 rw [h1]
 cases he:Qa5 call (arg G J) (argT G J) U s.ins with
 |none=>exact .none
 |some p=>
  simp only [Xag,Xaa,Xad,Qy3,Wen]
  exact .some (h2 p he)
theorem Qpl {J:List V} {k:Nat} {g:Option (Nat×Bool)} : wanted (J.map (V.sh b k)) g=wanted J g:=by
 cases g with
 |none=>rfl
 |some p=>
  obtain ⟨g,t⟩:=p
  simp only [wanted,Qnr]
  cases J.getD g .undef <;> rfl
theorem Qy4 (hG:GCl G) (hc:FrC b B call' call) {s:Step} (hs:s.ins.cl=true) {J:List V} {U:Objs} (hb:b≤U.length):FrS b B (Qb4 G call' s (J.map (V.sh b B.length)) (ins b B U)) (Qb4 G call s J U):=by
 unfold Qb4
 rw [Qpl]
 cases wanted J s.gd with
 |none=>exact .none
 |some t=>
  simp only [Xaa,Xad]
  split
  ·exact Wkn hG hc hs hb
  ·have:put (J.map (V.sh b B.length)) s.dst .undef=(put J s.dst .undef).map (V.sh b B.length):=Wen (x:=.undef)
   rw [this]
   exact .some hb
theorem Qtb (hG:GCl G) (hc:FrC b B call' call):∀ {l:List Step},l.all (fun s=>s.ins.cl)=true→∀ {J:List V} {U:Objs},b≤U.length→FrS b B (Qdb G call' l (J.map (V.sh b B.length)) (ins b B U)) (Qdb G call l J U)
 |[],_,J,U,hb=>.some hb
 |s::r,h,J,U,hb=>by
  simp only [Xcg,Xac] at h
  exact FrS.bind (Qy4 hG hc h.1 hb) fun J' U' hb'=>Qtb hG hc h.2 hb'
def Rd.sh (b k:Nat):Rd→Rd
 | .none=>.none
 | .same ex o off n=>.same ex (rn b k o) off n
 | .made o=>.made (rn b k o)
 | .took o off=>.took (rn b k o) off
theorem Wcy {A A':Arg→V} {U:Objs} (hb:b≤U.length) (hA:∀a,a.cl=true→A' a=V.sh b B.length (A a)) {i:Ins} (hi:i.cl=true):reads A' (ins b B U) i=(reads A U i).sh b B.length:=by
 cases i with
 |load ag sz x=>
  simp only [reads,hA x hi]
  cases A x <;> rfl
 |loadT x=>
  simp only [reads,hA x hi]
  cases A x with
  |ptr o off=>
   simp only [V.sh,Qdn hb]
   cases Objs.get U o with
   |none=>rfl
   |some cs=>
    simp only [Xag,Xad,Xan]
    cases cs[off]? with
    |none=>rfl
    |some v=>
     cases v with
     |sl xs c=>cases c <;> rfl
     |_=>rfl
  |_=>rfl
 |alloc z=>simp only [reads,Qgh hb];rfl
 |box x=>simp only [reads,Qgh hb];rfl
 |_=>rfl
theorem Qtc {k:Nat} {l m:List V} : V.beqs (l.map (V.sh b k)) (m.map (V.sh b k))=V.beqs l m:=by rw [←Qat,←Qat,Qra]
theorem Qy5 {U U':Objs} (hb:b≤U.length) (hb':b≤U'.length) {r:Rd} : stable (ins b B U) (ins b B U') (r.sh b B.length)=stable U U' r:=by
 cases r with
 |none=>rfl
 |took o off=>rfl
 |same ex o off n=>
  simp only [Rd.sh,stable,Qdn hb,Qdn hb']
  cases Objs.get U o with
  |none=>rfl
  |some cs=>
   cases Objs.get U' o with
   |none=>rfl
   |some ds=>
    simp only [Xag,Xao,←Xdw,←Xde,Qch,Qtc]
 |made o=>
  simp only [Rd.sh,stable,Qdn hb,Qdn hb']
  cases Objs.get U o with
  |none=>rfl
  |some cs=>
   cases Objs.get U' o with
   |none=>rfl
   |some ds=>simp only [Xag,Qtc]
def FrO (b:Nat) (B:Objs) (x' x:Option Objs):Prop:=x'=x.map (ins b B)∧∀U,x=some U→b≤U.length
theorem Qtd:∀ {l:List (Nat×Nat)} {U:Objs},b≤U.length→FrO b B (Qg8 (ins b B U) (l.map fun p=>(rn b B.length p.1,p.2))) (Qg8 U l)
 |[],U,hb=>⟨rfl,fun _ h=>by cases h;exact hb⟩
 |(o,off)::r,U,hb=>by
  simp only [Xak,Qg8,Qdn hb]
  cases Objs.get U o with
  |none=>exact ⟨rfl,fun _ h=>by cases h⟩
  |some cs=>
   simp only [Xag,Xan]
   cases cs[off]? with
   |none=>exact ⟨rfl,fun _ h=>by cases h⟩
   |some v=>
    cases v with
    |sl xs c=>
     simp only [Xag,V.sh]
     have h2:=Qi9 (b:=b) (B:=B) hb o (.cells (cs.set off (.sl xs .lk)))
     rw [show (O.cells (cs.set off (.sl xs .lk))).sh b B.length = .cells ((cs.map (V.sh b B.length)).set off (.sl (V.shs b B.length xs) .lk)) by rw [O.sh,Xcf];rfl] at h2
     rw [h2]
     exact Qtd (by simpa using hb)
    |_=>exact ⟨rfl,fun _ h=>by cases h⟩
theorem Qte:∀ {l:List (Nat×Nat)} {U:Objs},b≤U.length→FrO b B (Qe0 (ins b B U) (l.map fun p=>(rn b B.length p.1,p.2))) (Qe0 U l)
 |[],U,hb=>⟨rfl,fun _ h=>by cases h;exact hb⟩
 |(o,off)::r,U,hb=>by
  simp only [Xak,Qe0,Qdn hb]
  cases Objs.get U o with
  |none=>exact ⟨rfl,fun _ h=>by cases h⟩
  |some cs=>
   simp only [Xag,Xan]
   cases cs[off]? with
   |none=>exact ⟨rfl,fun _ h=>by cases h⟩
   |some v=>
    cases v with
    |sl xs c=>
     cases c with
     |lk=>
      simp only [Xag,V.sh]
      have h2:=Qi9 (b:=b) (B:=B) hb o (.cells (cs.set off (.sl xs .no)))
      rw [show (O.cells (cs.set off (.sl xs .no))).sh b B.length = .cells ((cs.map (V.sh b B.length)).set off (.sl (V.shs b B.length xs) .no)) by rw [O.sh,Xcf];rfl] at h2
      rw [h2]
      exact Qte (by simpa using hb)
     |_=>exact ⟨rfl,fun _ h=>by cases h⟩
    |_=>exact ⟨rfl,fun _ h=>by cases h⟩
theorem Whb {l:List Rd} {k:Nat} : (l.map (Rd.sh b k)).filterMap Rd.cell=(l.filterMap Rd.cell).map fun p=>(rn b k p.1,p.2):=by
 induction l with
 |nil=>rfl
 |cons r l ih=>cases r <;> simp [Rd.sh,List.filterMap_cons,Rd.cell,ih]
theorem Wcz {past:List Rd} {k n:Nat} : (past.map (Rd.sh b k)).getD n .none=(past.getD n .none).sh b k:=by
 simp only [Xav,Xan]
 cases past[n]? <;> rfl
theorem Weo (hG:GCl G) (hc:FrC b B call' call):∀ {l:List DS},l.all (fun d=>d.s.ins.cl)=true→∀ {past:List Rd} {J:List V} {U:Objs},b≤U.length→FrS b B (Qg9 G call' (past.map (Rd.sh b B.length)) l (J.map (V.sh b B.length)) (ins b B U)) (Qg9 G call past l J U)
 |[],_,past,J,U,hb=>.some hb
 |d::r,h,past,J,U,hb=>by
  simp only [Xcg,Xac] at h
  have hseen:(d.un.map fun k=>(past.map (Rd.sh b B.length)).getD k .none)=(d.un.map fun k=>past.getD k .none).map (Rd.sh b B.length):=by
   rw [Xce]
   congr 1
   funext k
   exact Wcz
  simp only [Qg9,hseen,Whb,Qpl,Xaa]
  obtain ⟨e0,l0⟩:=Qtd (B:=B) (l:=(d.un.map fun k=>past.getD k .none).filterMap Rd.cell) hb
  rw [e0]
  cases h0:Qg8 U ((d.un.map fun k=>past.getD k .none).filterMap Rd.cell) with
  |none=>exact .none
  |some U0=>
   simp only [Xag,Xad]
   obtain ⟨e1,l1⟩:=Qy4 hG hc h.1 (J:=J) (l0 U0 h0)
   rw [e1]
   cases h1:Qb4 G call d.s J U0 with
   |none=>exact .none
   |some p=>
    obtain ⟨J',U1⟩:=p
    simp only [Xag,Xad]
    obtain ⟨e2,l2⟩:=Qte (B:=B) (l:=(d.un.map fun k=>past.getD k .none).filterMap Rd.cell) (l1 _ h1)
    rw [e2]
    cases h2:Qe0 U1 ((d.un.map fun k=>past.getD k .none).filterMap Rd.cell) with
    |none=>exact .none
    |some U'=>
     simp only [Xag,Xad]
     have hst:((d.un.map fun k=>past.getD k .none).map (Rd.sh b B.length)).all (stable (ins b B U) (ins b B U'))=(d.un.map fun k=>past.getD k .none).all (stable U U'):=by
      rw [Xda]
      congr 1
      funext r
      exact Qy5 hb (l2 _ h2)
     rw [hst]
     split
     ·have hp:(past.map (Rd.sh b B.length))++[if (wanted J d.s.gd).getD false=true then reads (arg G (J.map (V.sh b B.length))) (ins b B U) d.s.ins else .none]=(past++[if (wanted J d.s.gd).getD false=true then reads (arg G J) U d.s.ins else .none]).map (Rd.sh b B.length):=by
       rw [Xbj,List.map_singleton,Wcy hb (fun a ha=>Qy2 hG ha) h.1]
       congr 2
       split <;> rfl
      rw [hp]
      exact Weo hG hc h.2 (l2 _ h2)
     ·exact .none
def FrW (b:Nat) (B:Objs):Prop:=B.all (O.rb (b+B.length))=true
mutual
theorem Wc0 {n m:Nat} (h:n≤m):∀ {x:V},V.rb n x=true→V.rb m x=true
 | .ptr o off,hx=>by simp [V.rb] at hx ⊢; omega
 | .hs o off len sz ag,hx=>by simp [V.rb] at hx ⊢; omega
 | .mp o,hx=>by simp [V.rb] at hx ⊢; omega
 | .eptr cs off,hx=>Qij h (l:=cs) hx
 | .sl xs c,hx=>Qij h (l:=xs) hx
 | .agg cs,hx=>Qij h (l:=cs) hx
 | .tup cs,hx=>Qij h (l:=cs) hx
 | .ifc t x,hx=>Wc0 h (x:=x) hx
 | .fn f xs ys,hx=>by
  have h':V.rbs n xs=true∧V.rbs n ys=true:=by simpa [V.rb] using hx
  simp [V.rb,Qij h h'.1,Qij h h'.2]
 | .any,_=>rfl | .undef,_=>rfl | .bool x,_=>rfl | .int j n,_=>rfl | .str s,_=>rfl
 | .nilp,_=>rfl | .nils,_=>rfl | .nili,_=>rfl | .nilf,_=>rfl | .nilm,_=>rfl
theorem Qij {n m:Nat} (h:n≤m):∀ {l:List V},V.rbs n l=true→V.rbs m l=true
 |[],_=>rfl
 |x::xs,hx=>by
  rw [Qag,Xac] at hx
  rw [Qag,Wc0 h hx.1,Qij h hx.2];rfl
end
theorem O.rb_mono {n m:Nat} (h:n≤m) {o:O} (ho:o.rb n=true):o.rb m=true:=by
 have hv:∀x:V,V.rb n x=true→V.rb m x=true:=fun x hx=>Wc0 h hx
 have hl:∀l:List V,V.rbs n l=true→V.rbs m l=true:=fun l hx=>Qij h hx
 cases o with
 |cells cs=>exact hl _ ho
 |mp es=>
  simp only [O.rb,Xac] at ho ⊢
  exact ⟨hl _ ho.1,hl _ ho.2⟩
end
section
variable {b:Nat} {B:Objs}
theorem Wc1 {U:Objs} {n:Nat} (hb:b≤U.length) (hn:b≤n):(ins b B U).take (n+B.length)=ins b B (U.take n):=by
 unfold ins
 rw [List.take_append,List.take_append]
 simp only [Xas,Xbh,Xao,Xde]
 rw [List.take_take,List.take_take,Xbl (l:=B) X0o,List.drop_take]
 congr 2
 ·congr 1;omega
 ·omega
theorem Wko {U:Objs} {n:Nat} (hb:b≤U.length) (hn:b≤n) {o:O} : fzO (n+B.length) (ins b B U) (o.sh b B.length)=(fzO n U o).map (O.sh b B.length):=by
 cases o with
 |cells cs=>
  simp only [O.sh,fzO]
  rw [←Qat,Qig hn]
  split
  ·simp only [Xag,O.sh,Qat]
  ·rw [Qat,Qrc fun x=>Wcs hb hn]
   cases cs.mapM (fz n U fzD) <;> rfl
 |mp es=>
  have h1:(es.map fun p=>(V.sh b B.length p.1,V.sh b B.length p.2)).map Prod.fst=V.shs b B.length (es.map Prod.fst):=by rw [Qat,Xce,Xce];rfl
  have h2:(es.map fun p=>(V.sh b B.length p.1,V.sh b B.length p.2)).map Prod.snd=V.shs b B.length (es.map Prod.snd):=by rw [Qat,Xce,Xce];rfl
  simp only [O.sh,fzO,h1,h2,Qig hn]
  split <;> rfl
theorem Qtf {f g:O→Option O} {k:Nat} (h:∀x,g (O.sh b k x)=(f x).map (O.sh b k)):∀ {l:List O},(l.map (O.sh b k)).mapM g=(l.mapM f).map (List.map (O.sh b k))
 |[]=>rfl
 |x::xs=>by
  simp only [Xak,Xbo,h,Qtf h,Xaa]
  cases f x with
  |none=>rfl
  |some y=>
   simp only [Xag,Xad]
   cases xs.mapM f <;> rfl
theorem Qtg {g:O→Option O} : ∀ {l:List O},(∀x∈l,g x=some x)→l.mapM g=some l
 |[],_=>rfl
 |x::xs,h=>by
  rw [Xbo,h x (by simp),Qtg fun y hy=>h y (by simp [hy])]
  rfl
theorem Qns {g:O→Option O} {A Bww:List O} : (A++Bww).mapM g=(A.mapM g).bind fun a=>(Bww.mapM g).bind fun c=>some (a++c):=by
 rw [List.mapM_append];rfl
theorem Qnt {g:O→Option O} : ∀ {A a:List O},A.mapM g=some a→a.length=A.length
 |[],a,h=>by cases h;rfl
 |x::xs,a,h=>by
  simp only [Xbo,Xaa,Xab] at h
  obtain ⟨y,_,ys,hys,he⟩:=h
  cases he
  simp [Qnt hys]
theorem Qrg (hφ:FrW b B) {U:Objs} {n:Nat} (hb:b≤U.length) (hn:b≤n):FrO b B (cuO (n+B.length) (ins b B U)) (cuO n U):=by
 have hlen:∀H,cuO n U=some H→b≤H.length:=by
  intro H h
  have:=Qnt (g:=fzO n U) h
  rw [this,Xbh];omega
 refine ⟨?_,hlen⟩
 have hid:B.mapM (fzO (n+B.length) (ins b B U))=some B:=by
  refine Qtg fun x hx=>Weh ?_
  have:=Xbb.1 hφ x hx
  exact O.rb_mono X0o this
 unfold cuO
 rw [Wc1 hb hn]
 have hτ:b≤(U.take n).length:=by rw [Xbh];omega
 generalize hgen:U.take n=H at hτ
 have h1:=@Qtf b (fzO n U) (fzO (n+B.length) (ins b B U)) B.length (fun x=>Wko hb hn) H
 rw [show H.map (O.sh b B.length)=(H.map (O.sh b B.length)).take b++(H.map (O.sh b B.length)).drop b from (Xdn _ _).symm,Qns] at h1
 generalize fzO (n+B.length) (ins b B U)=g at h1 hid ⊢
 unfold ins
 rw [Qns,Qns,hid]
 have hA:((H.map (O.sh b B.length)).take b).length=b:=by rw [Xbh,Xao];omega
 cases ha:((H.map (O.sh b B.length)).take b).mapM g with
 |none=>
  rw [ha] at h1
  simp only [Xdo] at h1 ⊢
  cases ht:H.mapM (fzO n U) with
  |none=>rfl
  |some t=>rw [ht] at h1;cases h1
 |some a=>
  rw [ha] at h1
  simp only [Xad] at h1 ⊢
  cases hc:((H.map (O.sh b B.length)).drop b).mapM g with
  |none=>
   rw [hc] at h1
   simp only [Xdo] at h1 ⊢
   cases ht:H.mapM (fzO n U) with
   |none=>rfl
   |some t=>rw [ht] at h1;cases h1
  |some c=>
   rw [hc] at h1
   simp only [Xad] at h1 ⊢
   cases ht:H.mapM (fzO n U) with
   |none=>rw [ht] at h1;cases h1
   |some t=>
    rw [ht] at h1
    simp only [Xag,Xah] at h1
    have hal:a.length=b:=(Qnt ha).trans hA
    rw [Xag,←h1,←hal,List.take_left,List.drop_left]
theorem Qfn {U:Objs} (hb:b≤U.length) {n:Nat} (hn:b≤n) {live:List Nat} : ∀ {J:List V} {i:Nat},Qaz (n+B.length) (ins b B U) live i (J.map (V.sh b B.length))=(Qaz n U live i J).map (List.map (V.sh b B.length))
 |[],i=>rfl
 |x::xs,i=>by
  rw [Xak,Qo6,Qo6,Wcs hb hn,Qfn hb hn]
  split
  ·cases fz n U fzD x with
   |none=>rfl
   |some y=>
    simp only [Xag,Xad]
    cases Qaz n U live (i+1) xs <;> rfl
  ·simp only [Xad]
   cases Qaz n U live (i+1) xs <;> rfl
def FrD (b:Nat) (B:Objs) (x' x:Ran):Prop:=x'=x.map (fun p=>(p.1,p.2.1.map (V.sh b B.length),ins b B p.2.2))∧∀p,x=some p→b≤p.2.2.length
theorem FrD.none:FrD b B none none:=⟨rfl,fun _ h=>by cases h⟩
theorem FrD.some {e:Out} {J:List V} {U:Objs} (h:b≤U.length):FrD b B (some (e,J.map (V.sh b B.length),ins b B U)) (some (e,J,U)):=⟨rfl,fun _ h'=>by cases h';exact h⟩
def Cd.cl:Cd→Bool
 | .ops _ l=>l.all fun s=>s.ins.cl
 | .drw _ l=>l.all fun d=>d.s.ins.cl
 | .seq a c=>a.cl&&c.cl
 | .cond x a c=>x.cl&&a.cl&&c.cl
 | .block _ c=>c.cl
 | .loop _ _ c=>c.cl
 |_=>true
theorem Qy6 (hφ:FrW b B) {lin lout:List Nat} {n:Nat} (hn:b≤n) {rd' rd:List V→Objs→Ran} (hrd:∀J U,b≤U.length→FrD b B (rd' (J.map (V.sh b B.length)) (ins b B U)) (rd J U)):
  ∀ {k:Nat} {J:List V} {U:Objs},b≤U.length→FrD b B (Qj4 lin lout (n+B.length) rd' k (J.map (V.sh b B.length)) (ins b B U)) (Qj4 lin lout n rd k J U)
 |0,J,U,hb=>.none
 |k+1,J,U,hb=>by
  obtain ⟨e1,l1⟩:=hrd J U hb
  unfold Qj4
  rw [e1]
  cases hr:rd J U with
  |none=>exact .none
  |some p=>
   obtain ⟨e,J',U'⟩:=p
   have hb':b≤U'.length:=l1 _ hr
   have out:∀(e:Out),FrD b B ((Qaz (n+B.length) (ins b B U') lout 0 (J'.map (V.sh b B.length))).bind fun J''=>(cuO (n+B.length) (ins b B U')).bind fun U''=>Option.some (e,J'',U''))
     ((Qaz n U' lout 0 J').bind fun J''=>(cuO n U').bind fun U''=>Option.some (e,J'',U'')):=by
    intro e
    rw [Qfn hb' hn]
    obtain ⟨e2,l2⟩:=Qrg hφ hb' hn
    rw [e2]
    cases Qaz n U' lout 0 J' with
    |none=>exact .none
    |some J''=>
     simp only [Xag,Xad]
     cases hc:cuO n U' with
     |none=>exact .none
     |some U''=>exact .some (l2 _ hc)
   cases e with
   |norm=>
    simp only [Xag,Xaa,Qfn hb' hn]
    obtain ⟨e2,l2⟩:=Qrg hφ hb' hn
    rw [e2]
    cases Qaz n U' lin 0 J' with
    |none=>exact .none
    |some J''=>
     simp only [Xag,Xad]
     cases hc:cuO n U' with
     |none=>exact .none
     |some U''=>exact Qy6 hφ hn hrd (l2 _ hc)
   |ex i=>exact out (.ex i)
   |ret=>exact out .ret
section
variable {G:GV} {call call':FuncId→List V→Objs→Ro}
theorem Qrh (hφ:FrW b B) (hG:GCl G) (hc:FrC b B call' call) {fuel:Nat} : ∀ {c:Cd},c.cl=true→∀ {J:List V} {U:Objs},b≤U.length→FrD b B (evCd G call' fuel c (J.map (V.sh b B.length)) (ins b B U)) (evCd G call fuel c J U)
 | .skip,_,J,U,hb=>.some hb
 | .ret,_,J,U,hb=>.some hb
 | .exit id,_,J,U,hb=>.some hb
 | .ops _ l,h,J,U,hb=>by
  simp only [evCd]
  obtain ⟨e1,l1⟩:=Qtb hG hc h hb (J:=J)
  rw [e1]
  cases hr:Qdb G call l J U with
  |none=>exact .none
  |some p=>exact .some (l1 _ hr)
 | .drw _ l,h,J,U,hb=>by
  simp only [evCd]
  obtain ⟨e1,l1⟩:=Weo hG hc h hb (J:=J) (past:=[])
  rw [Xa8] at e1
  rw [e1]
  cases hr:Qg9 G call [] l J U with
  |none=>exact .none
  |some p=>exact .some (l1 _ hr)
 | .seq a c,h,J,U,hb=>by
  simp only [Cd.cl,Xac] at h
  simp only [evCd]
  obtain ⟨e1,l1⟩:=Qrh hφ hG hc (fuel:=fuel) h.1 hb (J:=J)
  rw [e1]
  cases hr:evCd G call fuel a J U with
  |none=>exact .none
  |some p=>
   obtain ⟨e,J',U'⟩:=p
   have hb':b≤U'.length:=l1 _ hr
   cases e with
   |norm=>exact Qrh hφ hG hc h.2 hb'
   |ex i=>exact .some hb'
   |ret=>exact .some hb'
 | .cond x a c,h,J,U,hb=>by
  simp only [Cd.cl,Xac] at h
  simp only [evCd,Qy2 hG h.1.1]
  cases arg G J x with
  |bool t=>
   cases t with
   |true=>exact Qrh hφ hG hc h.1.2 hb
   |false=>exact Qrh hφ hG hc h.2 hb
  |_=>exact .none
 | .block id c,h,J,U,hb=>by
  simp only [evCd]
  obtain ⟨e1,l1⟩:=Qrh hφ hG hc (fuel:=fuel) (c:=c) h hb (J:=J)
  rw [e1]
  cases hr:evCd G call fuel c J U with
  |none=>exact .none
  |some p=>
   obtain ⟨e,J',U'⟩:=p
   have hb':b≤U'.length:=l1 _ hr
   cases e with
   |norm=>exact .some hb'
   |ex i=>
    simp only [Xag]
    split <;> exact .some hb'
   |ret=>exact .some hb'
 | .loop lin lout c,h,J,U,hb=>by
  simp only [evCd,Xaa]
  rw [Qrd hb,Qfn hb hb]
  cases Qaz U.length U lin 0 J with
  |none=>exact .none
  |some J'=>
   simp only [Xag,Xad]
   exact Qy6 hφ hb (fun J1 U1 hb1=>Qrh hφ hG hc (c:=c) h hb1) hb
theorem Qy7 {J:List V} {U:Objs} (hb:b≤U.length) {r:Res} : resV (J.map (V.sh b B.length)) (ins b B U) r=(resV J U r).map (V.sh b B.length):=by
 cases r with
 |tmp t=>simp only [resV,Qnr,Xag]
 |cell t ag sz=>
  simp only [resV,Qnr]
  cases J.getD t .undef with
  |ptr o off=>
   simp only [V.sh,Qdn hb,Xaa]
   cases Objs.get U o with
   |none=>rfl
   |some cs=>simp only [Xag,Xad,Qi8]
  |_=>rfl
theorem Qy8 {J:List V} {U:Objs} (hb:b≤U.length):∀ {rs:List Res},rs.mapM (resV (J.map (V.sh b B.length)) (ins b B U))=(rs.mapM (resV J U)).map (List.map (V.sh b B.length))
 |[]=>rfl
 |r::rs=>by
  simp only [Xbo,Qy7 hb,Qy8 hb (rs:=rs),Xaa]
  cases resV J U r with
  |none=>rfl
  |some x=>
   simp only [Xag,Xad]
   cases rs.mapM (resV J U) <;> rfl
theorem Whc {k:Nat} {keep:Bool} {x:V} : Qol keep (V.sh b k x)=V.sh b k (Qol keep x):=by
 cases keep
 ·exact Qgg
 ·rfl
theorem Qvq {J:List V} {U:Objs} (hb:b≤U.length) {keep:Bool} {rs:List Res} : Ev.results keep (J.map (V.sh b B.length)) (ins b B U) rs=(Ev.results keep J U rs).map (V.sh b B.length):=by
 match rs with
 |[]=>rfl
 |[r]=>
  simp only [Ev.results,Qy7 hb,Xaa]
  cases resV J U r with
  |none=>rfl
  |some x=>
   simp only [Xag,Xad,Wel,Qyn,Whc]
   split <;> rfl
 |r1::r2::rs=>
  simp only [Ev.results,Qy8 hb,Xaa]
  cases (r1::r2::rs).mapM (resV J U) with
  |none=>rfl
  |some xs=>simp only [Xag,Xad,V.sh,Qat,Qch]
theorem Wnw (hφ:FrW b B) (hG:GCl G) (hc:FrC b B call' call) {F:Fn} (hF:F.body.cl=true) (he:F.esc=false) {fuel:Nat} {args:List V} {U:Objs} (hb:b≤U.length):
  FrR b B (evFn G call' F fuel (args.map (V.sh b B.length)) (ins b B U)) (evFn G call F fuel args U):=by
 have hfin:∀(J:List V) (U':Objs),b≤U'.length→FrR b B
   ((Ev.results F.keep (J.map (V.sh b B.length)) (ins b B U') F.res).bind fun r=>(cuO (ins b B U).length (ins b B U')).bind fun U''=>(fz (ins b B U).length (ins b B U') fzD r).bind fun r'=>Option.some (r',U''))
   ((Ev.results F.keep J U' F.res).bind fun r=>(cuO U.length U').bind fun U''=>(fz U.length U' fzD r).bind fun r'=>Option.some (r',U'')):=by
  intro J U' hb'
  rw [Qvq hb',Qrd hb]
  obtain ⟨e2,l2⟩:=Qrg hφ hb' hb
  rw [e2]
  cases Ev.results F.keep J U' F.res with
  |none=>exact .none
  |some r=>
   simp only [Xag,Xad,Wcs hb' hb]
   cases hcut:cuO U.length U' with
   |none=>exact .none
   |some U''=>
    simp only [Xag,Xad]
    cases fz U.length U' fzD r with
    |none=>exact .none
    |some r'=>exact .some (l2 _ hcut)
 have hargs:(args.map (V.sh b B.length))++List.replicate (F.nt - (args.map (V.sh b B.length)).length) V.undef=(args++List.replicate (F.nt - args.length) V.undef).map (V.sh b B.length):=by
  rw [Xbj,Xcx,Xao];rfl
 unfold evFn
 simp only [he,Xaa]
 rw [hargs]
 obtain ⟨e1,l1⟩:=Qrh hφ hG hc (fuel:=fuel) hF hb (J:=args++List.replicate (F.nt - args.length) .undef)
 rw [e1]
 cases hr:evCd G call fuel F.body (args++List.replicate (F.nt - args.length) .undef) U with
 |none=>exact .none
 |some p=>
  obtain ⟨e,J',U'⟩:=p
  have hb':b≤U'.length:=l1 _ hr
  simp only [Xag,Xad]
  cases e with
  |norm=>exact hfin J' U' hb'
  |ret=>exact hfin J' U' hb'
  |ex i=>exact .none
end
structure CtxCl (C:Ctx):Prop where
 g:GCl C.G
 code:∀f F,C.code f=some F→F.body.cl=true∧F.esc=false
 prim:∀f h,C.prim f=some h→∀(b:Nat) (B:Objs) args U,b≤U.length→FrR b B (h (args.map (V.sh b B.length)) (ins b B U)) (h args U)
theorem Wkp {C:Ctx} (hC:CtxCl C) (hφ:FrW b B):∀n,FrC b B (ev C n) (ev C n)
 |0=>fun f args U hb=>.none
 |n+1=>fun f args U hb=>by
  simp only [ev]
  cases hp:C.prim f with
  |some h=>exact hC.prim f h hp b B args U hb
  |none=>
   simp only
   cases hF:C.code f with
   |none=>exact .none
   |some F=>exact Wnw hφ hC.g (Wkp hC hφ n) (hC.code f F hF).1 (hC.code f F hF).2 hb
theorem Qri {C:Ctx} (hC:CtxCl C) (hφ:FrW b B) {f:FuncId} {args:List V} {U:Objs} (hb:b≤U.length) {r:V} {U':Objs} (h:E C f args U=some (r,U')):
  E C f (args.map (V.sh b B.length)) (ins b B U)=some (V.sh b B.length r,ins b B U'):=by
 have hesc:∀f F,C.code f=some F→F.esc=false:=fun f F hF=>(hC.code f F hF).2
 obtain ⟨n,hn⟩:=ev_of_E hesc h
 refine Wge hesc (n:=n) ?_
 rw [(Wkp hC hφ n f args U hb).1,hn]
 rfl
theorem Qbe {C:Ctx} (hC:CtxCl C) {f:FuncId} {args:List V} {r:V} (h:E C f args []=some (r,[])) (ha:V.rbs 0 args=true) (hr:V.rb 0 r=true) (U:Objs) (hσ:Wf U):E C f args U=some (r,U):=by
 have h1:=Qri hC (b:=0) (B:=U) (by unfold FrW;rw [Xb1];exact hσ) (Xa1 _) h
 rw [←Qat,Qb0 ha,Qb1 hr] at h1
 simpa [ins] using h1
end
end Go.Ev
namespace Go.Ev
mutual
def V.hh:V→Nat
 | .sl xs _=>if xs.isEmpty then 0 else V.hhs xs+1
 | .agg cs=>V.hhs cs
 |_=>0
def V.hhs:List V→Nat
 |[]=>0
 |x::xs=>max (V.hh x) (V.hhs xs)
end
mutual
def V.shp (k:Nat):V→Bool
 | .nils=>k == 0||k == 2||k == 4
 | .sl xs _=>decide (xs.length≤1000000000)&&if k == 0 then V.shpAll 1 xs else if k == 2 then V.shpAll 3 xs else if k == 4 then V.shpAll 5 xs else false
 | .agg cs=>if k == 1 then V.shpEach [2] cs else if k == 3 then V.shpEach [6,4] cs else if k == 5 then V.shpEach [6,6,8,8,6,8,7,6,6,6,0] cs else false
 | .int j _=>k == 6&&decide (j = .i64)
 | .bool _=>k == 7
 | .str _=>k == 8
 |_=>false
def V.shpAll (k:Nat):List V→Bool
 |[]=>true
 |x::xs=>V.shp k x&&V.shpAll k xs
def V.shpEach (ks:List Nat):List V→Bool
 |[]=>ks.isEmpty
 |x::xs=>match ks with
  |[]=>false
  |k::ks=>V.shp k x&&V.shpEach ks xs
end
def dpI (x:V):Int:=(max 1 ((V.hh x+2) / 3):Nat)
def Qrj:List V→Option V
 |[x]=>if V.shp 0 x&&decide (V.hh x≤1000000) then some (.int .i64 (dpI x)) else none
 |_=>none
def Qrk (xs:List V) (U:Objs):Option (V×Objs):=(Qrj xs).map fun v=>(v,U)
mutual
theorem Wkq {b k:Nat} : ∀(x:V),V.hh (V.sh b k x)=V.hh x
 | .sl xs c=>by
  have:=Qy9 (b:=b) (k:=k) xs
  cases xs with
  |nil=>rfl
  |cons y ys=>simp only [V.sh,V.shs,V.hh,List.isEmpty_cons] at this ⊢; rw [this]
 | .agg cs=>by simp only [V.sh,V.hh];exact Qy9 cs
 | .ptr o off | .hs o off len sz ag | .mp o | .eptr cs off | .tup cs | .ifc t x | .fn f xs ys=>by simp only [V.sh,V.hh]
 | .any | .undef | .bool x | .int j n | .str s | .nilp | .nils | .nili | .nilf | .nilm=>rfl
theorem Qy9 {b k:Nat} : ∀(l:List V),V.hhs (V.shs b k l)=V.hhs l
 |[]=>rfl
 |x::xs=>by simp only [V.shs,V.hhs,Wkq x,Qy9 xs]
end
theorem Whd {b k:Nat} (l:List V):(V.shs b k l).length=l.length:=by rw [Qat,Xao]
mutual
theorem Qza {b k:Nat} : ∀(x:V) (j:Nat),V.shp j (V.sh b k x)=V.shp j x
 | .sl xs c,j=>by simp only [V.sh,V.shp,Qpm xs,Whd]
 | .agg cs,j=>by simp only [V.sh,V.shp,Qmn cs]
 | .ptr o off,j | .hs o off len sz ag,j | .mp o,j | .eptr cs off,j | .tup cs,j | .ifc t x,j | .fn f xs ys,j=>by simp only [V.sh,V.shp]
 | .any,j | .undef,j | .bool x,j | .int _ n,j | .str s,j | .nilp,j | .nils,j | .nili,j | .nilf,j | .nilm,j=>rfl
theorem Qpm {b k:Nat} : ∀(l:List V) (j:Nat),V.shpAll j (V.shs b k l)=V.shpAll j l
 |[],j=>rfl
 |x::xs,j=>by simp only [V.shs,V.shpAll,Qza x,Qpm xs]
theorem Qmn {b k:Nat} : ∀(l:List V) (js:List Nat),V.shpEach js (V.shs b k l)=V.shpEach js l
 |[],js=>rfl
 |x::xs,[]=>rfl
 |x::xs,j::js=>by simp only [V.shs,V.shpEach,Qza x,Qmn xs]
end
theorem Wkr {h:List V→Objs→Option (V×Objs)} {g:List V→Option V} (hg:∀xs U,h xs U=(g xs).map fun v=>(v,U)) (hs:∀b k xs,g (xs.map (V.sh b k))=g xs) (hc:∀xs v,g xs=some v→V.rb 0 v=true):
  ∀(b:Nat) (B:Objs) (xs:List V) (U:Objs),b≤U.length→FrR b B (h (xs.map (V.sh b B.length)) (ins b B U)) (h xs U):=by
 intro b B xs U hb
 rw [hg,hg,hs]
 cases he:g xs with
 |none=>exact FrR.none
 |some v=>
  have:=FrR.some (B:=B) (v:=v) hb
  rw [Qb1 (hc _ _ he)] at this
  exact this
theorem Wc2:∀(b:Nat) (B:Objs) (xs:List V) (U:Objs),b≤U.length→FrR b B (Qrk (xs.map (V.sh b B.length)) (ins b B U)) (Qrk xs U):=by
 refine Wkr (g:=Qrj) (fun xs U=>rfl) (fun b k xs => ?_) (fun xs v h => ?_)
 ·match xs with
  |[]=>rfl
  |[x]=>simp only [Xak,Xa8,Qrj,Qza,dpI,Wkq]
  |_::_::_=>rfl
 ·match xs with
  |[]=>cases h
  |[x]=>
   simp only [Qrj] at h
   split at h
   ·cases h;rfl
   ·cases h
  |_::_::_=>cases h
end Go.Ev
namespace Go.Proofs.YtapnplljnpconaaGreatDoor
open Go.RowKit Go.Ev
attribute [local go_sem] Oper.semAt_some
structure SV where
 (i0 i1:Int) (s2 s3:ByteArray) (i4:Int) (s5:ByteArray) (b6:Bool) (i7 i8 i9:Int) (a:Option Addr) (len cap:Nat)
 h:Nat
@[reducible] def SV.of (x:SV):Value:=.slice x.a x.len x.cap
@[reducible] def SV.v (x:SV):Value:=.agg #[.int .i64 x.i0,.int .i64 x.i1,.string x.s2,.string x.s3,.int .i64 x.i4,.string x.s5,.bool x.b6,.int .i64 x.i7,.int .i64 x.i8,.int .i64 x.i9,.slice x.a x.len x.cap]
def SV.cs (x:SV):List Value:=[.int .i64 x.i0,.int .i64 x.i1,.string x.s2,.string x.s3,.int .i64 x.i4,.string x.s5,.bool x.b6,.int .i64 x.i7,.int .i64 x.i8,.int .i64 x.i9,.slice x.a x.len x.cap]
def R3 (n0:Nat) (w:World) (v:Value) (ss:List SV):Prop:=
 ∃a cap,v = .slice a ss.length cap∧(ss.length:Int)≤9223372036854775807∧∀i (x:SV),ss[i]? = some x→∃(b off:Nat),a=some ⟨b,off,none⟩∧b<n0∧∀j u,x.cs[j]? = some u→w.cell? ⟨b,off+i * 11+j,none⟩=some u
def R2 (n0:Nat) (w:World) (v:Value) (ps:List (List SV)):Prop:=
 ∃a cap,v = .slice a ps.length cap∧(ps.length:Int)≤9223372036854775807∧∀i ss,ps[i]? = some ss→∃(b off:Nat) (c:Int) (u:Value),a=some ⟨b,off,none⟩∧b<n0∧w.cell? ⟨b,off+i * 2,none⟩=some (.int .i64 c)∧w.cell? ⟨b,off+i * 2+1,none⟩=some u∧R3 n0 w u ss
def R1 (n0:Nat) (w:World) (v:Value) (qs:List (List (List SV))):Prop:=
 ∃a cap,v = .slice a qs.length cap∧(qs.length:Int)≤9223372036854775807∧∀i ps,qs[i]? = some ps→∃(b off:Nat) (u:Value),a=some ⟨b,off,none⟩∧b<n0∧w.cell? ⟨b,off+i,none⟩=some u∧R2 n0 w u ps
theorem R3.keep {n0:Nat} {w w':World} {v:Value} {ss:List SV} (h:R3 n0 w v ss) (hb:Below n0 w w'):R3 n0 w' v ss:=by
 obtain ⟨a,cap,h1,h2,h3⟩:=h
 refine ⟨a,cap,h1,h2,fun i x hx => ?_⟩
 obtain ⟨b,off,g1,g4,g5⟩:=h3 i x hx
 exact ⟨b,off,g1,g4,fun j u hu=>(hb.cell g4).trans (g5 j u hu)⟩
theorem R2.keep {n0:Nat} {w w':World} {v:Value} {ps:List (List SV)} (h:R2 n0 w v ps) (hb:Below n0 w w'):R2 n0 w' v ps:=by
 obtain ⟨a,cap,h1,h2,h3⟩:=h
 refine ⟨a,cap,h1,h2,fun i x hx => ?_⟩
 obtain ⟨b,off,c,u,g1,g2,g3,g4,g6⟩:=h3 i x hx
 exact ⟨b,off,c,u,g1,g2,(hb.cell g2).trans g3,(hb.cell g2).trans g4,g6.keep hb⟩
theorem R1.keep {n0:Nat} {w w':World} {v:Value} {qs:List (List (List SV))} (h:R1 n0 w v qs) (hb:Below n0 w w'):R1 n0 w' v qs:=by
 obtain ⟨a,cap,h1,h2,h3⟩:=h
 refine ⟨a,cap,h1,h2,fun i x hx => ?_⟩
 obtain ⟨b,off,u,g1,g2,g3,g4⟩:=h3 i x hx
 exact ⟨b,off,u,g1,g2,(hb.cell g2).trans g3,g4.keep hb⟩
theorem Qzb {α:Type} {l:List α} {i:Nat} {x:α} (h:l[i]? = some x):l.take (i+1)=l.take i++[x]:=by rw [List.take_add_one,h];rfl
theorem Qzc {α:Type} {l:List (List α)} {i:Nat} {x:List α} (h:l[i]? = some x):l.flatten=(l.take i).flatten++x++(l.drop (i+1)).flatten:=by
 have h1:l=l.take i++x::l.drop (i+1):=by
  obtain ⟨hl,rfl⟩:=Xaf.1 h
  simp
 conv=>lhs;rw [h1]
 rw [Xb3,Xdi,Xa2]
theorem Wks {α:Type} {qs:List (List (List α))} {ps:List (List α)} {ss:List α} {x:α} {i k m:Nat} (h1:qs[i]? = some ps) (h2:ps[k]? = some ss) (h3:ss[m]? = some x):
  ∃r,qs.flatten.flatten=((qs.take i).flatten.flatten++(ps.take k).flatten++ss.take m)++x::r:=by
 have e3:ss=ss.take m++x::ss.drop (m+1):=by
  obtain ⟨hl,rfl⟩:=Xaf.1 h3
  simp
 refine ⟨ss.drop (m+1)++(ps.drop (k+1)).flatten++(qs.drop (i+1)).flatten.flatten,?_⟩
 rw [Qzc h1,Xb3,Xb3,Qzc h2]
 conv=>lhs;rw [e3]
 simp
theorem Whe {F:Fence} (h97:F.fn 97) (hro:F.round=none) (n:Nat) (hn:1≤n) (l Bn n0:Nat) (W:World) (v:Value) (qs:List (List (List SV))) (Jww Jx:List SV→World→Prop)
  (hab:AbidesFrom W.heap.size Jww) (hq:R1 n0 W v qs) (hn0:n0≤W.heap.size) (hBn:W.cell? ⟨Bn,0,none⟩=some v)
  (hY:∀pre (x:SV) W1,x∈qs.flatten.flatten→Jww pre W1→pre.length<qs.flatten.flatten.length→YieldAt F (n - 1) prog l #[x.v] W1 fun e W'=>(e = .returned (.bool true)∧Jww (pre++[x]) W'∧Below n0 W1 W')∨(e = .returned (.bool false)∧Jx (pre++[x]) W'))
  (h0:Jww [] W):
  CallsIn F n prog 97 #[.func (.yield l) #[] #[],.pointer (some ⟨Bn,0,none⟩)] W fun e W'=>(∃v,e = .returned v)∧((∃ys,ys=qs.flatten.flatten∧Jww ys W')∨(∃pre,pre <+: qs.flatten.flatten∧Jx pre W')):=by
 refine callsIn_of_wp func97 rfl h97 ?_ hro
 obtain ⟨a,cap,rfl,hlen,hel⟩:=hq
 simp only [Tryz.ntmps97,Xdh,Xal,Xa9,Nat.reduceAdd,Nat.reduceSub,Xdu,Xdv,Xd4,Xd0,Xcn,Xcs]
 have keepJ:∀ {pre A Bww},Jww pre A→Below A.heap.size A Bww→Jww pre Bww:=fun h hb=>hab _ _ _ none h ⟨hb.os,hb.tape,hb.output,hb.size,fun k hk _=>hb.block k hk⟩ (fun r e=>by cases e)
 gi_wp2
 gi_loopw [11] (fun p wr=>∃(i:Nat),p = .int .i64 i∧i≤qs.length∧Jww (qs.take i).flatten.flatten wr∧Below n0 W wr)
  (fun p wr=>qs.length - (match p with | .int _ i=>i.toNat|_=>0))
 case atStart=>
  exact ⟨0,rfl,by omega,h0,.refl _ _⟩
 case round=>
  obtain ⟨i,rfl,hi,hJ,hB⟩:=hrel
  by_cases hil:i<qs.length
  ·obtain ⟨ps,hps⟩:∃ps,qs[i]? = some ps:=⟨_,Xae hil⟩
   obtain ⟨b,off,u,rfl,hb,hu,hr2⟩:=hel i ps hps
   have hu':wr.cell? ⟨b,off+i,none⟩=some u:=(hB.cell hb).trans hu
   obtain ⟨a2,cap2,rfl,hlen2,hel2⟩:=hr2
   gi_wp2
   gi_loopw [18] (fun p wr2=>∃(k:Nat),p = .int .i64 k∧k≤ps.length∧Jww ((qs.take i).flatten.flatten++(ps.take k).flatten) wr2∧Below n0 W wr2)
    (fun p wr=>ps.length - (match p with | .int _ i=>i.toNat|_=>0))
   case atStart=>
    refine ⟨0,rfl,by omega,?_,?_⟩
    ·rw [List.take_zero,List.flatten_nil,Xbe]
     exact keepJ hJ ((Below.refl _ _).alloc (Xai _) _)
    ·have hsz:=hB.size
     exact hB.trans ((Below.refl _ _).alloc X0o _)
   case round=>
    obtain ⟨k,rfl,hk,hJ2,hB2⟩:=hrel
    by_cases hkl:k<ps.length
    ·obtain ⟨ss,hss⟩:∃ss,ps[k]? = some ss:=⟨_,Xae hkl⟩
     obtain ⟨b2,off2,c2,u2,rfl,hb2,hc2,hu2,hr3⟩:=hel2 k ss hss
     have hc2':wr.cell? ⟨b2,off2+k * 2,none⟩=some (.int .i64 c2):=(hB2.cell hb2).trans hc2
     have hu2':wr.cell? ⟨b2,off2+k * 2+1,none⟩=some u2:=(hB2.cell hb2).trans hu2
     obtain ⟨a3,cap3,rfl,hlen3,hel3⟩:=hr3
     gi_wp2
     gi_loopw [25] (fun p wr2=>∃(m:Nat),p = .int .i64 m∧m≤ss.length∧Jww ((qs.take i).flatten.flatten++(ps.take k).flatten++ss.take m) wr2∧Below n0 W wr2)
      (fun p wr=>ss.length - (match p with | .int _ i=>i.toNat|_=>0))
     case atStart=>
      refine ⟨0,rfl,by omega,?_,?_⟩
      ·rw [List.take_zero,Xbe]
       exact keepJ hJ2 ((Below.refl _ _).alloc (Xai _) _)
      ·have hsz:=hB2.size
       exact hB2.trans ((Below.refl _ _).alloc X0o _)
     case round=>
      obtain ⟨m,rfl,hm,hJ3,hB3⟩:=hrel
      by_cases hml:m<ss.length
      ·obtain ⟨x,hx⟩:∃x,ss[m]? = some x:=⟨_,Xae hml⟩
       obtain ⟨b3,off3,rfl,hb3,hcs⟩:=hel3 m x hx
       obtain ⟨x0,x1,x2,x3,x4,x5,x6,x7,x8,x9,a10,l10,c10,xh⟩:=x
       have y0:wr.cell? ⟨b3,off3+m * 11,none⟩=some (.int .i64 x0):=(hB3.cell hb3).trans (hcs 0 _ rfl)
       have y1:wr.cell? ⟨b3,off3+m * 11+1,none⟩=some (.int .i64 x1):=(hB3.cell hb3).trans (hcs 1 _ rfl)
       have y2:wr.cell? ⟨b3,off3+m * 11+2,none⟩=some (.string x2):=(hB3.cell hb3).trans (hcs 2 _ rfl)
       have y3:wr.cell? ⟨b3,off3+m * 11+3,none⟩=some (.string x3):=(hB3.cell hb3).trans (hcs 3 _ rfl)
       have y4:wr.cell? ⟨b3,off3+m * 11+4,none⟩=some (.int .i64 x4):=(hB3.cell hb3).trans (hcs 4 _ rfl)
       have y5:wr.cell? ⟨b3,off3+m * 11+5,none⟩=some (.string x5):=(hB3.cell hb3).trans (hcs 5 _ rfl)
       have y6:wr.cell? ⟨b3,off3+m * 11+6,none⟩=some (.bool x6):=(hB3.cell hb3).trans (hcs 6 _ rfl)
       have y7:wr.cell? ⟨b3,off3+m * 11+7,none⟩=some (.int .i64 x7):=(hB3.cell hb3).trans (hcs 7 _ rfl)
       have y8:wr.cell? ⟨b3,off3+m * 11+8,none⟩=some (.int .i64 x8):=(hB3.cell hb3).trans (hcs 8 _ rfl)
       have y9:wr.cell? ⟨b3,off3+m * 11+9,none⟩=some (.int .i64 x9):=(hB3.cell hb3).trans (hcs 9 _ rfl)
       have y10:wr.cell? ⟨b3,off3+m * 11+10,none⟩=some (.slice a10 l10 c10):=(hB3.cell hb3).trans (hcs 10 _ rfl)
       have hsz:=hB3.size
       have hBn3:Below n0 wr (wr.alloc (.cells #[.int .i64 x0,.int .i64 x1,.string x2,.string x3,.int .i64 x4,.string x5,.bool x6,.int .i64 x7,.int .i64 x8,.int .i64 x9,.slice a10 l10 c10] 96)):=(Below.refl _ _).alloc X0o _
       obtain ⟨rr,hrr⟩:=Wks hps hss hx
       have hJ4:=keepJ hJ3 ((Below.refl _ wr).alloc (Xai _) (.cells #[.int .i64 x0,.int .i64 x1,.string x2,.string x3,.int .i64 x4,.string x5,.bool x6,.int .i64 x7,.int .i64 x8,.int .i64 x9,.slice a10 l10 c10] 96))
       obtain ⟨fn,tmps,assign,body,hy,hR⟩:=hY _ ⟨x0,x1,x2,x3,x4,x5,x6,x7,x8,x9,a10,l10,c10,xh⟩ _ (by rw [hrr];simp) hJ4 (by rw [hrr];simp)
       dsimp only [SV.v] at hy
       gi_wp2
       refine hR.mono ?_
       rintro e W3 (⟨rfl,hJ5,hk5⟩|⟨rfl,hJx5⟩)
       ·gi_wp2
        go_roundw
        case rel=>
         refine ⟨m+1,rfl,by omega,?_,(hB3.trans hBn3).trans hk5⟩
         rw [Qzb hx,←Xa2]
         exact hJ5
        case measure=>simp;omega
       ·gi_wp2
        refine bodyPost_ret (results_none rfl _ _ _) rfl ?_
        exact ⟨⟨_,rfl⟩,.inr ⟨_,⟨rr,by rw [hrr];simp⟩,hJx5⟩⟩
      ·have e:m=ss.length:=by omega
       subst e
       gi_wp2
       go_roundw
       case rel=>
        refine ⟨k+1,rfl,by omega,?_,hB3⟩
        rw [Qzb hss,Xb3,←Xa2]
        rw [Xbx] at hJ3
        simpa using hJ3
       case measure=>simp;omega
    ·have e:k=ps.length:=by omega
     subst e
     gi_wp2
     go_roundw
     case rel=>
      refine ⟨i+1,rfl,by omega,?_,hB2⟩
      rw [Qzb hps,Xb3,Xb3]
      rw [Xbx] at hJ2
      simpa using hJ2
     case measure=>simp;omega
  ·have e:i=qs.length:=by omega
   subst e
   gi_wp2
   go_end0
   rw [Xbx] at hJ
   exact ⟨⟨_,rfl⟩,.inl ⟨_,rfl,hJ⟩⟩
end Go.Proofs.YtapnplljnpconaaGreatDoor
