import Derived.Test.YtnkbbpmcjopicaaDoorProg
import Derived.Test.YtnkbbpmcjopicaaDoorPk12
set_option linter.unusedVariables false
set_option linter.unusedSimpArgs false
open Nat renaming reduceEqDiff -> ZA,reduceAdd -> ZB,reduceMul -> ZC,reduceLeDiff -> ZD,reduceLT -> ZE
open Int renaming reduceEq -> ZF
open List renaming getElem?_eq_getElem->Z0
set_option maxRecDepth 100000
namespace Go.S11
open Go Go.Eng Go.Proofs
def Ya (a b:Nat):RO:=⟨.t a,none,.u .mv (.n b)⟩
def Yb (a b:Nat):RO:=⟨.t a,none,.u .mv (.t b)⟩
def Yl (a b:Nat):RO:=⟨.t a,none,.u .ld (.t b)⟩
def Yf (a k b:Nat):RO:=⟨.t a,none,.u (.fa k) (.t b)⟩
def Yg (a k b:Nat):RO:=⟨.t a,none,.u (.fa k) (.n b)⟩
def Yi (a:Nat) (i:Int):RO:=⟨.n a,none,.u .mv (.c (.int .i64 i))⟩
def Ym (a b:Nat):RO:=⟨.n a,none,.u .mv (.t b)⟩
def Yk (a b:Nat):RO:=⟨.t a,none,.u .nk (.t b)⟩
def Yt (a:Nat) (k:RK):RO:=⟨.t a,none,k⟩
def Yn (a:Nat) (k:RK):RO:=⟨.n a,none,k⟩
def Yz (k:RK):RO:=⟨.z,none,k⟩
def Yp (a g:Nat) (k:RK):RO:=⟨.t a,some (.t g,true),k⟩
def Yq (a g:Nat) (k:RK):RO:=⟨.t a,some (.t g,false),k⟩
def YE (a b:Nat) (i:Int):RO:=⟨.t a,none,.b (.ar .eql) (.n b) (.c (.int .i64 i))⟩
def YC (a f x y:Nat):RO:=⟨.t a,none,.call (.f f) [.t x,.t y]⟩
def YO (a g b:Nat):RO:=⟨.t a,none,.pk (.t g) (.c (.bool true)) (.t b)⟩
def YA (a g b:Nat):RO:=⟨.t a,none,.pk (.t g) (.t b) (.c (.bool false))⟩
def YL (a k b:Nat):RO:=⟨.t a,none,.u (.ldn k) (.n b)⟩
def YX (a k b:Nat):RO:=⟨.t a,none,.u (.ex k) (.t b)⟩
def YS (n a b:Nat):RO:=⟨.z,none,.st n (.n a) (.t b)⟩
def Yd (o:RO) (i:Nat):DO:=⟨o,i,false,[],[]⟩
def r6:RC:=(.sq (.rg [Yn 2 (.u .mv (.c (.bool false)))]) (.sq (.sq (.rg [Yt 22 (.call (.f 8) []),Yt 23 (.u .nt (.t 22))]) (.ite (.t 23) (.sq (.rg [Yn 2 (.u .mv (.c (.bool false)))]) .ret) .skip)) (.sq (.rg [Yt 24 (.call (.f 9) []),Ym 3 24]) (.sq (.sq (.rg [Ya 25 3,Yt 26 (.b (.er false 0) (.t 25) (.c (.pointer none)))]) (.ite (.t 26) (.sq (.rg [Yn 2 (.u .mv (.c (.bool false)))]) .ret) .skip)) (.sq (.rg [Ya 28 3,Ya 29 0,YC 30 14 28 29,Yb 27 30,YX 31 0 27,YX 32 1 27,Ym 4 31,Ym 5 32]) (.sq (.sq (.rg [Ya 33 5,Yt 34 (.b (.ar .neq) (.t 33) (.c (.int .i64 0)))]) (.ite (.t 34) (.sq (.rg [Ya 35 4,Yt 36 (.b (.ar .eql) (.t 35) (.c (.int .i64 0))),Yb 37 36,Yp 38 37 (.u .mv (.n 5)),Yp 39 37 (.b (.ar .eql) (.t 38) (.c (.int .i64 8))),YA 40 37 39,Ym 2 40]) .ret) .skip)) (.sq (.rg [Ya 42 3,Ya 43 4,Yt 44 (.call (.f 16) [.t 42,.t 43,(.c (.slice none 0 0))]),Yb 41 44,YX 45 0 41,YX 46 1 41,Ym 6 45,Ym 5 46]) (.sq (.rg [Ya 48 3,Ya 49 4,Ya 50 4,Yt 51 (.bsl 3 1 [(.int .i64 0)] [(0,1,(.t 50))]),Yt 52 (.call (.f 16) [.t 48,.t 49,.t 51]),Yb 47 52,YX 53 0 47,YX 54 1 47,Ym 7 53,Ym 8 54]) (.sq (.rg [Ya 56 3,Ya 57 4,YC 58 13 56 57,Yb 55 58,YX 59 0 55,YX 60 1 55,Ym 9 59,Ym 10 60]) (.sq (.rg [Ya 62 3,Ya 63 6,YC 64 13 62 63,Yb 61 64,YX 65 0 61,YX 66 1 61,Ym 11 65,Ym 12 66]) (.sq (.sq (.rg [Ya 67 5,Yt 68 (.b (.ar .neq) (.t 67) (.c (.int .i64 0))),Yb 69 68,Yq 70 69 (.u .mv (.n 8)),Yq 71 69 (.b (.ar .neq) (.t 70) (.c (.int .i64 0))),YO 72 69 71,Yb 73 72,Yq 74 73 (.u .mv (.n 10)),Yq 75 73 (.b (.ar .neq) (.t 74) (.c (.int .i64 0))),YO 76 73 75,Yb 77 76,Yq 78 77 (.u .mv (.n 12)),Yq 79 77 (.b (.ar .neq) (.t 78) (.c (.int .i64 0))),YO 80 77 79,Yb 81 80,Yq 82 81 (.u .mv (.n 9)),Yq 83 81 (.u .mv (.n 0)),Yq 84 81 (.b (.ar .neq) (.t 82) (.t 83)),YO 85 81 84,Yb 86 85,Yq 87 86 (.u .mv (.n 11)),Yq 88 86 (.u .mv (.n 0)),Yq 89 86 (.b (.ar .neq) (.t 87) (.t 88)),YO 90 86 89]) (.ite (.t 90) (.sq (.rg [Yn 2 (.u .mv (.c (.bool false)))]) .ret) .skip)) (.sq (.rg [Ya 92 3,Ya 93 4,Ya 94 7,Yt 95 (.call (.f 15) [.t 92,.t 93,.t 94]),Yb 91 95,YX 96 0 91,YX 97 1 91,Ym 13 96,Ym 5 97]) (.sq (.rg [Ya 99 3,Ya 100 4,Ya 101 6,Yt 102 (.call (.f 15) [.t 99,.t 100,.t 101]),Yb 98 102,YX 103 0 98,YX 104 1 98,Ym 14 103,Ym 8 104]) (.sq (.rg [Ya 106 3,Ya 107 4,YC 108 18 106 107,Yb 105 108,YX 109 0 105,YX 110 1 105,Ym 15 109,Ym 10 110]) (.sq (.rg [Ya 112 3,Ya 113 4,YC 114 19 112 113,Yb 111 114,YX 115 0 111,YX 116 1 111,Ym 16 115,Ym 12 116]) (.sq (.rg [Ya 118 3,Ya 119 6,YC 120 19 118 119,Yb 117 120,YX 121 0 117,YX 122 1 117,Ym 17 121,Ym 18 122]) (.sq (.sq (.rg [Ya 123 5,Yt 124 (.b (.ar .neq) (.t 123) (.c (.int .i64 0))),Yb 125 124,Yq 126 125 (.u .mv (.n 8)),Yq 127 125 (.b (.ar .neq) (.t 126) (.c (.int .i64 0))),YO 128 125 127,Yb 129 128,Yq 130 129 (.u .mv (.n 10)),Yq 131 129 (.b (.ar .neq) (.t 130) (.c (.int .i64 0))),YO 132 129 131,Yb 133 132,Yq 134 133 (.u .mv (.n 12)),Yq 135 133 (.b (.ar .neq) (.t 134) (.c (.int .i64 0))),YO 136 133 135,Yb 137 136,Yq 138 137 (.u .mv (.n 18)),Yq 139 137 (.b (.ar .neq) (.t 138) (.c (.int .i64 0))),YO 140 137 139,Yb 141 140,Yq 142 141 (.u .mv (.n 13)),Yq 143 141 (.u .nt (.t 142)),YO 144 141 143,Yb 145 144,Yq 146 145 (.u .mv (.n 14)),Yq 147 145 (.u .mv (.n 15)),Yq 148 145 (.b (.ar .eql) (.t 147) (.c (.int .i64 0))),Yq 149 145 (.b (.eb true) (.t 146) (.t 148)),YO 150 145 149,Yb 151 150,Yq 152 151 (.u .mv (.n 16)),Yq 153 151 (.u .mv (.n 17)),Yq 154 151 (.b (.ar .neq) (.t 152) (.t 153)),YO 155 151 154,Yb 156 155,Yq 157 156 (.u .mv (.n 16)),Yq 158 156 (.b (.ar .lss) (.t 157) (.c (.int .i64 1))),YO 159 156 158,Yb 160 159,Yq 161 160 (.u .mv (.n 16)),Yq 162 160 (.b (.ar .gtr) (.t 161) (.c (.int .i64 500))),YO 163 160 162,Yb 164 163,Yq 165 164 (.u .mv (.n 15)),Yq 166 164 (.u .mv (.n 16)),Yq 167 164 (.b (.ar .gtr) (.t 165) (.t 166)),YO 168 164 167]) (.ite (.t 168) (.sq (.rg [Yn 2 (.u .mv (.c (.bool false)))]) .ret) .skip)) (.sq (.rg [Ya 170 3,Ya 171 4,Ya 172 6,Yt 173 (.bsl 3 2 [(.int .i64 0),(.int .i64 0)] [(0,1,(.t 171)),(1,1,(.t 172))]),Yt 174 (.call (.f 17) [.t 170,(.c (.string ⟨#[40,44,41]⟩)),.t 173]),Yb 169 174,YX 175 0 169,YX 176 1 169,Ym 19 175,Ym 5 176]) (.sq (.rg [Ya 178 3,Ya 179 19,YC 180 19 178 179,Yb 177 180,YX 181 0 177,YX 182 1 177,Ym 20 181,Ym 8 182]) (.sq (.sq (.rg [Ya 183 5,Yt 184 (.b (.ar .neq) (.t 183) (.c (.int .i64 0))),Yb 185 184,Yq 186 185 (.u .mv (.n 8)),Yq 187 185 (.b (.ar .neq) (.t 186) (.c (.int .i64 0))),YO 188 185 187,Yb 189 188,Yq 190 189 (.u .mv (.n 20)),Yq 191 189 (.u .mv (.n 16)),Yq 192 189 (.b (.ar .mul) (.c (.int .i64 2)) (.t 191)),Yq 193 189 (.b (.ar .add) (.t 192) (.c (.int .i64 1))),Yq 194 189 (.b (.ar .neq) (.t 190) (.t 193)),Yq 195 189 (.u .mv (.t 194)),Yp 196 195 (.u .mv (.n 20)),Yp 197 195 (.b (.ar .neq) (.t 196) (.c (.int .i64 501))),Yq 198 189 (.pk (.t 195) (.t 197) (.c (.bool false))),YO 199 189 198,Yb 200 199,Yq 201 200 (.u .mv (.n 16)),Yq 202 200 (.b (.ar .mul) (.c (.int .i64 2)) (.t 201)),Yq 203 200 (.b (.ar .add) (.t 202) (.c (.int .i64 1))),Yq 204 200 (.b (.ar .leq) (.t 203) (.c (.int .i64 500))),Yq 205 200 (.u .mv (.t 204)),Yp 206 205 (.u .mv (.n 20)),Yp 207 205 (.u .mv (.n 16)),Yp 208 205 (.b (.ar .mul) (.c (.int .i64 2)) (.t 207)),Yp 209 205 (.b (.ar .add) (.t 208) (.c (.int .i64 1))),Yp 210 205 (.b (.ar .neq) (.t 206) (.t 209)),Yq 211 200 (.pk (.t 205) (.t 210) (.c (.bool false))),YO 212 200 211]) (.ite (.t 212) (.sq (.rg [Yn 2 (.u .mv (.c (.bool false)))]) .ret) .skip)) (.sq (.rg [Ya 214 3,Ya 215 19,YC 216 18 214 215,Yb 213 216,YX 217 0 213,YX 218 1 213,Ym 21 217,Ym 10 218]) (.sq (.rg [Ya 219 20,Yt 220 (.b (.ar .eql) (.t 219) (.c (.int .i64 501))),Yb 221 220,Yp 222 221 (.u .mv (.n 10)),Yp 223 221 (.b (.ar .eql) (.t 222) (.c (.int .i64 11))),YA 224 221 223,Yb 225 224,Yq 226 225 (.u .mv (.n 10)),Yq 227 225 (.b (.ar .eql) (.t 226) (.c (.int .i64 0))),Yq 228 225 (.u .mv (.t 227)),Yp 229 228 (.u .mv (.n 21)),Yp 230 228 (.u .mv (.n 15)),Yp 231 228 (.b (.ar .mul) (.c (.int .i64 2)) (.t 230)),Yp 232 228 (.b (.ar .eql) (.t 229) (.t 231)),Yq 233 225 (.pk (.t 228) (.t 232) (.c (.bool false))),YO 234 225 233,Ym 2 234]) .ret))))))))))))))))))))))
theorem k6:look1 Tryd.prog 6 [0,2,3,4,5,6,7,8,9,10,11,12,13,14,15,16,17,18,19,20,21] dq=some (r6,[.v (.n 2)]):=by kernel_rfl
def r9:RC:=(.sq (.rg [Yn 0 (.u .mv (.c (.pointer none)))]) (.sq (.rg [Yt 1 (.call (.f 20) []),Yt 2 (.bld [(.pointer none),(.bool false)] [(0,1,(.t 1))]),Yt 3 (.u (.bx 48) (.t 2)),Ym 0 3]) .ret))
theorem k9:look1 Tryd.prog 9 [0] dq=some (r9,[.v (.n 0)]):=by kernel_rfl
def r10:RC:=(.sq (.rg [Yi 6 0,Yi 7 0,Yn 8 (.u .mv (.c (.bool false)))]) (.sq (.rg [Ya 14 0,Ya 15 1,YC 16 14 14 15,Yb 13 16,YX 17 0 13,YX 18 1 13,Ym 9 17,Ym 10 18]) (.sq (.rg [Ya 20 0,Ya 21 2,YC 22 14 20 21,Yb 19 22,YX 23 0 19,YX 24 1 19,Ym 11 23,Ym 12 24]) (.sq (.rg [Ya 25 9,Ya 26 11,Ya 27 10,Yt 28 (.b (.ar .eql) (.t 27) (.c (.int .i64 0))),Yb 29 28,Yp 30 29 (.u .mv (.n 12)),Yp 31 29 (.b (.ar .eql) (.t 30) (.c (.int .i64 0))),YA 32 29 31,Ym 6 25,Ym 7 26,Ym 8 32]) .ret))))
theorem k10:look1 Tryd.prog 10 [0,1,2,6,7,8,9,10,11,12] dq=some (r10,[.v (.n 6),.v (.n 7),.v (.n 8)]):=by kernel_rfl
def r12:RC:=(.sq (.rg [Yi 2 0,Yi 3 0]) (.sq (.sq (.rg [Ya 5 0,Yt 6 (.call (.f 21) [.t 5,(.c (.slice none 0 0))]),Ym 4 6]) (.sq (.rg [Ya 7 4,Yt 8 (.b (.ar .neq) (.t 7) (.c (.int .i64 0)))]) (.ite (.t 8) (.sq (.rg [Ya 9 4,Yi 2 0,Ym 3 9]) .ret) .skip))) (.sq (.rg [Ya 10 0,Yt 11 (.call (.f 24) [.t 10,(.c (.string ⟨#[]⟩)),(.c (.slice none 0 0))]),Ym 2 11,Yi 3 0]) .ret)))
theorem k12:look1 Tryd.prog 12 [0,2,3,4] dq=some (r12,[.v (.n 2),.v (.n 3)]):=by kernel_rfl
def r13:RC:=(.sq (.rg [Yn 4 (.u .mv (.c (.string ⟨#[]⟩))),Yi 5 0]) (.sq (.sq (.rg [Ya 8 0,Ya 9 1,YC 10 25 8 9,Ym 6 10]) (.sq (.rg [Ya 11 6,Yt 12 (.b (.ar .neq) (.t 11) (.c (.int .i64 0)))]) (.ite (.t 12) (.sq (.rg [Ya 13 6,Yn 4 (.u .mv (.c (.string ⟨#[]⟩))),Ym 5 13]) .ret) .skip))) (.sq (.rg [Yn 7 (.al 58 [(.pointer none),(.slice none 0 0)])]) (.sq (.rg [Ya 14 0,Ya 15 1,Ya 16 0,Ya 17 1,Yt 18 (.call (.f 27) [.t 16,.t 17,(.c (.slice none 0 0))]),Yt 19 (.call (.f 26) [.t 14,.n 7,.t 15,.t 18,(.c (.int .i64 0))])]) (.sq (.rg [Yt 20 (.call (.f 28) [.n 7]),Ym 4 20,Yi 5 0]) .ret)))))
theorem k13:look1 Tryd.prog 13 [0,1,4,5,6,7] dq=some (r13,[.v (.n 4),.v (.n 5)]):=by kernel_rfl
def r14:RC:=(.sq (.rg [Yn 4 (.al 3 [(.int .i64 0)]),Yn 5 (.al 27 [(.int .i64 0)])]) (.sq (.sq (.rg [Ya 10 0,Yt 11 (.call (.f 21) [.t 10,(.c (.slice none 0 0))]),Ym 6 11]) (.sq (.rg [Ya 12 6,Yt 13 (.b (.ar .neq) (.t 12) (.c (.int .i64 0)))]) (.ite (.t 13) (.sq (.rg [Ya 14 6,Yz (.st 1 (.n 4) (.c (.int .i64 0))),YS 1 5 14]) .ret) .skip))) (.sq (.sq (.rg [Ya 15 1,Yt 16 (.u .lenS (.t 15)),Yt 17 (.b (.ar .gtr) (.t 16) (.c (.int .i64 20000)))]) (.ite (.t 17) (.sq (.rg [Yz (.st 1 (.n 4) (.c (.int .i64 0))),Yz (.st 1 (.n 5) (.c (.int .i64 8)))]) .ret) .skip)) (.sq (.rg [Yt 18 (.mkf (.func 29) [] [.n 4,.n 5]),Yz (.dfr (.t 18) [])]) (.sq (.rg [Ya 19 0,Ya 20 1,⟨(.t 21),none,.mm⟩,Yt 22 (.bld [(.pointer none),(.string ⟨#[]⟩),(.map none)] [(0,1,(.t 19)),(1,1,(.t 20)),(2,1,(.t 21))]),Yt 23 (.u (.bx 67) (.t 22)),Ym 7 23]) (.sq (.rg [Ya 24 7,Yt 25 (.call (.f 30) [.t 24]),YS 1 4 25]) (.sq (.sq (.rg [Ya 27 0,Yt 28 (.u .ld (.n 4)),YC 29 13 27 28,Yb 26 29,YX 30 0 26,YX 31 1 26,Ym 8 30,Ym 9 31]) (.sq (.rg [Ya 32 9,Yt 33 (.b (.ar .neq) (.t 32) (.c (.int .i64 0))),Yb 34 33,Yq 35 34 (.u .mv (.n 7)),Yq 36 34 (.u .nk (.t 35)),Yq 37 34 (.u (.fa 1) (.t 36)),Yq 38 34 (.u .ld (.t 37)),Yq 39 34 (.b (.ar .neq) (.t 38) (.c (.string ⟨#[]⟩))),YO 40 34 39,Yb 41 40,Yq 42 41 (.u .mv (.n 8)),Yq 43 41 (.u .mv (.n 1)),Yq 44 41 (.b (.ar .neq) (.t 42) (.t 43)),YO 45 41 44]) (.ite (.t 45) (.sq (.rg [Yz (.st 1 (.n 4) (.c (.int .i64 0))),Yz (.st 1 (.n 5) (.c (.int .i64 8)))]) .ret) .skip))) (.sq (.rg [Yt 46 (.u .ld (.n 4)),YS 1 4 46,Yz (.st 1 (.n 5) (.c (.int .i64 0)))]) .ret))))))))
theorem k14:look1 Tryd.prog 14 [0,1,4,5,6,7,8,9] dq=some (r14,[.c (.n 4) .ld,.c (.n 5) .ld]):=by kernel_rfl
def r15:RC:=(.sq (.rg [Yn 6 (.u .mv (.c (.bool false))),Yi 7 0]) (.sq (.sq (.rg [Ya 9 0,Ya 10 1,Ya 11 2,Yt 12 (.bsl 3 2 [(.int .i64 0),(.int .i64 0)] [(0,1,(.t 10)),(1,1,(.t 11))]),YC 13 21 9 12,Ym 8 13]) (.sq (.rg [Ya 14 8,Yt 15 (.b (.ar .neq) (.t 14) (.c (.int .i64 0)))]) (.ite (.t 15) (.sq (.rg [Ya 16 8,Yn 6 (.u .mv (.c (.bool false))),Ym 7 16]) .ret) .skip))) (.sq (.rg [Ya 17 0,Ya 18 1,Ya 19 2,⟨(.t 20),none,.mm⟩,Yt 21 (.call (.f 31) [.t 17,.t 18,.t 19,.t 20]),Ym 6 21,Yi 7 0]) .ret)))
theorem k15:look1 Tryd.prog 15 [0,1,2,6,7,8] dq=some (r15,[.v (.n 6),.v (.n 7)]):=by kernel_rfl
def r16:RC:=(.sq (.rg [Yi 6 0,Yi 7 0]) (.sq (.sq (.rg [Ya 14 0,Ya 15 1,Yt 16 (.bsl 3 1 [(.int .i64 0)] [(0,1,(.t 15))]),Ya 17 2,Yt 18 (.app false 3 1 8 [(.int .i64 0)] (.t 16) (.t 17)),YC 19 21 14 18,Ym 8 19]) (.sq (.rg [Ya 20 8,Yt 21 (.b (.ar .neq) (.t 20) (.c (.int .i64 0)))]) (.ite (.t 21) (.sq (.rg [Ya 22 8,Yi 6 0,Ym 7 22]) .ret) .skip))) (.sq (.sq (.rg [Ya 23 0,Ya 24 1,YC 25 25 23 24,Ym 9 25]) (.sq (.rg [Ya 26 9,Yt 27 (.b (.ar .neq) (.t 26) (.c (.int .i64 0)))]) (.ite (.t 27) (.sq (.rg [Ya 28 9,Yi 6 0,Ym 7 28]) .ret) .skip))) (.sq (.rg [⟨(.t 29),none,.mm⟩,Ym 10 29]) (.sq (.rg [⟨(.t 30),none,.mm⟩,Ym 11 30]) (.sq (.sq (.rg [Yn 31 (.u .mv (.n 2)),Yn 32 (.u .lenL (.n 31)),Yi 33 0]) (.blk 0 (.loop (.sq (.rg [Yt 34 (.b (.ar .lss) (.n 33) (.n 32))]) (.sq (.ite (.t 34) .skip (.exit 0)) (.sq (.blk 1 (.sq (.rg [Yt 35 (.b (.ia 1) (.n 31) (.n 33)),Yl 36 35,Ym 13 36]) (.rg [Ya 37 0,Ya 38 13,Ya 39 10,Ya 40 11,Yt 41 (.call (.f 32) [.t 37,.t 38,.t 39,.t 40])]))) (.rg [Yt 42 (.b (.ar .add) (.n 33) (.c (.int .i64 1))),Ym 33 42]))))))) (.sq (.rg [Ya 43 0,Ya 44 1,Ya 45 10,Yt 46 (.call (.f 33) [.t 43,.t 44,.t 45]),Ym 6 46,Yi 7 0]) .ret)))))))
theorem k16:look1 Tryd.prog 16 [0,1,2,6,7,8,9,10,11,13,31,32,33] dq=some (r16,[.v (.n 6),.v (.n 7)]):=by kernel_rfl
def r17:RC:=(.sq (.rg [Yi 6 0,Yi 7 0]) (.sq (.sq (.rg [Ya 10 0,Yt 11 (.call (.f 21) [.t 10,(.c (.slice none 0 0))]),Ym 8 11]) (.sq (.rg [Ya 12 8,Yt 13 (.b (.ar .neq) (.t 12) (.c (.int .i64 0)))]) (.ite (.t 13) (.sq (.rg [Ya 14 8,Yi 6 0,Ym 7 14]) .ret) .skip))) (.sq (.sq (.rg [Ya 15 1,Ya 16 2,Yt 17 (.u .lenL (.t 16)),YC 18 34 15 17,Yt 19 (.u .nt (.t 18))]) (.ite (.t 19) (.sq (.rg [Yi 6 0,Yi 7 1]) .ret) .skip)) (.sq (.sq (.rg [Ya 20 0,Ya 21 2,YC 22 21 20 21,Ym 9 22]) (.sq (.rg [Ya 23 9,Yt 24 (.b (.ar .neq) (.t 23) (.c (.int .i64 0)))]) (.ite (.t 24) (.sq (.rg [Ya 25 9,Yi 6 0,Ym 7 25]) .ret) .skip))) (.sq (.rg [Ya 26 0,Ya 27 1,Ya 28 2,Yt 29 (.call (.f 35) [.t 28]),Yt 30 (.call (.f 24) [.t 26,.t 27,.t 29]),Ym 6 30,Yi 7 0]) .ret)))))
theorem k17:look1 Tryd.prog 17 [0,1,2,6,7,8,9] dq=some (r17,[.v (.n 6),.v (.n 7)]):=by kernel_rfl
def r18:RC:=(.sq (.rg [Yi 4 0,Yi 5 0]) (.sq (.sq (.rg [Ya 7 0,Ya 8 1,YC 9 25 7 8,Ym 6 9]) (.sq (.rg [Ya 10 6,Yt 11 (.b (.ar .neq) (.t 10) (.c (.int .i64 0)))]) (.ite (.t 11) (.sq (.rg [Ya 12 6,Yi 4 0,Ym 5 12]) .ret) .skip))) (.sq (.rg [Ya 13 0,Ya 14 1,Yt 15 (.call (.f 27) [.t 13,.t 14,(.c (.slice none 0 0))]),Yt 16 (.u .lenL (.t 15)),Ym 4 16,Yi 5 0]) .ret)))
theorem k18:look1 Tryd.prog 18 [0,1,4,5,6] dq=some (r18,[.v (.n 4),.v (.n 5)]):=by kernel_rfl
def r19:RC:=(.sq (.rg [Yi 4 0,Yi 5 0]) (.sq (.sq (.rg [Ya 7 0,Ya 8 1,Yt 9 (.bsl 3 1 [(.int .i64 0)] [(0,1,(.t 8))]),YC 10 21 7 9,Ym 6 10]) (.sq (.rg [Ya 11 6,Yt 12 (.b (.ar .neq) (.t 11) (.c (.int .i64 0)))]) (.ite (.t 12) (.sq (.rg [Ya 13 6,Yi 4 0,Ym 5 13]) .ret) .skip))) (.sq (.rg [Ya 14 0,Ya 15 1,Yt 16 (.call (.f 36) [.t 14,.t 15,(.c (.int .i64 501))]),Ym 4 16,Yi 5 0]) .ret)))
theorem k19:look1 Tryd.prog 19 [0,1,4,5,6] dq=some (r19,[.v (.n 4),.v (.n 5)]):=by kernel_rfl
def r20:RC:=(.sq (.rg [Yn 0 (.u .mv (.c (.pointer none)))]) (.sq (.rg [Yt 1 (.bld [(.slice none 0 0),(.int .i64 0)] []),Yt 2 (.u (.bx 79) (.t 1)),Ym 0 2]) .ret))
theorem k20:look1 Tryd.prog 20 [0] dq=some (r20,[.v (.n 0)]):=by kernel_rfl
def r21:RC:=(.sq (.rg [Yn 2 (.u (.bx 23) (.n 0)),Yi 4 0]) (.sq (.blk 0 (.sq (.rg [Yt 6 (.u .ld (.n 2)),Yt 7 (.b (.er false 0) (.t 6) (.c (.pointer none))),Yb 5 7]) (.ite (.t 5) (.sq (.rg [Yi 4 1]) .ret) (.sq (.rg [Yt 9 (.u .ld (.n 2)),Yk 10 9,Yf 11 1 10,Yl 12 11,Yb 8 12]) (.ite (.t 8) (.sq (.rg [Yi 4 10]) .ret) (.sq (.rg [Ya 14 1,Yt 15 (.mkf (.func 38) [] [.n 2]),YC 16 37 14 15,Yb 13 16]) (.ite (.t 13) (.sq (.rg [Yi 4 2]) .ret) .skip))))))) (.sq (.rg [Yi 4 0]) .ret)))
theorem k21:look1 Tryd.prog 21 [0,1,2,4] dq=some (r21,[.v (.n 4)]):=by kernel_rfl
def r24:RC:=(.sq (.rg [Yi 6 0]) (.sq (.rg [Ya 10 0,Yk 11 10,Yf 12 0 11,Yl 13 12,Ya 14 1,Ya 15 2,Yt 16 (.bld [(.string ⟨#[]⟩),(.slice none 0 0)] [(0,1,(.t 14)),(1,1,(.t 15))]),YC 17 43 13 16,Yb 9 17,YX 18 0 9,YX 19 1 9,Ym 7 18,Yb 8 19]) (.sq (.rg [Ya 20 7,Ym 6 20]) .ret)))
theorem k24:look1 Tryd.prog 24 [0,1,2,6,7] dq=some (r24,[.v (.n 6)]):=by kernel_rfl
def r25:RC:=(.sq (.rg [Yi 4 0]) (.sq (.rg [Ya 8 0,Ya 9 1,YC 10 19 8 9,Yb 7 10,YX 11 0 7,YX 12 1 7,Ym 5 11,Ym 6 12]) (.sq (.sq (.rg [Ya 13 6,Yt 14 (.b (.ar .eql) (.t 13) (.c (.int .i64 0))),Yb 15 14,Yp 16 15 (.u .mv (.n 5)),Yp 17 15 (.b (.ar .gtr) (.t 16) (.c (.int .i64 500))),YA 18 15 17]) (.ite (.t 18) (.sq (.rg [Yi 4 11]) .ret) .skip)) (.sq (.rg [Ya 19 6,Ym 4 19]) .ret))))
theorem k25:look1 Tryd.prog 25 [0,1,4,5,6] dq=some (r25,[.v (.n 4)]):=by kernel_rfl
def r26 : RC := (.sq (.rg [Ya 18 0,Ya 19 2,YC 20 40 18 19,Yb 17 20,YX 21 0 17,YX 22 1 17,Yn 10 (.al 46 [(.string ⟨#[]⟩),(.slice none 0 0)]),Ym 2 21,YS 2 10 22]) (.sq (.rg [Yn 11 (.u .mv (.c (.string ⟨#[]⟩))),Yn 12 (.u .mv (.c (.string ⟨#[]⟩)))]) (.sq (.sq (.rg [Yg 23 0 10,Yl 24 23,Yt 25 (.b (.ar .eql) (.t 24) (.c (.string ⟨#[45,62]⟩))),Yb 26 25,Yp 27 26 (.u .mv (.n 4)),Yp 28 26 (.b (.ar .neq) (.t 27) (.c (.int .i64 0))),YA 29 26 28,Yb 30 29,Yq 31 30 (.u .mv (.n 4)),Yq 32 30 (.b (.ar .eql) (.t 31) (.c (.int .i64 2))),Yq 33 30 (.u .mv (.t 32)),Yp 34 33 (.u (.fa 1) (.n 10)),Yp 35 33 (.u .ld (.t 34)),Yp 36 33 (.u .lenL (.t 35)),Yp 37 33 (.b (.ar .gtr) (.t 36) (.c (.int .i64 0))),Yq 38 30 (.pk (.t 33) (.t 37) (.c (.bool false))),Yq 39 30 (.u .mv (.t 38)),Yp 40 39 (.u (.fa 0) (.n 10)),Yp 41 39 (.u .ld (.t 40)),Yp 42 39 (.b .ixs (.t 41) (.c (.int .i64 0))),Yp 43 39 (.b (.ar .geq) (.t 42) (.c (.int .u8 65))),Yq 44 30 (.pk (.t 39) (.t 43) (.c (.bool false))),Yq 45 30 (.u .mv (.t 44)),Yp 46 45 (.u (.fa 0) (.n 10)),Yp 47 45 (.u .ld (.t 46)),Yp 48 45 (.b .ixs (.t 47) (.c (.int .i64 0))),Yp 49 45 (.b (.ar .leq) (.t 48) (.c (.int .u8 90))),Yq 50 30 (.pk (.t 45) (.t 49) (.c (.bool false))),YO 51 30 50]) (.ite (.t 51) (.rg [Yn 11 (.u .mv (.c (.string ⟨#[40]⟩))),Yn 12 (.u .mv (.c (.string ⟨#[41]⟩)))]) .skip)) (.sq (.rg [Ya 52 1,Ya 53 11,YC 54 44 52 53]) (.sq (.blk 0 (.sq (.rg [Yg 75 0 10,Yl 76 75,Yt 77 (.b (.ar .eql) (.t 76) (.c (.string ⟨#[]⟩))),Yb 74 77]) (.ite (.t 74) (.rg [Ya 78 1,Ya 79 3,Ya 80 2,YC 81 46 79 80,Yt 82 (.call (.f 45) [.t 81]),YC 83 44 78 82]) (.sq (.rg [Yg 85 0 10,Yl 86 85,Yt 87 (.b (.ar .eql) (.t 86) (.c (.string ⟨#[40,41]⟩))),Yb 84 87]) (.ite (.t 84) (.rg [Ya 88 1,Yt 89 (.call (.f 44) [.t 88,(.c (.string ⟨#[40,41]⟩))])]) (.sq (.rg [Yg 91 0 10,Yl 92 91,Yt 93 (.b (.ar .eql) (.t 92) (.c (.string ⟨#[91,93]⟩))),Yb 90 93]) (.ite (.t 90) (.sq (.rg [Ya 94 1,Yt 95 (.call (.f 47) [.t 94,(.c (.int .u8 91))])]) (.sq (.rg [Ya 96 0,Ya 97 1,Yg 98 1 10,Yl 99 98,Yt 100 (.b (.ia 1) (.t 99) (.c (.int .i64 0))),Yl 101 100,Ya 102 3,Yt 103 (.call (.f 26) [.t 96,.t 97,.t 101,.t 102,(.c (.int .i64 0))])]) (.rg [Ya 104 1,Yt 105 (.call (.f 47) [.t 104,(.c (.int .u8 93))])]))) (.sq (.rg [Yg 107 0 10,Yl 108 107,Yt 109 (.b (.ar .eql) (.t 108) (.c (.string ⟨#[45,62]⟩))),Yb 106 109]) (.ite (.t 106) (.sq (.rg [Ya 110 0,Ya 111 1,Yg 112 1 10,Yl 113 112,Yt 114 (.b (.ia 1) (.t 113) (.c (.int .i64 0))),Yl 115 114,Ya 116 3,Yt 117 (.call (.f 26) [.t 110,.t 111,.t 115,.t 116,(.c (.int .i64 1))])]) (.sq (.rg [Ya 118 1,Yt 119 (.call (.f 44) [.t 118,(.c (.string ⟨#[32,45,62,32]⟩))])]) (.rg [Ya 120 0,Ya 121 1,Yg 122 1 10,Yl 123 122,Yt 124 (.b (.ia 1) (.t 123) (.c (.int .i64 1))),Yl 125 124,Ya 126 3,Yt 127 (.call (.f 26) [.t 120,.t 121,.t 125,.t 126,(.c (.int .i64 0))])]))) (.sq (.rg [Yg 129 0 10,Yl 130 129,Yt 131 (.b .ixs (.t 130) (.c (.int .i64 0))),Yt 132 (.b (.ar .eql) (.t 131) (.c (.int .u8 40))),Yb 128 132]) (.ite (.t 128) (.sq (.sq (.rg [Yg 133 1 10,Yn 134 (.u .ld (.t 133)),Yn 135 (.u .lenL (.n 134)),Yi 136 0]) (.blk 3 (.loop (.sq (.rg [Yt 137 (.b (.ar .lss) (.n 136) (.n 135))]) (.sq (.ite (.t 137) .skip (.exit 3)) (.sq (.blk 4 (.sq (.rg [Ya 138 136,Yt 139 (.b (.ia 1) (.n 134) (.n 136)),Yl 140 139,Ym 13 138,Ym 14 140]) (.sq (.rg [Ya 141 1,Yt 142 (.bsl 9 2 [(.string ⟨#[]⟩),(.string ⟨#[]⟩)] [(0,1,(.c (.string ⟨#[40]⟩))),(1,1,(.c (.string ⟨#[44,32]⟩)))]),Ya 143 13,Yt 144 (.raw ⟨some 144,(.call ⟨.builtin .min,#[(.tmp 143),(.const (.int .i64 1))],#[3,3]⟩),3,"text.go:60",#[⟨2,.data⟩],none⟩),Yt 145 (.b (.ia 1) (.t 142) (.t 144)),Yl 146 145,YC 147 44 141 146]) (.rg [Ya 148 0,Ya 149 1,Ya 150 14,Ya 151 3,Yt 152 (.call (.f 26) [.t 148,.t 149,.t 150,.t 151,(.c (.int .i64 0))])])))) (.rg [Yt 153 (.b (.ar .add) (.n 136) (.c (.int .i64 1))),Ym 136 153]))))))) (.rg [Ya 154 1,Yt 155 (.call (.f 47) [.t 154,(.c (.int .u8 41))])])) (.sq (.rg [Ya 55 1,Yg 56 0 10,Yl 57 56,YC 58 44 55 57]) (.sq (.rg [Yg 59 1 10,Yn 60 (.u .ld (.t 59)),Yn 61 (.u .lenL (.n 60)),Yi 62 0]) (.blk 1 (.loop (.sq (.rg [Yt 63 (.b (.ar .lss) (.n 62) (.n 61))]) (.sq (.ite (.t 63) .skip (.exit 1)) (.sq (.blk 2 (.sq (.rg [Yt 64 (.b (.ia 1) (.n 60) (.n 62)),Yl 65 64,Ym 16 65]) (.sq (.rg [Ya 66 1,Yt 67 (.call (.f 47) [.t 66,(.c (.int .u8 32))])]) (.rg [Ya 68 0,Ya 69 1,Ya 70 16,Ya 71 3,Yt 72 (.call (.f 26) [.t 68,.t 69,.t 70,.t 71,(.c (.int .i64 2))])])))) (.rg [Yt 73 (.b (.ar .add) (.n 62) (.c (.int .i64 1))),Ym 62 73]))))))))))))))))))) (.rg [Ya 156 1,Ya 157 12,YC 158 44 156 157]))))))
theorem k26:look1 Tryd.prog 26 [0,1,2,3,4,10,11,12,13,14,16,60,61,62,134,135,136] dq=some (r26,[]):=by kernel_rfl
def r27:RC:=(.sq (.rg [Yn 6 (.u .mv (.c (.slice none 0 0)))]) (.sq (.rg [Ya 11 0,Ya 12 1,YC 13 40 11 12,Yb 10 13,YX 14 0 10,YX 15 1 10,Yn 7 (.al 46 [(.string ⟨#[]⟩),(.slice none 0 0)]),Ym 1 14,YS 2 7 15]) (.sq (.sq (.rg [Yg 16 0 7,Yl 17 16,Yt 18 (.b (.ar .eql) (.t 17) (.c (.string ⟨#[]⟩))),Yb 19 18,Yp 20 19 (.u .mv (.n 2)),Yp 21 19 (.u .mv (.n 1)),Yp 22 19 (.call (.f 48) [.t 20,.t 21]),Yp 23 19 (.u .nt (.t 22)),YA 24 19 23]) (.ite (.t 24) (.rg [Ya 25 2,Ya 26 1,Yt 27 (.bsl 3 1 [(.int .i64 0)] [(0,1,(.t 26))]),Yt 28 (.app false 3 1 8 [(.int .i64 0)] (.t 25) (.t 27)),Ym 2 28]) .skip)) (.sq (.sq (.rg [Yg 29 1 7,Yn 30 (.u .ld (.t 29)),Yn 31 (.u .lenL (.n 30)),Yi 32 0]) (.blk 0 (.loop (.sq (.rg [Yt 33 (.b (.ar .lss) (.n 32) (.n 31))]) (.sq (.ite (.t 33) .skip (.exit 0)) (.sq (.blk 1 (.sq (.rg [Yt 34 (.b (.ia 1) (.n 30) (.n 32)),Yl 35 34,Ym 9 35]) (.rg [Ya 36 0,Ya 37 9,Ya 38 2,Yt 39 (.call (.f 27) [.t 36,.t 37,.t 38]),Ym 2 39]))) (.rg [Yt 40 (.b (.ar .add) (.n 32) (.c (.int .i64 1))),Ym 32 40]))))))) (.sq (.rg [Ya 41 2,Ym 6 41]) .ret)))))
theorem k27:look1 Tryd.prog 27 [0,1,2,6,7,9,30,31,32] dq=some (r27,[.v (.n 6)]):=by kernel_rfl
def r28:RC:=(.sq (.rg [Yn 2 (.u .mv (.c (.string ⟨#[]⟩)))]) (.sq (.dr [.n 0] false [Yd (Ya 3 0) 0,Yd (Yk 4 3) 1,Yd (Yf 5 1 4) 2,Yd (Yl 6 5) 3,Yd (Yt 7 (.u .sd (.t 6))) 4,Yd (Ya 8 0) 5,Yd (Yk 9 8) 6,Yd (Yf 10 1 9) 7,Yd (Yl 11 10) 8,Yd (Yt 12 (.u .lenL (.t 11))) 9,⟨(Yt 13 (.ust 5 (.t 7) (.t 12))),10,true,[],[]⟩,Yd (Ym 2 13) 11]) .ret))
theorem k28:look1 Tryd.prog 28 [0,2] dq=some (r28,[.v (.n 2)]):=by kernel_rfl
def r29:RC:=(.blk 0 (.sq (.rg [Yt 7 (.b (.ei false 6) (.n 5) (.c .nilIface))]) (.ite (.t 7) (.rg [Ya 2 5]) (.sq (.rg [Yt 8 (.u (.asn 63 true (.agg #[])) (.n 5)),Yn 9 (.u (.ex 1) (.t 8)),Yn 10 (.u (.ex 0) (.t 8))]) (.ite (.n 9) (.sq (.rg [Yt 3 (.al 63 []),Yz (.st 0 (.t 3) (.n 10))]) (.rg [Yz (.st 1 (.n 0) (.c (.int .i64 0))),Yz (.st 1 (.n 1) (.c (.int .i64 8)))])) (.sq (.rg [Yn 4 (.u .mv (.n 5))]) (.rg [Ya 6 4,Yz (.pan (.t 6))])))))))
theorem k29:lookd Tryd.prog 29 [0,1,4,5,9,10] dq=some ((.n 5),r29,[]):=by kernel_rfl
def r30:RC:=(.sq (.rg [Yi 2 0]) (.sq (.rg [Ya 4 0,Yt 5 (.call (.f 49) [.t 4]),Ym 3 5]) (.sq (.sq (.rg [Ya 6 0,Yt 7 (.call (.f 50) [.t 6,(.c (.string ⟨#[32,45,62,32]⟩))]),Yt 8 (.u .nt (.t 7))]) (.ite (.t 8) (.sq (.rg [Ya 9 3,Ym 2 9]) .ret) .skip)) (.sq (.rg [Ya 10 0,Ya 11 3,Ya 12 0,Yt 13 (.call (.f 30) [.t 12]),Yt 14 (.bsl 3 2 [(.int .i64 0),(.int .i64 0)] [(0,1,(.t 11)),(1,1,(.t 13))]),Yt 15 (.call (.f 51) [.t 10,(.c (.string ⟨#[45,62]⟩)),.t 14]),Ym 2 15]) .ret))))
theorem k30:look1 Tryd.prog 30 [0,2,3] dq=some (r30,[.v (.n 2)]):=by kernel_rfl
def r31:RC:=(.sq (.rg [Yn 8 (.u .mv (.c (.bool false)))]) (.sq (.rg [Ya 17 0,Ya 18 1,YC 19 40 17 18,Yb 16 19,YX 20 0 16,YX 21 1 16,Yn 10 (.al 46 [(.string ⟨#[]⟩),(.slice none 0 0)]),Ym 9 20,YS 2 10 21]) (.sq (.rg [Ya 23 0,Ya 24 2,YC 25 40 23 24,Yb 22 25,YX 26 0 22,YX 27 1 22,Yn 12 (.al 46 [(.string ⟨#[]⟩),(.slice none 0 0)]),Ym 11 26,YS 2 12 27]) (.sq (.sq (.rg [Ya 29 3,Ya 30 9,Ya 31 11,Yt 32 (.bld [(.int .i64 0),(.int .i64 0)] [(0,1,(.t 30)),(1,1,(.t 31))]),Yt 33 (.b (.lk 99 (.agg #[]) true) (.t 29) (.t 32)),Yb 28 33,YX 34 0 28,YX 35 1 28,Yt 13 (.al 62 []),Yz (.st 0 (.t 13) (.t 34)),Ym 14 35]) (.sq (.rg [Ya 36 14,Yb 37 36,Yq 38 37 (.u .mv (.n 9)),Yq 39 37 (.u .mv (.n 11)),Yq 40 37 (.b (.ar .eql) (.t 38) (.t 39)),YO 41 37 40]) (.ite (.t 41) (.sq (.rg [Yn 8 (.u .mv (.c (.bool true)))]) .ret) .skip))) (.sq (.sq (.rg [Yg 42 0 10,Yl 43 42,Yt 44 (.b (.ar .eql) (.t 43) (.c (.string ⟨#[]⟩))),Yb 45 44,Yq 46 45 (.u (.fa 0) (.n 10)),Yq 47 45 (.u .ld (.t 46)),Yq 48 45 (.u (.fa 0) (.n 12)),Yq 49 45 (.u .ld (.t 48)),Yq 50 45 (.b (.ar .neq) (.t 47) (.t 49)),YO 51 45 50,Yb 52 51,Yq 53 52 (.u (.fa 1) (.n 10)),Yq 54 52 (.u .ld (.t 53)),Yq 55 52 (.u .lenL (.t 54)),Yq 56 52 (.u (.fa 1) (.n 12)),Yq 57 52 (.u .ld (.t 56)),Yq 58 52 (.u .lenL (.t 57)),Yq 59 52 (.b (.ar .neq) (.t 55) (.t 58)),YO 60 52 59]) (.ite (.t 60) (.sq (.rg [Yn 8 (.u .mv (.c (.bool false)))]) .ret) .skip)) (.sq (.sq (.rg [Yg 61 1 10,Yl 62 61,Yn 63 (.u .lenL (.t 62)),Yi 64 0]) (.blk 0 (.loop (.sq (.rg [Yt 65 (.b (.ar .lss) (.n 64) (.n 63))]) (.sq (.ite (.t 65) .skip (.exit 0)) (.sq (.blk 1 (.sq (.rg [Ya 66 64,Ym 15 66]) (.sq (.dr [.n 0,.n 10,.n 15,.n 12,.n 3] false [Yd (Ya 67 0) 0,Yd (Yg 68 1 10) 1,Yd (Yl 69 68) 2,Yd (Ya 70 15) 3,Yd (Yt 71 (.b (.ia 1) (.t 69) (.t 70))) 4,Yd (Yl 72 71) 5,Yd (Yg 73 1 12) 6,Yd (Yl 74 73) 7,Yd (Ya 75 15) 8,Yd (Yt 76 (.b (.ia 1) (.t 74) (.t 75))) 9,Yd (Yl 77 76) 10,Yd (Ya 78 3) 11,⟨(Yt 79 (.call (.f 31) [.t 67,.t 72,.t 77,.t 78])),12,true,[],[]⟩,Yd (Yt 80 (.u .nt (.t 79))) 13]) (.ite (.t 80) (.sq (.rg [Yn 8 (.u .mv (.c (.bool false)))]) .ret) .skip)))) (.rg [Yt 81 (.b (.ar .add) (.n 64) (.c (.int .i64 1))),Ym 64 81]))))))) (.sq (.rg [Ya 82 3,Ya 83 9,Ya 84 11,Yt 85 (.bld [(.int .i64 0),(.int .i64 0)] [(0,1,(.t 83)),(1,1,(.t 84))]),Yt 86 (.bld [] []),Yz (.mup 70 (.t 82) (.t 85) (.t 86))]) (.sq (.rg [Yn 8 (.u .mv (.c (.bool true)))]) .ret))))))))
theorem k31:look1 Tryd.prog 31 [0,1,2,3,8,9,10,11,12,14,15,63,64] dq=some (r31,[.v (.n 8)]):=by kernel_rfl
def r32:RC:=(.sq (.rg [Ya 14 0,Ya 15 1,YC 16 40 14 15,Yb 13 16,YX 17 0 13,YX 18 1 13,Yn 8 (.al 46 [(.string ⟨#[]⟩),(.slice none 0 0)]),Ym 1 17,YS 2 8 18]) (.sq (.sq (.rg [Ya 20 3,Ya 21 1,Yt 22 (.b (.lk 3 (.agg #[]) true) (.t 20) (.t 21)),Yb 19 22,YX 23 0 19,YX 24 1 19,Yt 9 (.al 62 []),Yz (.st 0 (.t 9) (.t 23)),Ym 10 24]) (.sq (.rg [Ya 25 10]) (.ite (.t 25) .ret .skip))) (.sq (.rg [Ya 26 3,Ya 27 1,Yt 28 (.bld [] []),Yz (.mup 71 (.t 26) (.t 27) (.t 28))]) (.sq (.sq (.rg [Yg 29 0 8,Yl 30 29,Yt 31 (.b (.ar .eql) (.t 30) (.c (.string ⟨#[]⟩)))]) (.ite (.t 31) (.rg [Ya 32 2,Ya 33 1,Ya 34 1,Yz (.mup 52 (.t 32) (.t 33) (.t 34))]) .skip)) (.sq (.rg [Yg 35 1 8,Yn 36 (.u .ld (.t 35)),Yn 37 (.u .lenL (.n 36)),Yi 38 0]) (.blk 0 (.loop (.sq (.rg [Yt 39 (.b (.ar .lss) (.n 38) (.n 37))]) (.sq (.ite (.t 39) .skip (.exit 0)) (.sq (.blk 1 (.sq (.rg [Yt 40 (.b (.ia 1) (.n 36) (.n 38)),Yl 41 40,Ym 12 41]) (.rg [Ya 42 0,Ya 43 12,Ya 44 2,Ya 45 3,Yt 46 (.call (.f 32) [.t 42,.t 43,.t 44,.t 45])]))) (.rg [Yt 47 (.b (.ar .add) (.n 38) (.c (.int .i64 1))),Ym 38 47])))))))))))
theorem k32:look1 Tryd.prog 32 [0,1,2,3,8,10,12,36,37,38] dq=some (r32,[]):=by kernel_rfl
def r33:RC:=(.sq (.rg [Yi 6 0]) (.sq (.rg [Ya 14 0,Ya 15 1,YC 16 40 14 15,Yb 13 16,YX 17 0 13,YX 18 1 13,Yn 7 (.al 46 [(.string ⟨#[]⟩),(.slice none 0 0)]),Ym 1 17,YS 2 7 18]) (.sq (.sq (.rg [Yg 19 0 7,Yl 20 19,Yt 21 (.b (.ar .eql) (.t 20) (.c (.string ⟨#[]⟩)))]) (.ite (.t 21) (.sq (.rg [Ya 23 2,Ya 24 1,Yt 25 (.b (.lk 3 (.int .i64 0) true) (.t 23) (.t 24)),Yb 22 25,YX 26 0 22,YX 27 1 22,Ym 8 26,Ym 9 27]) (.sq (.sq (.rg [Ya 28 9,Yt 29 (.u .nt (.t 28))]) (.ite (.t 29) (.sq (.rg [Ya 30 0,Yt 31 (.call (.f 24) [.t 30,(.c (.string ⟨#[]⟩)),(.c (.slice none 0 0))]),Ym 8 31]) (.rg [Ya 32 2,Ya 33 1,Ya 34 8,Yz (.mup 52 (.t 32) (.t 33) (.t 34))])) .skip)) (.sq (.rg [Ya 35 8,Ym 6 35]) .ret))) .skip)) (.sq (.rg [Yg 36 1 7,Yl 37 36,Yt 38 (.u .lenL (.t 37)),Yt 39 (.msl 3 [(.int .i64 0)] 8 (.t 38) (.t 38)),Ym 10 39]) (.sq (.sq (.rg [Yg 40 1 7,Yn 41 (.u .ld (.t 40)),Yn 42 (.u .lenL (.n 41)),Yi 43 0]) (.blk 0 (.loop (.sq (.rg [Yt 44 (.b (.ar .lss) (.n 43) (.n 42))]) (.sq (.ite (.t 44) .skip (.exit 0)) (.sq (.blk 1 (.sq (.rg [Ya 45 43,Yt 46 (.b (.ia 1) (.n 41) (.n 43)),Yl 47 46,Ym 11 45,Ym 12 47]) (.rg [Ya 48 10,Ya 49 11,Ya 50 0,Ya 51 12,Ya 52 2,Yt 53 (.call (.f 33) [.t 50,.t 51,.t 52]),Yt 54 (.b (.ia 1) (.t 48) (.t 49)),Yz (.st 1 (.t 54) (.t 53))]))) (.rg [Yt 55 (.b (.ar .add) (.n 43) (.c (.int .i64 1))),Ym 43 55]))))))) (.sq (.rg [Ya 56 0,Yg 57 0 7,Yl 58 57,Ya 59 10,Yt 60 (.call (.f 24) [.t 56,.t 58,.t 59]),Ym 6 60]) .ret))))))
theorem k33:look1 Tryd.prog 33 [0,1,2,6,7,8,9,10,11,12,41,42,43] dq=some (r33,[.v (.n 6)]):=by kernel_rfl
def r34:RC:=(.sq (.rg [Yn 4 (.u .mv (.c (.bool false)))]) (.sq (.blk 0 (.sq (.rg [Ya 6 0,Yt 7 (.call (.f 52) [.t 6]),Yt 8 (.b (.ar .eql) (.t 7) (.c (.int .i64 2))),Yb 5 8]) (.ite (.t 5) (.sq (.rg [Ya 9 1,Yt 10 (.b (.ar .leq) (.t 9) (.c (.int .i64 8))),Ym 4 10]) .ret) (.sq (.rg [Ya 12 1,Yt 13 (.b (.ar .geq) (.t 12) (.c (.int .i64 2))),Yb 14 13,Yp 15 14 (.u .mv (.n 1)),Yp 16 14 (.b (.ar .leq) (.t 15) (.c (.int .i64 8))),YA 17 14 16,Yb 18 17,Yp 19 18 (.u .mv (.n 0)),Yp 20 18 (.u .mv (.n 1)),Yp 21 18 (.call (.f 53) [.t 20]),Yp 22 18 (.b (.ar .eql) (.t 19) (.t 21)),YA 23 18 22,Yb 11 23]) (.ite (.t 11) (.sq (.rg [Yn 4 (.u .mv (.c (.bool true)))]) .ret) .skip))))) (.sq (.rg [Ya 24 0,Yt 25 (.b (.ar .eql) (.t 24) (.c (.string ⟨#[40,41]⟩))),Yb 26 25,Yp 27 26 (.u .mv (.n 1)),Yp 28 26 (.b (.ar .eql) (.t 27) (.c (.int .i64 0))),YA 29 26 28,Yb 30 29,Yq 31 30 (.u .mv (.n 0)),Yq 32 30 (.b (.ar .eql) (.t 31) (.c (.string ⟨#[91,93]⟩))),Yq 33 30 (.u .mv (.t 32)),Yp 34 33 (.u .mv (.n 1)),Yp 35 33 (.b (.ar .eql) (.t 34) (.c (.int .i64 1))),Yq 36 30 (.pk (.t 33) (.t 35) (.c (.bool false))),YO 37 30 36,Yb 38 37,Yq 39 38 (.u .mv (.n 0)),Yq 40 38 (.b (.ar .eql) (.t 39) (.c (.string ⟨#[45,62]⟩))),Yq 41 38 (.u .mv (.t 40)),Yp 42 41 (.u .mv (.n 1)),Yp 43 41 (.b (.ar .eql) (.t 42) (.c (.int .i64 2))),Yq 44 38 (.pk (.t 41) (.t 43) (.c (.bool false))),YO 45 38 44,Ym 4 45]) .ret)))
theorem k34:look1 Tryd.prog 34 [0,1,4] dq=some (r34,[.v (.n 4)]):=by kernel_rfl
def r35:RC:=(.sq (.rg [Yn 2 (.u .mv (.c (.slice none 0 0)))]) (.sq (.sq (.rg [Ya 3 0,Yt 4 (.b (.er false 1) (.t 3) (.c (.slice none 0 0)))]) (.ite (.t 4) (.sq (.rg [Yn 2 (.u .mv (.c (.slice none 0 0)))]) .ret) .skip)) (.sq (.rg [Yt 5 (.bsl 3 0 [] []),Ya 6 0,Yt 7 (.app false 3 1 8 [(.int .i64 0)] (.t 5) (.t 6)),Ym 2 7]) .ret)))
theorem k35:look1 Tryd.prog 35 [0,2] dq=some (r35,[.v (.n 2)]):=by kernel_rfl
def r36:RC:=(.sq (.rg [Yi 6 0]) (.sq (.sq (.rg [Ya 12 2,Yt 13 (.b (.ar .leq) (.t 12) (.c (.int .i64 0)))]) (.ite (.t 13) (.sq (.rg [Yi 6 0]) .ret) .skip)) (.sq (.rg [Ya 15 0,Ya 16 1,YC 17 40 15 16,Yb 14 17,YX 18 0 14,YX 19 1 14,Yn 8 (.al 46 [(.string ⟨#[]⟩),(.slice none 0 0)]),Yb 7 18,YS 2 8 19]) (.sq (.rg [Yi 9 1]) (.sq (.sq (.rg [Yg 20 1 8,Yn 21 (.u .ld (.t 20)),Yn 22 (.u .lenL (.n 21)),Yi 23 0]) (.blk 0 (.loop (.sq (.rg [Yt 24 (.b (.ar .lss) (.n 23) (.n 22))]) (.sq (.ite (.t 24) .skip (.exit 0)) (.sq (.blk 1 (.sq (.rg [Yt 25 (.b (.ia 1) (.n 21) (.n 23)),Yl 26 25,Ym 11 26]) (.rg [Ya 27 9,Ya 28 0,Ya 29 11,Ya 30 2,Ya 31 9,Yt 32 (.b (.ar .sub) (.t 30) (.t 31)),Yt 33 (.call (.f 36) [.t 28,.t 29,.t 32]),Yt 34 (.b (.ar .add) (.t 27) (.t 33)),Ym 9 34]))) (.rg [Yt 35 (.b (.ar .add) (.n 23) (.c (.int .i64 1))),Ym 23 35]))))))) (.sq (.rg [Ya 36 9,Ym 6 36]) .ret))))))
theorem k36:look1 Tryd.prog 36 [0,1,2,6,8,9,11,21,22,23] dq=some (r36,[.v (.n 6)]):=by kernel_rfl
def r37:RC:=(.sq (.rg [Yn 4 (.u .mv (.c (.bool false)))]) (.sq (.rg [Ya 5 0,Ya 6 1,YC 7 54 5 6,Yt 8 (.b (.ar .geq) (.t 7) (.c (.int .i64 0))),Ym 4 8]) .ret))
theorem k37:look1 Tryd.prog 37 [0,1,4] dq=some (r37,[.v (.n 4)]):=by kernel_rfl
def r38:RC:=(.sq (.rg [Yn 3 (.u .mv (.c (.bool false)))]) (.sq (.rg [Ya 4 0,Yt 5 (.b (.ar .lss) (.t 4) (.c (.int .i64 0))),Yb 6 5,Yq 7 6 (.u .mv (.n 0)),Yq 8 6 (.u .ld (.n 1)),Yq 9 6 (.u .nk (.t 8)),Yq 10 6 (.u (.fa 0) (.t 9)),Yq 11 6 (.u .ld (.t 10)),Yq 12 6 (.call (.f 39) [.t 11]),Yq 13 6 (.b (.ar .geq) (.t 7) (.t 12)),YO 14 6 13,Ym 3 14]) .ret))
theorem k38:look1 Tryd.prog 38 [0,1,3] dq=some (r38,[.v (.n 3)]):=by kernel_rfl
def r39:RC:=(.sq (.rg [Yi 2 0]) (.sq (.sq (.rg [Ya 3 0,Yt 4 (.b (.er false 0) (.t 3) (.c (.pointer none)))]) (.ite (.t 4) (.sq (.rg [Yi 2 0]) .ret) .skip)) (.sq (.rg [Ya 5 0,Yk 6 5,Yf 7 0 6,Yl 8 7,Yt 9 (.u .lenL (.t 8)),Ym 2 9]) .ret)))
theorem k39:look1 Tryd.prog 39 [0,2] dq=some (r39,[.v (.n 2)]):=by kernel_rfl
def r40:RC:=(.sq (.rg [Yi 4 0,Yn 5 (.al 46 [(.string ⟨#[]⟩),(.slice none 0 0)])]) (.sq (.rg [Ya 9 0,Yk 10 9,Yf 11 0 10,Yl 12 11,Ya 13 1,YC 14 55 12 13,Yb 8 14,YX 15 0 8,YX 16 1 8,Ym 1 15]) (.sq (.rg [Ya 18 0,Yk 19 18,Yf 20 0 19,Yl 21 20,Ya 22 1,YC 23 56 21 22,Yb 17 23,YX 24 0 17,YX 25 1 17,Yn 6 (.al 46 [(.string ⟨#[]⟩),(.slice none 0 0)]),YS 2 6 24,Yb 7 25]) (.sq (.dr [.n 1,.n 6,.n 5] false [Yd (Ya 26 1) 0,Yd (YL 27 2 6) 1,Yd (Ym 4 26) 2,⟨(YS 2 5 27),3,true,[],[]⟩]) .ret))))
theorem k40:look1 Tryd.prog 40 [0,1,4,5,6] dq=some (r40,[.v (.n 4),.c (.n 5) (.ldn 2)]):=by kernel_rfl
def r43:RC:=(.sq (.rg [Yn 3 (.u (.bx 46) (.n 1)),Yi 4 0,Yi 5 0]) (.sq (.sq (.rg [Ya 7 0,Yt 8 (.b (.er false 0) (.t 7) (.c (.pointer none)))]) (.ite (.t 8) (.sq (.rg [Yi 4 0,Yi 5 1]) .ret) .skip)) (.sq (.rg [Ya 9 0,Yk 10 9,Yf 11 0 10,Yl 12 11,Yt 13 (.u .lenL (.t 12)),Ym 6 13]) (.sq (.dr [.n 0,.n 6,.n 3] false [Yd (Ya 14 0) 0,Yd (Ya 15 0) 1,Yd (Yk 16 15) 2,Yd (Yf 17 0 16) 3,Yd (Yl 18 17) 4,Yd (Ya 19 6) 5,Yd (Ya 20 6) 6,Yd (YL 21 2 3) 7,Yd (Yt 22 (.bld [(.int .i64 0),(.int .i64 0),(.string ⟨#[]⟩),(.slice none 0 0)] [(0,1,(.t 19)),(1,1,(.t 20)),(2,2,(.t 21))])) 8,⟨(Yt 23 (.bsl 106 1 [(.int .i64 0),(.int .i64 0),(.string ⟨#[]⟩),(.slice none 0 0)] [(0,4,(.t 22))])),9,true,[4],[]⟩,⟨(Yt 24 (.app false 106 4 56 [(.int .i64 0),(.int .i64 0),(.string ⟨#[]⟩),(.slice none 0 0)] (.t 18) (.t 23))),10,true,[],[]⟩,Yd (Yk 25 14) 11,Yd (Yf 26 0 25) 12,⟨(Yz (.st 1 (.t 26) (.t 24))),13,true,[],[]⟩]) (.sq (.rg [Ya 27 0,Yk 28 27,Yf 29 1 28,Yl 30 29,Yt 31 (.b (.ar .add) (.t 30) (.c (.int .i64 1))),Yk 32 27,Yf 33 1 32,Yz (.st 1 (.t 33) (.t 31))]) (.sq (.rg [Ya 34 6,Ym 4 34,Yi 5 0]) .ret))))))
theorem k43:look1 Tryd.prog 43 [0,1,3,4,5,6] dq=some (r43,[.v (.n 4),.v (.n 5)]):=by kernel_rfl
def r44:RC:=(.sq (.rg [Yi 4 0,Yn 5 (.u .mv (.c .nilIface))]) (.sq (.rg [Ya 6 0,Yt 7 (.call (.f 58) [.t 6])]) (.sq (.rg [Ya 8 0,Ya 9 0,Yk 10 9,Yf 11 1 10,Yl 12 11,Ya 13 1,Yt 14 (.app true 5 1 1 [(.int .u8 0)] (.t 12) (.t 13)),Yk 15 8,Yf 16 1 15,Yz (.st 1 (.t 16) (.t 14))]) (.sq (.rg [Ya 17 1,Yt 18 (.u .lenS (.t 17)),Ym 4 18,Yn 5 (.u .mv (.c .nilIface))]) .ret))))
theorem k44:look1 Tryd.prog 44 [0,1,4,5] dq=some (r44,[.v (.n 4),.v (.n 5)]):=by kernel_rfl
def r45 : RC := (.sq (.rg [Yn 2 (.u .mv (.c (.string ⟨#[]⟩)))]) (.sq (.rg [Ya 4 0,Yt 5 (.b (.ar .rem) (.t 4) (.c (.int .i64 26))),Yt 6 (.b (.ar .add) (.c (.int .i64 97)) (.t 5)),Yt 7 (.u (.cv .i32) (.t 6)),Yt 8 (.raw ⟨some 8,(.convert 21 9 (.tmp 7)),9,"text.go:13",#[⟨3,.data⟩],none⟩),Ym 3 8]) (.sq (.sq (.rg [Ya 9 0,Yt 10 (.b (.ar .lss) (.t 9) (.c (.int .i64 26)))]) (.ite (.t 10) (.sq (.rg [Ya 11 3,Ym 2 11]) .ret) .skip)) (.sq (.rg [Ya 12 3,Ya 13 0,Yt 14 (.b (.ar .quo) (.t 13) (.c (.int .i64 26))),Yt 15 (.call (.f 59) [.t 14]),Yt 16 (.b (.ar .add) (.t 12) (.t 15)),Ym 2 16]) .ret))))
theorem k45:look1 Tryd.prog 45 [0,2,3] dq=some (r45,[.v (.n 2)]):=by kernel_rfl
def r46:RC:=(.sq (.rg [Yi 4 0]) (.sq (.sq (.rg [Ya 6 0,Yn 7 (.u .lenL (.t 6)),Yi 8 0]) (.blk 0 (.loop (.sq (.rg [Yt 9 (.b (.ar .lss) (.n 8) (.n 7))]) (.sq (.ite (.t 9) .skip (.exit 0)) (.sq (.blk 1 (.sq (.rg [Ya 10 8,Ym 5 10]) (.sq (.rg [Ya 11 1,Ya 12 0,Ya 13 5,Yt 14 (.b (.ia 1) (.t 12) (.t 13)),Yl 15 14,Yt 16 (.b (.ar .eql) (.t 11) (.t 15))]) (.ite (.t 16) (.sq (.rg [Ya 17 5,Ym 4 17]) .ret) .skip)))) (.rg [Yt 18 (.b (.ar .add) (.n 8) (.c (.int .i64 1))),Ym 8 18]))))))) (.sq (.rg [Yn 4 (.u .mv (.c (.int .i64 (-1))))]) .ret)))
theorem k46:look1 Tryd.prog 46 [0,1,4,5,7,8] dq=some (r46,[.v (.n 4)]):=by kernel_rfl
def r47:RC:=(.sq (.rg [Yn 4 (.u .mv (.c .nilIface))]) (.sq (.rg [Ya 5 0,Yt 6 (.call (.f 58) [.t 5])]) (.sq (.rg [Ya 7 0,Ya 8 0,Yk 9 8,Yf 10 1 9,Yl 11 10,Ya 12 1,Yt 13 (.bsl 5 1 [(.int .u8 0)] [(0,1,(.t 12))]),Yt 14 (.app false 5 1 1 [(.int .u8 0)] (.t 11) (.t 13)),Yk 15 7,Yf 16 1 15,Yz (.st 1 (.t 16) (.t 14))]) (.sq (.rg [Yn 4 (.u .mv (.c .nilIface))]) .ret))))
theorem k47:look1 Tryd.prog 47 [0,1,4] dq=some (r47,[.v (.n 4)]):=by kernel_rfl
def r48:RC:=(.sq (.rg [Yn 4 (.u .mv (.c (.bool false)))]) (.sq (.rg [Ya 5 0,Ya 6 1,YC 7 46 5 6,Yt 8 (.b (.ar .geq) (.t 7) (.c (.int .i64 0))),Ym 4 8]) .ret))
theorem k48:look1 Tryd.prog 48 [0,1,4] dq=some (r48,[.v (.n 4)]):=by kernel_rfl
def r49:RC:=(.sq (.rg [Yi 2 0]) (.sq (.sq (.rg [Ya 5 0,Yt 6 (.call (.f 60) [.t 5]),Yt 7 (.u .nt (.t 6))]) (.ite (.t 7) (.sq (.rg [Ya 8 0,Yt 9 (.call (.f 61) [.t 8]),Ym 2 9]) .ret) .skip)) (.sq (.rg [Ya 10 0,Yt 11 (.call (.f 62) [.t 10]),Ym 3 11]) (.sq (.rg [Yn 4 (.u .mv (.c (.slice none 0 0)))]) (.sq (.blk 0 (.loop (.sq (.sq (.rg [Ya 12 0,Yk 13 12,Yf 14 1 13,Yl 15 14,Yt 16 (.u .lenS (.t 15)),Yt 17 (.b (.ar .gtr) (.t 16) (.c (.int .i64 1))),Yb 18 17,Yp 19 18 (.u .mv (.n 0)),Yp 20 18 (.u .nk (.t 19)),Yp 21 18 (.u (.fa 1) (.t 20)),Yp 22 18 (.u .ld (.t 21)),Yp 23 18 (.b .ixs (.t 22) (.c (.int .i64 0))),Yp 24 18 (.b (.ar .eql) (.t 23) (.c (.int .u8 32))),YA 25 18 24,Yb 26 25,Yp 27 26 (.u .mv (.n 0)),Yp 28 26 (.u .nk (.t 27)),Yp 29 26 (.u (.fa 1) (.t 28)),Yp 30 26 (.u .ld (.t 29)),Yp 31 26 (.b .ixs (.t 30) (.c (.int .i64 1))),Yp 32 26 (.b (.ar .neq) (.t 31) (.c (.int .u8 45))),YA 33 26 32]) (.ite (.t 33) .skip (.exit 0))) (.blk 1 (.sq (.rg [Ya 34 0,Ya 35 0,Yk 36 35,Yf 37 1 36,Yl 38 37,Yt 39 (.sls (.t 38) (some (.c (.int .i64 1))) none),Yk 40 34,Yf 41 1 40,Yz (.st 1 (.t 41) (.t 39))]) (.rg [Ya 42 4,Ya 43 0,Yt 44 (.call (.f 61) [.t 43]),Yt 45 (.bsl 3 1 [(.int .i64 0)] [(0,1,(.t 44))]),Yt 46 (.app false 3 1 8 [(.int .i64 0)] (.t 42) (.t 45)),Ym 4 46])))))) (.sq (.rg [Ya 47 0,Ya 48 3,Ya 49 4,Yt 50 (.call (.f 51) [.t 47,.t 48,.t 49]),Ym 2 50]) .ret))))))
theorem k49:look1 Tryd.prog 49 [0,2,3,4] dq=some (r49,[.v (.n 2)]):=by kernel_rfl
def r50:RC:=(.sq (.rg [Yn 4 (.u .mv (.c (.bool false)))]) (.sq (.rg [Ya 8 0,Yk 9 8,Yf 10 1 9,Yl 11 10,Ya 12 1,YC 13 63 11 12,Yb 7 13,YX 14 0 7,YX 15 1 7,Ym 5 14,Ym 6 15]) (.sq (.rg [Ya 16 0,Ya 17 5,Yk 18 16,Yf 19 1 18,Yz (.st 1 (.t 19) (.t 17))]) (.sq (.rg [Ya 20 6,Ym 4 20]) .ret))))
theorem k50:look1 Tryd.prog 50 [0,1,4,5,6] dq=some (r50,[.v (.n 4)]):=by kernel_rfl
def r51:RC:=(.sq (.rg [Yi 6 0]) (.sq (.rg [Ya 10 0,Yk 11 10,Yf 12 0 11,Yl 13 12,Ya 14 1,Ya 15 2,Yt 16 (.call (.f 17) [.t 13,.t 14,.t 15]),Yb 9 16,YX 17 0 9,YX 18 1 9,Ym 7 17,Ym 8 18]) (.sq (.sq (.rg [Ya 19 8,Yt 20 (.b (.ar .neq) (.t 19) (.c (.int .i64 0)))]) (.ite (.t 20) (.rg [Yt 21 (.bld [] []),Yt 22 (.u (.ifc 63) (.t 21)),Yz (.pan (.t 22))]) .skip)) (.sq (.rg [Ya 23 7,Ym 6 23]) .ret))))
theorem k51:look1 Tryd.prog 51 [0,1,2,6,7,8] dq=some (r51,[.v (.n 6)]):=by kernel_rfl
def r52:RC:=(.sq (.rg [Yi 2 0]) (.sq (.blk 0 (.sq (.rg [Ya 4 0,Yt 5 (.b (.ar .eql) (.t 4) (.c (.string ⟨#[]⟩))),Yb 6 5,Yq 7 6 (.u .mv (.n 0)),Yq 8 6 (.u .lenS (.t 7)),Yq 9 6 (.b (.ar .gtr) (.t 8) (.c (.int .i64 32))),YO 10 6 9,Yb 11 10,Yq 12 11 (.u .mv (.n 0)),Yq 13 11 (.b .ixs (.t 12) (.c (.int .i64 0))),Yq 14 11 (.call (.f 64) [.t 13]),YO 15 11 14,Yb 16 15,Yq 17 16 (.u .mv (.n 0)),Yq 18 16 (.b .ixs (.t 17) (.c (.int .i64 0))),Yq 19 16 (.b (.ar .eql) (.t 18) (.c (.int .u8 39))),YO 20 16 19,Yb 21 20,Yq 22 21 (.u .mv (.n 0)),Yq 23 21 (.call (.f 65) [.t 22,(.f 66)]),Yq 24 21 (.u .mv (.n 0)),Yq 25 21 (.u .lenS (.t 24)),Yq 26 21 (.b (.ar .lss) (.t 23) (.t 25)),YO 27 21 26,Yb 3 27]) (.ite (.t 3) (.sq (.rg [Yi 2 0]) .ret) (.sq (.rg [Ya 29 0,Yt 30 (.b .ixs (.t 29) (.c (.int .i64 0))),Yt 31 (.call (.f 67) [.t 30]),Yb 28 31]) (.ite (.t 28) (.sq (.rg [Yi 2 2]) .ret) (.sq (.rg [Ya 33 0,Yt 34 (.call (.f 68) [.t 33]),Yb 32 34]) (.ite (.t 32) (.sq (.rg [Yi 2 6]) .ret) (.sq (.rg [Ya 36 0,Yt 37 (.b (.ar .eql) (.t 36) (.c (.string ⟨#[95]⟩))),Yb 35 37]) (.ite (.t 35) (.sq (.rg [Yi 2 7]) .ret) .skip))))))))) (.sq (.rg [Yi 2 1]) .ret)))
theorem k52:look1 Tryd.prog 52 [0,2] dq=some (r52,[.v (.n 2)]):=by kernel_rfl
def r53:RC:=(.sq (.rg [Yn 2 (.u .mv (.c (.string ⟨#[]⟩)))]) (.sq (.rg [Ya 3 0,Yt 4 (.b (.ar .sub) (.t 3) (.c (.int .i64 1))),Yt 5 (.call (.f 69) [(.c (.string ⟨#[44]⟩)),.t 4]),Yt 6 (.b (.ar .add) (.c (.string ⟨#[40]⟩)) (.t 5)),Yt 7 (.b (.ar .add) (.t 6) (.c (.string ⟨#[41]⟩))),Ym 2 7]) .ret))
theorem k53:look1 Tryd.prog 53 [0,2] dq=some (r53,[.v (.n 2)]):=by kernel_rfl
def r54:RC:=(.sq (.rg [Yi 4 0]) (.sq (.sq (.rg [Ya 6 0,Yn 7 (.u .lenL (.t 6)),Yi 8 0]) (.blk 0 (.loop (.sq (.rg [Yt 9 (.b (.ar .lss) (.n 8) (.n 7))]) (.sq (.ite (.t 9) .skip (.exit 0)) (.sq (.blk 1 (.sq (.rg [Ya 10 8,Ym 5 10]) (.sq (.rg [Ya 11 1,Ya 12 0,Ya 13 5,Yt 14 (.b (.ia 1) (.t 12) (.t 13)),Yl 15 14,Yt 16 (.call (.t 11) [.t 15])]) (.ite (.t 16) (.sq (.rg [Ya 17 5,Ym 4 17]) .ret) .skip)))) (.rg [Yt 18 (.b (.ar .add) (.n 8) (.c (.int .i64 1))),Ym 8 18]))))))) (.sq (.rg [Yn 4 (.u .mv (.c (.int .i64 (-1))))]) .ret)))
theorem k54:look1 Tryd.prog 54 [0,1,4,5,7,8] dq=some (r54,[.v (.n 4)]):=by kernel_rfl
def r55:RC:=(.sq (.rg [Yi 4 0,Yi 5 0]) (.sq (.rg [Ya 6 0,Ya 7 1,YC 8 57 6 7,YX 9 0 8,YX 10 1 8,Ym 4 9,Ym 5 10]) .ret))
theorem k55:look1 Tryd.prog 55 [0,1,4,5] dq=some (r55,[.v (.n 4),.v (.n 5)]):=by kernel_rfl
def r56:RC:=(.sq (.rg [Yn 4 (.al 46 [(.string ⟨#[]⟩),(.slice none 0 0)]),Yi 5 0]) (.sq (.rg [Ya 8 0,Ya 9 1,YC 10 57 8 9,Yb 7 10,YX 11 0 7,YX 12 1 7,Ym 6 11,Ym 5 12]) (.sq (.sq (.rg [Ya 13 5,Yt 14 (.b (.ar .neq) (.t 13) (.c (.int .i64 0)))]) (.ite (.t 14) (.sq (.rg [YL 15 2 4,Ya 16 5,YS 2 4 15,Ym 5 16]) .ret) .skip)) (.sq (.rg [Ya 17 0,Yk 18 17,Yf 19 0 18,Yl 20 19,Ya 21 6,Yt 22 (.b (.ia 4) (.t 20) (.t 21)),Yf 23 2 22,Yt 24 (.u (.ldn 2) (.t 23)),YS 2 4 24,Yi 5 0]) .ret))))
theorem k56:look1 Tryd.prog 56 [0,1,4,5,6] dq=some (r56,[.c (.n 4) (.ldn 2),.v (.n 5)]):=by kernel_rfl
def r57:RC:=(.sq (.rg [Yi 4 0,Yi 5 0]) (.sq (.blk 0 (.sq (.rg [Ya 8 0,Yt 9 (.b (.er false 0) (.t 8) (.c (.pointer none))),Yb 7 9]) (.ite (.t 7) (.sq (.rg [Yi 4 0,Yi 5 1]) .ret) (.sq (.rg [Ya 11 1,Yt 12 (.b (.ar .lss) (.t 11) (.c (.int .i64 0))),Yb 13 12,Yq 14 13 (.u .mv (.n 1)),Yq 15 13 (.u .mv (.n 0)),Yq 16 13 (.u .nk (.t 15)),Yq 17 13 (.u (.fa 0) (.t 16)),Yq 18 13 (.u .ld (.t 17)),Yq 19 13 (.u .lenL (.t 18)),Yq 20 13 (.b (.ar .geq) (.t 14) (.t 19)),YO 21 13 20,Yb 10 21]) (.ite (.t 10) (.sq (.rg [Yi 4 0,Yi 5 2]) .ret) .skip))))) (.sq (.rg [Ya 22 1,Ym 6 22]) (.sq (.blk 1 (.loop (.sq (.sq (.rg [Ya 23 0,Yk 24 23,Yf 25 0 24,Yl 26 25,Ya 27 6,Yt 28 (.b (.ia 4) (.t 26) (.t 27)),Yf 29 0 28,Yl 30 29,Ya 31 6,Yt 32 (.b (.ar .neq) (.t 30) (.t 31))]) (.ite (.t 32) .skip (.exit 1))) (.blk 2 (.rg [Ya 33 0,Yk 34 33,Yf 35 0 34,Yl 36 35,Ya 37 6,Yt 38 (.b (.ia 4) (.t 36) (.t 37)),Yf 39 0 38,Yl 40 39,Ym 6 40]))))) (.sq (.blk 3 (.loop (.sq (.sq (.rg [Ya 41 1,Ya 42 6,Yt 43 (.b (.ar .neq) (.t 41) (.t 42))]) (.ite (.t 43) .skip (.exit 3))) (.blk 4 (.dr [.n 0,.n 1,.n 6] false [Yd (Ya 44 0) 0,Yd (Yk 45 44) 1,Yd (Yf 46 0 45) 2,Yd (Yl 47 46) 3,Yd (Ya 48 1) 4,Yd (Ya 49 0) 5,Yd (Yk 50 49) 6,Yd (Yf 51 0 50) 7,Yd (Yl 52 51) 8,Yd (Ya 53 1) 9,Yd (Yt 54 (.b (.ia 4) (.t 52) (.t 53))) 10,Yd (Yf 55 0 54) 11,Yd (Yl 56 55) 12,Yd (Ya 57 6) 13,Yd (Ym 1 56) 14,Yd (Yt 58 (.b (.ia 4) (.t 47) (.t 48))) 15,Yd (Yf 59 0 58) 16,⟨(Yz (.st 1 (.t 59) (.t 57))),17,true,[],[]⟩]))))) (.sq (.rg [Ya 60 6,Ym 4 60,Yi 5 0]) .ret))))))
theorem k57:look1 Tryd.prog 57 [0,1,4,5,6] dq=some (r57,[.v (.n 4),.v (.n 5)]):=by kernel_rfl
def r58:RC:=(.sq (.rg [Ya 2 0,Yk 3 2,Yf 4 0 3,Yl 5 4,Yt 6 (.b (.er false 0) (.t 5) (.c (.pointer none)))]) (.ite (.t 6) (.rg [Ya 7 0,Ya 8 0,Yt 9 (.u .up (.t 8)),Yt 10 (.call (.f 70) [.t 9]),Yt 11 (.u (.pu 58 2) (.t 10)),Yk 12 7,Yf 13 0 12,Yz (.st 1 (.t 13) (.t 11))]) (.sq (.rg [Ya 14 0,Yk 15 14,Yf 16 0 15,Yl 17 16,Ya 18 0,Yt 19 (.b (.er true 0) (.t 17) (.t 18))]) (.ite (.t 19) .bad .skip))))
theorem k58:look1 Tryd.prog 58 [0] dq=some (r58,[]):=by kernel_rfl
def r60:RC:=(.sq (.rg [Yn 2 (.u .mv (.c (.bool false)))]) (.sq (.rg [Ya 3 0,Yk 4 3,Yf 5 1 4,Yl 6 5,Yt 7 (.b (.ar .neq) (.t 6) (.c (.string ⟨#[]⟩))),Yb 8 7,Yp 9 8 (.u .mv (.n 0)),Yp 10 8 (.u .nk (.t 9)),Yp 11 8 (.u (.fa 1) (.t 10)),Yp 12 8 (.u .ld (.t 11)),Yp 13 8 (.b .ixs (.t 12) (.c (.int .i64 0))),Yp 14 8 (.b (.ar .geq) (.t 13) (.c (.int .u8 65))),YA 15 8 14,Yb 16 15,Yp 17 16 (.u .mv (.n 0)),Yp 18 16 (.u .nk (.t 17)),Yp 19 16 (.u (.fa 1) (.t 18)),Yp 20 16 (.u .ld (.t 19)),Yp 21 16 (.b .ixs (.t 20) (.c (.int .i64 0))),Yp 22 16 (.b (.ar .leq) (.t 21) (.c (.int .u8 90))),YA 23 16 22,Ym 2 23]) .ret))
theorem k60:look1 Tryd.prog 60 [0,2] dq=some (r60,[.v (.n 2)]):=by kernel_rfl
def r61:RC:=(.sq (.rg [Yi 2 0]) (.sq (.blk 0 (.sq (.rg [Ya 9 0,Yt 10 (.call (.f 50) [.t 9,(.c (.string ⟨#[40,41]⟩))]),Yb 8 10]) (.ite (.t 8) (.sq (.rg [Ya 11 0,Yt 12 (.call (.f 51) [.t 11,(.c (.string ⟨#[40,41]⟩)),(.c (.slice none 0 0))]),Ym 2 12]) .ret) (.sq (.rg [Ya 14 0,Yt 15 (.call (.f 50) [.t 14,(.c (.string ⟨#[91]⟩))]),Yb 13 15]) (.ite (.t 13) (.sq (.rg [Ya 16 0,Yt 17 (.call (.f 30) [.t 16]),Ym 3 17]) (.sq (.sq (.rg [Ya 18 0,Yt 19 (.call (.f 50) [.t 18,(.c (.string ⟨#[93]⟩))]),Yt 20 (.u .nt (.t 19))]) (.ite (.t 20) (.rg [Yt 21 (.bld [] []),Yt 22 (.u (.ifc 63) (.t 21)),Yz (.pan (.t 22))]) .skip)) (.sq (.rg [Ya 23 0,Ya 24 3,Yt 25 (.bsl 3 1 [(.int .i64 0)] [(0,1,(.t 24))]),Yt 26 (.call (.f 51) [.t 23,(.c (.string ⟨#[91,93]⟩)),.t 25]),Ym 2 26]) .ret))) (.sq (.rg [Ya 28 0,Yt 29 (.call (.f 50) [.t 28,(.c (.string ⟨#[40]⟩))]),Yb 27 29]) (.ite (.t 27) (.sq (.rg [Ya 30 0,Yt 31 (.call (.f 30) [.t 30]),Yt 32 (.bsl 3 1 [(.int .i64 0)] [(0,1,(.t 31))]),Ym 4 32]) (.sq (.blk 1 (.loop (.sq (.sq (.rg [Ya 33 0,Yt 34 (.call (.f 50) [.t 33,(.c (.string ⟨#[44,32]⟩))])]) (.ite (.t 34) .skip (.exit 1))) (.blk 2 (.rg [Ya 35 4,Ya 36 0,Yt 37 (.call (.f 30) [.t 36]),Yt 38 (.bsl 3 1 [(.int .i64 0)] [(0,1,(.t 37))]),Yt 39 (.app false 3 1 8 [(.int .i64 0)] (.t 35) (.t 38)),Ym 4 39]))))) (.sq (.blk 3 (.sq (.rg [Ya 41 0,Yt 42 (.call (.f 50) [.t 41,(.c (.string ⟨#[41]⟩))]),Yt 43 (.u .nt (.t 42)),Yb 40 43]) (.ite (.t 40) (.rg [Yt 44 (.bld [] []),Yt 45 (.u (.ifc 63) (.t 44)),Yz (.pan (.t 45))]) (.sq (.rg [Ya 47 4,Yt 48 (.u .lenL (.t 47)),Yt 49 (.b (.ar .eql) (.t 48) (.c (.int .i64 1))),Yb 46 49]) (.ite (.t 46) (.sq (.rg [Ya 50 4,Yt 51 (.b (.ia 1) (.t 50) (.c (.int .i64 0))),Yl 52 51,Ym 2 52]) .ret) .skip))))) (.sq (.rg [Ya 53 0,Ya 54 4,Yt 55 (.u .lenL (.t 54)),Yt 56 (.call (.f 53) [.t 55]),Ya 57 4,Yt 58 (.call (.f 51) [.t 53,.t 56,.t 57]),Ym 2 58]) .ret)))) (.sq (.rg [Ya 60 0,Yt 61 (.call (.f 60) [.t 60]),Yb 59 61]) (.ite (.t 59) (.sq (.rg [Ya 62 0,Ya 63 0,Yt 64 (.call (.f 62) [.t 63]),Yt 65 (.call (.f 51) [.t 62,.t 64,(.c (.slice none 0 0))]),Ym 2 65]) .ret) .skip))))))))) (.sq (.rg [Ya 66 0,Yt 67 (.call (.f 62) [.t 66]),Ym 5 67]) (.sq (.sq (.rg [Ya 68 5,Yt 69 (.b (.ar .eql) (.t 68) (.c (.string ⟨#[]⟩)))]) (.ite (.t 69) (.rg [Yt 70 (.bld [] []),Yt 71 (.u (.ifc 63) (.t 70)),Yz (.pan (.t 71))]) .skip)) (.sq (.rg [Ya 73 0,Yk 74 73,Yf 75 2 74,Yl 76 75,Ya 77 5,Yt 78 (.b (.lk 9 (.int .i64 0) true) (.t 76) (.t 77)),Yb 72 78,YX 79 0 72,YX 80 1 72,Ym 6 79,Ym 7 80]) (.sq (.sq (.rg [Ya 81 7,Yt 82 (.u .nt (.t 81))]) (.ite (.t 82) (.sq (.rg [Ya 84 0,Yk 85 84,Yf 86 0 85,Yl 87 86,Yt 88 (.call (.f 12) [.t 87]),Yb 83 88,YX 89 0 83,YX 90 1 83,Ym 6 89]) (.rg [Ya 91 0,Yk 92 91,Yf 93 2 92,Yl 94 93,Ya 95 5,Ya 96 6,Yz (.mup 65 (.t 94) (.t 95) (.t 96))])) .skip)) (.sq (.rg [Ya 97 6,Ym 2 97]) .ret)))))))
theorem k61:look1 Tryd.prog 61 [0,2,3,4,5,6,7] dq=some (r61,[.v (.n 2)]):=by kernel_rfl
def r62:RC:=(.sq (.rg [Yn 2 (.u .mv (.c (.string ⟨#[]⟩)))]) (.sq (.rg [Ya 5 0,Yk 6 5,Yf 7 1 6,Yl 8 7,Yt 9 (.b (.ar .add) (.t 8) (.c (.string ⟨#[32]⟩))),Yt 10 (.call (.f 72) [.t 9,(.f 73)]),Ym 3 10]) (.sq (.rg [Ya 11 0,Yk 12 11,Yf 13 1 12,Yl 14 13,Ya 15 3,Yt 16 (.sls (.t 14) none (some (.t 15))),Ym 4 16]) (.sq (.rg [Ya 17 0,Ya 18 0,Yk 19 18,Yf 20 1 19,Yl 21 20,Ya 22 3,Yt 23 (.sls (.t 21) (some (.t 22)) none),Yk 24 17,Yf 25 1 24,Yz (.st 1 (.t 25) (.t 23))]) (.sq (.rg [Ya 26 4,Ym 2 26]) .ret)))))
theorem k62:look1 Tryd.prog 62 [0,2,3,4] dq=some (r62,[.v (.n 2)]):=by kernel_rfl
def r64:RC:=(.sq (.rg [Yn 2 (.u .mv (.c (.bool false)))]) (.sq (.rg [Ya 3 0,Yt 4 (.b (.ar .geq) (.t 3) (.c (.int .u8 48))),Yb 5 4,Yp 6 5 (.u .mv (.n 0)),Yp 7 5 (.b (.ar .leq) (.t 6) (.c (.int .u8 57))),YA 8 5 7,Ym 2 8]) .ret))
theorem k64:look1 Tryd.prog 64 [0,2] dq=some (r64,[.v (.n 2)]):=by kernel_rfl
def r65:RC:=(.sq (.rg [Yi 4 0]) (.sq (.sq (.rg [Ya 6 0,Yn 7 (.u .lenS (.t 6)),Yi 8 0]) (.blk 0 (.loop (.sq (.rg [Yt 9 (.b (.ar .lss) (.n 8) (.n 7))]) (.sq (.ite (.t 9) .skip (.exit 0)) (.sq (.blk 1 (.sq (.rg [Ya 10 8,Ym 5 10]) (.sq (.rg [Ya 11 1,Ya 12 0,Ya 13 5,Yt 14 (.b .ixs (.t 12) (.t 13)),Yt 15 (.call (.t 11) [.t 14]),Yt 16 (.u .nt (.t 15))]) (.ite (.t 16) (.sq (.rg [Ya 17 5,Ym 4 17]) .ret) .skip)))) (.rg [Yt 18 (.b (.ar .add) (.n 8) (.c (.int .i64 1))),Ym 8 18]))))))) (.sq (.rg [Ya 19 0,Yt 20 (.u .lenS (.t 19)),Ym 4 20]) .ret)))
theorem k65:look1 Tryd.prog 65 [0,1,4,5,7,8] dq=some (r65,[.v (.n 4)]):=by kernel_rfl
def r66:RC:=(.sq (.rg [Yn 2 (.u .mv (.c (.bool false)))]) (.sq (.rg [Ya 3 0,Yt 4 (.call (.f 75) [.t 3]),Yb 5 4,Yq 6 5 (.u .mv (.n 0)),Yq 7 5 (.call (.f 67) [.t 6]),YO 8 5 7,Yb 9 8,Yq 10 9 (.u .mv (.n 0)),Yq 11 9 (.call (.f 64) [.t 10]),YO 12 9 11,Yb 13 12,Yq 14 13 (.u .mv (.n 0)),Yq 15 13 (.b (.ar .eql) (.t 14) (.c (.int .u8 39))),YO 16 13 15,Ym 2 16]) .ret))
theorem k66:look1 Tryd.prog 66 [0,2] dq=some (r66,[.v (.n 2)]):=by kernel_rfl
def r67:RC:=(.sq (.rg [Yn 2 (.u .mv (.c (.bool false)))]) (.sq (.rg [Ya 3 0,Yt 4 (.b (.ar .geq) (.t 3) (.c (.int .u8 65))),Yb 5 4,Yp 6 5 (.u .mv (.n 0)),Yp 7 5 (.b (.ar .leq) (.t 6) (.c (.int .u8 90))),YA 8 5 7,Ym 2 8]) .ret))
theorem k67:look1 Tryd.prog 67 [0,2] dq=some (r67,[.v (.n 2)]):=by kernel_rfl
def r68:RC:=(.sq (.rg [Yn 2 (.u .mv (.c (.bool false)))]) (.sq (.sq (.rg [Yn 3 (.u .mv (.n 0))]) (.blk 0 (.sq (.sq (.rg [Yt 5 (.b (.ar .eql) (.n 3) (.c (.string ⟨#[100,97,116,97]⟩))),Ym 4 5]) (.ite (.n 4) .skip (.sq (.rg [Yt 6 (.b (.ar .eql) (.n 3) (.c (.string ⟨#[108,101,116]⟩))),Ym 4 6]) (.ite (.n 4) .skip (.sq (.rg [Yt 7 (.b (.ar .eql) (.n 3) (.c (.string ⟨#[105,110]⟩))),Ym 4 7]) (.ite (.n 4) .skip (.sq (.rg [Yt 8 (.b (.ar .eql) (.n 3) (.c (.string ⟨#[119,104,101,114,101]⟩))),Ym 4 8]) (.ite (.n 4) .skip (.sq (.rg [Yt 9 (.b (.ar .eql) (.n 3) (.c (.string ⟨#[99,97,115,101]⟩))),Ym 4 9]) (.ite (.n 4) .skip (.sq (.rg [Yt 10 (.b (.ar .eql) (.n 3) (.c (.string ⟨#[111,102]⟩))),Ym 4 10]) (.ite (.n 4) .skip (.sq (.rg [Yt 11 (.b (.ar .eql) (.n 3) (.c (.string ⟨#[105,102]⟩))),Ym 4 11]) (.ite (.n 4) .skip (.sq (.rg [Yt 12 (.b (.ar .eql) (.n 3) (.c (.string ⟨#[116,104,101,110]⟩))),Ym 4 12]) (.ite (.n 4) .skip (.rg [Yt 13 (.b (.ar .eql) (.n 3) (.c (.string ⟨#[101,108,115,101]⟩))),Ym 4 13]))))))))))))))))) (.ite (.n 4) (.sq (.rg [Yn 2 (.u .mv (.c (.bool true)))]) .ret) .skip)))) (.sq (.rg [Yn 2 (.u .mv (.c (.bool false)))]) .ret)))
theorem k68:look1 Tryd.prog 68 [0,2,3,4] dq=some (r68,[.v (.n 2)]):=by kernel_rfl
def r75:RC:=(.sq (.rg [Yn 2 (.u .mv (.c (.bool false)))]) (.sq (.rg [Ya 3 0,Yt 4 (.b (.ar .geq) (.t 3) (.c (.int .u8 97))),Yb 5 4,Yp 6 5 (.u .mv (.n 0)),Yp 7 5 (.b (.ar .leq) (.t 6) (.c (.int .u8 122))),YA 8 5 7,Yb 9 8,Yq 10 9 (.u .mv (.n 0)),Yq 11 9 (.b (.ar .eql) (.t 10) (.c (.int .u8 95))),YO 12 9 11,Ym 2 12]) .ret))
theorem k75:look1 Tryd.prog 75 [0,2] dq=some (r75,[.v (.n 2)]):=by kernel_rfl
end Go.S11

namespace Go.Scn
open Go
abbrev Bs:=List UInt8
def tx (l:Bs):ByteArray:=⟨l.toArray⟩
theorem tx_size (l:Bs):(tx l).size=l.length:=by simp [tx,ByteArray.size]
theorem tx_get (l:Bs) (i:Nat):(tx l)[i]?=l[i]?:=by
 by_cases h:i<l.length
 ·rw[getElem?_pos (tx l) i (by rw[tx_size];exact h),Z0 h];rfl
 ·rw[getElem?_neg (tx l) i (by rw[tx_size];exact h),List.getElem?_eq_none (by omega)]
theorem tx_of (s:ByteArray):s=tx s.data.toList:=by simp [tx]
theorem tx_ext (l:Bs) (a b:Nat):(tx l).extract a b=tx ((l.take b).drop a):=by
 apply ByteArray.ext
 rw[ByteArray.data_extract];simp [tx,List.extract_toArray];rw[List.drop_take]
theorem tx_app (a b:Bs):tx a++tx b=tx (a++b):=by
 apply ByteArray.ext;simp [tx]
def small (c:UInt8):Bool:=decide (97<=c.toNat/\c.toNat<=122\/c.toNat=95)
def large (c:UInt8):Bool:=decide (65<=c.toNat/\c.toNat<=90)
def digit (c:UInt8):Bool:=decide (48<=c.toNat/\c.toNat<=57)
def inner (c:UInt8):Bool:=small c || large c || digit c || decide (c.toNat=39)
def symL:Bs:=[33,35,36,37,38,42,43,46,47,60,61,62,63,64,92,94,124,45,126,58]
def symb (c:UInt8):Bool:=symL.contains c
def wsp (c:UInt8):Bool:=decide (c.toNat=32\/c.toNat=9\/c.toNat=10\/c.toNat=13)
def dash (c:UInt8):Bool:=decide (c.toNat=45)
def noEnd (c:UInt8):Bool:=decide (¬ c.toNat=10)
def spn (p:UInt8->Bool) (l:Bs):Nat:=(l.takeWhile p).length
theorem spn_le (p:UInt8->Bool) (l:Bs):spn p l<=l.length:=(List.takeWhile_sublist p).length_le
theorem spn_cons (p:UInt8->Bool) (c:UInt8) (l:Bs):spn p (c::l)=if p c then spn p l+1 else 0:=by
 unfold spn;rw[List.takeWhile_cons];split<;>simp_all
theorem spn_at {p:UInt8->Bool}:∀ {l:Bs} {i:Nat},i<spn p l -> ∃ c,l[i]?=some c/\p c=true:=by
 intro l
 induction l with
 | nil=>intro i h;simp [spn] at h
 | cons c l ih =>
   intro i h;rw[spn_cons] at h
   split at h
   ·rename_i hc
    cases i with
    | zero=>exact ⟨c,rfl,hc⟩
    | succ i=>obtain ⟨d,h1,h2⟩:=ih (i:=i) (by omega);exact ⟨d,by simpa using h1,h2⟩
   ·omega
theorem spn_end {p:UInt8->Bool}:∀ {l:Bs} {c:UInt8},l[spn p l]?=some c->p c=false:=by
 intro l
 induction l with
 | nil=>intro c h;simp at h
 | cons d l ih =>
   intro c h;rw[spn_cons] at h
   split at h
   ·exact ih (by simpa using h)
   ·rename_i hd;simp at h;subst h;simpa using hd
theorem spn_eq {p:UInt8->Bool} {l:Bs} {n:Nat} (hn:n<=l.length) (h1:∀ i c,i<n->l[i]?=some c->p c=true) (h2:∀ c,l[n]?=some c->p c=false):spn p l=n:=by
 rcases Nat.lt_trichotomy (spn p l) n with h|h|h
 ·obtain ⟨c,hc⟩:∃ c,l[spn p l]?=some c:=⟨_,Z0 (by omega)⟩
  have:=h1 _ c h hc;rw[spn_end hc] at this;cases this
 ·exact h
 ·obtain ⟨c,hc,hp⟩:=spn_at h
  rw[h2 c hc] at hp;cases hp
def lineN (l:Bs):Nat:=if 2<=spn dash l/\(∀ c,l[spn dash l]?=some c->symb c=false) then spn noEnd l else 0
instance (l:Bs):Decidable (∀ c,l[spn dash l]?=some c->symb c=false) :=
 match h:l[spn dash l]? with
 | none=>.isTrue (fun c e=>by cases e)
 | some c=>if hc:symb c=false then .isTrue (fun d e=>by cases e;exact hc) else .isFalse (fun k=>hc (k c rfl))
def nst:Nat->Bs->Option Nat
 | d,123::45::l=>(nst (d+1) l).map (· + 2)
 | d,45::125::l=>if d<=1 then some 2 else (nst (d-1) l).map (· + 2)
 | _,[]=>none
 | d,_::l=>(nst d l).map (· + 1)
def nestN:Bs->Option Nat
 | 123::45::l=>(nst 1 l).map (· + 2)
 | _=>some 0
def skp (l:Bs):Except Bs Bs :=
 match l with
 | []=>.ok []
 | c::r =>
   if wsp c then skp r else
   if h:0<lineN (c::r) then skp ((c::r).drop (lineN (c::r))) else
   match nestN (c::r) with
   | none=>.error (c::r)
   | some n=>if h:0<n then skp ((c::r).drop n) else .ok (c::r)
termination_by l.length
decreasing_by all_goals simp;try omega
theorem byteLoop (bs:ByteArray):∀ (n i:Nat) (r:List UInt8),bs.size-i=n->ByteArray.toList.loop bs i r=r.reverse++bs.data.toList.drop i:=by
 intro n
 induction n with
 | zero =>
   intro i r h;rw[ByteArray.toList.loop.eq_def,if_neg (by omega),List.drop_eq_nil_of_le (by show bs.size<=i;omega)];simp
 | succ n ih =>
   intro i r h;have hi:i<bs.data.toList.length:=by show i<bs.size;omega
   rw[ByteArray.toList.loop.eq_def,if_pos (by omega),ih (i+1) _ (by omega),List.drop_eq_getElem_cons hi];simp [ByteArray.get!,hi];rw[getElem!_pos bs.data i (by simpa using hi)]
theorem ba_toList (b:ByteArray):b.toList=b.data.toList:=by
 rw[ByteArray.toList,byteLoop b b.size 0 [] (by omega)];simp
theorem tx_toList (l:Bs):(tx l).toList=l:=by rw[ba_toList];rfl
theorem mk_toList (l:Bs):(ByteArray.mk l.toArray).toList=l:=tx_toList l
def keyL:List Bs:=[[100,97,116,97],[108,101,116],[105,110],[119,104,101,114,101],[99,97,115,101],[111,102],[105,102],[116,104,101,110],[101,108,115,101]]
def nameK:Bs->Int
 | []=>0
 | c::r=>if 32<(c::r).length\/digit c=true\/c.toNat=39\/spn inner (c::r)<(c::r).length then 0 else
   if large c then 2 else if keyL.contains (c::r) then 6 else if (c::r) == [95] then 7 else 1
theorem nameK_zero {c:UInt8} {r:Bs} (h:32<(c::r).length\/digit c=true\/c.toNat=39\/spn inner (c::r)<(c::r).length):nameK (c::r)=0:=by rw[nameK,if_pos h]
theorem nameK_else {c:UInt8} {r:Bs} (h:¬ (32<(c::r).length\/digit c=true\/c.toNat=39\/spn inner (c::r)<(c::r).length)) :
 nameK (c::r)=if large c then 2 else if keyL.contains (c::r) then 6 else if (c::r) == [95] then 7 else 1:=by rw[nameK,if_neg h]
theorem tk2 {l:Bs} {a b:UInt8} (h:l.take 2=[a,b]):l=a::b::l.drop 2:=by
 conv=>lhs;rw[<- List.take_append_drop 2 l,h]
 rfl
def dg (c:UInt8):Nat:=if digit c then c.toNat-48 else if 97<=(c ||| 32).toNat/\(c ||| 32).toNat<=122 then (c ||| 32).toNat-87 else 99
inductive PU where
 | ok (n:Nat)
 | syn
 | rng
def wr3:Bs->UInt8 × Nat
 | a::b::_=>if dg a<16/\dg b<16 then (UInt8.ofNat (16*dg a+dg b),4) else (0,0)
 | _=>(0,0)
def wr2:Bs->UInt8 × Nat
 | []=>(0,0)
 | d::q=>if d.toNat=110 then (10,2) else if d.toNat=116 then (9,2) else if d.toNat=92\/d.toNat=39\/d.toNat=34 then (d,2) else
     if d.toNat=120 then wr3 q else (0,0)
def wr:Bs->UInt8 × Nat
 | []=>(0,0)
 | c::r=>if c.toNat<32\/126<c.toNat then (0,0) else if ¬ c.toNat=92 then (c,1) else wr2 r
structure Tk where
 k:Int
 t:Bs
 n:Int
 a:Nat
def pre (ts:List Tk):Except Nat (List Tk)->Except Nat (List Tk)
 | .error e=>.error e
 | .ok us=>.ok (ts++us)
end Go.Scn

namespace Go.S11
open Go Go.Eng Go.Proofs Go.Scn
theorem hP:noGoroutines Tryd.prog=true:=by kernel_rfl
theorem hM:Tryd.prog.follows .mixedOrders=true:=by kernel_rfl
abbrev bv (c:UInt8):Value:=.int .u8 (c.toNat:Int)
abbrev tv (l:Bs):Value:=.string (tx l)
def Says (f:FuncId) (p:UInt8->Bool):Prop:=∀ (c:UInt8) (h:AH),Gets Tryd.prog f [bv c] h (fun res h'=>h'=h/\res = .ret (.bool (p c)))
theorem isSmall_ok:Says 75 small:=by
 intro c h;refine Gets.of (keep:=false) hP (draw_ok hM) k75 (by rfl) (fun Ψ hΨ=>?_)
 by_cases h1:(97:Int)<=c.toNat<;>by_cases h2:(c.toNat:Int)<=122 <;>
  (simp only[ZG,↓reduceIte,ZA,ZB,ZC,r75,YE,YC,YO,YA,YL,YX,YS,Ya,Yb,Yl,Yf,Yg,Yi,Ym,Yk,Yt,Yn,Yz,Yp,Yq,Yd,h1,h2];exact hΨ _ _ (fin_ret (rv1 rfl ⟨rfl,by
   first
    | exact congrArg (fun b=>Res.ret (.bool b)) (decide_eq_true (by omega)).symm
    | exact congrArg (fun b=>Res.ret (.bool b)) (by unfold small;rw[decide_eq_decide];omega)⟩)))
theorem isLarge_ok:Says 67 large:=by
 intro c h;refine Gets.of (keep:=false) hP (draw_ok hM) k67 (by rfl) (fun Ψ hΨ=>?_)
 by_cases h1:(65:Int)<=c.toNat<;>by_cases h2:(c.toNat:Int)<=90 <;>
  (simp only[ZG,↓reduceIte,ZA,ZB,ZC,r67,YE,YC,YO,YA,YL,YX,YS,Ya,Yb,Yl,Yf,Yg,Yi,Ym,Yk,Yt,Yn,Yz,Yp,Yq,Yd,h1,h2];exact hΨ _ _ (fin_ret (rv1 rfl ⟨rfl,(by first|exact congrArg (fun b=>Res.ret (.bool b)) (decide_eq_true (by omega)).symm|exact congrArg (fun b=>Res.ret (.bool b)) (decide_eq_false (by omega)).symm)⟩)))
theorem isDigit_ok:Says 64 digit:=by
 intro c h;refine Gets.of (keep:=false) hP (draw_ok hM) k64 (by rfl) (fun Ψ hΨ=>?_)
 by_cases h1:(48:Int)<=c.toNat<;>by_cases h2:(c.toNat:Int)<=57 <;>
  (simp only[ZG,↓reduceIte,ZA,ZB,ZC,r64,YE,YC,YO,YA,YL,YX,YS,Ya,Yb,Yl,Yf,Yg,Yi,Ym,Yk,Yt,Yn,Yz,Yp,Yq,Yd,h1,h2];exact hΨ _ _ (fin_ret (rv1 rfl ⟨rfl,(by first|exact congrArg (fun b=>Res.ret (.bool b)) (decide_eq_true (by omega)).symm|exact congrArg (fun b=>Res.ret (.bool b)) (decide_eq_false (by omega)).symm)⟩)))
theorem isInner_ok:Says 66 inner:=by
 intro c h;refine Gets.of (keep:=false) hP (draw_ok hM) k66 (by rfl) (fun Ψ hΨ=>?_);simp only[ZG,↓reduceIte,ZA,ZB,ZC,r66,YE,YC,YO,YA,YL,YX,YS,Ya,Yb,Yl,Yf,Yg,Yi,Ym,Yk,Yt,Yn,Yz,Yp,Yq,Yd];refine XX_val (isSmall_ok c h) ?_;cases h1:small c with
 | true=>simp only[ZG,↓reduceIte,ZA,ZB,ZC];exact hΨ _ _ (fin_ret (rv1 rfl ⟨rfl,by simp [tup,inner,h1]⟩))
 | false =>
 simp only[ZG,↓reduceIte,ZA,ZB,ZC];refine XX_val (isLarge_ok c h) ?_;cases h2:large c with
 | true=>simp only[ZG,↓reduceIte,ZA,ZB,ZC];exact hΨ _ _ (fin_ret (rv1 rfl ⟨rfl,by simp [tup,inner,h2]⟩))
 | false =>
 simp only[ZG,↓reduceIte,ZA,ZB,ZC];refine XX_val (isDigit_ok c h) ?_;cases h3:digit c with
 | true=>simp only[ZG,↓reduceIte,ZA,ZB,ZC];exact hΨ _ _ (fin_ret (rv1 rfl ⟨rfl,by simp [tup,inner,h3]⟩))
 | false =>
 simp only[ZG,↓reduceIte,ZA,ZB,ZC];exact hΨ _ _ (fin_ret (rv1 rfl ⟨rfl,by
  have:(c.toNat == 39)=decide (c.toNat=39):=rfl;simp only[tup,inner,h1,h2,h3,Bool.false_or];exact congrArg (fun b=>Res.ret (.bool b)) (by rw[decide_eq_decide];omega)⟩))
