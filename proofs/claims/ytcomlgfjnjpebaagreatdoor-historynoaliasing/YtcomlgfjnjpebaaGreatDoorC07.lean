/- For the claim of HistoryNoAliasing: parts GH, GF, DT, CR11, CF1, CF2, CF3, GB, CH1, CH2, EXB, CF4, CF5, CF6, CF7. -/
import Derived.Test.YtcomlgfjnjpebaaGreatDoorC03
import Derived.Lib.ItoaNum
import Derived.Test.YtcomlgfjnjpebaaGreatDoorC06
import Derived.Test.YtcomlgfjnjpebaaGreatDoorC04
import Derived.Test.YtcomlgfjnjpebaaGreatDoorC05
set_option linter.unusedSimpArgs false
set_option linter.unusedVariables false
set_option maxRecDepth 100000
namespace Go.VL
def jl (mO:Nat):aL:=⟨17,[(.tmp 4)],(cS [oX 2 0,oX 3 1,oB 4 false] (cS [oF 5 0 2,oL 6 1 5,oF 7 0 3,oL 8 1 7,⟨some 9,.bin .eql .bool (.t 6) (.t 8),none⟩,oM 10 9,gF 11 1 2 10 true,gL 12 1 11 10 true,gF 13 1 3 10 true,gL 14 1 13 10 true,⟨some 15,.call (.f mO) [(.t 12),(.t 14)],some (10,true)⟩,nY 16 10 15,oM 4 16] .ret))⟩
def ng (oe bU ni:Nat):aL:=⟨42,[(.tmp 4)],(cS [oX 2 0,oX 3 1,oB 4 false] (cS [oF 5 0 2,oL 6 1 5,oF 7 0 3,oL 8 1 7,oT 9 .eql 6 8,oM 10 9,gF 11 5 2 10 true,gL 12 1 11 10 true,gF 13 5 3 10 true,gL 14 1 13 10 true,⟨some 15,.bin .eql .str (.t 12) (.t 14),some (10,true)⟩,nY 16 10 15,oM 17 16,gF 18 1 2 17 true,gF 19 0 18 17 true,Et 20 2 19 17 true,gF 21 1 3 17 true,gF 22 0 21 17 true,Et 23 2 22 17 true,⟨some 24,.call (.f oe) [(.t 20),(.t 23)],some (17,true)⟩,nY 25 17 24,oM 26 25,gF 27 1 2 26 true,gF 28 2 27 26 true,Et 29 2 28 26 true,gF 30 1 3 26 true,gF 31 2 30 26 true,Et 32 2 31 26 true,⟨some 33,.call (.f oe) [(.t 29),(.t 32)],some (26,true)⟩,nY 34 26 33,oM 35 34,gF 36 6 2 35 true,gL 37 1 36 35 true,gF 38 6 3 35 true,gL 39 1 38 35 true,⟨some 40,.call (.f bU) [(.t 37),(.t 39),(.f ni)],some (35,true)⟩,nY 41 35 40,oM 4 41] .ret))⟩
def jm (sV jn:Nat):aL:=⟨54,[(.tmp 4)],(cS [oX 2 0,oX 3 1,oB 4 false] (.seq (cS [oF 6 0 2,oL 7 1 6,oF 8 0 3,oL 9 1 8,oT 10 .neq 7 9,oM 11 10,gF 12 5 2 11 false,gL 13 1 12 11 false,gF 14 5 3 11 false,gL 15 1 14 11 false,⟨some 16,.bin .neq .str (.t 13) (.t 15),some (11,false)⟩,tf 17 11 16,oM 18 17,gF 19 6 2 18 false,gL 20 1 19 18 false,gN 21 20 18 false,gF 22 6 3 18 false,gL 23 1 22 18 false,gN 24 23 18 false,gT 25 .neq 21 24 18 false,tf 26 18 25,oM 27 26,gF 28 1 2 27 false,Et 29 4 28 27 false,gF 30 1 3 27 false,Et 31 4 30 27 false,⟨some 32,.call (.f sV) [(.t 29),(.t 31)],some (27,false)⟩,⟨some 33,.un .not (.t 32),some (27,false)⟩,tf 34 27 33] (.cond (.t 34) (cS [oB 4 false] .ret) .skip)) (.seq (cS [oI 5 0] (.block 0 (.loop (.seq (cS [oM 35 5,oF 36 6 2,oL 37 1 36,oN 38 37,oT 39 .lss 35 38] (.cond (.t 39) .skip (.exit 0))) (.seq (.block 1 (.seq (.reg (some []) [oF 42 6 2,oL 43 1 42,oM 44 5,oA 45 7 43 44,jJ 46 7 45,oF 47 6 3,oL 48 1 47,oM 49 5,oA 50 7 48 49,jJ 51 7 50,qC 52 jn 46 51,xu 53 52]) (.cond (.t 53) (cS [oB 4 false] .ret) .skip))) (cR [oM 40 5,da 41 .add 40 1,oM 5 41])))))) (cS [oB 4 true] .ret))))⟩
def dZ:aL:=⟨26,[(.tmp 4)],(cS [oB 4 false] (.seq (cS [oM 6 0,oN 7 6,oM 8 1,oN 9 8,oT 10 .neq 7 9] (.cond (.t 10) (cS [oB 4 false] .ret) .skip)) (.seq (cS [oM 11 0,oN 12 11,oI 13 0] (.block 0 (.loop (cS [oT 14 .lss 13 12] (.seq (.cond (.t 14) .skip (.exit 0)) (.seq (.block 1 (cS [oM 15 13,oM 5 15] (.seq (.reg (some []) [oM 16 0,oM 17 5,oA 18 1 16 17,oL 19 1 18,oM 20 1,oM 21 5,oA 22 1 20 21,oL 23 1 22,oT 24 .neq 19 23]) (.cond (.t 24) (cS [oB 4 false] .ret) .skip)))) (cR [da 25 .add 13 1,oM 13 25]))))))) (cS [oB 4 true] .ret))))⟩
def ee:aL:=⟨26,[(.tmp 4)],(cS [oB 4 false] (.seq (cS [oM 6 0,oN 7 6,oM 8 1,oN 9 8,oT 10 .neq 7 9] (.cond (.t 10) (cS [oB 4 false] .ret) .skip)) (.seq (cS [oM 11 0,oN 12 11,oI 13 0] (.block 0 (.loop (cS [oT 14 .lss 13 12] (.seq (.cond (.t 14) .skip (.exit 0)) (.seq (.block 1 (cS [oM 15 13,oM 5 15] (.seq (.reg (some []) [oM 16 0,oM 17 5,oA 18 1 16 17,oL 19 1 18,oM 20 1,oM 21 5,oA 22 1 20 21,oL 23 1 22,⟨some 24,.bin .neq .str (.t 19) (.t 23),none⟩]) (.cond (.t 24) (cS [oB 4 false] .ret) .skip)))) (cR [da 25 .add 13 1,oM 13 25]))))))) (cS [oB 4 true] .ret))))⟩
def aM:aL:=⟨32,[(.tmp 6)],(cS [oB 6 false] (.seq (cS [oM 10 0,oN 11 10,oM 12 1,oN 13 12,oT 14 .neq 11 13] (.cond (.t 14) (cS [oB 6 false] .ret) .skip)) (.seq (cS [oM 15 0,oN 16 15,oI 17 0] (.block 0 (.loop (cS [oT 18 .lss 17 16] (.seq (.cond (.t 18) .skip (.exit 0)) (.seq (.block 1 (cS [oM 19 17,oA 20 7 15 17,jJ 21 7 20,⟨some 8,.box (.c (.agg [(.int .i64 0),(.bool false),.nils,(.bool false),.nils,(.str []),.nils])),none⟩,oM 7 19,oS 7 8 21] (cS [oM 22 1,oM 23 7,oA 24 7 22 23,jJ 25 7 24,⟨some 9,.box (.c (.agg [(.int .i64 0),(.bool false),.nils,(.bool false),.nils,(.str []),.nils])),none⟩,oS 7 9 25] (cS [oM 26 2,jJ 27 7 8,jJ 28 7 9,⟨some 29,.call (.t 26) [(.t 27),(.t 28)],none⟩,xu 30 29] (.cond (.t 30) (cS [oB 6 false] .ret) .skip))))) (cR [da 31 .add 17 1,oM 17 31]))))))) (cS [oB 6 true] .ret))))⟩
def og (mP bU ni:Nat):aL:=⟨38,[(.tmp 4)],(cS [oX 2 0,oX 3 1,oB 4 false] (cS [oF 5 0 2,oL 6 1 5,oF 7 0 3,oL 8 1 7,⟨some 9,.bin .eql .str (.t 6) (.t 8),none⟩,oM 10 9,gF 11 1 2 10 true,gL 12 1 11 10 true,gF 13 1 3 10 true,gL 14 1 13 10 true,gT 15 .eql 12 14 10 true,nY 16 10 15,oM 17 16,gF 18 4 2 17 true,gL 19 1 18 17 true,gF 20 4 3 17 true,gL 21 1 20 17 true,⟨some 22,.bin .eql .bool (.t 19) (.t 21),some (17,true)⟩,nY 23 17 22,oM 24 23,gF 25 2 2 24 true,gL 26 1 25 24 true,gF 27 2 3 24 true,gL 28 1 27 24 true,⟨some 29,.call (.f mP) [(.t 26),(.t 28)],some (24,true)⟩,nY 30 24 29,oM 31 30,gF 32 3 2 31 true,gL 33 1 32 31 true,gF 34 3 3 31 true,gL 35 1 34 31 true,⟨some 36,.call (.f bU) [(.t 33),(.t 35),(.f ni)],some (31,true)⟩,nY 37 31 36,oM 4 37] .ret))⟩
def kK (cv eJ kL:Nat):aL:=⟨42,[(.cell 2 true 7)],(cS [oX 1 0,⟨some 2,.box (.c (.agg [(.int .i64 0),(.bool false),.nils,(.bool false),.nils,(.str []),.nils])),none⟩] (.seq (.reg (some [(4,8)]) [oF 4 1 1,oF 5 0 4,oF 6 1 5,oL 7 1 6,oC 8 cv 7,oF 9 1 1,oF 10 2 9,oF 11 1 10,oL 12 1 11,oC 13 cv 12,oF 14 1 1,oF 15 0 14,oF 16 1 15,oS 1 16 8,oF 17 1 1,oF 18 2 17,oF 19 1 18,oS 1 19 13]) (cS [oF 20 6 1,oL 21 1 20,oC 22 eJ 21,oF 23 6 1,oS 1 23 22] (.seq (cS [oF 24 6 1,oL 25 1 24,oN 26 25,oI 27 0] (.block 0 (.loop (cS [oT 28 .lss 27 26] (.seq (.cond (.t 28) .skip (.exit 0)) (.seq (.block 1 (cS [oM 29 27,oM 3 29] (.reg (some [(1,8)]) [oF 30 6 1,oL 31 1 30,oM 32 3,oF 33 6 1,oL 34 1 33,oM 35 3,oA 36 7 34 35,jJ 37 7 36,oC 38 kL 37,oA 39 7 31 32,oS 7 39 38]))) (cR [da 40 .add 27 1,oM 27 40]))))))) (cS [jJ 41 7 1,oS 7 2 41] .ret)))))⟩
def gv (jn:Nat):aL:=⟨81,[(.tmp 4)],(cS [oX 2 0,oX 3 1,oB 4 false] (.seq (cS [oF 7 0 2,oL 8 1 7,oF 9 0 3,oL 10 1 9,⟨some 11,.bin .neq .str (.t 8) (.t 10),none⟩,oM 12 11,gF 13 1 2 12 false,gL 14 1 13 12 false,gF 15 1 3 12 false,gL 16 1 15 12 false,gT 17 .neq 14 16 12 false,tf 18 12 17,oM 19 18,gF 20 4 2 19 false,gL 21 1 20 19 false,gF 22 4 3 19 false,gL 23 1 22 19 false,⟨some 24,.bin .neq .bool (.t 21) (.t 23),some (19,false)⟩,tf 25 19 24,oM 26 25,gF 27 2 2 26 false,gL 28 1 27 26 false,gN 29 28 26 false,gF 30 2 3 26 false,gL 31 1 30 26 false,gN 32 31 26 false,gT 33 .neq 29 32 26 false,tf 34 26 33,oM 35 34,gF 36 3 2 35 false,gL 37 1 36 35 false,gN 38 37 35 false,gF 39 3 3 35 false,gL 40 1 39 35 false,gN 41 40 35 false,gT 42 .neq 38 41 35 false,tf 43 35 42] (.cond (.t 43) (cS [oB 4 false] .ret) .skip)) (.seq (cS [oI 5 0] (.block 0 (.loop (.seq (cS [oM 44 5,oF 45 2 2,oL 46 1 45,oN 47 46,oT 48 .lss 44 47] (.cond (.t 48) .skip (.exit 0))) (.seq (.block 1 (.seq (.reg (some []) [oF 51 2 2,oL 52 1 51,oM 53 5,oA 54 1 52 53,oL 55 1 54,oF 56 2 3,oL 57 1 56,oM 58 5,oA 59 1 57 58,oL 60 1 59,⟨some 61,.bin .neq .str (.t 55) (.t 60),none⟩]) (.cond (.t 61) (cS [oB 4 false] .ret) .skip))) (cR [oM 49 5,da 50 .add 49 1,oM 5 50])))))) (.seq (cS [oI 6 0] (.block 2 (.loop (.seq (cS [oM 62 6,oF 63 3 2,oL 64 1 63,oN 65 64,oT 66 .lss 62 65] (.cond (.t 66) .skip (.exit 2))) (.seq (.block 3 (.seq (.reg (some []) [oF 69 3 2,oL 70 1 69,oM 71 6,oA 72 7 70 71,jJ 73 7 72,oF 74 3 3,oL 75 1 74,oM 76 6,oA 77 7 75 76,jJ 78 7 77,qC 79 jn 73 78,xu 80 79]) (.cond (.t 80) (cS [oB 4 false] .ret) .skip))) (cR [oM 67 6,da 68 .add 67 1,oM 6 68])))))) (cS [oB 4 true] .ret)))))⟩
def jR (nj:Nat):aL:=⟨27,[(.tmp 4)],(cS [oB 4 false] (.seq (cS [oM 6 0,oN 7 6,oM 8 1,oN 9 8,oT 10 .neq 7 9] (.cond (.t 10) (cS [oB 4 false] .ret) .skip)) (.seq (cS [oI 5 0] (.block 0 (.loop (.seq (cS [oM 11 5,oM 12 0,oN 13 12,oT 14 .lss 11 13] (.cond (.t 14) .skip (.exit 0))) (.seq (.block 1 (.seq (.reg (some []) [oM 17 0,oM 18 5,oA 19 5 17 18,jJ 20 5 19,oM 21 1,oM 22 5,oA 23 5 21 22,jJ 24 5 23,qC 25 nj 20 24,xu 26 25]) (.cond (.t 26) (cS [oB 4 false] .ret) .skip))) (cR [oM 15 5,da 16 .add 15 1,oM 5 16])))))) (cS [oB 4 true] .ret))))⟩
def jS (jo iu rQ:Nat):aL:=⟨57,[(.tmp 2)],(cS [oB 2 false] (cS [oZ 3] (.seq (cS [oI 4 0] (.block 0 (.loop (.seq (cS [oM 7 4,oM 8 0,oN 9 8,oT 10 .lss 7 9] (.cond (.t 10) .skip (.exit 0))) (.seq (.block 1 (.seq (cS [oM 13 0,oM 14 4,oA 15 5 13 14,jJ 16 5 15,oC 17 jo 16,xu 18 17,oM 19 18,gM 20 3 19 false,gM 21 0 19 false,gM 22 4 19 false,⟨some 23,.iaddrS 5 (.t 21) (.t 22),some (19,false)⟩,gF 24 0 23 19 false,gL 25 1 24 19 false,⟨some 26,.call (.f iu) [(.t 20),(.t 25)],some (19,false)⟩,tf 27 19 26] (.cond (.t 27) (cS [oB 2 false] .ret) .skip)) (cS [oM 28 0,oM 29 4,oA 30 5 28 29,jJ 31 5 30,oC 32 rQ 31,oM 5 32] (.seq (cS [oI 6 0] (.block 2 (.loop (.seq (cS [oM 33 6,oM 34 5,oN 35 34,oT 36 .lss 33 35] (.cond (.t 36) .skip (.exit 2))) (.seq (.block 3 (cS [oM 39 3,oM 40 5,oM 41 6,oA 42 1 40 41,oL 43 1 42,qC 44 iu 39 43,xu 45 44] (.cond (.t 45) (cS [oB 2 false] .ret) .skip))) (cR [oM 37 6,da 38 .add 37 1,oM 6 38])))))) (cR [oM 46 3,oM 47 0,oM 48 4,oA 49 5 47 48,oF 50 0 49,oL 51 1 50,⟨some 52,.buildSl 1 1 (.str []) [(0,(.t 51))],none⟩,Es 53 1 16 46 52,oM 3 53]))))) (cR [oM 11 4,da 12 .add 11 1,oM 4 12])))))) (cS [oM 54 0,oN 55 54,da 56 .leq 55 200,oM 2 56] .ret))))⟩
def gY:aL:=⟨20,[(.tmp 4)],(cS [oI 4 0] (.seq (cS [oI 5 0] (.block 0 (.loop (.seq (cS [oM 6 5,oM 7 0,oN 8 7,oT 9 .lss 6 8] (.cond (.t 9) .skip (.exit 0))) (.seq (.block 1 (cS [oM 12 0,oM 13 5,oA 14 5 12 13,oF 15 0 14,oL 16 1 15,oM 17 1,⟨some 18,.bin .eql .str (.t 16) (.t 17),none⟩] (.cond (.t 18) (cS [oM 19 5,oM 4 19] .ret) .skip))) (cR [oM 10 5,da 11 .add 10 1,oM 5 11])))))) (cS [oI 4 (-1-0)] .ret)))⟩
def ko:aL:=⟨15,[(.tmp 4)],(cS [oZ 4] (.seq (.reg (some [(0,3),(0,8),(4,8)]) [⟨some 5,.buildSl 5 0 (.agg [(.str []),(.int .i64 0),.nils,.nils,(.bool false)]) [],none⟩,oM 6 0,oM 7 1,⟨some 8,.slice 5 (.t 6) none (some (.t 7)) none,none⟩,Es 9 5 80 5 8,oM 10 0,oM 11 1,da 12 .add 11 1,⟨some 13,.slice 5 (.t 10) (some (.t 12)) none none,none⟩,Es 14 5 80 9 13,oM 4 14]) .ret))⟩
def gb:aL:=⟨3,[(.cell 0 true 2)],(cS [⟨some 0,.box (.c (.agg [.nils,(.int .i64 0)])),none⟩] (cS [⟨some 1,.buildSl 1 1 .nils [(0,(.c .nils))],none⟩,⟨some 2,.build [.nils,(.int .i64 0)] [(0,(1,(.t 1)))],none⟩,oS 2 0 2] .ret))⟩
def eH:aL:=⟨9,[(.tmp 2)],(cS [oX 1 0,oZ 2] (cS [oF 3 0 1,oL 4 1 3,oF 5 1 1,oL 6 1 5,oA 7 1 4 6,oL 8 1 7,oM 2 8] .ret))⟩
def jq (cz dE gy dA jT iB iC:Nat):aL:=⟨45,[(.tmp 6)],(cS [oI 6 0] (cS [oM 10 0,oC 11 cz 10,oC 12 dE 11,oM 7 12] (.seq (cS [oM 13 2,da 14 .lss 13 0,oM 15 14,gM 16 2 15 false,gM 17 7 15 false,gN 18 17 15 false,gT 19 .geq 16 18 15 false,tf 20 15 19] (.cond (.t 20) (cS [oI 6 1] .ret) .skip)) (cS [oM 21 7,oM 22 1,qC 23 gy 21 22,oM 8 23] (.seq (cS [oM 24 8,da 25 .lss 24 0] (.cond (.t 25) (cS [oI 6 4] .ret) .skip)) (cS [oM 26 7,oM 27 8,oA 28 5 26 27,jJ 29 5 28,⟨some 9,.box (.c (.agg [(.str []),(.int .i64 0),.nils,.nils,(.bool false)])),none⟩,oS 5 9 29] (.seq (.reg (some [(4,6),(4,7)]) [oM 30 7,oM 31 8,oM 32 8,da 33 .add 32 1,⟨some 34,.call (.f dA) [(.t 30),(.t 31),(.t 33)],none⟩,oM 35 2,jJ 36 5 9,⟨some 37,.buildSl 5 1 (.agg [(.str []),(.int .i64 0),.nils,.nils,(.bool false)]) [(0,(.t 36))],none⟩,⟨some 38,.call (.f jT) [(.t 34),(.t 35),(.t 37)],none⟩,oM 7 38]) (.seq (cS [oM 39 7,oC 40 iB 39,xu 41 40] (.cond (.t 41) (cS [oI 6 14] .ret) .skip)) (cS [oM 42 0,oM 43 7,qC 44 iC 42 43,oM 6 44] .ret)))))))))⟩
def iD (cz dE gy dA iB iC:Nat):aL:=⟨26,[(.tmp 4)],(cS [oI 4 0] (cS [oM 7 0,oC 8 cz 7,oC 9 dE 8,oM 5 9] (cS [oM 10 5,oM 11 1,qC 12 gy 10 11,oM 6 12] (.seq (cS [oM 13 6,da 14 .lss 13 0] (.cond (.t 14) (cS [oI 4 4] .ret) .skip)) (cS [oM 15 5,oM 16 6,oM 17 6,da 18 .add 17 1,⟨some 19,.call (.f dA) [(.t 15),(.t 16),(.t 18)],none⟩,oM 5 19] (.seq (cS [oM 20 5,oC 21 iB 20,xu 22 21] (.cond (.t 22) (cS [oI 4 14] .ret) .skip)) (cS [oM 23 0,oM 24 5,qC 25 iC 23 24,oM 4 25] .ret)))))))⟩
def cp (lP:Nat):aL:=⟨95,[(.tmp 6)],(cS [oZ 6] (cS [oM 10 0,oM 11 1,⟨some 12,.slice 5 (.t 10) (some (.t 11)) none none,none⟩] (cS [oM 13 2,oN 14 13,oM 7 14] (.seq (cS [oM 15 7,da 16 .eql 15 0] (.cond (.t 16) (cS [oM 17 0,oM 6 17] .ret) .skip)) (cS [oM 18 0,oN 19 18,oM 8 19] (.seq (cS [oM 20 1,oM 21 8,oT 22 .eql 20 21] (.cond (.t 22) (cS [oM 23 0,oM 24 2,Es 25 5 80 23 24,oM 6 25] .ret) .skip)) (.seq (cS [oM 26 8,oM 27 7,oT 28 .add 26 27,oM 29 0,⟨some 30,.cap (.t 29),none⟩,oT 31 .gtr 28 30] (.cond (.t 31) (cS [oM 32 0,oM 33 1,⟨some 34,.slice 5 (.t 32) none (some (.t 33)) none,none⟩,oM 35 8,oM 36 7,oT 37 .add 35 36,oM 38 1,oT 39 .sub 37 38,⟨some 40,.appz 5 80 (.agg [(.str []),(.int .i64 0),.nils,.nils,(.bool false)]) (.t 34) (.t 39),none⟩,oM 9 40] (cS [oM 41 9,oM 42 1,⟨some 43,.slice 5 (.t 41) (some (.t 42)) none none,none⟩,oM 44 2,⟨some 45,.copy 5 (.t 43) (.t 44),none⟩] (.seq (.reg (some []) [oM 46 9,oM 47 1,oM 48 7,oT 49 .add 47 48,⟨some 50,.slice 5 (.t 46) (some (.t 49)) none none,none⟩,oM 51 0,oM 52 1,⟨some 53,.slice 5 (.t 51) (some (.t 52)) none none,none⟩,⟨some 54,.copy 5 (.t 50) (.t 53),none⟩]) (cS [oM 55 9,oM 6 55] .ret)))) .skip)) (cS [oM 56 0,oM 57 8,oM 58 7,oT 59 .add 57 58,⟨some 60,.slice 5 (.t 56) none (some (.t 59)) none,none⟩,oM 0 60] (.seq (cS [oM 61 2,oM 62 0,oM 63 1,oM 64 7,oT 65 .add 63 64,⟨some 66,.slice 5 (.t 62) (some (.t 65)) none none,none⟩,⟨some 67,.ovl (.t 61) (.t 66),none⟩,xu 68 67] (.cond (.t 68) (.seq (.reg (some []) [oM 69 0,oM 70 1,oM 71 7,oT 72 .add 70 71,⟨some 73,.slice 5 (.t 69) (some (.t 72)) none none,none⟩,oM 74 0,oM 75 1,⟨some 76,.slice 5 (.t 74) (some (.t 75)) none none,none⟩,⟨some 77,.copy 5 (.t 73) (.t 76),none⟩]) (cS [oM 78 0,oM 79 1,⟨some 80,.slice 5 (.t 78) (some (.t 79)) none none,none⟩,oM 81 2,⟨some 82,.copy 5 (.t 80) (.t 81),none⟩] (cS [oM 83 0,oM 6 83] .ret))) .skip)) (cS [oM 84 0,oM 85 8,⟨some 86,.slice 5 (.t 84) (some (.t 85)) none none,none⟩,oM 87 2,⟨some 88,.copy 5 (.t 86) (.t 87),none⟩] (cS [oM 89 0,oM 90 1,⟨some 91,.slice 5 (.t 89) (some (.t 90)) none none,none⟩,oM 92 7,qC 93 lP 91 92] (cS [oM 94 0,oM 6 94] .ret))))))))))))⟩
def bM:aL:=⟨33,[(.tmp 6)],(cS [oZ 6] (cS [oM 8 0,oM 9 1,oM 10 2,oM 11 0,oN 12 11,⟨some 13,.slice 5 (.t 8) (some (.t 9)) (some (.t 10)) (some (.t 12)),none⟩] (.seq (cS [oM 14 1,oM 15 2,oT 16 .eql 14 15] (.cond (.t 16) (cS [oM 17 0,oM 6 17] .ret) .skip)) (cS [oM 18 0,oN 19 18,oM 7 19] (.seq (.reg (some []) [oM 20 0,oM 21 1,⟨some 22,.slice 5 (.t 20) none (some (.t 21)) none,none⟩,oM 23 0,oM 24 2,⟨some 25,.slice 5 (.t 23) (some (.t 24)) none none,none⟩,Es 26 5 80 22 25,oM 0 26]) (cS [oM 27 0,oM 28 0,oN 29 28,oM 30 7,⟨some 31,.slice 5 (.t 27) (some (.t 29)) (some (.t 30)) none,none⟩,⟨none,.clear 5 (.agg [(.str []),(.int .i64 0),.nils,.nils,(.bool false)]) (.t 31),none⟩] (cS [oM 32 0,oM 6 32] .ret)))))))⟩
def jr (js:Nat):aL:=⟨25,[(.tmp 2)],(cS [oB 2 false] (.seq (cS [oM 5 0,oN 6 5,oI 7 0] (.block 0 (.loop (cS [oT 8 .lss 7 6] (.seq (.cond (.t 8) .skip (.exit 0)) (.seq (.block 1 (cS [oA 9 9 5 7,jJ 10 9 9,⟨some 4,.box (.c (.agg [(.int .u8 0),(.str []),(.int .i64 0),.nils,.nils,(.bool false),(.str []),(.bool false),(.int .i64 0)])),none⟩,oS 9 4 10] (cS [oF 11 1 4,jJ 12 5 11,oC 13 js 12,xu 14 13,oM 15 14,gF 16 6 4 15 false,gL 17 1 16 15 false,⟨some 18,.len true (.t 17),some (15,false)⟩,⟨some 19,.bin .gtr .int (.t 18) (.c (.int .i64 100)),some (15,false)⟩,tf 20 15 19] (.cond (.t 20) (cS [oB 2 false] .ret) .skip)))) (cR [da 21 .add 7 1,oM 7 21]))))))) (cS [oM 22 0,oN 23 22,da 24 .leq 23 40,oM 2 24] .ret)))⟩
def gX (Dw tP iE:Nat):aL:=⟨28,[(.tmp 2),(.cell 3 true 2),(.tmp 4)],(cS [⟨some 2,.mv (.c .nilp),none⟩,⟨some 3,.box (.c (.agg [.nils,(.int .i64 0)])),none⟩,oB 4 false] (cS [⟨some 9,.call (.f Dw) [],none⟩,⟨some 10,.call (.f tP) [],none⟩,⟨some 6,.box (.c (.agg [.nils,(.int .i64 0)])),none⟩,oM 5 9,oS 2 6 10] (.seq (cS [oM 11 5,⟨some 12,.bin .eql .ptr (.t 11) (.c .nilp),none⟩] (.cond (.t 12) (.seq (.reg (some []) [jJ 13 2 6,⟨some 2,.mv (.c .nilp),none⟩,oS 2 3 13,oB 4 false]) .ret) .skip)) (.seq (cS [oM 14 0,oN 15 14,oI 16 0] (.block 0 (.loop (cS [oT 17 .lss 16 15] (.seq (.cond (.t 17) .skip (.exit 0)) (.seq (.block 1 (cS [oA 18 9 14 16,jJ 19 9 18,⟨some 8,.box (.c (.agg [(.int .u8 0),(.str []),(.int .i64 0),.nils,.nils,(.bool false),(.str []),(.bool false),(.int .i64 0)])),none⟩,oS 9 8 19] (cS [oM 20 5,jJ 21 9 8,⟨some 22,.call (.f iE) [(.t 20),(.t 6),(.t 21)],none⟩,xu 23 22] (.cond (.t 23) (.seq (.reg (some []) [jJ 24 2 6,⟨some 2,.mv (.c .nilp),none⟩,oS 2 3 24,oB 4 false]) .ret) .skip)))) (cR [da 25 .add 16 1,oM 16 25]))))))) (.seq (.reg (some []) [oM 26 5,jJ 27 2 6,oM 2 26,oS 2 3 27,oB 4 true]) .ret)))))⟩
def de (lQ rR js sW iE tQ kp sX:Nat):aL:=⟨114,[(.tmp 4)],(cS [oX 3 1,oB 4 false] (.seq (cS [⟨some 14,.call (.f lQ) [],none⟩,xu 15 14,oM 16 15,gM 17 0 16 false,⟨some 18,.call (.f rR) [.t 17],some (16,false)⟩,⟨some 19,.un .not (.t 18),some (16,false)⟩,tf 20 16 19,oM 21 20,Et 22 5 3 21 false,⟨some 23,.call (.f js) [.t 22],some (21,false)⟩,⟨some 24,.un .not (.t 23),some (21,false)⟩,tf 25 21 24] (.cond (.t 25) (cS [⟨some 26,.call (.f lQ) [],none⟩,oM 4 26] .ret) .skip)) (cS [oM 28 0,oC 29 sW 28,oM 27 29,oE 30 27 0,oE 31 27 1,oE 32 27 2,⟨some 6,.box (.c (.agg [.nils,(.int .i64 0)])),none⟩,oM 5 30,oS 2 6 31,oM 7 32] (.seq (cS [oM 33 7,xu 34 33] (.cond (.t 34) (cS [oB 4 false] .ret) .skip)) (cS [jJ 35 5 3,⟨some 8,.box (.c (.agg [(.str []),(.int .i64 0),.nils,.nils,(.bool false)])),none⟩,oS 5 8 35] (cS [⟨some 36,.buildSl 1 0 (.str []) [],none⟩,oF 37 2 3,oL 38 1 37,Es 39 1 16 36 38,oF 40 2 8,oS 1 40 39] (.seq (cS [oM 41 5,jJ 42 5 8,⟨some 43,.build [(.int .u8 0),(.str []),(.int .i64 0),.nils,.nils,(.bool false),(.str []),(.bool false),(.int .i64 0)] [(1,(5,(.t 42)))],none⟩,⟨some 44,.call (.f iE) [(.t 41),(.t 6),(.t 43)],none⟩,xu 45 44] (.cond (.t 45) (cS [oB 4 false] .ret) .skip)) (cS [⟨some 46,.buildSl 5 0 (.agg [(.str []),(.int .i64 0),.nils,.nils,(.bool false)]) [],none⟩,jJ 47 2 6,oC 48 tQ 47,Es 49 5 80 46 48,oM 9 49] (.seq (.seq (.reg (some []) [oM 50 9,oN 51 50,da 52 .gtr 51 0,oM 53 52,gM 54 9 53 true,gM 55 9 53 true,gN 56 55 53 true,⟨some 57,.bin .sub .int (.t 56) (.c (.int .i64 1)),some (53,true)⟩,⟨some 58,.iaddrS 5 (.t 54) (.t 57),some (53,true)⟩,gF 59 0 58 53 true,gL 60 1 59 53 true,gF 61 0 3 53 true,gL 62 1 61 53 true,⟨some 63,.bin .eql .str (.t 60) (.t 62),some (53,true)⟩,nY 64 53 63]) (.cond (.t 64) (cR [oM 65 9,oM 66 9,oN 67 66,da 68 .sub 67 1,⟨some 69,.buildSl 1 0 (.str []) [],none⟩,oM 70 9,oM 71 9,oN 72 71,da 73 .sub 72 1,oA 74 5 70 73,oF 75 2 74,oL 76 1 75,Es 77 1 16 69 76,oA 78 5 65 68,oF 79 2 78,oS 1 79 77]) .skip)) (.seq (cS [oF 80 2 8,oL 81 1 80,oN 82 81,oI 83 0] (.block 0 (.loop (cS [oT 84 .lss 83 82] (.seq (.cond (.t 84) .skip (.exit 0)) (.seq (.block 1 (cS [oM 85 83,oM 10 85] (cR [oF 86 2 8,oL 87 1 86,oM 88 10,oA 89 1 87 88,⟨none,.store 1 (.t 89) (.c (.str [120,47,121])),none⟩]))) (cR [da 90 .add 83 1,oM 83 90]))))))) (.seq (cS [oM 91 5,oC 92 kp 91,oN 93 92,oI 94 0] (.block 2 (.loop (cS [oT 95 .lss 94 93] (.seq (.cond (.t 95) .skip (.exit 2)) (.seq (.block 3 (cS [oA 96 5 92 94,jJ 97 5 96,⟨some 12,.box (.c (.agg [(.str []),(.int .i64 0),.nils,.nils,(.bool false)])),none⟩,oS 5 12 97] (cS [oF 98 2 12,oL 99 1 98,oN 100 99,oI 101 0] (.block 4 (.loop (cS [oT 102 .lss 101 100] (.seq (.cond (.t 102) .skip (.exit 4)) (.seq (.block 5 (cS [oM 103 101,oM 13 103] (cR [oF 104 2 12,oL 105 1 104,oM 106 13,oA 107 1 105 106,⟨none,.store 1 (.t 107) (.c (.str [122,47,122])),none⟩]))) (cR [da 108 .add 101 1,oM 101 108]))))))))) (cR [da 109 .add 94 1,oM 94 109]))))))) (cS [oM 110 5,oC 111 kp 110,oM 112 9,qC 113 sX 111 112,oM 4 113] .ret))))))))))))⟩
def gn (zc AA wm xP Dx Cl zd ze:Nat):aL:=⟨65,[(.tmp 2),(.tmp 3)],(cS [oX 1 0,⟨some 2,.mv (.c (.str [])),none⟩,oB 3 false] (.seq (cS [jJ 9 4 1,oC 10 zc 9,xu 11 10,oM 12 11,Et 13 4 1 12 false,⟨some 14,.call (.f AA) [.t 13],some (12,false)⟩,⟨some 15,.bin .lss .int (.t 14) (.c (.int .i64 0)),some (12,false)⟩,tf 16 12 15] (.cond (.t 16) (cS [⟨some 2,.mv (.c (.str [])),none⟩,oB 3 false] .ret) .skip)) (cS [⟨some 17,.call (.f wm) [(.c (.int .i64 10))],none⟩,⟨some 4,.box (.c (.agg [(.bool false),.nils,(.bool false),.nils])),none⟩,oS 4 4 17] (cS [⟨some 18,.call (.f xP) [(.c (.int .i64 1))],none⟩,⟨some 5,.box (.c (.agg [(.bool false),.nils])),none⟩,oS 2 5 18] (.seq (cS [oI 6 0] (.block 0 (.loop (.seq (cS [oM 19 6,da 20 .lss 19 40] (.cond (.t 20) .skip (.exit 0))) (.seq (.block 1 (.seq (cS [oF 23 2 1,jJ 24 2 23,jJ 25 2 5,qC 26 Dx 24 25,da 27 .neq 26 0] (.cond (.t 27) (cS [jJ 28 4 1,jJ 29 4 4,qC 30 Cl 28 29,oS 4 1 30] (.exit 1)) .skip)) (cS [oF 31 0 1,jJ 32 2 31,oC 33 zd 32,oM 7 33] (.seq (cS [oM 34 6,da 35 .gtr 34 0] (.cond (.t 35) (.seq (cS [oM 36 6,da 37 .add 36 1,oM 38 7,⟨some 39,.len true (.t 38),none⟩,oT 40 .sub 37 39,oM 8 40] (cS [oM 41 8,da 42 .gtr 41 0] (.cond (.t 42) (cR [oM 43 8,⟨some 44,.call (.f ze) [(.c (.str [48])),(.t 43)],none⟩,oM 45 7,⟨some 46,.bin .add .str (.t 44) (.t 45),none⟩,oM 7 46]) .skip))) (.reg (some []) [oM 47 7,oM 48 7,⟨some 49,.len true (.t 48),none⟩,oM 50 6,oT 51 .sub 49 50,⟨some 52,.sliceS (.t 47) none (some (.t 51)),none⟩,⟨some 53,.bin .add .str (.t 52) (.c (.str [46])),none⟩,oM 54 7,oM 55 7,⟨some 56,.len true (.t 55),none⟩,oM 57 6,oT 58 .sub 56 57,⟨some 59,.sliceS (.t 54) (some (.t 58)) none,none⟩,⟨some 60,.bin .add .str (.t 53) (.t 59),none⟩,oM 7 60])) .skip)) (cS [oM 61 7,oM 62 7,⟨some 63,.len true (.t 62),none⟩,da 64 .leq 63 40,oM 2 61,oM 3 64] .ret))))) (cR [oM 21 6,da 22 .add 21 1,oM 6 22])))))) (cS [⟨some 2,.mv (.c (.str [])),none⟩,oB 3 false] .ret))))))⟩
def oh:aL:=⟨27,[(.tmp 2)],(cS [oX 1 0,oB 2 false] (cS [oF 3 0 1,oF 4 1 3,oL 5 1 4,oN 6 5,da 7 .eql 6 0,oM 8 7,gF 9 2 1 8 true,gF 10 1 9 8 true,gL 11 1 10 8 true,gN 12 11 8 true,⟨some 13,.bin .eql .int (.t 12) (.c (.int .i64 0)),some (8,true)⟩,nY 14 8 13,oM 15 14,gF 16 0 1 15 true,gF 17 0 16 15 true,gL 18 1 17 15 true,⟨some 19,.un .not (.t 18),some (15,true)⟩,nY 20 15 19,oM 21 20,gF 22 2 1 21 true,gF 23 0 22 21 true,gL 24 1 23 21 true,⟨some 25,.un .not (.t 24),some (21,true)⟩,nY 26 21 25,oM 2 26] .ret))⟩
def nk (np:Nat):aL:=⟨20,[(.tmp 2)],(cS [oX 1 0,oI 2 0] (cS [oI 3 0] (.seq (cS [oF 6 6 1,oL 7 1 6,oN 8 7,oI 9 0] (.block 0 (.loop (cS [oT 10 .lss 9 8] (.seq (.cond (.t 10) .skip (.exit 0)) (.seq (.block 1 (cS [oA 11 7 7 9,jJ 12 7 11,⟨some 5,.box (.c (.agg [(.int .i64 0),(.bool false),.nils,(.bool false),.nils,(.str []),.nils])),none⟩,oS 7 5 12] (cR [oM 13 3,jJ 14 7 5,oC 15 np 14,⟨some 16,.max (.t 13) (.t 15),none⟩,oM 3 16]))) (cR [da 17 .add 9 1,oM 9 17]))))))) (cS [oM 18 3,da 19 .add 18 1,oM 2 19] .ret))))⟩
def jF (zf np:Nat):aL:=⟨11,[(.tmp 2)],(cS [oX 1 0,oI 2 0] (.seq (.block 0 (cS [jJ 4 7 1,oC 5 zf 4,xu 6 5,oM 3 6] (.cond (.t 3) (cS [oI 2 1] .ret) (cS [jJ 8 7 1,oC 9 np 8,da 10 .gtr 9 40,oM 7 10] (.cond (.t 7) (cS [oI 2 3] .ret) .skip))))) (cS [oI 2 0] .ret)))⟩
def dx (rS sY p7 p8 sZ qL tR:Nat):aL:=⟨60,[(.tmp 2),(.tmp 3)],(cS [oX 1 0,⟨some 2,.mv (.c (.str [])),none⟩,oB 3 false] (.seq (cS [jJ 9 4 1,oC 10 rS 9,xu 11 10,oM 12 11,Et 13 4 1 12 false,⟨some 14,.call (.f sY) [.t 13],some (12,false)⟩,⟨some 15,.bin .lss .int (.t 14) (.c (.int .i64 0)),some (12,false)⟩,tf 16 12 15] (.cond (.t 16) (cS [⟨some 2,.mv (.c (.str [])),none⟩,oB 3 false] .ret) .skip)) (cS [⟨some 17,.call (.f p7) [(.c (.int .i64 10))],none⟩,⟨some 4,.box (.c (.agg [(.bool false),.nils,(.bool false),.nils])),none⟩,oS 4 4 17] (cS [⟨some 18,.call (.f p8) [(.c (.int .i64 1))],none⟩,⟨some 5,.box (.c (.agg [(.bool false),.nils])),none⟩,oS 2 5 18] (cS [jJ 19 4 1,⟨some 6,.box (.c (.agg [(.bool false),.nils,(.bool false),.nils])),none⟩,oS 4 6 19] (.seq (cS [oI 7 0] (.block 0 (.loop (.seq (cS [oM 20 7,da 21 .leq 20 40] (.cond (.t 21) .skip (.exit 0))) (.seq (.block 1 (.seq (cS [oF 24 2 6,jJ 25 2 24,jJ 26 2 5,qC 27 sZ 25 26] (.cond (.t 27) (cS [oF 28 0 6,jJ 29 2 28,oC 30 qL 29,oM 8 30] (.seq (.block 2 (.loop (.seq (cS [oM 31 8,⟨some 32,.len true (.t 31),none⟩,oM 33 7,oT 34 .leq 32 33] (.cond (.t 34) .skip (.exit 2))) (.block 3 (cR [oM 35 8,⟨some 36,.bin .add .str (.c (.str [48])) (.t 35),none⟩,oM 8 36]))))) (.seq (cS [oM 37 7,da 38 .gtr 37 0] (.cond (.t 38) (.reg (some []) [oM 39 8,oM 40 8,⟨some 41,.len true (.t 40),none⟩,oM 42 7,oT 43 .sub 41 42,⟨some 44,.sliceS (.t 39) none (some (.t 43)),none⟩,⟨some 45,.bin .add .str (.t 44) (.c (.str [46])),none⟩,oM 46 8,oM 47 8,⟨some 48,.len true (.t 47),none⟩,oM 49 7,oT 50 .sub 48 49,⟨some 51,.sliceS (.t 46) (some (.t 50)) none,none⟩,⟨some 52,.bin .add .str (.t 45) (.t 51),none⟩,oM 8 52]) .skip)) (cS [oM 53 8,oM 54 8,⟨some 55,.len true (.t 54),none⟩,da 56 .leq 55 40,oM 2 53,oM 3 56] .ret)))) .skip)) (cR [jJ 57 4 6,jJ 58 4 4,qC 59 tR 57 58,oS 4 6 59]))) (cR [oM 22 7,da 23 .add 22 1,oM 7 23])))))) (cS [⟨some 2,.mv (.c (.str [])),none⟩,oB 3 false] .ret)))))))⟩
def gp (rT iV:Nat):aL:=⟨21,[(.tmp 2)],(cS [oX 1 0,oB 2 false] (.seq (cS [jJ 4 7 1,oC 5 rT 4,xu 6 5] (.cond (.t 6) (cS [oB 2 false] .ret) .skip)) (.seq (cS [oI 3 0] (.block 0 (.loop (.seq (cS [oM 7 3,oF 8 6 1,oL 9 1 8,oN 10 9,oT 11 .lss 7 10] (.cond (.t 11) .skip (.exit 0))) (.seq (.block 1 (cS [oF 14 6 1,oL 15 1 14,oM 16 3,oA 17 7 15 16,jJ 18 7 17,oC 19 iV 18,xu 20 19] (.cond (.t 20) (cS [oB 2 false] .ret) .skip))) (cR [oM 12 3,da 13 .add 12 1,oM 3 13])))))) (cS [oB 2 true] .ret))))⟩
def jt (ju:Nat):aL:=⟨22,[(.tmp 2)],(cS [oX 1 0,oI 2 0] (cS [oI 3 0] (.seq (cS [oI 4 0] (.block 0 (.loop (.seq (cS [oM 5 4,oF 6 6 1,oL 7 1 6,oN 8 7,oT 9 .lss 5 8] (.cond (.t 9) .skip (.exit 0))) (.seq (.block 1 (cR [oM 12 3,oF 13 6 1,oL 14 1 13,oM 15 4,oA 16 7 14 15,jJ 17 7 16,oC 18 ju 17,⟨some 19,.max (.t 12) (.t 18),none⟩,oM 3 19])) (cR [oM 10 4,da 11 .add 10 1,oM 4 11])))))) (cS [oM 20 3,da 21 .add 20 1,oM 2 21] .ret))))⟩
def eS (iV ju:Nat):aL:=⟨9,[(.tmp 2)],(cS [oX 1 0,oI 2 0] (.seq (cS [jJ 3 7 1,oC 4 iV 3,xu 5 4] (.cond (.t 5) (cS [oI 2 1] .ret) .skip)) (.seq (cS [jJ 6 7 1,oC 7 ju 6,da 8 .gtr 7 40] (.cond (.t 8) (cS [oI 2 3] .ret) .skip)) (cS [oI 2 0] .ret))))⟩
def jv (jx:Nat):aL:=⟨31,[(.tmp 4)],(cS [oX 2 0,oI 4 0] (cS [oI 5 1] (.seq (cS [oI 6 0] (.block 0 (.loop (.seq (cS [oM 7 6,oF 8 6 2,oL 9 1 8,oN 10 9,oT 11 .lss 7 10,oM 12 11,gM 13 5 12 true,gM 14 1 12 true,gT 15 .leq 13 14 12 true,nY 16 12 15] (.cond (.t 16) .skip (.exit 0))) (.seq (.block 1 (cR [oM 19 5,oF 20 6 2,oL 21 1 20,oM 22 6,oA 23 7 21 22,jJ 24 7 23,oM 25 1,oM 26 5,oT 27 .sub 25 26,qC 28 jx 24 27,oT 29 .add 19 28,oM 5 29])) (cR [oM 17 6,da 18 .add 17 1,oM 6 18])))))) (cS [oM 30 5,oM 4 30] .ret))))⟩
def jy (jz:Nat):aL:=⟨38,[(.tmp 2)],(cS [oX 1 0,oB 2 false] (.seq (cS [oI 3 0] (.block 0 (.loop (.seq (cS [oM 4 3,oF 5 6 1,oL 6 1 5,oN 7 6,oT 8 .lss 4 7] (.cond (.t 8) .skip (.exit 0))) (.seq (.block 1 (cS [oF 11 6 1,oL 12 1 11,oM 13 3,oA 14 7 12 13,jJ 15 7 14,oC 16 jz 15,xu 17 16] (.cond (.t 17) (cS [oB 2 false] .ret) .skip))) (cR [oM 9 3,da 10 .add 9 1,oM 3 10])))))) (cS [oF 18 1 1,oF 19 0 18,oF 20 1 19,oL 21 1 20,oN 22 21,da 23 .leq 22 8,oM 24 23,gF 25 1 1 24 true,gF 26 2 25 24 true,gF 27 1 26 24 true,gL 28 1 27 24 true,gN 29 28 24 true,⟨some 30,.bin .leq .int (.t 29) (.c (.int .i64 8)),some (24,true)⟩,nY 31 24 30,oM 32 31,gF 33 5 1 32 true,gL 34 1 33 32 true,⟨some 35,.len true (.t 34),some (32,true)⟩,⟨some 36,.bin .leq .int (.t 35) (.c (.int .i64 60)),some (32,true)⟩,nY 37 32 36,oM 2 37] .ret)))⟩
def gH (jx jz:Nat):aL:=⟨10,[(.tmp 2)],(cS [oX 1 0,oB 2 false] (cS [jJ 3 7 1,⟨some 4,.call (.f jx) [(.t 3),(.c (.int .i64 120))],none⟩,da 5 .leq 4 120,oM 6 5,Et 7 7 1 6 true,⟨some 8,.call (.f jz) [.t 7],some (6,true)⟩,nY 9 6 8,oM 2 9] .ret))⟩
def eI (s5:Nat):aL:=⟨17,[(.tmp 2)],(cS [oB 2 false] (cS [oM 3 0,⟨some 4,.bin .neq .str (.t 3) (.c (.str [])),none⟩,oM 5 4,gM 6 0 5 true,⟨some 7,.len true (.t 6),some (5,true)⟩,⟨some 8,.bin .leq .int (.t 7) (.c (.int .i64 24)),some (5,true)⟩,nY 9 5 8,oM 10 9,gM 11 0 10 true,⟨some 12,.call (.f s5) [(.t 11),(.c (.int .i64 0))],some (10,true)⟩,gM 13 0 10 true,⟨some 14,.len true (.t 13),some (10,true)⟩,gT 15 .eql 12 14 10 true,nY 16 10 15,oM 2 16] .ret))⟩
def fJ (lv rU:Nat):aL:=⟨42,[(.tmp 4)],(cS [oI 4 0] (.seq (cS [oM 5 1,oM 6 0,⟨some 7,.len true (.t 6),none⟩,oT 8 .eql 5 7,oM 9 8,gM 10 0 9 false,gM 11 1 9 false,⟨some 12,.indexS (.t 10) (.t 11),some (9,false)⟩,⟨some 13,.call (.f lv) [.t 12],some (9,false)⟩,⟨some 14,.un .not (.t 13),some (9,false)⟩,tf 15 9 14] (.cond (.t 15) (cS [oM 16 1,oM 4 16] .ret) .skip)) (.seq (.block 0 (.loop (.seq (cS [oM 17 1,oM 18 0,⟨some 19,.len true (.t 18),none⟩,oT 20 .lss 17 19,oM 21 20,gM 22 0 21 true,gM 23 1 21 true,⟨some 24,.indexS (.t 22) (.t 23),some (21,true)⟩,⟨some 25,.call (.f lv) [.t 24],some (21,true)⟩,gM 26 25 21 true,gM 27 0 26 false,gM 28 1 26 false,⟨some 29,.indexS (.t 27) (.t 28),some (26,false)⟩,⟨some 30,.call (.f rU) [.t 29],some (26,false)⟩,⟨some 31,.pick (.t 26) (.c (.bool true)) (.t 30),some (21,true)⟩,gM 32 31 21 true,gM 33 0 32 false,gM 34 1 32 false,⟨some 35,.indexS (.t 33) (.t 34),some (32,false)⟩,⟨some 36,.bin .eql .int (.t 35) (.c (.int .u8 95)),some (32,false)⟩,⟨some 37,.pick (.t 32) (.c (.bool true)) (.t 36),some (21,true)⟩,nY 38 21 37] (.cond (.t 38) .skip (.exit 0))) (.block 1 (cR [oM 39 1,da 40 .add 39 1,oM 1 40]))))) (cS [oM 41 1,oM 4 41] .ret))))⟩
def qM:aL:=⟨17,[(.tmp 2)],(cS [oB 2 false] (cS [oM 3 0,⟨some 4,.bin .geq .int (.t 3) (.c (.int .u8 97)),none⟩,oM 5 4,gM 6 0 5 true,⟨some 7,.bin .leq .int (.t 6) (.c (.int .u8 122)),some (5,true)⟩,nY 8 5 7,oM 9 8,gM 10 0 9 false,⟨some 11,.bin .geq .int (.t 10) (.c (.int .u8 65)),some (9,false)⟩,gM 12 11 9 false,gM 13 0 12 true,⟨some 14,.bin .leq .int (.t 13) (.c (.int .u8 90)),some (12,true)⟩,⟨some 15,.pick (.t 12) (.t 14) (.c (.bool false)),some (9,false)⟩,tf 16 9 15,oM 2 16] .ret))⟩
def rV:aL:=⟨9,[(.tmp 2)],(cS [oB 2 false] (cS [oM 3 0,⟨some 4,.bin .geq .int (.t 3) (.c (.int .u8 48)),none⟩,oM 5 4,gM 6 0 5 true,⟨some 7,.bin .leq .int (.t 6) (.c (.int .u8 57)),some (5,true)⟩,nY 8 5 7,oM 2 8] .ret))⟩
def iF (iW:Nat):aL:=⟨54,[(.tmp 2)],(cS [⟨some 2,.mv (.c (.str [])),none⟩] (cS [oI 3 (-1-0)] (.seq (cS [oI 4 0] (.block 0 (.loop (.seq (cS [oM 5 4,oM 6 0,⟨some 7,.len true (.t 6),none⟩,oT 8 .lss 5 7] (.cond (.t 8) .skip (.exit 0))) (.seq (.block 1 (.seq (cS [oM 11 0,oM 12 4,⟨some 13,.indexS (.t 11) (.t 12),none⟩,⟨some 14,.bin .lss .int (.t 13) (.c (.int .u8 33)),none⟩,oM 15 14,gM 16 0 15 false,gM 17 4 15 false,⟨some 18,.indexS (.t 16) (.t 17),some (15,false)⟩,⟨some 19,.bin .gtr .int (.t 18) (.c (.int .u8 126)),some (15,false)⟩,tf 20 15 19] (.cond (.t 20) (cS [⟨some 2,.mv (.c (.str [])),none⟩] .ret) .skip)) (cS [oM 21 0,oM 22 4,⟨some 23,.indexS (.t 21) (.t 22),none⟩,⟨some 24,.bin .eql .int (.t 23) (.c (.int .u8 47)),none⟩,oM 25 24,gM 26 3 25 true,⟨some 27,.bin .lss .int (.t 26) (.c (.int .i64 0)),some (25,true)⟩,nY 28 25 27] (.cond (.t 28) (cR [oM 29 4,oM 3 29]) .skip)))) (cR [oM 9 4,da 10 .add 9 1,oM 4 10])))))) (.seq (cS [oM 30 3,da 31 .lss 30 0,oM 32 31,gM 33 3 32 false,gM 34 0 32 false,⟨some 35,.len true (.t 34),some (32,false)⟩,⟨some 36,.bin .sub .int (.t 35) (.c (.int .i64 1)),some (32,false)⟩,gT 37 .eql 33 36 32 false,tf 38 32 37,oM 39 38,gM 40 0 39 false,⟨some 41,.len true (.t 40),some (39,false)⟩,⟨some 42,.bin .gtr .int (.t 41) (.c (.int .i64 200)),some (39,false)⟩,tf 43 39 42,oM 44 43,gM 45 0 44 false,gM 46 3 44 false,⟨some 47,.sliceS (.t 45) none (some (.t 46)),some (44,false)⟩,⟨some 48,.call (.f iW) [.t 47],some (44,false)⟩,⟨some 49,.un .not (.t 48),some (44,false)⟩,tf 50 44 49] (.cond (.t 50) (cS [⟨some 2,.mv (.c (.str [])),none⟩] .ret) .skip)) (cS [oM 51 0,oM 52 3,⟨some 53,.sliceS (.t 51) none (some (.t 52)),none⟩,oM 2 53] .ret)))))⟩
def kq:aL:=⟨18,[(.tmp 4)],(cS [oB 4 false] (.seq (cS [oI 5 0] (.block 0 (.loop (.seq (cS [oM 6 5,oM 7 0,oN 8 7,oT 9 .lss 6 8] (.cond (.t 9) .skip (.exit 0))) (.seq (.block 1 (cS [oM 12 0,oM 13 5,oA 14 1 12 13,oL 15 1 14,oM 16 1,⟨some 17,.bin .eql .str (.t 15) (.t 16),none⟩] (.cond (.t 17) (cS [oB 4 true] .ret) .skip))) (cR [oM 10 5,da 11 .add 10 1,oM 5 11])))))) (cS [oB 4 false] .ret)))⟩
def cD (iW rW iG:Nat):aL:=⟨59,[(.tmp 2)],(cS [oX 1 0,oB 2 false] (.seq (cS [oF 5 0 1,oL 6 1 5,oC 7 iW 6,xu 8 7,oM 9 8,gF 10 1 1 9 false,gL 11 1 10 9 false,⟨some 12,.bin .lss .int (.t 11) (.c (.int .i64 1)),some (9,false)⟩,tf 13 9 12,oM 14 13,gF 15 1 1 14 false,gL 16 1 15 14 false,⟨some 17,.bin .gtr .int (.t 16) (.c (.int .i64 6)),some (14,false)⟩,tf 18 14 17,oM 19 18,gF 20 2 1 19 false,gL 21 1 20 19 false,gN 22 21 19 false,⟨some 23,.bin .gtr .int (.t 22) (.c (.int .i64 50)),some (19,false)⟩,tf 24 19 23,oM 25 24,gF 26 3 1 25 false,gL 27 1 26 25 false,gN 28 27 25 false,⟨some 29,.bin .gtr .int (.t 28) (.c (.int .i64 10)),some (25,false)⟩,tf 30 25 29] (.cond (.t 30) (cS [oB 2 false] .ret) .skip)) (.seq (cS [oI 3 0] (.block 0 (.loop (.seq (cS [oM 31 3,oF 32 3 1,oL 33 1 32,oN 34 33,oT 35 .lss 31 34] (.cond (.t 35) .skip (.exit 0))) (.seq (.block 1 (cS [oF 38 3 1,oL 39 1 38,oM 40 3,oA 41 7 39 40,jJ 42 7 41,oC 43 rW 42,da 44 .neq 43 0] (.cond (.t 44) (cS [oB 2 false] .ret) .skip))) (cR [oM 36 3,da 37 .add 36 1,oM 3 37])))))) (.seq (cS [oI 4 0] (.block 2 (.loop (.seq (cS [oM 45 4,oF 46 2 1,oL 47 1 46,oN 48 47,oT 49 .lss 45 48] (.cond (.t 49) .skip (.exit 2))) (.seq (.block 3 (cS [oF 52 2 1,oL 53 1 52,oM 54 4,oA 55 1 53 54,oL 56 1 55,oC 57 iG 56,⟨some 58,.bin .eql .str (.t 57) (.c (.str [])),none⟩] (.cond (.t 58) (cS [oB 2 false] .ret) .skip))) (cR [oM 50 4,da 51 .add 50 1,oM 4 51])))))) (cS [oB 2 true] .ret)))))⟩
def gI (jo iG iu:Nat):aL:=⟨60,[(.tmp 2)],(cS [oX 1 0,oZ 2] (cS [oZ 3] (.seq (cS [jJ 9 5 1,oC 10 jo 9,xu 11 10] (.cond (.t 11) (cS [oZ 2] .ret) .skip)) (.seq (cS [oI 4 0] (.block 0 (.loop (.seq (cS [oM 12 4,oF 13 2 1,oL 14 1 13,oN 15 14,oT 16 .lss 12 15] (.cond (.t 16) .skip (.exit 0))) (.seq (.block 1 (cS [oF 19 2 1,oL 20 1 19,oM 21 4,oA 22 1 20 21,oL 23 1 22,oC 24 iG 23,oM 5 24] (.seq (cS [oM 25 3,oM 26 5,qC 27 iu 25 26] (.cond (.t 27) (.exit 1) .skip)) (cS [oZ 6] (.seq (cS [oI 7 0] (.block 2 (.loop (.seq (cS [oM 28 7,oM 29 3,oN 30 29,oT 31 .lss 28 30,oM 32 31,gM 33 3 32 true,gM 34 7 32 true,⟨some 35,.iaddrS 1 (.t 33) (.t 34),some (32,true)⟩,gL 36 1 35 32 true,gM 37 5 32 true,⟨some 38,.bin .lss .str (.t 36) (.t 37),some (32,true)⟩,nY 39 32 38] (.cond (.t 39) .skip (.exit 2))) (.seq (.block 3 (cR [oM 42 6,oM 43 3,oM 44 7,oA 45 1 43 44,oL 46 1 45,⟨some 47,.buildSl 1 1 (.str []) [(0,(.t 46))],none⟩,Es 48 1 16 42 47,oM 6 48])) (cR [oM 40 7,da 41 .add 40 1,oM 7 41])))))) (cS [oM 49 6,oN 50 49,oM 8 50] (.reg (some [(2,6),(3,6)]) [oM 51 6,oM 52 5,⟨some 53,.buildSl 1 1 (.str []) [(0,(.t 52))],none⟩,Es 54 1 16 51 53,oM 55 3,oM 56 8,⟨some 57,.slice 1 (.t 55) (some (.t 56)) none none,none⟩,Es 58 1 16 54 57,oM 3 58]))))))) (cR [oM 17 4,da 18 .add 17 1,oM 4 18])))))) (cS [oM 59 3,oM 2 59] .ret)))))⟩
def dR (rX:Nat):aL:=⟨49,[(.tmp 2)],(cS [oX 1 0,oB 2 false] (.seq (cS [oF 5 2 1,oL 6 1 5,oN 7 6,da 8 .gtr 7 60,oM 9 8,gF 10 3 1 9 false,gL 11 1 10 9 false,gN 12 11 9 false,⟨some 13,.bin .gtr .int (.t 12) (.c (.int .i64 12)),some (9,false)⟩,tf 14 9 13,oM 15 14,gF 16 0 1 15 false,gL 17 1 16 15 false,⟨some 18,.len true (.t 17),some (15,false)⟩,⟨some 19,.bin .gtr .int (.t 18) (.c (.int .i64 100)),some (15,false)⟩,tf 20 15 19] (.cond (.t 20) (cS [oB 2 false] .ret) .skip)) (.seq (cS [oI 3 0] (.block 0 (.loop (.seq (cS [oM 21 3,oF 22 2 1,oL 23 1 22,oN 24 23,oT 25 .lss 21 24] (.cond (.t 25) .skip (.exit 0))) (.seq (.block 1 (cS [oF 28 2 1,oL 29 1 28,oM 30 3,oA 31 1 29 30,oL 32 1 31,⟨some 33,.len true (.t 32),none⟩,da 34 .gtr 33 300] (.cond (.t 34) (cS [oB 2 false] .ret) .skip))) (cR [oM 26 3,da 27 .add 26 1,oM 3 27])))))) (.seq (cS [oI 4 0] (.block 2 (.loop (.seq (cS [oM 35 4,oF 36 3 1,oL 37 1 36,oN 38 37,oT 39 .lss 35 38] (.cond (.t 39) .skip (.exit 2))) (.seq (.block 3 (cS [oF 42 3 1,oL 43 1 42,oM 44 4,oA 45 7 43 44,jJ 46 7 45,oC 47 rX 46,xu 48 47] (.cond (.t 48) (cS [oB 2 false] .ret) .skip))) (cR [oM 40 4,da 41 .add 40 1,oM 4 41])))))) (cS [oB 2 true] .ret)))))⟩
def dN (p9 oi:Nat):aL:=⟨45,[(.tmp 2)],(cS [oB 2 false] (cS [oM 8 0,⟨some 9,.call (.f p9) [(.t 8),(.c (.str [47]))],none⟩,oM 7 9,oE 10 7 0,oE 11 7 1,oE 12 7 2,oM 3 10,oM 4 11,oM 5 12] (.seq (cS [oM 13 5,xu 14 13,oM 15 14,gM 16 4 15 false,⟨some 17,.bin .eql .str (.t 16) (.c (.str [])),some (15,false)⟩,tf 18 15 17,oM 19 18,gM 20 0 19 false,⟨some 21,.len true (.t 20),some (19,false)⟩,⟨some 22,.bin .gtr .int (.t 21) (.c (.int .i64 200)),some (19,false)⟩,tf 23 19 22,oM 24 23,gM 25 3 24 false,⟨some 26,.call (.f oi) [.t 25],some (24,false)⟩,⟨some 27,.un .not (.t 26),some (24,false)⟩,tf 28 24 27] (.cond (.t 28) (cS [oB 2 false] .ret) .skip)) (.seq (cS [oM 29 0,⟨some 30,.len true (.t 29),none⟩,oI 31 0] (.block 0 (.loop (cS [oT 32 .lss 31 30] (.seq (.cond (.t 32) .skip (.exit 0)) (.seq (.block 1 (cS [oM 33 31,oM 6 33] (cS [oM 34 0,oM 35 6,⟨some 36,.indexS (.t 34) (.t 35),none⟩,⟨some 37,.bin .lss .int (.t 36) (.c (.int .u8 33)),none⟩,oM 38 37,gM 39 0 38 false,gM 40 6 38 false,⟨some 41,.indexS (.t 39) (.t 40),some (38,false)⟩,⟨some 42,.bin .gtr .int (.t 41) (.c (.int .u8 126)),some (38,false)⟩,tf 43 38 42] (.cond (.t 43) (cS [oB 2 false] .ret) .skip)))) (cR [da 44 .add 31 1,oM 31 44]))))))) (cS [oB 2 true] .ret)))))⟩
def lR (tT:Nat):aL:=⟨6,[(.tmp 2)],(cS [oB 2 false] (cS [oM 3 0,oC 4 tT 3,xu 5 4,oM 2 5] .ret))⟩
def lS (AB:Nat):aL:=⟨6,[(.tmp 2)],(cS [oX 1 0,oB 2 false] (cS [jJ 3 7 1,oC 4 AB 3,da 5 .neq 4 0,oM 2 5] .ret))⟩
section
open Go.Lib
def pk:Nat->Nat->List UInt8
 | 0,_=>[]
 | k+1,r=>pk k (r/10)++[UInt8.ofNat (48+r%10)]
theorem tU {n:Nat} (h:n<10):decDigits n=[UInt8.ofNat (48+n)]:=decDigits_one h
theorem F7 {n:Nat} (h : ¬ n<10):decDigits n=decDigits (n/10)++[UInt8.ofNat (48+n%10)]:=by rw [decDigits,dif_neg h]
theorem Rr (k:Nat):∀ {n:Nat},10 ^ k<=n->0<k->decDigits n=decDigits (n/10 ^ k)++pk k (n%10 ^ k):=by
 induction k with
 | zero=>intro n _ h;omega
 | succ k ih =>
   intro n h _
   have TK:10<=n:=by
     have:0<10 ^ k:=Nat.pow_pos (by decide)
     rw [Nat.pow_succ] at h;omega
   rw [F7 (by omega)]
   have e1:n%10 ^ (k+1)/10=n/10%10 ^ k:=by rw [Nat.pow_succ,Nat.mul_comm,Nat.mod_mul_right_div_self]
   have e2:n%10 ^ (k+1)%10=n%10:=by rw [Nat.pow_succ,Nat.mul_comm,Nat.mod_mul_right_mod]
   have e3:n/10 ^ (k+1)=n/10/10 ^ k:=by rw [Nat.pow_succ,Nat.mul_comm,Nat.div_div_eq_div_mul]
   simp only [pk]
   rw [e1,e2,e3, <- List.append_assoc]
   congr 1
   rcases Nat.eq_zero_or_pos k with hk | hk
   . subst hk;simp [pk]
   . refine ih ?_ hk
     rw [Nat.pow_succ,Nat.mul_comm] at h
     exact (Nat.le_div_iff_mul_le (by decide)).2 (by rw [Nat.mul_comm];exact h)
theorem MR {k:Nat}:∀ {r:Nat},0<k->r<10 ^ k->nDigits r<=k:=by
 induction k with
 | zero=>intro r h;omega
 | succ k ih =>
   intro r _ h
   by_cases hr:r<10
   . rw [nDigits_small hr];omega
   . rw [nDigits_big hr]
     have hk:0<k:=by
       rcases Nat.eq_zero_or_pos k with e | e
       . subst e;simp at h;omega
       . exact e
     have:=ih (r:=r/10) hk (by rw [Nat.pow_succ] at h;exact Nat.div_lt_of_lt_mul (by rw [Nat.mul_comm];exact h))
     omega
theorem UF (k:Nat):pk k 0=List.replicate k 48:=by
 induction k with
 | zero=>rfl
 | succ k ih=>simp only [pk,Nat.zero_div,Nat.zero_mod];rw [ih,List.replicate_succ'];rfl
theorem WD (k:Nat):∀ {r:Nat},0<k->r<10 ^ k->pk k r=List.replicate (k-nDigits r) 48++decDigits r:=by
 induction k with
 | zero=>intro r h;omega
 | succ k ih =>
   intro r _ h
   simp only [pk]
   by_cases hr:r<10
   . rw [nDigits_small hr,tU hr,Nat.div_eq_of_lt hr,Nat.mod_eq_of_lt hr]
     rw [UF,Nat.add_sub_cancel]
   . have hk:0<k:=by
       rcases Nat.eq_zero_or_pos k with e | e
       . subst e;simp at h;omega
       . exact e
     have hlt:r/10<10 ^ k:=by rw [Nat.pow_succ] at h;exact Nat.div_lt_of_lt_mul (by rw [Nat.mul_comm];exact h)
     rw [ih hk hlt,nDigits_big hr,F7 hr, <- List.append_assoc]
     congr 3;omega
end
section
open Go.Lib
theorem UG (n:Nat) (hn:n≠0):(decDigits n).length<=10*ab n:=by
 rw [decDigits_length]
 have h1:=cG n
 have h2:au ^ ab n<=(10 ^ 10) ^ ab n:=Nat.pow_le_pow_left (by decide) _
 rw [<- Nat.pow_mul] at h2
 have hw:ab n≠0:=fun e=>hn (bC.1 e)
 exact MR (by omega) (Nat.lt_of_lt_of_le h1 h2)
theorem UH {a b:List UInt8} (h:(a++b).length<=maxLen):bn .add .str (.str a) (.str b)=some (.str (a++b)):=by
 have h':a.length+b.length<=maxLen:=by rw [<- List.length_append];exact h
 simp [bn,j3,PO,h']
theorem Yh {σ : aa} {q:Id} {x:Nat} (_hx:x<256):lq (σ.put q (some ⟨[.int .u8 (x:Int)],1,false⟩)) (.osl q 1 0 1 false)=some { val := .str [UInt8.ofNat x],rd:=[q] }:=by
 simp [lq,dB,aa.put,bytesOf]
theorem UI {σ : aa} {q:Id} {x:Nat}:bu σ q (.buildSl 1 1 (.int .u8 0) [(0, .int .u8 (x:Int))])=some { val := .osl q 1 0 1 false,up:=[(q,some ⟨[.int .u8 (x:Int)],1,false⟩)] }:=XA rfl rfl rfl rfl
section
variable {P:Program} {G:Nat->Option (List AV)}
theorem KC {f fn fb:FuncId} (h:Has P f (iU fn fb)) (hn:∀ z:Int,ab z.natAbs<=1000000->VP P G fn [IV z] (IV z))
   (JU:∀ m w:Nat,ab m<=1000000->w<au->w≠0->VP P G fb [W m, .int .u32 (w:Int)] (.tup [W (m/w), .int .u32 ((m%w:Nat):Int)])) (n:Nat) (hw:ab n<=1000000):VP P G f [IV (n:Int)] (.str (decDigits n)):=by
 refine VP.has h ?_
 simp only [iU,SS,Nat.reduceAdd,y5,ak,Kl]
 refine aj (hn n (by rw [k6];exact hw)) (by simp [kA]) ?_
 simp only [SS,Nat.reduceAdd]
 rw [y9 (k:=(IV (n:Int)).size) (y:=IV (n:Int)) rfl (XO _ _) (by simp [aa.put])]
 simp only [SS,Nat.reduceAdd,ak,z7,k6,az]
 refine VW.bG (α := Nat × List UInt8 × Nat) (fun x=>⟨[.top, .ref [0] 0 0, .top, .str x.2.1,W x.1]++List.replicate 29 .top,
   aa.put (fun _=>none) [0] (some ⟨[IV (n:Int)],(IV (n:Int)).size,false⟩),x.2.2⟩)
   (fun x=>ab x.1<=ab n/\(x.1≠0->n≠0)/\(if x.1=0 then (if n=0 then x.2.1=[] else x.2.1=decDigits n) else decDigits n=decDigits x.1++x.2.1)) (fun x=>x.1) (n,[],1000) ?_ ?_ ?_
 . exact Wk.forget (by simp [Fg,List.replicate]) (fun j=>by simp only [aa.put];split<;>simp_all) (by simp only [];omega)
 . refine ⟨Nat.le_refl _,fun h=>h, ?_⟩
   simp only []
   by_cases h0:n=0
   . rw [if_pos h0,if_pos h0];trivial
   . rw [if_neg h0,List.append_nil]
 rintro ⟨m,s,nn⟩ ⟨hm,hmn,hs⟩
 simp only [] at hm hmn hs
 by_cases h0:m=0
 . rw [if_pos h0] at hs
   have d0:decide ((0:Int)<(ab m:Int))=false:=ag (by have:=bC.2 h0;omega)
   by_cases ry:n=0
   . rw [if_pos ry] at hs
     subst hs
     have e:decDigits n=[48]:=by rw [ry,tU (by decide)];rfl
     have ds:(([]:List UInt8)==[])=true:=by decide
     rw [e]
     simp only [SS,Nat.reduceAdd,bc,d0]
     exact ah▸ae rfl (af.str _)
   . rw [if_neg ry] at hs
     have hne:s≠[]:=by
       rw [hs];intro e
       have:=congrArg List.length e
       rw [decDigits_length] at this
       by_cases hr:n<10
       . rw [nDigits_small hr] at this;simp at this
       . rw [nDigits_big hr] at this;simp at this
     have ds:(s==[])=false:=by simpa using hne
     rw [<- hs]
     simp only [SS,Nat.reduceAdd,bc,d0,ds,ak,Ws,not_neg]
     exact ah▸ae rfl (af.str _)
 . rw [if_neg h0] at hs
   have d0:decide ((0:Int)<(ab m:Int))=true:=ai (by have:ab m≠0:=fun e=>h0 (bC.1 e);omega)
   have hb:=JU m 10 (by omega) (by decide) (by decide)
   have hr:m%10<10:=Nat.mod_lt _ (by decide)
   have f1:IntKind.u32.wrap (48+((m%10:Nat):Int))=((48+m%10:Nat):Int):=by rw [IntKind.wrap_u32];omega
   have f2:IntKind.u8.wrap ((48+m%10:Nat):Int)=((48+m%10:Nat):Int):=by rw [IntKind.wrap_u8];omega
   have hlt:m/10<m:=Nat.div_lt_self (Nat.pos_of_ne_zero h0) (by decide)
   have hwm:ab (m/10)<=ab n:=Nat.le_trans (c9 (Nat.div_le_self _ _)) hm
   have qv:(if m/10=0 then (if n=0 then [UInt8.ofNat (48+m%10)]++s=[] else [UInt8.ofNat (48+m%10)]++s=decDigits n) else decDigits n=decDigits (m/10)++([UInt8.ofNat (48+m%10)]++s)):=by
     by_cases hq:m/10=0
     . have abn:m<10:=by omega
       rw [if_pos hq]
       rw [tU abn] at hs
       rw [if_neg (hmn h0),Nat.mod_eq_of_lt abn];exact hs.symm
     . rw [if_neg hq]
       rw [F7 (n:=m) (by omega)] at hs
       rw [hs];simp
   have ry:=hmn h0
   have vP:([UInt8.ofNat (48+m%10)]++s).length<=maxLen:=by
     have h1:=UG n ry
     have h2:=congrArg List.length hs
     rw [List.length_append,decDigits_length m] at h2
     have h3:1<=nDigits m:=by
       by_cases hr:m<10
       . rw [nDigits_small hr];exact Nat.le_refl _
       . rw [nDigits_big hr];omega
     refine bE ?_
     rw [List.length_append];simp;omega
   have hsa:bn .add .str (.str [UInt8.ofNat (48+m%10)]) (.str s)=some (.str ([UInt8.ofNat (48+m%10)]++s)):=UH vP
   simp only [SS,Nat.reduceAdd,bc,d0]
   refine aj hb (by simp [bp,af.int]) ?_
   simp only [SS,Nat.reduceAdd,wi,wj,f1,f2,UI,Yh (show 48+m%10<256 by omega),hsa]
   refine ⟨(m/10,[UInt8.ofNat (48+m%10)]++s,_),⟨hwm,fun _=>ry,qv⟩,hlt,Wk.forget (by simp [Fg]) (fun j => ?_) (Nat.le_refl _)⟩
   simp only [aa.put]
   by_cases e:j=[0]
   . subst e;right
     simp
   . left;simp [e]
end
end
section
open Go.Lib
def gz:Nat->Nat->Nat->Nat->Option (Nat × Nat)
 | 0,_,_,_=>none
 | n+1,p,a,b=>if b=1 then some (p,a) else gz n (p+1) (10*a/Nat.gcd (10*a) b) (b/Nat.gcd (10*a) b)
def b6 (p m:Nat):List UInt8:=List.replicate (p+1-(decDigits m).length) 48++decDigits m
def om (p m:Nat):List UInt8:=if p=0 then decDigits m else (b6 p m).take ((b6 p m).length-p)++[46]++(b6 p m).drop ((b6 p m).length-p)
def rY (lim a b:Nat):AV:=match gz lim 0 a b with
 | none => .tup [.str [], .bool false]
 | some (p,m) => .tup [.str (om p m), .bool (decide ((om p m).length<=40))]
def Ab (lim a b:Nat):Bool:=match gz lim 0 a b with
 | none=>false
 | some (p,m)=>decide ((om p m).length<=40)
theorem Cm:∀ (n p a b:Nat),gz (n+1) p a b=gz n p a b∨(gz n p a b=none/\∃ m,gz (n+1) p a b=some (p+n,m))
 | 0,p,a,b=>by
   by_cases h:b=1
   . right;exact ⟨rfl,a,by simp [gz,h]⟩
   . left;simp [gz,h]
 | n + 1,p,a,b=>by
   by_cases h:b=1
   . left;simp [gz,h]
   . have f1:gz (n+1+1) p a b=gz (n+1) (p+1) (10*a/Nat.gcd (10*a) b) (b/Nat.gcd (10*a) b):=by rw [gz,if_neg h]
     have f2:gz (n+1) p a b=gz n (p+1) (10*a/Nat.gcd (10*a) b) (b/Nat.gcd (10*a) b):=by rw [gz,if_neg h]
     rw [f1,f2]
     rcases Cm n (p+1) (10*a/Nat.gcd (10*a) b) (b/Nat.gcd (10*a) b) with e | ⟨e1,m,e2⟩
     . exact .inl e
     . exact .inr ⟨e1,m,by rw [e2,show p+1+n=p+(n+1) from by omega]⟩
theorem rZ (p m:Nat):p+1<=(b6 p m).length:=by unfold b6;rw [List.length_append,List.length_replicate];omega
theorem wo (p m:Nat) (hp:p≠0):(om p m).length=(b6 p m).length+1:=by
 unfold om;rw [if_neg hp]
 have:=rZ p m
 simp only [List.length_append,List.length_take,List.length_drop,List.length_singleton];omega
theorem OA (a b:Nat):Ab 41 a b=Ab 40 a b:=by
 unfold Ab
 rcases Cm 40 0 a b with e | ⟨e1,m,e2⟩
 . rw [e]
 . rw [e1,e2]
   have h1:=rZ (0+40) m
   have h2:=wo (0+40) m (by decide)
   exact decide_eq_false (by omega)
theorem oo (a b:Int):part true (RV a b).cells 0 4=some (RV a b):=rfl
theorem Rs (n1:Bool) (w1:List Nat) (n2:Bool) (w2:List Nat):part true (RR n1 w1 n2 w2).cells 0 4=some (RR n1 w1 n2 w2):=rfl
theorem EF {σ : aa} {id:Id} {k:Nat} {x y a b:Int} (h : σ id=some ⟨[RV x y],k,false⟩):eO σ 4 (.ref id 0 0) (RV a b)=some { val := .tup [],rd:=[id],up:=[(id,some ⟨[RV a b],k,false⟩)] }:=by
 rw [dw (n:=4) (v:=RV a b) h rfl rfl (by simp [AV.size,AV.cells,RV]) rfl]
 rfl
theorem gh (s:List UInt8) (b:Bool):af (.tup [.str s, .bool b]):=af.tup (by intro c hc;simp at hc;rcases hc with rfl | rfl;exact af.str _;exact af.bool _)
theorem zg {s:List UInt8} {l:Nat} (h:l<=s.length):o9 (.str s) none (some (.int .i64 (l:Int)))=some (.str (s.take l)):=by
 simp [o9,cm,dT,h]
theorem EG {s:List UInt8} {l:Nat} (h:l<=s.length):o9 (.str s) (some (.int .i64 (l:Int))) none=some (.str (s.drop l)):=by
 simp [o9,cm,dT,h]
theorem KD {a b c n m:Nat} (h:a<=b ^ c) (hb:0<b) (hm:c*n<=m):a ^ n<=b ^ m :=
 Nat.le_trans (Nat.pow_le_pow_left h n) (by rw [<- Nat.pow_mul];exact Nat.pow_le_pow_right hb hm)
theorem KE {x n k:Nat} (hk:0<k) (hx:ab x<=n) (h:10*n<=k):(decDigits x).length<=k:=by
 rw [decDigits_length]
 exact MR hk (Nat.lt_of_lt_of_le (cG x) (Nat.le_trans (Nat.pow_le_pow_right cP hx) (KD (c:=10) (by decide) (by decide) h)))
theorem EH {x:Nat} (h:ab x<=100):(decDigits x).length<=1000:=KE (by decide) h (by decide)
theorem qN {a b:List UInt8} (h:a.length+b.length<=maxLen):bn .add .str (.str a) (.str b)=some (.str (a++b)):=by simp [bn,j3,PO,h]
theorem Is {a b:Nat} (hb:b≠0):b/Nat.gcd (10*a) b≠0/\Nat.gcd (10*a/Nat.gcd (10*a) b) (b/Nat.gcd (10*a) b)=1/\10*a/Nat.gcd (10*a) b<=10*a/\b/Nat.gcd (10*a) b<=b:=by
 have hg:0<Nat.gcd (10*a) b:=Nat.gcd_pos_of_pos_right _ (Nat.pos_of_ne_zero hb)
 refine ⟨?_,Nat.coprime_div_gcd_div_gcd hg,Nat.div_le_self _ _,Nat.div_le_self _ _⟩
 have:0<b/Nat.gcd (10*a) b:=Nat.div_pos (Nat.le_of_dvd (Nat.pos_of_ne_zero hb) (Nat.gcd_dvd_right _ _)) hg
 omega
section
variable {P:Program} {G:Nat->Option (List AV)}
theorem KF {f fV fS UJ fI fC fM fF fR:FuncId} (h:Has P f (gn fV fS UJ fI fC fM fF fR)) (a b:Nat) (hb:b≠0) (hg:Nat.gcd a b=1) (ha:ab a<=8) (A2:ab b<=8)
   (hv:VP P G fV [RV (a:Int) (b:Int)] (.bool true)) (hs:VP P G fS [RV (a:Int) (b:Int)] (.int .i64 (a:Int).sign)) (Qe:VP P G UJ [.int .i64 10] (RV 10 1)) (hi:VP P G fI [.int .i64 1] (IV 1))
   (hc:∀ y:Nat,ab y<=1000->VP P G fC [IV (y:Int),IV 1] (.int .i64 (iy y 1)))
   (hm:∀ a b:Nat,b≠0->Nat.gcd a b=1->ab a<=1000->ab b<=1000->VP P G fM [RV (a:Int) (b:Int),RV 10 1] (RV ((10*a/Nat.gcd (10*a) b:Nat):Int) ((b/Nat.gcd (10*a) b:Nat):Int)))
   (hf:∀ n:Nat,ab n<=1000->VP P G fF [IV (n:Int)] (.str (decDigits n))) (hr:∀ z:Nat,z<=1000->VP P G fR [.str [48], .int .i64 (z:Int)] (.str (List.replicate z 48))) :
   VP P G f [RV (a:Int) (b:Int)] (rY 40 a b):=by
 refine VP.has h ?_
 have d0:decide ((a:Int).sign<0)=false:=ag (by rcases ki (a:Int) with ⟨e,p⟩ | ⟨e,p⟩ | ⟨e,p⟩<;>omega)
 simp only [gn,SS,Nat.reduceAdd,Cb,ak,oo]
 refine aj hv (by simp [mF]) ?_
 simp only [SS,Nat.reduceAdd,ak,oo]
 refine aj hs (by simp [mF]) ?_
 simp only [SS,Nat.reduceAdd,d0]
 refine aj Qe (by simp [af.int]) ?_
 simp only [SS,Nat.reduceAdd,y8]
 rw [za (k:=(AV.agg [.bool false, .nils, .bool false, .nils]).size) (by simp [aa.put])]
 simp only [SS,Nat.reduceAdd]
 refine aj hi (by simp [af.int]) ?_
 simp only [SS,Nat.reduceAdd,uF]
 rw [y9 (k:=(AV.agg [.bool false, .nils]).size) (y := .agg [.bool false, .nils]) rfl (Wv _) (by simp [aa.put])]
 simp only [SS,Nat.reduceAdd,az]
 refine VW.bG (α := Nat × Nat × Nat × Nat) (fun x=>⟨[RV (a:Int) (b:Int), .ref [0] 0 0, .str [], .bool false, .ref [12] 0 0, .ref [15] 0 0, .int .i64 ((x.1:Nat):Int)]++List.replicate 58 .top,
   ((aa.put (fun _=>none) [0] (some ⟨[RV (x.2.1:Int) (x.2.2.1:Int)],4,false⟩)).put [12] (some ⟨[RV 10 1],4,false⟩)).put [15] (some ⟨[IV 1],2,false⟩),x.2.2.2⟩)
   (fun x=>x.1<=40/\x.2.2.1≠0/\Nat.gcd x.2.1 x.2.2.1=1/\ab x.2.1<=8+x.1/\ab x.2.2.1<=8/\gz 40 0 a b=gz (40-x.1) x.1 x.2.1 x.2.2.1) (fun x=>40-x.1) (0,a,b,1000) ?_ ?_ ?_
 . refine Wk.forget (by simp [Fg,List.replicate]) (fun j => ?_) (by simp only [];omega)
   by_cases h1:j=[15]
   . subst h1;right;simp [aa.put];rfl
   by_cases h2:j=[12]
   . subst h2;right;simp [aa.put];rfl
   by_cases h3:j=[0]
   . subst h3;right;simp [aa.put];rfl
   . left;simp [aa.put,h1,h2,h3]
 . exact ⟨Nat.zero_le _,hb,hg,ha,A2,rfl⟩
 rintro ⟨p,x,y,nn⟩ ⟨hp,hy,WE,hwx,hwy,hgo⟩
 simp only [] at hp hy WE hwx hwy hgo
 unfold rY
 rw [hgo]
 by_cases aeW:p<40
 case neg =>
   have dp:decide ((p:Int)<40)=false:=ag (by omega)
   rw [show 40-p=0 from by omega]
   simp only [SS,Nat.reduceAdd,dp,gz]
   exact ah▸ae rfl (gh _ _)
 have dp:decide ((p:Int)<40)=true:=ai (by omega)
 obtain ⟨m,Yi⟩:∃ m,40-p=m+1:=⟨40-p-1,by omega⟩
 rw [Yi]
 have k1:([0]:List Nat)≠[12]:=by decide
 have k2:([0]:List Nat)≠[15]:=by decide
 have k3:([12]:List Nat)≠[15]:=by decide
 simp only [SS,Nat.reduceAdd,dp,ay k1,ay k2,ak,Wu,Kl]
 refine aj (hc y (by omega)) (by simp [kA]) ?_
 by_cases C4:y=1
 . have dc:decide (iy (y:Int) 1≠0)=false:=ag (by rw [C4];decide)
   simp only [SS,Nat.reduceAdd,dc]
   have Aw:gz (m+1) p x y=some (p,x):=by rw [gz,if_pos C4]
   have Yj:=EH (x:=x) (by omega)
   rw [Aw]
   simp only [SS,Nat.reduceAdd,ay k1,ay k2,ak,Q1]
   refine aj (hf x (by omega)) (by simp [kA]) ?_
   have xj:∀ (t:List UInt8),t.length<=2000->(decide ((t.length:Int)<=40))=decide (t.length<=40):=fun t _=>by by_cases h:t.length<=40<;>simp [h]<;>omega
   by_cases Yk:p=0
   . subst Yk
     have d1:decide ((0:Int)<((0:Nat):Int))=false:=by decide
     have e0:om 0 x=decDigits x:=if_pos rfl
     simp only [SS,Nat.reduceAdd,d1,e0]
     rw [xj _ (by omega)]
     exact ah▸ae rfl (gh _ _)
   . have d1:decide ((0:Int)<(p:Int))=true:=ai (by omega)
     have Lx:=rZ p x
     have e0:om p x=(b6 p x).take ((b6 p x).length-p)++[46]++(b6 p x).drop ((b6 p x).length-p):=if_neg Yk
     have hL:=wo p x Yk
     have vO:∀ q:Nat,q<=1100->p<=q->IntKind.i64.wrap ((q:Int)-(p:Int))=((q-p:Nat):Int):=fun q h1 h2=>by rw [IntKind.wrap_i64];omega
     have Yf:(b6 p x).length<=1100:=by unfold b6;rw [List.length_append,List.length_replicate];omega
     have mW:IntKind.i64.wrap ((p:Int)+1)=((p+1:Nat):Int):=by rw [IntKind.wrap_i64];omega
     have th:IntKind.i64.wrap (((p+1:Nat):Int)-((decDigits x).length:Int))=((p+1:Nat):Int)-((decDigits x).length:Int):=by rw [IntKind.wrap_i64];omega
     have mV:=vO _ Yf (by omega)
     have b1:=zg (s:=b6 p x) (l:=(b6 p x).length-p) (by omega)
     have b2:=EG (s:=b6 p x) (l:=(b6 p x).length-p) (by omega)
     have yD:bn .add .str (.str ((b6 p x).take ((b6 p x).length-p))) (.str [46])=some (.str ((b6 p x).take ((b6 p x).length-p)++[46])):=qN (by rw [List.length_take];simp [maxLen];omega)
     have Iu:bn .add .str (.str ((b6 p x).take ((b6 p x).length-p)++[46])) (.str ((b6 p x).drop ((b6 p x).length-p)))=some (.str (om p x)):=by rw [e0];exact qN (by rw [List.length_append,List.length_take,List.length_drop];simp [maxLen];omega)
     by_cases hn:(decDigits x).length<=p
     . have d2:decide ((0:Int)<((p+1-(decDigits x).length:Nat):Int))=true:=ai (by omega)
       have ez:((p+1:Nat):Int)-((decDigits x).length:Int)=((p+1-(decDigits x).length:Nat):Int):=by omega
       have epd:bn .add .str (.str (List.replicate (p+1-(decDigits x).length) 48)) (.str (decDigits x))=some (.str (b6 p x)):=qN (by rw [List.length_replicate];simp [maxLen];omega)
       have hw3:IntKind.i64.wrap ((p+1-(decDigits x).length:Nat):Int)=((p+1-(decDigits x).length:Nat):Int):=by rw [IntKind.wrap_i64];omega
       simp only [SS,Nat.reduceAdd,d1,mW,hw3,d2,ez]
       refine aj (hr (p+1-(decDigits x).length) (by omega)) (by simp [af.str,af.int]) ?_
       simp only [SS,DD,Nat.reduceAdd,epd,mV,b1,b2,yD,Iu]
       refine ⟨by simp [aJ,apart], ?_⟩
       rw [xj _ (by omega)]
       exact ah▸ae rfl (gh _ _)
     . have d2:decide ((0:Int)<((p+1:Nat):Int)-((decDigits x).length:Int))=false:=ag (by omega)
       have epd:decDigits x=b6 p x:=by unfold b6;rw [show p+1-(decDigits x).length=0 from by omega];rfl
       simp only [SS,Nat.reduceAdd,d1,mW,th,d2]
       rw [epd]
       simp only [SS,DD,Nat.reduceAdd,mV,b1,b2,yD,Iu]
       refine ⟨by simp [aJ,apart], ?_⟩
       rw [xj _ (by omega)]
       exact ah▸ae rfl (gh _ _)
 . have dc:decide (iy (y:Int) 1≠0)=true:=ai (by unfold iy;split;(· decide);split;(· decide);omega)
   simp only [SS,Nat.reduceAdd,dc,ay k1,ay k2,ay k3,ak,oo]
   refine aj (hm x y hy WE (by omega) (by omega)) (by simp [mF]) ?_
   simp only [SS,Nat.reduceAdd]
   rw [EF (k:=4) (x:=(x:Int)) (y:=(y:Int)) (by simp [aa.put])]
   simp only [SS,Nat.reduceAdd]
   obtain ⟨r1,r2,r3,r4⟩:=Is (a:=x) (b:=y) hy
   have hwp:IntKind.i64.wrap ((p:Int)+1)=((p+1:Nat):Int):=by rw [IntKind.wrap_i64];omega
   have Yl:ab (10*x/Nat.gcd (10*x) y)<=8+(p+1):=by
     have h1:=c9 r3
     have h2:=oa 10 x
     have h3:ab 10<=1:=iK (by decide)
     omega
   have Ym:ab (y/Nat.gcd (10*x) y)<=8:=Nat.le_trans (c9 r4) hwy
   have Yn:gz (m+1) p x y=gz (40-(p+1)) (p+1) (10*x/Nat.gcd (10*x) y) (y/Nat.gcd (10*x) y):=by
     rw [show 40-(p+1)=m from by omega,gz,if_neg C4]
   simp only [hwp]
   refine ⟨(p+1,10*x/Nat.gcd (10*x) y,y/Nat.gcd (10*x) y,nn+1000),⟨by simp only [];omega,r1,r2,Yl,Ym,Yn⟩,by simp only [];omega, ?_⟩
   refine Wk.forget (by simp [Fg]) (fun j => ?_) (by simp only [];omega)
   by_cases h1:j=[15]
   . subst h1;right;simp [aa.put]
   by_cases h2:j=[12]
   . subst h2;right;simp [aa.put]
   by_cases h3:j=[0]
   . subst h3;right;simp [aa.put]
   . left;simp [aa.put,h1,h2,h3]
end
end
section
open Go.Lib
theorem Yo (n:Nat):1<=(decDigits n).length:=by
 by_cases h:n<10
 . rw [tU h];exact Nat.le_refl _
 . rw [F7 h,List.length_append,List.length_singleton];omega
section
variable {P:Program} {G:Nat->Option (List AV)}
theorem Iv {f fV fS UJ fI fE fF fM:FuncId} (h:Has P f (dx fV fS UJ fI fE fF fM)) (a b:Nat) (hb:b≠0) (hg:Nat.gcd a b=1) (ha:ab a<=8) (A2:ab b<=8)
   (hv:VP P G fV [RV (a:Int) (b:Int)] (.bool true)) (hs:VP P G fS [RV (a:Int) (b:Int)] (.int .i64 (a:Int).sign)) (Qe:VP P G UJ [.int .i64 10] (RV 10 1)) (hi:VP P G fI [.int .i64 1] (IV 1))
   (hc:∀ y:Nat,ab y<=1000->VP P G fE [IV (y:Int),IV 1] (.bool (decide ((y:Int)=1))))
   (hm:∀ a b:Nat,b≠0->b≠1->Nat.gcd a b=1->ab a<=1000->ab b<=1000->VP P G fM [RV (a:Int) (b:Int),RV 10 1] (RV ((10*a/Nat.gcd (10*a) b:Nat):Int) ((b/Nat.gcd (10*a) b:Nat):Int)))
   (hf:∀ n:Nat,ab n<=1000->VP P G fF [IV (n:Int)] (.str (decDigits n))) :
   VP P G f [RV (a:Int) (b:Int)] (rY 41 a b):=by
 refine VP.has h ?_
 have d0:decide ((a:Int).sign<0)=false:=ag (by rcases ki (a:Int) with ⟨e,p⟩ | ⟨e,p⟩ | ⟨e,p⟩<;>omega)
 simp only [dx,SS,Nat.reduceAdd,Cb,ak,oo]
 refine aj hv (by simp [mF]) ?_
 simp only [SS,Nat.reduceAdd,ak,oo]
 refine aj hs (by simp [mF]) ?_
 simp only [SS,Nat.reduceAdd,d0]
 refine aj Qe (by simp [af.int]) ?_
 simp only [SS,Nat.reduceAdd,y8]
 rw [za (k:=(AV.agg [.bool false, .nils, .bool false, .nils]).size) (by simp [aa.put])]
 simp only [SS,Nat.reduceAdd]
 refine aj hi (by simp [af.int]) ?_
 simp only [SS,Nat.reduceAdd,uF]
 rw [y9 (k:=(AV.agg [.bool false, .nils]).size) (y := .agg [.bool false, .nils]) rfl (Wv _) (by simp [aa.put])]
 have k1:([0]:List Nat)≠[12]:=by decide
 have k2:([0]:List Nat)≠[15]:=by decide
 simp only [SS,Nat.reduceAdd,ay k1,ay k2,ak,oo,y8]
 rw [za (k:=(AV.agg [.bool false, .nils, .bool false, .nils]).size) (by simp [aa.put])]
 simp only [SS,Nat.reduceAdd,az]
 refine VW.bG (α := Nat × Nat × Nat × Nat) (fun x=>⟨[RV (a:Int) (b:Int), .ref [0] 0 0, .str [], .bool false, .ref [12] 0 0, .ref [15] 0 0, .ref [18] 0 0, .int .i64 ((x.1:Nat):Int)]++List.replicate 52 .top,
   ((aa.put (fun _=>none) [12] (some ⟨[RV 10 1],4,false⟩)).put [15] (some ⟨[IV 1],2,false⟩)).put [18] (some ⟨[RV (x.2.1:Int) (x.2.2.1:Int)],4,false⟩),x.2.2.2⟩)
   (fun x=>x.1<=41/\x.2.2.1≠0/\Nat.gcd x.2.1 x.2.2.1=1/\ab x.2.1<=8+x.1/\ab x.2.2.1<=8/\gz 41 0 a b=gz (41-x.1) x.1 x.2.1 x.2.2.1) (fun x=>41-x.1) (0,a,b,1000) ?_ ?_ ?_
 . refine Wk.forget (by simp [Fg,List.replicate]) (fun j => ?_) (by simp only [];omega)
   by_cases h1:j=[15]
   . subst h1;right;simp [aa.put];rfl
   by_cases h2:j=[12]
   . subst h2;right;simp [aa.put];rfl
   by_cases h3:j=[18]
   . subst h3;right;simp [aa.put];rfl
   . left;simp [aa.put,h1,h2,h3]
 . exact ⟨Nat.zero_le _,hb,hg,ha,A2,rfl⟩
 rintro ⟨p,x,y,nn⟩ ⟨hp,hy,WE,hwx,hwy,hgo⟩
 simp only [] at hp hy WE hwx hwy hgo
 unfold rY
 rw [hgo]
 by_cases aeW:p<41
 case neg =>
   have dp:decide ((p:Int)<=40)=false:=ag (by omega)
   rw [show 41-p=0 from by omega]
   simp only [SS,Nat.reduceAdd,dp,gz]
   exact ah▸ae rfl (gh _ _)
 have dp:decide ((p:Int)<=40)=true:=ai (by omega)
 obtain ⟨m,Yi⟩:∃ m,41-p=m+1:=⟨41-p-1,by omega⟩
 rw [Yi]
 have k1:([12]:List Nat)≠[18]:=by decide
 have k2:([15]:List Nat)≠[18]:=by decide
 have k3:([12]:List Nat)≠[15]:=by decide
 simp only [SS,Nat.reduceAdd,dp,ay k2,ak,Wu,Kl]
 refine aj (hc y (by omega)) (by simp [kA]) ?_
 by_cases C4:y=1
 . have dc:decide ((y:Int)=1)=true:=ai (by omega)
   have Aw:gz (m+1) p x y=some (p,x):=by rw [gz,if_pos C4]
   have Yj:=EH (x:=x) (by omega)
   have oH:1<=(decDigits x).length:=Yo x
   rw [Aw]
   simp only [SS,Nat.reduceAdd,dc,ak,Q1]
   refine aj (hf x (by omega)) (by simp [kA]) ?_
   have xj:∀ (t:List UInt8),t.length<=2000->(decide ((t.length:Int)<=40))=decide (t.length<=40):=fun t _=>by by_cases h:t.length<=40<;>simp [h]<;>omega
   simp only [SS,Nat.reduceAdd,az]
   refine VW.bG (α := Nat × Nat) (fun z=>⟨[RV (a:Int) (b:Int), .ref [0] 0 0, .str [], .bool false, .ref [12] 0 0, .ref [15] 0 0, .ref [18] 0 0, .int .i64 ((p:Nat):Int), .str (List.replicate z.1 48++decDigits x)]++List.replicate 51 .top,fun _=>none,z.2⟩)
     (fun z=>z.1<=p+1-(decDigits x).length) (fun z=>p+1-z.1) (0,nn+1000) ?_ ?_ ?_
   . exact Wk.forget (by simp [Fg,List.replicate]) (fun j => .inl rfl) (by simp only [];omega)
   . exact Nat.zero_le _
   rintro ⟨j,mm⟩ hj
   simp only [] at hj
   have hlen:(List.replicate j (48:UInt8)++decDigits x).length=j+(decDigits x).length:=by rw [List.length_append,List.length_replicate]
   by_cases hlt:j+(decDigits x).length<=p
   . have d1:decide (((j+(decDigits x).length:Nat):Int)<=(p:Int))=true:=ai (by omega)
     have sP:bn .add .str (.str [48]) (.str (List.replicate j 48++decDigits x))=some (.str (List.replicate (j+1) 48++decDigits x)):=by rw [List.replicate_succ,List.cons_append];exact qN (by rw [hlen];simp [maxLen];omega)
     simp only [SS,Nat.reduceAdd,hlen,d1,sP]
     exact ⟨(j+1,_),by simp only [];omega,by simp only [];omega,Wk.slots (by simp [Fg,List.replicate]) (Nat.le_refl _)⟩
   . have d1:decide (((j+(decDigits x).length:Nat):Int)<=(p:Int))=false:=ag (by omega)
     have ej:List.replicate j 48++decDigits x=b6 p x:=by unfold b6;rw [show p+1-(decDigits x).length=j from by omega]
     have Yf:(b6 p x).length<=1100:=by unfold b6;rw [List.length_append,List.length_replicate];omega
     rw [<- hlen] at d1
     rw [ej] at d1 ⊢
     by_cases Yk:p=0
     . subst Yk
       have d2:decide ((0:Int)<((0:Nat):Int))=false:=by decide
       have e0:om 0 x=b6 0 x:=by unfold b6;rw [show 0+1-(decDigits x).length=0 from by omega];exact if_pos rfl
       rw [e0]
       simp only [SS,Nat.reduceAdd,d1,d2]
       rw [xj _ (by omega)]
       exact ah▸ae rfl (gh _ _)
     . have d2:decide ((0:Int)<(p:Int))=true:=ai (by omega)
       have Lx:=rZ p x
       have e0:om p x=(b6 p x).take ((b6 p x).length-p)++[46]++(b6 p x).drop ((b6 p x).length-p):=if_neg Yk
       have hL:=wo p x Yk
       have vO:∀ q:Nat,q<=1100->p<=q->IntKind.i64.wrap ((q:Int)-(p:Int))=((q-p:Nat):Int):=fun q h1 h2=>by rw [IntKind.wrap_i64];omega
       have mV:=vO _ Yf (by omega)
       have b1:=zg (s:=b6 p x) (l:=(b6 p x).length-p) (by omega)
       have b2:=EG (s:=b6 p x) (l:=(b6 p x).length-p) (by omega)
       have yD:bn .add .str (.str ((b6 p x).take ((b6 p x).length-p))) (.str [46])=some (.str ((b6 p x).take ((b6 p x).length-p)++[46])):=qN (by rw [List.length_take];simp [maxLen];omega)
       have Iu:bn .add .str (.str ((b6 p x).take ((b6 p x).length-p)++[46])) (.str ((b6 p x).drop ((b6 p x).length-p)))=some (.str (om p x)):=by rw [e0];exact qN (by rw [List.length_append,List.length_take,List.length_drop];simp [maxLen];omega)
       simp only [SS,DD,Nat.reduceAdd,d1,d2,mV,b1,b2,yD,Iu]
       refine ⟨by simp [aJ,apart], ?_⟩
       rw [xj _ (by omega)]
       exact ah▸ae rfl (gh _ _)
 . have dc:decide ((y:Int)=1)=false:=ag (by omega)
   simp only [SS,Nat.reduceAdd,dc,ay k1,ay k3,ak,oo]
   refine aj (hm x y hy C4 WE (by omega) (by omega)) (by simp [mF]) ?_
   simp only [SS,Nat.reduceAdd]
   rw [EF (k:=4) (x:=(x:Int)) (y:=(y:Int)) (by simp [aa.put])]
   simp only [SS,Nat.reduceAdd]
   obtain ⟨r1,r2,r3,r4⟩:=Is (a:=x) (b:=y) hy
   have hwp:IntKind.i64.wrap ((p:Int)+1)=((p+1:Nat):Int):=by rw [IntKind.wrap_i64];omega
   have Yl:ab (10*x/Nat.gcd (10*x) y)<=8+(p+1):=by
     have h1:=c9 r3
     have h2:=oa 10 x
     have h3:ab 10<=1:=iK (by decide)
     omega
   have Ym:ab (y/Nat.gcd (10*x) y)<=8:=Nat.le_trans (c9 r4) hwy
   have Yn:gz (m+1) p x y=gz (41-(p+1)) (p+1) (10*x/Nat.gcd (10*x) y) (y/Nat.gcd (10*x) y):=by
     rw [show 41-(p+1)=m from by omega,gz,if_neg C4]
   simp only [hwp]
   refine ⟨(p+1,10*x/Nat.gcd (10*x) y,y/Nat.gcd (10*x) y,nn+1000),⟨by simp only [];omega,r1,r2,Yl,Ym,Yn⟩,by simp only [];omega, ?_⟩
   refine Wk.forget (by simp [Fg]) (fun j => ?_) (by simp only [];omega)
   by_cases h1:j=[15]
   . subst h1;right;simp [aa.put]
   by_cases h2:j=[12]
   . subst h2;right;simp [aa.put]
   by_cases h3:j=[18]
   . subst h3;right;simp [aa.put]
   . left;simp [aa.put,h1,h2,h3]
end
end
section
open Go.Lib
def MS (n1:Bool) (w1:List Nat) (n2:Bool) (w2:List Nat):Bool:=fj n1 w1&&fj n2 w2&&decide (0<iL n2 (val w2))&&decide (((Nat.gcd (val w1) (val w2):Nat):Int)=1)
def Dy (lim:Nat) (n1:Bool) (w1:List Nat) (n2:Bool) (w2:List Nat):AV:=if MS n1 w1 n2 w2=true /\ ¬ iL n1 (val w1)<0 then rY lim (val w1) (val w2) else .tup [.str [], .bool false]
def F8 (n1:Bool) (w1:List Nat) (n2:Bool) (w2:List Nat):Bool:=MS n1 w1 n2 w2 && !decide (iL n1 (val w1)<0)&&Ab 40 (val w1) (val w2)
theorem F9 (lim a b:Nat):∃ s,rY lim a b = .tup [.str s, .bool (Ab lim a b)]:=by
 unfold rY Ab
 cases gz lim 0 a b with
 | none=>exact ⟨_,rfl⟩
 | some x=>exact ⟨_,rfl⟩
theorem Cn (lim:Nat) (n1:Bool) (w1:List Nat) (n2:Bool) (w2:List Nat) (hl:∀ a b,Ab lim a b=Ab 40 a b):∃ s,Dy lim n1 w1 n2 w2 = .tup [.str s, .bool (F8 n1 w1 n2 w2)]:=by
 unfold Dy F8
 by_cases h:MS n1 w1 n2 w2=true /\ ¬ iL n1 (val w1)<0
 . rw [if_pos h]
   obtain ⟨s,e⟩:=F9 lim (val w1) (val w2)
   refine ⟨s, ?_⟩
   rw [e,hl,h.1];simp [h.2]
 . rw [if_neg h]
   refine ⟨_,congrArg (fun b=>AV.tup [.str [], .bool b]) ?_⟩
   by_cases h1:MS n1 w1 n2 w2=true
   . have:iL n1 (val w1)<0:=Decidable.byContradiction fun e=>h ⟨h1,e⟩
     simp [this]
   . simp [h1]
theorem Rt {n1:Bool} {w1:List Nat} {n2:Bool} {w2:List Nat} (mW:Wd w1) (th:Wd w2) (h:MS n1 w1 n2 w2=true) :
   RR n1 w1 n2 w2=RV (iL n1 (val w1)) ((val w2:Nat):Int)/\val w2≠0/\Nat.gcd (val w1) (val w2)=1:=by
 unfold MS at h
 simp only [Bool.and_eq_true,decide_eq_true_eq] at h
 obtain ⟨⟨⟨h1,h2⟩,h3⟩,h4⟩:=h
 have e1:=EB mW h1
 have e2:=EB th h2
 have e3:iL n2 (val w2)=((val w2:Nat):Int):=by
   cases n2
   . exact mo _
   . simp [iL] at h3;omega
 rw [e3] at e2 h3
 refine ⟨?_,by omega,by omega⟩
 unfold IR IV at e1 e2
 simp only [AV.agg.injEq,List.cons.injEq,and_true] at e1 e2
 unfold RR RV
 rw [e1.1,e1.2,e2.1,e2.2]
theorem Ga (n1:Bool) (w1:List Nat) (n2:Bool) (w2:List Nat):af (RR n1 w1 n2 w2):=af.agg (by intro c hc;simp at hc;rcases hc with rfl | rfl | rfl | rfl;exact af.bool _;exact kz _;exact af.bool _;exact kz _)
section
variable {P:Program} {G:Nat->Option (List AV)}
theorem KG {f fV fS UJ fI fC fM fF fR:FuncId} (h:Has P f (gn fV fS UJ fI fC fM fF fR)) (n1:Bool) (w1:List Nat) (n2:Bool) (w2:List Nat) (mW:Wd w1) (th:Wd w2) (lF:w1.length<=8) (sD:w2.length<=8)
   (hv:VP P G fV [RR n1 w1 n2 w2] (.bool (MS n1 w1 n2 w2))) (hs:∀ a b:Int,ab a.natAbs<=1000->VP P G fS [RV a b] (.int .i64 a.sign))
   (hgo:∀ a b:Nat,b≠0->Nat.gcd a b=1->ab a<=8->ab b<=8->VP P G fV [RV (a:Int) (b:Int)] (.bool true)->VP P G f [RV (a:Int) (b:Int)] (rY 40 a b)) :
   VP P G f [RR n1 w1 n2 w2] (Dy 40 n1 w1 n2 w2):=by
 have Yp:ab (val w1)<=8:=Nat.le_trans (qK mW) lF
 have Yq:ab (val w2)<=8:=Nat.le_trans (qK th) sD
 by_cases hr:MS n1 w1 n2 w2=true
 . obtain ⟨e,Gb,hg⟩:=Rt mW th hr
   by_cases hn:iL n1 (val w1)<0
   . unfold Dy
     rw [if_neg (fun q=>q.2 hn)]
     rw [e,hr] at hv
     rw [e]
     have dr:=hs (iL n1 (val w1)) ((val w2:Nat):Int) (by cases n1<;>simp [iL]<;>omega)
     have d0:decide ((iL n1 (val w1)).sign<0)=true:=ai (by rw [Int.sign_eq_neg_one_of_neg hn];decide)
     refine VP.has h ?_
     simp only [gn,SS,Nat.reduceAdd,Cb,ak,oo]
     refine aj hv (by simp [mF]) ?_
     simp only [SS,Nat.reduceAdd,ak,oo]
     refine aj dr (by simp [mF]) ?_
     simp only [SS,Nat.reduceAdd,d0]
     exact ah▸ae rfl (gh _ _)
   . unfold Dy
     rw [if_pos ⟨hr,hn⟩]
     have e1:iL n1 (val w1)=((val w1:Nat):Int):=by
       cases n1
       . exact mo _
       . simp [iL] at hn ⊢;omega
     rw [e,e1,hr] at hv
     rw [e,e1]
     exact hgo _ _ Gb hg Yp Yq hv
 . unfold Dy
   rw [if_neg (fun q=>hr q.1)]
   have yK:MS n1 w1 n2 w2=false:=by simpa using hr
   rw [yK] at hv
   refine VP.has h ?_
   simp only [gn,SS,Nat.reduceAdd,Ce,ak,Rs]
   refine aj hv (by simp [Ga]) ?_
   simp only [SS,Nat.reduceAdd]
   exact ah▸ae rfl (gh _ _)
theorem Iw {f fV fS UJ fI fE fF fM:FuncId} (h:Has P f (dx fV fS UJ fI fE fF fM)) (n1:Bool) (w1:List Nat) (n2:Bool) (w2:List Nat) (mW:Wd w1) (th:Wd w2) (lF:w1.length<=8) (sD:w2.length<=8)
   (hv:VP P G fV [RR n1 w1 n2 w2] (.bool (MS n1 w1 n2 w2))) (hs:∀ a b:Int,ab a.natAbs<=1000->VP P G fS [RV a b] (.int .i64 a.sign))
   (hgo:∀ a b:Nat,b≠0->Nat.gcd a b=1->ab a<=8->ab b<=8->VP P G fV [RV (a:Int) (b:Int)] (.bool true)->VP P G f [RV (a:Int) (b:Int)] (rY 41 a b)) :
   VP P G f [RR n1 w1 n2 w2] (Dy 41 n1 w1 n2 w2):=by
 have Yp:ab (val w1)<=8:=Nat.le_trans (qK mW) lF
 have Yq:ab (val w2)<=8:=Nat.le_trans (qK th) sD
 by_cases hr:MS n1 w1 n2 w2=true
 . obtain ⟨e,Gb,hg⟩:=Rt mW th hr
   by_cases hn:iL n1 (val w1)<0
   . unfold Dy
     rw [if_neg (fun q=>q.2 hn)]
     rw [e,hr] at hv
     rw [e]
     have dr:=hs (iL n1 (val w1)) ((val w2:Nat):Int) (by cases n1<;>simp [iL]<;>omega)
     have d0:decide ((iL n1 (val w1)).sign<0)=true:=ai (by rw [Int.sign_eq_neg_one_of_neg hn];decide)
     refine VP.has h ?_
     simp only [dx,SS,Nat.reduceAdd,Cb,ak,oo]
     refine aj hv (by simp [mF]) ?_
     simp only [SS,Nat.reduceAdd,ak,oo]
     refine aj dr (by simp [mF]) ?_
     simp only [SS,Nat.reduceAdd,d0]
     exact ah▸ae rfl (gh _ _)
   . unfold Dy
     rw [if_pos ⟨hr,hn⟩]
     have e1:iL n1 (val w1)=((val w1:Nat):Int):=by
       cases n1
       . exact mo _
       . simp [iL] at hn ⊢;omega
     rw [e,e1,hr] at hv
     rw [e,e1]
     exact hgo _ _ Gb hg Yp Yq hv
 . unfold Dy
   rw [if_neg (fun q=>hr q.1)]
   have yK:MS n1 w1 n2 w2=false:=by simpa using hr
   rw [yK] at hv
   refine VP.has h ?_
   simp only [dx,SS,Nat.reduceAdd,Ce,ak,Rs]
   refine aj hv (by simp [Ga]) ?_
   simp only [SS,Nat.reduceAdd]
   exact ah▸ae rfl (gh _ _)
end
end
def kR:aL:=⟨4,[(.tmp 0)],(cS [⟨some 0,.mv (.c .nilp),none⟩] (cS [⟨some 1,.buildSl 1 1 .nils [(0,(.c .nils))],none⟩,⟨some 2,.build [.nils,(.int .i64 0)] [(0,(1,(.t 1)))],none⟩,oX 3 2,oM 0 3] .ret))⟩
def k7 (oi kM xQ jU xR:Nat):aL:=⟨40,[(.tmp 2)],(cS [oX 1 0,oB 2 false] (cS [oF 3 0 1,oL 4 1 3,oC 5 oi 4,oM 6 5,gF 7 1 1 6 true,gL 8 1 7 6 true,⟨some 9,.bin .geq .int (.t 8) (.c (.int .i64 1)),some (6,true)⟩,nY 10 6 9,oM 11 10,gF 12 1 1 11 true,gL 13 1 12 11 true,⟨some 14,.bin .leq .int (.t 13) (.c (.int .i64 6)),some (11,true)⟩,nY 15 11 14,oM 16 15,gF 17 2 1 16 true,gL 18 1 17 16 true,gN 19 18 16 true,⟨some 20,.bin .leq .int (.t 19) (.c (.int .i64 50)),some (16,true)⟩,nY 21 16 20,oM 22 21,gF 23 3 1 22 true,gL 24 1 23 22 true,gN 25 24 22 true,⟨some 26,.bin .leq .int (.t 25) (.c (.int .i64 10)),some (22,true)⟩,nY 27 22 26,oM 28 27,gF 29 2 1 28 true,gL 30 1 29 28 true,⟨some 31,.call (.f kM) [(.t 30),(.f xQ)],some (28,true)⟩,⟨some 32,.un .not (.t 31),some (28,true)⟩,nY 33 28 32,oM 34 33,gF 35 3 1 34 true,gL 36 1 35 34 true,⟨some 37,.call (.f jU) [(.t 36),(.f xR)],some (34,true)⟩,⟨some 38,.un .not (.t 37),some (34,true)⟩,nY 39 34 38,oM 2 39] .ret))⟩
def cH (lC:Nat):aL:=⟨9,[(.tmp 4)],(cS [oB 4 false] (cS [oM 5 0,oM 6 1,qC 7 lC 5 6,da 8 .geq 7 0,oM 4 8] .ret))⟩
def dv:aL:=⟨19,[(.tmp 4)],(cS [oI 4 0] (.seq (cS [oM 6 0,oN 7 6,oI 8 0] (.block 0 (.loop (cS [oT 9 .lss 8 7] (.seq (.cond (.t 9) .skip (.exit 0)) (.seq (.block 1 (cS [oM 10 8,oM 5 10] (cS [oM 11 1,oM 12 0,oM 13 5,oA 14 1 12 13,oL 15 1 14,⟨some 16,.call (.t 11) [.t 15],none⟩] (.cond (.t 16) (cS [oM 17 5,oM 4 17] .ret) .skip)))) (cR [da 18 .add 8 1,oM 8 18]))))))) (cS [oI 4 (-1-0)] .ret)))⟩
def cu (kC:Nat):aL:=⟨9,[(.tmp 4)],(cS [oB 4 false] (cS [oM 5 0,oM 6 1,qC 7 kC 5 6,da 8 .geq 7 0,oM 4 8] .ret))⟩
def cE:aL:=⟨19,[(.tmp 4)],(cS [oI 4 0] (.seq (cS [oM 6 0,oN 7 6,oI 8 0] (.block 0 (.loop (cS [oT 9 .lss 8 7] (.seq (.cond (.t 9) .skip (.exit 0)) (.seq (.block 1 (cS [oM 10 8,oM 5 10] (cS [oM 11 1,oM 12 0,oM 13 5,oA 14 7 12 13,jJ 15 7 14,⟨some 16,.call (.t 11) [.t 15],none⟩] (.cond (.t 16) (cS [oM 17 5,oM 4 17] .ret) .skip)))) (cR [da 18 .add 8 1,oM 8 18]))))))) (cS [oI 4 (-1-0)] .ret)))⟩
def iN (s6 jb:Nat):aL:=⟨8,[(.tmp 4)],(cS [oX 3 1,oI 4 0] (cS [oM 5 0,⟨some 6,.mkfn (.func s6) [] [.t 3],none⟩,qC 7 jb 5 6,oM 4 7] .ret))⟩
def bz:aL:=⟨19,[(.tmp 4)],(cS [oI 4 0] (.seq (cS [oM 6 0,oN 7 6,oI 8 0] (.block 0 (.loop (cS [oT 9 .lss 8 7] (.seq (.cond (.t 9) .skip (.exit 0)) (.seq (.block 1 (cS [oM 10 8,oM 5 10] (cS [oM 11 1,oM 12 0,oM 13 5,oA 14 5 12 13,jJ 15 5 14,⟨some 16,.call (.t 11) [.t 15],none⟩] (.cond (.t 16) (cS [oM 17 5,oM 4 17] .ret) .skip)))) (cR [da 18 .add 8 1,oM 8 18]))))))) (cS [oI 4 (-1-0)] .ret)))⟩
def jV:aL:=⟨8,[(.tmp 3)],(cS [oX 2 0,oB 3 false] (cS [oF 4 0 2,oL 5 1 4,oL 6 1 1,⟨some 7,.bin .eql .str (.t 5) (.t 6),none⟩,oM 3 7] .ret))⟩
def a7:aL:=⟨8,[(.tmp 2)],(cS [oZ 2] (.seq (cS [oM 3 0,⟨some 4,.bin .eql .slice (.t 3) (.c .nils),none⟩] (.cond (.t 4) (cS [oZ 2] .ret) .skip)) (cS [⟨some 5,.buildSl 5 0 (.agg [(.str []),(.int .i64 0),.nils,.nils,(.bool false)]) [],none⟩,oM 6 0,Es 7 5 80 5 6,oM 2 7] .ret)))⟩
def dO (mQ eJ kL:Nat):aL:=⟨30,[(.cell 2 true 5)],(cS [oX 1 0,⟨some 2,.box (.c (.agg [(.str []),(.int .i64 0),.nils,.nils,(.bool false)])),none⟩] (.seq (.reg (some [(2,4)]) [oF 4 2 1,oL 5 1 4,oC 6 mQ 5,oF 7 3 1,oL 8 1 7,oC 9 eJ 8,oF 10 2 1,oS 1 10 6,oF 11 3 1,oS 1 11 9]) (.seq (cS [oF 12 3 1,oL 13 1 12,oN 14 13,oI 15 0] (.block 0 (.loop (cS [oT 16 .lss 15 14] (.seq (.cond (.t 16) .skip (.exit 0)) (.seq (.block 1 (cS [oM 17 15,oM 3 17] (.reg (some [(1,8)]) [oF 18 3 1,oL 19 1 18,oM 20 3,oF 21 3 1,oL 22 1 21,oM 23 3,oA 24 7 22 23,jJ 25 7 24,oC 26 kL 25,oA 27 7 19 20,oS 7 27 26]))) (cR [da 28 .add 15 1,oM 15 28]))))))) (cS [jJ 29 5 1,oS 5 2 29] .ret))))⟩
def aR:aL:=⟨8,[(.tmp 2)],(cS [oZ 2] (.seq (cS [oM 3 0,⟨some 4,.bin .eql .slice (.t 3) (.c .nils),none⟩] (.cond (.t 4) (cS [oZ 2] .ret) .skip)) (cS [⟨some 5,.buildSl 1 0 (.str []) [],none⟩,oM 6 0,Es 7 1 16 5 6,oM 2 7] .ret)))⟩
def aE:aL:=⟨8,[(.tmp 2)],(cS [oZ 2] (.seq (cS [oM 3 0,⟨some 4,.bin .eql .slice (.t 3) (.c .nils),none⟩] (.cond (.t 4) (cS [oZ 2] .ret) .skip)) (cS [⟨some 5,.buildSl 7 0 (.agg [(.int .i64 0),(.bool false),.nils,(.bool false),.nils,(.str []),.nils]) [],none⟩,oM 6 0,Es 7 7 112 5 6,oM 2 7] .ret)))⟩
def iH (AD gy:Nat):aL:=⟨29,[(.tmp 2)],(cS [oB 2 false] (.seq (cS [oM 7 0,oN 8 7,oI 9 0] (.block 0 (.loop (cS [oT 10 .lss 9 8] (.seq (.cond (.t 10) .skip (.exit 0)) (.seq (.block 1 (cS [oM 11 9,oA 12 5 7 9,jJ 13 5 12,⟨some 4,.box (.c (.agg [(.str []),(.int .i64 0),.nils,.nils,(.bool false)])),none⟩,oM 3 11,oS 5 4 13] (cS [jJ 14 5 4,oC 15 AD 14,oN 16 15,oI 17 0] (.block 2 (.loop (cS [oT 18 .lss 17 16] (.seq (.cond (.t 18) .skip (.exit 2)) (.seq (.block 3 (cS [oA 19 1 15 17,oL 20 1 19,oM 6 20] (cS [oM 21 0,oM 22 3,⟨some 23,.slice 5 (.t 21) none (some (.t 22)) none,none⟩,oM 24 6,qC 25 gy 23 24,da 26 .lss 25 0] (.cond (.t 26) (cS [oB 2 false] .ret) .skip)))) (cR [da 27 .add 17 1,oM 17 27]))))))))) (cR [da 28 .add 9 1,oM 9 28]))))))) (cS [oB 2 true] .ret)))⟩
def k8 (AE p9 nr l4:Nat):aL:=⟨34,[(.tmp 2)],(cS [oX 1 0,oZ 2] (.seq (cS [jJ 9 5 1,oC 10 AE 9,xu 11 10] (.cond (.t 11) (cS [oZ 2] .ret) .skip)) (cS [oZ 3] (.seq (cS [oF 12 2 1,oL 13 1 12,oN 14 13,oI 15 0] (.block 0 (.loop (cS [oT 16 .lss 15 14] (.seq (.cond (.t 16) .skip (.exit 0)) (.seq (.block 1 (cS [oA 17 1 13 15,oL 18 1 17,oM 5 18] (cS [oM 20 5,⟨some 21,.call (.f p9) [(.t 20),(.c (.str [47]))],none⟩,oM 19 21,oE 22 19 0,oE 23 19 1,oE 24 19 2,oM 6 22,oM 7 23,oM 8 24] (cR [oM 25 3,oM 26 6,⟨some 27,.buildSl 1 1 (.str []) [(0,(.t 26))],none⟩,Es 28 1 16 25 27,oM 3 28])))) (cR [da 29 .add 15 1,oM 15 29]))))))) (cS [oM 30 3,oC 31 nr 30] (cS [oM 32 3,oC 33 l4 32,oM 2 33] .ret))))))⟩
def eu (cz ey Co:Nat):aL:=⟨38,[(.tmp 4)],(cS [oI 4 0] (.seq (cS [oM 5 1,oM 6 0,oC 7 cz 6,⟨some 8,.call (.f ey) [(.t 5),(.t 7),(.f Co)],none⟩,xu 9 8] (.cond (.t 9) (.seq (.reg (some [(4,17),(8,17),(13,17),(15,17)]) [oM 10 0,oM 11 0,HU 12 11,oF 13 0 12,oL 14 1 13,oM 15 0,HU 16 15,oF 17 1 16,oL 18 1 17,da 19 .add 18 1,oM 20 0,HU 21 20,oF 22 1 21,oL 23 1 22,da 24 .add 23 1,⟨some 25,.slice 1 (.t 14) none (some (.t 19)) (some (.t 24)),none⟩,oM 26 1,⟨some 27,.buildSl 1 1 .nils [(0,(.t 26))],none⟩,Es 28 1 24 25 27,HU 29 10,oF 30 0 29,oS 1 30 28]) (cR [oM 31 0,HU 32 31,oF 33 1 32,oL 34 1 33,da 35 .add 34 1,HU 36 31,oF 37 1 36,oS 1 37 35])) .skip)) (cS [oI 4 0] .ret)))⟩
def aT:aL:=⟨32,[(.tmp 6)],(cS [oB 6 false] (.seq (cS [oM 10 0,oN 11 10,oM 12 1,oN 13 12,oT 14 .neq 11 13] (.cond (.t 14) (cS [oB 6 false] .ret) .skip)) (.seq (cS [oM 15 0,oN 16 15,oI 17 0] (.block 0 (.loop (cS [oT 18 .lss 17 16] (.seq (.cond (.t 18) .skip (.exit 0)) (.seq (.block 1 (cS [oM 19 17,oA 20 5 15 17,jJ 21 5 20,⟨some 8,.box (.c (.agg [(.str []),(.int .i64 0),.nils,.nils,(.bool false)])),none⟩,oM 7 19,oS 5 8 21] (cS [oM 22 1,oM 23 7,oA 24 5 22 23,jJ 25 5 24,⟨some 9,.box (.c (.agg [(.str []),(.int .i64 0),.nils,.nils,(.bool false)])),none⟩,oS 5 9 25] (cS [oM 26 2,jJ 27 5 8,jJ 28 5 9,⟨some 29,.call (.t 26) [(.t 27),(.t 28)],none⟩,xu 30 29] (.cond (.t 30) (cS [oB 6 false] .ret) .skip))))) (cR [da 31 .add 17 1,oM 17 31]))))))) (cS [oB 6 true] .ret))))⟩
def bq:aL:=⟨13,[(.tmp 2)],(cS [oZ 2] (.seq (.reg (some []) [oM 3 0,HU 4 3,oF 5 0 4,oL 6 1 5,oM 7 0,HU 8 7,oF 9 1 8,oL 10 1 9,oA 11 1 6 10,oL 12 1 11,oM 2 12]) .ret))⟩
def bV (cz AG:Nat):aL:=⟨20,[(.tmp 2)],(cS [oZ 2] (cS [oZ 3] (.seq (cS [oM 6 0,oC 7 cz 6,oN 8 7,oI 9 0] (.block 0 (.loop (cS [oT 10 .lss 9 8] (.seq (.cond (.t 10) .skip (.exit 0)) (.seq (.block 1 (cS [oA 11 5 7 9,jJ 12 5 11,⟨some 5,.box (.c (.agg [(.str []),(.int .i64 0),.nils,.nils,(.bool false)])),none⟩,oS 5 5 12] (cR [oM 13 3,jJ 14 5 5,oC 15 AG 14,⟨some 16,.buildSl 5 1 (.agg [(.str []),(.int .i64 0),.nils,.nils,(.bool false)]) [(0,(.t 15))],none⟩,Es 17 5 80 13 16,oM 3 17]))) (cR [da 18 .add 9 1,oM 9 18]))))))) (cS [oM 19 3,oM 2 19] .ret))))⟩
section
variable {P:Program} {G:Nat->Option (List AV)}
theorem lh {f fw:FuncId} (h:Has P f dv) {a c:List AV} {es:List AV} (hk:∀ e∈es,part false e.cells 0 1=some e) {p:AV->Bool} (hw:∀ e∈es,VP P G fw (a++[e]++c) (.bool (p e)))
   (hp:∀ e∈es,af e) (ha:∀ x∈a,af x) (hc:∀ x∈c,af x) (hl:es.length<9223372036854775807):VP P G f [.sl 1 es, .fn (.func fw) a c] (.int .i64 (vW (es.findIdx? p))):=by
 refine VP.has h ?_
 simp only [dv,SS,Nat.reduceAdd,az]
 refine VW.bG (α := Nat × Nat) (fun x=>⟨[.sl 1 es, .fn (.func fw) a c, .top, .top, .top, .top, .top, .int .i64 es.length, .int .i64 x.1]++List.replicate 10 .top,fun _=>none,x.2⟩) (fun x=>x.1<=es.length/\∀ (j:Nat) e,j<x.1->es[j]? = some e->p e=false) (fun x=>es.length-x.1) (0,4) ?_ ⟨Nat.zero_le _,fun j e hj=>absurd hj (Nat.not_lt_zero j)⟩ ?_
 . exact Wk.slots (by simp [Fg,List.replicate]) (Nat.le_refl _)
 rintro ⟨i,n⟩ ⟨hi,hn⟩
 simp only [] at hi hn
 simp only [SS]
 by_cases hlt:i<es.length
 . have h1:(i:Int)<(es.length:Int):=by omega
   obtain ⟨e,he⟩:∃ e,es[i]? = some e:=⟨es[i],by simp [hlt]⟩
   have hm:=List.mem_of_getElem? he
   simp only [SS,Nat.reduceAdd,h1,decide_true,aN rfl he,ax,hk e hm]
   refine aj (hw e hm) (by
     intro x hx
     simp only [List.mem_append,List.mem_singleton] at hx
     rcases hx with (hx | rfl) | hx
     . exact ha x hx
     . exact hp _ hm
     . exact hc x hx) ?_
   cases Ru:p e
   . simp only [SS,Nat.reduceAdd,ao i (by omega)]
     refine ⟨(i+1,_),⟨by simp only [];omega, ?_⟩,by simp only [];omega,Wk.slots (by simp [Fg]) (Nat.le_refl _)⟩
     intro j e' hj u7
     by_cases AX:j<i
     . exact hn j e' AX u7
     . have:j=i:=by simp only [] at hj;omega
       subst this;rw [he] at u7;simp only [Option.some.injEq] at u7;subst u7;exact Ru
   . simp only [SS,Nat.reduceAdd]
     rw [nH he Ru hn]
     exact ah▸ae rfl (af.int _ _)
 . have h1 : ¬ (i:Int)<(es.length:Int):=by omega
   simp only [SS,h1,decide_false]
   rw [nG (fun j e hj=>hn j e (by have:=(List.getElem?_eq_some_iff.1 hj).1;omega) hj)]
   exact ah▸ae rfl (af.int _ _)
theorem gi {f fw:FuncId} (h:Has P f cE) {a c:List AV} {es:List AV} (hk:∀ e∈es,part true e.cells 0 7=some e) {p:AV->Bool} (hw:∀ e∈es,VP P G fw (a++[e]++c) (.bool (p e)))
   (hp:∀ e∈es,af e) (ha:∀ x∈a,af x) (hc:∀ x∈c,af x) (hl:es.length<9223372036854775807):VP P G f [.sl 7 es, .fn (.func fw) a c] (.int .i64 (vW (es.findIdx? p))):=by
 refine VP.has h ?_
 simp only [cE,SS,Nat.reduceAdd,az]
 refine VW.bG (α := Nat × Nat) (fun x=>⟨[.sl 7 es, .fn (.func fw) a c, .top, .top, .top, .top, .top, .int .i64 es.length, .int .i64 x.1]++List.replicate 10 .top,fun _=>none,x.2⟩) (fun x=>x.1<=es.length/\∀ (j:Nat) e,j<x.1->es[j]? = some e->p e=false) (fun x=>es.length-x.1) (0,4) ?_ ⟨Nat.zero_le _,fun j e hj=>absurd hj (Nat.not_lt_zero j)⟩ ?_
 . exact Wk.slots (by simp [Fg,List.replicate]) (Nat.le_refl _)
 rintro ⟨i,n⟩ ⟨hi,hn⟩
 simp only [] at hi hn
 simp only [SS]
 by_cases hlt:i<es.length
 . have h1:(i:Int)<(es.length:Int):=by omega
   obtain ⟨e,he⟩:∃ e,es[i]? = some e:=⟨es[i],by simp [hlt]⟩
   have hm:=List.mem_of_getElem? he
   simp only [SS,Nat.reduceAdd,h1,decide_true,aN rfl he,ax,hk e hm]
   refine aj (hw e hm) (by
     intro x hx
     simp only [List.mem_append,List.mem_singleton] at hx
     rcases hx with (hx | rfl) | hx
     . exact ha x hx
     . exact hp _ hm
     . exact hc x hx) ?_
   cases Ru:p e
   . simp only [SS,Nat.reduceAdd,ao i (by omega)]
     refine ⟨(i+1,_),⟨by simp only [];omega, ?_⟩,by simp only [];omega,Wk.slots (by simp [Fg]) (Nat.le_refl _)⟩
     intro j e' hj u7
     by_cases AX:j<i
     . exact hn j e' AX u7
     . have:j=i:=by simp only [] at hj;omega
       subst this;rw [he] at u7;simp only [Option.some.injEq] at u7;subst u7;exact Ru
   . simp only [SS,Nat.reduceAdd]
     rw [nH he Ru hn]
     exact ah▸ae rfl (af.int _ _)
 . have h1 : ¬ (i:Int)<(es.length:Int):=by omega
   simp only [SS,h1,decide_false]
   rw [nG (fun j e hj=>hn j e (by have:=(List.getElem?_eq_some_iff.1 hj).1;omega) hj)]
   exact ah▸ae rfl (af.int _ _)
theorem iX {f fw:FuncId} (h:Has P f bz) {a c:List AV} {es:List AV} (hk:∀ e∈es,part true e.cells 0 5=some e) {p:AV->Bool} (hw:∀ e∈es,VP P G fw (a++[e]++c) (.bool (p e)))
   (hp:∀ e∈es,af e) (ha:∀ x∈a,af x) (hc:∀ x∈c,af x) (hl:es.length<9223372036854775807):VP P G f [.sl 5 es, .fn (.func fw) a c] (.int .i64 (vW (es.findIdx? p))):=by
 refine VP.has h ?_
 simp only [bz,SS,Nat.reduceAdd,az]
 refine VW.bG (α := Nat × Nat) (fun x=>⟨[.sl 5 es, .fn (.func fw) a c, .top, .top, .top, .top, .top, .int .i64 es.length, .int .i64 x.1]++List.replicate 10 .top,fun _=>none,x.2⟩) (fun x=>x.1<=es.length/\∀ (j:Nat) e,j<x.1->es[j]? = some e->p e=false) (fun x=>es.length-x.1) (0,4) ?_ ⟨Nat.zero_le _,fun j e hj=>absurd hj (Nat.not_lt_zero j)⟩ ?_
 . exact Wk.slots (by simp [Fg,List.replicate]) (Nat.le_refl _)
 rintro ⟨i,n⟩ ⟨hi,hn⟩
 simp only [] at hi hn
 simp only [SS]
 by_cases hlt:i<es.length
 . have h1:(i:Int)<(es.length:Int):=by omega
   obtain ⟨e,he⟩:∃ e,es[i]? = some e:=⟨es[i],by simp [hlt]⟩
   have hm:=List.mem_of_getElem? he
   simp only [SS,Nat.reduceAdd,h1,decide_true,aN rfl he,ax,hk e hm]
   refine aj (hw e hm) (by
     intro x hx
     simp only [List.mem_append,List.mem_singleton] at hx
     rcases hx with (hx | rfl) | hx
     . exact ha x hx
     . exact hp _ hm
     . exact hc x hx) ?_
   cases Ru:p e
   . simp only [SS,Nat.reduceAdd,ao i (by omega)]
     refine ⟨(i+1,_),⟨by simp only [];omega, ?_⟩,by simp only [];omega,Wk.slots (by simp [Fg]) (Nat.le_refl _)⟩
     intro j e' hj u7
     by_cases AX:j<i
     . exact hn j e' AX u7
     . have:j=i:=by simp only [] at hj;omega
       subst this;rw [he] at u7;simp only [Option.some.injEq] at u7;subst u7;exact Ru
   . simp only [SS,Nat.reduceAdd]
     rw [nH he Ru hn]
     exact ah▸ae rfl (af.int _ _)
 . have h1 : ¬ (i:Int)<(es.length:Int):=by omega
   simp only [SS,h1,decide_false]
   rw [nG (fun j e hj=>hn j e (by have:=(List.getElem?_eq_some_iff.1 hj).1;omega) hj)]
   exact ah▸ae rfl (af.int _ _)
theorem kD {f fi fw:FuncId} (h:Has P f (cH fi)) {a c:List AV} {es:List AV} {p:AV->Bool} (hi:VP P G fi [.sl 1 es, .fn (.func fw) a c] (.int .i64 (vW (es.findIdx? p))))
   (hp:af (.sl 1 es)) (FB:af (.fn (.func fw) a c)):VP P G f [.sl 1 es, .fn (.func fw) a c] (.bool (es.any p)):=by
 refine VP.has h ?_
 simp only [cH,SS,Nat.reduceAdd]
 refine aj hi (by intro x hx;simp at hx;rcases hx with rfl | rfl<;>assumption) ?_
 simp only [SS,Nat.reduceAdd]
 have e:decide (0<=vW (es.findIdx? p))=es.any p:=by
   rw [<- List.findIdx?_isSome]
   cases es.findIdx? p<;>simp [vW]
 rw [e]
 exact ah▸ae rfl (af.bool _)
theorem eY {f fi fw:FuncId} (h:Has P f (cu fi)) {a c:List AV} {es:List AV} {p:AV->Bool} (hi:VP P G fi [.sl 7 es, .fn (.func fw) a c] (.int .i64 (vW (es.findIdx? p))))
   (hp:af (.sl 7 es)) (FB:af (.fn (.func fw) a c)):VP P G f [.sl 7 es, .fn (.func fw) a c] (.bool (es.any p)):=by
 refine VP.has h ?_
 simp only [cu,SS,Nat.reduceAdd]
 refine aj hi (by intro x hx;simp at hx;rcases hx with rfl | rfl<;>assumption) ?_
 simp only [SS,Nat.reduceAdd]
 have e:decide (0<=vW (es.findIdx? p))=es.any p:=by
   rw [<- List.findIdx?_isSome]
   cases es.findIdx? p<;>simp [vW]
 rw [e]
 exact ah▸ae rfl (af.bool _)
end
structure bK where
 name:List UInt8
 kind:Int
 inputs:List (List UInt8)
 values:List AV
 supp:Bool
def strs (l:List (List UInt8)):AV := .sl 1 (l.map .str)
def bK.av (f:bK):AV := .agg [.str f.name, .int .i64 f.kind,strs f.inputs, .sl 7 f.values, .bool f.supp]
def qO (v:AV):Prop:=∃ cs,v = .agg cs/\cs.length=7/\∀ c∈cs,af c/\c.one=true
structure bK.Ok (f:bK):Prop where
 vals:∀ v∈f.values,qO v
 ins:f.inputs.length<9223372036854775807
 vl:f.values.length<9223372036854775807
theorem qO.part {v:AV} (h:qO v):part true v.cells 0 7=some v:=by
 obtain ⟨cs,rfl,hl,_⟩:=h
 simp [VL.part,AV.cells,hl]
 rw [<- hl];exact List.take_length
theorem tV:∀ l:List (List UInt8),flat (l.map .str)=l.map .str
 | []=>rfl
 | s::l=>by have:=tV l;simp only [List.map_cons,flat,List.flatMap_cons,AV.cells] at this ⊢;rw [this];rfl
theorem gq (l:List (List UInt8)):af (strs l):=af.sl (by rw [tV];intro c hc;simp at hc;obtain ⟨s,_,rfl⟩:=hc;exact af.str s)
theorem zh {l:List AV} (h:∀ v∈l,qO v):af (.sl 7 l):=af.sl (by
 intro c hc
 simp only [flat,List.mem_flatMap] at hc
 obtain ⟨v,hv,hc⟩:=hc
 obtain ⟨cs,rfl,_,hcs⟩:=h v hv
 exact (hcs c hc).1)
theorem bK.Ok.pure {f:bK} (h:f.Ok):af f.av:=af.agg (by
 intro c hc
 simp only [List.mem_cons,List.not_mem_nil,or_false] at hc
 rcases hc with rfl | rfl | rfl | rfl | rfl
 . exact af.str _
 . exact af.int _ _
 . exact gq _
 . exact zh h.vals
 . exact af.bool _)
theorem bK.one (f:bK):(f.av.cells.all AV.one=true)=True:=by simp [bK.av,AV.cells,AV.one,strs]
theorem bK.p0 (f:bK):part false f.av.cells 0 1=some (.str f.name):=rfl
theorem bK.p1 (f:bK):part false f.av.cells 1 1=some (.int .i64 f.kind):=rfl
theorem bK.p2 (f:bK):part false f.av.cells 2 1=some (strs f.inputs):=rfl
theorem bK.p3 (f:bK):part false f.av.cells 3 1=some (.sl 7 f.values):=rfl
theorem bK.p4 (f:bK):part false f.av.cells 4 1=some (.bool f.supp):=rfl
theorem bK.whole (f:bK):part true f.av.cells 0 5=some f.av:=rfl
section
variable {P:Program} {G:Nat->Option (List AV)}
theorem OB {f:FuncId} (h:Has P f jV) (F:bK) (nm:List UInt8):VP P G f [F.av, .ep [.str nm] 0] (.bool (F.name==nm)):=by
 refine VP.has h ?_
 have e1:part false [AV.str nm] 0 1=some (.str nm):=rfl
 simp only [jV,SS,Nat.reduceAdd,bK.one,ak,bK.p0,ax,e1]
 exact ah▸ae rfl (af.bool _)
def Rv (l:List bK) (nm:List UInt8):Int:=vW (l.findIdx? fun F=>F.name==nm)
def Rw:AV->List UInt8
 | .agg (.str s::_)=>s
 | _=>[]
theorem findIdx_map (l:List bK) (nm:List UInt8):(l.map bK.av).findIdx? (fun e=>Rw e==nm)=l.findIdx? fun F=>F.name==nm:=by
 rw [List.findIdx?_map];rfl
def EI (l:List bK):AV := .sl 5 (l.map bK.av)
theorem KH {l:List bK} (h:∀ F∈l,F.Ok):af (EI l):=af.sl (by
 intro c hc
 simp only [flat,List.mem_flatMap,List.mem_map] at hc
 obtain ⟨v,⟨F,hF,rfl⟩,hc⟩:=hc
 simp only [bK.av,AV.cells,List.mem_cons,List.not_mem_nil,or_false] at hc
 rcases hc with rfl | rfl | rfl | rfl | rfl
 . exact af.str _
 . exact af.int _ _
 . exact gq _
 . exact zh (h F hF).vals
 . exact af.bool _)
theorem UK {f f1 fi:FuncId} (h:Has P f (iN f1 fi)) (h1:∀ (F:bK) (nm:List UInt8),VP P G f1 [F.av, .ep [.str nm] 0] (.bool (F.name==nm)))
   (hi:Has P fi bz) {l:List bK} (hl:∀ F∈l,F.Ok) (hlen:l.length<9223372036854775807) (nm:List UInt8):VP P G f [EI l, .str nm] (.int .i64 (Rv l nm)):=by
 refine VP.has h ?_
 have e0:(AV.cells (.str nm)).all AV.one=true:=rfl
 simp only [iN,SS,Nat.reduceAdd,e0]
 have hc:=iX (G:=G) hi (fw:=f1) (a:=[]) (c:=[.ep [.str nm] 0]) (es:=l.map bK.av) (p:=fun e=>Rw e==nm)
   (by intro e he;simp only [List.mem_map] at he;obtain ⟨F,_,rfl⟩:=he;exact F.whole)
   (by intro e he;simp only [List.mem_map] at he;obtain ⟨F,_,rfl⟩:=he;exact h1 F nm)
   (by intro e he;simp only [List.mem_map] at he;obtain ⟨F,hF,rfl⟩:=he;exact (hl F hF).pure)
   (by simp) (by intro x hx;simp at hx;subst hx;exact af.ep (by simp [af.str])) (by simpa using hlen)
 rw [findIdx_map] at hc
 refine ig [([0],⟨[.str nm],1,false⟩)] hc ?_ (aS.int _ _) ?_ ?_
 . refine aI.cons (View.pure (KH hl)) (aI.cons (View.fn aI.nil (aI.cons ?_ aI.nil)) aI.nil)
   exact View.ref (bk:=⟨[.str nm],1,false⟩) rfl rfl (aI.pure (by simp [AV.cells,af.str]))
 . simp [aa.put,AV.size,AV.cells]
 simp only [SS,Nat.reduceAdd]
 exact ah▸ae rfl (af.int _ _)
theorem Rx {f fn ZR v1 ZT v2:FuncId} (h:Has P f (k7 fn ZR v1 ZT v2)) (hn:∀ s,VP P G fn [.str s] (.bool (b7 s))) (F:bK) (hF:F.Ok) {bi bv:Bool}
   (h1:F.inputs.length<=50->VP P G ZR [strs F.inputs, .fn (.func v1) [] []] (.bool bi)) (h2:F.values.length<=10->VP P G ZT [.sl 7 F.values, .fn (.func v2) [] []] (.bool bv)) :
   VP P G f [F.av] (.bool (b7 F.name&&decide (1<=F.kind)&&decide (F.kind<=6)&&decide (F.inputs.length<=50)&&decide (F.values.length<=10) && !bi && !bv)):=by
 refine VP.has h ?_
 simp only [k7,SS,Nat.reduceAdd,bK.one,ak,bK.p0]
 refine aj (hn F.name) (by simp [af.str]) ?_
 have e1:ky false (strs F.inputs)=some (.int .i64 F.inputs.length):=by simp [strs,ky]
 have WG:∀ v:FuncId,af (.fn (.func v) [] []):=fun v=>af.fn (by simp) (by simp)
 cases b1:b7 F.name
 . simp only [SS,Nat.reduceAdd,Bool.false_and]
   exact ah▸ae rfl (af.bool _)
 by_cases b2:1<=F.kind
 case neg =>
   simp only [SS,Nat.reduceAdd,Bool.false_and,Bool.and_false,ak,bK.p1,b2,decide_false]
   exact ah▸ae rfl (af.bool _)
 by_cases b3:F.kind<=6
 case neg =>
   simp only [SS,Nat.reduceAdd,Bool.false_and,Bool.and_false,ak,bK.p1,b2,b3,decide_false,decide_true,Bool.true_and]
   exact ah▸ae rfl (af.bool _)
 by_cases b4:F.inputs.length<=50
 case neg =>
   have b4' : ¬ (F.inputs.length:Int)<=50:=by omega
   simp only [SS,Nat.reduceAdd,Bool.false_and,Bool.and_false,ak,bK.p1,bK.p2,e1,b2,b3,b4,b4',decide_false,decide_true,Bool.true_and]
   exact ah▸ae rfl (af.bool _)
 have b4':(F.inputs.length:Int)<=50:=by omega
 by_cases b5:F.values.length<=10
 case neg =>
   have b5' : ¬ (F.values.length:Int)<=10:=by omega
   simp only [SS,Nat.reduceAdd,Bool.false_and,Bool.and_false,ak,bK.p1,bK.p2,bK.p3,e1,b2,b3,b4,b4',b5,b5',decide_false,decide_true,Bool.true_and]
   exact ah▸ae rfl (af.bool _)
 have b5':(F.values.length:Int)<=10:=by omega
 simp only [SS,Nat.reduceAdd,ak,bK.p1,bK.p2,bK.p3,e1,b2,b3,b4,b4',b5,b5',decide_true,Bool.true_and]
 refine aj (h1 b4) (by intro x hx;simp at hx;rcases hx with rfl | rfl;exact gq _;exact WG _) ?_
 cases bi
 case true =>
   simp only [SS,Nat.reduceAdd,Bool.false_and]
   exact ah▸ae rfl (af.bool _)
 simp only [SS,Nat.reduceAdd,ak,bK.p3]
 refine aj (h2 b5) (by intro x hx;simp at hx;rcases hx with rfl | rfl;exact zh hF.vals;exact WG _) ?_
 simp only [SS,Nat.reduceAdd,Bool.true_and]
 exact ah▸ae rfl (af.bool _)
end
section
open Go.Lib
inductive EX where
 | mk (op:Int) (n1:Bool) (w1:List Nat) (n2:Bool) (w2:List Nat) (nm:List UInt8) (args:List EX)
theorem EX.induct {C:EX->Prop} (h:∀ op n1 w1 n2 w2 nm args,(∀ x∈args,C x)->C (.mk op n1 w1 n2 w2 nm args)):∀ e,C e:=fun e =>
 EX.rec (motive_1:=C) (motive_2:=fun l=>∀ x∈l,C x) (fun op n1 w1 n2 w2 nm args ih=>h op n1 w1 n2 w2 nm args ih) (by simp) (fun a l ha hl=>by
   intro x hx
   rcases List.mem_cons.1 hx with rfl | hx
   . exact ha
   . exact hl x hx) e
mutual
def EX.av:EX->AV
 | .mk op n1 w1 n2 w2 nm args => .agg [.int .i64 op, .bool n1, .sl 1 (us w1), .bool n2, .sl 1 (us w2), .str nm, .sl 7 (EX.dy args)]
def EX.dy:List EX->List AV
 | []=>[]
 | e::l=>e.av::EX.dy l
end
mutual
def EX.nodes:EX->Nat
 | .mk _ _ _ _ _ _ args=>1+EX.cK args
def EX.cK:List EX->Nat
 | []=>0
 | e::l=>e.nodes+EX.cK l
end
mutual
def EX.depth:EX->Nat
 | .mk _ _ _ _ _ _ args=>EX.fO args+1
def EX.fO:List EX->Nat
 | []=>0
 | e::l=>max e.depth (EX.fO l)
end
def tW (n1:Bool) (w1:List Nat) (n2:Bool) (w2:List Nat):Bool:=w1.isEmpty&&w2.isEmpty && !n1 && !n2
def arity (op:Int):Nat:=if op<=2 then 0 else if op<=3 then 1 else 2
mutual
def EX.formed:EX->Bool
 | .mk op n1 w1 n2 w2 nm args=>decide (1<=op)&&decide (op<=7)&&decide (args.length=arity op) &&
   (if op=1 then F8 n1 w1 n2 w2&&(nm.isEmpty||b7 nm) else if op=2 then tW n1 w1 n2 w2&&b7 nm else tW n1 w1 n2 w2&&nm.isEmpty&&EX.pA args)
def EX.pA:List EX->Bool
 | []=>true
 | e::l=>e.formed&&EX.pA l
end
mutual
def EX.lT:EX->Bool
 | .mk _ _ w1 _ w2 nm args=>EX.Gc args&&decide (w1.length<=8)&&decide (w2.length<=8)&&decide (nm.length<=60)
def EX.Gc:List EX->Bool
 | []=>true
 | e::l=>e.lT&&EX.Gc l
end
mutual
def EX.Ok:EX->Prop
 | .mk op _ w1 _ w2 nm args => -9223372036854775808<=op/\op<9223372036854775808/\Wd w1/\Wd w2/\w1.length<=9223372036854775807/\w2.length<=9223372036854775807/\nm.length<=9223372036854775807/\args.length<=9223372036854775807/\EX.OkL args
def EX.OkL:List EX->Prop
 | []=>True
 | e::l=>e.Ok/\EX.OkL l
end
theorem EX.bY:∀ l,EX.dy l=l.map EX.av
 | []=>rfl
 | e::l=>by rw [EX.dy,EX.bY l];rfl
theorem EX.tX:∀ l,EX.pA l=l.all EX.formed
 | []=>rfl
 | e::l=>by rw [EX.pA,EX.tX l];rfl
theorem EX.wq:∀ l,EX.Gc l=l.all EX.lT
 | []=>rfl
 | e::l=>by rw [EX.Gc,EX.wq l];rfl
theorem EX.Gd:∀ {l},EX.OkL l↔∀ x∈l,EX.Ok x
 | []=>by simp [EX.OkL]
 | e::l=>by rw [EX.OkL,EX.Gd (l:=l)];simp
theorem EX.OC (e:EX):1<=e.nodes:=by cases e;rw [EX.nodes];omega
theorem EX.size (e:EX):e.av.size=7:=by cases e;rw [EX.av];rfl
theorem EX.fP:∀ e:EX,∀ c∈e.av.cells,af c:=EX.induct fun op n1 w1 n2 w2 nm args ih=>by
 rw [EX.av]
 intro c hc
 simp [AV.cells] at hc
 rcases hc with rfl | rfl | rfl | rfl | rfl | rfl | rfl
 . exact af.int _ _
 . exact af.bool _
 . exact kz _
 . exact af.bool _
 . exact kz _
 . exact af.str _
 . refine af.sl ?_
   rw [EX.bY]
   intro c hc
   simp only [flat,List.mem_flatMap,List.mem_map] at hc
   obtain ⟨_,⟨x,hx,rfl⟩,Lw⟩:=hc
   exact ih x hx c Lw
theorem EX.pure (e:EX):af e.av:=by
 have h:=EX.fP e
 cases e with
 | mk op n1 w1 n2 w2 nm args=>rw [EX.av] at h ⊢;exact af.agg h
theorem EX.fQ (l:List EX):af (.sl 7 (EX.dy l)):=by
 have:=EX.fP (.mk 0 false [] false [] [] l)
 rw [EX.av] at this
 exact this _ (by simp [AV.cells])
theorem EX.like (e:EX):qO e.av:=by
 have h:=EX.fP e
 cases e with
 | mk op n1 w1 n2 w2 nm args =>
   rw [EX.av] at h ⊢
   exact ⟨_,rfl,rfl,fun c hc=>⟨h c hc,by simp at hc;rcases hc with rfl | rfl | rfl | rfl | rfl | rfl | rfl<;>rfl⟩⟩
theorem EX.one (e:EX):(e.av.cells.all AV.one=true)=True:=by cases e;rw [EX.av];simp [AV.cells,AV.one]
theorem EX.all (e:EX):VL.part true e.av.cells 0 7=some e.av:=e.like.part
end
theorem KI:∀ {a b:List Nat},us a=us b->a=b
 | [],[],_=>rfl
 | [],b::bs,h=>by simp [us] at h
 | a::al,[],h=>by simp [us] at h
 | a::al,b::bs,h=>by
   simp only [us,List.map_cons,List.cons.injEq,AV.int.injEq,true_and] at h
   rw [KI (a:=al) (b:=bs) h.2,Int.ofNat.inj h.1]
theorem Cp {α β : Type} {f : α -> β}:∀ {l l':List α},(∀ x∈l,∀ y,f x=f y->x=y)->l.map f=l'.map f->l=l'
 | [],[],_,_=>rfl
 | [],b::bs,_,h=>by simp at h
 | a::al,[],_,h=>by simp at h
 | a::al,b::bs,hi,h=>by
   simp only [List.map_cons,List.cons.injEq] at h
   rw [hi a (by simp) b h.1,Cp (fun x hx=>hi x (by simp [hx])) h.2]
theorem EX.Ry:∀ e e':EX,e.av=e'.av->e=e':=EX.induct fun op n1 w1 n2 w2 nm args ih=>fun e' h=>by
 cases e' with
 | mk FQ Cq A3 Cr A4 PH eD =>
   rw [EX.av,EX.av] at h
   simp only [AV.agg.injEq,List.cons.injEq,AV.int.injEq,AV.bool.injEq,AV.sl.injEq,AV.str.injEq,true_and,and_true] at h
   obtain ⟨h1,h2,h3,h4,h5,h6,h7⟩:=h
   rw [EX.bY,EX.bY] at h7
   rw [h1,h2,KI h3,h4,KI h5,h6,Cp ih h7]
noncomputable def Rz (v:AV):Bool := @decide (∃ e:EX,e.av=v/\e.formed=false) (Classical.propDecidable _)
theorem Ix (e:EX):Rz e.av = !e.formed:=by
 unfold Rz
 cases h:e.formed
 . exact @decide_eq_true _ (Classical.propDecidable _) ⟨e,rfl,h⟩
 . refine @decide_eq_false _ (Classical.propDecidable _) ?_
   rintro ⟨e',h1,h2⟩
   rw [EX.Ry _ _ h1] at h2
   rw [h] at h2;cases h2
section
variable (op:Int) (n1:Bool) (w1:List Nat) (n2:Bool) (w2:List Nat) (nm:List UInt8) (args:List EX)
theorem EX.q0:part false (EX.mk op n1 w1 n2 w2 nm args).av.cells 0 1=some (.int .i64 op):=by rw [EX.av];rfl
theorem EX.q1:part true (EX.mk op n1 w1 n2 w2 nm args).av.cells 1 4=some (RR n1 w1 n2 w2):=by rw [EX.av];rfl
theorem EX.q5:part false (EX.mk op n1 w1 n2 w2 nm args).av.cells 5 1=some (.str nm):=by rw [EX.av];rfl
theorem EX.q6:part false (EX.mk op n1 w1 n2 w2 nm args).av.cells 6 1=some (.sl 7 (EX.dy args)):=by rw [EX.av];rfl
theorem abq:part false (RR n1 w1 n2 w2).cells 0 1=some (.bool n1):=rfl
theorem abr:part false (RR n1 w1 n2 w2).cells 1 1=some (.sl 1 (us w1)):=rfl
theorem abt:part false (RR n1 w1 n2 w2).cells 2 1=some (.bool n2):=rfl
theorem abu:part false (RR n1 w1 n2 w2).cells 3 1=some (.sl 1 (us w2)):=rfl
end
section
variable {P:Program} {G:Nat->Option (List AV)}
theorem UL {f:FuncId} (h:Has P f oh) (n1:Bool) (w1:List Nat) (n2:Bool) (w2:List Nat):VP P G f [RR n1 w1 n2 w2] (.bool (tW n1 w1 n2 w2)):=by
 refine VP.has h ?_
 have hlen:∀ ws,ky false (.sl 1 (us ws))=some (.int .i64 ws.length):=fun ws=>by simp [ky,dD]
 have d1:decide ((w1.length:Int)=0)=w1.isEmpty:=by cases w1<;>simp<;>omega
 have d2:decide ((w2.length:Int)=0)=w2.isEmpty:=by cases w2<;>simp<;>omega
 unfold tW
 cases b1:w1.isEmpty<;>cases b2:w2.isEmpty<;>cases n1<;>cases n2 <;>
 . rw [b1] at d1;rw [b2] at d2
   simp only [oh,SS,Nat.reduceAdd,Ce,ak,abq,abr,abt,abu,hlen,d1,d2,Bool.and_false,Bool.and_true]
   exact ah▸ae rfl (af.bool _)
def OD:List AV:=[.int .i64 0, .int .i64 0, .int .i64 0, .int .i64 1, .int .i64 2, .int .i64 2, .int .i64 2, .int .i64 2]
theorem EX.cL (args:List EX):(EX.dy args).length=args.length:=by rw [EX.bY,List.length_map]
theorem A5 (nm:List UInt8):(nm==([]:List UInt8))=nm.isEmpty:=by cases nm<;>rfl
theorem tY (v:FuncId):af (.fn (.func v) [] []):=af.fn (by simp) (by simp)
end
theorem UM (args:List EX):(EX.dy args).any Rz = !EX.pA args:=by
 rw [EX.bY,EX.tX]
 induction args with
 | nil=>rfl
 | cons a l ih=>simp only [List.map_cons,List.any_cons,List.all_cons,Ix,ih,Bool.not_and]
theorem EX.Cs:∀ l:List EX,l.length<=EX.cK l
 | []=>Nat.le_refl _
 | e::l=>by rw [EX.cK,List.length_cons];have:=EX.OC e;have:=EX.Cs l;omega
theorem EX.qP {x:EX}:∀ {l:List EX},x∈l->x.nodes<=EX.cK l
 | e::l,h=>by
   rw [EX.cK]
   rcases List.mem_cons.1 h with rfl | h
   . omega
   . have:=EX.qP h;omega
theorem EX.Iy:∀ e:EX,e.depth<=e.nodes:=EX.induct fun op n1 w1 n2 w2 nm args ih=>by
 rw [EX.depth,EX.nodes]
 suffices h:EX.fO args<=EX.cK args by omega
 induction args with
 | nil=>exact Nat.le_refl _
 | cons a l ihl =>
   rw [EX.fO,EX.cK]
   have h1:=ih a (by simp)
   have h2:=ihl fun x hx=>ih x (by simp [hx])
   omega
theorem EX.tZ (x:EX):∀ l,EX.fO (l++[x])=max (EX.fO l) x.depth
 | []=>by simp [EX.fO]
 | a::l=>by rw [List.cons_append,EX.fO,EX.fO,EX.tZ x l];omega
theorem EX.zi (l:List EX) (k:Nat):EX.fO (l.take k)<=EX.cK l:=by
 induction l generalizing k with
 | nil=>simp [EX.fO]
 | cons a l ih =>
   cases k with
   | zero=>simp [EX.fO]
   | succ k =>
     rw [List.take_succ_cons,EX.fO,EX.cK]
     have:=ih k
     have:=EX.Iy a
     omega
theorem EX.pB {op n1 w1 n2 w2 nm args} (h:(EX.mk op n1 w1 n2 w2 nm args).Ok):∀ x∈args,x.Ok:=by
 rw [EX.Ok] at h
 exact EX.Gd.1 h.2.2.2.2.2.2.2.2
theorem EX.r5 {op n1 w1 n2 w2 nm args} (h:(EX.mk op n1 w1 n2 w2 nm args).lT=true):(∀ x∈args,x.lT=true)/\w1.length<=8/\w2.length<=8/\nm.length<=60:=by
 rw [EX.lT,EX.wq] at h
 simp only [Bool.and_eq_true,List.all_eq_true,decide_eq_true_eq] at h
 exact ⟨h.1.1.1,h.1.1.2,h.1.2,h.2⟩
theorem OE:((AV.agg [.int .i64 0, .bool false, .nils, .bool false, .nils, .str [], .nils]).cells.all AV.one=true)=True:=by simp [AV.cells,AV.one]
theorem EX.upd (e:EX):(AV.agg [.int .i64 0, .bool false, .nils, .bool false, .nils, .str [], .nils]).upd 0 e.av.cells=e.av:=by cases e;rw [EX.av];rfl
theorem MT {σ : aa} {id:Id} {k:Nat} {e:EX} (h : σ id=some ⟨[.agg [.int .i64 0, .bool false, .nils, .bool false, .nils, .str [], .nils]],k,false⟩):eO σ 7 (.ref id 0 0) e.av=some { val := .tup [],rd:=[id],up:=[(id,some ⟨[e.av],k,false⟩)] }:=by
 rw [dw (n:=7) (v:=e.av) h rfl (by rw [show e.av.cells.length=7 from EX.size e]) (by simp [AV.size,AV.cells]) (of_eq_true (EX.one e))]
 simp [EX.upd]
section
variable {P:Program} {G:Nat->Option (List AV)}
theorem OG {f:FuncId} (h:Has P f (nk f)):∀ e:EX,e.nodes<=1000->VP P G f [e.av] (.int .i64 (e.depth:Int)):=EX.induct fun op n1 w1 n2 w2 nm args ih AW=>by
 have vN:EX.cK args<=999:=by rw [EX.nodes] at AW;omega
 have GN:args.length<=999:=Nat.le_trans (EX.Cs args) vN
 rw [EX.depth]
 refine VP.has h ?_
 simp only [nk,SS,Nat.reduceAdd,EX.one,ak,EX.q6,EX.cL,az]
 refine VW.bG (α := Nat × Nat) (fun x=>⟨[(EX.mk op n1 w1 n2 w2 nm args).av, .top, .top, .int .i64 ((EX.fO (args.take x.1):Nat):Int), .top, .top, .top, .sl 7 (EX.dy args), .int .i64 (args.length:Int), .int .i64 (x.1:Int)]++List.replicate 10 .top,fun _=>none,x.2⟩)
   (fun x=>x.1<=args.length) (fun x=>args.length-x.1) (0,1000) ?_ (Nat.zero_le _) ?_
 . exact Wk.forget (by simp [Fg,List.replicate,EX.fO]) (fun j => .inl rfl) (by simp only [];omega)
 rintro ⟨i,nn⟩ hi
 simp only [] at hi
 by_cases hlt:i<args.length
 . obtain ⟨x,hx⟩:∃ x,args[i]? = some x:=⟨_,List.getElem?_eq_getElem hlt⟩
   have hm:=List.mem_of_getElem? hx
   have Oq:=EX.qP hm
   have hg:(EX.dy args)[i]? = some x.av:=by rw [EX.bY,List.getElem?_map,hx];rfl
   have d1:decide ((i:Int)<(args.length:Int))=true:=ai (by omega)
   have hdx:=EX.Iy x
   have Yj:=EX.zi args i
   simp only [SS,Nat.reduceAdd,d1,aN rfl hg,ax,EX.all,OE]
   rw [MT (k:=(AV.agg [.int .i64 0, .bool false, .nils, .bool false, .nils, .str [], .nils]).size) (by simp [aa.put])]
   simp only [SS,Nat.reduceAdd,ak,EX.all]
   refine aj (ih x hm (by omega)) (by simp [EX.pure]) ?_
   simp only [SS,Nat.reduceAdd,ao i (by omega)]
   have em:(if (x.depth:Int)>((EX.fO (args.take i):Nat):Int) then (x.depth:Int) else ((EX.fO (args.take i):Nat):Int))=((EX.fO (args.take (i+1)):Nat):Int):=by
     rw [List.take_add_one,hx,Option.toList_some,EX.tZ]
     split<;>omega
   simp only [em]
   exact ⟨(i+1,_),by simp only [];omega,by simp only [];omega,Wk.forget (by simp [Fg]) (fun _ => .inl rfl) (Nat.le_refl _)⟩
 . have d1:decide ((i:Int)<(args.length:Int))=false:=ag (by omega)
   have fK:i=args.length:=by omega
   have Yj:=EX.zi args args.length
   rw [List.take_length] at Yj
   have hw:IntKind.i64.wrap (((EX.fO args:Nat):Int)+1)=((EX.fO args+1:Nat):Int):=by rw [IntKind.wrap_i64];omega
   subst fK
   rw [List.take_length]
   simp only [SS,Nat.reduceAdd,d1,hw]
   exact ah▸ae rfl (af.int _ _)
theorem OH {f ff fd:FuncId} (h:Has P f (jF ff fd)) (e:EX) (hf:VP P G ff [e.av] (.bool e.formed)) (hd:VP P G fd [e.av] (.int .i64 (e.depth:Int))) :
   VP P G f [e.av] (.int .i64 (if e.formed=true then (if 40<e.depth then 3 else 0) else 1)):=by
 cases DR:e.formed
 . rw [DR] at hf
   refine VP.has h ?_
   simp only [jF,SS,Nat.reduceAdd,EX.one,ak,EX.all]
   refine aj hf (by simp [EX.pure]) ?_
   simp only [SS,Nat.reduceAdd]
   exact ah▸ae rfl (af.int _ _)
 . rw [DR] at hf
   by_cases hdp:40<e.depth
   . have d1:decide ((40:Int)<(e.depth:Int))=true:=ai (by omega)
     rw [if_pos rfl,if_pos hdp]
     refine VP.has h ?_
     simp only [jF,SS,Nat.reduceAdd,EX.one,ak,EX.all]
     refine aj hf (by simp [EX.pure]) ?_
     simp only [SS,Nat.reduceAdd,ak,EX.all]
     refine aj hd (by simp [EX.pure]) ?_
     simp only [SS,Nat.reduceAdd,d1]
     exact ah▸ae rfl (af.int _ _)
   . have d1:decide ((40:Int)<(e.depth:Int))=false:=ag (by omega)
     rw [if_pos rfl,if_neg hdp]
     refine VP.has h ?_
     simp only [jF,SS,Nat.reduceAdd,EX.one,ak,EX.all]
     refine aj hf (by simp [EX.pure]) ?_
     simp only [SS,Nat.reduceAdd,ak,EX.all]
     refine aj hd (by simp [EX.pure]) ?_
     simp only [SS,Nat.reduceAdd,d1]
     exact ah▸ae rfl (af.int _ _)
end
section
variable (op:Int) (n1:Bool) (w1:List Nat) (n2:Bool) (w2:List Nat) (nm:List UInt8) (args:List EX)
theorem EX.r2:part false (EX.mk op n1 w1 n2 w2 nm args).av.cells 2 1=some (.sl 1 (us w1)):=by rw [EX.av];rfl
theorem EX.r4:part false (EX.mk op n1 w1 n2 w2 nm args).av.cells 4 1=some (.sl 1 (us w2)):=by rw [EX.av];rfl
end
def zj (op:Int) (n1:Bool) (w1:List Nat) (n2:Bool) (w2:List Nat) (nm:List UInt8) (al:Nat):Bool :=
 if op=1 then F8 n1 w1 n2 w2&&(nm.isEmpty||b7 nm)&&decide (al=0)
 else if op=2 then tW n1 w1 n2 w2&&b7 nm&&decide (al=0)
 else if op=3 then tW n1 w1 n2 w2&&nm.isEmpty&&decide (al=1)
 else if 4<=op/\op<=7 then tW n1 w1 n2 w2&&nm.isEmpty&&decide (al=2)
 else false
theorem EX.Ge (op:Int) (n1:Bool) (w1:List Nat) (n2:Bool) (w2:List Nat) (nm:List UInt8) (args:List EX) :
   (EX.mk op n1 w1 n2 w2 nm args).formed=(zj op n1 w1 n2 w2 nm args.length&&EX.pA args):=by
 rw [EX.formed]
 unfold zj arity
 have B6:args.length=0->EX.pA args=true:=fun h=>by rw [List.length_eq_zero_iff.1 h];rfl
 by_cases h1:op=1
 . subst h1
   by_cases h0:args.length=0
   . simp [h0,B6 h0]
   . simp [h0]
 rw [if_neg h1,if_neg h1]
 by_cases h2:op=2
 . subst h2
   by_cases h0:args.length=0
   . simp [h0,B6 h0]
   . simp [h0]
 rw [if_neg h2,if_neg h2]
 by_cases h3:op=3
 . subst h3
   by_cases h0:args.length=1
   . simp [h0]
   . simp [h0]
 rw [if_neg h3]
 by_cases h4:4<=op/\op<=7
 . have a1 : ¬ op<=2:=by omega
   have a2 : ¬ op<=3:=by omega
   have a3:1<=op:=by omega
   rw [if_pos h4,if_neg a1,if_neg a2]
   by_cases h0:args.length=2
   . simp [h0,a3,h4.2]
   . simp [h0]
 . rw [if_neg h4,Bool.false_and]
   by_cases a3:1<=op
   . have a4 : ¬ op<=7:=by omega
     simp [a4]
   . simp [a3]
section
variable {P:Program} {G:Nat->Option (List AV)}
theorem KJ {f fs:FuncId} (h:Has P f (gp fs f))
   (hs:∀ op n1 w1 n2 w2 nm args,(EX.mk op n1 w1 n2 w2 nm args).Ok->(EX.mk op n1 w1 n2 w2 nm args).lT=true->VP P G fs [(EX.mk op n1 w1 n2 w2 nm args).av] (.bool (zj op n1 w1 n2 w2 nm args.length))) :
   ∀ e:EX,e.Ok->e.lT=true->VP P G f [e.av] (.bool e.formed):=EX.induct fun op n1 w1 n2 w2 nm args ih dI PI=>by
 have Au:=hs _ _ _ _ _ _ _ dI PI
 have RA:=EX.pB dI
 have WH:=(EX.r5 PI).1
 rw [EX.Ok] at dI
 obtain ⟨_,_,_,_,_,_,_,GN,_⟩:=dI
 rw [EX.Ge]
 cases hb:zj op n1 w1 n2 w2 nm args.length
 . rw [hb] at Au
   refine VP.has h ?_
   simp only [gp,SS,Nat.reduceAdd,EX.one,ak,EX.all]
   refine aj Au (by simp [EX.pure]) ?_
   simp only [SS,Nat.reduceAdd,Bool.false_and]
   exact ah▸ae rfl (af.bool _)
 rw [hb] at Au
 rw [EX.tX,Bool.true_and]
 refine VP.has h ?_
 simp only [gp,SS,Nat.reduceAdd,EX.one,ak,EX.all]
 refine aj Au (by simp [EX.pure]) ?_
 simp only [SS,Nat.reduceAdd,az]
 refine VW.bG (α := Nat × Nat) (fun x=>⟨[(EX.mk op n1 w1 n2 w2 nm args).av, .ref [0] 0 0, .bool false, .int .i64 (x.1:Int)]++List.replicate 17 .top,aa.put (fun _=>none) [0] (some ⟨[(EX.mk op n1 w1 n2 w2 nm args).av],7,false⟩),x.2⟩)
   (fun x=>x.1<=args.length/\(args.take x.1).all EX.formed=true) (fun x=>args.length-x.1) (0,1000) ?_ ⟨Nat.zero_le _,by simp⟩ ?_
 . exact Wk.slots (by simp [Fg,List.replicate]) (by omega)
 rintro ⟨i,nn⟩ ⟨hi,cx⟩
 simp only [] at hi cx
 by_cases hlt:i<args.length
 . obtain ⟨x,hx⟩:∃ x,args[i]? = some x:=⟨_,List.getElem?_eq_getElem hlt⟩
   have hm:=List.mem_of_getElem? hx
   have hg:(EX.dy args)[i]? = some x.av:=by rw [EX.bY,List.getElem?_map,hx];rfl
   have d1:decide ((i:Int)<(args.length:Int))=true:=ai (by omega)
   have hfx:=ih x hm (RA x hm) (WH x hm)
   simp only [SS,Nat.reduceAdd,ak,EX.q6,EX.cL,d1,aN rfl hg,ax,EX.all]
   refine aj hfx (by simp [EX.pure]) ?_
   cases Yr:x.formed
   . have e:args.all EX.formed=false:=by
       rw [Bool.eq_false_iff];intro hh
       rw [List.all_eq_true] at hh
       rw [hh x hm] at Yr;cases Yr
     rw [e]
     simp only [SS,Nat.reduceAdd]
     exact ah▸ae rfl (af.bool _)
   . simp only [SS,Nat.reduceAdd,ao i (by omega)]
     refine ⟨(i+1,_),⟨by simp only [];omega, ?_⟩,by simp only [];omega,Wk.slots (by simp [Fg]) (Nat.le_refl _)⟩
     simp only []
     rw [List.take_add_one,hx,List.all_append,cx]
     simp [Yr]
 . have d1:decide ((i:Int)<(args.length:Int))=false:=ag (by omega)
   have fK:i=args.length:=by omega
   rw [fK,List.take_length] at cx
   rw [cx]
   simp only [SS,Nat.reduceAdd,ak,EX.q6,EX.cL,d1]
   exact ah▸ae rfl (af.bool _)
theorem OJ {f:FuncId} (h:Has P f (jt f)):∀ e:EX,e.nodes<=1000->VP P G f [e.av] (.int .i64 (e.depth:Int)):=EX.induct fun op n1 w1 n2 w2 nm args ih AW=>by
 have vN:EX.cK args<=999:=by rw [EX.nodes] at AW;omega
 have GN:args.length<=999:=Nat.le_trans (EX.Cs args) vN
 rw [EX.depth]
 refine VP.has h ?_
 simp only [jt,SS,Nat.reduceAdd,EX.one,az]
 refine VW.bG (α := Nat × Nat) (fun x=>⟨[(EX.mk op n1 w1 n2 w2 nm args).av, .ref [0] 0 0, .top, .int .i64 ((EX.fO (args.take x.1):Nat):Int), .int .i64 (x.1:Int)]++List.replicate 17 .top,aa.put (fun _=>none) [0] (some ⟨[(EX.mk op n1 w1 n2 w2 nm args).av],7,false⟩),x.2⟩)
   (fun x=>x.1<=args.length) (fun x=>args.length-x.1) (0,1000) ?_ (Nat.zero_le _) ?_
 . exact Wk.slots (by simp [Fg,List.replicate,EX.fO]) (by omega)
 rintro ⟨i,nn⟩ hi
 simp only [] at hi
 by_cases hlt:i<args.length
 . obtain ⟨x,hx⟩:∃ x,args[i]? = some x:=⟨_,List.getElem?_eq_getElem hlt⟩
   have hm:=List.mem_of_getElem? hx
   have Oq:=EX.qP hm
   have hg:(EX.dy args)[i]? = some x.av:=by rw [EX.bY,List.getElem?_map,hx];rfl
   have d1:decide ((i:Int)<(args.length:Int))=true:=ai (by omega)
   have em:(if (x.depth:Int)>((EX.fO (args.take i):Nat):Int) then (x.depth:Int) else ((EX.fO (args.take i):Nat):Int))=((EX.fO (args.take (i+1)):Nat):Int):=by
     rw [List.take_add_one,hx,Option.toList_some,EX.tZ]
     split<;>omega
   simp only [SS,Nat.reduceAdd,ak,EX.q6,EX.cL,d1,aN rfl hg,ax,EX.all]
   refine aj (ih x hm (by omega)) (by simp [EX.pure]) ?_
   simp only [SS,Nat.reduceAdd,ao i (by omega),em]
   exact ⟨(i+1,_),by simp only [];omega,by simp only [];omega,Wk.slots (by simp [Fg]) (Nat.le_refl _)⟩
 . have d1:decide ((i:Int)<(args.length:Int))=false:=ag (by omega)
   have fK:i=args.length:=by omega
   have Yj:=EX.zi args args.length
   rw [List.take_length] at Yj
   have hw:IntKind.i64.wrap (((EX.fO args:Nat):Int)+1)=((EX.fO args+1:Nat):Int):=by rw [IntKind.wrap_i64];omega
   subst fK
   rw [List.take_length]
   simp only [SS,Nat.reduceAdd,ak,EX.q6,EX.cL,d1,hw]
   exact ah▸ae rfl (af.int _ _)
theorem Iz {f ff fd:FuncId} (h:Has P f (eS ff fd)) (e:EX) (hf:VP P G ff [e.av] (.bool e.formed)) (hd:VP P G fd [e.av] (.int .i64 (e.depth:Int))) :
   VP P G f [e.av] (.int .i64 (if e.formed=true then (if 40<e.depth then 3 else 0) else 1)):=by
 cases DR:e.formed
 . rw [DR] at hf
   refine VP.has h ?_
   simp only [eS,SS,Nat.reduceAdd,EX.one,ak,EX.all]
   refine aj hf (by simp [EX.pure]) ?_
   simp only [SS,Nat.reduceAdd]
   exact ah▸ae rfl (af.int _ _)
 . rw [DR] at hf
   by_cases hdp:40<e.depth
   . have d1:decide ((40:Int)<(e.depth:Int))=true:=ai (by omega)
     rw [if_pos rfl,if_pos hdp]
     refine VP.has h ?_
     simp only [eS,SS,Nat.reduceAdd,EX.one,ak,EX.all]
     refine aj hf (by simp [EX.pure]) ?_
     simp only [SS,Nat.reduceAdd,ak,EX.all]
     refine aj hd (by simp [EX.pure]) ?_
     simp only [SS,Nat.reduceAdd,d1]
     exact ah▸ae rfl (af.int _ _)
   . have d1:decide ((40:Int)<(e.depth:Int))=false:=ag (by omega)
     rw [if_pos rfl,if_neg hdp]
     refine VP.has h ?_
     simp only [eS,SS,Nat.reduceAdd,EX.one,ak,EX.all]
     refine aj hf (by simp [EX.pure]) ?_
     simp only [SS,Nat.reduceAdd,ak,EX.all]
     refine aj hd (by simp [EX.pure]) ?_
     simp only [SS,Nat.reduceAdd,d1]
     exact ah▸ae rfl (af.int _ _)
theorem RB {f:FuncId} (h:Has P f (jy f)):∀ e:EX,e.Ok->VP P G f [e.av] (.bool e.lT):=EX.induct fun op n1 w1 n2 w2 nm args ih dI=>by
 have RA:=EX.pB dI
 rw [EX.Ok] at dI
 obtain ⟨_,_,_,_,_,_,_,GN,_⟩:=dI
 rw [EX.lT,EX.wq]
 have hlen:∀ ws,ky false (.sl 1 (us ws))=some (.int .i64 ws.length):=fun ws=>by simp [ky,dD]
 have l1:decide ((w1.length:Int)<=8)=decide (w1.length<=8):=by by_cases q:w1.length<=8<;>simp [q]<;>omega
 have l2:decide ((w2.length:Int)<=8)=decide (w2.length<=8):=by by_cases q:w2.length<=8<;>simp [q]<;>omega
 have l3:decide ((nm.length:Int)<=60)=decide (nm.length<=60):=by by_cases q:nm.length<=60<;>simp [q]<;>omega
 refine VP.has h ?_
 simp only [jy,SS,Nat.reduceAdd,EX.one,az]
 refine VW.bG (α := Nat × Nat) (fun x=>⟨[(EX.mk op n1 w1 n2 w2 nm args).av, .ref [0] 0 0, .bool false, .int .i64 (x.1:Int)]++List.replicate 34 .top,aa.put (fun _=>none) [0] (some ⟨[(EX.mk op n1 w1 n2 w2 nm args).av],7,false⟩),x.2⟩)
   (fun x=>x.1<=args.length/\(args.take x.1).all EX.lT=true) (fun x=>args.length-x.1) (0,1000) ?_ ⟨Nat.zero_le _,by simp⟩ ?_
 . exact Wk.slots (by simp [Fg,List.replicate]) (by omega)
 rintro ⟨i,nn⟩ ⟨hi,cx⟩
 simp only [] at hi cx
 by_cases hlt:i<args.length
 . obtain ⟨x,hx⟩:∃ x,args[i]? = some x:=⟨_,List.getElem?_eq_getElem hlt⟩
   have hm:=List.mem_of_getElem? hx
   have hg:(EX.dy args)[i]? = some x.av:=by rw [EX.bY,List.getElem?_map,hx];rfl
   have d1:decide ((i:Int)<(args.length:Int))=true:=ai (by omega)
   have hfx:=ih x hm (RA x hm)
   simp only [SS,Nat.reduceAdd,ak,EX.q6,EX.cL,d1,aN rfl hg,ax,EX.all]
   refine aj hfx (by simp [EX.pure]) ?_
   cases Yr:x.lT
   . have e:args.all EX.lT=false:=by
       rw [Bool.eq_false_iff];intro hh
       rw [List.all_eq_true] at hh
       rw [hh x hm] at Yr;cases Yr
     rw [e]
     simp only [SS,Nat.reduceAdd,Bool.false_and]
     exact ah▸ae rfl (af.bool _)
   . simp only [SS,Nat.reduceAdd,ao i (by omega)]
     refine ⟨(i+1,_),⟨by simp only [];omega, ?_⟩,by simp only [];omega,Wk.slots (by simp [Fg]) (Nat.le_refl _)⟩
     simp only []
     rw [List.take_add_one,hx,List.all_append,cx]
     simp [Yr]
 . have d1:decide ((i:Int)<(args.length:Int))=false:=ag (by omega)
   have fK:i=args.length:=by omega
   rw [fK,List.take_length] at cx
   rw [cx,Bool.true_and]
   cases b1:decide (w1.length<=8)<;>cases b2:decide (w2.length<=8) <;>
   . rw [b1] at l1
     rw [b2] at l2
     simp only [SS,Nat.reduceAdd,ak,EX.q6,EX.cL,d1,EX.r2,EX.r4,EX.q5,hlen,l1,l2,l3,Bool.true_and,Bool.false_and]
     exact ah▸ae rfl (af.bool _)
def jA (L n:Nat):Nat:=if n<=L then n else L+1
theorem EX.Ac (x:EX):∀ l,EX.cK (l++[x])=EX.cK l+x.nodes
 | []=>by simp [EX.cK]
 | a::l=>by rw [List.cons_append,EX.cK,EX.cK,EX.Ac x l];omega
theorem EX.IA (l:List EX) (k:Nat):EX.cK (l.take k)<=EX.cK l:=by
 induction l generalizing k with
 | nil=>simp [EX.cK]
 | cons a l ih=>cases k with
   | zero=>simp [EX.cK]
   | succ k=>rw [List.take_succ_cons,EX.cK,EX.cK];have:=ih k;omega
theorem RD {f:FuncId} (h:Has P f (jv f)):∀ e:EX,e.Ok->∀ L:Nat,L<=1000->VP P G f [e.av, .int .i64 (L:Int)] (.int .i64 ((jA L e.nodes:Nat):Int)):=EX.induct fun op n1 w1 n2 w2 nm args ih dI L hL=>by
 have RA:=EX.pB dI
 rw [EX.Ok] at dI
 obtain ⟨_,_,_,_,_,_,_,GN,_⟩:=dI
 rw [EX.nodes]
 refine VP.has h ?_
 simp only [jv,SS,Nat.reduceAdd,EX.one,az]
 refine VW.bG (α := Nat × Nat) (fun x=>⟨[(EX.mk op n1 w1 n2 w2 nm args).av, .int .i64 (L:Int), .ref [0] 0 0, .top, .top, .int .i64 ((jA L (1+EX.cK (args.take x.1)):Nat):Int), .int .i64 (x.1:Int)]++List.replicate 24 .top,aa.put (fun _=>none) [0] (some ⟨[(EX.mk op n1 w1 n2 w2 nm args).av],7,false⟩),x.2⟩)
   (fun x=>x.1<=args.length) (fun x=>args.length-x.1) (0,1000) ?_ (Nat.zero_le _) ?_
 . have e0:jA L (1+EX.cK (args.take 0))=1:=by rw [List.take_zero,EX.cK];unfold jA;split<;>omega
   simp only [e0]
   exact Wk.slots (by simp [Fg,List.replicate]) (by omega)
 rintro ⟨i,nn⟩ hi
 simp only [] at hi
 by_cases hlt:i<args.length
 . obtain ⟨x,hx⟩:∃ x,args[i]? = some x:=⟨_,List.getElem?_eq_getElem hlt⟩
   have hm:=List.mem_of_getElem? hx
   have hg:(EX.dy args)[i]? = some x.av:=by rw [EX.bY,List.getElem?_map,hx];rfl
   have d1:decide ((i:Int)<(args.length:Int))=true:=ai (by omega)
   by_cases hn:1+EX.cK (args.take i)<=L
   . have e1:jA L (1+EX.cK (args.take i))=1+EX.cK (args.take i):=if_pos hn
     have d2:decide (((1+EX.cK (args.take i):Nat):Int)<=(L:Int))=true:=ai (by omega)
     have hw:IntKind.i64.wrap ((L:Int)-((1+EX.cK (args.take i):Nat):Int))=((L-(1+EX.cK (args.take i)):Nat):Int):=by rw [IntKind.wrap_i64];omega
     have hfx:=ih x hm (RA x hm) (L-(1+EX.cK (args.take i))) (by omega)
     have hup:jA (L-(1+EX.cK (args.take i))) x.nodes<=L+1:=by unfold jA;split<;>omega
     have th:IntKind.i64.wrap (((1+EX.cK (args.take i):Nat):Int)+((jA (L-(1+EX.cK (args.take i))) x.nodes:Nat):Int))=((jA L (1+EX.cK (args.take (i+1))):Nat):Int):=by
       rw [List.take_add_one,hx,Option.toList_some,EX.Ac]
       unfold jA at hup ⊢
       rw [IntKind.wrap_i64]
       split<;>split<;>omega
     simp only [e1]
     simp only [SS,Nat.reduceAdd,ak,EX.q6,EX.cL,d1,d2,aN rfl hg,ax,EX.all,hw]
     refine aj hfx (by simp [EX.pure,af.int]) ?_
     simp only [SS,Nat.reduceAdd,ao i (by omega),th]
     exact ⟨(i+1,_),by simp only [];omega,by simp only [];omega,Wk.slots (by simp [Fg]) (Nat.le_refl _)⟩
   . have e1:jA L (1+EX.cK (args.take i))=L+1:=if_neg hn
     have d2:decide (((L+1:Nat):Int)<=(L:Int))=false:=ag (by omega)
     have ht:=EX.IA args i
     have e2:jA L (1+EX.cK args)=L+1:=if_neg (by omega)
     simp only [e1]
     rw [e2]
     simp only [SS,Nat.reduceAdd,ak,EX.q6,EX.cL,d1,d2]
     exact ah▸ae rfl (af.int _ _)
 . have d1:decide ((i:Int)<(args.length:Int))=false:=ag (by omega)
   have fK:i=args.length:=by omega
   subst fK
   simp only [List.take_length]
   simp only [SS,Nat.reduceAdd,ak,EX.q6,EX.cL,d1]
   exact ah▸ae rfl (af.int _ _)
theorem KL {f fn fl:FuncId} (h:Has P f (gH fn fl)) (e:EX) (hn:VP P G fn [e.av, .int .i64 120] (.int .i64 ((jA 120 e.nodes:Nat):Int))) (hl:VP P G fl [e.av] (.bool e.lT)) :
   VP P G f [e.av] (.bool (decide (e.nodes<=120)&&e.lT)):=by
 by_cases hd:e.nodes<=120
 . have e1:jA 120 e.nodes=e.nodes:=if_pos hd
   have d1:decide ((e.nodes:Int)<=120)=true:=ai (by omega)
   rw [e1] at hn
   rw [ai hd,Bool.true_and]
   refine VP.has h ?_
   simp only [gH,SS,Nat.reduceAdd,EX.one,ak,EX.all]
   refine aj hn (by simp [EX.pure,af.int]) ?_
   simp only [SS,Nat.reduceAdd,d1,ak,EX.all]
   refine aj hl (by simp [EX.pure]) ?_
   simp only [SS,Nat.reduceAdd]
   exact ah▸ae rfl (af.bool _)
 . have e1:jA 120 e.nodes=121:=if_neg hd
   have d1:decide ((((121:Nat)):Int)<=120)=false:=by decide
   rw [e1] at hn
   rw [ag hd,Bool.false_and]
   refine VP.has h ?_
   simp only [gH,SS,Nat.reduceAdd,EX.one,ak,EX.all]
   refine aj hn (by simp [EX.pure,af.int]) ?_
   simp only [SS,Nat.reduceAdd,d1]
   exact ah▸ae rfl (af.bool _)
end
end Go.VL
