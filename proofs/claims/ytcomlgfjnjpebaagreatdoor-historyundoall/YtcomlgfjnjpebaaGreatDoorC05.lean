/- For the claim of HistoryUndoAll: parts GI, GR, HHas, TryzShelf, FUH, TUH, VL28, VL29, CLex, CB, WN, CI1. -/
import Derived.Test.YtcomlgfjnjpebaaGreatDoorC04
import Derived.Test.YtcomlgfjnjpebaaGreatDoorProg
import Derived.KernelRfl
import Derived.Shelf.Strings.Builder1
import Derived.Shelf.Strings.Builder2
import Derived.Shelf.Small.Bits
import Derived.Shelf.Strings.BuilderF
import Derived.Shelf.Strings.BuilderK
import Derived.Shelf.Strconv.Itoa0
import Derived.Shelf.Strconv.Itoa1
import Derived.Shelf.LaysM
import Derived.Shelf.Strconv.Itoa2
import Derived.Shelf.Strings.Search1
import Derived.Shelf.Strings.Search2
import Derived.Shelf.Strings.Cut
import Derived.Shelf.Strings.Shaped
import Derived.Shelf.Sort.Plain
import Derived.Shelf.Strings.Prefix
import Derived.Shelf.Bits.Mul64
import Derived.Shelf.Strings.Repeat
import Derived.Shelf.Slices.Equal
import Derived.Ground.Names2Prog
import Derived.Shelf.Slices.Clone
import Derived.Shelf.Slices.CompactS
import Derived.Shelf.Slices.SearchI
import Derived.Shelf.Slices.Cells
import Derived.Shelf.Slices.In.SortNone
import Derived.Shelf.Slices.Empties2
import Derived.Ground.SlgnProg
import Derived.Shelf.SlicesE.Clone
import Derived.WalkKit
import Derived.Lib.Walk
import Derived.Lib.ItoaMem
import Derived.Lib.AppendIntMem
import Derived.BigCall
import Derived.BigGuard
import Derived.RangeFuncBox
import Derived.RangeFuncLeaves
import Derived.Shelf.Abstract
import Derived.OwnWalkIn
import Derived.TacticsInMore
import Derived.LoopNIn
import Derived.LoopIn
set_option linter.unusedSimpArgs false
set_option linter.unusedVariables false
section
set_option maxRecDepth 100000
namespace Go.VL
def du:ay:=⟨21,[(.tmp 2)],(cS [oZ 2] (.seq (.block 0 (.loop (.seq (cS [oM 3 0,oN 4 3,bO 5 .gtr 4 0,oM 6 5,gM 7 0 6 true,gM 8 0 6 true,gN 9 8 6 true,⟨some 10,.bin .sub .int (.t 9) (.c (.int .i64 1)),some (6,true)⟩,⟨some 11,.iaddrS 1 (.t 7) (.t 10),some (6,true)⟩,gL 12 1 11 6 true,⟨some 13,.bin .eql .int (.t 12) (.c (.int .u32 0)),some (6,true)⟩,iR 14 6 13] (.cond (.t 14) .skip (.exit 0))) (.block 1 (cR [oM 15 0,oM 16 0,oN 17 16,bO 18 .sub 17 1,⟨some 19,.slice 1 (.t 15) none (some (.t 18)) none,none⟩,oM 0 19]))))) (cS [oM 20 0,oM 2 20] .ret)))⟩
def lL (aR:Nat):ay:=⟨14,[(.cell 4 true 2)],(cS [⟨some 4,.box (.c (.agg [(.bool false),.nils])),none⟩] (cS [oM 5 1,oC 6 aR 5,oM 1 6] (.seq (cS [oM 7 1,oN 8 7,bO 9 .eql 8 0] (.cond (.t 9) (cS [⟨some 10,.build [(.bool false),.nils] [],none⟩,oS 2 4 10] .ret) .skip)) (cS [oM 11 0,oM 12 1,⟨some 13,.build [(.bool false),.nils] [(0,(1,(.t 11))),(1,(1,(.t 12)))],none⟩,oS 2 4 13] .ret))))⟩
def j3 (aR:Nat):ay:=⟨10,[(.tmp 2)],(cS [oZ 2] (cS [oM 3 0,oK 4 .u32 3,oM 5 0,⟨some 6,.bin .shr .int (.t 5) (.c (.int .u64 32)),none⟩,oK 7 .u32 6,⟨some 8,.buildSl 1 2 (.int .u32 0) [(0,(.t 4)),(1,(.t 7))],none⟩,oC 9 aR 8,oM 2 9] .ret))⟩
def ng (nh vR:Nat):ay:=⟨41,[(.tmp 4)],(cS [oI 4 0] (.seq (cS [oM 6 0,oN 7 6,oM 8 1,oN 9 8,oT 10 .neq 7 9] (.cond (.t 10) (cS [oM 11 0,oN 12 11,oM 13 1,oN 14 13,fJ 15 nh 12 14,oM 4 15] .ret) .skip)) (.seq (cS [oM 16 0,oN 17 16,bO 18 .sub 17 1,oM 5 18] (.block 0 (.loop (.seq (cS [oM 19 5,bO 20 .geq 19 0] (.cond (.t 20) .skip (.exit 0))) (.seq (.block 1 (.seq (.reg (some []) [oM 23 0,oM 24 5,oA 25 1 23 24,oL 26 1 25,oM 27 1,oM 28 5,oA 29 1 27 28,oL 30 1 29,oT 31 .neq 26 30]) (.cond (.t 31) (.seq (.reg (some []) [oM 32 0,oM 33 5,oA 34 1 32 33,oL 35 1 34,oM 36 1,oM 37 5,oA 38 1 36 37,oL 39 1 38,fJ 40 vR 35 39,oM 4 40]) .ret) .skip))) (cR [oM 21 5,bO 22 .sub 21 1,oM 5 22])))))) (cS [oI 4 0] .ret))))⟩
def pY:ay:=⟨58,[(.tmp 4)],(cS [oZ 4] (.seq (cS [oM 9 0,oN 10 9,oM 11 1,oN 12 11,oT 13 .lss 10 12] (.cond (.t 13) (cR [oM 14 1,oM 15 0,oM 0 14,oM 1 15]) .skip)) (cS [oM 16 0,oN 17 16,bO 18 .add 17 1,⟨some 19,.mksl 1 4 (.int .u32 0) (.c (.int .i64 0)) (.t 18),none⟩,oM 5 19] (cS [⟨some 6,.mv (.c (.int .u64 0)),none⟩] (.seq (cS [oM 20 0,oN 21 20,oI 22 0] (.block 0 (.loop (cS [oT 23 .lss 22 21] (.seq (.cond (.t 23) .skip (.exit 0)) (.seq (.block 1 (cS [oM 24 22,oA 25 1 20 22,oL 26 1 25,oM 7 24,oM 8 26] (cS [oM 27 6,oM 28 8,oK 29 .u64 28,oT 30 .add 27 29,oM 6 30] (.seq (cS [oM 31 7,oM 32 1,oN 33 32,oT 34 .lss 31 33] (.cond (.t 34) (cR [oM 35 6,oM 36 1,oM 37 7,oA 38 1 36 37,oL 39 1 38,oK 40 .u64 39,oT 41 .add 35 40,oM 6 41]) .skip)) (cS [oM 42 5,oM 43 6,oK 44 .u32 43,⟨some 45,.buildSl 1 1 (.int .u32 0) [(0,(.t 44))],none⟩,yT 46 1 4 42 45,oM 5 46] (cR [oM 47 6,⟨some 48,.bin .shr .int (.t 47) (.c (.int .u64 32)),none⟩,oM 6 48])))))) (cR [bO 49 .add 22 1,oM 22 49]))))))) (.seq (cS [oM 50 6,⟨some 51,.bin .gtr .int (.t 50) (.c (.int .u64 0)),none⟩] (.cond (.t 51) (cR [oM 52 5,oM 53 6,oK 54 .u32 53,⟨some 55,.buildSl 1 1 (.int .u32 0) [(0,(.t 54))],none⟩,yT 56 1 4 52 55,oM 5 56]) .skip)) (cS [oM 57 5,oM 4 57] .ret)))))))⟩
def pc (aR:Nat):ay:=⟨45,[(.tmp 4)],(cS [oZ 4] (cS [oM 10 0,oN 11 10,⟨some 12,.mksl 1 4 (.int .u32 0) (.t 11) (.t 11),none⟩,oM 5 12] (cS [⟨some 6,.mv (.c (.int .u64 0)),none⟩] (.seq (cS [oM 13 0,oN 14 13,oI 15 0] (.block 0 (.loop (cS [oT 16 .lss 15 14] (.seq (.cond (.t 16) .skip (.exit 0)) (.seq (.block 1 (cS [oM 17 15,oA 18 1 13 15,oL 19 1 18,oM 7 17,oM 8 19] (cS [oM 20 8,oK 21 .u64 20,oM 22 6,oT 23 .sub 21 22,oM 9 23] (.seq (cS [oM 24 7,oM 25 1,oN 26 25,oT 27 .lss 24 26] (.cond (.t 27) (cR [oM 28 9,oM 29 1,oM 30 7,oA 31 1 29 30,oL 32 1 31,oK 33 .u64 32,oT 34 .sub 28 33,oM 9 34]) .skip)) (cS [oM 35 5,oM 36 7,oM 37 9,oK 38 .u32 37,oA 39 1 35 36,oS 1 39 38] (cR [oM 40 9,⟨some 41,.bin .shr .int (.t 40) (.c (.int .u64 63)),none⟩,oM 6 41])))))) (cR [bO 42 .add 15 1,oM 15 42]))))))) (cS [oM 43 5,oC 44 aR 43,oM 4 44] .ret)))))⟩
def pe (aR:Nat):ay:=⟨75,[(.tmp 4)],(cS [oZ 4] (.seq (cS [oM 11 0,oN 12 11,bO 13 .eql 12 0,oM 14 13,gM 15 1 14 false,gN 16 15 14 false,⟨some 17,.bin .eql .int (.t 16) (.c (.int .i64 0)),some (14,false)⟩,qH 18 14 17] (.cond (.t 18) (cS [oZ 4] .ret) .skip)) (cS [oM 19 0,oN 20 19,oM 21 1,oN 22 21,oT 23 .add 20 22,⟨some 24,.mksl 1 4 (.int .u32 0) (.t 23) (.t 23),none⟩,oM 5 24] (.seq (cS [oM 25 0,oN 26 25,oI 27 0] (.block 0 (.loop (cS [oT 28 .lss 27 26] (.seq (.cond (.t 28) .skip (.exit 0)) (.seq (.block 1 (cS [oM 29 27,oA 30 1 25 27,oL 31 1 30,oM 6 29,oM 7 31] (cS [⟨some 8,.mv (.c (.int .u64 0)),none⟩] (.seq (cS [oM 32 1,oN 33 32,oI 34 0] (.block 2 (.loop (cS [oT 35 .lss 34 33] (.seq (.cond (.t 35) .skip (.exit 2)) (.seq (.block 3 (cS [oM 36 34,oA 37 1 32 34,oL 38 1 37,oM 9 36,oM 10 38] (cS [oM 39 8,oM 40 7,oK 41 .u64 40,oM 42 10,oK 43 .u64 42,oT 44 .mul 41 43,oM 45 5,oM 46 6,oM 47 9,oT 48 .add 46 47,oA 49 1 45 48,oL 50 1 49,oK 51 .u64 50,oT 52 .add 44 51,oT 53 .add 39 52,oM 8 53] (cS [oM 54 5,oM 55 6,oM 56 9,oT 57 .add 55 56,oM 58 8,oK 59 .u32 58,oA 60 1 54 57,oS 1 60 59] (cR [oM 61 8,⟨some 62,.bin .shr .int (.t 61) (.c (.int .u64 32)),none⟩,oM 8 62]))))) (cR [bO 63 .add 34 1,oM 34 63]))))))) (cR [oM 64 5,oM 65 6,oM 66 1,oN 67 66,oT 68 .add 65 67,oM 69 8,oK 70 .u32 69,oA 71 1 64 68,oS 1 71 70]))))) (cR [bO 72 .add 27 1,oM 27 72]))))))) (cS [oM 73 5,oC 74 aR 73,oM 4 74] .ret)))))⟩
def jf:ay:=⟨41,[(.tmp 4)],(cS [oZ 4] (cS [oM 9 0,oN 10 9,bO 11 .add 10 1,⟨some 12,.mksl 1 4 (.int .u32 0) (.t 11) (.t 11),none⟩,oM 5 12] (.seq (cS [oM 13 0,oN 14 13,oI 15 0] (.block 0 (.loop (cS [oT 16 .lss 15 14] (.seq (.cond (.t 16) .skip (.exit 0)) (.seq (.block 1 (cS [oM 17 15,oA 18 1 13 15,oL 19 1 18,oM 6 17,oM 7 19] (cS [oM 20 7,oK 21 .u64 20,oM 22 1,oT 23 .shl 21 22,oM 8 23] (cS [oM 24 5,oM 25 6,oA 26 1 24 25,oL 27 1 26,oM 28 8,oK 29 .u32 28,oT 30 .or 27 29,oA 31 1 24 25,oS 1 31 30] (cR [oM 32 5,oM 33 6,bO 34 .add 33 1,oM 35 8,⟨some 36,.bin .shr .int (.t 35) (.c (.int .u64 32)),none⟩,oK 37 .u32 36,oA 38 1 32 34,oS 1 38 37]))))) (cR [bO 39 .add 15 1,oM 15 39]))))))) (cS [oM 40 5,oM 4 40] .ret))))⟩
def iH:ay:=⟨47,[(.tmp 4)],(cS [oZ 4] (cS [oM 8 0,oN 9 8,⟨some 10,.mksl 1 4 (.int .u32 0) (.t 9) (.t 9),none⟩,oM 5 10] (.seq (cS [oM 11 0,oN 12 11,oI 13 0] (.block 0 (.loop (cS [oT 14 .lss 13 12] (.seq (.cond (.t 14) .skip (.exit 0)) (.seq (.block 1 (cS [oM 15 13,oA 16 1 11 13,oL 17 1 16,oM 6 15,oM 7 17] (cS [oM 18 5,oM 19 6,oM 20 7,oM 21 1,oT 22 .shr 20 21,oA 23 1 18 19,oS 1 23 22] (cS [oM 24 6,bO 25 .add 24 1,oM 26 0,oN 27 26,oT 28 .lss 25 27] (.cond (.t 28) (.reg (some []) [oM 29 5,oM 30 6,oA 31 1 29 30,oL 32 1 31,oM 33 0,oM 34 6,bO 35 .add 34 1,oA 36 1 33 35,oL 37 1 36,oK 38 .u64 37,oM 39 1,⟨some 40,.bin .sub .int (.c (.int .i64 32)) (.t 39),none⟩,oT 41 .shl 38 40,oK 42 .u32 41,oT 43 .or 32 42,oA 44 1 29 30,oS 1 44 43]) .skip))))) (cR [bO 45 .add 13 1,oM 13 45]))))))) (cS [oM 46 5,oM 4 46] .ret))))⟩
def ld (aR dL:Nat):ay:=⟨43,[(.tmp 4),(.tmp 5)],(cS [oZ 4,oZ 5] (cS [oM 9 0,oN 10 9,⟨some 11,.mksl 1 4 (.int .u32 0) (.t 10) (.t 10),none⟩,oM 6 11] (cS [⟨some 7,.mv (.c (.int .u64 0)),none⟩] (.seq (cS [oM 12 0,oN 13 12,bO 14 .sub 13 1,oM 8 14] (.block 0 (.loop (.seq (cS [oM 15 8,bO 16 .geq 15 0] (.cond (.t 16) .skip (.exit 0))) (.seq (.block 1 (cS [oM 19 7,⟨some 20,.bin .shl .int (.t 19) (.c (.int .u64 32)),none⟩,oM 21 0,oM 22 8,oA 23 1 21 22,oL 24 1 23,oK 25 .u64 24,oT 26 .or 20 25,oM 7 26] (cS [oM 27 6,oM 28 8,oM 29 7,oM 30 1,oK 31 .u64 30,oT 32 .quo 29 31,oK 33 .u32 32,oA 34 1 27 28,oS 1 34 33] (cR [oM 35 7,oM 36 1,oK 37 .u64 36,oT 38 .rem 35 37,oM 7 38])))) (cR [oM 17 8,bO 18 .sub 17 1,oM 8 18])))))) (cS [oM 39 6,oC 40 aR 39,oM 41 7,oC 42 dL 41,oM 4 40,oM 5 42] .ret)))))⟩
def nT (ni bK jo dL vS pZ pB aR xT yZ vT:Nat):ay:=⟨177,[(.tmp 4),(.tmp 5)],(cS [oZ 4,oZ 5] (.seq (.block 0 (cS [oM 20 0,oM 21 1,fJ 22 ni 20 21,bO 23 .lss 22 0,oM 19 23] (.cond (.t 19) (cS [oM 24 0,oC 25 bK 24,oZ 4,oM 5 25] .ret) (cS [oM 27 0,oN 28 27,bO 29 .leq 28 2,oM 26 29] (.cond (.t 26) (cS [oM 30 0,oC 31 jo 30,oM 32 1,oC 33 jo 32,oM 6 31,oM 7 33] (.seq (.reg (some []) [oM 34 6,oM 35 7,oT 36 .quo 34 35,oC 37 dL 36,oM 38 6,oM 39 7,oT 40 .rem 38 39,oC 41 dL 40,oM 4 37,oM 5 41]) .ret)) (cS [oM 43 1,oN 44 43,bO 45 .eql 44 1,oM 42 45] (.cond (.t 42) (cS [oM 46 0,oM 47 1,⟨some 48,.iaddrS 1 (.t 47) (.c (.int .i64 0)),none⟩,oL 49 1 48,fJ 50 vS 46 49,oE 51 50 0,oE 52 50 1,oM 4 51,oM 5 52] .ret) .skip))))))) (cS [oM 53 1,oM 54 1,oN 55 54,bO 56 .sub 55 1,oA 57 1 53 56,oL 58 1 57,oC 59 pZ 58,oM 8 59] (cS [oM 60 0,oM 61 8,fJ 62 pB 60 61,oM 63 1,oM 64 8,fJ 65 pB 63 64,oC 66 aR 65,oM 9 62,oM 10 66] (cS [oM 67 10,oN 68 67,oM 11 68] (cS [oM 69 9,oN 70 69,oM 71 11,oT 72 .sub 70 71,⟨some 73,.mksl 1 4 (.int .u32 0) (.t 72) (.t 72),none⟩,oM 12 73] (.seq (.reg (some []) [oM 74 10,oM 75 11,bO 76 .sub 75 1,oA 77 1 74 76,oL 78 1 77,oK 79 .u64 78,oM 80 10,oM 81 11,bO 82 .sub 81 2,oA 83 1 80 82,oL 84 1 83,oK 85 .u64 84,oM 13 79,oM 14 85]) (.seq (cS [oM 86 12,oN 87 86,bO 88 .sub 87 1,oM 15 88] (.block 1 (.loop (.seq (cS [oM 89 15,bO 90 .geq 89 0] (.cond (.t 90) .skip (.exit 1))) (.seq (.block 2 (.seq (.reg (some []) [oM 93 9,oM 94 15,oM 95 11,oT 96 .add 94 95,oA 97 1 93 96,oL 98 1 97,oK 99 .u64 98,⟨some 100,.bin .shl .int (.t 99) (.c (.int .u64 32)),none⟩,oM 101 9,oM 102 15,oM 103 11,oT 104 .add 102 103,bO 105 .sub 104 1,oA 106 1 101 105,oL 107 1 106,oK 108 .u64 107,oT 109 .or 100 108,oM 16 109]) (.seq (.reg (some []) [oM 110 16,oM 111 13,oT 112 .quo 110 111,oM 113 16,oM 114 13,oT 115 .rem 113 114,oM 17 112,oM 18 115]) (.seq (.block 3 (.loop (.seq (cS [oM 116 17,⟨some 117,.bin .geq .int (.t 116) (.c (.int .u64 4294967296)),none⟩,oM 118 117,gM 119 17 118 false,gM 120 14 118 false,gT 121 .mul 119 120 118 false,gM 122 18 118 false,⟨some 123,.bin .shl .int (.t 122) (.c (.int .u64 32)),some (118,false)⟩,gM 124 9 118 false,gM 125 15 118 false,gM 126 11 118 false,gT 127 .add 125 126 118 false,⟨some 128,.bin .sub .int (.t 127) (.c (.int .i64 2)),some (118,false)⟩,⟨some 129,.iaddrS 1 (.t 124) (.t 128),some (118,false)⟩,gL 130 1 129 118 false,⟨some 131,.toInt .u64 (.t 130),some (118,false)⟩,gT 132 .or 123 131 118 false,gT 133 .gtr 121 132 118 false,qH 134 118 133] (.cond (.t 134) .skip (.exit 3))) (.block 4 (cS [oM 135 17,⟨some 136,.bin .sub .int (.t 135) (.c (.int .u64 1)),none⟩,oM 17 136] (cS [oM 137 18,oM 138 13,oT 139 .add 137 138,oM 18 139] (cS [oM 140 18,⟨some 141,.bin .geq .int (.t 140) (.c (.int .u64 4294967296)),none⟩] (.cond (.t 141) (.exit 3) .skip)))))))) (.seq (cS [oM 142 9,oM 143 15,oM 144 15,oM 145 11,oT 146 .add 144 145,bO 147 .add 146 1,⟨some 148,.slice 1 (.t 142) (some (.t 143)) (some (.t 147)) none,none⟩,oM 149 10,oM 150 17,⟨some 151,.call (.f xT) [(.t 148),(.t 149),(.t 150)],none⟩] (.cond (.t 151) (cS [oM 152 17,⟨some 153,.bin .sub .int (.t 152) (.c (.int .u64 1)),none⟩,oM 17 153] (cR [oM 154 9,oM 155 15,oM 156 15,oM 157 11,oT 158 .add 156 157,bO 159 .add 158 1,⟨some 160,.slice 1 (.t 154) (some (.t 155)) (some (.t 159)) none,none⟩,oM 161 10,fJ 162 yZ 160 161])) .skip)) (cR [oM 163 12,oM 164 15,oM 165 17,oK 166 .u32 165,oA 167 1 163 164,oS 1 167 166])))))) (cR [oM 91 15,bO 92 .sub 91 1,oM 15 92])))))) (.seq (.reg (some [(1,4)]) [oM 168 12,oC 169 aR 168,oM 170 9,oM 171 11,⟨some 172,.slice 1 (.t 170) none (some (.t 171)) none,none⟩,oC 173 aR 172,oM 174 8,fJ 175 vT 173 174,oC 176 aR 175,oM 4 169,oM 5 176]) .ret)))))))))⟩
def j4:ay:=⟨63,[(.tmp 6)],(cS [oB 6 false] (cS [⟨some 7,.mv (.c (.int .u64 0)),none⟩] (.seq (cS [oM 13 1,oN 14 13,oI 15 0] (.block 0 (.loop (cS [oT 16 .lss 15 14] (.seq (.cond (.t 16) .skip (.exit 0)) (.seq (.block 1 (cS [oM 17 15,oA 18 1 13 15,oL 19 1 18,oM 8 17,oM 9 19] (cS [oM 20 9,oK 21 .u64 20,oM 22 2,oT 23 .mul 21 22,oM 24 7,oT 25 .add 23 24,oM 10 25] (cS [oM 26 0,oM 27 8,oA 28 1 26 27,oL 29 1 28,oK 30 .u64 29,oM 31 10,oK 32 .u32 31,oK 33 .u64 32,oT 34 .sub 30 33,oM 11 34] (cS [oM 35 0,oM 36 8,oM 37 11,oK 38 .u32 37,oA 39 1 35 36,oS 1 39 38] (cR [oM 40 10,⟨some 41,.bin .shr .int (.t 40) (.c (.int .u64 32)),none⟩,oM 42 11,⟨some 43,.bin .shr .int (.t 42) (.c (.int .u64 63)),none⟩,oT 44 .add 41 43,oM 7 44])))))) (cR [bO 45 .add 15 1,oM 15 45]))))))) (cS [oM 46 0,oM 47 1,oN 48 47,oA 49 1 46 48,oL 50 1 49,oK 51 .u64 50,oM 52 7,oT 53 .sub 51 52,oM 12 53] (cS [oM 54 0,oM 55 1,oN 56 55,oM 57 12,oK 58 .u32 57,oA 59 1 54 56,oS 1 59 58] (cS [oM 60 12,⟨some 61,.bin .shr .int (.t 60) (.c (.int .u64 63)),none⟩,⟨some 62,.bin .eql .int (.t 61) (.c (.int .u64 1)),none⟩,oM 6 62] .ret))))))⟩
def kQ:ay:=⟨41,[],(cS [⟨some 4,.mv (.c (.int .u64 0)),none⟩] (.seq (cS [oM 7 1,oN 8 7,oI 9 0] (.block 0 (.loop (cS [oT 10 .lss 9 8] (.seq (.cond (.t 10) .skip (.exit 0)) (.seq (.block 1 (cS [oM 11 9,oA 12 1 7 9,oL 13 1 12,oM 5 11,oM 6 13] (cS [oM 14 4,oM 15 0,oM 16 5,oA 17 1 15 16,oL 18 1 17,oK 19 .u64 18,oM 20 6,oK 21 .u64 20,oT 22 .add 19 21,oT 23 .add 14 22,oM 4 23] (cS [oM 24 0,oM 25 5,oM 26 4,oK 27 .u32 26,oA 28 1 24 25,oS 1 28 27] (cR [oM 29 4,⟨some 30,.bin .shr .int (.t 29) (.c (.int .u64 32)),none⟩,oM 4 30]))))) (cR [bO 31 .add 9 1,oM 9 31]))))))) (cR [oM 32 0,oM 33 1,oN 34 33,oA 35 1 32 34,oL 36 1 35,oM 37 4,oK 38 .u32 37,oT 39 .add 36 38,oA 40 1 32 34,oS 1 40 39])))⟩
def pg:ay:=⟨27,[(.tmp 2)],(cS [oX 1 0,oB 2 false] (cS [oF 4 1 1,oL 5 1 4,oN 6 5,oM 3 6] (cS [oM 7 3,bO 8 .eql 7 0,oM 9 8,gF 10 0 1 9 true,gL 11 1 10 9 true,⟨some 12,.un .not (.t 11),some (9,true)⟩,iR 13 9 12,oM 14 13,gM 15 3 14 false,⟨some 16,.bin .gtr .int (.t 15) (.c (.int .i64 0)),some (14,false)⟩,gM 17 16 14 false,gF 18 1 1 17 true,gL 19 1 18 17 true,gM 20 3 17 true,⟨some 21,.bin .sub .int (.t 20) (.c (.int .i64 1)),some (17,true)⟩,⟨some 22,.iaddrS 1 (.t 19) (.t 21),some (17,true)⟩,gL 23 1 22 17 true,⟨some 24,.bin .neq .int (.t 23) (.c (.int .u32 0)),some (17,true)⟩,⟨some 25,.pick (.t 17) (.t 24) (.c (.bool false)),some (14,false)⟩,qH 26 14 25,oM 2 26] .ret)))⟩
def p5 (aR:Nat):ay:=⟨12,[(.tmp 2)],(cS [oX 1 0,oI 2 0] (.seq (.block 0 (cS [oF 4 1 1,oL 5 1 4,oC 6 aR 5,oN 7 6,bO 8 .eql 7 0,oM 3 8] (.cond (.t 3) (cS [oI 2 0] .ret) (cS [oF 10 0 1,oL 11 1 10,oM 9 11] (.cond (.t 9) (cS [oI 2 (-1-0)] .ret) .skip))))) (cS [oI 2 1] .ret)))⟩
def rJ (jq nh aR ni:Nat):ay:=⟨26,[(.tmp 4)],(cS [oX 2 0,oX 3 1,oI 4 0] (.seq (.reg (some [(1,2)]) [di 7 2 2,oC 8 jq 7,di 9 2 3,oC 10 jq 9,oM 5 8,oM 6 10]) (.seq (cS [oM 11 5,oM 12 6,oT 13 .neq 11 12] (.cond (.t 13) (cS [oM 14 5,oM 15 6,fJ 16 nh 14 15,oM 4 16] .ret) .skip)) (.seq (.reg (some [(3,5)]) [oM 17 5,oF 18 1 2,oL 19 1 18,oC 20 aR 19,oF 21 1 3,oL 22 1 21,oC 23 aR 22,fJ 24 ni 20 23,oT 25 .mul 17 24,oM 4 25]) .ret))))⟩
def rK (aR bK cO:Nat):ay:=⟨11,[(.cell 2 true 2)],(cS [oX 1 0,⟨some 2,.box (.c (.agg [(.bool false),.nils])),none⟩] (.seq (.reg (some [(1,5),(1,6)]) [oF 3 0 1,oL 4 1 3,qG 5 4,oF 6 1 1,oL 7 1 6,oC 8 aR 7,oC 9 bK 8,fJ 10 cO 5 9,oS 2 2 10]) .ret))⟩
def rL (aR BZ cO:Nat):ay:=⟨18,[(.cell 4 true 2)],(cS [oX 2 0,oX 3 1,⟨some 4,.box (.c (.agg [(.bool false),.nils])),none⟩] (.seq (.reg (some [(1,7),(3,7),(7,9),(1,10),(3,10),(1,11),(3,11)]) [oF 5 0 2,oL 6 1 5,oF 7 0 3,oL 8 1 7,⟨some 9,.bin .neq .bool (.t 6) (.t 8),none⟩,oF 10 1 2,oL 11 1 10,oC 12 aR 11,oF 13 1 3,oL 14 1 13,oC 15 aR 14,fJ 16 BZ 12 15,fJ 17 cO 9 16,oS 2 4 17]) .ret))⟩
def nU (aR nV C6 B0 cO:Nat):ay:=⟨53,[(.cell 4 true 2),(.cell 5 true 2),(.tmp 6)],(cS [oX 2 0,oX 3 1,⟨some 4,.box (.c (.agg [(.bool false),.nils])),none⟩,⟨some 5,.box (.c (.agg [(.bool false),.nils])),none⟩,oI 6 0] (cS [oF 10 1 3,oL 11 1 10,oC 12 aR 11,oM 7 12] (.seq (cS [oM 13 7,oN 14 13,bO 15 .eql 14 0] (.cond (.t 15) (cS [⟨some 16,.build [(.bool false),.nils] [],none⟩,⟨some 17,.build [(.bool false),.nils] [],none⟩,oS 2 4 16,oS 2 5 17,oI 6 6] .ret) .skip)) (cS [oF 19 1 2,oL 20 1 19,oC 21 aR 20,oM 22 7,fJ 23 nV 21 22,oM 18 23,oE 24 18 0,oE 25 18 1,oM 8 24,oM 9 25] (.seq (cS [oF 26 0 2,oL 27 1 26,oF 28 0 3,oL 29 1 28,⟨some 30,.bin .neq .bool (.t 27) (.t 29),none⟩,oM 31 30,gM 32 9 31 true,gN 33 32 31 true,⟨some 34,.bin .gtr .int (.t 33) (.c (.int .i64 0)),some (31,true)⟩,iR 35 31 34] (.cond (.t 35) (cS [oM 36 8,⟨some 37,.buildSl 1 1 (.int .u32 0) [(0,(.c (.int .u32 1)))],none⟩,fJ 38 C6 36 37,oM 8 38] (cR [oM 39 7,oM 40 9,fJ 41 B0 39 40,oM 9 41])) .skip)) (.seq (.reg (some [(6,8)]) [oF 42 0 2,oL 43 1 42,oF 44 0 3,oL 45 1 44,⟨some 46,.bin .neq .bool (.t 43) (.t 45),none⟩,oM 47 8,fJ 48 cO 46 47,oF 49 0 3,oL 50 1 49,oM 51 9,fJ 52 cO 50 51,oS 2 4 48,oS 2 5 52,oI 6 0]) .ret))))))⟩
def rM (aR nV bK cO jo dL:Nat):ay:=⟨57,[(.cell 4 true 2)],(cS [oX 2 0,oX 3 1,⟨some 4,.box (.c (.agg [(.bool false),.nils])),none⟩] (.seq (.reg (some [(2,4)]) [oF 11 1 2,oL 12 1 11,oC 13 aR 12,oF 14 1 3,oL 15 1 14,oC 16 aR 15,oM 5 13,oM 6 16]) (.seq (.block 0 (.loop (.seq (cS [oM 17 6,oN 18 17,bO 19 .gtr 18 2,oM 20 19,gM 21 5 20 false,gN 22 21 20 false,⟨some 23,.bin .gtr .int (.t 22) (.c (.int .i64 2)),some (20,false)⟩,gM 24 23 20 false,gM 25 6 24 true,gN 26 25 24 true,⟨some 27,.bin .gtr .int (.t 26) (.c (.int .i64 0)),some (24,true)⟩,⟨some 28,.pick (.t 24) (.t 27) (.c (.bool false)),some (20,false)⟩,qH 29 20 28] (.cond (.t 29) .skip (.exit 0))) (.block 1 (cS [oM 31 5,oM 32 6,fJ 33 nV 31 32,oM 30 33,oE 34 30 0,oE 35 30 1,oM 7 34,oM 8 35] (cR [oM 36 6,oM 37 8,oM 5 36,oM 6 37])))))) (.seq (cS [oM 38 6,oN 39 38,bO 40 .eql 39 0] (.cond (.t 40) (cS [oM 41 5,oC 42 bK 41,⟨some 43,.call (.f cO) [(.c (.bool false)),(.t 42)],none⟩,oS 2 4 43] .ret) .skip)) (cS [oM 44 5,oC 45 jo 44,oM 46 6,oC 47 jo 46,oM 9 45,oM 10 47] (.seq (.block 2 (.loop (.seq (cS [oM 48 10,⟨some 49,.bin .neq .int (.t 48) (.c (.int .u64 0)),none⟩] (.cond (.t 49) .skip (.exit 2))) (.block 3 (.reg (some []) [oM 50 10,oM 51 9,oM 52 10,oT 53 .rem 51 52,oM 9 50,oM 10 53]))))) (cS [oM 54 9,oC 55 dL 54,⟨some 56,.call (.f cO) [(.c (.bool false)),(.t 55)],none⟩,oS 2 4 56] .ret)))))))⟩
def nj (dL cO:Nat):ay:=⟨15,[(.cell 2 true 2)],(cS [⟨some 2,.box (.c (.agg [(.bool false),.nils])),none⟩] (cS [oM 4 0,oK 5 .u64 4,oM 3 5] (.seq (cS [oM 6 0,bO 7 .lss 6 0] (.cond (.t 7) (cR [oM 8 3,⟨some 9,.un .neg (.t 8),none⟩,oM 3 9]) .skip)) (cS [oM 10 0,bO 11 .lss 10 0,oM 12 3,oC 13 dL 12,fJ 14 cO 11 13,oS 2 2 14] .ret))))⟩
def p9 (iD:Nat):ay:=⟨2,[(.cell 0 true 2)],(cS [⟨some 0,.box (.c (.agg [(.bool false),.nils])),none⟩] (cS [⟨some 1,.call (.f iD) [(.c (.int .i64 1))],none⟩,oS 2 0 1] .ret))⟩
def nW:ay:=⟨19,[(.tmp 2)],(cS [oX 1 0,oB 2 false] (cS [oF 3 0 1,oL 4 1 3,qG 5 4,oM 6 5,gF 7 1 1 6 true,gL 8 1 7 6 true,gN 9 8 6 true,⟨some 10,.bin .eql .int (.t 9) (.c (.int .i64 1)),some (6,true)⟩,iR 11 6 10,oM 12 11,gF 13 1 1 12 true,gL 14 1 13 12 true,⟨some 15,.iaddrS 1 (.t 14) (.c (.int .i64 0)),some (12,true)⟩,gL 16 1 15 12 true,⟨some 17,.bin .eql .int (.t 16) (.c (.int .u32 1)),some (12,true)⟩,iR 18 12 17,oM 2 18] .ret))⟩
def qa (gV AB:Nat):ay:=⟨19,[(.cell 4 true 2)],(cS [oX 2 0,oX 3 1,⟨some 4,.box (.c (.agg [(.bool false),.nils])),none⟩] (.seq (cS [di 8 2 3,oC 9 gV 8] (.cond (.t 9) (cS [di 10 2 2,oS 2 4 10] .ret) .skip)) (cS [di 12 2 2,di 13 2 3,fJ 14 AB 12 13,oM 11 14,oE 15 11 0,oE 16 11 1,oE 17 11 2,⟨some 5,.box (.c (.agg [(.bool false),.nils])),none⟩,⟨some 6,.box (.c (.agg [(.bool false),.nils])),none⟩,oS 2 5 15,oS 2 6 16,oM 7 17] (cS [di 18 2 5,oS 2 4 18] .ret))))⟩
def nk (rN Em vU:Nat):ay:=⟨20,[(.cell 4 true 4)],(cS [oX 2 0,oX 3 1,⟨some 4,.box (.c (.agg [(.bool false),.nils,(.bool false),.nils])),none⟩] (cS [di 6 2 2,di 7 2 3,fJ 8 rN 6 7,⟨some 5,.box (.c (.agg [(.bool false),.nils])),none⟩,oS 2 5 8] (.seq (cS [oF 9 0 3,oL 10 1 9] (.cond (.t 10) (cR [di 11 2 5,oC 12 Em 11,oS 2 5 12]) .skip)) (.seq (.reg (some [(2,3),(2,4)]) [di 13 2 2,di 14 2 5,fJ 15 vU 13 14,di 16 2 3,di 17 2 5,fJ 18 vU 16 17,⟨some 19,.build [(.bool false),.nils,(.bool false),.nils] [(0,(2,(.t 15))),(2,(2,(.t 18)))],none⟩,oS 4 4 19]) .ret))))⟩
def lM (uO jq rN gV:Nat):ay:=⟨25,[(.tmp 2)],(cS [oX 1 0,oB 2 false] (cS [oF 3 0 1,di 4 2 3,oC 5 uO 4,oM 6 5,gF 7 2 1 6 true,Cb 8 2 7 6 true,⟨some 9,.call (.f uO) [.t 8],some (6,true)⟩,iR 10 6 9,oM 11 10,gF 12 2 1 11 true,Cb 13 2 12 11 true,⟨some 14,.call (.f jq) [.t 13],some (11,true)⟩,⟨some 15,.bin .gtr .int (.t 14) (.c (.int .i64 0)),some (11,true)⟩,iR 16 11 15,oM 17 16,gF 18 0 1 17 true,Cb 19 2 18 17 true,gF 20 2 1 17 true,Cb 21 2 20 17 true,⟨some 22,.call (.f rN) [(.t 19),(.t 21)],some (17,true)⟩,⟨some 23,.call (.f gV) [.t 22],some (17,true)⟩,iR 24 17 23,oM 2 24] .ret))⟩
def mw (jq:Nat):ay:=⟨6,[(.tmp 2)],(cS [oX 1 0,oI 2 0] (cS [oF 3 0 1,di 4 2 3,oC 5 jq 4,oM 2 5] .ret))⟩
def mB (iD qb:Nat):ay:=⟨7,[(.cell 2 true 4)],(cS [⟨some 2,.box (.c (.agg [(.bool false),.nils,(.bool false),.nils])),none⟩] (cS [oM 3 0,oC 4 iD 3,⟨some 5,.call (.f qb) [],none⟩,⟨some 6,.build [(.bool false),.nils,(.bool false),.nils] [(0,(2,(.t 4))),(2,(2,(.t 5)))],none⟩,oS 4 2 6] .ret))⟩
def qc (gV rO qb y5:Nat):ay:=⟨31,[(.cell 4 true 4)],(cS [oX 2 0,oX 3 1,⟨some 4,.box (.c (.agg [(.bool false),.nils,(.bool false),.nils])),none⟩] (.seq (cS [oF 5 2 2,di 6 2 5,oC 7 gV 6,oM 8 7,gF 9 2 3 8 true,Cb 10 2 9 8 true,⟨some 11,.call (.f gV) [.t 10],some (8,true)⟩,iR 12 8 11] (.cond (.t 12) (cS [oF 13 0 2,di 14 2 13,oF 15 0 3,di 16 2 15,fJ 17 rO 14 16,⟨some 18,.call (.f qb) [],none⟩,⟨some 19,.build [(.bool false),.nils,(.bool false),.nils] [(0,(2,(.t 17))),(2,(2,(.t 18)))],none⟩,oS 4 4 19] .ret) .skip)) (.seq (.reg (some [(4,6),(4,8)]) [oF 20 0 2,di 21 2 20,oF 22 0 3,di 23 2 22,fJ 24 rO 21 23,oF 25 2 2,di 26 2 25,oF 27 2 3,di 28 2 27,fJ 29 rO 26 28,fJ 30 y5 24 29,oS 4 4 30]) .ret)))⟩
def np:ay:=⟨19,[(.tmp 2)],(cS [oI 2 0] (.seq (cS [oM 3 0,⟨some 4,.bin .geq .int (.t 3) (.c (.int .u32 65536)),none⟩] (.cond (.t 4) (cS [oM 5 0,⟨some 6,.bin .shr .int (.t 5) (.c (.int .u64 16)),none⟩,oM 0 6] (cR [oI 2 16])) .skip)) (.seq (cS [oM 7 0,⟨some 8,.bin .geq .int (.t 7) (.c (.int .u32 256)),none⟩] (.cond (.t 8) (cS [oM 9 0,⟨some 10,.bin .shr .int (.t 9) (.c (.int .u64 8)),none⟩,oM 0 10] (cR [oM 11 2,bO 12 .add 11 8,oM 2 12])) .skip)) (cS [oM 13 2,oM 14 0,oK 15 .u8 14,⟨some 16,.indexS (.c (.str [0,1,2,2,3,3,3,3,4,4,4,4,4,4,4,4,5,5,5,5,5,5,5,5,5,5,5,5,5,5,5,5,6,6,6,6,6,6,6,6,6,6,6,6,6,6,6,6,6,6,6,6,6,6,6,6,6,6,6,6,6,6,6,6,7,7,7,7,7,7,7,7,7,7,7,7,7,7,7,7,7,7,7,7,7,7,7,7,7,7,7,7,7,7,7,7,7,7,7,7,7,7,7,7,7,7,7,7,7,7,7,7,7,7,7,7,7,7,7,7,7,7,7,7,7,7,7,7,8,8,8,8,8,8,8,8,8,8,8,8,8,8,8,8,8,8,8,8,8,8,8,8,8,8,8,8,8,8,8,8,8,8,8,8,8,8,8,8,8,8,8,8,8,8,8,8,8,8,8,8,8,8,8,8,8,8,8,8,8,8,8,8,8,8,8,8,8,8,8,8,8,8,8,8,8,8,8,8,8,8,8,8,8,8,8,8,8,8,8,8,8,8,8,8,8,8,8,8,8,8,8,8,8,8,8,8,8,8,8,8,8,8,8,8,8,8,8,8,8,8,8,8,8,8,8,8])) (.t 15),none⟩,oK 17 .i64 16,oT 18 .add 13 17,oM 2 18] .ret))))⟩
def hP (na:Nat):ay:=⟨6,[(.tmp 2)],(cS [oI 2 0] (cS [oM 3 0,oC 4 na 3,⟨some 5,.bin .sub .int (.c (.int .i64 32)) (.t 4),none⟩,oM 2 5] .ret))⟩
def pj:ay:=⟨6,[(.tmp 2)],(cS [oB 2 false] (cS [oM 3 0,oM 4 0,oT 5 .neq 3 4,oM 2 5] .ret))⟩
def mC:ay:=⟨6,[(.tmp 2)],(cS [oB 2 false] (cS [oM 3 0,oM 4 0,oT 5 .neq 3 4,oM 2 5] .ret))⟩
def nr (uP:Nat):ay:=⟨20,[(.tmp 4)],(cS [oI 4 0] (cS [oM 7 0,oC 8 uP 7,oM 5 8] (cS [oM 9 1,oC 10 uP 9,oM 6 10] (.seq (cS [oM 11 5] (.cond (.t 11) (.seq (cS [oM 12 6] (.cond (.t 12) (cS [oI 4 0] .ret) .skip)) (cS [oI 4 (-1-0)] .ret)) .skip)) (.seq (cS [oM 13 6] (.cond (.t 13) (cS [oI 4 1] .ret) .skip)) (.seq (cS [oM 14 0,oM 15 1,oT 16 .lss 14 15] (.cond (.t 16) (cS [oI 4 (-1-0)] .ret) .skip)) (.seq (cS [oM 17 0,oM 18 1,oT 19 .gtr 17 18] (.cond (.t 19) (cS [oI 4 1] .ret) .skip)) (cS [oI 4 0] .ret))))))))⟩
def lf (qd:Nat):ay:=⟨20,[(.tmp 4)],(cS [oI 4 0] (cS [oM 7 0,oC 8 qd 7,oM 5 8] (cS [oM 9 1,oC 10 qd 9,oM 6 10] (.seq (cS [oM 11 5] (.cond (.t 11) (.seq (cS [oM 12 6] (.cond (.t 12) (cS [oI 4 0] .ret) .skip)) (cS [oI 4 (-1-0)] .ret)) .skip)) (.seq (cS [oM 13 6] (.cond (.t 13) (cS [oI 4 1] .ret) .skip)) (.seq (cS [oM 14 0,oM 15 1,oT 16 .lss 14 15] (.cond (.t 16) (cS [oI 4 (-1-0)] .ret) .skip)) (.seq (cS [oM 17 0,oM 18 1,oT 19 .gtr 17 18] (.cond (.t 19) (cS [oI 4 1] .ret) .skip)) (cS [oI 4 0] .ret))))))))⟩
def aY:ay:=⟨8,[(.tmp 2)],(cS [oZ 2] (.seq (cS [oM 3 0,⟨some 4,.bin .eql .slice (.t 3) (.c .nils),none⟩] (.cond (.t 4) (cS [oZ 2] .ret) .skip)) (cS [⟨some 5,.buildSl 1 0 (.int .u32 0) [],none⟩,oM 6 0,yT 7 1 4 5 6,oM 2 7] .ret)))⟩
end Go.VL
end

section
set_option maxRecDepth 100000
namespace Go.VL
def u9:ay:=⟨21,[(.tmp 2)],(cS [oZ 2] (.seq (.block 0 (.loop (.seq (cS [oM 3 0,oN 4 3,bO 5 .gtr 4 0,oM 6 5,gM 7 0 6 true,gM 8 0 6 true,gN 9 8 6 true,⟨some 10,.bin .sub .int (.t 9) (.c (.int .i64 1)),some (6,true)⟩,⟨some 11,.iaddrS 1 (.t 7) (.t 10),some (6,true)⟩,gL 12 1 11 6 true,⟨some 13,.bin .eql .int (.t 12) (.c (.int .u32 0)),some (6,true)⟩,iR 14 6 13] (.cond (.t 14) .skip (.exit 0))) (.block 1 (cR [oM 15 0,oM 16 0,oN 17 16,bO 18 .sub 17 1,⟨some 19,.slice 1 (.t 15) none (some (.t 18)) none,none⟩,oM 0 19]))))) (cS [oM 20 0,oM 2 20] .ret)))⟩
def jr (aD:Nat):ay:=⟨15,[(.cell 4 true 2)],(cS [⟨some 4,.box (.c (.agg [(.bool false),.nils])),none⟩] (cS [oM 5 1,oC 6 aD 5,oM 1 6] (cS [oM 7 0,oM 8 7,gM 9 1 8 true,gN 10 9 8 true,⟨some 11,.bin .gtr .int (.t 10) (.c (.int .i64 0)),some (8,true)⟩,iR 12 8 11,oM 13 1,⟨some 14,.build [(.bool false),.nils] [(0,(1,(.t 12))),(1,(1,(.t 13)))],none⟩,oS 2 4 14] .ret)))⟩
def kG (aX:Nat):ay:=⟨8,[(.cell 2 true 2)],(cS [oX 1 0,⟨some 2,.box (.c (.agg [(.bool false),.nils])),none⟩] (cS [oF 3 0 1,oL 4 1 3,oF 5 1 1,oL 6 1 5,fJ 7 aX 4 6,oS 2 2 7] .ret))⟩
def j5 (aD:Nat):ay:=⟨22,[(.tmp 2)],(cS [oX 1 0,oB 2 false] (.seq (.reg (some [(2,5)]) [oF 3 1 1,oL 4 1 3,oC 5 aD 4,oN 6 5,oF 7 1 1,oL 8 1 7,oN 9 8,oT 10 .eql 6 9,oM 11 10,gF 12 0 1 11 true,gL 13 1 12 11 true,⟨some 14,.un .not (.t 13),some (11,true)⟩,gM 15 14 11 true,gF 16 1 1 15 false,gL 17 1 16 15 false,gN 18 17 15 false,⟨some 19,.bin .gtr .int (.t 18) (.c (.int .i64 0)),some (15,false)⟩,⟨some 20,.pick (.t 15) (.c (.bool true)) (.t 19),some (11,true)⟩,iR 21 11 20,oM 2 21]) .ret))⟩
def tR (aD:Nat):ay:=⟨10,[(.tmp 2)],(cS [oZ 2] (cS [oM 3 0,oK 4 .u32 3,oM 5 0,⟨some 6,.bin .shr .int (.t 5) (.c (.int .u64 32)),none⟩,oK 7 .u32 6,⟨some 8,.buildSl 1 2 (.int .u32 0) [(0,(.t 4)),(1,(.t 7))],none⟩,oC 9 aD 8,oM 2 9] .ret))⟩
def iV (dR aX:Nat):ay:=⟨14,[(.cell 2 true 2)],(cS [⟨some 2,.box (.c (.agg [(.bool false),.nils])),none⟩] (.seq (cS [oM 3 0,bO 4 .lss 3 0] (.cond (.t 4) (cS [oM 5 0,oK 6 .u64 5,⟨some 7,.un .neg (.t 6),none⟩,oC 8 dR 7,⟨some 9,.call (.f aX) [(.c (.bool true)),(.t 8)],none⟩,oS 2 2 9] .ret) .skip)) (cS [oM 10 0,oK 11 .u64 10,oC 12 dR 11,⟨some 13,.call (.f aX) [(.c (.bool false)),(.t 12)],none⟩,oS 2 2 13] .ret)))⟩
def j6:ay:=⟨21,[(.tmp 2)],(cS [⟨some 2,.mv (.c (.int .u64 0)),none⟩] (cS [⟨some 3,.mv (.c (.int .u64 0)),none⟩] (.seq (cS [oM 5 0,oN 6 5,bO 7 .sub 6 1,oM 4 7] (.block 0 (.loop (.seq (cS [oM 8 4,bO 9 .geq 8 0] (.cond (.t 9) .skip (.exit 0))) (.seq (.block 1 (cR [oM 12 3,⟨some 13,.bin .shl .int (.t 12) (.c (.int .u64 32)),none⟩,oM 14 0,oM 15 4,oA 16 1 14 15,oL 17 1 16,oK 18 .u64 17,oT 19 .or 13 18,oM 3 19])) (cR [oM 10 4,bO 11 .sub 10 1,oM 4 11])))))) (cS [oM 20 3,oM 2 20] .ret))))⟩
def iW:ay:=⟨41,[(.tmp 4)],(cS [oI 4 0] (.seq (cS [oM 6 0,oN 7 6,oM 8 1,oN 9 8,oT 10 .neq 7 9] (.cond (.t 10) (.seq (cS [oM 11 0,oN 12 11,oM 13 1,oN 14 13,oT 15 .lss 12 14] (.cond (.t 15) (cS [oI 4 (-1-0)] .ret) .skip)) (cS [oI 4 1] .ret)) .skip)) (.seq (cS [oM 16 0,oN 17 16,bO 18 .sub 17 1,oM 5 18] (.block 0 (.loop (.seq (cS [oM 19 5,bO 20 .geq 19 0] (.cond (.t 20) .skip (.exit 0))) (.seq (.block 1 (.seq (.seq (.reg (some []) [oM 23 0,oM 24 5,oA 25 1 23 24,oL 26 1 25,oM 27 1,oM 28 5,oA 29 1 27 28,oL 30 1 29,oT 31 .lss 26 30]) (.cond (.t 31) (cS [oI 4 (-1-0)] .ret) .skip)) (.seq (.reg (some []) [oM 32 0,oM 33 5,oA 34 1 32 33,oL 35 1 34,oM 36 1,oM 37 5,oA 38 1 36 37,oL 39 1 38,oT 40 .gtr 35 39]) (.cond (.t 40) (cS [oI 4 1] .ret) .skip)))) (cR [oM 21 5,bO 22 .sub 21 1,oM 5 22])))))) (cS [oI 4 0] .ret))))⟩
def kH (aD:Nat):ay:=⟨58,[(.tmp 4)],(cS [oZ 4] (.seq (cS [oM 8 0,oN 9 8,oM 10 1,oN 11 10,oT 12 .lss 9 11] (.cond (.t 12) (cR [oM 13 1,oM 14 0,oM 0 13,oM 1 14]) .skip)) (cS [oM 15 0,oN 16 15,bO 17 .add 16 1,⟨some 18,.mksl 1 4 (.int .u32 0) (.t 17) (.t 17),none⟩,oM 5 18] (cS [⟨some 6,.mv (.c (.int .u64 0)),none⟩] (.seq (cS [oI 7 0] (.block 0 (.loop (.seq (cS [oM 19 7,oM 20 0,oN 21 20,oT 22 .lss 19 21] (.cond (.t 22) .skip (.exit 0))) (.seq (.block 1 (cS [oM 25 6,oM 26 0,oM 27 7,oA 28 1 26 27,oL 29 1 28,oK 30 .u64 29,oT 31 .add 25 30,oM 6 31] (.seq (cS [oM 32 7,oM 33 1,oN 34 33,oT 35 .lss 32 34] (.cond (.t 35) (cR [oM 36 6,oM 37 1,oM 38 7,oA 39 1 37 38,oL 40 1 39,oK 41 .u64 40,oT 42 .add 36 41,oM 6 42]) .skip)) (cS [oM 43 5,oM 44 7,oM 45 6,oK 46 .u32 45,oA 47 1 43 44,oS 1 47 46] (cR [oM 48 6,⟨some 49,.bin .shr .int (.t 48) (.c (.int .u64 32)),none⟩,oM 6 49]))))) (cR [oM 23 7,bO 24 .add 23 1,oM 7 24])))))) (cS [oM 50 5,oM 51 0,oN 52 51,oM 53 6,oK 54 .u32 53,oA 55 1 50 52,oS 1 55 54] (cS [oM 56 5,oC 57 aD 56,oM 4 57] .ret)))))))⟩
def dS (aD:Nat):ay:=⟨48,[(.tmp 4)],(cS [oZ 4] (cS [oM 10 0,oN 11 10,⟨some 12,.mksl 1 4 (.int .u32 0) (.t 11) (.t 11),none⟩,oM 5 12] (cS [⟨some 6,.mv (.c (.int .u64 0)),none⟩] (.seq (cS [oI 7 0] (.block 0 (.loop (.seq (cS [oM 13 7,oM 14 0,oN 15 14,oT 16 .lss 13 15] (.cond (.t 16) .skip (.exit 0))) (.seq (.block 1 (cS [⟨some 8,.mv (.c (.int .u64 0)),none⟩] (.seq (cS [oM 19 7,oM 20 1,oN 21 20,oT 22 .lss 19 21] (.cond (.t 22) (cR [oM 23 1,oM 24 7,oA 25 1 23 24,oL 26 1 25,oK 27 .u64 26,oM 8 27]) .skip)) (cS [oM 28 0,oM 29 7,oA 30 1 28 29,oL 31 1 30,oK 32 .u64 31,⟨some 33,.bin .add .int (.t 32) (.c (.int .u64 4294967296)),none⟩,oM 34 8,oT 35 .sub 33 34,oM 36 6,oT 37 .sub 35 36,oM 9 37] (cS [oM 38 5,oM 39 7,oM 40 9,oK 41 .u32 40,oA 42 1 38 39,oS 1 42 41] (cR [oM 43 9,⟨some 44,.bin .shr .int (.t 43) (.c (.int .u64 32)),none⟩,⟨some 45,.bin .sub .int (.c (.int .u64 1)) (.t 44),none⟩,oM 6 45])))))) (cR [oM 17 7,bO 18 .add 17 1,oM 7 18])))))) (cS [oM 46 5,oC 47 aD 46,oM 4 47] .ret)))))⟩
def gH (aD:Nat):ay:=⟨67,[(.tmp 4)],(cS [oZ 4] (cS [oM 9 0,oN 10 9,oM 11 1,oN 12 11,oT 13 .add 10 12,⟨some 14,.mksl 1 4 (.int .u32 0) (.t 13) (.t 13),none⟩,oM 5 14] (.seq (cS [oI 6 0] (.block 0 (.loop (.seq (cS [oM 15 6,oM 16 0,oN 17 16,oT 18 .lss 15 17] (.cond (.t 18) .skip (.exit 0))) (.seq (.block 1 (cS [⟨some 7,.mv (.c (.int .u64 0)),none⟩] (.seq (cS [oI 8 0] (.block 2 (.loop (.seq (cS [oM 21 8,oM 22 1,oN 23 22,oT 24 .lss 21 23] (.cond (.t 24) .skip (.exit 2))) (.seq (.block 3 (.seq (.reg (some []) [oM 27 7,oM 28 5,oM 29 6,oM 30 8,oT 31 .add 29 30,oA 32 1 28 31,oL 33 1 32,oK 34 .u64 33,oT 35 .add 27 34,oM 36 0,oM 37 6,oA 38 1 36 37,oL 39 1 38,oK 40 .u64 39,oM 41 1,oM 42 8,oA 43 1 41 42,oL 44 1 43,oK 45 .u64 44,oT 46 .mul 40 45,oT 47 .add 35 46,oM 7 47]) (cS [oM 48 5,oM 49 6,oM 50 8,oT 51 .add 49 50,oM 52 7,oK 53 .u32 52,oA 54 1 48 51,oS 1 54 53] (cR [oM 55 7,⟨some 56,.bin .shr .int (.t 55) (.c (.int .u64 32)),none⟩,oM 7 56])))) (cR [oM 25 8,bO 26 .add 25 1,oM 8 26])))))) (cR [oM 57 5,oM 58 6,oM 59 1,oN 60 59,oT 61 .add 58 60,oM 62 7,oK 63 .u32 62,oA 64 1 57 61,oS 1 64 63])))) (cR [oM 19 6,bO 20 .add 19 1,oM 6 20])))))) (cS [oM 65 5,oC 66 aD 65,oM 4 66] .ret))))⟩
def l4 (aD:Nat):ay:=⟨43,[(.tmp 4),(.tmp 5)],(cS [oZ 4,⟨some 5,.mv (.c (.int .u32 0)),none⟩] (cS [oM 9 0,oN 10 9,⟨some 11,.mksl 1 4 (.int .u32 0) (.t 10) (.t 10),none⟩,oM 6 11] (cS [⟨some 7,.mv (.c (.int .u64 0)),none⟩] (.seq (cS [oM 12 0,oN 13 12,bO 14 .sub 13 1,oM 8 14] (.block 0 (.loop (.seq (cS [oM 15 8,bO 16 .geq 15 0] (.cond (.t 16) .skip (.exit 0))) (.seq (.block 1 (cS [oM 19 7,⟨some 20,.bin .shl .int (.t 19) (.c (.int .u64 32)),none⟩,oM 21 0,oM 22 8,oA 23 1 21 22,oL 24 1 23,oK 25 .u64 24,oT 26 .or 20 25,oM 7 26] (cS [oM 27 6,oM 28 8,oM 29 7,oM 30 1,oK 31 .u64 30,oT 32 .quo 29 31,oK 33 .u32 32,oA 34 1 27 28,oS 1 34 33] (cR [oM 35 7,oM 36 1,oK 37 .u64 36,oT 38 .rem 35 37,oM 7 38])))) (cR [oM 17 8,bO 18 .sub 17 1,oM 8 18])))))) (cS [oM 39 6,oC 40 aD 39,oM 41 7,oK 42 .u32 41,oM 4 40,oM 5 42] .ret)))))⟩
def gl:ay:=⟨26,[(.tmp 2)],(cS [oI 2 0] (.seq (cS [oM 5 0,oN 6 5,bO 7 .eql 6 0] (.cond (.t 7) (cS [oI 2 0] .ret) .skip)) (cS [oI 3 0] (.seq (cS [oM 8 0,oM 9 0,oN 10 9,bO 11 .sub 10 1,oA 12 1 8 11,oL 13 1 12,oM 4 13] (.block 0 (.loop (.seq (cS [oM 14 4,⟨some 15,.bin .gtr .int (.t 14) (.c (.int .u32 0)),none⟩] (.cond (.t 15) .skip (.exit 0))) (.seq (.block 1 (cR [oM 18 3,bO 19 .add 18 1,oM 3 19])) (cR [oM 16 4,⟨some 17,.bin .quo .int (.t 16) (.c (.int .u32 2)),none⟩,oM 4 17])))))) (cS [oM 20 0,oN 21 20,bO 22 .sub 21 1,⟨some 23,.bin .mul .int (.c (.int .i64 32)) (.t 22),none⟩,oM 24 3,oT 25 .add 23 24,oM 2 25] .ret)))))⟩
def fU:ay:=⟨43,[(.tmp 4)],(cS [oZ 4] (cS [oM 8 0,oN 9 8,bO 10 .add 9 1,⟨some 11,.mksl 1 4 (.int .u32 0) (.t 10) (.t 10),none⟩,oM 5 11] (.seq (cS [oI 6 0] (.block 0 (.loop (.seq (cS [oM 12 6,oM 13 0,oN 14 13,oT 15 .lss 12 14] (.cond (.t 15) .skip (.exit 0))) (.seq (.block 1 (cS [oM 18 0,oM 19 6,oA 20 1 18 19,oL 21 1 20,oK 22 .u64 21,oM 23 1,oT 24 .shl 22 23,oM 7 24] (cS [oM 25 5,oM 26 6,oM 27 5,oM 28 6,oA 29 1 27 28,oL 30 1 29,oM 31 7,oK 32 .u32 31,oT 33 .or 30 32,oA 34 1 25 26,oS 1 34 33] (cR [oM 35 5,oM 36 6,bO 37 .add 36 1,oM 38 7,⟨some 39,.bin .shr .int (.t 38) (.c (.int .u64 32)),none⟩,oK 40 .u32 39,oA 41 1 35 37,oS 1 41 40])))) (cR [oM 16 6,bO 17 .add 16 1,oM 6 17])))))) (cS [oM 42 5,oM 4 42] .ret))))⟩
def kI (aD:Nat):ay:=⟨45,[(.tmp 4)],(cS [oZ 4] (cS [oM 8 0,oN 9 8,⟨some 10,.mksl 1 4 (.int .u32 0) (.t 9) (.t 9),none⟩,oM 5 10] (.seq (cS [oI 6 0] (.block 0 (.loop (.seq (cS [oM 11 6,oM 12 0,oN 13 12,oT 14 .lss 11 13] (.cond (.t 14) .skip (.exit 0))) (.seq (.block 1 (cS [oM 17 0,oM 18 6,oA 19 1 17 18,oL 20 1 19,oK 21 .u64 20,oM 7 21] (.seq (cS [oM 22 6,bO 23 .add 22 1,oM 24 0,oN 25 24,oT 26 .lss 23 25] (.cond (.t 26) (cR [oM 27 7,oM 28 0,oM 29 6,bO 30 .add 29 1,oA 31 1 28 30,oL 32 1 31,oK 33 .u64 32,⟨some 34,.bin .shl .int (.t 33) (.c (.int .u64 32)),none⟩,oT 35 .or 27 34,oM 7 35]) .skip)) (cR [oM 36 5,oM 37 6,oM 38 7,oM 39 1,oT 40 .shr 38 39,oK 41 .u32 40,oA 42 1 36 37,oS 1 42 41])))) (cR [oM 15 6,bO 16 .add 15 1,oM 6 16])))))) (cS [oM 43 5,oC 44 aD 43,oM 4 44] .ret))))⟩
def gI (j7 aD cI dT:Nat):ay:=⟨51,[(.tmp 4),(.tmp 5)],(cS [⟨some 4,.mv (.c (.int .u32 0)),none⟩,oZ 5] (cS [oM 9 1,oN 10 9,oM 6 10] (.seq (.reg (some []) [oM 11 0,oM 12 6,oA 13 1 11 12,oL 14 1 13,oK 15 .u64 14,⟨some 16,.bin .shl .int (.t 15) (.c (.int .u64 32)),none⟩,oM 17 0,oM 18 6,bO 19 .sub 18 1,oA 20 1 17 19,oL 21 1 20,oK 22 .u64 21,oT 23 .or 16 22,oM 24 1,oM 25 6,bO 26 .sub 25 1,oA 27 1 24 26,oL 28 1 27,oK 29 .u64 28,oT 30 .quo 23 29,oM 7 30]) (.seq (cS [oM 31 7,⟨some 32,.bin .gtr .int (.t 31) (.c (.int .u64 4294967295)),none⟩] (.cond (.t 32) (cR [⟨some 7,.mv (.c (.int .u64 4294967295)),none⟩]) .skip)) (cS [oM 33 1,oM 34 7,oK 35 .u32 34,⟨some 36,.buildSl 1 1 (.int .u32 0) [(0,(.t 35))],none⟩,fJ 37 j7 33 36,oM 8 37] (.seq (.block 0 (.loop (.seq (cS [oM 38 0,oC 39 aD 38,oM 40 8,fJ 41 cI 39 40,bO 42 .lss 41 0] (.cond (.t 42) .skip (.exit 0))) (.block 1 (cS [oM 43 7,⟨some 44,.bin .sub .int (.t 43) (.c (.int .u64 1)),none⟩,oM 7 44] (cR [oM 45 8,oM 46 1,fJ 47 dT 45 46,oM 8 47])))))) (cS [oM 48 7,oK 49 .u32 48,oM 50 8,oM 4 49,oM 5 50] .ret)))))))⟩
def js (cI nu dR l5 sH ma aD tT dT ve:Nat):ay:=⟨128,[(.tmp 4),(.tmp 5)],(cS [oZ 4,oZ 5] (.seq (cS [oM 20 0,oM 21 1,fJ 22 cI 20 21,bO 23 .lss 22 0] (.cond (.t 23) (cS [oM 24 0,oZ 4,oM 5 24] .ret) .skip)) (.seq (cS [oM 25 0,oN 26 25,bO 27 .leq 26 2] (.cond (.t 27) (cS [oM 28 0,oC 29 nu 28,oM 30 1,oC 31 nu 30,oM 6 29,oM 7 31] (.seq (.reg (some []) [oM 32 6,oM 33 7,oT 34 .quo 32 33,oC 35 dR 34,oM 36 6,oM 37 7,oT 38 .rem 36 37,oC 39 dR 38,oM 4 35,oM 5 39]) .ret)) .skip)) (.seq (cS [oM 40 1,oN 41 40,bO 42 .eql 41 1] (.cond (.t 42) (cS [oM 44 0,oM 45 1,⟨some 46,.iaddrS 1 (.t 45) (.c (.int .i64 0)),none⟩,oL 47 1 46,fJ 48 l5 44 47,oM 43 48,oE 49 43 0,oE 50 43 1,oM 8 49,oM 9 50] (cS [oM 51 8,oM 52 9,oK 53 .u64 52,oC 54 dR 53,oM 4 51,oM 5 54] .ret)) .skip)) (cS [oM 55 1,oN 56 55,⟨some 57,.bin .mul .int (.c (.int .i64 32)) (.t 56),none⟩,oM 58 1,oC 59 sH 58,oT 60 .sub 57 59,oM 10 60] (cS [oM 61 0,oM 62 10,fJ 63 ma 61 62,oM 64 1,oM 65 10,fJ 66 ma 64 65,oC 67 aD 66,oM 11 63,oM 12 67] (cS [oM 68 0,oN 69 68,⟨some 70,.mksl 1 4 (.int .u32 0) (.t 69) (.t 69),none⟩,oM 13 70] (.seq (cS [oM 71 0,oN 72 71,oM 73 12,oN 74 73,oT 75 .sub 72 74,oM 14 75] (.block 0 (.loop (.seq (cS [oM 76 14,bO 77 .geq 76 0] (.cond (.t 77) .skip (.exit 0))) (.seq (.block 1 (cS [oM 80 11,oM 81 14,oM 82 14,oM 83 12,oN 84 83,oT 85 .add 82 84,bO 86 .add 85 1,⟨some 87,.slice 1 (.t 80) (some (.t 81)) (some (.t 86)) none,none⟩,oM 15 87] (cS [oM 89 15,oM 90 12,fJ 91 tT 89 90,oM 88 91,oE 92 88 0,oE 93 88 1,oM 16 92,oM 17 93] (cS [oM 94 13,oM 95 14,oM 96 16,oA 97 1 94 95,oS 1 97 96] (cS [oM 98 15,oC 99 aD 98,oM 100 17,fJ 101 dT 99 100,oM 18 101] (cS [oI 19 0] (.block 2 (.loop (.seq (cS [oM 102 19,oM 103 15,oN 104 103,oT 105 .lss 102 104] (.cond (.t 105) .skip (.exit 2))) (.seq (.block 3 (cS [oM 108 15,oM 109 19,oA 110 1 108 109,⟨none,.store 1 (.t 110) (.c (.int .u32 0)),none⟩] (cS [oM 111 19,oM 112 18,oN 113 112,oT 114 .lss 111 113] (.cond (.t 114) (cR [oM 115 15,oM 116 19,oM 117 18,oM 118 19,oA 119 1 117 118,oL 120 1 119,oA 121 1 115 116,oS 1 121 120]) .skip)))) (cR [oM 106 19,bO 107 .add 106 1,oM 19 107]))))))))))) (cR [oM 78 14,bO 79 .sub 78 1,oM 14 79])))))) (cS [oM 122 13,oC 123 aD 122,oM 124 11,oC 125 aD 124,oM 126 10,fJ 127 ve 125 126,oM 4 123,oM 5 127] .ret)))))))))⟩
def kJ (bF:Nat):ay:=⟨11,[(.tmp 2)],(cS [oX 1 0,oI 2 0] (cS [di 3 2 1,oC 4 bF 3,oS 2 1 4] (.seq (cS [oF 5 1 1,oL 6 1 5,oN 7 6,bO 8 .eql 7 0] (.cond (.t 8) (cS [oI 2 0] .ret) .skip)) (.seq (cS [oF 9 0 1,oL 10 1 9] (.cond (.t 10) (cS [oI 2 (-1-0)] .ret) .skip)) (cS [oI 2 1] .ret)))))⟩
def lg (aX:Nat):ay:=⟨9,[(.cell 2 true 2)],(cS [oX 1 0,⟨some 2,.box (.c (.agg [(.bool false),.nils])),none⟩] (cS [oF 3 0 1,oL 4 1 3,qG 5 4,oF 6 1 1,oL 7 1 6,fJ 8 aX 5 7,oS 2 2 8] .ret))⟩
def lj (bF vg aX cI dT:Nat):ay:=⟨44,[(.cell 4 true 2)],(cS [oX 2 0,oX 3 1,⟨some 4,.box (.c (.agg [(.bool false),.nils])),none⟩] (.seq (.reg (some [(1,2)]) [di 5 2 2,oC 6 bF 5,di 7 2 3,oC 8 bF 7,oS 2 2 6,oS 2 3 8]) (.seq (cS [oF 9 0 2,oL 10 1 9,oF 11 0 3,oL 12 1 11,⟨some 13,.bin .eql .bool (.t 10) (.t 12),none⟩] (.cond (.t 13) (.seq (.reg (some [(1,6)]) [oF 14 0 2,oL 15 1 14,oF 16 1 2,oL 17 1 16,oF 18 1 3,oL 19 1 18,fJ 20 vg 17 19,fJ 21 aX 15 20,oS 2 4 21]) .ret) .skip)) (.seq (cS [oF 22 1 2,oL 23 1 22,oF 24 1 3,oL 25 1 24,fJ 26 cI 23 25,bO 27 .geq 26 0] (.cond (.t 27) (.seq (.reg (some [(1,6)]) [oF 28 0 2,oL 29 1 28,oF 30 1 2,oL 31 1 30,oF 32 1 3,oL 33 1 32,fJ 34 dT 31 33,fJ 35 aX 29 34,oS 2 4 35]) .ret) .skip)) (.seq (.reg (some [(1,6)]) [oF 36 0 3,oL 37 1 36,oF 38 1 3,oL 39 1 38,oF 40 1 2,oL 41 1 40,fJ 42 dT 39 41,fJ 43 aX 37 42,oS 2 4 43]) .ret)))))⟩
def ln (vV lp:Nat):ay:=⟨9,[(.cell 4 true 2)],(cS [oX 2 0,oX 3 1,⟨some 4,.box (.c (.agg [(.bool false),.nils])),none⟩] (.seq (.reg (some [(0,2)]) [di 5 2 2,di 6 2 3,oC 7 vV 6,fJ 8 lp 5 7,oS 2 4 8]) .ret))⟩
def lq (bF j7 aX:Nat):ay:=⟨20,[(.cell 4 true 2)],(cS [oX 2 0,oX 3 1,⟨some 4,.box (.c (.agg [(.bool false),.nils])),none⟩] (.seq (.reg (some [(1,2)]) [di 5 2 2,oC 6 bF 5,di 7 2 3,oC 8 bF 7,oS 2 2 6,oS 2 3 8]) (.seq (.reg (some [(1,9),(3,9)]) [oF 9 0 2,oL 10 1 9,oF 11 0 3,oL 12 1 11,⟨some 13,.bin .neq .bool (.t 10) (.t 12),none⟩,oF 14 1 2,oL 15 1 14,oF 16 1 3,oL 17 1 16,fJ 18 j7 15 17,fJ 19 aX 13 18,oS 2 4 19]) .ret)))⟩
def jt (bF ju aX fY oJ ek dw lp:Nat):ay:=⟨55,[(.cell 4 true 2),(.cell 5 true 2),(.tmp 6)],(cS [oX 2 0,oX 3 1,⟨some 4,.box (.c (.agg [(.bool false),.nils])),none⟩,⟨some 5,.box (.c (.agg [(.bool false),.nils])),none⟩,oI 6 0] (.seq (.reg (some [(1,2)]) [di 11 2 2,oC 12 bF 11,di 13 2 3,oC 14 bF 13,oS 2 2 12,oS 2 3 14]) (.seq (cS [oF 15 1 3,oL 16 1 15,oN 17 16,bO 18 .eql 17 0] (.cond (.t 18) (cS [⟨some 19,.build [(.bool false),.nils] [],none⟩,⟨some 20,.build [(.bool false),.nils] [],none⟩,oS 2 4 19,oS 2 5 20,oI 6 6] .ret) .skip)) (cS [oF 22 1 2,oL 23 1 22,oF 24 1 3,oL 25 1 24,fJ 26 ju 23 25,oM 21 26,oE 27 21 0,oE 28 21 1,oM 7 27,oM 8 28] (cS [oF 29 0 2,oL 30 1 29,oF 31 0 3,oL 32 1 31,⟨some 33,.bin .neq .bool (.t 30) (.t 32),none⟩,oM 34 7,fJ 35 aX 33 34,⟨some 9,.box (.c (.agg [(.bool false),.nils])),none⟩,oS 2 9 35] (.seq (.reg (some [(0,3),(0,5),(1,5),(2,5),(3,5),(4,5)]) [di 36 2 2,di 37 2 9,di 38 2 3,fJ 39 fY 37 38,fJ 40 oJ 36 39,⟨some 10,.box (.c (.agg [(.bool false),.nils])),none⟩,oS 2 10 40]) (.seq (.seq (.reg (some [(1,2)]) [di 41 2 10,oC 42 ek 41,di 43 2 3,oC 44 ek 43,oT 45 .mul 42 44,bO 46 .lss 45 0]) (.cond (.t 46) (.seq (.reg (some [(0,1)]) [di 47 2 9,⟨some 48,.call (.f dw) [(.c (.int .i64 1))],none⟩,fJ 49 oJ 47 48,oS 2 9 49]) (cR [di 50 2 10,di 51 2 3,fJ 52 lp 50 51,oS 2 10 52])) .skip)) (.seq (.reg (some [(1,2)]) [di 53 2 9,di 54 2 10,oS 2 4 53,oS 2 5 54,oI 6 0]) .ret))))))))⟩
def lr (aD ju aX:Nat):ay:=⟨28,[(.cell 4 true 2)],(cS [oX 2 0,oX 3 1,⟨some 4,.box (.c (.agg [(.bool false),.nils])),none⟩] (.seq (.reg (some [(2,4)]) [oF 9 1 2,oL 10 1 9,oC 11 aD 10,oF 12 1 3,oL 13 1 12,oC 14 aD 13,oM 5 11,oM 6 14]) (.seq (.block 0 (.loop (.seq (cS [oM 15 6,oN 16 15,bO 17 .gtr 16 0] (.cond (.t 17) .skip (.exit 0))) (.block 1 (cS [oM 19 5,oM 20 6,fJ 21 ju 19 20,oM 18 21,oE 22 18 0,oE 23 18 1,oM 7 22,oM 8 23] (cR [oM 24 6,oM 25 8,oM 5 24,oM 6 25])))))) (cS [oM 26 5,⟨some 27,.call (.f aX) [(.c (.bool false)),(.t 26)],none⟩,oS 2 4 27] .ret))))⟩
def jv (bF l5:Nat):ay:=⟨34,[(.tmp 2)],(cS [oX 1 0,⟨some 2,.mv (.c (.str [])),none⟩] (cS [di 7 2 1,oC 8 bF 7,oS 2 1 8] (cS [⟨some 3,.mv (.c (.str [])),none⟩] (cS [oF 9 1 1,oL 10 1 9,oM 4 10] (.seq (.block 0 (.loop (.seq (cS [oM 11 4,oN 12 11,bO 13 .gtr 12 0] (.cond (.t 13) .skip (.exit 0))) (.block 1 (cS [oM 15 4,⟨some 16,.call (.f l5) [(.t 15),(.c (.int .u32 10))],none⟩,oM 14 16,oE 17 14 0,oE 18 14 1,oM 5 17,oM 6 18] (cS [oM 19 6,⟨some 20,.bin .add .int (.c (.int .u32 48)) (.t 19),none⟩,oK 21 .u8 20,⟨some 22,.buildSl 1 1 (.int .u8 0) [(0,(.t 21))],none⟩,⟨some 23,.bytesStr (.t 22),none⟩,oM 24 3,⟨some 25,.bin .add .str (.t 23) (.t 24),none⟩,oM 3 25] (cR [oM 26 5,oM 4 26]))))))) (.seq (cS [oM 27 3,⟨some 28,.bin .eql .str (.t 27) (.c (.str [])),none⟩] (.cond (.t 28) (cS [⟨some 2,.mv (.c (.str [48])),none⟩] .ret) .skip)) (.seq (cS [oF 29 0 1,oL 30 1 29] (.cond (.t 30) (cS [oM 31 3,⟨some 32,.bin .add .str (.c (.str [45])) (.t 31),none⟩,oM 2 32] .ret) .skip)) (cS [oM 33 3,oM 2 33] .ret))))))))⟩
def kK (cI:Nat):ay:=⟨18,[(.tmp 4)],(cS [oX 2 0,oX 3 1,oB 4 false] (cS [oF 5 0 2,oL 6 1 5,oF 7 0 3,oL 8 1 7,⟨some 9,.bin .eql .bool (.t 6) (.t 8),none⟩,oM 10 9,gF 11 1 2 10 true,gL 12 1 11 10 true,gF 13 1 3 10 true,gL 14 1 13 10 true,⟨some 15,.call (.f cI) [(.t 12),(.t 14)],some (10,true)⟩,⟨some 16,.bin .eql .int (.t 15) (.c (.int .i64 0)),some (10,true)⟩,iR 17 10 16,oM 4 17] .ret))⟩
def lu (sI:Nat):ay:=⟨16,[(.cell 4 true 2)],(cS [oX 2 0,oX 3 1,⟨some 4,.box (.c (.agg [(.bool false),.nils])),none⟩] (cS [di 9 2 2,di 10 2 3,fJ 11 sI 9 10,oM 8 11,oE 12 8 0,oE 13 8 1,oE 14 8 2,⟨some 5,.box (.c (.agg [(.bool false),.nils])),none⟩,⟨some 6,.box (.c (.agg [(.bool false),.nils])),none⟩,oS 2 5 12,oS 2 6 13,oM 7 14] (cS [di 15 2 5,oS 2 4 15] .ret)))⟩
def iX (dw:Nat):ay:=⟨7,[(.cell 2 true 4)],(cS [⟨some 2,.box (.c (.agg [(.bool false),.nils,(.bool false),.nils])),none⟩] (cS [oM 3 0,oC 4 dw 3,⟨some 5,.call (.f dw) [(.c (.int .i64 1))],none⟩,⟨some 6,.build [(.bool false),.nils,(.bool false),.nils] [(0,(2,(.t 4))),(2,(2,(.t 5)))],none⟩,oS 4 2 6] .ret))⟩
def lv:ay:=⟨19,[(.tmp 2)],(cS [oX 1 0,oB 2 false] (cS [oF 3 1 1,oL 4 1 3,oN 5 4,bO 6 .eql 5 1,oM 7 6,gF 8 1 1 7 true,gL 9 1 8 7 true,⟨some 10,.iaddrS 1 (.t 9) (.c (.int .i64 0)),some (7,true)⟩,gL 11 1 10 7 true,⟨some 12,.bin .eql .int (.t 11) (.c (.int .u32 1)),some (7,true)⟩,iR 13 7 12,oM 14 13,gF 15 0 1 14 true,gL 16 1 15 14 true,⟨some 17,.un .not (.t 16),some (14,true)⟩,iR 18 14 17,oM 2 18] .ret))⟩
def tU (nw ek iI iJ:Nat):ay:=⟨25,[(.tmp 2)],(cS [oX 1 0,oB 2 false] (cS [oF 3 0 1,di 4 2 3,oC 5 nw 4,oM 6 5,gF 7 2 1 6 true,Cb 8 2 7 6 true,⟨some 9,.call (.f nw) [.t 8],some (6,true)⟩,iR 10 6 9,oM 11 10,gF 12 2 1 11 true,Cb 13 2 12 11 true,⟨some 14,.call (.f ek) [.t 13],some (11,true)⟩,⟨some 15,.bin .gtr .int (.t 14) (.c (.int .i64 0)),some (11,true)⟩,iR 16 11 15,oM 17 16,gF 18 0 1 17 true,Cb 19 2 18 17 true,gF 20 2 1 17 true,Cb 21 2 20 17 true,⟨some 22,.call (.f iI) [(.t 19),(.t 21)],some (17,true)⟩,⟨some 23,.call (.f iJ) [.t 22],some (17,true)⟩,iR 24 17 23,oM 2 24] .ret))⟩
def kL (mb:Nat):ay:=⟨17,[(.tmp 4)],(cS [oX 2 0,oX 3 1,oB 4 false] (cS [oF 5 0 2,di 6 2 5,oF 7 0 3,di 8 2 7,fJ 9 mb 6 8,oM 10 9,gF 11 2 2 10 true,Cb 12 2 11 10 true,gF 13 2 3 10 true,Cb 14 2 13 10 true,⟨some 15,.call (.f mb) [(.t 12),(.t 14)],some (10,true)⟩,iR 16 10 15,oM 4 16] .ret))⟩
def eA:ay:=⟨38,[(.tmp 4)],(cS [oX 2 0,oX 3 1,oB 4 false] (.seq (cS [oF 6 0 2,oL 7 1 6,oF 8 0 3,oL 9 1 8,⟨some 10,.bin .neq .bool (.t 7) (.t 9),none⟩,oM 11 10,gF 12 1 2 11 false,gL 13 1 12 11 false,gN 14 13 11 false,gF 15 1 3 11 false,gL 16 1 15 11 false,gN 17 16 11 false,gT 18 .neq 14 17 11 false,qH 19 11 18] (.cond (.t 19) (cS [oB 4 false] .ret) .skip)) (.seq (cS [oI 5 0] (.block 0 (.loop (.seq (cS [oM 20 5,oF 21 1 2,oL 22 1 21,oN 23 22,oT 24 .lss 20 23] (.cond (.t 24) .skip (.exit 0))) (.seq (.block 1 (.seq (.reg (some []) [oF 27 1 2,oL 28 1 27,oM 29 5,oA 30 1 28 29,oL 31 1 30,oF 32 1 3,oL 33 1 32,oM 34 5,oA 35 1 33 34,oL 36 1 35,oT 37 .neq 31 36]) (.cond (.t 37) (cS [oB 4 false] .ret) .skip))) (cR [oM 25 5,bO 26 .add 25 1,oM 5 26])))))) (cS [oB 4 true] .ret))))⟩
def vk (ek:Nat):ay:=⟨6,[(.tmp 2)],(cS [oX 1 0,oI 2 0] (cS [oF 3 0 1,di 4 2 3,oC 5 ek 4,oM 2 5] .ret))⟩
def lx (iS iJ fY iI iK:Nat):ay:=⟨65,[(.cell 4 true 4)],(cS [oX 2 0,oX 3 1,⟨some 4,.box (.c (.agg [(.bool false),.nils,(.bool false),.nils])),none⟩] (.seq (cS [oF 7 0 2,oF 8 1 7,oL 9 1 8,oN 10 9,bO 11 .eql 10 0,oM 12 11,gF 13 0 3 12 false,gF 14 1 13 12 false,gL 15 1 14 12 false,gN 16 15 12 false,⟨some 17,.bin .eql .int (.t 16) (.c (.int .i64 0)),some (12,false)⟩,qH 18 12 17] (.cond (.t 18) (cS [⟨some 19,.call (.f iS) [(.c (.int .i64 0))],none⟩,oS 4 4 19] .ret) .skip)) (.seq (cS [oF 20 2 2,di 21 2 20,oC 22 iJ 21,oM 23 22,gF 24 2 3 23 true,Cb 25 2 24 23 true,⟨some 26,.call (.f iJ) [.t 25],some (23,true)⟩,iR 27 23 26] (.cond (.t 27) (.seq (.reg (some [(4,6)]) [oF 28 0 2,di 29 2 28,oF 30 0 3,di 31 2 30,fJ 32 fY 29 31,oF 33 2 2,di 34 2 33,⟨some 35,.build [(.bool false),.nils,(.bool false),.nils] [(0,(2,(.t 32))),(2,(2,(.t 34)))],none⟩,oS 4 4 35]) .ret) .skip)) (.seq (.reg (some [(4,6),(4,8),(1,10),(3,10),(4,10),(6,10),(8,10),(9,10),(1,11),(3,11),(4,11),(6,11),(8,11),(9,11),(10,11)]) [oF 36 0 2,di 37 2 36,oF 38 2 3,di 39 2 38,fJ 40 iI 37 39,oF 41 0 3,di 42 2 41,oF 43 2 2,di 44 2 43,fJ 45 iI 42 44,⟨some 5,.box (.c (.agg [(.bool false),.nils])),none⟩,⟨some 6,.box (.c (.agg [(.bool false),.nils])),none⟩,oS 2 5 40,oS 2 6 45]) (.seq (.reg (some [(3,5),(3,6),(3,10),(7,10),(8,10),(3,11),(7,11),(8,11),(3,14),(7,14),(8,14),(12,14),(3,15),(7,15),(8,15),(12,15)]) [oF 46 0 2,di 47 2 46,di 48 2 5,fJ 49 iK 47 48,oF 50 0 3,di 51 2 50,di 52 2 6,fJ 53 iK 51 52,fJ 54 fY 49 53,oF 55 2 2,di 56 2 55,di 57 2 6,fJ 58 iK 56 57,oF 59 2 3,di 60 2 59,di 61 2 5,fJ 62 iK 60 61,fJ 63 fY 58 62,⟨some 64,.build [(.bool false),.nils,(.bool false),.nils] [(0,(2,(.t 54))),(2,(2,(.t 63)))],none⟩,oS 4 4 64]) .ret)))))⟩
end Go.VL
end

section
set_option maxRecDepth 100000
namespace Go.Proofs.YtcomlgfjnjpebaaGreatDoor
open Go.VL Go.Proofs
theorem xU:Has Tryz.prog 73 (jk):=⟨_,Tryz.func73,by kernel_rfl⟩
theorem y7:Has Tryz.prog 103 (mq):=⟨_,Tryz.func103,by kernel_rfl⟩
theorem AD:Has Tryz.prog 75 (mX 73 103):=⟨_,Tryz.func75,by kernel_rfl⟩
theorem C7:Has Tryz.prog 74 (pD):=⟨_,Tryz.func74,by kernel_rfl⟩
theorem AE:Has Tryz.prog 50 (jl 73 74 75):=⟨_,Tryz.func50,by kernel_rfl⟩
theorem B1:Has Tryz.prog 13 (kx):=⟨_,Tryz.func13,by kernel_rfl⟩
theorem qe:Has Tryz.prog 14 (et 36 29 37 38 39 40 41):=⟨_,Tryz.func14,by kernel_rfl⟩
theorem y8:Has Tryz.prog 29 (ki 50 51 52 54 55):=⟨_,Tryz.func29,by kernel_rfl⟩
theorem ly:Has Tryz.prog 51 (cg 76):=⟨_,Tryz.func51,by kernel_rfl⟩
theorem me:Has Tryz.prog 76 (cy):=⟨_,Tryz.func76,by kernel_rfl⟩
theorem eT:Has Tryz.prog 54 (bu 77):=⟨_,Tryz.func54,by kernel_rfl⟩
theorem fO:Has Tryz.prog 77 (bG):=⟨_,Tryz.func77,by kernel_rfl⟩
theorem vn:Has Tryz.prog 37 (gw 63 62):=⟨_,Tryz.func37,by kernel_rfl⟩
theorem jd:Has Tryz.prog 62 (bl):=⟨_,Tryz.func62,by kernel_rfl⟩
theorem sJ:Has Tryz.prog 63 (ij):=⟨_,Tryz.func63,by kernel_rfl⟩
theorem kp:Has Tryz.prog 38 (aV):=⟨_,Tryz.func38,by kernel_rfl⟩
theorem y9:Has Tryz.prog 39 (mr 64 65 66):=⟨_,Tryz.func39,by kernel_rfl⟩
theorem nI:Has Tryz.prog 64 (cY):=⟨_,Tryz.func64,by kernel_rfl⟩
theorem gR:Has Tryz.prog 65 (bb):=⟨_,Tryz.func65,by kernel_rfl⟩
theorem qf:Has Tryz.prog 40 (fQ 11 37):=⟨_,Tryz.func40,by kernel_rfl⟩
theorem za:Has Tryz.prog 11 (kj 29 30 31 32):=⟨_,Tryz.func11,by kernel_rfl⟩
theorem lz:Has Tryz.prog 41 (cH 36 67 68):=⟨_,Tryz.func41,by kernel_rfl⟩
theorem dW:Has Tryz.prog 67 (aG):=⟨_,Tryz.func67,by kernel_rfl⟩
theorem eK:Has Tryz.prog 36 (bD):=⟨_,Tryz.func36,by kernel_rfl⟩
theorem pn:Has Tryz.prog 16 (dK 36 39):=⟨_,Tryz.func16,by kernel_rfl⟩
theorem sK:Has Tryz.prog 145 (du):=⟨_,Tryz.func145,by kernel_rfl⟩
theorem xV:Has Tryz.prog 141 (lL 145):=⟨_,Tryz.func141,by kernel_rfl⟩
theorem vW:Has Tryz.prog 142 (j3 145):=⟨_,Tryz.func142,by kernel_rfl⟩
theorem wZ:Has Tryz.prog 144 (ng 143 167):=⟨_,Tryz.func144,by kernel_rfl⟩
theorem AG:Has Tryz.prog 207 (pY):=⟨_,Tryz.func207,by kernel_rfl⟩
theorem zb:Has Tryz.prog 208 (pc 145):=⟨_,Tryz.func208,by kernel_rfl⟩
theorem zc:Has Tryz.prog 168 (pe 145):=⟨_,Tryz.func168,by kernel_rfl⟩
theorem vp:Has Tryz.prog 191 (jf):=⟨_,Tryz.func191,by kernel_rfl⟩
theorem tV:Has Tryz.prog 194 (iH):=⟨_,Tryz.func194,by kernel_rfl⟩
theorem tW:Has Tryz.prog 189 (ld 145 142):=⟨_,Tryz.func189,by kernel_rfl⟩
theorem xW:Has Tryz.prog 164 (nT 144 95 165 142 189 190 191 145 192 193 194):=⟨_,Tryz.func164,by kernel_rfl⟩
theorem vX:Has Tryz.prog 192 (j4):=⟨_,Tryz.func192,by kernel_rfl⟩
theorem w6:Has Tryz.prog 193 (kQ):=⟨_,Tryz.func193,by kernel_rfl⟩
theorem zd:Has Tryz.prog 136 (pg):=⟨_,Tryz.func136,by kernel_rfl⟩
theorem AH:Has Tryz.prog 137 (p5 145):=⟨_,Tryz.func137,by kernel_rfl⟩
theorem B2:Has Tryz.prog 127 (rJ 137 143 145 144):=⟨_,Tryz.func127,by kernel_rfl⟩
theorem B3:Has Tryz.prog 169 (rK 145 95 141):=⟨_,Tryz.func169,by kernel_rfl⟩
theorem B4:Has Tryz.prog 146 (rL 145 168 141):=⟨_,Tryz.func146,by kernel_rfl⟩
theorem xX:Has Tryz.prog 196 (nU 145 164 207 208 141):=⟨_,Tryz.func196,by kernel_rfl⟩
theorem B5:Has Tryz.prog 139 (rM 145 164 95 141 165 142):=⟨_,Tryz.func139,by kernel_rfl⟩
theorem w7:Has Tryz.prog 126 (nj 142 141):=⟨_,Tryz.func126,by kernel_rfl⟩
theorem AJ:Has Tryz.prog 140 (p9 126):=⟨_,Tryz.func140,by kernel_rfl⟩
theorem xY:Has Tryz.prog 138 (nW):=⟨_,Tryz.func138,by kernel_rfl⟩
theorem AK:Has Tryz.prog 170 (qa 138 196):=⟨_,Tryz.func170,by kernel_rfl⟩
theorem w9:Has Tryz.prog 147 (nk 139 169 170):=⟨_,Tryz.func147,by kernel_rfl⟩
theorem xZ:Has Tryz.prog 123 (lM 136 137 139 138):=⟨_,Tryz.func123,by kernel_rfl⟩
theorem ze:Has Tryz.prog 124 (mw 137):=⟨_,Tryz.func124,by kernel_rfl⟩
theorem vY:Has Tryz.prog 125 (mB 126 140):=⟨_,Tryz.func125,by kernel_rfl⟩
theorem AL:Has Tryz.prog 128 (qc 138 146 140 147):=⟨_,Tryz.func128,by kernel_rfl⟩
theorem xc:Has Tryz.prog 90 (np):=⟨_,Tryz.func90,by kernel_rfl⟩
theorem po:Has Tryz.prog 190 (hP 90):=⟨_,Tryz.func190,by kernel_rfl⟩
theorem zf:Has Tryz.prog 166 (pj):=⟨_,Tryz.func166,by kernel_rfl⟩
theorem vZ:Has Tryz.prog 195 (mC):=⟨_,Tryz.func195,by kernel_rfl⟩
theorem xd:Has Tryz.prog 143 (nr 166):=⟨_,Tryz.func143,by kernel_rfl⟩
theorem tX:Has Tryz.prog 167 (lf 195):=⟨_,Tryz.func167,by kernel_rfl⟩
theorem fy:Has Tryz.prog 95 (aY):=⟨_,Tryz.func95,by kernel_rfl⟩
theorem sL:Has Tryz.prog 203 (u9):=⟨_,Tryz.func203,by kernel_rfl⟩
theorem qJ:Has Tryz.prog 182 (jr 203):=⟨_,Tryz.func182,by kernel_rfl⟩
theorem sM:Has Tryz.prog 185 (kG 182):=⟨_,Tryz.func185,by kernel_rfl⟩
theorem rP:Has Tryz.prog 178 (j5 203):=⟨_,Tryz.func178,by kernel_rfl⟩
theorem rQ:Has Tryz.prog 183 (tR 203):=⟨_,Tryz.func183,by kernel_rfl⟩
theorem qg:Has Tryz.prog 160 (iV 183 182):=⟨_,Tryz.func160,by kernel_rfl⟩
theorem rR:Has Tryz.prog 213 (j6):=⟨_,Tryz.func213,by kernel_rfl⟩
theorem qh:Has Tryz.prog 184 (iW):=⟨_,Tryz.func184,by kernel_rfl⟩
theorem sN:Has Tryz.prog 224 (kH 203):=⟨_,Tryz.func224,by kernel_rfl⟩
theorem mf:Has Tryz.prog 217 (dS 203):=⟨_,Tryz.func217,by kernel_rfl⟩
theorem mg:Has Tryz.prog 205 (gH 203):=⟨_,Tryz.func205,by kernel_rfl⟩
theorem vq:Has Tryz.prog 186 (l4 203):=⟨_,Tryz.func186,by kernel_rfl⟩
theorem qK:Has Tryz.prog 214 (gl):=⟨_,Tryz.func214,by kernel_rfl⟩
theorem qi:Has Tryz.prog 215 (fU):=⟨_,Tryz.func215,by kernel_rfl⟩
theorem sO:Has Tryz.prog 218 (kI 203):=⟨_,Tryz.func218,by kernel_rfl⟩
theorem rS:Has Tryz.prog 216 (gI 205 203 184 217):=⟨_,Tryz.func216,by kernel_rfl⟩
theorem qL:Has Tryz.prog 204 (js 184 213 183 186 214 215 203 216 217 218):=⟨_,Tryz.func204,by kernel_rfl⟩
theorem sP:Has Tryz.prog 179 (kJ 185):=⟨_,Tryz.func179,by kernel_rfl⟩
theorem tY:Has Tryz.prog 223 (lg 182):=⟨_,Tryz.func223,by kernel_rfl⟩
theorem tZ:Has Tryz.prog 220 (lj 185 224 182 184 217):=⟨_,Tryz.func220,by kernel_rfl⟩
theorem ua:Has Tryz.prog 219 (ln 223 220):=⟨_,Tryz.func219,by kernel_rfl⟩
theorem ub:Has Tryz.prog 187 (lq 185 205 182):=⟨_,Tryz.func187,by kernel_rfl⟩
theorem qM:Has Tryz.prog 206 (jt 185 204 182 187 219 179 160 220):=⟨_,Tryz.func206,by kernel_rfl⟩
theorem uc:Has Tryz.prog 181 (lr 203 204 182):=⟨_,Tryz.func181,by kernel_rfl⟩
theorem qN:Has Tryz.prog 162 (jv 185 186):=⟨_,Tryz.func162,by kernel_rfl⟩
theorem sQ:Has Tryz.prog 161 (kK 184):=⟨_,Tryz.func161,by kernel_rfl⟩
theorem ud:Has Tryz.prog 188 (lu 206):=⟨_,Tryz.func188,by kernel_rfl⟩
theorem qj:Has Tryz.prog 159 (iX 160):=⟨_,Tryz.func159,by kernel_rfl⟩
theorem ue:Has Tryz.prog 180 (lv):=⟨_,Tryz.func180,by kernel_rfl⟩
theorem rT:Has Tryz.prog 157 (tU 178 179 181 180):=⟨_,Tryz.func157,by kernel_rfl⟩
theorem sR:Has Tryz.prog 99 (kL 121):=⟨_,Tryz.func99,by kernel_rfl⟩
theorem lA:Has Tryz.prog 121 (eA):=⟨_,Tryz.func121,by kernel_rfl⟩
theorem sS:Has Tryz.prog 158 (vk 179):=⟨_,Tryz.func158,by kernel_rfl⟩
theorem uf:Has Tryz.prog 163 (lx 159 180 187 181 188):=⟨_,Tryz.func163,by kernel_rfl⟩
theorem pC:Has Tryz.prog 104 (gi 123 124 125 126 127 128 129 130):=⟨_,Tryz.func104,by kernel_rfl⟩
theorem AM:Has Tryz.prog 105 (pU):=⟨_,Tryz.func105,by kernel_rfl⟩
theorem x3:Has Tryz.prog 78 (aN 104 50 105 54 106 0):=⟨_,Tryz.func78,by kernel_rfl⟩
theorem wa:Has Tryz.prog 106 (jP 78):=⟨_,Tryz.func106,by kernel_rfl⟩
theorem zg:Has Tryz.prog 79 (o6 79):=⟨_,Tryz.func79,by kernel_rfl⟩
theorem zh:Has Tryz.prog 56 (ko 78 79):=⟨_,Tryz.func56,by kernel_rfl⟩
theorem lB:Has Tryz.prog 134 (dv 157 158 159 160 161 162 163):=⟨_,Tryz.func134,by kernel_rfl⟩
theorem rU:Has Tryz.prog 119 (aH 134 60):=⟨_,Tryz.func119,by kernel_rfl⟩
theorem qO:Has Tryz.prog 93 (gj 119 93):=⟨_,Tryz.func93,by kernel_rfl⟩
theorem rV:Has Tryz.prog 94 (jQ 94):=⟨_,Tryz.func94,by kernel_rfl⟩
theorem rW:Has Tryz.prog 61 (eR 93 94):=⟨_,Tryz.func61,by kernel_rfl⟩
theorem rX:Has Tryz.prog 48 (jS 48):=⟨_,Tryz.func48,by kernel_rfl⟩
theorem rY:Has Tryz.prog 49 (jU 49):=⟨_,Tryz.func49,by kernel_rfl⟩
theorem rZ:Has Tryz.prog 28 (gC 48 49):=⟨_,Tryz.func28,by kernel_rfl⟩
theorem qP:Has Tryz.prog 60 (eI 92):=⟨_,Tryz.func60,by kernel_rfl⟩
theorem sT:Has Tryz.prog 92 (fG 117 118):=⟨_,Tryz.func92,by kernel_rfl⟩
theorem qQ:Has Tryz.prog 117 (sG):=⟨_,Tryz.func117,by kernel_rfl⟩
theorem r5:Has Tryz.prog 118 (tJ):=⟨_,Tryz.func118,by kernel_rfl⟩
theorem qk:Has Tryz.prog 34 (iT 60):=⟨_,Tryz.func34,by kernel_rfl⟩
theorem nx:Has Tryz.prog 35 (k7):=⟨_,Tryz.func35,by kernel_rfl⟩
theorem r6:Has Tryz.prog 33 (cE 60 61 34):=⟨_,Tryz.func33,by kernel_rfl⟩
theorem r7:Has Tryz.prog 12 (gD 33 34 35):=⟨_,Tryz.func12,by kernel_rfl⟩
theorem r8:Has Tryz.prog 10 (dQ 28):=⟨_,Tryz.func10,by kernel_rfl⟩
theorem ug:Has Tryz.prog 53 (cZ 30 50):=⟨_,Tryz.func53,by kernel_rfl⟩
theorem xe:Has Tryz.prog 52 (kP 53):=⟨_,Tryz.func52,by kernel_rfl⟩
theorem xf:Has Tryz.prog 55 (nb 56):=⟨_,Tryz.func55,by kernel_rfl⟩
end Go.Proofs.YtcomlgfjnjpebaaGreatDoor
end

section
namespace Go.Proofs
open Go.Shelf
def Tryz.Bp:Go.Shelf.Ren:=⟨fun | 169=>152 | n=>n,fun | 70=>162 | 9=>9 | 0=>0 | 72=>164 | 37=>31 | 127=>187 | 3=>3 | 5=>5 | n=>n,fun | n=>n⟩
theorem Tryz.T2:Go.Proofs.Lays.n169 Tryz.prog Tryz.Bp:={
 mixed:=by kernel_rfl
 f169:=Tryz.func152.trans (congrArg some (by kernel_rfl))
 t0:=Tryz.underlying0
 a0:=Tryz.isAgg0
 z0:=Tryz.sizeOf0
 v0:=Tryz.zeroValue0
 t3:=Tryz.underlying3
 a3:=Tryz.isAgg3
 z3:=Tryz.sizeOf3
 v3:=Tryz.zeroValue3
 t9:=Tryz.underlying9
 a9:=Tryz.isAgg9
 z9:=Tryz.sizeOf9
 v9:=Tryz.zeroValue9
 t37:=Tryz.underlying31
 a37:=Tryz.isAgg31
 z37:=Tryz.sizeOf31
 v37:=Tryz.zeroValue31
 t70:=Tryz.underlying162
 a70:=Tryz.isAgg162
 z70:=Tryz.sizeOf162
 v70:=Tryz.zeroValue162
 t72:=Tryz.underlying164
 a72:=Tryz.isAgg164
 z72:=Tryz.sizeOf164
 v72:=Tryz.zeroValue164
 t127:=Tryz.underlying187
 a127:=Tryz.isAgg187
 z127:=Tryz.sizeOf187
 v127:=Tryz.zeroValue187 }
theorem Tryz.zi:Builder.Extra Tryz.prog Tryz.Bp:={
 sizeBuilder:=by kernel_rfl
 liesBuilder:=by kernel_rfl
 t5:=Tryz.underlying5
 a5:=Tryz.isAgg5
 z5:=Tryz.sizeOf5
 v5:=Tryz.zeroValue5
 infoByte:=by kernel_rfl
 cellsByte:=by kernel_rfl
 sizeByte:=by kernel_rfl
 neB5:=by decide }
open Go.RowKit in
theorem Tryz.Builder_String_any_k (B b:Nat) (l:List UInt8) (w:World) (h:Lib.IsBuilderF 164 5 B b (Lib.byteCells l) w) (hBw:B<=w.heap.size) :
   Calls Tryz.prog 152 #[.pointer (some ⟨b,0,none⟩)] w fun e w'=>e = .returned (.string ⟨l.toArray⟩)/\(Lib.IsBuilderF 164 5 B b (Lib.byteCells l) w'/\Below B w w'/\Lib.OthersKept 5 (some b) w w'):=Any.Builder_String_any_k Tryz.T2 Tryz.zi B b l w h hBw
def Tryz.Ic:Go.Shelf.Ren:=⟨fun | 129=>91 | n=>n,fun | 53=>118 | 3=>3 | 4=>4 | 46=>92 | 5=>5 | 9=>9 | n=>n,fun | n=>n⟩
theorem Tryz.T3:Go.Proofs.Lays.n129 Tryz.prog Tryz.Ic:={
 mixed:=by kernel_rfl
 f129:=Tryz.func91.trans (congrArg some (by kernel_rfl))
 t3:=Tryz.underlying3
 a3:=Tryz.isAgg3
 z3:=Tryz.sizeOf3
 v3:=Tryz.zeroValue3
 t4:=Tryz.underlying4
 a4:=Tryz.isAgg4
 z4:=Tryz.sizeOf4
 v4:=Tryz.zeroValue4
 t5:=Tryz.underlying5
 a5:=Tryz.isAgg5
 z5:=Tryz.sizeOf5
 v5:=Tryz.zeroValue5
 t9:=Tryz.underlying9
 a9:=Tryz.isAgg9
 z9:=Tryz.sizeOf9
 v9:=Tryz.zeroValue9
 t46:=Tryz.underlying92
 a46:=Tryz.isAgg92
 z46:=Tryz.sizeOf92
 v46:=Tryz.zeroValue92
 t53:=Tryz.underlying118
 a53:=Tryz.isAgg118
 z53:=Tryz.sizeOf118
 v53:=Tryz.zeroValue118 }
theorem Tryz.bits_Len64 (x:Int) (w:World) (h0:0<=x) (h1:x<=18446744073709551615) :
   Calls Tryz.prog 91 #[.int .u64 x] w fun e w'=>e = .returned (.int .i64 (Lib.bitLen x.toNat))/\w'=w:=Any.bits_Len64 Tryz.T3 x w h0 h1
def Tryz.Ie:Go.Shelf.Ren:=⟨fun | 317=>209 | n=>n,fun | 3=>3 | 46=>92 | n=>n,fun | n=>n⟩
theorem Tryz.T4:Go.Proofs.Lays.n317 Tryz.prog Tryz.Ie:={
 mixed:=by kernel_rfl
 f317:=Tryz.func209.trans (congrArg some (by kernel_rfl))
 t3:=Tryz.underlying3
 a3:=Tryz.isAgg3
 z3:=Tryz.sizeOf3
 v3:=Tryz.zeroValue3
 t46:=Tryz.underlying92
 a46:=Tryz.isAgg92
 z46:=Tryz.sizeOf92
 v46:=Tryz.zeroValue92 }
open Go.Lib in
theorem Tryz.internal_strconv_log10Pow2 (x:Nat) (h:x<=64) (w:World) :
   Calls Tryz.prog 209 #[.int .i64 x] w fun e w'=>e = .returned (.int .i64 (Lib.l10 x))/\w'=w:=Any.internal_strconv_log10Pow2 Tryz.T4 x h w
def Tryz.Ig:Go.Shelf.Ren:=⟨fun | 318=>210 | n=>n,fun | 3=>3 | 4=>4 | n=>n,fun | n=>n⟩
theorem Tryz.T5:Go.Proofs.Lays.n318 Tryz.prog Tryz.Ig:={
 mixed:=by kernel_rfl
 f318:=Tryz.func210.trans (congrArg some (by kernel_rfl))
 t3:=Tryz.underlying3
 a3:=Tryz.isAgg3
 z3:=Tryz.sizeOf3
 v3:=Tryz.zeroValue3
 t4:=Tryz.underlying4
 a4:=Tryz.isAgg4
 z4:=Tryz.sizeOf4
 v4:=Tryz.zeroValue4 }
open Go.Lib in
theorem Tryz.internal_strconv_bool2_int (b:Bool) (w:World) :
   Calls Tryz.prog 210 #[.bool b] w fun e w'=>e = .returned (.int .i64 (if b then 1 else 0))/\w'=w:=Any.internal_strconv_bool2_int Tryz.T5 b w
def Tryz.Ih:Go.Shelf.Ren:=⟨fun | 283=>198 | n=>n,fun | 3=>3 | 9=>9 | 4=>4 | n=>n,fun | n=>n⟩
theorem Tryz.T6:Go.Proofs.Lays.n283 Tryz.prog Tryz.Ih:={
 mixed:=by kernel_rfl
 f283:=Tryz.func198.trans (congrArg some (by kernel_rfl))
 t3:=Tryz.underlying3
 a3:=Tryz.isAgg3
 z3:=Tryz.sizeOf3
 v3:=Tryz.zeroValue3
 t4:=Tryz.underlying4
 a4:=Tryz.isAgg4
 z4:=Tryz.sizeOf4
 v4:=Tryz.zeroValue4
 t9:=Tryz.underlying9
 a9:=Tryz.isAgg9
 z9:=Tryz.sizeOf9
 v9:=Tryz.zeroValue9 }
open Go.Lib in
theorem Tryz.internal_strconv_small (i:Nat) (h:i<100) (w:World) :
   Calls Tryz.prog 198 #[.int .i64 i] w fun e w'=>e = .returned (.string ⟨(Lib.decDigits i).toArray⟩)/\w'=w:=Any.internal_strconv_small Tryz.T6 i h w
def Tryz.Ii:Go.Shelf.Ren:=⟨fun | 285=>200 | n=>n,fun | 37=>31 | 53=>118 | 3=>3 | 4=>4 | 51=>116 | 9=>9 | 5=>5 | 0=>0 | n=>n,fun | n=>n⟩
theorem Tryz.T7:Go.Proofs.Lays.n285 Tryz.prog Tryz.Ii:={
 mixed:=by kernel_rfl
 f285:=Tryz.func200.trans (congrArg some (by kernel_rfl))
 t0:=Tryz.underlying0
 a0:=Tryz.isAgg0
 z0:=Tryz.sizeOf0
 v0:=Tryz.zeroValue0
 t3:=Tryz.underlying3
 a3:=Tryz.isAgg3
 z3:=Tryz.sizeOf3
 v3:=Tryz.zeroValue3
 t4:=Tryz.underlying4
 a4:=Tryz.isAgg4
 z4:=Tryz.sizeOf4
 v4:=Tryz.zeroValue4
 t5:=Tryz.underlying5
 a5:=Tryz.isAgg5
 z5:=Tryz.sizeOf5
 v5:=Tryz.zeroValue5
 t9:=Tryz.underlying9
 a9:=Tryz.isAgg9
 z9:=Tryz.sizeOf9
 v9:=Tryz.zeroValue9
 t37:=Tryz.underlying31
 a37:=Tryz.isAgg31
 z37:=Tryz.sizeOf31
 v37:=Tryz.zeroValue31
 t51:=Tryz.underlying116
 a51:=Tryz.isAgg116
 z51:=Tryz.sizeOf116
 v51:=Tryz.zeroValue116
 t53:=Tryz.underlying118
 a53:=Tryz.isAgg118
 z53:=Tryz.sizeOf118
 v53:=Tryz.zeroValue118 }
open Go.RowKit Go.Sort Go.Lib in
theorem Tryz.internal_strconv_formatBase10 (blk off cap:Nat) (u:Nat) (d:Array UInt8) (w:World) (hH:Holds (fun (b:UInt8)=>Value.int .u8 (b.toNat:Int)) w blk off d) (hu:u<10 ^ d.size) (Kl:u<18446744073709551616) (hsz:d.size<4611686018427387904) :
   Calls Tryz.prog 200 #[.slice (some ⟨blk,off,none⟩) d.size cap, .int .u64 u] w fun e w' =>
     e = .returned (.tuple #[])/\∃ (n v':Nat) (dk:Array UInt8),w'=(putRow (fun (b:UInt8)=>Value.int .u8 (b.toNat:Int)) w blk off dk).drewN n/\FmtInv d.size u 0 v' dk:=Any.internal_strconv_formatBase10 Tryz.T7 blk off cap u d w hH hu Kl hsz
def Tryz.Ij:Go.Shelf.Ren:=⟨fun | 145=>30 | 220=>57 | 219=>80 | 217=>107 | 225=>108 | 224=>109 | 267=>110 | 266=>131 | 314=>132 | n=>n,fun | 9=>9 | 4=>4 | 59=>64 | 3=>3 | 5=>5 | 46=>92 | 146=>147 | 51=>116 | n=>n,fun | 1=>1 | n=>n⟩
theorem Tryz.T8:Go.Proofs.Lays.n145 Tryz.prog Tryz.Ij:={
 mixed:=by kernel_rfl
 f145:=Tryz.func30.trans (congrArg some (by kernel_rfl))
 f217:=Tryz.func107.trans (congrArg some (by kernel_rfl))
 f219:=Tryz.func80.trans (congrArg some (by kernel_rfl))
 f220:=Tryz.func57.trans (congrArg some (by kernel_rfl))
 f224:=Tryz.func109.trans (congrArg some (by kernel_rfl))
 f225:=Tryz.func108.trans (congrArg some (by kernel_rfl))
 f266:=Tryz.func131.trans (congrArg some (by kernel_rfl))
 f267:=Tryz.func110.trans (congrArg some (by kernel_rfl))
 f314:=Tryz.func132.trans (congrArg some (by kernel_rfl))
 t3:=Tryz.underlying3
 a3:=Tryz.isAgg3
 z3:=Tryz.sizeOf3
 v3:=Tryz.zeroValue3
 t4:=Tryz.underlying4
 a4:=Tryz.isAgg4
 z4:=Tryz.sizeOf4
 v4:=Tryz.zeroValue4
 t5:=Tryz.underlying5
 a5:=Tryz.isAgg5
 z5:=Tryz.sizeOf5
 v5:=Tryz.zeroValue5
 t9:=Tryz.underlying9
 a9:=Tryz.isAgg9
 z9:=Tryz.sizeOf9
 v9:=Tryz.zeroValue9
 t46:=Tryz.underlying92
 a46:=Tryz.isAgg92
 z46:=Tryz.sizeOf92
 v46:=Tryz.zeroValue92
 t51:=Tryz.underlying116
 a51:=Tryz.isAgg116
 z51:=Tryz.sizeOf116
 v51:=Tryz.zeroValue116
 t59:=Tryz.underlying64
 a59:=Tryz.isAgg64
 z59:=Tryz.sizeOf64
 v59:=Tryz.zeroValue64
 t146:=Tryz.underlying147
 a146:=Tryz.isAgg147
 z146:=Tryz.sizeOf147
 v146:=Tryz.zeroValue147
 g1:=by kernel_rfl }
open Go.RowKit Go.Lib in
theorem Tryz.strings_Cut (s sep:ByteArray) (m:Int) (w:World) (hs:s.size<4294967281) (hm:w.cell? ⟨1,0,none⟩=some (.int .i64 m)) :
   Calls Tryz.prog 30 #[.string s, .string sep] w fun e w'=>e = .returned (.tuple #[.string ⟨(Lib.cut s.data.toList sep.data.toList).1.toArray⟩, .string ⟨(Lib.cut s.data.toList sep.data.toList).2.1.toArray⟩, .bool (Lib.cut s.data.toList sep.data.toList).2.2])/\∃ n,w'=w.drewN n:=Any.strings_Cut Tryz.T8 s sep m w hs hm
def Tryz.Gk:Go.Shelf.Ren:=⟨fun | 145=>30 | 220=>57 | 219=>80 | 217=>107 | 225=>108 | 224=>109 | 267=>110 | 266=>131 | 314=>132 | n=>n,fun | 9=>9 | 4=>4 | 59=>64 | 3=>3 | 5=>5 | 46=>92 | 146=>147 | 51=>116 | n=>n,fun | 1=>1 | n=>n⟩
theorem Tryz.Qs:Go.Proofs.LaysM.n145 Tryz.prog Tryz.Gk:={
 mixed:=by kernel_rfl
 f145:=Tryz.func30.trans (congrArg some (by kernel_rfl))
 f217:=Tryz.func107.trans (congrArg some (by kernel_rfl))
 f219:=Tryz.func80.trans (congrArg some (by kernel_rfl))
 f220:=Tryz.func57.trans (congrArg some (by kernel_rfl))
 f224:=Tryz.func109.trans (congrArg some (by kernel_rfl))
 f225:=Tryz.func108.trans (congrArg some (by kernel_rfl))
 f266:=Tryz.func131.trans (congrArg some (by kernel_rfl))
 f267:=Tryz.func110.trans (congrArg some (by kernel_rfl))
 f314:=Tryz.func132.trans (congrArg some (by kernel_rfl))
 t3:=Tryz.underlying3
 a3:=Tryz.isAgg3
 z3:=Tryz.sizeOf3
 v3:=Tryz.zeroValue3
 t4:=Tryz.underlying4
 a4:=Tryz.isAgg4
 z4:=Tryz.sizeOf4
 v4:=Tryz.zeroValue4
 t5:=Tryz.underlying5
 a5:=Tryz.isAgg5
 z5:=Tryz.sizeOf5
 v5:=Tryz.zeroValue5
 t9:=Tryz.underlying9
 a9:=Tryz.isAgg9
 z9:=Tryz.sizeOf9
 v9:=Tryz.zeroValue9
 t46:=Tryz.underlying92
 a46:=Tryz.isAgg92
 z46:=Tryz.sizeOf92
 v46:=Tryz.zeroValue92
 t51:=Tryz.underlying116
 a51:=Tryz.isAgg116
 z51:=Tryz.sizeOf116
 v51:=Tryz.zeroValue116
 t59:=Tryz.underlying64
 a59:=Tryz.isAgg64
 z59:=Tryz.sizeOf64
 v59:=Tryz.zeroValue64
 t146:=Tryz.underlying147
 a146:=Tryz.isAgg147
 z146:=Tryz.sizeOf147
 v146:=Tryz.zeroValue147
 g1:=by kernel_rfl
 i3:=by kernel_rfl
 i4:=by kernel_rfl
 i5:=by kernel_rfl
 i9:=by kernel_rfl
 i46:=by kernel_rfl
 i51:=by kernel_rfl
 i59:=by kernel_rfl
 i146:=by kernel_rfl
 m1:=by kernel_rfl
 s1_3:=fun w h=>Go.Proofs.cell_of_shapedOpen_int (zero := #[.int .i64 0]) (t:=3) h (of_decide_eq_true (by kernel_rfl)) (by kernel_rfl) rfl (by kernel_rfl) (by kernel_rfl) Tryz.underlying3 }
def Tryz.Ik:Go.Shelf.Ren:=⟨fun | 190=>31 | 125=>59 | 258=>58 | 128=>90 | 129=>91 | 302=>81 | 303=>82 | 304=>83 | 305=>84 | 306=>85 | 307=>86 | 308=>87 | 309=>88 | 310=>89 | 333=>111 | 329=>112 | 330=>113 | 334=>114 | 335=>115 | 336=>116 | 344=>133 | n=>n,fun | 31=>22 | 9=>9 | 3=>3 | 46=>92 | 0=>0 | 51=>116 | 53=>118 | 4=>4 | 183=>108 | 182=>107 | 131=>113 | 5=>5 | 218=>132 | 222=>136 | 228=>149 | 229=>150 | n=>n,fun | n=>n⟩
theorem Tryz.Mx:Go.Proofs.Lays.n190 Tryz.prog Tryz.Ik:={
 mixed:=by kernel_rfl
 f125:=Tryz.func59.trans (congrArg some (by kernel_rfl))
 f128:=Tryz.func90.trans (congrArg some (by kernel_rfl))
 f129:=Tryz.func91.trans (congrArg some (by kernel_rfl))
 f190:=Tryz.func31.trans (congrArg some (by kernel_rfl))
 f258:=Tryz.func58.trans (congrArg some (by kernel_rfl))
 f302:=Tryz.func81.trans (congrArg some (by kernel_rfl))
 f303:=Tryz.func82.trans (congrArg some (by kernel_rfl))
 f304:=Tryz.func83.trans (congrArg some (by kernel_rfl))
 f305:=Tryz.func84.trans (congrArg some (by kernel_rfl))
 f306:=Tryz.func85.trans (congrArg some (by kernel_rfl))
 f307:=Tryz.func86.trans (congrArg some (by kernel_rfl))
 f308:=Tryz.func87.trans (congrArg some (by kernel_rfl))
 f309:=Tryz.func88.trans (congrArg some (by kernel_rfl))
 f310:=Tryz.func89.trans (congrArg some (by kernel_rfl))
 f329:=Tryz.func112.trans (congrArg some (by kernel_rfl))
 f330:=Tryz.func113.trans (congrArg some (by kernel_rfl))
 f333:=Tryz.func111.trans (congrArg some (by kernel_rfl))
 f334:=Tryz.func114.trans (congrArg some (by kernel_rfl))
 f335:=Tryz.func115.trans (congrArg some (by kernel_rfl))
 f336:=Tryz.func116.trans (congrArg some (by kernel_rfl))
 f344:=Tryz.func133.trans (congrArg some (by kernel_rfl))
 t0:=Tryz.underlying0
 a0:=Tryz.isAgg0
 z0:=Tryz.sizeOf0
 v0:=Tryz.zeroValue0
 t3:=Tryz.underlying3
 a3:=Tryz.isAgg3
 z3:=Tryz.sizeOf3
 v3:=Tryz.zeroValue3
 t4:=Tryz.underlying4
 a4:=Tryz.isAgg4
 z4:=Tryz.sizeOf4
 v4:=Tryz.zeroValue4
 t5:=Tryz.underlying5
 a5:=Tryz.isAgg5
 z5:=Tryz.sizeOf5
 v5:=Tryz.zeroValue5
 t9:=Tryz.underlying9
 a9:=Tryz.isAgg9
 z9:=Tryz.sizeOf9
 v9:=Tryz.zeroValue9
 t31:=Tryz.underlying22
 a31:=Tryz.isAgg22
 z31:=Tryz.sizeOf22
 v31:=Tryz.zeroValue22
 t46:=Tryz.underlying92
 a46:=Tryz.isAgg92
 z46:=Tryz.sizeOf92
 v46:=Tryz.zeroValue92
 t51:=Tryz.underlying116
 a51:=Tryz.isAgg116
 z51:=Tryz.sizeOf116
 v51:=Tryz.zeroValue116
 t53:=Tryz.underlying118
 a53:=Tryz.isAgg118
 z53:=Tryz.sizeOf118
 v53:=Tryz.zeroValue118
 t131:=Tryz.underlying113
 a131:=Tryz.isAgg113
 z131:=Tryz.sizeOf113
 v131:=Tryz.zeroValue113
 t182:=Tryz.underlying107
 a182:=Tryz.isAgg107
 z182:=Tryz.sizeOf107
 v182:=Tryz.zeroValue107
 t183:=Tryz.underlying108
 a183:=Tryz.isAgg108
 z183:=Tryz.sizeOf108
 v183:=Tryz.zeroValue108
 t218:=Tryz.underlying132
 a218:=Tryz.isAgg132
 z218:=Tryz.sizeOf132
 v218:=Tryz.zeroValue132
 t222:=Tryz.underlying136
 a222:=Tryz.isAgg136
 z222:=Tryz.sizeOf136
 v222:=Tryz.zeroValue136
 t228:=Tryz.underlying149
 a228:=Tryz.isAgg149
 z228:=Tryz.sizeOf149
 v228:=Tryz.zeroValue149
 t229:=Tryz.underlying150
 a229:=Tryz.isAgg150
 z229:=Tryz.sizeOf150
 v229:=Tryz.zeroValue150 }
open Go.Sort Go.RowKit in
theorem Tryz.slices_Sort_string (blk off cap:Nat) (ss:List (List UInt8)) (w:World) (hH:Holds encStr w blk off ss.toArray) (Qt:blk<w.heap.size) (hsz:ss.length<4611686018427387904) :
   Calls Tryz.prog 31 #[.slice (some ⟨blk,off,none⟩) ss.length cap] w fun e w' =>
     e = .returned (.tuple #[])/\∃ n os,w'=grow (putRow encStr (Sort.ahead w n) blk off (ss.mergeSort fun x y=>decide (x<=y)).toArray) os:=Any.slices_Sort_string Tryz.Mx blk off cap ss w hH Qt hsz
def Tryz.wb:Go.Shelf.Ren:=⟨fun | 105=>130 | 212=>153 | 99=>154 | 165=>155 | 166=>151 | 170=>156 | 169=>152 | 263=>174 | 264=>175 | 206=>176 | 240=>171 | 241=>177 | 276=>197 | 277=>202 | n=>n,fun | 9=>9 | 3=>3 | 4=>4 | 20=>20 | 0=>0 | 46=>92 | 109=>175 | 5=>5 | 72=>164 | 76=>172 | 51=>116 | 146=>147 | 53=>118 | 148=>189 | 70=>162 | 37=>31 | 75=>166 | 127=>187 | 164=>200 | 80=>174 | n=>n,fun | n=>n⟩
theorem Tryz.Cc:Go.Proofs.Lays.n105 Tryz.prog Tryz.wb:={
 mixed:=by kernel_rfl
 f99:=Tryz.func154.trans (congrArg some (by kernel_rfl))
 f105:=Tryz.func130.trans (congrArg some (by kernel_rfl))
 f165:=Tryz.func155.trans (congrArg some (by kernel_rfl))
 f166:=Tryz.func151.trans (congrArg some (by kernel_rfl))
 f169:=Tryz.func152.trans (congrArg some (by kernel_rfl))
 f170:=Tryz.func156.trans (congrArg some (by kernel_rfl))
 f206:=Tryz.func176.trans (congrArg some (by kernel_rfl))
 f212:=Tryz.func153.trans (congrArg some (by kernel_rfl))
 f240:=Tryz.func171.trans (congrArg some (by kernel_rfl))
 f241:=Tryz.func177.trans (congrArg some (by kernel_rfl))
 f263:=Tryz.func174.trans (congrArg some (by kernel_rfl))
 f264:=Tryz.func175.trans (congrArg some (by kernel_rfl))
 f276:=Tryz.func197.trans (congrArg some (by kernel_rfl))
 f277:=Tryz.func202.trans (congrArg some (by kernel_rfl))
 t0:=Tryz.underlying0
 a0:=Tryz.isAgg0
 z0:=Tryz.sizeOf0
 v0:=Tryz.zeroValue0
 t3:=Tryz.underlying3
 a3:=Tryz.isAgg3
 z3:=Tryz.sizeOf3
 v3:=Tryz.zeroValue3
 t4:=Tryz.underlying4
 a4:=Tryz.isAgg4
 z4:=Tryz.sizeOf4
 v4:=Tryz.zeroValue4
 t5:=Tryz.underlying5
 a5:=Tryz.isAgg5
 z5:=Tryz.sizeOf5
 v5:=Tryz.zeroValue5
 t9:=Tryz.underlying9
 a9:=Tryz.isAgg9
 z9:=Tryz.sizeOf9
 v9:=Tryz.zeroValue9
 t20:=Tryz.underlying20
 a20:=Tryz.isAgg20
 z20:=Tryz.sizeOf20
 v20:=Tryz.zeroValue20
 t37:=Tryz.underlying31
 a37:=Tryz.isAgg31
 z37:=Tryz.sizeOf31
 v37:=Tryz.zeroValue31
 t46:=Tryz.underlying92
 a46:=Tryz.isAgg92
 z46:=Tryz.sizeOf92
 v46:=Tryz.zeroValue92
 t51:=Tryz.underlying116
 a51:=Tryz.isAgg116
 z51:=Tryz.sizeOf116
 v51:=Tryz.zeroValue116
 t53:=Tryz.underlying118
 a53:=Tryz.isAgg118
 z53:=Tryz.sizeOf118
 v53:=Tryz.zeroValue118
 t70:=Tryz.underlying162
 a70:=Tryz.isAgg162
 z70:=Tryz.sizeOf162
 v70:=Tryz.zeroValue162
 t72:=Tryz.underlying164
 a72:=Tryz.isAgg164
 z72:=Tryz.sizeOf164
 v72:=Tryz.zeroValue164
 t75:=Tryz.underlying166
 a75:=Tryz.isAgg166
 z75:=Tryz.sizeOf166
 v75:=Tryz.zeroValue166
 t76:=Tryz.underlying172
 a76:=Tryz.isAgg172
 z76:=Tryz.sizeOf172
 v76:=Tryz.zeroValue172
 t109:=Tryz.underlying175
 a109:=Tryz.isAgg175
 z109:=Tryz.sizeOf175
 v109:=Tryz.zeroValue175
 t127:=Tryz.underlying187
 a127:=Tryz.isAgg187
 z127:=Tryz.sizeOf187
 v127:=Tryz.zeroValue187
 t146:=Tryz.underlying147
 a146:=Tryz.isAgg147
 z146:=Tryz.sizeOf147
 v146:=Tryz.zeroValue147
 t148:=Tryz.underlying189
 a148:=Tryz.isAgg189
 z148:=Tryz.sizeOf189
 v148:=Tryz.zeroValue189
 t164:=Tryz.underlying200
 a164:=Tryz.isAgg200
 z164:=Tryz.sizeOf200
 v164:=Tryz.zeroValue200 }
theorem Tryz.q7:Builder.Extra Tryz.prog Tryz.wb:={
 sizeBuilder:=by kernel_rfl
 liesBuilder:=by kernel_rfl
 t5:=Tryz.underlying5
 a5:=Tryz.isAgg5
 z5:=Tryz.sizeOf5
 v5:=Tryz.zeroValue5
 infoByte:=by kernel_rfl
 cellsByte:=by kernel_rfl
 sizeByte:=by kernel_rfl
 neB5:=by decide }
open Go.RowKit Go.Lib in
theorem Tryz.strings_Repeat_main (s:ByteArray) (c:Nat) (w:World) (Il:2<=c) (hc:c<=9223372036854775807) (hlen:s.size*c<=140737488355328) (h0:0<s.size) :
   Calls Tryz.prog 130 #[.string s, .int .i64 c] w fun e w'=>e = .returned (.string ⟨(Lib.repeatL s.data.toList c).toArray⟩)/\Below w.heap.size w w':=Any.strings_Repeat_main Tryz.Cc Tryz.q7 s c w Il hc hlen h0
open Go.RowKit Go.Lib in
theorem Tryz.strings_Repeat_zero (s:ByteArray) (w:World) :
   Calls Tryz.prog 130 #[.string s, .int .i64 0] w fun e w'=>e = .returned (.string ⟨#[]⟩)/\w'=w:=Any.strings_Repeat_zero Tryz.Cc s w
open Go.RowKit Go.Lib in
theorem Tryz.strings_Repeat_one (s:ByteArray) (w:World) :
   Calls Tryz.prog 130 #[.string s, .int .i64 1] w fun e w'=>e = .returned (.string s)/\w'=w:=Any.strings_Repeat_one Tryz.Cc s w
def Tryz.Im:Go.Shelf.Ren:=⟨fun | 194=>32 | n=>n,fun | 31=>22 | 9=>9 | 3=>3 | 4=>4 | 0=>0 | n=>n,fun | n=>n⟩
theorem Tryz.My:Go.Proofs.Lays.n194 Tryz.prog Tryz.Im:={
 mixed:=by kernel_rfl
 f194:=Tryz.func32.trans (congrArg some (by kernel_rfl))
 t0:=Tryz.underlying0
 a0:=Tryz.isAgg0
 z0:=Tryz.sizeOf0
 v0:=Tryz.zeroValue0
 t3:=Tryz.underlying3
 a3:=Tryz.isAgg3
 z3:=Tryz.sizeOf3
 v3:=Tryz.zeroValue3
 t4:=Tryz.underlying4
 a4:=Tryz.isAgg4
 z4:=Tryz.sizeOf4
 v4:=Tryz.zeroValue4
 t9:=Tryz.underlying9
 a9:=Tryz.isAgg9
 z9:=Tryz.sizeOf9
 v9:=Tryz.zeroValue9
 t31:=Tryz.underlying22
 a31:=Tryz.isAgg22
 z31:=Tryz.sizeOf22
 v31:=Tryz.zeroValue22 }
open Go.RowKit Go.Lib Go.Sort in
theorem Tryz.slices_Compact_string (blk off cap:Nat) (zs:List (List UInt8)) (w:World) (hH:Holds encStr w blk off zs.toArray) (hsz:zs.length<=9223372036854775807) (Cw:zs.length<=cap) :
   Calls Tryz.prog 32 #[.slice (some ⟨blk,off,none⟩) zs.length cap] w fun e w'=>e = .returned (.slice (some ⟨blk,off,none⟩) (Lib.compact zs).length cap)/\∃ q,w'=putRow encStr (Sort.ahead w q) blk off (Lib.compact zs++List.replicate (zs.length-(Lib.compact zs).length) []).toArray:=Any.slices_Compact_string Tryz.My blk off cap zs w hH hsz Cw
open Go.RowKit Go.Lib Go.Sort in
theorem Tryz.slices_Compact_string_empty (a:Option Addr) (cap:Nat) (w:World) :
   Calls Tryz.prog 32 #[.slice a 0 cap] w fun e w'=>e = .returned (.slice a 0 cap)/\w'=w:=Any.slices_Compact_string_empty Tryz.My a cap w
open Go.RowKit Go.Sort in
theorem Tryz.slices_Sort_string_none (p:Option Addr) (cap:Nat) (w:World) :
   Calls Tryz.prog 31 #[.slice p 0 cap] w fun e w'=>e = .returned (.tuple #[])/\w'=w:=Any.slices_Sort_string_none Tryz.Mx p cap w
end Go.Proofs
end

section
namespace Go.Proofs
open Go.RowKit Go.Shelf Go.Sort Go.Lib
def Tryz.xy (w:World):Prop:=∀ i,i<20->w.cell? ⟨2,i,none⟩=some (.int .u64 ((10 ^ i:Nat):Int))
set_option maxHeartbeats 2000000 in
set_option maxRecDepth 100000 in
theorem Tryz.Io (u:Nat) (h1:1<=u) (h2:u<18446744073709551616) (w:World) (hc:Tryz.xy w) :
   Calls Tryz.prog 199 #[.int .u64 u] w fun e w'=>e = .returned (.int .i64 (Lib.nDigits u))/\w'=w:=by
 obtain ⟨Aw,h19⟩:=Lib.numDigits_eq u h1 h2
 have hL:Lib.bitLen u<=64:=Lib.bitLen_le u 64 (Nat.le_refl _) h2
 have hcell:=hc (Lib.l10 (Lib.bitLen u)) (by omega)
 have hto:((u:Int)).toNat=u:=by omega
 generalize hq:Lib.l10 (Lib.bitLen u)=q at Aw h19 hcell
 generalize hT:10 ^ q=T at Aw hcell
 have h20:q<20:=by omega
 have Hnd:=Lib.hid Aw
 clear Aw hc
 go_enter Tryz.func199,Tryz.ntmps199
 go_wp2_with (first
   | (go_at_call 91;refine (Tryz.bits_Len64 _ _ (by omega) (by omega)).mono ?_;rintro e w' ⟨rfl,rfl⟩)
   | (go_at_call 209;refine (Tryz.internal_strconv_log10Pow2 _ (by first | exact hL | (rw [hto];exact hL)) _).mono ?_;rintro e w' ⟨rfl,rfl⟩)
   | (go_at_call 210;refine (Tryz.internal_strconv_bool2_int _ _).mono ?_;rintro e w' ⟨rfl,rfl⟩))
 all_goals go_ret
 all_goals (
   refine ⟨?_,rfl⟩
   have Aw:=Hnd.out
   congr 2
   split at Aw<;>simp_all<;>omega)
theorem Tryz.xy.alloc {w:World} (h:Tryz.xy w) (o:Obj):Tryz.xy (w.alloc o):=fun i hi=>by
 have h1:=h i hi
 have hb:2<w.heap.size:=World.block_lt_of_cell? _ _ h1
 exact (World.cell?_of_block (a:=⟨2,i,none⟩) (Below.heap_alloc w o 2 hb)).trans h1
theorem Lib.Qu (w:World) (o:Obj) (dk:Array UInt8) (k:Nat):∃ os,(putRow (fun (b:UInt8)=>Value.int .u8 (b.toNat:Int)) (w.alloc o) w.heap.size 0 dk).drewN k=grow (w.drewN k) os:=by
 rw [alloc_eq_grow]
 obtain ⟨os',_,e⟩:=putRow_grow_new (fun (b:UInt8)=>Value.int .u8 (b.toNat:Int)) w #[o] w.heap.size 0 dk (Nat.le_refl _)
 exact ⟨os',by rw [e];rfl⟩
set_option maxHeartbeats 4000000 in
set_option maxRecDepth 100000 in
theorem Tryz.Gl (u:Nat) (Kl:u<18446744073709551616) (w:World) (hc:Tryz.xy w) :
   Calls Tryz.prog 173 #[.int .u64 u, .int .i64 10] w fun e w'=>e = .returned (.string ⟨(Lib.decDigits u).toArray⟩)/\Below w.heap.size w w':=by
 by_cases hs:u<100
 . go_enter Tryz.func173,Tryz.ntmps173
   go_wp2_with (go_at_call 198;refine (Tryz.internal_strconv_small u hs _).mono ?_;rintro e w' ⟨rfl,rfl⟩)
   go_ret
   exact ⟨rfl,Below.refl _ _⟩
 . have V4:1<=u:=by omega
   have afe:Lib.nDigits u<=20:=by have:=Lib.numDigits_eq u V4 Kl;split at this<;>omega
   have Gg:Tryz.prog.arrayLen 203=24:=by kernel_rfl
   have Cy:∀ W,(Instr.sliceAt 203 (.pointer (some ⟨w.heap.size,0,none⟩)) none (some (.int .i64 (Lib.nDigits u:Int))) none).run Tryz.prog W = .ok (.slice (some ⟨w.heap.size,0,none⟩) (Lib.nDigits u) 24) W:=fun W=>by
     rw [run_sliceAt_array_h W 203 ⟨w.heap.size,0,none⟩ (by kernel_rfl) .i64 (Lib.nDigits u:Int) (by omega) (by rw [Gg];omega)]
     go_simp
   have hH0:=Lib.holds_zero0 w 203 (Lib.nDigits u) (by omega)
   have ZU:=Tryz.internal_strconv_formatBase10 w.heap.size 0 24 u (Array.replicate (Lib.nDigits u) 0) (w.alloc (.cells Lib.zeros24 203)) hH0 (by rw [Array.size_replicate];exact Lib.lt_pow_nDigits u) Kl (by rw [Array.size_replicate];omega)
   rw [Array.size_replicate] at ZU
   have HH0:=Lib.hid hH0
   have Il:=hc.alloc (.cells Lib.zeros24 203)
   clear hH0 Gg
   go_enter Tryz.func173,Tryz.ntmps173
   go_wp2_with (first
     | (go_at_call 199;refine (Tryz.Io u V4 Kl _ Il).mono ?_;rintro e w' ⟨rfl,rfl⟩))
   refine ZU.mono ?_
   rintro e w' ⟨rfl,k,v',dk,rfl,hF⟩
   have hcv:(convert 31 9 (.slice (some ⟨w.heap.size,0,none⟩) (Lib.nDigits u) 24)).run Tryz.prog ((putRow (fun (b:UInt8)=>Value.int .u8 (b.toNat:Int)) (w.alloc (.cells Lib.zeros24 203)) w.heap.size 0 dk).drewN k) = .ok (.string ⟨(Lib.decDigits u).toArray⟩) ((putRow (fun (b:UInt8)=>Value.int .u8 (b.toNat:Int)) (w.alloc (.cells Lib.zeros24 203)) w.heap.size 0 dk).drewN k):=by
     have h:=run_convert_bytes_back (P:=Tryz.prog) ((putRow (fun (b:UInt8)=>Value.int .u8 (b.toNat:Int)) (w.alloc (.cells Lib.zeros24 203)) w.heap.size 0 dk).drewN k) 31 9 5 ⟨w.heap.size,0,none⟩ 24 (Lib.decDigits u) Tryz.underlying31 Tryz.underlying5 Tryz.underlying9 (fun j hj=>by
       rw [Lib.row_is_numeral hF j hj,Lib.add_plain,World.cell?_drewN]
       exact cell?_putRow (fun (b:UInt8)=>Value.int .u8 (b.toNat:Int)) _ w.heap.size 0 _ dk HH0.out (by rw [hF.size,Array.size_replicate]) j (by rw [hF.size];rw [Lib.decDigits_length] at hj;exact hj))
     rw [Lib.decDigits_length] at h
     exact h
   go_wp2
   go_ret
   obtain ⟨os,eo⟩:=Lib.Qu w (.cells Lib.zeros24 203) dk k
   refine ⟨rfl, ?_⟩
   rw [eo]
   exact Lib.below_grow _ w (Nat.le_refl _) k os
set_option maxRecDepth 100000 in
theorem Tryz.C8 (u:Nat) (Kl:u<18446744073709551616) (w:World) (hc:Tryz.xy w) :
   Calls Tryz.prog 150 #[.int .u64 u, .int .i64 10] w fun e w'=>e = .returned (.string ⟨(Lib.decDigits u).toArray⟩)/\Below w.heap.size w w':=by
 go_enter Tryz.func150,Tryz.ntmps150
 go_wp2_with (go_at_call 173;refine (Tryz.Gl u Kl _ hc).mono ?_;rintro e w' ⟨rfl,hB⟩)
 go_ret
 exact ⟨rfl,hB⟩
end Go.Proofs
end

section
namespace Go.Proofs
open Go.RowKit Go.Shelf
attribute [local go_sem] Oper.semAt_some
def Tryz.upto {α : Type} (f:Nat -> α) (k:Nat):List α := (List.range k).map f
theorem Tryz.pN {α : Type} (f:Nat -> α) (k:Nat):Tryz.upto f (k+1)=Tryz.upto f k++[f k]:=by simp [Tryz.upto,List.range_succ]
theorem Tryz.Bq {α : Type} (f:Nat -> α) (k:Nat):(Tryz.upto f k).length=k:=by simp [Tryz.upto]
def Tryz.bw (zs:List Int) (k:Nat):Int × Int:=((zs.length:Int)-1-k,zs[zs.length-1-k]?.getD 0)
def Tryz.BK (n₀ Bs:Nat) (A B:World):Prop:=Below n₀ A B/\B.cell? ⟨Bs,0,none⟩=A.cell? ⟨Bs,0,none⟩
theorem Tryz.BK.refl (n₀ Bs:Nat) (A:World):Tryz.BK n₀ Bs A A:=⟨Below.refl _ _,rfl⟩
theorem Tryz.BK.trans {n₀ Bs:Nat} {A B C:World} (h:Tryz.BK n₀ Bs A B) (k:Tryz.BK n₀ Bs B C):Tryz.BK n₀ Bs A C:=⟨h.1.trans k.1,k.2.trans h.2⟩
set_option maxRecDepth 100000 in
set_option maxHeartbeats 2000000 in
theorem Tryz.W9 (F:Fence) (n:Nat) (h8:F.fn 172) (Ip:F.round=none) (hn:1<=n) (l Bs n₀ b off cap:Nat) (zs:List Int) (x4:zs.length*8<=140737488351232) (hb:b<n₀) (J Jx:List (Int × Int)->World->Prop)
   (hY:∀ pre x W,J pre W->pre.length<zs.length->YieldAt F (n-1) Tryz.prog l #[.int .i64 x.1, .int .u32 x.2] W fun e W' =>
     (e = .returned (.bool true)/\J (pre++[x]) W'/\Tryz.BK n₀ Bs W W')∨(e = .returned (.bool false)/\Jx (pre++[x]) W'))
   (W:World) (Xa:W.cell? ⟨Bs,0,none⟩=some (.slice (some ⟨b,off,none⟩) zs.length cap)) (hc:∀ j,j<zs.length->W.cell? ⟨b,off+j,none⟩=some (.int .u32 (zs[j]?.getD 0))) (h0:J [] W) :
   CallsIn F n Tryz.prog 172 #[.func (.yield l) #[] #[], .pointer (some ⟨Bs,0,none⟩)] W fun e W'=>(∃ v,e = .returned v) /\
     ((∃ ys,ys=Tryz.upto (Tryz.bw zs) zs.length/\J ys W')∨(∃ pre,(∃ k,k<=zs.length/\pre=Tryz.upto (Tryz.bw zs) k)/\Jx pre W')):=by
 refine callsIn_of_wp Tryz.func172 rfl h8 ?_ Ip
 simp only [Tryz.ntmps172,List.size_toArray,List.length_cons,List.length_nil,Nat.reduceAdd,Nat.reduceSub,Array.replicate_succ,Array.replicate_zero,List.push_toArray,List.append_toArray,List.nil_append,List.cons_append]
 gi_wp2
 gi_loopw [3] (fun i wr=>∃ k:Nat,k<=zs.length/\i = .int .i64 ((zs.length:Int)-1-k)/\J (Tryz.upto (Tryz.bw zs) k) wr/\Tryz.BK n₀ Bs W wr)
   (fun i _=>(intOf i+1).toNat)
 case atStart=>exact ⟨0,Nat.zero_le _,by simp,h0,Tryz.BK.refl _ _ _⟩
 case round =>
   obtain ⟨k,hk,rfl,Xb,Xc⟩:=hrel
   have hBk:=Xc.2.trans Xa
   have Lq:∀ j,j<zs.length->wr.cell? ⟨b,off+j,none⟩=some (.int .u32 (zs[j]?.getD 0)):=fun j h=>(Xc.1.cell (p:=⟨b,off+j,none⟩) hb).trans (hc j h)
   by_cases hlt:k<zs.length
   . obtain ⟨q,hq⟩:∃ q,q=zs.length-1-k:=⟨_,rfl⟩
     have Ti:(zs.length:Int)-1-k=q:=by omega
     have V5:q<zs.length:=by omega
     have yj:Hid (Tryz.bw zs k=((q:Int),zs[q]?.getD 0)):=by show Tryz.bw zs k=_;rw [Tryz.bw, <- hq,Ti]
     have hqk:Hid (q+1+k=zs.length):=by show q+1+k=zs.length;omega
     clear hq
     have Xd:=Lq q V5
     generalize zs[q]?.getD 0=zq at yj Xd
     obtain ⟨fn,tmps,assign,body,hy,hR⟩:=hY _ ((q:Int),zq) wr Xb (by rw [Tryz.Bq];exact hlt)
     dsimp only at hy
     rw [Ti]
     clear Ti hY h0 hc Lq
     gi_wp2
     refine hR.mono ?_
     rintro e W3 (⟨rfl,hJ3,hk3⟩ | ⟨rfl,Xe⟩)
     . gi_wp2
       go_roundw
       case rel=>exact ⟨k+1,by omega,by have:=hqk.out;congr 1;omega,by rw [Tryz.pN,yj.out];exact hJ3,Xc.trans hk3⟩
       case measure=>simp [intOf]
     . gi_wp2
       refine bodyPost_ret (results_none rfl _ _ _) rfl ?_
       exact ⟨⟨_,rfl⟩, .inr ⟨_,⟨k+1,by omega,by rw [Tryz.pN,yj.out]⟩,Xe⟩⟩
   . obtain rfl:k=zs.length:=by omega
     have xg:(zs.length:Int)-1-zs.length = -1:=by omega
     rw [xg]
     gi_wp2
     go_end0
     exact ⟨⟨_,rfl⟩, .inl ⟨_,rfl,Xb⟩⟩
def Tryz.NQ (n₀:Nat) (W:World) (sv:Value) (zs:List Int):Prop :=
 (∃ a cap,sv = .slice a 0 cap/\zs=[])∨∃ b off cap,sv = .slice (some ⟨b,off,none⟩) zs.length cap/\b<n₀/\∀ j,j<zs.length->W.cell? ⟨b,off+j,none⟩=some (.int .u32 (zs[j]?.getD 0))
theorem Tryz.NQ.below {n₀:Nat} {A B:World} (h:Below n₀ A B) {sv:Value} {zs:List Int}:Tryz.NQ n₀ A sv zs->Tryz.NQ n₀ B sv zs
 | .inl e => .inl e
 | .inr ⟨b,off,cap,e,hb,hc⟩ => .inr ⟨b,off,cap,e,hb,fun j hj=>(h.cell (p:=⟨b,off+j,none⟩) hb).trans (hc j hj)⟩
set_option maxRecDepth 100000 in
set_option maxHeartbeats 1000000 in
theorem Tryz.Km (F:Fence) (n:Nat) (h8:F.fn 172) (Ip:F.round=none) (l Bs:Nat) (a:Option Addr) (cap:Nat) (J:List (Int × Int)->World->Prop) (W:World) (hBs:W.cell? ⟨Bs,0,none⟩=some (.slice a 0 cap)) (h0:J [] W) :
   CallsIn F n Tryz.prog 172 #[.func (.yield l) #[] #[], .pointer (some ⟨Bs,0,none⟩)] W fun e W'=>(∃ v,e = .returned v)/\J [] W':=by
 refine callsIn_of_wp Tryz.func172 rfl h8 ?_ Ip
 simp only [Tryz.ntmps172,List.size_toArray,List.length_cons,List.length_nil,Nat.reduceAdd,Nat.reduceSub,Array.replicate_succ,Array.replicate_zero,List.push_toArray,List.append_toArray,List.nil_append,List.cons_append]
 gi_wp2
 gi_loopw [3] (fun i wr=>i = .int .i64 (-1)/\J [] wr) (fun _ _=>0)
 case atStart=>exact ⟨rfl,h0⟩
 case round =>
   obtain ⟨rfl,Xb⟩:=hrel
   gi_wp2
   go_end0
   exact ⟨⟨_,rfl⟩,Xb⟩
set_option maxHeartbeats 1000000 in
theorem Tryz.Br (F:Fence) (n:Nat) (h5:F.fn 149) (Ip:F.round=none) (a:Option Addr) (len cap:Nat) (w:World) :
   CallsIn F n Tryz.prog 149 #[.slice a len cap] w fun e w'=>e = .returned (.func (.func 172) #[] #[.pointer (some ⟨w.heap.size,0,none⟩)])/\w'=w.alloc (.cells #[.slice a len cap] 57):=by
 refine callsIn_of_wp Tryz.func149 rfl h5 ?_ Ip
 simp only [Tryz.ntmps149,List.size_toArray,List.length_cons,List.length_nil,Nat.reduceAdd,Nat.reduceSub,Array.replicate_succ,Array.replicate_zero,List.push_toArray,List.append_toArray,List.nil_append,List.cons_append]
 gi_wp2
 go_ret
 exact ⟨rfl,rfl⟩
theorem Tryz.Qv (F:Fence) (n:Nat) (h8:F.fn 172) (Ip:F.round=none) (hn:1<=n) (Bs n₀:Nat) (sv:Value) (zs:List Int) (x4:zs.length*8<=140737488351232) (w:World) (hBs:Bs<w.heap.size) (V6:n₀<=w.heap.size)
   (hc:w.cell? ⟨Bs,0,none⟩=some sv) (hI:Tryz.NQ n₀ w sv zs) :
   SeqStopsK F n Tryz.prog 172 #[.pointer (some ⟨Bs,0,none⟩)] (fun x:Int × Int => #[Value.int .i64 x.1,Value.int .u32 x.2]) (Tryz.BK n₀ Bs) (fun ys=>ys=Tryz.upto (Tryz.bw zs) zs.length)
     (fun pre=>∃ k,k<=zs.length/\pre=Tryz.upto (Tryz.bw zs) k) zs.length w:=fun l J Jx W hW _ _ hY h0=>by
 have hc':=(hW.cell (p:=⟨Bs,0,none⟩) hBs).trans hc
 rcases hI.below (hW.mono V6) with ⟨a,cap,rfl,rfl⟩ | ⟨b,off,cap,rfl,hb,hcs⟩
 . exact (Tryz.Km F n h8 Ip l Bs a cap J W hc' h0).mono fun e W' ⟨he,hj⟩=>⟨he, .inl ⟨_,rfl,hj⟩⟩
 . exact Tryz.W9 F n h8 Ip hn l Bs n₀ b off cap zs x4 hb J Jx hY W hc' hcs h0
def Tryz.C9 (s v:Int):Int:=bits BinOp.or IntKind.u64 (IntKind.u64.wrap (s*4294967296)) (IntKind.u64.wrap v)
def Tryz.toU (l:List (Int × Int)):Int:=l.foldl (fun s x=>Tryz.C9 s x.2) 0
theorem Tryz.toU_snoc (pre:List (Int × Int)) (x:Int × Int):Tryz.toU (pre++[x])=Tryz.C9 (Tryz.toU pre) x.2:=by simp [Tryz.toU]
set_option maxRecDepth 100000 in
set_option maxHeartbeats 2000000 in
theorem Tryz.toUint_in (F:Fence) (n:Nat) (h3:F.fn 165) (h6:F.fn 149) (h8:F.fn 172) (Ip:F.round=none) (hn:3<=n) (a:Option Addr) (len cap:Nat) (zs:List Int) (x4:zs.length*8<=140737488351232) (w:World) (hI:Tryz.NQ w.heap.size w (.slice a len cap) zs) :
   CallsIn F n Tryz.prog 165 #[.slice a len cap] w fun e W'=>e = .returned (.int .u64 (Tryz.toU (Tryz.upto (Tryz.bw zs) zs.length)))/\Below w.heap.size w W':=by
 have h1:1<=n:=by omega
 refine callsIn_of_wp_marks Tryz.func165 rfl h3 ?_ Ip
 simp only [Tryz.ntmps165,List.size_toArray,List.length_cons,List.length_nil,Nat.reduceAdd,Nat.reduceSub,Array.replicate_succ,Array.replicate_zero,List.push_toArray,List.append_toArray,List.nil_append,List.cons_append]
 gi_wp2_with (gi_at_call 149;refine (Tryz.Br F (n-1) h6 Ip _ _ _ _).mono ?_;rintro e w' ⟨rfl,rfl⟩)
 have bS:=Boxed.new w 118 (.int .u64 0)
 have bN:=Boxed.new (w.alloc (.cells #[.int .u64 0] 118)) 57 (.slice a len cap)
 rw [World.size_alloc] at bN
 have ZV:Below w.heap.size w ((w.alloc (.cells #[.int .u64 0] 118)).alloc (.cells #[.slice a len cap] 57)):=((Below.refl _ w).alloc (Nat.le_refl _) _).alloc (by simp) _
 have ahw:((w.alloc (.cells #[.int .u64 0] 118)).alloc (.cells #[.slice a len cap] 57)).heap.size=w.heap.size+2:=by simp
 refine wpIn_rangeFunc_ownG Ip h1 (gf:=172) (lb := #[.pointer (some ⟨w.heap.size+1,0,none⟩)]) rfl h8 (enters_of Tryz.func172 (by kernel_rfl) rfl)
   (Tryz.Qv F (n-1) h8 Ip (by omega) (w.heap.size+1) w.heap.size _ zs x4 _ (by simp) (by simp;omega) bN.cell (hI.below ZV)) (fun h k=>h.trans k)
   (fun W l o o' hl h h2 h3=>⟨belowK_b (w:=w) (Nat.le_refl _) W l o o' (by omega) h h2 h3,(belowK_b (w:=(w.alloc (.cells #[.int .u64 0] 118)).alloc (.cells #[.slice a len cap] 57)) (Nat.le_refl _) W l o o' hl h h2 h3).cell (p:=⟨w.heap.size+1,0,none⟩) (by simp)⟩) (Below.refl _ _) (fun _=>rfl)
   (fun pre W=>(W.cell? ⟨w.heap.size,0,none⟩=some (.int .u64 (Tryz.toU pre))/\W.frozen? ⟨w.heap.size,0,none⟩=false)/\Below w.heap.size w W)
   (fun _ _ _=>False)
   (OwnFrom.and (Own.from (fun s A B row hs hg hr=>⟨cell_kept hs.1 hg hr,(frozen_kept hs.1 hg hr).trans hs.2⟩) _) (ownFrom_below (Nat.le_refl _) (by simp;omega)))
   (fun _ _ _ _ _ hs _ _=>hs)
   ⟨⟨(bS.alloc _).cell,(bS.alloc _).frozen⟩,ZV⟩
   (fun x=>{ tmps := #[.slice a len cap,undef, .int .u64 0, .pointer (some ⟨w.heap.size,0,none⟩),undef, .int .u32 x.2, .slice a len cap, .func (.func 172) #[] #[.pointer (some ⟨w.heap.size+1,0,none⟩)], .int .i64 x.1, .int .u32 x.2,undef,undef,undef,undef,undef,undef],defers:=[] }) ?assign ?body ?done ?stop
 case assign =>
   intro l x W K hK
   gi_wp2
   exact hK
 case body =>
   rintro l pre x W ⟨⟨hc,hf⟩,hB⟩ _
   gi_wp2
   exact ⟨(KeepsOthers.setCell _ _ _).from _,⟨(Below.refl w.heap.size W).setCell (p:=⟨w.heap.size,0,none⟩) (Nat.le_refl _) _,World.cell?_of_block (a:=⟨w.heap.size+1,0,none⟩) (Below.heap_setCell _ _ _ _ (by simp))⟩,
     ⟨by rw [Tryz.toU_snoc];exact World.cell?_setCell_same' _ _ _ (by rw [hc];rfl),by rw [World.frozen?_setCell];exact hf⟩,hB.setCell (p:=⟨w.heap.size,0,none⟩) (Nat.le_refl _) _⟩
 case done =>
   rintro D ys W hD rfl ⟨⟨hc,_⟩,hB⟩ hK
   gi_wp2
   refine ⟨by simp, .inl ⟨_,_,rfl,run_takeDeferred hK, ?_⟩⟩
   exact ⟨_,results_tmp rfl _ _ _,rfl,hB.trans (belowK_b (w:=w) (Nat.le_refl _) W D _ _ (by simp at hD;omega) hK rfl rfl)⟩
 case stop =>
   rintro D c pre W _ _ h _
   exact h.elim
end Go.Proofs
end

section
namespace Go.VL
section
variable {P:Program} {G:Nat->Option (List AV)} {own:Nat->Prop} {E:Env} {w:World} {σ : aa}
theorem View.fn {σ : aa} {f:Fn} {a c a' c':List AV} (ha:aW σ a a') (hc:aW σ c c'):View σ (.fn f a c) (.fn f a' c'):=fun G own E w v hi hr=>by
 simp only [aL] at hr ⊢
 obtain ⟨xs,ys,e,h1,h2⟩:=hr
 exact ⟨xs,ys,e,ha.rB hi h1,hc.rB hi h2⟩
theorem View.ref {σ : aa} {id:Id} {bk:dC} {e o:Nat} {el:AV} {cs:List AV} (hσ : σ id=some bk) (he:bk.els[e]? = some el) (h:aW σ el.cells cs):View σ (.ref id e o) (.ep cs o):=fun G own E w v hi hr=>by
 obtain ⟨g,N,cur,ty,hB⟩:=hi.blk id bk hσ
 simp only [aL] at hr ⊢
 obtain ⟨g',k',N',hm,rfl⟩:=hr
 rw [hB.μ] at hm
 simp only [Option.some.injEq,Prod.mk.injEq] at hm
 obtain ⟨rfl,rfl,rfl⟩:=hm
 refine ⟨g,e*bk.k,rfl, .inr ⟨id,bk,bk.k,N,hσ,hB.μ⟩, ?_⟩
 refine gA.2 (h.Bi hi ?_)
 have hlt:=(List.getElem?_eq_some_iff.1 he).1
 have:=pM (l:=e) (r:=e+1) hB.k hB.row (by omega) (by omega)
 rw [Nat.zero_add] at this
 have e2:(bk.els.take (e+1)).drop e=[el]:=by
   rw [List.drop_take,show e+1-e=1 from by omega,List.drop_eq_getElem_cons hlt]
   obtain ⟨_,Vz⟩:=List.getElem?_eq_some_iff.1 he
   simp [Vz]
 rw [e2] at this
 simpa [flat] using this
def kR (F:List (Id × dC)) (c d:AV):Prop:=∀ G own E w v,Inv G own E w (aa.of F)->aL E w c v->aL ⟨E.μ,(E.froze (aa.of F)).ok⟩ w d v
def eW (F:List (Id × dC)):List AV->List AV->Prop
 | [],[]=>True
 | c::cs,d::ds=>kR F c d/\eW F cs ds
 | _,_=>False
theorem kR.same (F:List (Id × dC)) (c:AV):kR F c c:=fun _ _ E w v _ hr =>
 aL.keep (⟨fun _ _ h=>h,fun _ h => .inl h,fun _ _=>rfl⟩:Step E ⟨E.μ,(E.froze (aa.of F)).ok⟩ w w) _ v hr
theorem kR.top (F:List (Id × dC)) (c:AV):kR F c .top:=fun _ _ _ _ _ _ _=>by simp [aL]
theorem kR.view {F:List (Id × dC)} {c d:AV} (h:View (aa.of F) c d):kR F c d:=fun _ _ E w v hi hr =>
 aL.keep (⟨fun _ _ h=>by simp [Env.froze] at h,fun _ h=>h,fun _ _=>rfl⟩:Step (E.froze (aa.of F)) ⟨E.μ,(E.froze (aa.of F)).ok⟩ w w) _ v (h _ _ _ _ _ hi hr)
theorem eW.same (F:List (Id × dC)):∀ cs:List AV,eW F cs cs
 | []=>trivial
 | c::cs=>⟨kR.same F c,eW.same F cs⟩
theorem eW.rB {F:List (Id × dC)} (hi:Inv G own E w (aa.of F)):∀ {cs ds:List AV} {vs:List Value},eW F cs ds->aM E w cs vs->aM ⟨E.μ,(E.froze (aa.of F)).ok⟩ w ds vs
 | [],[],_,_,h=>by simpa [aM] using h
 | c::cs,d::ds,vs,hf,h=>by
   simp only [eW] at hf
   simp only [aM] at h ⊢
   obtain ⟨v,rest,e,h1,h2⟩:=h
   exact ⟨v,rest,e,hf.1 _ _ _ _ _ hi h1,eW.rB hi hf.2 h2⟩
 | [],_::_,_,h,_=>by simp [eW] at h
 | _::_,[],_,h,_=>by simp [eW] at h
theorem eW.get {F:List (Id × dC)}:∀ {cs ds:List AV},eW F cs ds->∀ (j:Nat) (d:AV),ds[j]? = some d->∃ c,cs[j]? = some c/\kR F c d
 | [],[],_,j,d,h=>by simp at h
 | c::cs,d::ds,hf,0,d',h=>by simp at h;subst h;exact ⟨c,rfl,hf.1⟩
 | c::cs,d::ds,hf,j+1,d',h=>by simpa using eW.get hf.2 j d' (by simpa using h)
 | [],_::_,h,_,_,_=>by simp [eW] at h
 | _::_,[],h,_,_,_=>by simp [eW] at h
theorem eW.len {F:List (Id × dC)}:∀ {cs ds:List AV},eW F cs ds->cs.length=ds.length
 | [],[],_=>rfl
 | _::cs,_::ds,h=>by simp [eW.len h.2]
 | [],_::_,h=>by simp [eW] at h
 | _::_,[],h=>by simp [eW] at h
theorem kR.agg {F:List (Id × dC)} {cs ds:List AV} (h:eW F cs ds):kR F (.agg cs) (.agg ds):=fun _ _ E w v hi hr=>by
 simp only [aL] at hr ⊢;obtain ⟨xs,e,hr⟩:=hr;exact ⟨xs,e,h.rB hi hr⟩
theorem kR.tup {F:List (Id × dC)} {cs ds:List AV} (h:eW F cs ds):kR F (.tup cs) (.tup ds):=fun _ _ E w v hi hr=>by
 simp only [aL] at hr ⊢;obtain ⟨xs,e,hr⟩:=hr;exact ⟨xs,e,h.rB hi hr⟩
structure Xf (F:List (Id × dC)) (i:Id) (bk BM:dC):Prop where
 k:BM.k=bk.k
 fr:BM.fr=bk.fr∨(BM.fr=true/\(i,bk)∈F)
 no:BM.fr=false->∀ x∈F,x.1≠i
 len:BM.els.length=bk.els.length
 sz:∀ e∈BM.els,e.size=bk.k
 els:eW F (flat bk.els) (flat BM.els)
theorem we {p:Id} {σ σ':aa} (F:List (Id × dC)) (hF:∀ x∈F, σ x.1=some x.2) (hs:∀ i, σ' i=none∨∃ bk BM, σ i=some bk /\ σ' i=some BM/\Xf F i bk BM) (hi:Inv G own E w σ) :
   kC own p E ⟨E.μ,(E.froze (aa.of F)).ok⟩ w w/\Inv G own ⟨E.μ,(E.froze (aa.of F)).ok⟩ w σ':=by
 have hiF:Inv G own E w (aa.of F):=hi.sub (aa.vG hF)
 have gr:Adv own E ⟨E.μ,(E.froze (aa.of F)).ok⟩ w w:=by
   refine ⟨⟨fun _ _ h=>h,fun b hb => .inl hb,fun b hb=>rfl⟩,rfl,rfl,rfl,Nat.le_refl _,fun k hk _=>rfl,fun b hb => ?_⟩
   rcases hb with h1 | ⟨id,bk,k,N,hs,hm⟩
   . exact .inl h1
   . obtain ⟨g,N',cur,ty,hB⟩:=hi.blk id bk (hF _ (gn hs))
     rw [hB.μ] at hm
     simp only [Option.some.injEq,Prod.mk.injEq] at hm
     rw [<- hm.1];exact .inr hB.own
 refine ⟨⟨gr,fun _ _=>rfl⟩,(hi.froze hF).okb,fun id BM VD => ?_,fun i j x y jc hj' hne hx hy => ?_,fun g cs hg => ?_,hi.new⟩
 . rcases hs id with h | ⟨bk,bk2,h1,h2,hR⟩
   . rw [h] at VD;simp at VD
   . rw [h2] at VD
     simp only [Option.some.injEq] at VD;subst VD
     obtain ⟨g,N,cur,ty,hB⟩:=hi.blk id bk h1
     refine ⟨g,N,cur,ty,by rw [hR.k];exact hB.μ,hB.heap,by rw [hR.k];exact hB.size,by rw [hR.len];exact hB.len,hB.most,hB.own,fun hf => ?_,fun hf mo => ?_,by rw [hR.k];exact hR.sz, ?_⟩
     . rcases hR.fr with h | ⟨_,h⟩
       . exact .inl (hB.ok (h▸hf))
       . exact .inr ⟨id,bk,bk.k,N,Ax hF h,hB.μ⟩
     . have hbf:bk.fr=false:=by
         rcases hR.fr with h | ⟨h,_⟩
         . rw [<- h];exact hf
         . rw [hf] at h;simp at h
       rcases mo with h | ⟨VE,bk2,k2,N2,z6,tp⟩
       . exact hB.no hbf h
       . have hm:=gn z6
         exact hi.inj id VE _ _ (by simp [h1]) (by simp [hF _ hm]) (fun e=>hR.no hf _ hm e.symm) hB.μ tp rfl
     . intro j d hd
       obtain ⟨c,hc,hv⟩:=hR.els.get j d hd
       obtain ⟨v,px,tr⟩:=hB.row j c hc
       exact ⟨v,px,hv _ _ _ _ _ hiF tr⟩
 . have keep:∀ i, σ' i≠none -> σ i≠none:=by
     intro i hn he
     rcases hs i with h | ⟨bk,bk2,h1,_⟩
     . exact hn h
     . rw [he] at h1;simp at h1
   exact hi.inj i j x y (keep i jc) (keep j hj') hne hx hy
 . obtain ⟨h1,h2⟩:=hi.glob g cs hg
   exact ⟨.inl h1,cm.keep gr.step.bare rfl cs 0 h2⟩
theorem Wk.rC {π : Id} {t t':List AV} {σ σ':aa} {n n':Nat} (F:List (Id × dC)) (hF:∀ x∈F, σ x.1=some x.2) (ht:eW F t t')
   (hs:∀ i, σ' i=none∨∃ bk BM, σ i=some bk /\ σ' i=some BM/\Xf F i bk BM) (hn:n<=n'):Wk G π ⟨t, σ,n⟩ ⟨t', σ',n'⟩:=fun own E w a hm=>by
 obtain ⟨h1,h2⟩:=we (p := π) F hF hs hm.inv
 exact ⟨_,h1,ht.rB (hm.inv.sub (aa.vG hF)) hm.frame,h2,hm.free.mono hn,hm.defers⟩
theorem Fin.rC {p:Id} {S:List (Id × dC)} {σ':aa} {r0:AV} {r:dN} (F:List (Id × dC)) (hF:∀ x∈F, σ' x.1=some x.2) (hv:kR F r0 r.val)
   (hs:∀ i,(aa.of S).app r.up i=none∨∃ bk BM, σ' i=some bk/\(aa.of S).app r.up i=some BM/\Xf F i bk BM):Fin G p S σ' r0 r :=
 fun own E w v hi hr _=>by
   obtain ⟨h1,h2⟩:=we (p:=p) F hF hs hi
   exact ⟨_,h1,h2,hv _ _ _ _ _ (hi.sub (aa.vG hF)) hr⟩
end
end Go.VL
end

section
namespace Go.VL
section
variable {P:Program} {G:Nat->Option (List AV)}
theorem tF {σ : aa}:∀ (a b:List (Id × Option dC)), σ.app (a++b)=(σ.app a).app b:=by
 intro a
 induction a generalizing σ with
 | nil=>intro b;rfl
 | cons x a ih=>intro b;simp only [List.cons_append,aa.app];exact ih b
theorem aB.T9 {f:FuncId} {args gv:List AV} {p:Id} {S:List (Id × dC)} {r:dN} (F:List (Id × dC)) (h:aB P G f gv p S r) (hv:eW F args gv)
   (hd:∀ x∈S,∀ y∈F,y.1≠x.1) (hk:∀ x∈F,∀ e∈x.2.els,e.size=x.2.k):aB P G f args p (F++S) { val:=r.val,rd:=F.map (·.1)++r.rd,up:=rC F++r.up }:=by
 refine ⟨h.1,fun own E w σ vs hS hi hr hμ => ?_⟩
 have hF:∀ x∈F, σ x.1=some x.2:=fun x hx=>hS x (List.mem_append_left _ hx)
 have hS2:∀ x∈S, σ x.1=some x.2:=fun x hx=>hS x (List.mem_append_right _ hx)
 have Ej:=fun i=>Ca (σ := σ) i F σ hF
 obtain ⟨ha,Ua⟩:=we (p:=p) (σ' := σ.app (rC F)) F hF (fun i=>by
   rw [Ej i]
   split
   . rename_i vA
     obtain ⟨x,hx,rfl⟩:=vA
     rw [hF x hx]
     exact .inr ⟨x.2,x.2.fz,rfl,rfl,rfl, .inr ⟨rfl,hx⟩,fun h=>by simp [dC.fz] at h,rfl,hk x hx,eW.same F _⟩
   . rename_i P2
     cases hb : σ i with
     | none=>exact .inl rfl
     | some bk =>
       obtain ⟨g,N,cur,ty,hB⟩:=hi.blk i bk hb
       exact .inr ⟨bk,bk,rfl,rfl,rfl, .inl rfl,fun _ x hx e=>P2 ⟨x,hx,e⟩,rfl,hB.k,eW.same F _⟩) hi
 have hr1:=hv.rB (hi.sub (aa.vG hF)) hr
 refine (h.2 own _ w (σ.app (rC F)) vs (fun x hx => ?_) Ua hr1 hμ).mono fun e w' he => ?_
 . rw [Ej x.1,if_neg]
   . exact hS2 x hx
   . rintro ⟨y,hy,e⟩;exact hd x hx y hy e
 . obtain ⟨v,E',rfl,hp⟩:=he
   exact ⟨v,E',rfl,ha.toAdv.trans hp.Cr,by rw [tF];exact hp.inv,hp.rep,hp.ids⟩
end
theorem eX {σ : aa} {k:Nat} {es:List AV}:dA σ k (.sl k es)=some (es,[]):=by simp [dA]
theorem jH {σ : aa} {k:Nat} {id:Id} {off len:Nat} {t:Bool} {bk:dC} (h : σ id=some bk) (hk:bk.k=k) (hl:off+len<=bk.els.length):dA σ k (.osl id k off len t)=some ((bk.els.drop off).take len,[id]):=by
 simp [dA,h,hk,hl]
theorem lN {σ : aa} {p id:Id} {k bytes len:Nat} {x:AV} {els ys:List AV} {rd:List Id} (hx:dA σ k x=some (ys,rd)) (hy:ys≠[]) (h : σ id=some ⟨els,k,false⟩) (hl:len=els.length)
   (hb:(len+ys.length)*bytes<=140737488355328) (hm:len+ys.length<=maxLen) (h1:(ys.all fun e=>e.cells.all AV.one)=true) (h2:(els.all fun e=>e.cells.all AV.one)=true) :
   b6 σ p k bytes (.osl id k 0 len false) x=some { val := .osl p k 0 (len+ys.length) false,rd:=id::rd,up:=[(id,none),(p,some ⟨els++ys,k,false⟩)] }:=by
 have hne:ys.isEmpty=false:=by cases ys<;>simp at hy ⊢
 unfold b6
 rw [hx]
 simp only [hne,h,h1,h2,hl,Bool.false_eq_true,if_false]
 rw [if_pos ⟨trivial,trivial,trivial,Nat.le_refl _,by rw [<- hl];exact hb,by rw [<- hl];exact hm,trivial⟩]
 simp
theorem uh {σ : aa} {p:Id} {k bytes:Nat} {x:AV} {ys:List AV} {rd:List Id} (hx:dA σ k x=some (ys,rd)) (hy:ys≠[]) (hb:ys.length*bytes<=140737488355328) (hm:ys.length<=maxLen) (h1:(ys.all fun e=>e.cells.all AV.one)=true) :
   b6 σ p k bytes .nils x=some { val := .osl p k 0 ys.length false,rd,up:=[(p,some ⟨ys,k,false⟩)] }:=by
 have hne:ys.isEmpty=false:=by cases ys<;>simp at hy ⊢
 unfold b6
 rw [hx]
 simp only [hne,h1,Bool.false_eq_true,if_false]
 rw [if_pos ⟨hb,hm,trivial⟩]
theorem gS {σ : aa} {p:Id} {k bytes:Nat} {x:AV} {es ys:List AV} {rd:List Id} (hx:dA σ k x=some (ys,rd)) (hy:ys≠[]) (hb:(es.length+ys.length)*bytes<=140737488355328) (hm:es.length+ys.length<=maxLen) (h1:((es++ys).all fun e=>e.cells.all AV.one)=true) :
   b6 σ p k bytes (.tsl k es) x=some { val := .osl p k 0 (es.length+ys.length) false,rd,up:=[(p,some ⟨es++ys,k,false⟩)] }:=by
 have hne:ys.isEmpty=false:=by cases ys<;>simp at hy ⊢
 unfold b6
 rw [hx]
 simp only [hne,h1,Bool.false_eq_true,if_false]
 rw [if_pos ⟨trivial,hb,hm,trivial⟩]
theorem lO {σ : aa} {p id:Id} {k bytes off len:Nat} {t:Bool} {x:AV} {rd:List Id} (hx:dA σ k x=some ([],rd)):b6 σ p k bytes (.osl id k off len t) x=some { val := .osl id k off len t,rd }:=by
 unfold b6;rw [hx];rfl
theorem eY {σ : aa} {p:Id} {k k' bytes:Nat} {es:List AV} {x:AV} {rd:List Id} (hx:dA σ k x=some ([],rd)):b6 σ p k bytes (.tsl k' es) x=some { val := .tsl k' es,rd }:=by
 unfold b6;rw [hx];rfl
theorem cK {n:Nat} (h:n<=140737488355328):n<=maxLen:=Nat.le_trans h (by decide)
theorem Ub {σ : aa} {p:Id} {k:Nat} {z:AV} (hz:z.size=k) (YO:z.cells.all AV.one=true):b8 σ p (.buildSl k 0 z [])=some { val := .tsl k [] }:=by
 rw [vK];simp only [kf,List.replicate_zero];rw [if_pos ⟨hz,YO⟩,if_pos trivial]
theorem Xg {σ : aa} {p:Id} {k:Nat} {z x:AV} (hx:x.size=k) (Qw:x.cells.all AV.one=true) (hz:z.size=k) (YO:z.cells.all AV.one=true) :
   b8 σ p (.buildSl k 1 z [(0,x)])=some { val := .osl p k 0 1 false,up:=[(p,some ⟨[x],k,false⟩)] }:=by
 rw [vK]
 have e:kf k (List.replicate 1 z) [(0,x)]=some [x]:=by simp only [kf,List.replicate_succ,List.replicate_zero];rw [if_pos ⟨hx,by simp,Qw⟩];rfl
 rw [e];simp only [];rw [if_pos ⟨hz,YO⟩,if_neg (by decide)]
theorem bs2 {σ : aa} {p:Id} {k:Nat} {z x y:AV} (hx:x.size=k) (Qw:x.cells.all AV.one=true) (hy:y.size=k) (JV:y.cells.all AV.one=true) (hz:z.size=k) (YO:z.cells.all AV.one=true) :
   b8 σ p (.buildSl k 2 z [(0,x),(1,y)])=some { val := .osl p k 0 2 false,up:=[(p,some ⟨[x,y],k,false⟩)] }:=by
 rw [vK]
 have e:kf k (List.replicate 2 z) [(0,x),(1,y)]=some [x,y]:=by
   simp only [kf,List.replicate_succ,List.replicate_zero]
   rw [if_pos ⟨hx,by simp,Qw⟩,if_pos ⟨hy,by simp,JV⟩];rfl
 rw [e];simp only [];rw [if_pos ⟨hz,YO⟩,if_neg (by decide)]
section
variable {P:Program} {G:Nat->Option (List AV)}
theorem aS {p:Id} {S:List (Id × dC)} {rs:List xI} {r:dN} {s:VS}:NL G p S rs r .ret s=∃ r0,bP rs s=some r0/\Fin G p S s.σ r0 r:=by simp [NL]
theorem Iq {p:Id} {S:List (Id × dC)} {rs:List xI} {r:dN} {s:VS}:NL G p S rs r .normal s=∃ r0,bP rs s=some r0/\Fin G p S s.σ r0 r:=by simp [NL]
theorem aA {p:Id} {S:List (Id × dC)} {rs:List xI} {r:dN} {s:VS} (h:bP rs s=some r.val) (hs:∀ i,(aa.of S).app r.up i=none∨(aa.of S).app r.up i=s.σ i):∃ r0,bP rs s=some r0/\Fin G p S s.σ r0 r:=⟨_,h,Fin.same rfl hs⟩
end
theorem ae {σ : aa} {id:Id} {x:AV} {k:Nat} {b agg:Bool} {n o:Nat}:gh (σ.put id (some ⟨[x],k,b⟩)) agg n (.ref id 0 o)=(part agg x.cells o n).map fun v=>{ val:=v,rd:=[id] } :=
 mK (aa.a8 _ _ _) rfl
theorem ai {σ : aa} {id id':Id} {b:Option dC} {agg:Bool} {n e o:Nat} (h:id'≠id):gh (σ.put id b) agg n (.ref id' e o)=gh σ agg n (.ref id' e o):=by
 unfold gh;simp only [aa.bg _ _ _ h]
theorem cA {σ : aa} {id:Id} {els:List AV} {k n e o:Nat} {el v:AV} (h : σ id=some ⟨els,k,false⟩) (he:els[e]? = some el) (hn:v.cells.length=n) (ho:o+n<=el.size) (h1:v.cells.all AV.one=true) :
   eL σ n (.ref id e o) v=some { val := .tup [],rd:=[id],up:=[(id,some ⟨els.set e (el.upd o v.cells),k,false⟩)] }:=by
 simp only [eL,h,he]
 rw [if_pos ⟨trivial,hn,ho,h1⟩]
section
variable {P:Program} {G:Nat->Option (List AV)} {π : Id} {Q:cD->VS->Prop} {s:VS}
theorem zz:decide ((0:Int)<((0:Nat):Int))=false:=by decide
theorem VW.once {x:bX} (h:sy P G π x (Then (fun _=>False) Q) s):VW P G π (.loop x) Q s:=VW.rounds 1 (VW.of h)
end
end Go.VL
end

section
set_option linter.unusedVariables false
namespace Go.VL
def dx (c:UInt8):Bool:=(decide ((97:Int)<=c.toNat)&&decide ((c.toNat:Int)<=122))||(decide ((65:Int)<=c.toNat)&&decide ((c.toNat:Int)<=90))
def mh (c:UInt8):Bool:=decide ((48:Int)<=c.toNat)&&decide ((c.toNat:Int)<=57)
def dm (c:UInt8):Bool:=dx c||mh c||decide ((c.toNat:Int)=95)
def hZ (c:UInt8):AV := .int .u8 c.toNat
theorem ee (c:UInt8):af (hZ c):=af.int _ _
section
variable {P:Program} {G:Nat->Option (List AV)}
theorem Bt {f:FuncId} (h:Has P f jk) (c:UInt8):VP P G f [hZ c] (.bool (dx c)):=by
 refine VP.has h ?_
 unfold dx
 by_cases h1:(97:Int)<=c.toNat<;>by_cases h2:(c.toNat:Int)<=122<;>by_cases h3:(65:Int)<=c.toNat<;>by_cases h4:(c.toNat:Int)<=90 <;>
   (simp only [jk,hZ,SS,Nat.reduceAdd,h1,h2,h3,h4,decide_true,decide_false,Bool.and_self,Bool.and_true,Bool.and_false,Bool.or_false,Bool.or_true,Bool.or_self]
    exact ag▸ab rfl (af.bool _))
theorem Da {f:FuncId} (h:Has P f mq) (c:UInt8):VP P G f [hZ c] (.bool (mh c)):=by
 refine VP.has h ?_
 unfold mh
 by_cases h1:(48:Int)<=c.toNat<;>by_cases h2:(c.toNat:Int)<=57 <;>
   (simp only [mq,hZ,SS,Nat.reduceAdd,h1,h2,decide_true,decide_false,Bool.and_self,Bool.and_true,Bool.and_false]
    exact ag▸ab rfl (af.bool _))
theorem NR {f fl fd:FuncId} (h:Has P f (mX fl fd)) (hl:∀ c,VP P G fl [hZ c] (.bool (dx c))) (hd:∀ c,VP P G fd [hZ c] (.bool (mh c))) (c:UInt8) :
   VP P G f [hZ c] (.bool (dm c)):=by
 refine VP.has h ?_
 simp only [mX,SS,Nat.reduceAdd]
 refine aj (hl c) (by simp [ee]) ?_
 unfold dm
 cases h1:dx c
 . simp only [SS,Nat.reduceAdd]
   refine aj (hd c) (by simp [ee]) ?_
   cases h2:mh c
   . by_cases h3:(c.toNat:Int)=95 <;>
     (simp only [SS,Nat.reduceAdd,hZ,h3,decide_true,decide_false,Bool.or_true,Bool.or_self]
      exact ag▸ab rfl (af.bool _))
   . simp only [SS,Nat.reduceAdd,Bool.or_true,Bool.true_or]
     exact ag▸ab rfl (af.bool _)
 . simp only [SS,Nat.reduceAdd,Bool.true_or]
   exact ag▸ab rfl (af.bool _)
def fH (p:UInt8->Bool) (s:List UInt8):Nat:=(s.takeWhile p).length
theorem Db (p:UInt8->Bool):∀ s:List UInt8,fH p s<=s.length
 | []=>Nat.le_refl _
 | c::s=>by unfold fH;simp only [List.takeWhile_cons];split<;>simp;exact Db p s
theorem Dc (p:UInt8->Bool):∀ (s:List UInt8) (k:Nat),k<fH p s->∃ c,s[k]? = some c/\p c=true
 | [],k,h=>by simp [fH] at h
 | c :: s,k,h=>by
   unfold fH at h;simp only [List.takeWhile_cons] at h
   split at h
   . rename_i hc
     cases k with
     | zero=>exact ⟨c,rfl,hc⟩
     | succ k=>simpa using Dc p s k (by simpa [fH] using h)
   . simp at h
theorem x5 (p:UInt8->Bool):∀ (s:List UInt8),s[fH p s]? = none∨∃ c,s[fH p s]? = some c/\p c=false
 | [] => .inl rfl
 | c::s=>by
   unfold fH;simp only [List.takeWhile_cons]
   split
   . simpa [fH] using x5 p s
   . rename_i hc;exact .inr ⟨c,rfl,by simpa using hc⟩
theorem dF {s:List UInt8} {k:Nat} {c:UInt8} (h:s[k]? = some c):(if (0:Int)<=(k:Int) then bI ((s[(k:Int).toNat]?).map fun b=>AV.int .u8 b.toNat) else none)=bI (some (hZ c)):=by
 rw [if_pos (by omega),Int.toNat_natCast,h];rfl
theorem Gm (k:Nat) (h:k<=9223372036854775807):IntKind.i64.wrap (k:Int)=k:=by rw [IntKind.wrap_i64];omega
theorem aq (k:Nat) (h:k<9223372036854775807):IntKind.i64.wrap ((k:Int)+1)=((k+1:Nat):Int):=by rw [IntKind.wrap_i64];omega
theorem Uc {f fw:FuncId} (h:Has P f pD) {p:UInt8->Bool} (hw:∀ c,VP P G fw [hZ c] (.bool (p c))) (s:List UInt8) (hs:s.length<9223372036854775807) :
   VP P G f [.str s, .fn (.func fw) [] []] (.int .i64 (fH p s)):=by
 refine VP.has h ?_
 simp only [pD,SS,Nat.reduceAdd,aC]
 refine VW.bJ (α := Nat × Nat) (fun x=>⟨[.str s, .fn (.func fw) [] [], .top, .top, .top, .int .i64 x.1]++List.replicate 14 .top,fun _=>none,x.2⟩) (fun x=>x.1<=fH p s) (fun x=>fH p s-x.1) (0,2) ?_ (Nat.zero_le _) ?_
 . exact Wk.slots (by simp [Fg,List.replicate]) (Nat.le_refl _)
 rintro ⟨k,n⟩ hk
 simp only [] at hk
 have Ir:=Db p s
 simp only [SS,Nat.reduceAdd]
 by_cases hlt:k<fH p s
 . obtain ⟨c,hc,Qx⟩:=Dc p s k hlt
   have h1:(k:Int)<(s.length:Int):=by omega
   simp only [SS,Nat.reduceAdd,h1,decide_true,dF hc]
   refine aj (hw c) (by simp [ee]) ?_
   rw [Qx]
   simp only [SS,Nat.reduceAdd,aq k (by omega)]
   exact ⟨(k+1,_),by simp only [];omega,by simp only [];omega,Wk.slots (by simp [Fg]) (Nat.le_refl _)⟩
 . have Mz:k=fH p s:=by omega
   rcases x5 p s with h0 | ⟨c,hc,Qx⟩
   . have h1 : ¬ (k:Int)<(s.length:Int):=by have:=List.getElem?_eq_none_iff.1 h0;omega
     simp only [SS,Nat.reduceAdd,h1,decide_false]
     rw [Mz]
     exact ag▸ab rfl (af.int _ _)
   . have h1:(k:Int)<(s.length:Int):=by have:=(List.getElem?_eq_some_iff.1 hc).1;omega
     rw [<- Mz] at hc
     simp only [SS,Nat.reduceAdd,h1,decide_true,dF hc]
     refine aj (hw c) (by simp [ee]) ?_
     rw [Qx]
     simp only [SS,Nat.reduceAdd]
     rw [Mz]
     exact ag▸ab rfl (af.int _ _)
def bd (s:List UInt8):Bool:=match s with
 | []=>false
 | c::_=>decide (s.length<=24)&&dx c&&decide (fH dm s=s.length)
theorem NS {f fl fs fw:FuncId} (h:Has P f (jl fl fs fw)) (hl:∀ c,VP P G fl [hZ c] (.bool (dx c)))
   (hs:∀ s:List UInt8,s.length<9223372036854775807->VP P G fs [.str s, .fn (.func fw) [] []] (.int .i64 (fH dm s))) (s:List UInt8):VP P G f [.str s] (.bool (bd s)):=by
 refine VP.has h ?_
 cases s with
 | nil =>
   simp only [jl,SS,Nat.reduceAdd]
   exact ag▸ab rfl (af.bool _)
 | cons c s =>
   have e0:(!((c::s)==([]:List UInt8)))=true:=rfl
   by_cases h1:(((s.length+1:Nat)):Int)<=24
   . have e1:(if (0:Int)<=0 then bI (Option.map (fun b=>AV.int IntKind.u8 ↑b.toNat) (c::s)[Int.toNat 0]?) else none)=bI (some (hZ c)):=rfl
     simp only [jl,SS,Nat.reduceAdd,e0,h1,decide_true,e1]
     refine aj (hl c) (by simp [ee]) ?_
     cases h2:dx c
     . simp only [SS,Nat.reduceAdd]
       have:bd (c::s)=false:=by unfold bd;simp [h2]
       rw [this]
       exact ag▸ab rfl (af.bool _)
     . simp only [SS,Nat.reduceAdd]
       refine aj (hs (c::s) (by simp only [List.length_cons];omega)) (by simp;exact ⟨af.str _,af.fn (by simp) (by simp)⟩) ?_
       by_cases h3:fH dm (c::s)=(s.length+1)
       . have h4:(fH dm (c::s):Int)=((s.length+1:Nat):Int):=by omega
         simp only [SS,Nat.reduceAdd,h4,decide_true]
         have:bd (c::s)=true:=by unfold bd;simp [h2,h3];omega
         rw [this]
         exact ag▸ab rfl (af.bool _)
       . have h4 : ¬ (fH dm (c::s):Int)=((s.length+1:Nat):Int):=by omega
         simp only [SS,Nat.reduceAdd,h4,decide_false]
         have:bd (c::s)=false:=by unfold bd;simp [h3]
         rw [this]
         exact ag▸ab rfl (af.bool _)
   . simp only [jl,SS,Nat.reduceAdd,e0,h1,decide_false]
     have:bd (c::s)=false:=by unfold bd;simp only [List.length_cons];simp;intro h;omega
     rw [this]
     exact ag▸ab rfl (af.bool _)
end
end Go.VL
end

section
set_option linter.unusedVariables false
namespace Go.VL
theorem aQ {k kk:Nat} {es:List AV} {e:AV} {ik:IntKind} {i:Nat} (hk:kk=k) (h:es[i]? = some e):br k (.sl kk es) (.int ik (i:Int))=some (.ep e.cells 0):=by
 subst hk
 simp [br,h]
def x6:Option Nat->Int
 | some i=>i
 | none => -1
theorem pE {α : Type} {p : α -> Bool} {l:List α} (h:∀ (j:Nat) x,l[j]? = some x->p x=false):l.findIdx? p=none:=by
 rw [List.findIdx?_eq_none_iff]
 intro x hx
 obtain ⟨j,hj⟩:=List.getElem?_of_mem hx
 exact h j x hj
theorem pG {α : Type} {p : α -> Bool} {l:List α} {i:Nat} {x : α} (hi:l[i]? = some x) (hx:p x=true) (h:∀ (j:Nat) x,j<i->l[j]? = some x->p x=false):l.findIdx? p=some i:=by
 rw [List.findIdx?_eq_some_iff_getElem]
 obtain ⟨hlt,he⟩:=List.getElem?_eq_some_iff.1 hi
 refine ⟨hlt,by rw [he];exact hx,fun j Ce => ?_⟩
 have:=h j _ Ce (List.getElem?_eq_getElem (by omega))
 simp [this]
section
variable {P:Program} {G:Nat->Option (List AV)}
end
end Go.VL
end

section
namespace Go.VL
def au:Nat:=4294967296
theorem Gn:1<au:=by decide
theorem cV:0<au:=by decide
def val:List Nat->Nat
 | []=>0
 | w::r=>w+au*val r
def Wd (ws:List Nat):Prop:=∀ w∈ws,w<au
def digits (n:Nat):List Nat:=if _h:n=0 then [] else n%au::digits (n/au)
termination_by n
decreasing_by exact Nat.div_lt_self (Nat.pos_of_ne_zero _h) Gn
theorem bq:digits 0=[]:=by rw [digits];simp
theorem iY {n:Nat} (h:n≠0):digits n=n%au::digits (n/au):=by rw [digits];simp [h]
theorem aI (n:Nat):val (digits n)=n:=by
 induction n using Nat.strongRecOn with
 | _ n ih =>
   by_cases h:n=0
   . subst h;rw [bq];rfl
   . rw [iY h,val,ih _ (Nat.div_lt_self (Nat.pos_of_ne_zero h) Gn)]
     exact Nat.mod_add_div n au
theorem aO (n:Nat):Wd (digits n):=by
 induction n using Nat.strongRecOn with
 | _ n ih =>
   by_cases h:n=0
   . subst h;rw [bq];intro w hw;simp at hw
   . rw [iY h]
     intro w hw
     rcases List.mem_cons.1 hw with rfl | hw
     . exact Nat.mod_lt _ (by decide)
     . exact ih _ (Nat.div_lt_self (Nat.pos_of_ne_zero h) Gn) w hw
theorem oq {n:Nat}:digits n=[]↔n=0:=by
 constructor
 . intro h
   have:=aI n
   rw [h] at this
   exact this.symm
 . rintro rfl;exact bq
theorem cv (a b:List Nat):val (a++b)=val a+au ^ a.length*val b:=by
 induction a with
 | nil=>simp [val]
 | cons x a ih =>
   simp only [List.cons_append,val,ih,List.length_cons,Nat.pow_succ]
   rw [Nat.mul_add, <- Nat.add_assoc]
   congr 1
   rw [<- Nat.mul_assoc,Nat.mul_comm (au ^ a.length) au]
theorem lC {ws:List Nat} (h:Wd ws):val ws<au ^ ws.length:=by
 induction ws with
 | nil=>simp [val]
 | cons w ws ih =>
   have h1:=ih (fun x hx=>h x (List.mem_cons_of_mem _ hx))
   have h2:=h w (by simp)
   simp only [val,List.length_cons,Nat.pow_succ]
   have h3:au*(val ws+1)<=au*au ^ ws.length:=Nat.mul_le_mul_left _ h1
   rw [Nat.mul_comm (au ^ ws.length) au]
   rw [Nat.mul_add] at h3
   omega
theorem AO {ws:List Nat} (h:∀ w∈ws,w=0):val ws=0:=by
 induction ws with
 | nil=>rfl
 | cons w ws ih=>simp only [val];rw [ih (fun x hx=>h x (List.mem_cons_of_mem _ hx)),h w (by simp)];rfl
theorem lD {ws:List Nat} (h:Wd ws) (h0:ws=[]∨∃ w,ws.getLast? = some w/\w≠0):digits (val ws)=ws:=by
 induction ws with
 | nil=>simp [val,bq]
 | cons w ws ih =>
   have hw:=h w (by simp)
   have hws:Wd ws:=fun x hx=>h x (List.mem_cons_of_mem _ hx)
   cases ws with
   | nil =>
     rcases h0 with h0 | ⟨x,hx,hne⟩
     . simp at h0
     . simp at hx;subst hx
       simp only [val,Nat.mul_zero,Nat.add_zero]
       rw [iY hne,Nat.mod_eq_of_lt hw,Nat.div_eq_of_lt hw,bq]
   | cons y ws =>
     have hl:∃ x,(y::ws).getLast? = some x/\x≠0:=by
       rcases h0 with h0 | ⟨x,hx,hne⟩
       . simp at h0
       . exact ⟨x,by simpa [List.getLast?_cons_cons] using hx,hne⟩
     have hih:=ih hws (.inr hl)
     have hv:val (y::ws)≠0:=by
       intro e
       have:digits (val (y::ws))=[]:=by rw [e,bq]
       rw [hih] at this;simp at this
     have hne:val (w::y::ws)≠0:=by
       simp only [val] at hv ⊢
       have:0<au*(y+au*val ws):=Nat.mul_pos (by decide) (Nat.pos_of_ne_zero hv)
       omega
     rw [iY hne]
     have e1:val (w::y::ws)%au=w:=by
       show (w+au*val (y::ws))%au=w
       rw [Nat.add_mul_mod_self_left];exact Nat.mod_eq_of_lt hw
     have e2:val (w::y::ws)/au=val (y::ws):=by
       show (w+au*val (y::ws))/au=_
       rw [Nat.add_mul_div_left _ _ (by decide),Nat.div_eq_of_lt hw,Nat.zero_add]
     rw [e1,e2,hih]
theorem Bu {n:Nat}:digits n=[]∨∃ w,(digits n).getLast? = some w/\w≠0:=by
 induction n using Nat.strongRecOn with
 | _ n ih =>
   by_cases h:n=0
   . left;subst h;exact bq
   . right
     rw [iY h]
     rcases ih _ (Nat.div_lt_self (Nat.pos_of_ne_zero h) Gn) with h1 | ⟨w,h1,h2⟩
     . have hd:=oq.1 h1
       rw [h1]
       refine ⟨n%au,rfl, ?_⟩
       rw [Nat.mod_eq_of_lt]
       . exact h
       . rcases Nat.div_eq_zero_iff.1 hd with h3 | h3
         . exact absurd h3 (by decide)
         . exact h3
     . cases hd:digits (n/au) with
       | nil=>rw [hd] at h1;simp at h1
       | cons x xs=>rw [hd] at h1;exact ⟨w,by simpa [List.getLast?_cons_cons] using h1,h2⟩
theorem ky (ws:List Nat):val (ws++[0])=val ws:=by rw [cv];simp [val]
theorem q8 {ws:List Nat} (h:Wd ws) (k:Nat):Wd (ws.take k):=fun w hw=>h w (List.mem_of_mem_take hw)
theorem cw {a b:List Nat} (ha:Wd a) (hb:Wd b):Wd (a++b):=fun w hw=>(List.mem_append.1 hw).elim (ha w) (hb w)
def ah (n:Nat):Nat:=(digits n).length
theorem cN (n:Nat):n<au ^ ah n:=by have:=lC (aO n);rwa [aI] at this
theorem jg {n k:Nat} (h:n<au ^ k):ah n<=k:=by
 induction k generalizing n with
 | zero=>simp at h;subst h;simp [ah,bq]
 | succ k ih =>
   by_cases h0:n=0
   . subst h0;simp [ah,bq]
   . unfold ah
     rw [iY h0]
     have:n/au<au ^ k:=by rw [Nat.pow_succ] at h;exact Nat.div_lt_of_lt_mul (by rwa [Nat.mul_comm])
     have:=ih this
     simp only [List.length_cons]
     unfold ah at this
     omega
theorem cP {m n:Nat} (h:m<=n):ah m<=ah n:=jg (Nat.lt_of_le_of_lt h (cN n))
theorem q9 {n:Nat} (h:n≠0):au ^ (ah n-1)<=n:=by
 rcases Nat.lt_or_ge n (au ^ (ah n-1)) with h1 | h1
 . have:=jg h1
   have h2:0<ah n:=by
     unfold ah
     cases hd:digits n with
     | nil=>exact absurd (oq.1 hd) h
     | cons _ _=>simp
   omega
 . exact h1
theorem ql (m n:Nat):ah (m*n)<=ah m+ah n:=by
 refine jg ?_
 rw [Nat.pow_add]
 exact Nat.mul_lt_mul'' (cN m) (cN n)
end Go.VL
end

section
set_option linter.unusedVariables false
namespace Go.VL
def us (ws:List Nat):List AV:=ws.map fun w:Nat => .int .u32 (w:Int)
def W (n:Nat):AV := .sl 1 (us (digits n))
theorem dD (ws:List Nat):(us ws).length=ws.length:=by simp [us]
theorem r9 {ws:List Nat} {i w:Nat} (h:ws[i]? = some w):(us ws)[i]? = some (.int .u32 (w:Int)):=by simp [us,h]
theorem MA (ws:List Nat) (k:Nat):(us ws).take k=us (ws.take k):=by simp [us,List.map_take]
theorem AP (a b:List Nat):us (a++b)=us a++us b:=by simp [us]
theorem Gp (ws:List Nat):flat (us ws)=us ws:=by
 induction ws with
 | nil=>rfl
 | cons w ws ih=>simp only [us,List.map_cons,flat,List.flatMap_cons,AV.cells] at ih ⊢;rw [ih];rfl
theorem kS (ws:List Nat):af (.sl 1 (us ws)):=af.sl (by rw [Gp];intro c hc;simp only [us,List.mem_map] at hc;obtain ⟨w,_,rfl⟩:=hc;exact af.int _ _)
theorem sU (ws:List Nat):∀ c∈flat (us ws),af c:=by rw [Gp];intro c hc;simp only [us,List.mem_map] at hc;obtain ⟨w,_,rfl⟩:=hc;exact af.int _ _
theorem wO (ws:List Nat):∀ e∈us ws,e.size=1:=by intro e he;simp only [us,List.mem_map] at he;obtain ⟨w,_,rfl⟩:=he;rfl
theorem AQ (ws:List Nat):((us ws).all fun e=>e.cells.all AV.one)=true:=by rw [List.all_eq_true];intro e he;simp only [us,List.mem_map] at he;obtain ⟨w,_,rfl⟩:=he;rfl
theorem aJ (n:Nat):af (W n):=kS _
theorem bm {k:IntKind} {n:Int}:part false (AV.int k n).cells 0 1=some (.int k n):=rfl
theorem sa (k:Nat) (h:0<k) (h2:k<=9223372036854775807):IntKind.i64.wrap ((k:Int)-1)=((k-1:Nat):Int):=by rw [IntKind.wrap_i64];omega
theorem ao {p:Prop} [Decidable p] (h:p):decide p=true:=decide_eq_true h
theorem ak {p:Prop} [Decidable p] (h : ¬ p):decide p=false:=decide_eq_false h
theorem Qy {k kk:Nat} {es:List AV} {h:Nat} (hk:kk=k) (hh:h<=es.length):bU k (.sl kk es) none (some (.int .i64 (h:Int))) none=some (.sl k (es.take h)):=by
 subst hk
 simp [bU,cJ,dV,hh]
section
variable {P:Program} {G:Nat->Option (List AV)}
theorem MB {f:FuncId} (h:Has P f du) {ws:List Nat} (hw:Wd ws) (hl:ws.length<=9223372036854775807):VP P G f [.sl 1 (us ws)] (W (val ws)):=by
 refine VP.has h ?_
 simp only [du,SS,aC]
 refine VW.bJ (α := Nat × Nat) (fun x=>⟨[.sl 1 (us (ws.take x.1))]++List.replicate 20 .top,fun _=>none,x.2⟩) (fun x=>x.1<=ws.length/\val (ws.take x.1)=val ws) (fun x=>x.1) (ws.length,1) ?_ ⟨Nat.le_refl _,by rw [List.take_length]⟩ ?_
 . exact Wk.slots (by simp [Fg,List.replicate]) (Nat.le_refl _)
 rintro ⟨k,n⟩ ⟨hk,hv⟩
 simp only [] at hk hv
 have WU:(us (ws.take k)).length=k:=by rw [dD,List.length_take];omega
 simp only [SS,Nat.reduceAdd,WU]
 by_cases h0:k=0
 . subst h0
   have d0:decide ((0:Int)<((0:Nat):Int))=false:=by decide
   simp only [SS,Nat.reduceAdd,d0]
   refine ag▸ab (r:=W (val ws)) ?_ (aJ _)
   have:digits (val ws)=[]:=by rw [<- hv];simp [val,bq]
   simp [bP,cu,W,us,this]
 . have oy:0<k:=Nat.pos_of_ne_zero h0
   have d0:decide ((0:Int)<(k:Int))=true:=ao (by omega)
   have uK:=sa k oy (by omega)
   obtain ⟨w,ZW⟩:∃ w,ws[k-1]? = some w:=⟨ws[k-1],by rw [List.getElem?_eq_getElem]⟩
   have ZX:(ws.take k)[k-1]? = some w:=by rw [List.getElem?_take_of_lt (by omega)];exact ZW
   have JX:ws.take k=ws.take (k-1)++[w]:=by
     have:=List.take_add_one (l:=ws) (i:=k-1)
     rw [ZW,show k-1+1=k from by omega] at this
     simpa using this
   have Ir:k-1<=(us (ws.take k)).length:=by rw [WU];omega
   by_cases hz:w=0
   . have d1:decide ((w:Int)=0)=true:=ao (by omega)
     simp only [SS,Nat.reduceAdd,d0,uK,aQ rfl (r9 ZX),az,bm,d1,WU,Qy rfl Ir]
     have hm:min (k-1) k=k-1:=Nat.min_eq_left (Nat.sub_le _ _)
     refine ⟨(k-1,_),⟨by simp only [];omega, ?_⟩,by simp only [];omega,Wk.slots (by simp [Fg,MA,List.take_take,hm]) (Nat.le_refl _)⟩
     simp only []
     rw [<- hv,JX,hz,ky]
   . have d1:decide ((w:Int)=0)=false:=ak (by omega)
     simp only [SS,Nat.reduceAdd,d0,uK,aQ rfl (r9 ZX),az,bm,d1,WU]
     refine ag▸ab (r:=W (val ws)) ?_ (aJ _)
     have e:digits (val ws)=ws.take k:=by
       rw [<- hv]
       exact lD (q8 hw k) (.inr ⟨w,by rw [JX];simp,hz⟩)
     simp [bP,cu,W,e]
end
end Go.VL
end
