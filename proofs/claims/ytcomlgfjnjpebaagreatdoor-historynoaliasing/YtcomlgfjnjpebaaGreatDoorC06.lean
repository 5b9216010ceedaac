/- For the claim of HistoryNoAliasing: parts GR, CR1, CR2, CR3, CR4, CR5, CR6, CR7, CR8, CR9, CR10, RQ. -/
import Derived.Test.YtcomlgfjnjpebaaGreatDoorC03
import Derived.Test.YtcomlgfjnjpebaaGreatDoorC05
set_option linter.unusedSimpArgs false
set_option linter.unusedVariables false
set_option maxRecDepth 100000
namespace Go.VL
def sR:aL:=⟨21,[(.tmp 2)],(cS [oZ 2] (.seq (.block 0 (.loop (.seq (cS [oM 3 0,oN 4 3,da 5 .gtr 4 0,oM 6 5,gM 7 0 6 true,gM 8 0 6 true,gN 9 8 6 true,⟨some 10,.bin .sub .int (.t 9) (.c (.int .i64 1)),some (6,true)⟩,⟨some 11,.iaddrS 1 (.t 7) (.t 10),some (6,true)⟩,gL 12 1 11 6 true,⟨some 13,.bin .eql .int (.t 12) (.c (.int .u32 0)),some (6,true)⟩,nY 14 6 13] (.cond (.t 14) .skip (.exit 0))) (.block 1 (cR [oM 15 0,oM 16 0,oN 17 16,da 18 .sub 17 1,⟨some 19,.slice 1 (.t 15) none (some (.t 18)) none,none⟩,oM 0 19]))))) (cS [oM 20 0,oM 2 20] .ret)))⟩
def rM (aG:Nat):aL:=⟨10,[(.tmp 2)],(cS [oZ 2] (cS [oM 3 0,oK 4 .u32 3,oM 5 0,⟨some 6,.bin .shr .int (.t 5) (.c (.int .u64 32)),none⟩,oK 7 .u32 6,⟨some 8,.buildSl 1 2 (.int .u32 0) [(0,(.t 4)),(1,(.t 7))],none⟩,oC 9 aG 8,oM 2 9] .ret))⟩
def ji:aL:=⟨21,[(.tmp 2)],(cS [⟨some 2,.mv (.c (.int .u64 0)),none⟩] (cS [⟨some 3,.mv (.c (.int .u64 0)),none⟩] (.seq (cS [oM 5 0,oN 6 5,da 7 .sub 6 1,oM 4 7] (.block 0 (.loop (.seq (cS [oM 8 4,da 9 .geq 8 0] (.cond (.t 9) .skip (.exit 0))) (.seq (.block 1 (cR [oM 12 3,⟨some 13,.bin .shl .int (.t 12) (.c (.int .u64 32)),none⟩,oM 14 0,oM 15 4,oA 16 1 14 15,oL 17 1 16,oK 18 .u64 17,oT 19 .or 13 18,oM 3 19])) (cR [oM 10 4,da 11 .sub 10 1,oM 4 11])))))) (cS [oM 20 3,oM 2 20] .ret))))⟩
def iA:aL:=⟨41,[(.tmp 4)],(cS [oI 4 0] (.seq (cS [oM 6 0,oN 7 6,oM 8 1,oN 9 8,oT 10 .neq 7 9] (.cond (.t 10) (.seq (cS [oM 11 0,oN 12 11,oM 13 1,oN 14 13,oT 15 .lss 12 14] (.cond (.t 15) (cS [oI 4 (-1-0)] .ret) .skip)) (cS [oI 4 1] .ret)) .skip)) (.seq (cS [oM 16 0,oN 17 16,da 18 .sub 17 1,oM 5 18] (.block 0 (.loop (.seq (cS [oM 19 5,da 20 .geq 19 0] (.cond (.t 20) .skip (.exit 0))) (.seq (.block 1 (.seq (.seq (.reg (some []) [oM 23 0,oM 24 5,oA 25 1 23 24,oL 26 1 25,oM 27 1,oM 28 5,oA 29 1 27 28,oL 30 1 29,oT 31 .lss 26 30]) (.cond (.t 31) (cS [oI 4 (-1-0)] .ret) .skip)) (.seq (.reg (some []) [oM 32 0,oM 33 5,oA 34 1 32 33,oL 35 1 34,oM 36 1,oM 37 5,oA 38 1 36 37,oL 39 1 38,oT 40 .gtr 35 39]) (.cond (.t 40) (cS [oI 4 1] .ret) .skip)))) (cR [oM 21 5,da 22 .sub 21 1,oM 5 22])))))) (cS [oI 4 0] .ret))))⟩
def jM (aG:Nat):aL:=⟨58,[(.tmp 4)],(cS [oZ 4] (.seq (cS [oM 8 0,oN 9 8,oM 10 1,oN 11 10,oT 12 .lss 9 11] (.cond (.t 12) (cR [oM 13 1,oM 14 0,oM 0 13,oM 1 14]) .skip)) (cS [oM 15 0,oN 16 15,da 17 .add 16 1,⟨some 18,.mksl 1 4 (.int .u32 0) (.t 17) (.t 17),none⟩,oM 5 18] (cS [⟨some 6,.mv (.c (.int .u64 0)),none⟩] (.seq (cS [oI 7 0] (.block 0 (.loop (.seq (cS [oM 19 7,oM 20 0,oN 21 20,oT 22 .lss 19 21] (.cond (.t 22) .skip (.exit 0))) (.seq (.block 1 (cS [oM 25 6,oM 26 0,oM 27 7,oA 28 1 26 27,oL 29 1 28,oK 30 .u64 29,oT 31 .add 25 30,oM 6 31] (.seq (cS [oM 32 7,oM 33 1,oN 34 33,oT 35 .lss 32 34] (.cond (.t 35) (cR [oM 36 6,oM 37 1,oM 38 7,oA 39 1 37 38,oL 40 1 39,oK 41 .u64 40,oT 42 .add 36 41,oM 6 42]) .skip)) (cS [oM 43 5,oM 44 7,oM 45 6,oK 46 .u32 45,oA 47 1 43 44,oS 1 47 46] (cR [oM 48 6,⟨some 49,.bin .shr .int (.t 48) (.c (.int .u64 32)),none⟩,oM 6 49]))))) (cR [oM 23 7,da 24 .add 23 1,oM 7 24])))))) (cS [oM 50 5,oM 51 0,oN 52 51,oM 53 6,oK 54 .u32 53,oA 55 1 50 52,oS 1 55 54] (cS [oM 56 5,oC 57 aG 56,oM 4 57] .ret)))))))⟩
def dQ (aG:Nat):aL:=⟨48,[(.tmp 4)],(cS [oZ 4] (cS [oM 10 0,oN 11 10,⟨some 12,.mksl 1 4 (.int .u32 0) (.t 11) (.t 11),none⟩,oM 5 12] (cS [⟨some 6,.mv (.c (.int .u64 0)),none⟩] (.seq (cS [oI 7 0] (.block 0 (.loop (.seq (cS [oM 13 7,oM 14 0,oN 15 14,oT 16 .lss 13 15] (.cond (.t 16) .skip (.exit 0))) (.seq (.block 1 (cS [⟨some 8,.mv (.c (.int .u64 0)),none⟩] (.seq (cS [oM 19 7,oM 20 1,oN 21 20,oT 22 .lss 19 21] (.cond (.t 22) (cR [oM 23 1,oM 24 7,oA 25 1 23 24,oL 26 1 25,oK 27 .u64 26,oM 8 27]) .skip)) (cS [oM 28 0,oM 29 7,oA 30 1 28 29,oL 31 1 30,oK 32 .u64 31,⟨some 33,.bin .add .int (.t 32) (.c (.int .u64 4294967296)),none⟩,oM 34 8,oT 35 .sub 33 34,oM 36 6,oT 37 .sub 35 36,oM 9 37] (cS [oM 38 5,oM 39 7,oM 40 9,oK 41 .u32 40,oA 42 1 38 39,oS 1 42 41] (cR [oM 43 9,⟨some 44,.bin .shr .int (.t 43) (.c (.int .u64 32)),none⟩,⟨some 45,.bin .sub .int (.c (.int .u64 1)) (.t 44),none⟩,oM 6 45])))))) (cR [oM 17 7,da 18 .add 17 1,oM 7 18])))))) (cS [oM 46 5,oC 47 aG 46,oM 4 47] .ret)))))⟩
def gD (aG:Nat):aL:=⟨67,[(.tmp 4)],(cS [oZ 4] (cS [oM 9 0,oN 10 9,oM 11 1,oN 12 11,oT 13 .add 10 12,⟨some 14,.mksl 1 4 (.int .u32 0) (.t 13) (.t 13),none⟩,oM 5 14] (.seq (cS [oI 6 0] (.block 0 (.loop (.seq (cS [oM 15 6,oM 16 0,oN 17 16,oT 18 .lss 15 17] (.cond (.t 18) .skip (.exit 0))) (.seq (.block 1 (cS [⟨some 7,.mv (.c (.int .u64 0)),none⟩] (.seq (cS [oI 8 0] (.block 2 (.loop (.seq (cS [oM 21 8,oM 22 1,oN 23 22,oT 24 .lss 21 23] (.cond (.t 24) .skip (.exit 2))) (.seq (.block 3 (.seq (.reg (some []) [oM 27 7,oM 28 5,oM 29 6,oM 30 8,oT 31 .add 29 30,oA 32 1 28 31,oL 33 1 32,oK 34 .u64 33,oT 35 .add 27 34,oM 36 0,oM 37 6,oA 38 1 36 37,oL 39 1 38,oK 40 .u64 39,oM 41 1,oM 42 8,oA 43 1 41 42,oL 44 1 43,oK 45 .u64 44,oT 46 .mul 40 45,oT 47 .add 35 46,oM 7 47]) (cS [oM 48 5,oM 49 6,oM 50 8,oT 51 .add 49 50,oM 52 7,oK 53 .u32 52,oA 54 1 48 51,oS 1 54 53] (cR [oM 55 7,⟨some 56,.bin .shr .int (.t 55) (.c (.int .u64 32)),none⟩,oM 7 56])))) (cR [oM 25 8,da 26 .add 25 1,oM 8 26])))))) (cR [oM 57 5,oM 58 6,oM 59 1,oN 60 59,oT 61 .add 58 60,oM 62 7,oK 63 .u32 62,oA 64 1 57 61,oS 1 64 63])))) (cR [oM 19 6,da 20 .add 19 1,oM 6 20])))))) (cS [oM 65 5,oC 66 aG 65,oM 4 66] .ret))))⟩
def kI (aG:Nat):aL:=⟨43,[(.tmp 4),(.tmp 5)],(cS [oZ 4,⟨some 5,.mv (.c (.int .u32 0)),none⟩] (cS [oM 9 0,oN 10 9,⟨some 11,.mksl 1 4 (.int .u32 0) (.t 10) (.t 10),none⟩,oM 6 11] (cS [⟨some 7,.mv (.c (.int .u64 0)),none⟩] (.seq (cS [oM 12 0,oN 13 12,da 14 .sub 13 1,oM 8 14] (.block 0 (.loop (.seq (cS [oM 15 8,da 16 .geq 15 0] (.cond (.t 16) .skip (.exit 0))) (.seq (.block 1 (cS [oM 19 7,⟨some 20,.bin .shl .int (.t 19) (.c (.int .u64 32)),none⟩,oM 21 0,oM 22 8,oA 23 1 21 22,oL 24 1 23,oK 25 .u64 24,oT 26 .or 20 25,oM 7 26] (cS [oM 27 6,oM 28 8,oM 29 7,oM 30 1,oK 31 .u64 30,oT 32 .quo 29 31,oK 33 .u32 32,oA 34 1 27 28,oS 1 34 33] (cR [oM 35 7,oM 36 1,oK 37 .u64 36,oT 38 .rem 35 37,oM 7 38])))) (cR [oM 17 8,da 18 .sub 17 1,oM 8 18])))))) (cS [oM 39 6,oC 40 aG 39,oM 41 7,oK 42 .u32 41,oM 4 40,oM 5 42] .ret)))))⟩
def gm:aL:=⟨26,[(.tmp 2)],(cS [oI 2 0] (.seq (cS [oM 5 0,oN 6 5,da 7 .eql 6 0] (.cond (.t 7) (cS [oI 2 0] .ret) .skip)) (cS [oI 3 0] (.seq (cS [oM 8 0,oM 9 0,oN 10 9,da 11 .sub 10 1,oA 12 1 8 11,oL 13 1 12,oM 4 13] (.block 0 (.loop (.seq (cS [oM 14 4,⟨some 15,.bin .gtr .int (.t 14) (.c (.int .u32 0)),none⟩] (.cond (.t 15) .skip (.exit 0))) (.seq (.block 1 (cR [oM 18 3,da 19 .add 18 1,oM 3 19])) (cR [oM 16 4,⟨some 17,.bin .quo .int (.t 16) (.c (.int .u32 2)),none⟩,oM 4 17])))))) (cS [oM 20 0,oN 21 20,da 22 .sub 21 1,⟨some 23,.bin .mul .int (.c (.int .i64 32)) (.t 22),none⟩,oM 24 3,oT 25 .add 23 24,oM 2 25] .ret)))))⟩
def fW:aL:=⟨43,[(.tmp 4)],(cS [oZ 4] (cS [oM 8 0,oN 9 8,da 10 .add 9 1,⟨some 11,.mksl 1 4 (.int .u32 0) (.t 10) (.t 10),none⟩,oM 5 11] (.seq (cS [oI 6 0] (.block 0 (.loop (.seq (cS [oM 12 6,oM 13 0,oN 14 13,oT 15 .lss 12 14] (.cond (.t 15) .skip (.exit 0))) (.seq (.block 1 (cS [oM 18 0,oM 19 6,oA 20 1 18 19,oL 21 1 20,oK 22 .u64 21,oM 23 1,oT 24 .shl 22 23,oM 7 24] (cS [oM 25 5,oM 26 6,oM 27 5,oM 28 6,oA 29 1 27 28,oL 30 1 29,oM 31 7,oK 32 .u32 31,oT 33 .or 30 32,oA 34 1 25 26,oS 1 34 33] (cR [oM 35 5,oM 36 6,da 37 .add 36 1,oM 38 7,⟨some 39,.bin .shr .int (.t 38) (.c (.int .u64 32)),none⟩,oK 40 .u32 39,oA 41 1 35 37,oS 1 41 40])))) (cR [oM 16 6,da 17 .add 16 1,oM 6 17])))))) (cS [oM 42 5,oM 4 42] .ret))))⟩
def jN (aG:Nat):aL:=⟨45,[(.tmp 4)],(cS [oZ 4] (cS [oM 8 0,oN 9 8,⟨some 10,.mksl 1 4 (.int .u32 0) (.t 9) (.t 9),none⟩,oM 5 10] (.seq (cS [oI 6 0] (.block 0 (.loop (.seq (cS [oM 11 6,oM 12 0,oN 13 12,oT 14 .lss 11 13] (.cond (.t 14) .skip (.exit 0))) (.seq (.block 1 (cS [oM 17 0,oM 18 6,oA 19 1 17 18,oL 20 1 19,oK 21 .u64 20,oM 7 21] (.seq (cS [oM 22 6,da 23 .add 22 1,oM 24 0,oN 25 24,oT 26 .lss 23 25] (.cond (.t 26) (cR [oM 27 7,oM 28 0,oM 29 6,da 30 .add 29 1,oA 31 1 28 30,oL 32 1 31,oK 33 .u64 32,⟨some 34,.bin .shl .int (.t 33) (.c (.int .u64 32)),none⟩,oT 35 .or 27 34,oM 7 35]) .skip)) (cR [oM 36 5,oM 37 6,oM 38 7,oM 39 1,oT 40 .shr 38 39,oK 41 .u32 40,oA 42 1 36 37,oS 1 42 41])))) (cR [oM 15 6,da 16 .add 15 1,oM 6 16])))))) (cS [oM 43 5,oC 44 aG 43,oM 4 44] .ret))))⟩
def gG (rN aG ek jj:Nat):aL:=⟨51,[(.tmp 4),(.tmp 5)],(cS [⟨some 4,.mv (.c (.int .u32 0)),none⟩,oZ 5] (cS [oM 9 1,oN 10 9,oM 6 10] (.seq (.reg (some []) [oM 11 0,oM 12 6,oA 13 1 11 12,oL 14 1 13,oK 15 .u64 14,⟨some 16,.bin .shl .int (.t 15) (.c (.int .u64 32)),none⟩,oM 17 0,oM 18 6,da 19 .sub 18 1,oA 20 1 17 19,oL 21 1 20,oK 22 .u64 21,oT 23 .or 16 22,oM 24 1,oM 25 6,da 26 .sub 25 1,oA 27 1 24 26,oL 28 1 27,oK 29 .u64 28,oT 30 .quo 23 29,oM 7 30]) (.seq (cS [oM 31 7,⟨some 32,.bin .gtr .int (.t 31) (.c (.int .u64 4294967295)),none⟩] (.cond (.t 32) (cR [⟨some 7,.mv (.c (.int .u64 4294967295)),none⟩]) .skip)) (cS [oM 33 1,oM 34 7,oK 35 .u32 34,⟨some 36,.buildSl 1 1 (.int .u32 0) [(0,(.t 35))],none⟩,qC 37 rN 33 36,oM 8 37] (.seq (.block 0 (.loop (.seq (cS [oM 38 0,oC 39 aG 38,oM 40 8,qC 41 ek 39 40,da 42 .lss 41 0] (.cond (.t 42) .skip (.exit 0))) (.block 1 (cS [oM 43 7,⟨some 44,.bin .sub .int (.t 43) (.c (.int .u64 1)),none⟩,oM 7 44] (cR [oM 45 8,oM 46 1,qC 47 jj 45 46,oM 8 47])))))) (cS [oM 48 7,oK 49 .u32 48,oM 50 8,oM 4 49,oM 5 50] .ret)))))))⟩
def iT (ek lN jk kJ qH kP aG rO jj sS:Nat):aL:=⟨128,[(.tmp 4),(.tmp 5)],(cS [oZ 4,oZ 5] (.seq (cS [oM 20 0,oM 21 1,qC 22 ek 20 21,da 23 .lss 22 0] (.cond (.t 23) (cS [oM 24 0,oZ 4,oM 5 24] .ret) .skip)) (.seq (cS [oM 25 0,oN 26 25,da 27 .leq 26 2] (.cond (.t 27) (cS [oM 28 0,oC 29 lN 28,oM 30 1,oC 31 lN 30,oM 6 29,oM 7 31] (.seq (.reg (some []) [oM 32 6,oM 33 7,oT 34 .quo 32 33,oC 35 jk 34,oM 36 6,oM 37 7,oT 38 .rem 36 37,oC 39 jk 38,oM 4 35,oM 5 39]) .ret)) .skip)) (.seq (cS [oM 40 1,oN 41 40,da 42 .eql 41 1] (.cond (.t 42) (cS [oM 44 0,oM 45 1,⟨some 46,.iaddrS 1 (.t 45) (.c (.int .i64 0)),none⟩,oL 47 1 46,qC 48 kJ 44 47,oM 43 48,oE 49 43 0,oE 50 43 1,oM 8 49,oM 9 50] (cS [oM 51 8,oM 52 9,oK 53 .u64 52,oC 54 jk 53,oM 4 51,oM 5 54] .ret)) .skip)) (cS [oM 55 1,oN 56 55,⟨some 57,.bin .mul .int (.c (.int .i64 32)) (.t 56),none⟩,oM 58 1,oC 59 qH 58,oT 60 .sub 57 59,oM 10 60] (cS [oM 61 0,oM 62 10,qC 63 kP 61 62,oM 64 1,oM 65 10,qC 66 kP 64 65,oC 67 aG 66,oM 11 63,oM 12 67] (cS [oM 68 0,oN 69 68,⟨some 70,.mksl 1 4 (.int .u32 0) (.t 69) (.t 69),none⟩,oM 13 70] (.seq (cS [oM 71 0,oN 72 71,oM 73 12,oN 74 73,oT 75 .sub 72 74,oM 14 75] (.block 0 (.loop (.seq (cS [oM 76 14,da 77 .geq 76 0] (.cond (.t 77) .skip (.exit 0))) (.seq (.block 1 (cS [oM 80 11,oM 81 14,oM 82 14,oM 83 12,oN 84 83,oT 85 .add 82 84,da 86 .add 85 1,⟨some 87,.slice 1 (.t 80) (some (.t 81)) (some (.t 86)) none,none⟩,oM 15 87] (cS [oM 89 15,oM 90 12,qC 91 rO 89 90,oM 88 91,oE 92 88 0,oE 93 88 1,oM 16 92,oM 17 93] (cS [oM 94 13,oM 95 14,oM 96 16,oA 97 1 94 95,oS 1 97 96] (cS [oM 98 15,oC 99 aG 98,oM 100 17,qC 101 jj 99 100,oM 18 101] (cS [oI 19 0] (.block 2 (.loop (.seq (cS [oM 102 19,oM 103 15,oN 104 103,oT 105 .lss 102 104] (.cond (.t 105) .skip (.exit 2))) (.seq (.block 3 (cS [oM 108 15,oM 109 19,oA 110 1 108 109,⟨none,.store 1 (.t 110) (.c (.int .u32 0)),none⟩] (cS [oM 111 19,oM 112 18,oN 113 112,oT 114 .lss 111 113] (.cond (.t 114) (cR [oM 115 15,oM 116 19,oM 117 18,oM 118 19,oA 119 1 117 118,oL 120 1 119,oA 121 1 115 116,oS 1 121 120]) .skip)))) (cR [oM 106 19,da 107 .add 106 1,oM 19 107]))))))))))) (cR [oM 78 14,da 79 .sub 78 1,oM 14 79])))))) (cS [oM 122 13,oC 123 aG 122,oM 124 11,oC 125 aG 124,oM 126 10,qC 127 sS 125 126,oM 4 123,oM 5 127] .ret)))))))))⟩
def kj (aG qI qJ:Nat):aL:=⟨28,[(.cell 4 true 2)],(cS [oX 2 0,oX 3 1,⟨some 4,.box (.c (.agg [(.bool false),.nils])),none⟩] (.seq (.reg (some [(2,4)]) [oF 9 1 2,oL 10 1 9,oC 11 aG 10,oF 12 1 3,oL 13 1 12,oC 14 aG 13,oM 5 11,oM 6 14]) (.seq (.block 0 (.loop (.seq (cS [oM 15 6,oN 16 15,da 17 .gtr 16 0] (.cond (.t 17) .skip (.exit 0))) (.block 1 (cS [oM 19 5,oM 20 6,qC 21 qI 19 20,oM 18 21,oE 22 18 0,oE 23 18 1,oM 7 22,oM 8 23] (cR [oM 24 6,oM 25 8,oM 5 24,oM 6 25])))))) (cS [oM 26 5,⟨some 27,.call (.f qJ) [(.c (.bool false)),(.t 26)],none⟩,oS 2 4 27] .ret))))⟩
def iU (sT kJ:Nat):aL:=⟨34,[(.tmp 2)],(cS [oX 1 0,⟨some 2,.mv (.c (.str [])),none⟩] (cS [jJ 7 2 1,oC 8 sT 7,oS 2 1 8] (cS [⟨some 3,.mv (.c (.str [])),none⟩] (cS [oF 9 1 1,oL 10 1 9,oM 4 10] (.seq (.block 0 (.loop (.seq (cS [oM 11 4,oN 12 11,da 13 .gtr 12 0] (.cond (.t 13) .skip (.exit 0))) (.block 1 (cS [oM 15 4,⟨some 16,.call (.f kJ) [(.t 15),(.c (.int .u32 10))],none⟩,oM 14 16,oE 17 14 0,oE 18 14 1,oM 5 17,oM 6 18] (cS [oM 19 6,⟨some 20,.bin .add .int (.c (.int .u32 48)) (.t 19),none⟩,oK 21 .u8 20,⟨some 22,.buildSl 1 1 (.int .u8 0) [(0,(.t 21))],none⟩,⟨some 23,.bytesStr (.t 22),none⟩,oM 24 3,⟨some 25,.bin .add .str (.t 23) (.t 24),none⟩,oM 3 25] (cR [oM 26 5,oM 4 26]))))))) (.seq (cS [oM 27 3,⟨some 28,.bin .eql .str (.t 27) (.c (.str [])),none⟩] (.cond (.t 28) (cS [⟨some 2,.mv (.c (.str [48])),none⟩] .ret) .skip)) (.seq (cS [oF 29 0 1,oL 30 1 29] (.cond (.t 30) (cS [oM 31 3,⟨some 32,.bin .add .str (.c (.str [45])) (.t 31),none⟩,oM 2 32] .ret) .skip)) (cS [oM 33 3,oM 2 33] .ret))))))))⟩
def jO (ek:Nat):aL:=⟨18,[(.tmp 4)],(cS [oX 2 0,oX 3 1,oB 4 false] (cS [oF 5 0 2,oL 6 1 5,oF 7 0 3,oL 8 1 7,⟨some 9,.bin .eql .bool (.t 6) (.t 8),none⟩,oM 10 9,gF 11 1 2 10 true,gL 12 1 11 10 true,gF 13 1 3 10 true,gL 14 1 13 10 true,⟨some 15,.call (.f ek) [(.t 12),(.t 14)],some (10,true)⟩,⟨some 16,.bin .eql .int (.t 15) (.c (.int .i64 0)),some (10,true)⟩,nY 17 10 16,oM 4 17] .ret))⟩
def rP (lO jP tN tO:Nat):aL:=⟨25,[(.tmp 2)],(cS [oX 1 0,oB 2 false] (cS [oF 3 0 1,jJ 4 2 3,oC 5 lO 4,oM 6 5,gF 7 2 1 6 true,Et 8 2 7 6 true,⟨some 9,.call (.f lO) [.t 8],some (6,true)⟩,nY 10 6 9,oM 11 10,gF 12 2 1 11 true,Et 13 2 12 11 true,⟨some 14,.call (.f jP) [.t 13],some (11,true)⟩,⟨some 15,.bin .gtr .int (.t 14) (.c (.int .i64 0)),some (11,true)⟩,nY 16 11 15,oM 17 16,gF 18 0 1 17 true,Et 19 2 18 17 true,gF 20 2 1 17 true,Et 21 2 20 17 true,⟨some 22,.call (.f tN) [(.t 19),(.t 21)],some (17,true)⟩,⟨some 23,.call (.f tO) [.t 22],some (17,true)⟩,nY 24 17 23,oM 2 24] .ret))⟩
def jQ (kQ:Nat):aL:=⟨17,[(.tmp 4)],(cS [oX 2 0,oX 3 1,oB 4 false] (cS [oF 5 0 2,jJ 6 2 5,oF 7 0 3,jJ 8 2 7,qC 9 kQ 6 8,oM 10 9,gF 11 2 2 10 true,Et 12 2 11 10 true,gF 13 2 3 10 true,Et 14 2 13 10 true,⟨some 15,.call (.f kQ) [(.t 12),(.t 14)],some (10,true)⟩,nY 16 10 15,oM 4 16] .ret))⟩
def et:aL:=⟨38,[(.tmp 4)],(cS [oX 2 0,oX 3 1,oB 4 false] (.seq (cS [oF 6 0 2,oL 7 1 6,oF 8 0 3,oL 9 1 8,⟨some 10,.bin .neq .bool (.t 7) (.t 9),none⟩,oM 11 10,gF 12 1 2 11 false,gL 13 1 12 11 false,gN 14 13 11 false,gF 15 1 3 11 false,gL 16 1 15 11 false,gN 17 16 11 false,gT 18 .neq 14 17 11 false,tf 19 11 18] (.cond (.t 19) (cS [oB 4 false] .ret) .skip)) (.seq (cS [oI 5 0] (.block 0 (.loop (.seq (cS [oM 20 5,oF 21 1 2,oL 22 1 21,oN 23 22,oT 24 .lss 20 23] (.cond (.t 24) .skip (.exit 0))) (.seq (.block 1 (.seq (.reg (some []) [oF 27 1 2,oL 28 1 27,oM 29 5,oA 30 1 28 29,oL 31 1 30,oF 32 1 3,oL 33 1 32,oM 34 5,oA 35 1 33 34,oL 36 1 35,oT 37 .neq 31 36]) (.cond (.t 37) (cS [oB 4 false] .ret) .skip))) (cR [oM 25 5,da 26 .add 25 1,oM 5 26])))))) (cS [oB 4 true] .ret))))⟩
def sU (jP:Nat):aL:=⟨6,[(.tmp 2)],(cS [oX 1 0,oI 2 0] (cS [oF 3 0 1,jJ 4 2 3,oC 5 jP 4,oM 2 5] .ret))⟩
theorem aa8 (neg:Bool) (n:Nat):IV (iL neg n) = .agg [.bool (neg&&decide (0<n)),W n]:=by
 cases neg
 . simp only [IV,iL];simp<;>omega
 . simp only [IV,iL];simp<;>omega
theorem vC {ds:List Nat} {j a:Nat} (h:ds[j]? = some a):val (ds.drop j)=a+au*val (ds.drop (j+1)):=by
 obtain ⟨h1,h2⟩:=List.getElem?_eq_some_iff.1 h
 rw [List.drop_eq_getElem_cons h1,h2];rfl
theorem Uz {ds:List Nat} (h:Wd ds) (k:Nat):Wd (ds.drop k):=fun w hw=>h w (List.mem_of_mem_drop hw)
section
variable {P:Program} {G:Nat->Option (List AV)}
theorem Rh {f:FuncId} (h:Has P f ji) (n:Nat) (hn:n<18446744073709551616):VP P G f [W n] (.int .u64 (n:Int)):=by
 refine VP.has h ?_
 have hwn:=mn n hn
 have XK:IntKind.i64.wrap ((ab n:Int)-1)=(ab n:Int)-1:=by rw [IntKind.wrap_i64];omega
 simp only [ji,SS,Nat.reduceAdd,bc,XK,az]
 refine VW.bG (α := Nat × Nat × Nat) (fun x=>⟨[W n, .top, .top, .int .u64 (x.2.2:Int), .int .i64 ((x.1:Int)-1)]++List.replicate 16 .top,fun _=>none,x.2.1⟩)
   (fun x=>x.1<=ab n/\x.2.2=val ((digits n).drop x.1)) (fun x=>x.1) (ab n,1000,0) ?_ ?_ ?_
 . exact Wk.slots (by simp [Fg,List.replicate]) (by simp only [];omega)
 . refine ⟨Nat.le_refl _, ?_⟩
   show 0=val ((digits n).drop (ab n))
   rw [List.drop_eq_nil_of_le (show (digits n).length<=ab n from Nat.le_refl _)];rfl
 rintro ⟨k,nn,r⟩ ⟨hk,hv⟩
 simp only [] at hk hv
 by_cases h0:k=0
 . subst h0
   have d0:decide ((0:Int)<=((0:Nat):Int)-1)=false:=by decide
   rw [List.drop_zero,aH] at hv
   subst hv
   simp only [SS,Nat.reduceAdd,d0]
   exact ah▸ae rfl (af.int _ _)
 . obtain ⟨j,rfl⟩:∃ j,k=j+1:=⟨k-1,by omega⟩
   have d0:decide ((0:Int)<=(j:Int))=true:=ai (by omega)
   have hj:((j+1:Nat):Int)-1=(j:Int):=by omega
   have MG:IntKind.i64.wrap ((j:Int)-1)=(j:Int)-1:=by rw [IntKind.wrap_i64];omega
   obtain ⟨a,ha⟩:∃ a,(digits n)[j]? = some a:=⟨_,List.getElem?_eq_getElem (show j<ab n by omega)⟩
   have rH:=aK n a (List.mem_of_getElem? ha)
   have f1:=bf a rH
   have C6:r<au:=by
     have h1:=kg (Uz (aK n) (j+1))
     rw [<- hv,List.length_drop] at h1
     have h2:au ^ ((digits n).length-(j+1))<=au ^ 1:=Nat.pow_le_pow_right cP (by show ab n-(j+1)<=1;omega)
     rw [Nat.pow_one] at h2;omega
   have f2:=tJ r C6
   have f3:=B7 r a C6 rH
   have hv':au*r+a=val ((digits n).drop j):=by rw [vC ha,hv,Nat.add_comm]
   have hjw:j<=ab n:=by omega
   simp only [SS,Nat.reduceAdd,d0,hj,cZ ha,ax,bl,f1,f2,f3,MG]
   exact ⟨(j,_,au*r+a),⟨hjw,hv'⟩,Nat.lt_succ_self j,Wk.slots (by simp [Fg]) (Nat.le_refl _)⟩
theorem Im {f:FuncId} (h:Has P f iA) (m n:Nat) (hm:ab m<=1000000) (_hn:ab n<=1000000):VP P G f [W m,W n] (.int .i64 (gr m n)):=by
 refine VP.has h ?_
 simp only [iA,SS,Nat.reduceAdd,bc]
 by_cases hl:ab m=ab n
 case neg =>
   have d:decide ((ab m:Int)≠(ab n:Int))=true:=ai (by omega)
   rcases Nat.lt_or_ge (ab m) (ab n) with h1 | h1
   . have h2:=rG h1
     have d1:decide ((ab m:Int)<(ab n:Int))=true:=ai (by omega)
     have e:gr m n = -1-0:=by unfold gr;rw [uD (by omega)];rfl
     rw [e]
     simp only [SS,Nat.reduceAdd,bc,d,d1]
     exact ah▸ae rfl (af.int _ _)
   . have h1':ab n<ab m:=by omega
     have h2:=rG h1'
     have d1:decide ((ab m:Int)<(ab n:Int))=false:=ag (by omega)
     have e:gr m n=1:=by unfold gr;rw [uE (by omega)]
     rw [e]
     simp only [SS,Nat.reduceAdd,bc,d,d1]
     exact ah▸ae rfl (af.int _ _)
 have d:decide ((ab m:Int)≠(ab n:Int))=false:=ag (by omega)
 have ew:IntKind.i64.wrap ((ab m:Int)-1)=(ab m:Int)-1:=by rw [IntKind.wrap_i64];omega
 have ZL:(digits m).drop (ab m)=(digits n).drop (ab m):=by
   have e1:(digits m).drop (ab m)=[]:=List.drop_of_length_le (Nat.le_refl _)
   have e2:(digits n).drop (ab m)=[]:=List.drop_of_length_le (by show ab n<=ab m;omega)
   rw [e1,e2]
 simp only [SS,Nat.reduceAdd,bc,d,ew,az]
 refine VW.bG (α := Nat × Nat) (fun x=>⟨[W m,W n, .top, .top, .top, .int .i64 ((x.1:Int)-1)]++List.replicate 35 .top,fun _=>none,x.2⟩) (fun x=>x.1<=ab m/\(digits m).drop x.1=(digits n).drop x.1) (fun x=>x.1) (ab m,1000) ?_
   ⟨Nat.le_refl _,ZL⟩ ?_
 . exact Wk.slots (by simp [Fg,List.replicate]) (by simp only [];omega)
 rintro ⟨j,q⟩ ⟨hj,hd⟩
 simp only [] at hj hd
 simp only [SS,Nat.reduceAdd]
 by_cases h0:j=0
 . subst h0
   have d0:decide ((0:Int)<=((0:Nat):Int)-1)=false:=by decide
   simp only [SS,d0]
   have e:m=n:=by
     simp only [List.drop_zero] at hd
     rw [<- aH m,hd,aH]
   have e2:gr m n=0:=FZ (by omega)
   rw [e2]
   exact ah▸ae rfl (af.int _ _)
 . have mK:0<j:=Nat.pos_of_ne_zero h0
   have d0:decide ((0:Int)<=((j-1:Nat):Int))=true:=ai (by omega)
   have ej:(j:Int)-1=((j-1:Nat):Int):=by omega
   have XE:j-1<(digits m).length:=by show j-1<ab m;omega
   have JZ:j-1<(digits n).length:=by show j-1<ab n;omega
   have ew2:IntKind.i64.wrap (((j-1:Nat):Int)-1)=((j-1:Nat):Int)-1:=by rw [IntKind.wrap_i64];omega
   obtain ⟨x,hx⟩:∃ x,(digits m)[j-1]? = some x:=⟨_,List.getElem?_eq_getElem XE⟩
   obtain ⟨y,hy⟩:∃ y,(digits n)[j-1]? = some y:=⟨_,List.getElem?_eq_getElem JZ⟩
   have PC:(digits m).drop (j-1+1)=(digits n).drop (j-1+1):=by rw [show j-1+1=j from by omega];exact hd
   rcases Nat.lt_trichotomy x y with h1 | h1 | h1
   . have e:gr m n = -1-0:=by
       have:=AY (aK m) (aK n) hl hx hy PC h1
       rw [aH,aH] at this
       unfold gr;rw [uD (by omega)];rfl
     have d1:decide ((x:Int)<(y:Int))=true:=ai (by omega)
     rw [e]
     simp only [SS,DD,Nat.reduceAdd,d0,ej,cZ hx,cZ hy,ax,bl,d1]
     refine ⟨by simp [aJ], ?_⟩
     exact ah▸ae rfl (af.int _ _)
   . have d1:decide ((x:Int)<(y:Int))=false:=ag (by omega)
     have d2:decide ((y:Int)<(x:Int))=false:=ag (by omega)
     simp only [SS,DD,Nat.reduceAdd,d0,ej,cZ hx,cZ hy,ax,bl,d1]
     refine ⟨by simp [aJ], ?_⟩
     simp only [SS,Nat.reduceAdd,d2,ew2]
     refine ⟨by simp [aJ],(j-1,_),⟨by simp only [];omega, ?_⟩,by simp only [];omega,Wk.slots (by simp [Fg]) (Nat.le_refl _)⟩
     simp only []
     rw [List.drop_eq_getElem_cons XE,List.drop_eq_getElem_cons JZ,PC]
     obtain ⟨_,h1'⟩:=List.getElem?_eq_some_iff.1 hx
     obtain ⟨_,Tx⟩:=List.getElem?_eq_some_iff.1 hy
     rw [h1',Tx,h1]
   . have e:gr m n=1:=by
       have:=AY (aK n) (aK m) hl.symm hy hx PC.symm h1
       rw [aH,aH] at this
       unfold gr;rw [uE (by omega)]
     have d1:decide ((x:Int)<(y:Int))=false:=ag (by omega)
     have d2:decide ((y:Int)<(x:Int))=true:=ai (by omega)
     rw [e]
     simp only [SS,DD,Nat.reduceAdd,d0,ej,cZ hx,cZ hy,ax,bl,d1]
     refine ⟨by simp [aJ], ?_⟩
     simp only [SS,d2]
     refine ⟨by simp [aJ], ?_⟩
     exact ah▸ae rfl (af.int _ _)
end
theorem uH {x y c:Nat} (hx:x<au) (hy:y<au) (hc:c<=1):∃ w c':Nat,w<au/\c'<=1/\w+y+c=x+au*c' /\
   (∃ d:Nat,IntKind.u64.wrap (IntKind.u64.wrap (IntKind.u64.wrap ((x:Int)+4294967296)-(y:Int))-(c:Int))=(d:Int)/\IntKind.u32.wrap (d:Int)=(w:Int)/\IntKind.u64.wrap (1-((d/au:Nat):Int))=(c':Int)):=by
 have h1:IntKind.u64.wrap ((x:Int)+4294967296)=((x+4294967296:Nat):Int):=by rw [IntKind.wrap_u64];unfold au at *;omega
 have h2:IntKind.u64.wrap (((x+4294967296:Nat):Int)-(y:Int))=((x+4294967296-y:Nat):Int):=by rw [IntKind.wrap_u64];unfold au at *;omega
 have h3:IntKind.u64.wrap (((x+4294967296-y:Nat):Int)-(c:Int))=((x+4294967296-y-c:Nat):Int):=by rw [IntKind.wrap_u64];unfold au at *;omega
 rw [h1,h2,h3]
 unfold au at *
 by_cases h:y+c<=x
 . refine ⟨x-y-c,0,by omega,by omega,by omega,_,rfl, ?_, ?_⟩
   . rw [IntKind.wrap_u32];omega
   . rw [IntKind.wrap_u64];omega
 . refine ⟨x+4294967296-y-c,1,by omega,by omega,by omega,_,rfl, ?_, ?_⟩
   . rw [IntKind.wrap_u32];omega
   . rw [IntKind.wrap_u64];omega
section
variable {P:Program} {G:Nat->Option (List AV)}
set_option maxHeartbeats 1000000 in
theorem Ri {f ft:FuncId} (h:Has P f (jM ft)) (ht:gU P G ft) (m n:Nat) (hm:ab m<=1000000) (hn:ab n<=1000000):VP P G f [W m,W n] (W (m+n)):=by
 refine VP.has h ?_
 simp only [jM,SS,Nat.reduceAdd,bc]
 by_cases Rj:(¬ ab m<ab n)
 . have d0:decide ((ab m:Int)<(ab n:Int))=false:=by first | exact ai (by omega) | exact ag (by omega)
   have hL:=lM (ab m) 1 (by omega)
   have hL':IntKind.i64.wrap ((ab m:Int)+1)=((ab m+1:Nat):Int):=hL
   have uR:∀ p:Id,j4 p 1 4 (.int .u32 0) (.int .i64 ((ab m+1:Nat):Int)) (.int .i64 ((ab m+1:Nat):Int))=some { val := .osl p 1 0 (ab m+1) false,up:=[(p,some ⟨us (List.replicate (ab m+1) 0),1,false⟩)] }:=fun p=>lg (by omega)
   simp only [SS,Nat.reduceAdd,bc,d0,hL',uR,az]
   refine VW.bG (α := Nat × Nat × List Nat × Nat) (fun x=>⟨[W m,W n, .top, .top, .top, .osl [9] 1 0 (ab m+1) false, .int .u64 (x.2.2.2:Int), .int .i64 (x.1:Int)]++List.replicate 50 .top,
     aa.put (fun _=>none) [9] (some ⟨us (x.2.2.1++zs (ab m+1-x.1)),1,false⟩),x.2.1⟩)
     (fun x=>x.1<=ab m/\x.2.2.1.length=x.1/\Wd x.2.2.1/\x.2.2.2<=1/\val x.2.2.1+au ^ x.1*x.2.2.2=val ((digits m).take x.1)+val ((digits n).take x.1)) (fun x=>ab m-x.1) (0,1000,[],0) ?_ ?_ ?_
   . exact Wk.slots (by simp [Fg,List.replicate]) (by simp only [];omega)
   . exact ⟨Nat.zero_le _,rfl,by intro w hw;simp at hw,Nat.zero_le _,by simp [val]⟩
   rintro ⟨i,nn,o,c⟩ ⟨hi,ho,hwd,hc,hv⟩
   simp only [] at hi ho hwd hc hv
   have oH:i<ab m->decide ((i:Int)<(ab m:Int))=true:=fun h=>ai (by omega)
   have hd2 : ¬ i<ab m->decide ((i:Int)<(ab m:Int))=false:=fun h=>ag (by omega)
   have H7:i<ab n->decide ((i:Int)<(ab n:Int))=true:=fun h=>ai (by omega)
   have H8 : ¬ i<ab n->decide ((i:Int)<(ab n:Int))=false:=fun h=>ag (by omega)
   have cI : ¬ i<ab m->i=ab m:=by omega
   have py:=ao i (by omega)
   have ic:i<ab m->i+1<=ab m/\ab m-(i+1)<ab m-i:=fun h=>by omega
   have fT:=cA (q:=[9]) (t:=false) (show i<ab m+1 by omega)
   obtain ⟨k,hk⟩:∃ k,ab m+1-i=k+1:=⟨ab m-i,by omega⟩
   have zL:ab m+1-(i+1)=k:=by omega
   have lF:i<(o++0::zs k).length:=by simp;omega
   by_cases hlt:i<ab m
   . obtain ⟨x,hx⟩:∃ x,(digits m)[i]? = some x:=⟨_,List.getElem?_eq_getElem hlt⟩
     have oJ:=aK m x (List.mem_of_getElem? hx)
     have f1:=bf x oJ
     have f2:=mN c x (by unfold au at oJ;omega)
     by_cases hb:i<ab n
     . obtain ⟨y,hy⟩:∃ y,(digits n)[i]? = some y:=⟨_,List.getElem?_eq_getElem hb⟩
       have y7:=aK n y (List.mem_of_getElem? hy)
       have f3:=bf y y7
       have f4:=mN (c+x) y (by unfold au at oJ y7;omega)
       have hst:=kO (x:=x) (y:=y) ho hv rfl
       have hc':(c+x+y)/au<=1:=by unfold au at *;omega
       simp only [SS,Nat.reduceAdd,bc,oH hlt,cZ hx,ax,bl,f1,f2,H7 hb,cZ hy,f3,f4,fT,sK,hk,iq]
       rw [bL (o:=o++0::zs k) (by simp [aa.put]) lF,fB _ _ _ _ ho]
       simp only [SS,Nat.reduceAdd,mb,py]
       refine ⟨(i+1,_,o++[(c+x+y)%au],(c+x+y)/au),⟨(ic hlt).1,by simp [ho],mD hwd _,hc', ?_⟩,(ic hlt).2,Wk.forget (by simp [Fg]) (fun j => ?_) (Nat.le_refl _)⟩
       . show val (o++[(c+x+y)%au])+_=val ((digits m).take (i+1))+val ((digits n).take (i+1))
         rw [aC hx,aC hy];exact hst
       . simp only [aa.put,zL];split<;>simp
     . have hst:=kO (x:=x) (y:=0) ho hv rfl
       rw [Nat.mul_zero,Nat.add_zero,Nat.add_zero] at hst
       have hc':(c+x)/au<=1:=by unfold au at *;omega
       simp only [SS,Nat.reduceAdd,bc,oH hlt,cZ hx,ax,bl,f1,f2,H8 hb,fT,sK,hk,iq]
       rw [bL (o:=o++0::zs k) (by simp [aa.put]) lF,fB _ _ _ _ ho]
       simp only [SS,Nat.reduceAdd,mb,py]
       refine ⟨(i+1,_,o++[(c+x)%au],(c+x)/au),⟨(ic hlt).1,by simp [ho],mD hwd _,hc', ?_⟩,(ic hlt).2,Wk.forget (by simp [Fg]) (fun j => ?_) (Nat.le_refl _)⟩
       . show val (o++[(c+x)%au])+_=val ((digits m).take (i+1))+val ((digits n).take (i+1))
         rw [aC hx,iz (show (digits n).length<=i from by show ab n<=i;omega)];exact hst
       . simp only [aa.put,zL];split<;>simp
   . have mE:=cI hlt
     have hcB:c<au:=by unfold au;omega
     have f5:IntKind.u32.wrap (c:Int)=(c:Int):=by rw [sK,Nat.mod_eq_of_lt hcB]
     have Ya:=cA (q:=[9]) (t:=false) (show ab m<ab m+1 by omega)
     have J3:k=0:=by omega
     have sD:ab m<(o++0::zs k).length:=by simp;omega
     have e1:(digits m).take (ab m)=digits m:=List.take_of_length_le (Nat.le_refl _)
     have e2:(digits n).take (ab m)=digits n:=List.take_of_length_le (by show ab n<=ab m;omega)
     have vQ:val (o++[c])=m+n:=by
       rw [cj,ho];simp only [val,Nat.mul_zero,Nat.add_zero]
       rw [hv,mE,e1,e2,aH,aH]
       all_goals omega
     have Uq:Wd (o++[c]):=cw hwd (by intro z hz;simp at hz;subst hz;exact hcB)
     have rz:ab m+1=(o++[c]).length:=by simp [ho,mE]
     have uB:=ht (o++[c]) Uq (by rw [<- rz];omega)
     rw [vQ] at uB
     simp only [SS,Nat.reduceAdd,bc,hd2 hlt,f5,Ya,hk,iq]
     rw [bL (o:=o++0::zs k) (by simp [aa.put]) sD,fB _ _ _ _ (ho.trans mE),J3,rI]
     simp only [SS,Nat.reduceAdd]
     refine cW [([9],⟨us (o++[c]),1,false⟩)] uB (aI.cons (gC rz) aI.nil) (by simp [aa.put]) ?_
     simp only [SS,Nat.reduceAdd]
     exact ah▸ae rfl (bp _)
 by_cases UA:(ab m<ab n)
 . have d0:decide ((ab m:Int)<(ab n:Int))=true:=by first | exact ai (by omega) | exact ag (by omega)
   have hL:=lM (ab n) 1 (by omega)
   have hL':IntKind.i64.wrap ((ab n:Int)+1)=((ab n+1:Nat):Int):=hL
   have uR:∀ p:Id,j4 p 1 4 (.int .u32 0) (.int .i64 ((ab n+1:Nat):Int)) (.int .i64 ((ab n+1:Nat):Int))=some { val := .osl p 1 0 (ab n+1) false,up:=[(p,some ⟨us (List.replicate (ab n+1) 0),1,false⟩)] }:=fun p=>lg (by omega)
   simp only [SS,Nat.reduceAdd,bc,d0,hL',uR,az]
   refine VW.bG (α := Nat × Nat × List Nat × Nat) (fun x=>⟨[W n,W m, .top, .top, .top, .osl [13] 1 0 (ab n+1) false, .int .u64 (x.2.2.2:Int), .int .i64 (x.1:Int)]++List.replicate 50 .top,
     aa.put (fun _=>none) [13] (some ⟨us (x.2.2.1++zs (ab n+1-x.1)),1,false⟩),x.2.1⟩)
     (fun x=>x.1<=ab n/\x.2.2.1.length=x.1/\Wd x.2.2.1/\x.2.2.2<=1/\val x.2.2.1+au ^ x.1*x.2.2.2=val ((digits n).take x.1)+val ((digits m).take x.1)) (fun x=>ab n-x.1) (0,1000,[],0) ?_ ?_ ?_
   . exact Wk.slots (by simp [Fg,List.replicate]) (by simp only [];omega)
   . exact ⟨Nat.zero_le _,rfl,by intro w hw;simp at hw,Nat.zero_le _,by simp [val]⟩
   rintro ⟨i,nn,o,c⟩ ⟨hi,ho,hwd,hc,hv⟩
   simp only [] at hi ho hwd hc hv
   have oH:i<ab n->decide ((i:Int)<(ab n:Int))=true:=fun h=>ai (by omega)
   have hd2 : ¬ i<ab n->decide ((i:Int)<(ab n:Int))=false:=fun h=>ag (by omega)
   have H7:i<ab m->decide ((i:Int)<(ab m:Int))=true:=fun h=>ai (by omega)
   have H8 : ¬ i<ab m->decide ((i:Int)<(ab m:Int))=false:=fun h=>ag (by omega)
   have cI : ¬ i<ab n->i=ab n:=by omega
   have py:=ao i (by omega)
   have ic:i<ab n->i+1<=ab n/\ab n-(i+1)<ab n-i:=fun h=>by omega
   have fT:=cA (q:=[13]) (t:=false) (show i<ab n+1 by omega)
   obtain ⟨k,hk⟩:∃ k,ab n+1-i=k+1:=⟨ab n-i,by omega⟩
   have zL:ab n+1-(i+1)=k:=by omega
   have lF:i<(o++0::zs k).length:=by simp;omega
   by_cases hlt:i<ab n
   . obtain ⟨x,hx⟩:∃ x,(digits n)[i]? = some x:=⟨_,List.getElem?_eq_getElem hlt⟩
     have oJ:=aK n x (List.mem_of_getElem? hx)
     have f1:=bf x oJ
     have f2:=mN c x (by unfold au at oJ;omega)
     by_cases hb:i<ab m
     . obtain ⟨y,hy⟩:∃ y,(digits m)[i]? = some y:=⟨_,List.getElem?_eq_getElem hb⟩
       have y7:=aK m y (List.mem_of_getElem? hy)
       have f3:=bf y y7
       have f4:=mN (c+x) y (by unfold au at oJ y7;omega)
       have hst:=kO (x:=x) (y:=y) ho hv rfl
       have hc':(c+x+y)/au<=1:=by unfold au at *;omega
       simp only [SS,Nat.reduceAdd,bc,oH hlt,cZ hx,ax,bl,f1,f2,H7 hb,cZ hy,f3,f4,fT,sK,hk,iq]
       rw [bL (o:=o++0::zs k) (by simp [aa.put]) lF,fB _ _ _ _ ho]
       simp only [SS,Nat.reduceAdd,mb,py]
       refine ⟨(i+1,_,o++[(c+x+y)%au],(c+x+y)/au),⟨(ic hlt).1,by simp [ho],mD hwd _,hc', ?_⟩,(ic hlt).2,Wk.forget (by simp [Fg]) (fun j => ?_) (Nat.le_refl _)⟩
       . show val (o++[(c+x+y)%au])+_=val ((digits n).take (i+1))+val ((digits m).take (i+1))
         rw [aC hx,aC hy];exact hst
       . simp only [aa.put,zL];split<;>simp
     . have hst:=kO (x:=x) (y:=0) ho hv rfl
       rw [Nat.mul_zero,Nat.add_zero,Nat.add_zero] at hst
       have hc':(c+x)/au<=1:=by unfold au at *;omega
       simp only [SS,Nat.reduceAdd,bc,oH hlt,cZ hx,ax,bl,f1,f2,H8 hb,fT,sK,hk,iq]
       rw [bL (o:=o++0::zs k) (by simp [aa.put]) lF,fB _ _ _ _ ho]
       simp only [SS,Nat.reduceAdd,mb,py]
       refine ⟨(i+1,_,o++[(c+x)%au],(c+x)/au),⟨(ic hlt).1,by simp [ho],mD hwd _,hc', ?_⟩,(ic hlt).2,Wk.forget (by simp [Fg]) (fun j => ?_) (Nat.le_refl _)⟩
       . show val (o++[(c+x)%au])+_=val ((digits n).take (i+1))+val ((digits m).take (i+1))
         rw [aC hx,iz (show (digits m).length<=i from by show ab m<=i;omega)];exact hst
       . simp only [aa.put,zL];split<;>simp
   . have mE:=cI hlt
     have hcB:c<au:=by unfold au;omega
     have f5:IntKind.u32.wrap (c:Int)=(c:Int):=by rw [sK,Nat.mod_eq_of_lt hcB]
     have Ya:=cA (q:=[13]) (t:=false) (show ab n<ab n+1 by omega)
     have J3:k=0:=by omega
     have sD:ab n<(o++0::zs k).length:=by simp;omega
     have e1:(digits n).take (ab n)=digits n:=List.take_of_length_le (Nat.le_refl _)
     have e2:(digits m).take (ab n)=digits m:=List.take_of_length_le (by show ab m<=ab n;omega)
     have vQ:val (o++[c])=m+n:=by
       rw [cj,ho];simp only [val,Nat.mul_zero,Nat.add_zero]
       rw [hv,mE,e1,e2,aH,aH]
       all_goals omega
     have Uq:Wd (o++[c]):=cw hwd (by intro z hz;simp at hz;subst hz;exact hcB)
     have rz:ab n+1=(o++[c]).length:=by simp [ho,mE]
     have uB:=ht (o++[c]) Uq (by rw [<- rz];omega)
     rw [vQ] at uB
     simp only [SS,Nat.reduceAdd,bc,hd2 hlt,f5,Ya,hk,iq]
     rw [bL (o:=o++0::zs k) (by simp [aa.put]) sD,fB _ _ _ _ (ho.trans mE),J3,rI]
     simp only [SS,Nat.reduceAdd]
     refine cW [([13],⟨us (o++[c]),1,false⟩)] uB (aI.cons (gC rz) aI.nil) (by simp [aa.put]) ?_
     simp only [SS,Nat.reduceAdd]
     exact ah▸ae rfl (bp _)
 exact absurd UA Rj
set_option maxHeartbeats 1000000 in
theorem EE {f ft:FuncId} (h:Has P f (dQ ft)) (ht:gU P G ft) (m n:Nat) (yI:n<=m) (hm:ab m<=1000000):VP P G f [W m,W n] (W (m-n)):=by
 refine VP.has h ?_
 have hwn:=c9 yI
 have uR:∀ p:Id,j4 p 1 4 (.int .u32 0) (.int .i64 (ab m:Int)) (.int .i64 (ab m:Int))=some { val := .osl p 1 0 (ab m) false,up:=[(p,some ⟨us (List.replicate (ab m) 0),1,false⟩)] }:=fun p=>lg (by omega)
 simp only [dQ,SS,Nat.reduceAdd,bc,uR,az]
 refine VW.bG (α := Nat × Nat × List Nat × Nat) (fun x=>⟨[W m,W n, .top, .top, .top, .osl [3] 1 0 (ab m) false, .int .u64 (x.2.2.2:Int), .int .i64 (x.1:Int)]++List.replicate 40 .top,
   aa.put (fun _=>none) [3] (some ⟨us (x.2.2.1++zs (ab m-x.1)),1,false⟩),x.2.1⟩)
   (fun x=>x.1<=ab m/\x.2.2.1.length=x.1/\Wd x.2.2.1/\x.2.2.2<=1/\val x.2.2.1+val ((digits n).take x.1)=val ((digits m).take x.1)+au ^ x.1*x.2.2.2) (fun x=>ab m-x.1) (0,1000,[],0) ?_ ?_ ?_
 . exact Wk.slots (by simp [Fg,List.replicate]) (by simp only [];omega)
 . exact ⟨Nat.zero_le _,rfl,by intro w hw;simp at hw,Nat.zero_le _,by simp [val]⟩
 rintro ⟨i,nn,o,c⟩ ⟨hi,ho,hwd,hc,hv⟩
 simp only [] at hi ho hwd hc hv
 have oH:i<ab m->decide ((i:Int)<(ab m:Int))=true:=fun h=>ai (by omega)
 have hd2 : ¬ i<ab m->decide ((i:Int)<(ab m:Int))=false:=fun h=>ag (by omega)
 have H7:i<ab n->decide ((i:Int)<(ab n:Int))=true:=fun h=>ai (by omega)
 have H8 : ¬ i<ab n->decide ((i:Int)<(ab n:Int))=false:=fun h=>ag (by omega)
 have cI : ¬ i<ab m->i=ab m:=by omega
 have py:=ao i (by omega)
 have ic:i<ab m->i+1<=ab m/\ab m-(i+1)<ab m-i:=fun h=>by omega
 by_cases hlt:i<ab m
 . obtain ⟨x,hx⟩:∃ x,(digits m)[i]? = some x:=⟨_,List.getElem?_eq_getElem hlt⟩
   have oJ:=aK m x (List.mem_of_getElem? hx)
   have f1:=bf x oJ
   have fT:=cA (q:=[3]) (t:=false) hlt
   obtain ⟨k,hk⟩:∃ k,ab m-i=k+1:=⟨ab m-i-1,by omega⟩
   have zL:ab m-(i+1)=k:=by omega
   have lF:i<(o++0::zs k).length:=by simp;omega
   by_cases hb:i<ab n
   . obtain ⟨y,hy⟩:∃ y,(digits n)[i]? = some y:=⟨_,List.getElem?_eq_getElem hb⟩
     have y7:=aK n y (List.mem_of_getElem? hy)
     have f3:=bf y y7
     obtain ⟨w,c',h1,h2,h3,d,h4,h5,h6⟩:=uH oJ y7 hc
     have hst:=lu (va:=val ((digits m).take i)) (vb:=val ((digits n).take i)) (x:=x) (y:=y) (c:=c) (w:=w) (c':=c') ho (by rw [hv];omega) h3
     simp only [SS,Nat.reduceAdd,bc,oH hlt,cZ hx,ax,bl,f1,H7 hb,cZ hy,f3,h4,h5,fT,hk,iq]
     rw [bL (o:=o++0::zs k) (by simp [aa.put]) lF,fB _ _ _ _ ho]
     simp only [SS,Nat.reduceAdd,mb,h6,py]
     refine ⟨(i+1,_,o++[w],c'),⟨(ic hlt).1,by simp [ho],cw hwd (by intro z hz;simp at hz;subst hz;exact h1),h2, ?_⟩,(ic hlt).2,Wk.forget (by simp [Fg]) (fun j => ?_) (Nat.le_refl _)⟩
     . show val (o++[w])+val ((digits n).take (i+1))=val ((digits m).take (i+1))+_
       rw [aC hx,aC hy];exact hst
     . simp only [aa.put,zL];split<;>simp
   . obtain ⟨w,c',h1,h2,h3,d,h4,h5,h6⟩:=uH (y:=0) oJ cP hc
     have h4':IntKind.u64.wrap (IntKind.u64.wrap (IntKind.u64.wrap ((x:Int)+4294967296)-0)-(c:Int))=(d:Int):=h4
     have hst:=lu (va:=val ((digits m).take i)) (vb:=val ((digits n).take i)) (x:=x) (y:=0) (c:=c) (w:=w) (c':=c') ho (by rw [hv];omega) h3
     rw [Nat.mul_zero,Nat.add_zero] at hst
     simp only [SS,Nat.reduceAdd,bc,oH hlt,cZ hx,ax,bl,f1,H8 hb,h4',h5,fT,hk,iq]
     rw [bL (o:=o++0::zs k) (by simp [aa.put]) lF,fB _ _ _ _ ho]
     simp only [SS,Nat.reduceAdd,mb,h6,py]
     refine ⟨(i+1,_,o++[w],c'),⟨(ic hlt).1,by simp [ho],cw hwd (by intro z hz;simp at hz;subst hz;exact h1),h2, ?_⟩,(ic hlt).2,Wk.forget (by simp [Fg]) (fun j => ?_) (Nat.le_refl _)⟩
     . show val (o++[w])+val ((digits n).take (i+1))=val ((digits m).take (i+1))+_
       rw [aC hx,iz (show (digits n).length<=i from by show ab n<=i;omega)];exact hst
     . simp only [aa.put,zL];split<;>simp
 . have mE:=cI hlt
   have e1:(digits m).take (ab m)=digits m:=List.take_of_length_le (Nat.le_refl _)
   have e2:(digits n).take (ab m)=digits n:=List.take_of_length_le (by show ab n<=ab m;omega)
   have vQ:val o=m-n:=by
     rw [mE,e1,e2,aH,aH] at hv
     have pV:=kg hwd
     rw [ho,mE] at pV
     rcases Nat.eq_zero_or_pos c with h0 | h0
     . subst h0;omega
     . have:c=1:=by omega
       subst this;have:=cG m;omega
   have rz:ab m=o.length:=by omega
   have e3:zs (ab m-i)=[]:=by rw [mE,Nat.sub_self];rfl
   have uB:=ht o hwd (by omega)
   rw [vQ] at uB
   simp only [SS,Nat.reduceAdd,bc,hd2 hlt,e3]
   refine cW [([3],⟨us o,1,false⟩)] uB (aI.cons (gC rz) aI.nil) (by simp [aa.put]) ?_
   simp only [SS,Nat.reduceAdd]
   exact ah▸ae rfl (bp _)
end
section
variable {P:Program} {G:Nat->Option (List AV)}
set_option maxHeartbeats 1000000 in
theorem Ci {f ft:FuncId} (h:Has P f (gD ft)) (ht:gU P G ft) (m:Nat) {ws:List Nat} (hws:Wd ws) (hm:ab m<=1000000) (hn:ws.length<=1000000):VP P G f [W m, .sl 1 (us ws)] (W (m*val ws)):=by
 refine VP.has h ?_
 have uR:∀ p:Id,j4 p 1 4 (.int .u32 0) (.int .i64 ((ab m+ws.length:Nat):Int)) (.int .i64 ((ab m+ws.length:Nat):Int))=some { val := .osl p 1 0 (ab m+ws.length) false,up:=[(p,some ⟨us (List.replicate (ab m+ws.length) 0),1,false⟩)] }:=fun p=>lg (by omega)
 have hL:=lM (ab m) (ws.length) (by omega)
 simp only [gD,SS,Nat.reduceAdd,bc,dD,hL,uR,az]
 refine VW.bG (α := Nat × Nat × List Nat) (fun x=>⟨[W m, .sl 1 (us ws), .top, .top, .top, .osl [6] 1 0 (ab m+ws.length) false, .int .i64 (x.1:Int)]++List.replicate 60 .top,
   aa.put (fun _=>none) [6] (some ⟨us x.2.2,1,false⟩),x.2.1⟩)
   (fun x=>x.1<=ab m/\x.2.2.length=ab m+ws.length/\Wd x.2.2/\val x.2.2=val ((digits m).take x.1)*val ws) (fun x=>ab m-x.1) (0,1000,List.replicate (ab m+ws.length) 0) ?_ ?_ ?_
 . exact Wk.slots (by simp [Fg,List.replicate]) (by simp only [];omega)
 . exact ⟨Nat.zero_le _,List.length_replicate ..,B4 _,by simp only [];rw [yZ (fun w hw=>List.eq_of_mem_replicate hw)];simp [val]⟩
 rintro ⟨i,nn,o⟩ ⟨hi,ho,hwd,hv⟩
 simp only [] at hi ho hwd hv
 have oH:i<ab m->decide ((i:Int)<(ab m:Int))=true:=fun h=>ai (by omega)
 have hd2 : ¬ i<ab m->decide ((i:Int)<(ab m:Int))=false:=fun h=>ag (by omega)
 have cI : ¬ i<ab m->i=ab m:=by omega
 have py:=ao i (by omega)
 have ic:i<ab m->i+1<=ab m/\ab m-(i+1)<ab m-i:=fun h=>by omega
 have pc:=lM i (ws.length) (by omega)
 have Kq:i<ab m->i+ws.length<ab m+ws.length:=fun h=>by omega
 by_cases hlt:i<ab m
 . obtain ⟨a,ha⟩:∃ a,(digits m)[i]? = some a:=⟨_,List.getElem?_eq_getElem hlt⟩
   have rH:=aK m a (List.mem_of_getElem? ha)
   have f1:=bf a rH
   have TG:o[i+ws.length]? = some 0:=by
     obtain ⟨y,hy⟩:∃ y,o[i+ws.length]? = some y:=⟨_,List.getElem?_eq_getElem (by rw [ho];exact Kq hlt)⟩
     have e:=B5 (k:=i+ws.length) (by
       rw [hv,Nat.pow_add]
       have h2:val ((digits m).take i)<au ^ i:=by
         have:=kg (pw (aK m) i)
         rwa [List.length_take,Nat.min_eq_left (show i<=(digits m).length from Nat.le_of_lt hlt)] at this
       exact Nat.mul_lt_mul'' h2 (kg hws)) hy
     rw [e] at hy;exact hy
   simp only [SS,Nat.reduceAdd,bc,oH hlt,az]
   refine VW.bG (α := Nat × Nat × List Nat × Nat) (fun x=>⟨[W m, .sl 1 (us ws), .top, .top, .top, .osl [6] 1 0 (ab m+ws.length) false, .int .i64 (i:Int), .int .u64 (x.2.2.2:Int), .int .i64 (x.1:Int)]++List.replicate 58 .top,
     aa.put (fun _=>none) [6] (some ⟨us x.2.2.1,1,false⟩),x.2.1⟩)
     (fun x=>x.1<=ws.length/\x.2.2.1.length=ab m+ws.length/\Wd x.2.2.1/\x.2.2.2<au/\x.2.2.1[i+ws.length]? = some 0/\val x.2.2.1+au ^ (i+x.1)*x.2.2.2=val o+au ^ i*(a*val (ws.take x.1))) (fun x=>ws.length-x.1) (0,nn+1000,o,0) ?_ ?_ ?_
   . exact Wk.slots (by simp [Fg,List.replicate]) (by simp only [];omega)
   . exact ⟨Nat.zero_le _,ho,hwd,cP,TG,by simp [val]⟩
   rintro ⟨j,mm,o',c⟩ ⟨hj,H6,F2,hc,hz,hv'⟩
   simp only [] at hj H6 F2 hc hz hv'
   have H7:j<ws.length->decide ((j:Int)<(ws.length:Int))=true:=fun h=>ai (by omega)
   have H8 : ¬ j<ws.length->decide ((j:Int)<(ws.length:Int))=false:=fun h=>ag (by omega)
   have u7 : ¬ j<ws.length->j=ws.length:=by omega
   have MG:=ao j (by omega)
   have mV:j<ws.length->j+1<=ws.length/\ws.length-(j+1)<ws.length-j:=fun h=>by omega
   have Kf:=lM i j (by omega)
   have Kr:j<ws.length->i+j<ab m+ws.length:=fun h=>by omega
   have hne:j<ws.length->i+j≠i+ws.length:=fun h=>by omega
   by_cases yE:j<ws.length
   . obtain ⟨b,hb⟩:∃ b,ws[j]? = some b:=⟨_,List.getElem?_eq_getElem yE⟩
     have wN:=hws b (List.mem_of_getElem? hb)
     have f2:=bf b wN
     obtain ⟨z,XH⟩:∃ z,o'[i+j]? = some z:=⟨_,List.getElem?_eq_getElem (by rw [H6];exact Kr yE)⟩
     have Up:=F2 z (List.mem_of_getElem? XH)
     have f3:=bf z Up
     have f4:=MF a b rH wN
     have hle:=Kp rH wN
     have f5:=mN c z (by unfold au at Up hc;omega)
     have f6:=mN (c+z) (a*b) (by unfold au at Up hc;omega)
     have hc':(c+z+a*b)/au<au:=by unfold au at Up hc ⊢;omega
     have fT:=cA (q:=[6]) (t:=false) (Kr yE)
     have hst:=Ew (x:=a) (y:=b) (s:=c+z+a*b) XH hv' (by omega)
     simp only [SS,DD,Nat.reduceAdd,dD,H7 yE,Kf,fT]
     rw [im (o:=o') (b:=false) (by simp [aa.put]) XH]
     simp only [SS,DD,Nat.reduceAdd,f3,f5,cZ ha,aN rfl (tI hb),ax,bl,f1,f2,f4,f6]
     refine ⟨by simp [aJ], ?_⟩
     simp only [SS,Nat.reduceAdd,sK,Kf,fT]
     rw [bL (o:=o') (by simp [aa.put]) (by rw [H6];exact Kr yE)]
     simp only [SS,Nat.reduceAdd,mb,MG]
     refine ⟨(j+1,_,o'.set (i+j) ((c+z+a*b)%au),(c+z+a*b)/au),⟨(mV yE).1,by simp [H6],F1 F2 (Nat.mod_lt _ cP),hc', ?_, ?_⟩,(mV yE).2,Wk.forget (by simp [Fg]) (fun j => ?_) (Nat.le_refl _)⟩
     . rw [List.getElem?_set_ne (hne yE)];exact hz
     . show _=val o+au ^ i*(a*val (ws.take (j+1)))
       rw [aC hb];exact hst
     . simp only [aa.put];split<;>simp
   . have hjw:=u7 yE
     have fT:=cA (q:=[6]) (t:=false) (Kq hlt)
     have f7:IntKind.u32.wrap (c:Int)=(c:Int):=by rw [sK,Nat.mod_eq_of_lt hc]
     have hval:val (o'.set (i+ws.length) c)=val ((digits m).take (i+1))*val ws:=by
       have e:=AZ (x:=c) hz
       have e2:ws.take ws.length=ws:=List.take_of_length_le (Nat.le_refl _)
       rw [hjw,e2,hv] at hv'
       rw [aC ha,Nat.add_mul]
       have e3:au ^ i*a*val ws=au ^ i*(a*val ws):=Nat.mul_assoc _ _ _
       omega
     simp only [SS,Nat.reduceAdd,dD,H8 yE,pc,f7,fT]
     rw [bL (o:=o') (by simp [aa.put]) (by rw [H6];exact Kq hlt)]
     simp only [SS,Nat.reduceAdd,py]
     refine ⟨(i+1,_,o'.set (i+ws.length) c),⟨(ic hlt).1,by simp [H6],F1 F2 hc,hval⟩,(ic hlt).2,Wk.forget (by simp [Fg]) (fun j => ?_) (Nat.le_refl _)⟩
     simp only [aa.put];split<;>simp
 . have mE:=cI hlt
   have e1:(digits m).take (ab m)=digits m:=List.take_of_length_le (Nat.le_refl _)
   have vQ:val o=m*val ws:=by rw [hv,mE,e1,aH]
   have uB:=ht o hwd (by rw [ho];omega)
   rw [vQ] at uB
   simp only [SS,Nat.reduceAdd,bc,hd2 hlt]
   refine cW [([6],⟨us o,1,false⟩)] uB (aI.cons (gC ho.symm) aI.nil) (by simp [aa.put]) ?_
   simp only [SS,Nat.reduceAdd]
   exact ah▸ae rfl (bp _)
theorem Ou {f ft:FuncId} (h:Has P f (gD ft)) (ht:gU P G ft) (m n:Nat) (hm:ab m<=1000000) (hn:ab n<=1000000):VP P G f [W m,W n] (W (m*n)):=by
 have:=Ci (G:=G) h ht m (aK n) hm hn
 rw [aH] at this;exact this
theorem Yb {f ft:FuncId} (h:Has P f (kI ft)) (ht:gU P G ft) (m w:Nat) (hm:ab m<=1000000) (hw:w<au) (Ha:w≠0) :
   VP P G f [W m, .int .u32 (w:Int)] (.tup [W (m/w), .int .u32 ((m%w:Nat):Int)]):=by
 refine VP.has h ?_
 have uR:∀ p:Id,j4 p 1 4 (.int .u32 0) (.int .i64 (ab m:Int)) (.int .i64 (ab m:Int))=some { val := .osl p 1 0 (ab m) false,up:=[(p,some ⟨us (List.replicate (ab m) 0),1,false⟩)] }:=fun p=>lg (by omega)
 have XK:IntKind.i64.wrap ((ab m:Int)-1)=(ab m:Int)-1:=by rw [IntKind.wrap_i64];omega
 have f0:=bf w hw
 have hwz:((w:Nat):Int)≠0:=by omega
 simp only [kI,SS,Nat.reduceAdd,bc,uR,XK,az]
 refine VW.bG (α := Nat × Nat × List Nat × Nat) (fun x=>⟨[W m, .int .u32 (w:Int), .top, .top, .top, .top, .osl [4] 1 0 (ab m) false, .int .u64 (x.2.2.2:Int), .int .i64 ((x.1:Int)-1)]++List.replicate 34 .top,
   aa.put (fun _=>none) [4] (some ⟨us (zs x.1++x.2.2.1),1,false⟩),x.2.1⟩)
   (fun x=>x.1+x.2.2.1.length=ab m/\Wd x.2.2.1/\x.2.2.2<w/\val ((digits m).drop x.1)=val x.2.2.1*w+x.2.2.2) (fun x=>x.1) (ab m,1000,[],0) ?_ ?_ ?_
 . rw [List.append_nil];exact Wk.slots (by simp [Fg,List.replicate]) (by simp only [];omega)
 . refine ⟨by simp,by intro w hw;simp at hw,Nat.pos_of_ne_zero Ha, ?_⟩
   show val ((digits m).drop (ab m))=_
   rw [List.drop_eq_nil_of_le (show (digits m).length<=ab m from Nat.le_refl _)];simp [val]
 rintro ⟨k,nn,q,r⟩ ⟨hk,hwd,hr,hv⟩
 simp only [] at hk hwd hr hv
 by_cases h0:k=0
 . subst h0
   have d0:decide ((0:Int)<=((0:Nat):Int)-1)=false:=by decide
   have e:m/w=val q/\m%w=r:=by
     rw [List.drop_zero,aH] at hv
     refine (Nat.div_mod_unique (Nat.pos_of_ne_zero Ha)).2 ⟨?_,hr⟩
     rw [hv,Nat.mul_comm w];omega
   have uB:=ht q hwd (by omega)
   rw [<- e.1] at uB
   have f9:IntKind.u32.wrap (r:Int)=(r:Int):=by rw [sK,Nat.mod_eq_of_lt (by omega)]
   have hq:ab m=q.length:=by omega
   simp only [SS,Nat.reduceAdd,d0,rI]
   refine cW [([4],⟨us q,1,false⟩)] uB (aI.cons (gC hq) aI.nil) (by simp [aa.put]) ?_
   simp only [SS,Nat.reduceAdd,f9]
   rw [e.2]
   exact ah▸ae rfl (af.tup (by intro c hc;simp at hc;rcases hc with rfl | rfl;exact bp _;exact af.int _ _))
 . obtain ⟨j,rfl⟩:∃ j,k=j+1:=⟨k-1,by omega⟩
   have d0:decide ((0:Int)<=(j:Int))=true:=ai (by omega)
   have hj:((j+1:Nat):Int)-1=(j:Int):=by omega
   have l9:j<ab m:=by omega
   have MG:IntKind.i64.wrap ((j:Int)-1)=(j:Int)-1:=by rw [IntKind.wrap_i64];omega
   obtain ⟨a,ha⟩:∃ a,(digits m)[j]? = some a:=⟨_,List.getElem?_eq_getElem l9⟩
   have rH:=aK m a (List.mem_of_getElem? ha)
   have f1:=bf a rH
   have C6:r<au:=by omega
   have f2:=tJ r C6
   have f3:=B7 r a C6 rH
   have hlt:au*r+a<18446744073709551616:=by unfold au at *;omega
   have f4:=B8 (au*r+a) w hlt Ha
   have f5:=B9 (au*r+a) w Ha
   have H9:(au*r+a)/w<au:=by
     rw [Nat.div_lt_iff_lt_mul (Nat.pos_of_ne_zero Ha)]
     have:au*(r+1)<=au*w:=Nat.mul_le_mul_left _ hr
     rw [Nat.mul_add] at this
     omega
   have f6:IntKind.u32.wrap (((au*r+a)/w:Nat):Int)=(((au*r+a)/w:Nat):Int):=by rw [sK,Nat.mod_eq_of_lt H9]
   have fT:=cA (q:=[4]) (t:=false) l9
   have TA:j<(zs (j+1)++q).length:=by simp [zs];omega
   have hv':val ((digits m).drop j)=val ((au*r+a)/w::q)*w+(au*r+a)%w:=by
     rw [List.drop_eq_getElem_cons (show j<(digits m).length from l9)]
     obtain ⟨_,h2⟩:=List.getElem?_eq_some_iff.1 ha
     rw [h2]
     simp only [val]
     rw [hv,Nat.add_mul,Nat.mul_add,Nat.mul_assoc au]
     have:=Nat.div_add_mod (au*r+a) w
     rw [Nat.mul_comm] at this
     omega
   have FV:j+((au*r+a)/w::q).length=ab m:=by simp;omega
   simp only [SS,Nat.reduceAdd,d0,hj,cZ ha,ax,bl,f0,f1,f2,f3,f4,f6,fT]
   rw [bL (o:=zs (j+1)++q) (by simp [aa.put]) TA,tK]
   simp only [SS,Nat.reduceAdd,f0,f5,MG]
   refine ⟨(j,_,(au*r+a)/w::q,(au*r+a)%w),⟨FV, ?_,Nat.mod_lt _ (Nat.pos_of_ne_zero Ha),hv'⟩,Nat.lt_succ_self j,Wk.forget (by simp [Fg]) (fun j => ?_) (Nat.le_refl _)⟩
   . intro z hz
     rcases List.mem_cons.1 hz with rfl | hz
     . exact H9
     . exact hwd z hz
   . simp only [aa.put];split<;>simp
end
theorem Io {x c:Nat} (hx:x<au) (h0:0<x) (h1:x<2 ^ c) (h2:2 ^ c<=2*x):c=ir x:=by
 obtain ⟨a,b⟩:=xL hx h0
 have e1:2 ^ c<2 ^ (ir x+1):=by rw [Nat.pow_succ];omega
 have e2:2 ^ ir x<2 ^ (c+1):=by rw [Nat.pow_succ];omega
 have:=(Nat.pow_lt_pow_iff_right (by decide:1<2)).1 e1
 have:=(Nat.pow_lt_pow_iff_right (by decide:1<2)).1 e2
 omega
theorem aeO (a:Nat) (ha:a<au):bn .quo .int (.int .u32 (a:Int)) (.int .u32 2)=some (.int .u32 ((a/2:Nat):Int)):=by
 rw [Mn (by decide)]
 show some (AV.int .u32 (IntKind.u32.wrap ((a/2:Nat):Int)))=_
 rw [sK,Nat.mod_eq_of_lt (by unfold au at *;omega)]
theorem Ov {x y s:Nat} (hs:s<=32) (hx:x<au):((au*y+x)/2 ^ s)%au=x/2 ^ s+2 ^ (32-s)*(y%2 ^ s):=by
 have hB:=qF hs
 have hd:x/2 ^ s<2 ^ (32-s):=by rw [Nat.div_lt_iff_lt_mul (Nat.two_pow_pos _),hB];exact hx
 have e1:(au*y+x)/2 ^ s=2 ^ (32-s)*y+x/2 ^ s:=by
   rw [<- hB,Nat.mul_comm (2 ^ (32-s)),Nat.mul_assoc,Nat.mul_add_div (Nat.two_pow_pos _)]
 have hlt:y%2 ^ s<2 ^ s:=Nat.mod_lt _ (Nat.two_pow_pos _)
 have h1:2 ^ (32-s)*(y%2 ^ s+1)<=2 ^ (32-s)*2 ^ s:=Nat.mul_le_mul_left _ hlt
 rw [Nat.mul_add,hB] at h1
 have e2:2 ^ (32-s)*y=au*(y/2 ^ s)+2 ^ (32-s)*(y%2 ^ s):=by
   have:=Nat.div_add_mod y (2 ^ s)
   conv=>lhs;rw [<- this]
   rw [Nat.mul_add, <- Nat.mul_assoc,hB]
 rw [e1,e2,show au*(y/2 ^ s)+2 ^ (32-s)*(y%2 ^ s)+x/2 ^ s=(x/2 ^ s+2 ^ (32-s)*(y%2 ^ s))+au*(y/2 ^ s) from by omega,Nat.add_mul_mod_self_left,Nat.mod_eq_of_lt (by omega)]
theorem aa9 (x y:Nat) (hx:x<au) (hy:y<au):bn .or .int (.int .u64 (x:Int)) (.int .u64 ((au*y:Nat):Int))=some (.int .u64 ((au*y+x:Nat):Int)):=by
 rw [XI _ _ (by unfold au at *;omega) (by unfold au at *;omega),Nat.or_comm]
 have:=Nat.two_pow_add_eq_or_of_lt (i:=32) (b:=x) (by unfold au at hx;omega) y
 rw [show au=2 ^ 32 from rfl,this]
theorem Rk (x s:Nat) (hs:s<=64):bn .shr .int (.int .u64 (x:Int)) (.int .i64 (s:Int))=some (.int .u64 ((x/2 ^ s:Nat):Int)):=by
 rw [po (by omega)]
 have h2:min (s:Int).toNat IntKind.u64.bits=s:=by
   show min (s:Int).toNat 64=s
   rw [Int.toNat_natCast];omega
 have h3:(x:Int).fdiv (2 ^ s)=((x/2 ^ s:Nat):Int):=by
   have h4:(2:Int) ^ s=((2 ^ s:Nat):Int):=by rw [Int.natCast_pow];rfl
   rw [h4,Int.fdiv_eq_ediv_of_nonneg _ (Int.natCast_nonneg _)]
   exact (Int.natCast_ediv _ _).symm
 rw [h2,h3]
section
variable {P:Program} {G:Nat->Option (List AV)}
theorem Kz {f:FuncId} (h:Has P f gm) {n x k:Nat} (hk:ab n=k+1) (hx:(digits n)[k]? = some x) (FV:k<=1000000):VP P G f [W n] (.int .i64 ((32*k+ir x:Nat):Int)):=by
 refine VP.has h ?_
 have XY:=aK n x (List.mem_of_getElem? hx)
 obtain ⟨Og,_,_,_,_⟩:=xO hk hx
 have d0:decide (((k+1:Nat):Int)=0)=false:=ag (by omega)
 have p1:IntKind.i64.wrap (((k+1:Nat):Int)-1)=(k:Int):=by rw [IntKind.wrap_i64];omega
 simp only [gm,SS,Nat.reduceAdd,bc,hk,d0,p1,cZ hx,ax,bl,az]
 refine VW.bG (α := Nat × Nat × Nat) (fun y=>⟨[W n, .top, .top, .int .i64 (y.1:Int), .int .u32 (y.2.1:Int)]++List.replicate 21 .top,fun _=>none,y.2.2⟩)
   (fun y=>y.2.1=x/2 ^ y.1/\y.1<=32/\2 ^ y.1<=2*x) (fun y=>y.2.1) (0,x,1000) ?_ ?_ ?_
 . exact Wk.slots (by simp [Fg,List.replicate]) (by simp only [];omega)
 . refine ⟨by simp,by simp,by simp;omega⟩
 rintro ⟨c,y,nn⟩ ⟨hy,hc,h2⟩
 simp only [] at hy hc h2
 have X7:y<au:=by rw [hy];exact Nat.lt_of_le_of_lt (Nat.div_le_self _ _) XY
 by_cases h0:y=0
 . have d1:decide ((0:Int)<(y:Int))=false:=ag (by omega)
   have h1:x<2 ^ c:=by
     rw [h0] at hy
     exact Nat.lt_of_div_eq_zero (Nat.two_pow_pos c) hy.symm
   have e:=Io XY Og h1 h2
   have m1:IntKind.i64.wrap (32*(k:Int))=((32*k:Nat):Int):=by rw [IntKind.wrap_i64];omega
   have a1:=lM (32*k) c (by omega)
   rw [<- e]
   simp only [SS,Nat.reduceAdd,d1,bc,hk,p1,m1,a1]
   exact ah▸ae rfl (af.int _ _)
 . have d1:decide ((0:Int)<(y:Int))=true:=ai (by omega)
   have hcw:=ao c (by omega)
   have q2:=aeO y X7
   have hlt:2 ^ c<=x:=by
     rcases Nat.lt_or_ge x (2 ^ c) with h | h
     . rw [Nat.div_eq_of_lt h] at hy;omega
     . exact h
   have H4:c+1<=32:=by
     have:2 ^ c<2 ^ 32:=by unfold au at XY;omega
     have:=(Nat.pow_lt_pow_iff_right (by decide:1<2)).1 this
     omega
   simp only [SS,Nat.reduceAdd,d1,hcw,q2]
   refine ⟨(c+1,y/2,_),⟨?_,H4, ?_⟩,Nat.div_lt_self (by omega) (by decide),Wk.slots (by simp [Fg]) (Nat.le_refl _)⟩
   . simp only [];rw [hy,Nat.div_div_eq_div_mul, <- Nat.pow_succ]
   . simp only [];rw [Nat.pow_succ];omega
theorem Cj {f:FuncId} (h:Has P f fW) (m s:Nat) (hm:ab m<=1000000) (hs:s<=31) (p:Id) :
   aq P G f [W m, .int .i64 (s:Int)] p [] { val := .osl (4::p) 1 0 (ab m+1) false,rd:=[],up:=[(4::p,some ⟨us (pad (ab m+1) (m*2 ^ s)),1,false⟩)] }:=by
 refine aq.has h ?_
 have hL:=ao (ab m) (by omega)
 have uR:∀ p:Id,j4 p 1 4 (.int .u32 0) (.int .i64 ((ab m+1:Nat):Int)) (.int .i64 ((ab m+1:Nat):Int))=some { val := .osl p 1 0 (ab m+1) false,up:=[(p,some ⟨us (List.replicate (ab m+1) 0),1,false⟩)] }:=fun p=>lg (by omega)
 have hz:us (List.replicate (ab m+1) 0)=us (0::zs (ab m)):=rfl
 simp only [fW,SS,Nat.reduceAdd,bc,hL,uR,az]
 refine VW.bG (α := Nat × Nat × List Nat × Nat) (fun x=>⟨[W m, .int .i64 (s:Int), .top, .top, .top, .osl (4::p) 1 0 (ab m+1) false, .int .i64 (x.1:Int)]++List.replicate 36 .top,
   aa.put (aa.of []) (4::p) (some ⟨us (x.2.2.1++x.2.2.2::zs (ab m-x.1)),1,false⟩),x.2.1⟩)
   (fun x=>x.1<=ab m/\x.2.2.1.length=x.1/\Wd x.2.2.1/\x.2.2.2<2 ^ s/\val x.2.2.1+au ^ x.1*x.2.2.2=val ((digits m).take x.1)*2 ^ s) (fun x=>ab m-x.1) (0,1000,[],0) ?_ ?_ ?_
 . exact Wk.slots (by simp [Fg,List.replicate]) (by simp only [];omega)
 . exact ⟨Nat.zero_le _,rfl,by intro w hw;simp at hw,Nat.two_pow_pos _,by simp [val]⟩
 rintro ⟨i,nn,o,c⟩ ⟨hi,ho,hwd,hc,hv⟩
 simp only [] at hi ho hwd hc hv
 have oH:i<ab m->decide ((i:Int)<(ab m:Int))=true:=fun h=>ai (by omega)
 have hd2 : ¬ i<ab m->decide ((i:Int)<(ab m:Int))=false:=fun h=>ag (by omega)
 have cI : ¬ i<ab m->i=ab m:=by omega
 have py:=ao i (by omega)
 have ic:i<ab m->i+1<=ab m/\ab m-(i+1)<ab m-i:=fun h=>by omega
 have hcB:c<au:=by
   have h2:2 ^ s<=2 ^ 32:=Nat.pow_le_pow_right (by decide) (by omega)
   unfold au;omega
 by_cases hlt:i<ab m
 . obtain ⟨x,hx⟩:∃ x,(digits m)[i]? = some x:=⟨_,List.getElem?_eq_getElem hlt⟩
   have oJ:=aK m x (List.mem_of_getElem? hx)
   have f1:=bf x oJ
   have f2:=QU x s (by omega) oJ
   obtain ⟨g1,g2,g3⟩:=Ib (s:=s) (by omega) hc oJ
   have f3:=XJ c (x*2 ^ s%au) hcB (Nat.mod_lt _ cP)
   rw [g1] at f3
   have g4:x*2 ^ s/au<au:=by
     have h2:2 ^ s<=2 ^ 32:=Nat.pow_le_pow_right (by decide) (by omega)
     have:(2:Nat) ^ 32=au:=rfl
     omega
   have f4:IntKind.u32.wrap ((x*2 ^ s/au:Nat):Int)=((x*2 ^ s/au:Nat):Int):=by rw [sK,Nat.mod_eq_of_lt g4]
   have fT:=cA (q:=4::p) (t:=false) (show i<ab m+1 by omega)
   have XL:=cA (q:=4::p) (t:=false) (show i+1<ab m+1 by omega)
   obtain ⟨k,hk⟩:∃ k,ab m-i=k+1:=⟨ab m-i-1,by omega⟩
   have zL:ab m-(i+1)=k:=by omega
   have lF:i<(o++c::0::zs k).length:=by simp;omega
   have sD:i+1<(o++(c+x*2 ^ s%au)::0::zs k).length:=by simp;omega
   have hv':val (o++[c+x*2 ^ s%au])+au ^ (i+1)*(x*2 ^ s/au)=val ((digits m).take (i+1))*2 ^ s:=by
     rw [aC hx,cj,ho,Nat.add_mul, <- hv]
     simp only [val,Nat.mul_zero,Nat.add_zero,Nat.pow_succ]
     have e2:au ^ i*(x*2 ^ s%au)+au ^ i*(au*(x*2 ^ s/au))=au ^ i*(x*2 ^ s):=by rw [<- Nat.mul_add,Nat.mod_add_div]
     rw [Nat.mul_assoc,Nat.mul_assoc,Nat.mul_add]
     omega
   simp only [SS,Nat.reduceAdd,bc,oH hlt,cZ hx,ax,bl,f1,f2,fT,hk,iq]
   rw [im (o:=o++c::0::zs k) (b:=false) (by simp [aa.put]) (rJ _ _ _ ho)]
   simp only [SS,Nat.reduceAdd,sK,f3,fT]
   rw [bL (o:=o++c::0::zs k) (by simp [aa.put]) lF,fB _ _ _ _ ho]
   simp only [SS,Nat.reduceAdd,py,mb,f4,XL]
   rw [bL (o:=o++(c+x*2 ^ s%au)::0::zs k) (by simp [aa.put]) sD,Ia _ _ _ _ _ ho]
   simp only [SS,Nat.reduceAdd,py]
   refine ⟨(i+1,_,o++[c+x*2 ^ s%au],x*2 ^ s/au),⟨(ic hlt).1,by simp [ho],cw hwd (by intro z hz;simp at hz;subst hz;exact g2),g3,hv'⟩,(ic hlt).2,Wk.forget (by simp [Fg]) (fun j => ?_) (Nat.le_refl _)⟩
   simp only [aa.put,zL];split<;>simp
 . have mE:=cI hlt
   have e1:(digits m).take (ab m)=digits m:=List.take_of_length_le (Nat.le_refl _)
   have vQ:val (o++[c])=m*2 ^ s:=by
     rw [cj,ho];simp only [val,Nat.mul_zero,Nat.add_zero]
     rw [hv,mE,e1,aH]
   have hlen:(o++[c]).length=ab m+1:=by simp [ho,mE]
   have e:pad (ab m+1) (m*2 ^ s)=o++[c]:=by
     rw [<- vQ, <- hlen]
     exact vZ (cw hwd (by intro z hz;simp at hz;subst hz;exact hcB))
   have e3:zs (ab m-i)=[]:=by rw [mE,Nat.sub_self];rfl
   simp only [SS,Nat.reduceAdd,bc,hd2 hlt,e,e3]
   refine bZ▸aW rfl fun i => .inr ?_
   rfl
theorem UB {f ft:FuncId} (h:Has P f (jN ft)) (ht:gU P G ft) (m s:Nat) (hm:ab m<=1000000) (hs:s<=31) :
   VP P G f [W m, .int .i64 (s:Int)] (W (m/2 ^ s)):=by
 refine VP.has h ?_
 have uR:∀ p:Id,j4 p 1 4 (.int .u32 0) (.int .i64 (ab m:Int)) (.int .i64 (ab m:Int))=some { val := .osl p 1 0 (ab m) false,up:=[(p,some ⟨us (List.replicate (ab m) 0),1,false⟩)] }:=fun p=>lg (by omega)
 have hz:us (List.replicate (ab m) 0)=us ([]++zs (ab m-0)):=rfl
 have h2s:2 ^ s*2 ^ (32-s)=au:=by rw [Nat.mul_comm];exact qF (by omega)
 simp only [jN,SS,Nat.reduceAdd,bc,uR,hz,az]
 refine VW.bG (α := Nat × Nat × List Nat) (fun x=>⟨[W m, .int .i64 (s:Int), .top, .top, .top, .osl [3] 1 0 (ab m) false, .int .i64 (x.1:Int)]++List.replicate 38 .top,
   aa.put (fun _=>none) [3] (some ⟨us (x.2.2++zs (ab m-x.1)),1,false⟩),x.2.1⟩)
   (fun x=>x.1<=ab m/\x.2.2.length=x.1/\Wd x.2.2/\2 ^ s*val x.2.2+m%2 ^ s=val ((digits m).take x.1)+au ^ x.1*(((digits m)[x.1]?).getD 0%2 ^ s)) (fun x=>ab m-x.1) (0,1000,[]) ?_ ?_ ?_
 . exact Wk.slots (by simp [Fg,List.replicate]) (by simp only [];omega)
 . refine ⟨Nat.zero_le _,rfl,by intro w hw;simp at hw, ?_⟩
   show 2 ^ s*val []+m%2 ^ s=val ((digits m).take 0)+au ^ 0*(((digits m)[0]?).getD 0%2 ^ s)
   rw [tL, <- h2s,Nat.mod_mul_right_mod]
   simp [val]
 rintro ⟨i,nn,o⟩ ⟨hi,ho,hwd,hv⟩
 simp only [] at hi ho hwd hv
 have oH:i<ab m->decide ((i:Int)<(ab m:Int))=true:=fun h=>ai (by omega)
 have hd2 : ¬ i<ab m->decide ((i:Int)<(ab m:Int))=false:=fun h=>ag (by omega)
 have H7:i+1<ab m->decide (((i+1:Nat):Int)<(ab m:Int))=true:=fun h=>ai (by omega)
 have H8 : ¬ i+1<ab m->decide (((i+1:Nat):Int)<(ab m:Int))=false:=fun h=>ag (by omega)
 have cI : ¬ i<ab m->i=ab m:=by omega
 have XN:i<ab m -> ¬ i+1<ab m->i+1=ab m:=by omega
 have py:=ao i (by omega)
 have ic:i<ab m->i+1<=ab m/\ab m-(i+1)<ab m-i:=fun h=>by omega
 by_cases hlt:i<ab m
 . obtain ⟨x,hx⟩:∃ x,(digits m)[i]? = some x:=⟨_,List.getElem?_eq_getElem hlt⟩
   have oJ:=aK m x (List.mem_of_getElem? hx)
   have f0:=bf x oJ
   have fT:=cA (q:=[3]) (t:=false) hlt
   obtain ⟨k,hk⟩:∃ k,ab m-i=k+1:=⟨ab m-i-1,by omega⟩
   have zL:ab m-(i+1)=k:=by omega
   have lF:i<(o++0::zs k).length:=by simp;omega
   have hstep:∀ y w,w=x/2 ^ s+2 ^ (32-s)*(y%2 ^ s)->2 ^ s*w+x%2 ^ s=x+au*(y%2 ^ s)->((digits m)[i+1]?).getD 0=y ->
       2 ^ s*val (o++[w])+m%2 ^ s=val ((digits m).take (i+1))+au ^ (i+1)*(((digits m)[i+1]?).getD 0%2 ^ s):=by
     intro y w _ hw hy
     rw [hx,Option.getD_some] at hv
     rw [aC hx,cj,ho,hy]
     simp only [val,Nat.mul_zero,Nat.add_zero,Nat.pow_succ]
     have e1:au ^ i*(2 ^ s*w)+au ^ i*(x%2 ^ s)=au ^ i*x+au ^ i*(au*(y%2 ^ s)):=by rw [<- Nat.mul_add,hw,Nat.mul_add]
     have e2:2 ^ s*(val o+au ^ i*w)=2 ^ s*val o+au ^ i*(2 ^ s*w):=by rw [Nat.mul_add,Nat.mul_left_comm]
     rw [e2,Nat.mul_assoc]
     omega
   by_cases hn:i+1<ab m
   . obtain ⟨y,hy⟩:∃ y,(digits m)[i+1]? = some y:=⟨_,List.getElem?_eq_getElem hn⟩
     have y7:=aK m y (List.mem_of_getElem? hy)
     have f1:=bf y y7
     have f2:=tJ y y7
     have f3:=aa9 x y oJ y7
     have f4:=Rk (au*y+x) s (by omega)
     obtain ⟨g1,g2,g3⟩:=xH (y:=y) (s:=s) (by omega) oJ
     have f5:IntKind.u32.wrap (((au*y+x)/2 ^ s:Nat):Int)=((x/2 ^ s+2 ^ (32-s)*(y%2 ^ s):Nat):Int):=by rw [sK,Ov (by omega) oJ]
     have hv':=hstep y _ rfl g3 (by rw [hy];rfl)
     simp only [SS,Nat.reduceAdd,bc,oH hlt,cZ hx,ax,bl,f0,py,H7 hn,cZ hy,f1,f2,f3,f4,f5,fT,hk,iq]
     rw [bL (o:=o++0::zs k) (by simp [aa.put]) lF,fB _ _ _ _ ho]
     simp only [SS,Nat.reduceAdd,py]
     refine ⟨(i+1,_,o++[x/2 ^ s+2 ^ (32-s)*(y%2 ^ s)]),⟨(ic hlt).1,by simp [ho],cw hwd (by intro z hz;simp at hz;subst hz;exact g2),hv'⟩,(ic hlt).2,Wk.forget (by simp [Fg]) (fun j => ?_) (Nat.le_refl _)⟩
     simp only [aa.put,zL];split<;>simp
   . have xg:(digits m)[i+1]? = none:=List.getElem?_eq_none (by have:=XN hlt hn;show ab m<=i+1;omega)
     obtain ⟨g1,g2,g3⟩:=xH (y:=0) (s:=s) (by omega) oJ
     have e0:x/2 ^ s+2 ^ (32-s)*(0%2 ^ s)=x/2 ^ s:=by simp
     rw [e0] at g2 g3
     have f4:=Rk x s (by omega)
     have f5:IntKind.u32.wrap ((x/2 ^ s:Nat):Int)=((x/2 ^ s:Nat):Int):=by rw [sK,Nat.mod_eq_of_lt g2]
     have hv':=hstep 0 (x/2 ^ s) e0.symm g3 (by rw [xg];rfl)
     simp only [SS,Nat.reduceAdd,bc,oH hlt,cZ hx,ax,bl,f0,py,H8 hn,f4,f5,fT,hk,iq]
     rw [bL (o:=o++0::zs k) (by simp [aa.put]) lF,fB _ _ _ _ ho]
     simp only [SS,Nat.reduceAdd,py]
     refine ⟨(i+1,_,o++[x/2 ^ s]),⟨(ic hlt).1,by simp [ho],cw hwd (by intro z hz;simp at hz;subst hz;exact g2),hv'⟩,(ic hlt).2,Wk.forget (by simp [Fg]) (fun j => ?_) (Nat.le_refl _)⟩
     simp only [aa.put,zL];split<;>simp
 . have mE:=cI hlt
   have e1:(digits m).take (ab m)=digits m:=List.take_of_length_le (Nat.le_refl _)
   have xg:(digits m)[ab m]? = none:=List.getElem?_eq_none (Nat.le_refl _)
   have vQ:val o=m/2 ^ s:=by
     rw [mE,e1,aH,xg] at hv
     have h1:=Nat.div_add_mod m (2 ^ s)
     have h2:2 ^ s*val o=2 ^ s*(m/2 ^ s):=by
       simp at hv;omega
     exact Nat.eq_of_mul_eq_mul_left (Nat.two_pow_pos _) h2
   have hlen:ab m=o.length:=by rw [ho,mE]
   have uB:=ht o hwd (by omega)
   rw [vQ] at uB
   have e3:zs (ab m-i)=[]:=by rw [mE,Nat.sub_self];rfl
   simp only [SS,Nat.reduceAdd,bc,hd2 hlt,e3]
   refine cW [([3],⟨us o,1,false⟩)] uB (aI.cons (gC hlen) aI.nil) (by simp [aa.put]) ?_
   simp only [SS,Nat.reduceAdd]
   exact ah▸ae rfl (bp _)
end
theorem trimmed (b:List Nat) (h:Wd b):∃ z,b=digits (val b)++zs z:=by
 induction hn:b.length generalizing b with
 | zero =>
   obtain rfl:b=[]:=List.length_eq_zero_iff.1 hn
   exact ⟨0,by simp [val,bh,zs]⟩
 | succ k ih =>
   obtain ⟨b',w,rfl,hl⟩:=rL hn
   by_cases hw:w=0
   . subst hw
     obtain ⟨z,hz⟩:=ih b' (fun w hw=>h w (by simp [hw])) hl
     refine ⟨z+1, ?_⟩
     rw [jK]
     conv=>lhs;rw [hz]
     rw [List.append_assoc];congr 1
     simp [zs,List.replicate_succ']
   . exact ⟨0,by rw [kh h (.inr ⟨w,by simp,hw⟩)];simp [zs]⟩
theorem Ow {id:Id} {k off len h:Nat} (h2:h<=len):bR k (.osl id k off len false) none (some (.int .i64 (h:Int))) none=some (.osl id k off h false):=by
 simp [bR,cm,dT,h2]
theorem Ip {id:Id} {a b t:List Nat} {f tt:Bool} {n:Nat} (hn:n=b.length):View (aa.of [(id,⟨us (a++b++t),1,f⟩)]) (.osl id 1 a.length n tt) (.sl 1 (us b)):=by
 subst hn
 refine View.osl (bk:=⟨us (a++b++t),1,f⟩) (by simp [aa.of]) rfl (by simp [dD]) ?_ (by rw [dD]) (uC b)
 have:((us (a++b++t)).drop a.length).take b.length=us b:=by rw [List.append_assoc,y0,y0, <- dD a,List.drop_left, <- dD b,List.take_left]
 show aI _ (flat (((us (a++b++t)).drop a.length).take b.length)) _
 rw [this]
 exact aI.pure (qE b)
section
variable {P:Program} {G:Nat->Option (List AV)}
theorem Ck {f:FuncId} (h:Has P f dt) {id:Id} {a b t:List Nat} (hw:Wd b) (hl:b.length<=9223372036854775807) (p:Id) :
   aq P G f [.osl id 1 a.length b.length false] p [(id,⟨us (a++b++t),1,false⟩)] { val := .osl id 1 a.length (ab (val b)) false,rd:=[id],up:=[] }:=by
 refine aq.has h ?_
 simp only [dt,SS,az]
 refine VW.bG (α := Nat × Nat) (fun x=>⟨[.osl id 1 a.length x.1 false]++List.replicate 20 .top,aa.of [(id,⟨us (a++b++t),1,false⟩)],x.2⟩) (fun x=>x.1<=b.length/\val (b.take x.1)=val b) (fun x=>x.1) (b.length,1) ?_ ⟨Nat.le_refl _,by rw [List.take_length]⟩ ?_
 . exact Wk.slots (by simp [Fg,List.replicate]) (Nat.le_refl _)
 rintro ⟨k,n⟩ ⟨hk,hv⟩
 simp only [] at hk hv
 by_cases h0:k=0
 . subst h0
   have d0:decide ((0:Int)<((0:Nat):Int))=false:=by decide
   have e:ab (val b)=0:=by rw [<- hv];simp [val,ab,bh]
   simp only [SS,Nat.reduceAdd,d0,e]
   exact bZ▸aW rfl fun i => .inr rfl
 . have mK:0<k:=Nat.pos_of_ne_zero h0
   have d0:decide ((0:Int)<(k:Int))=true:=ai (by omega)
   have mW:=pZ k mK (by omega)
   obtain ⟨w,hwk⟩:∃ w,b[k-1]? = some w:=⟨b[k-1],by rw [List.getElem?_eq_getElem]⟩
   have JR:b.take k=b.take (k-1)++[w]:=by
     have:=List.take_add_one (l:=b) (i:=k-1)
     rw [hwk,show k-1+1=k from by omega] at this
     simpa using this
   have fT:=ml (q:=id) (off:=a.length) (t:=false) (show k-1<k by omega)
   have UC:=im (σ := aa.of [(id,⟨us (a++b++t),1,false⟩)]) (q:=id) (b:=false) (by simp [aa.of]) (rK (t:=t) (rfl:a.length=a.length) hwk)
   have Il:=Ow (id:=id) (k:=1) (off:=a.length) (len:=k) (h:=k-1) (Nat.sub_le _ _)
   by_cases hz:w=0
   . have d1:decide ((w:Int)=0)=true:=ai (by omega)
     simp only [SS,Nat.reduceAdd,d0,mW,fT,UC,d1,Il]
     refine ⟨(k-1,_),⟨by simp only [];omega, ?_⟩,by simp only [];omega,Wk.slots (by simp [Fg]) (Nat.le_refl _)⟩
     simp only []
     rw [<- hv,JR,hz,jK]
   . have d1:decide ((w:Int)=0)=false:=ag (by omega)
     have e:ab (val b)=k:=by
       have e1:digits (val b)=b.take k:=by
         rw [<- hv]
         exact kh (pw hw k) (.inr ⟨w,by rw [JR];simp,hz⟩)
       rw [ab,e1,List.length_take];omega
     simp only [SS,Nat.reduceAdd,d0,mW,fT,UC,d1,e]
     exact bZ▸aW rfl fun i => .inr rfl
set_option maxHeartbeats 1000000 in
theorem Ox {f ft:FuncId} (h:Has P f (dQ ft)) (ht:gU P G ft) {id:Id} {a t:List Nat} (m n:Nat) (yI:n<=m) (hm:ab m<=1000000) (p:Id) (hid:∀ x,id≠x::p) :
   aq P G f [.osl id 1 a.length (ab m) false,W n] p [(id,⟨us (a++digits m++t),1,false⟩)] { val:=W (m-n),rd:=[id],up:=[] }:=by
 refine aq.has h ?_
 have hwn:=c9 yI
 have Rl:=hid 3
 have uR:∀ p:Id,j4 p 1 4 (.int .u32 0) (.int .i64 (ab m:Int)) (.int .i64 (ab m:Int))=some { val := .osl p 1 0 (ab m) false,up:=[(p,some ⟨us (List.replicate (ab m) 0),1,false⟩)] }:=fun p=>lg (by omega)
 simp only [dQ,SS,Nat.reduceAdd,uR,az]
 refine VW.bG (α := Nat × Nat × List Nat × Nat) (fun x=>⟨[.osl id 1 a.length (ab m) false,W n, .top, .top, .top, .osl (3::p) 1 0 (ab m) false, .int .u64 (x.2.2.2:Int), .int .i64 (x.1:Int)]++List.replicate 40 .top,
   aa.put (aa.of [(id,⟨us (a++digits m++t),1,false⟩)]) (3::p) (some ⟨us (x.2.2.1++zs (ab m-x.1)),1,false⟩),x.2.1⟩)
   (fun x=>x.1<=ab m/\x.2.2.1.length=x.1/\Wd x.2.2.1/\x.2.2.2<=1/\val x.2.2.1+val ((digits n).take x.1)=val ((digits m).take x.1)+au ^ x.1*x.2.2.2) (fun x=>ab m-x.1) (0,1000,[],0) ?_ ?_ ?_
 . exact Wk.slots (by simp [Fg,List.replicate]) (by simp only [];omega)
 . exact ⟨Nat.zero_le _,rfl,by intro w hw;simp at hw,Nat.zero_le _,by simp [val]⟩
 rintro ⟨i,nn,o,c⟩ ⟨hi,ho,hwd,hc,hv⟩
 simp only [] at hi ho hwd hc hv
 have oH:i<ab m->decide ((i:Int)<(ab m:Int))=true:=fun h=>ai (by omega)
 have hd2 : ¬ i<ab m->decide ((i:Int)<(ab m:Int))=false:=fun h=>ag (by omega)
 have H7:i<ab n->decide ((i:Int)<(ab n:Int))=true:=fun h=>ai (by omega)
 have H8 : ¬ i<ab n->decide ((i:Int)<(ab n:Int))=false:=fun h=>ag (by omega)
 have cI : ¬ i<ab m->i=ab m:=by omega
 have py:=ao i (by omega)
 have ic:i<ab m->i+1<=ab m/\ab m-(i+1)<ab m-i:=fun h=>by omega
 by_cases hlt:i<ab m
 . obtain ⟨x,hx⟩:∃ x,(digits m)[i]? = some x:=⟨_,List.getElem?_eq_getElem hlt⟩
   have oJ:=aK m x (List.mem_of_getElem? hx)
   have f1:=bf x oJ
   have fT:=cA (q:=3::p) (t:=false) hlt
   have ZQ:=ml (q:=id) (off:=a.length) (t:=false) hlt
   obtain ⟨k,hk⟩:∃ k,ab m-i=k+1:=⟨ab m-i-1,by omega⟩
   have zL:ab m-(i+1)=k:=by omega
   have lF:i<(o++0::zs k).length:=by simp;omega
   have UC:=im (σ := aa.put (aa.of [(id,⟨us (a++digits m++t),1,false⟩)]) (3::p) (some ⟨us (o++0::zs k),1,false⟩)) (q:=id) (b:=false) (by simp [aa.of,aa.put,Rl]) (rK (t:=t) (rfl:a.length=a.length) hx)
   by_cases hb:i<ab n
   . obtain ⟨y,hy⟩:∃ y,(digits n)[i]? = some y:=⟨_,List.getElem?_eq_getElem hb⟩
     have y7:=aK n y (List.mem_of_getElem? hy)
     have f3:=bf y y7
     obtain ⟨w,c',h1,h2,h3,d,h4,h5,h6⟩:=uH oJ y7 hc
     have hst:=lu (va:=val ((digits m).take i)) (vb:=val ((digits n).take i)) (x:=x) (y:=y) (c:=c) (w:=w) (c':=c') ho (by rw [hv];omega) h3
     simp only [SS,Nat.reduceAdd,bc,oH hlt,hk,iq,ZQ,UC,bl,f1,H7 hb,cZ hy,ax,f3,h4,h5,fT]
     rw [bL (o:=o++0::zs k) (by simp [aa.put]) lF,fB _ _ _ _ ho]
     simp only [SS,Nat.reduceAdd,mb,h6,py]
     refine ⟨(i+1,_,o++[w],c'),⟨(ic hlt).1,by simp [ho],cw hwd (by intro z hz;simp at hz;subst hz;exact h1),h2, ?_⟩,(ic hlt).2,Wk.forget (by simp [Fg]) (fun j => ?_) (Nat.le_refl _)⟩
     . show val (o++[w])+val ((digits n).take (i+1))=val ((digits m).take (i+1))+_
       rw [aC hx,aC hy];exact hst
     . simp only [aa.put,zL];split<;>simp
   . obtain ⟨w,c',h1,h2,h3,d,h4,h5,h6⟩:=uH (y:=0) oJ cP hc
     have h4':IntKind.u64.wrap (IntKind.u64.wrap (IntKind.u64.wrap ((x:Int)+4294967296)-0)-(c:Int))=(d:Int):=h4
     have hst:=lu (va:=val ((digits m).take i)) (vb:=val ((digits n).take i)) (x:=x) (y:=0) (c:=c) (w:=w) (c':=c') ho (by rw [hv];omega) h3
     rw [Nat.mul_zero,Nat.add_zero] at hst
     simp only [SS,Nat.reduceAdd,bc,oH hlt,hk,iq,ZQ,UC,f1,H8 hb,h4',h5,fT]
     rw [bL (o:=o++0::zs k) (by simp [aa.put]) lF,fB _ _ _ _ ho]
     simp only [SS,Nat.reduceAdd,mb,h6,py]
     refine ⟨(i+1,_,o++[w],c'),⟨(ic hlt).1,by simp [ho],cw hwd (by intro z hz;simp at hz;subst hz;exact h1),h2, ?_⟩,(ic hlt).2,Wk.forget (by simp [Fg]) (fun j => ?_) (Nat.le_refl _)⟩
     . show val (o++[w])+val ((digits n).take (i+1))=val ((digits m).take (i+1))+_
       rw [aC hx,iz (show (digits n).length<=i from by show ab n<=i;omega)];exact hst
     . simp only [aa.put,zL];split<;>simp
 . have mE:=cI hlt
   have e1:(digits m).take (ab m)=digits m:=List.take_of_length_le (Nat.le_refl _)
   have e2:(digits n).take (ab m)=digits n:=List.take_of_length_le (by show ab n<=ab m;omega)
   have vQ:val o=m-n:=by
     rw [mE,e1,e2,aH,aH] at hv
     have pV:=kg hwd
     rw [ho,mE] at pV
     rcases Nat.eq_zero_or_pos c with h0 | h0
     . subst h0;omega
     . have:c=1:=by omega
       subst this;have:=cG m;omega
   have rz:ab m=o.length:=by omega
   have e3:zs (ab m-i)=[]:=by rw [mE,Nat.sub_self];rfl
   have uB:=ht o hwd (by omega)
   rw [vQ] at uB
   simp only [SS,Nat.reduceAdd,hd2 hlt,e3]
   refine cW [(3::p,⟨us o,1,false⟩)] uB (aI.cons (gC rz) aI.nil) (by simp [aa.put]) ?_
   simp only [SS,Nat.reduceAdd]
   refine bZ▸aW rfl fun i => ?_
   by_cases e:i=id
   . subst e;right;simp [aa.app,nX,aa.put,aa.of,Rl]
   . left;simp [aa.app,aa.of,List.lookup,show (i==id)=false from by simpa using e]
end
theorem Rm {num h V D x0 M u' l v':Nat} (h0:0<h) (hV:V=(h*au+l)*M+v') (hD:D=(num*au+x0)*M+u') (hx:x0<au) (hu:u'<M) (TI:D/V<au):D/V<=min (num/h) (au-1):=by
 have:=Ih h0 hV hD hx hu
 omega
section
variable {P:Program} {G:Nat->Option (List AV)}
set_option maxHeartbeats 1000000 in
theorem Oy {f ft fti fc fm:FuncId} (h:Has P f (gG fti ft fc fm)) (Av:∀ (m:Nat) (ws:List Nat),Wd ws->ab m<=1000000->ws.length<=1000000->VP P G fti [W m, .sl 1 (us ws)] (W (m*val ws)))
   (MN:Has P ft dt) (hc:∀ m n,ab m<=1000000->ab n<=1000000->VP P G fc [W m,W n] (.int .i64 (gr m n))) (hmi:∀ m n,n<=m->ab m<=1000000->VP P G fm [W m,W n] (W (m-n)))
   {id:Id} {a b t:List Nat} {V k:Nat} (hV:ab V=k+2) (hb:b.length=k+3) (GO:Wd b) (WB:val b<au*V) (hk:k<=900000) (p:Id) (hid:∀ x,id≠x::p) :
   aq P G f [.osl id 1 a.length (k+3) false,W V] p [(id,⟨us (a++b++t),1,false⟩)] { val := .tup [.int .u32 ((val b/V:Nat):Int),W (V*(val b/V))],rd:=[id],up:=[] }:=by
 refine aq.has h ?_
 obtain ⟨hh,Rc⟩:∃ y,(digits V)[k+1]? = some y:=⟨_,List.getElem?_eq_getElem (by show k+1<ab V;omega)⟩
 obtain ⟨ll,llg⟩:∃ y,(digits V)[k]? = some y:=⟨_,List.getElem?_eq_getElem (by show k<ab V;omega)⟩
 have hhB:=aK V hh (List.mem_of_getElem? Rc)
 obtain ⟨X1,ZM⟩:=aaW (aK V) hV Rc llg
 rw [aH] at X1
 obtain ⟨ZP,_,_,_,_⟩:=xO (k:=k+1) hV Rc
 have TH:0<V:=by
   rcases Nat.eq_zero_or_pos V with e | e
   . rw [e] at WB;omega
   . exact e
 obtain ⟨x2,X9⟩:∃ z,b[k+2]? = some z:=⟨_,List.getElem?_eq_getElem (by omega)⟩
 obtain ⟨x1,FO⟩:∃ z,b[k+1]? = some z:=⟨_,List.getElem?_eq_getElem (by omega)⟩
 obtain ⟨z0,TG⟩:∃ z,b[k]? = some z:=⟨_,List.getElem?_eq_getElem (by omega)⟩
 have Ky:=GO x2 (List.mem_of_getElem? X9)
 have Rf:=GO x1 (List.mem_of_getElem? FO)
 have Rg:=GO z0 (List.mem_of_getElem? TG)
 obtain ⟨hD,ZN⟩:=aaX GO hb X9 FO TG
 rw [show x2*au+x1=au*x2+x1 from by rw [Nat.mul_comm]] at hD
 obtain ⟨num,Ch⟩:∃ z,z=au*x2+x1:=⟨_,rfl⟩
 rw [<- Ch] at hD
 have MO:num<18446744073709551616:=by rw [Ch];unfold au at *;omega
 have TI:val b/V<au:=Nat.div_lt_of_lt_mul (by rw [Nat.mul_comm];exact WB)
 have F5:=Rm ZP X1 hD Rg ZN TI
 have io2:=ml (q:=id) (off:=a.length) (t:=false) (show k+2<k+3 by omega)
 have io1:=ml (q:=id) (off:=a.length) (t:=false) (show k+1<k+3 by omega)
 have ld2:=im (σ := aa.of [(id,⟨us (a++b++t),1,false⟩)]) (q:=id) (b:=false) (by simp [aa.of]) (rK (t:=t) (rfl:a.length=a.length) X9)
 have ld1:=im (σ := aa.of [(id,⟨us (a++b++t),1,false⟩)]) (q:=id) (b:=false) (by simp [aa.of]) (rK (t:=t) (rfl:a.length=a.length) FO)
 have w2:=bf x2 Ky
 have w1:=bf x1 Rf
 have w0:=bf hh hhB
 have s2:=tJ x2 Ky
 have o2:=B7 x2 x1 Ky Rf
 rw [<- Ch] at o2
 have q1:=B8 num hh MO (by omega)
 have p1:IntKind.i64.wrap (((k+2:Nat):Int)-1)=((k+1:Nat):Int):=by rw [IntKind.wrap_i64];omega
 have hwD:ab (val b)<=1000000:=by
   have h1:=kg GO
   rw [hb] at h1
   have:=iK h1;omega
 have Yc:=Ck (G:=G) MN (id:=id) (a:=a) (b:=b) (t:=t) GO (by omega)
 rw [hb] at Yc
 obtain ⟨z,hz⟩:=trimmed b GO
 have D6:View (aa.of [(id,⟨us (a++b++t),1,false⟩)]) (.osl id 1 a.length (ab (val b)) false) (W (val b)):=by
   have:a++b++t=a++digits (val b)++(zs z++t):=by
     conv=>lhs;rw [hz]
     simp
   rw [this]
   exact Ip rfl
 have Rl:∀ x,id≠x::p:=hid
 simp only [gG,SS,DD,Nat.reduceAdd,bc,hV,io2,io1,ld2,ld1,w2,w1,s2,o2,p1,cZ Rc,ax,bl,w0,q1]
 refine ⟨by simp [aJ], ?_⟩
 by_cases abb:(4294967295<num/hh)
 . have d1:decide ((4294967295:Int)<((num/hh:Nat):Int))=true:=by first | exact ai (by omega) | exact ag (by omega)
   obtain ⟨q0,Wq⟩:∃ q0:Nat,q0=4294967295:=⟨_,rfl⟩
   have KA:q0<au:=by unfold au;omega
   have Yd:val b/V<=q0:=by unfold au at F5;omega
   have f3:IntKind.u32.wrap (q0:Int)=(q0:Int):=by rw [sK,Nat.mod_eq_of_lt KA]
   have sE:∀ (σ : aa) (q:Id),bu σ q (.buildSl 1 1 (.int .u32 0) [(0, .int .u32 (q0:Int))])=some { val := .osl q 1 0 1 false,up:=[(q,some ⟨us [q0],1,false⟩)] }:=fun σ q=>xE
   have Kw:=Av V [q0] (by intro w hw;simp at hw;subst hw;exact KA) (by omega) (by simp)
   rw [show val [q0]=q0 from by simp [val]] at Kw
   have f3q:IntKind.u32.wrap 4294967295=(q0:Int):=by rw [<- f3,Wq];try rfl
   simp only [SS,Nat.reduceAdd,d1,f3q,sE]
   refine cW [(32::p,⟨us [q0],1,false⟩)] Kw (aI.cons (View.pure (bp _)) (aI.cons (gC rfl) aI.nil)) (by simp [aa.put]) ?_
   simp only [SS,Nat.reduceAdd,az]
   refine VW.bG (α := Nat × Nat) (fun x=>⟨[.osl id 1 a.length (k+3) false,W V, .top, .top, .top, .top, .top, .int .u64 (x.1:Int),W (V*x.1)]++List.replicate 42 .top,aa.of [(id,⟨us (a++b++t),1,false⟩)],x.2⟩)
     (fun x=>val b/V<=x.1/\x.1<au) (fun x=>x.1) (q0,1000) ?_ ?_ ?_
   . refine Wk.forget (by simp [Fg,List.replicate,Wq]) (fun j => ?_) (by simp only [];omega)
     by_cases e:j=id
     . subst e;right;simp [aa.app,nX,aa.put,aa.of,Rl]
     . left;simp [aa.of,List.lookup,show (j==id)=false from by simpa using e]
   . exact ⟨Yd,KA⟩
   rintro ⟨q,nn⟩ ⟨hq1,N3⟩
   simp only [] at hq1 N3
   have hwq:ab (V*q)<=1000000:=by
     have h1:=oa V q
     have h2:ab q<=1:=iK (by simpa using N3)
     omega
   have hcv:=hc (val b) (V*q) hwD hwq
   simp only [SS,Nat.reduceAdd]
   refine ⟨[(id,⟨us (a++b++t),1,false⟩)],_,Yc _,by simp [aa.of],by simp, ?_⟩
   simp only [SS,Nat.reduceAdd]
   refine ig [(id,⟨us (a++b++t),1,false⟩)] hcv (aI.cons D6 (aI.cons (View.pure (bp _)) aI.nil)) (fun _ _ _ _ _ h=>by simpa [aD] using h) (by simp [aa.of]) ?_
   by_cases hlt:val b<V*q
   . have d2:decide (gr (val b) (V*q)<0)=true:=ai (by simp only [gr,iy];rw [if_pos (by omega)];decide)
     have hqp:1<=q:=by
       rcases Nat.eq_zero_or_pos q with e | e
       . rw [e] at hlt;omega
       . exact e
     have hle:val b/V<=q-1:=by
       have:=(Nat.div_lt_iff_lt_mul TH).2 (by rw [Nat.mul_comm] at hlt;exact hlt)
       omega
     have pq:IntKind.u64.wrap ((q:Int)-1)=((q-1:Nat):Int):=by rw [IntKind.wrap_u64];unfold au at N3;omega
     have MQ:=hmi (V*q) V (Nat.le_mul_of_pos_right _ hqp) hwq
     have em:V*q-V=V*(q-1):=by rw [Nat.mul_sub,Nat.mul_one]
     rw [em] at MQ
     simp only [SS,Nat.reduceAdd,d2,pq]
     refine aj MQ (by simp [bp]) ?_
     simp only [SS,Nat.reduceAdd]
     exact ⟨(q-1,_),⟨hle,by simp only [];omega⟩,by simp only [];omega,Wk.slots (by simp [Fg]) (Nat.le_refl _)⟩
   . have d2:decide (gr (val b) (V*q)<0)=false:=ag (by simp only [gr,iy];rw [if_neg (by omega)];split<;>decide)
     have Uy:q=val b/V:=by
       have:=(Nat.le_div_iff_mul_le TH).2 (show q*V<=val b by rw [Nat.mul_comm];omega)
       omega
     have f4:IntKind.u32.wrap (q:Int)=(q:Int):=by rw [sK,Nat.mod_eq_of_lt N3]
     simp only [SS,Nat.reduceAdd,d2,f4]
     rw [<- Uy]
     exact bZ▸aW rfl fun i => .inr rfl
 by_cases Ye:(¬ 4294967295<num/hh)
 . have d1:decide ((4294967295:Int)<((num/hh:Nat):Int))=false:=by first | exact ai (by omega) | exact ag (by omega)
   obtain ⟨q0,Wq⟩:∃ q0:Nat,q0=(num/hh):=⟨_,rfl⟩
   have KA:q0<au:=by unfold au;omega
   have Yd:val b/V<=q0:=by unfold au at F5;omega
   have f3:IntKind.u32.wrap (q0:Int)=(q0:Int):=by rw [sK,Nat.mod_eq_of_lt KA]
   have sE:∀ (σ : aa) (q:Id),bu σ q (.buildSl 1 1 (.int .u32 0) [(0, .int .u32 (q0:Int))])=some { val := .osl q 1 0 1 false,up:=[(q,some ⟨us [q0],1,false⟩)] }:=fun σ q=>xE
   have Kw:=Av V [q0] (by intro w hw;simp at hw;subst hw;exact KA) (by omega) (by simp)
   rw [show val [q0]=q0 from by simp [val]] at Kw
   have f3q:IntKind.u32.wrap ((num/hh:Nat):Int)=(q0:Int):=by rw [<- f3,Wq];try rfl
   simp only [SS,Nat.reduceAdd,d1,f3q,sE]
   refine cW [(31::p,⟨us [q0],1,false⟩)] Kw (aI.cons (View.pure (bp _)) (aI.cons (gC rfl) aI.nil)) (by simp [aa.put]) ?_
   simp only [SS,Nat.reduceAdd,az]
   refine VW.bG (α := Nat × Nat) (fun x=>⟨[.osl id 1 a.length (k+3) false,W V, .top, .top, .top, .top, .top, .int .u64 (x.1:Int),W (V*x.1)]++List.replicate 42 .top,aa.of [(id,⟨us (a++b++t),1,false⟩)],x.2⟩)
     (fun x=>val b/V<=x.1/\x.1<au) (fun x=>x.1) (q0,1000) ?_ ?_ ?_
   . refine Wk.forget (by simp [Fg,List.replicate,Wq]) (fun j => ?_) (by simp only [];omega)
     by_cases e:j=id
     . subst e;right;simp [aa.app,nX,aa.put,aa.of,Rl]
     . left;simp [aa.of,List.lookup,show (j==id)=false from by simpa using e]
   . exact ⟨Yd,KA⟩
   rintro ⟨q,nn⟩ ⟨hq1,N3⟩
   simp only [] at hq1 N3
   have hwq:ab (V*q)<=1000000:=by
     have h1:=oa V q
     have h2:ab q<=1:=iK (by simpa using N3)
     omega
   have hcv:=hc (val b) (V*q) hwD hwq
   simp only [SS,Nat.reduceAdd]
   refine ⟨[(id,⟨us (a++b++t),1,false⟩)],_,Yc _,by simp [aa.of],by simp, ?_⟩
   simp only [SS,Nat.reduceAdd]
   refine ig [(id,⟨us (a++b++t),1,false⟩)] hcv (aI.cons D6 (aI.cons (View.pure (bp _)) aI.nil)) (fun _ _ _ _ _ h=>by simpa [aD] using h) (by simp [aa.of]) ?_
   by_cases hlt:val b<V*q
   . have d2:decide (gr (val b) (V*q)<0)=true:=ai (by simp only [gr,iy];rw [if_pos (by omega)];decide)
     have hqp:1<=q:=by
       rcases Nat.eq_zero_or_pos q with e | e
       . rw [e] at hlt;omega
       . exact e
     have hle:val b/V<=q-1:=by
       have:=(Nat.div_lt_iff_lt_mul TH).2 (by rw [Nat.mul_comm] at hlt;exact hlt)
       omega
     have pq:IntKind.u64.wrap ((q:Int)-1)=((q-1:Nat):Int):=by rw [IntKind.wrap_u64];unfold au at N3;omega
     have MQ:=hmi (V*q) V (Nat.le_mul_of_pos_right _ hqp) hwq
     have em:V*q-V=V*(q-1):=by rw [Nat.mul_sub,Nat.mul_one]
     rw [em] at MQ
     simp only [SS,Nat.reduceAdd,d2,pq]
     refine aj MQ (by simp [bp]) ?_
     simp only [SS,Nat.reduceAdd]
     exact ⟨(q-1,_),⟨hle,by simp only [];omega⟩,by simp only [];omega,Wk.slots (by simp [Fg]) (Nat.le_refl _)⟩
   . have d2:decide (gr (val b) (V*q)<0)=false:=ag (by simp only [gr,iy];rw [if_neg (by omega)];split<;>decide)
     have Uy:q=val b/V:=by
       have:=(Nat.le_div_iff_mul_le TH).2 (show q*V<=val b by rw [Nat.mul_comm];omega)
       omega
     have f4:IntKind.u32.wrap (q:Int)=(q:Int):=by rw [sK,Nat.mod_eq_of_lt N3]
     simp only [SS,Nat.reduceAdd,d2,f4]
     rw [<- Uy]
     exact bZ▸aW rfl fun i => .inr rfl
 exact absurd abb Ye
end
theorem UD {k r j y:Nat} (h:(pad (k+1) r)[j]? = some y) (hr:r<au ^ (k+1)):y=(if j<ab r then ((digits r)[j]?).getD 0 else 0):=by
 obtain ⟨z,hz⟩:=trimmed (pad (k+1) r) (p5 _ _)
 rw [gu hr] at hz
 rw [hz] at h
 by_cases hj:j<ab r
 . rw [if_pos hj]
   rw [List.getElem?_append_left (show j<(digits r).length from hj)] at h
   rw [h];rfl
 . rw [if_neg hj]
   rw [List.getElem?_append_right (show (digits r).length<=j from by show ab r<=j;omega)] at h
   exact List.eq_of_mem_replicate (List.mem_of_getElem? h)
theorem Rn {a p b t:List Nat} {k j w:Nat} (hp:p.length=k) (hb:b.length=k) (hj:j<k):(a++(p.take j++b.drop j)++t).set (a.length+j) w=a++(p.take j++w::b.drop (j+1))++t:=by
 have h1:(p.take j).length=j:=by rw [List.length_take];omega
 obtain ⟨x,hx⟩:∃ x,b.drop j=x::b.drop (j+1):=⟨_,List.drop_eq_getElem_cons (show j<b.length by omega)⟩
 rw [hx,List.append_assoc,List.set_append_right _ _ (by omega),show a.length+j-a.length=j from by omega,List.append_assoc,List.set_append_right _ _ (by omega),h1,Nat.sub_self]
 simp
theorem Oz {a p b t:List Nat} {k j v w:Nat} (hp:p.length=k) (hj:j<k):(a++(p.take j++v::b)++t).set (a.length+j) w=a++(p.take j++w::b)++t:=by
 have h1:(p.take j).length=j:=by rw [List.length_take];omega
 rw [List.append_assoc,List.set_append_right _ _ (by omega),show a.length+j-a.length=j from by omega,List.append_assoc,List.set_append_right _ _ (by omega),h1,Nat.sub_self]
 simp
section
variable {P:Program} {G:Nat->Option (List AV)}
set_option maxRecDepth 100000 in
set_option maxHeartbeats 4000000 in
theorem KB {f fc fsh fw fby fl fsd ft fdg fmi fbk ftm:FuncId} (h:Has P f (iT fc fsh fw fby fl fsd ft fdg fmi fbk))
   (hc:∀ m n,ab m<=1000000->ab n<=1000000->VP P G fc [W m,W n] (.int .i64 (gr m n)))
   (Wy:∀ n,n<18446744073709551616->VP P G fsh [W n] (.int .u64 ((n:Nat):Int))) (hu:∀ n,n<18446744073709551616->VP P G fw [.int .u64 ((n:Nat):Int)] (W n))
   (JU:∀ m w:Nat,ab m<=1000000->w<au->w≠0->VP P G fby [W m, .int .u32 (w:Int)] (.tup [W (m/w), .int .u32 ((m%w:Nat):Int)]))
   (hlen:Has P fl gm) (hsd:Has P fsd fW) (ht:gU P G ft) (MN:Has P ft dt)
   (hdg:Has P fdg (gG ftm ft fc fmi)) (Av:∀ (m:Nat) (ws:List Nat),Wd ws->ab m<=1000000->ws.length<=1000000->VP P G ftm [W m, .sl 1 (us ws)] (W (m*val ws)))
   (hmi:Has P fmi (dQ ft)) (J6:∀ m s:Nat,ab m<=1000000->s<=31->VP P G fbk [W m, .int .i64 (s:Int)] (W (m/2 ^ s)))
   (m n:Nat) (ry:n≠0) (hm:ab m<=900000) (hn:ab n<=900000):VP P G f [W m,W n] (.tup [W (m/n),W (m%n)]):=by
 refine VP.has h ?_
 have XW:=hc m n (by omega) (by omega)
 have B6:m/n=0->∀ σ,View σ .nils (W (m/n)):=fun h σ => by rw [h];simp only [W,bh,us];exact View.nils 1
 have XX:m<n->m/n=0/\m%n=m:=fun h=>⟨Nat.div_eq_of_lt h,Nat.mod_eq_of_lt h⟩
 have c1:m<n->decide (gr m n<0)=true:=fun h=>ai (by simp only [gr,iy];rw [if_pos (by omega)];decide)
 have c2 : ¬ m<n->decide (gr m n<0)=false:=fun h=>ag (by simp only [gr,iy];rw [if_neg (by omega)];split<;>decide)
 have l1:ab m<=2->decide ((ab m:Int)<=2)=true:=fun h=>ai (by omega)
 have l2 : ¬ ab m<=2->decide ((ab m:Int)<=2)=false:=fun h=>ag (by omega)
 have b1:ab n=1->decide ((ab n:Int)=1)=true:=fun h=>ai (by omega)
 simp only [iT,SS,Nat.reduceAdd]
 refine aj XW (by simp [bp]) ?_
 by_cases h1:m<n
 . simp only [SS,Nat.reduceAdd,c1 h1]
   obtain ⟨e1,e2⟩:=XX h1
   refine ah▸⟨.tup [.nils,W m],rfl,View.tup (aI.cons (B6 e1 _) (aI.cons ?_ aI.nil))⟩
   rw [e2];exact View.pure (bp _)
 have yI:n<=m:=by omega
 have hwn:ab n≠0:=fun e=>ry (bC.1 e)
 by_cases h2:ab m<=2
 . have sQ:=pz h2
   have Qd:n<18446744073709551616:=by omega
   have hq:=B8 m n sQ ry
   have hr:=B9 m n ry
   have TB:=hu (m/n) (Nat.lt_of_le_of_lt (Nat.div_le_self _ _) sQ)
   have Xl:=hu (m%n) (Nat.lt_of_le_of_lt (Nat.mod_le _ _) sQ)
   simp only [SS,Nat.reduceAdd,c2 h1,bc,l1 h2]
   refine aj (Wy m sQ) (by simp [bp]) ?_
   simp only [SS,Nat.reduceAdd]
   refine aj (Wy n Qd) (by simp [bp]) ?_
   simp only [SS,DD,Nat.reduceAdd,hq]
   refine dG TB (by simp [af.int]) ?_
   simp only [SS,DD,Nat.reduceAdd,hr]
   refine dG Xl (by simp [af.int]) ?_
   simp only [SS,DD,Nat.reduceAdd]
   refine ⟨by simp [aJ,apart], ?_⟩
   exact ah▸ae rfl (af.tup (by intro c hc;simp at hc;rcases hc with rfl | rfl<;>exact bp _))
 by_cases h3:ab n=1
 . obtain ⟨x,hx⟩:∃ x,(digits n)[0]? = some x:=⟨_,List.getElem?_eq_getElem (by show 0<ab n;omega)⟩
   have Oq:x=n:=by
     have e:=aC hx
     rw [List.take_of_length_le (show (digits n).length<=1 from by show ab n<=1;omega),aH] at e
     simp [val] at e;omega
   have hg:=cZ hx
   rw [Oq] at hg
   have hnB:n<au:=by rw [<- Oq];exact aK n x (List.mem_of_getElem? hx)
   have Q6:=JU m n (by omega) hnB ry
   have GR:aV 1 (W n) (.int .i64 0)=some (.ep (AV.int .u32 (n:Int)).cells 0):=hg
   have hmB:m%n<au:=Nat.lt_trans (Nat.mod_lt _ (Nat.pos_of_ne_zero ry)) hnB
   have f9:=bf (m%n) hmB
   have hu9:=hu (m%n) (by unfold au at hmB;omega)
   simp only [SS,Nat.reduceAdd,c2 h1,bc,l2 h2,b1 h3,GR,ax,bl]
   refine aj Q6 (by simp [bp,af.int]) ?_
   simp only [SS,Nat.reduceAdd,wi,wj,f9]
   refine aj hu9 (by simp [af.int]) ?_
   simp only [SS,Nat.reduceAdd]
   exact ah▸ae rfl (af.tup (by intro c hc;simp at hc;rcases hc with rfl | rfl<;>exact bp _))
 obtain ⟨k,hk⟩:∃ k,ab n=k+2:=⟨ab n-2,by omega⟩
 obtain ⟨x,hx⟩:∃ x,(digits n)[k+1]? = some x:=⟨_,List.getElem?_eq_getElem (by show k+1<ab n;omega)⟩
 obtain ⟨Og,XY,hV,XZ,hs⟩:=xO hk hx
 obtain ⟨aiM,aiN⟩:=MK XY Og
 have abd:=Kz (G:=G) hlen hk hx (by omega)
 generalize aiO:32-ir x=s at hV XZ hs
 have m1:IntKind.i64.wrap (32*((k+2:Nat):Int))=((32*(k+2):Nat):Int):=by rw [IntKind.wrap_i64];omega
 have m2:IntKind.i64.wrap (((32*(k+2):Nat):Int)-((32*(k+1)+ir x:Nat):Int))=(s:Int):=by rw [IntKind.wrap_i64];omega
 obtain ⟨V,Ot⟩:∃ V,V=n*2 ^ s:=⟨_,rfl⟩
 obtain ⟨U,Uw⟩:∃ U,U=m*2 ^ s:=⟨_,rfl⟩
 rw [<- Ot] at hV XZ
 have Ku:=Cj (G:=G) hsd m s (by omega) hs
 have Kv:=Cj (G:=G) hsd n s (by omega) hs
 rw [<- Ot] at Kv
 rw [<- Uw] at Ku
 obtain ⟨L,hL⟩:∃ L,ab m+1=L+(k+2):=⟨ab m+1-(k+2),by have:=c9 yI;omega⟩
 have hUB:U<au ^ (ab m+1):=by
   have h4:2 ^ s<=2 ^ 32:=Nat.pow_le_pow_right (by decide) (by omega)
   have h5:m*2 ^ s<=m*2 ^ 32:=Nat.mul_le_mul_left _ h4
   have h6:m*2 ^ 32<au ^ ab m*2 ^ 32:=Nat.mul_lt_mul_of_pos_right (cG m) (by decide)
   rw [Nat.pow_succ,Uw];exact Nat.lt_of_le_of_lt h5 h6
 obtain ⟨A0,R0,X0,WA,hR0⟩:∃ A R,pad (ab m+1) U=A++R++[]/\A.length=L/\R.length=k+2 :=
   ⟨(pad (ab m+1) U).take L,(pad (ab m+1) U).drop L,by simp,by simp [j0];omega,by simp [j0];omega⟩
 have hAw:Wd A0/\Wd R0:=by
   have h4:=p5 (ab m+1) U
   rw [X0] at h4
   exact ⟨fun w hw=>h4 w (by simp [hw]),fun w hw=>h4 w (by simp [hw])⟩
 have hU0:U=val A0+au ^ L*val R0:=by
   have h4:=gu hUB
   rw [X0,List.append_nil,cj,WA] at h4
   exact h4.symm
 have Rb:val R0<V:=Ij (k:=k+2) Ot (by have:=px ry;rw [hk] at this;exact this) (by
   have h4:=cG m
   have:L+(k+2-1)=ab m:=by omega
   rw [this];exact h4) (Uw▸hU0)
 have Cg:ab V=k+2:=XZ
 have TH:0<V:=Nat.lt_of_le_of_lt (Nat.zero_le _) Rb
 have vq:IntKind.i64.wrap (((ab m:Nat):Int)-((k+2:Nat):Int))=(L:Int)-1:=by rw [IntKind.wrap_i64];omega
 have uR:∀ p:Id,j4 p 1 4 (.int .u32 0) (.int .i64 ((ab m:Nat):Int)) (.int .i64 ((ab m:Nat):Int))=some { val := .osl p 1 0 (ab m) false,up:=[(p,some ⟨us (List.replicate (ab m) 0),1,false⟩)] }:=fun p=>lg (by omega)
 rw [X0] at Ku
 rw [hk] at Kv
 have b3:decide (((k+2:Nat):Int)=1)=false:=ag (by omega)
 have PG:V<au ^ (k+2+1):=Nat.lt_of_lt_of_le hV (Nat.pow_le_pow_right cP (by omega))
 have Kw:VP P G ft [.sl 1 (us (pad (k+2+1) V))] (W V):=by
   have:=ht (pad (k+2+1) V) (p5 _ _) (by rw [j0];omega)
   rwa [gu PG] at this
 simp only [SS,Nat.reduceAdd,c2 h1,bc,l2 h2,b3,hk,m1]
 refine aj abd (by simp [bp]) ?_
 simp only [SS,Nat.reduceAdd,m2]
 refine ⟨[],_,Ku _,by simp,by simp, ?_⟩
 simp only [SS,Nat.reduceAdd]
 refine ⟨[],_,Kv _,by simp,by simp, ?_⟩
 simp only [SS,Nat.reduceAdd]
 refine cW [([4,24],⟨us (pad (k+2+1) V),1,false⟩)] Kw (aI.cons (gC (j0 _ _).symm) aI.nil) (by simp [aa.put]) ?_
 simp only [SS,Nat.reduceAdd,bc,Cg,uR,vq,az]
 refine VW.bG (α := Nat × List Nat × List Nat × Nat × List Nat × Nat) (fun x=>⟨List.replicate 10 .top++[.int .i64 (s:Int), .osl [4,21] 1 0 (ab m+1) false,W V, .osl [30] 1 0 (ab m) false, .int .i64 ((x.1:Int)-1)]++List.replicate 113 .top,
   aa.put (aa.put (fun _=>none) [4,21] (some ⟨us (x.2.1++x.2.2.1++zs x.2.2.2.1),1,false⟩)) [30] (some ⟨us (zs x.1++(x.2.2.2.2.1++zs (k+1))),1,false⟩),x.2.2.2.2.2⟩)
   (fun x=>x.1+x.2.2.2.2.1.length=L/\x.2.1.length=x.1/\x.2.2.1.length=k+2/\x.1+(k+2)+x.2.2.2.1=ab m+1/\Wd x.2.1/\Wd x.2.2.1/\Wd x.2.2.2.2.1/\val x.2.2.1<V/\U=val x.2.1+au ^ x.1*(val x.2.2.2.2.1*V+val x.2.2.1)/\1000<=x.2.2.2.2.2) (fun x=>x.1) (L,A0,R0,0,[],1000) ?_ ?_ ?_
 . refine Wk.forget (by simp [Fg,List.replicate]) (fun j => ?_) (by simp only [];omega)
   have hLk:zs (ab m)=zs L++([]++zs (k+1)):=by
     simp only [zs,List.nil_append,List.replicate_append_replicate];congr 1;omega
   simp only [List.append_nil,aa.put,aa.app,nX,List.map_cons,List.map_nil, <- hLk,rI]
   by_cases e1:j=[30]
   . subst e1;simp [zs]
   . by_cases e2:j=[4,21]
     . subst e2;simp
     . simp [e1,e2]
 . refine ⟨by simp,WA,hR0,by simp only [];omega,hAw.1,hAw.2,by intro w hw;simp at hw,Rb, ?_,Nat.le_refl _⟩
   show U=val A0+au ^ L*(val []*V+val R0)
   rw [show val []=0 from rfl,Nat.zero_mul,Nat.zero_add];exact hU0
 rintro ⟨c,A,R,tl,o,nn⟩ ⟨hcc,hA,hR,JT,X2,X3,X4,X5,X6,Xq⟩
 simp only [] at hcc hA hR JT X2 X3 X4 X5 X6 Xq
 rcases Nat.eq_zero_or_pos c with h0 | hcp
 . subst h0
   have d0:decide ((0:Int)<=((0:Nat):Int)-1)=false:=by decide
   obtain rfl:A=[]:=List.length_eq_zero_iff.1 hA
   have hU':m*2 ^ s=val o*(n*2 ^ s)+val R:=by
     rw [<- Uw, <- Ot,X6]
     show val []+au ^ 0*_=_
     simp [val]
   obtain ⟨g1,g2,g3⟩:=ML ry hU' (Ot▸X5)
   have hoL:ab m=(o++zs (k+1)).length:=by simp [zs];omega
   have htq:=ht (o++zs (k+1)) (cw X4 (QT _)) (by omega)
   rw [show val (o++zs (k+1))=val o from ME o (k+1),g1] at htq
   have hRl:ab m+1=(R++zs tl).length:=by simp [zs];omega
   have htR:=ht (R++zs tl) (cw X3 (QT _)) (by omega)
   rw [show val (R++zs tl)=val R from ME R tl] at htR
   have hwR:ab (val R)<=1000000:=by rw [<- Ot,Cg] at g3;omega
   have abe:=J6 (val R) s hwR hs
   rw [g2] at abe
   simp only [SS,Nat.reduceAdd,d0,rI]
   refine cW [([30],⟨us (o++zs (k+1)),1,false⟩)] htq (aI.cons (gC hoL) aI.nil) (by simp [aa.put]) ?_
   simp only [SS,Nat.reduceAdd]
   refine cW [([4,21],⟨us (R++zs tl),1,false⟩)] htR (aI.cons (gC hRl) aI.nil) (by simp [aa.put,aa.app,nX]) ?_
   simp only [SS,Nat.reduceAdd]
   refine aj abe (by simp [bp,af.int]) ?_
   simp only [SS,Nat.reduceAdd]
   exact ah▸ae rfl (af.tup (by intro c hc;simp at hc;rcases hc with rfl | rfl<;>exact bp _))
 obtain ⟨i,rfl⟩:∃ i,c=i+1:=⟨c-1,by omega⟩
 have d0:decide ((0:Int)<=(i:Int))=true:=ai (by omega)
 have hj:((i+1:Nat):Int)-1=(i:Int):=by omega
 have AX:IntKind.i64.wrap ((i:Int)-1)=(i:Int)-1:=by rw [IntKind.wrap_i64];omega
 obtain ⟨A',y,rfl,hA'⟩:=rL hA
 obtain ⟨b,vM⟩:∃ b,b=y::R:=⟨_,rfl⟩
 have eb:A'++[y]++R++zs tl=A'++b++zs tl:=by rw [vM];simp
 have X7:y<au:=X2 y (by simp)
 have X8:Wd A':=fun w hw=>X2 w (by simp [hw])
 have tp:b.length=k+3:=by rw [vM];simp [hR]
 have GO:Wd b:=by
   intro w hw;rw [vM] at hw
   rcases List.mem_cons.1 hw with rfl | hw
   . exact X7
   . exact X3 w hw
 have hbv:val b=y+au*val R:=by rw [vM];rfl
 obtain ⟨WB,TI⟩:=aaY X7 X5
 rw [<- hbv] at WB TI
 have a1:=lM i (k+2) (by omega)
 have a4:IntKind.i64.wrap (((i+(k+2):Nat):Int)+1)=((i+(k+3):Nat):Int):=by rw [IntKind.wrap_i64];omega
 have iaq:=cA (q:=[30]) (t:=false) (show i<ab m by omega)
 have Il:bR 1 (.osl [4,21] 1 0 (ab m+1) false) (some (.int .i64 (i:Int))) (some (.int .i64 ((i+(k+3):Nat):Int))) none=some (.osl [4,21] 1 A'.length (k+3) false):=by
   rw [EC (by omega) (by omega),hA']
   congr 2;omega
 have hid:∀ j,1000<=j->∀ x,([4,21]:List Nat)≠x::[j]:=fun j h x e=>by simp at e;omega
 have aeS:∀ j,1000<=j->_:=fun j hj=>Oy (G:=G) hdg Av MN hc (fun m n h1 h2=>EE hmi ht m n h1 h2) (id:=[4,21]) (a:=A') (b:=b) (t:=zs tl) Cg tp GO WB (by omega) [j] (hid j hj)
 have abf:=Ck (G:=G) MN (id:=[4,21]) (a:=A') (b:=b) (t:=zs tl) GO (by omega)
 rw [tp] at abf
 obtain ⟨z,hz⟩:=trimmed b GO
 have he:A'++b++zs tl=A'++digits (val b)++(zs z++zs tl):=by
   conv=>lhs;rw [hz]
   simp
 have ED:val b%V<V:=Nat.mod_lt _ TH
 have abg:val b-V*(val b/V)=val b%V:=by have:=Nat.div_add_mod (val b) V;omega
 have A2:ab (val b)<=1000000:=by
   have h1:=kg GO
   rw [tp] at h1
   have:=iK h1;omega
 have abh:∀ j,1000<=j->_:=fun j hj=>Ox (G:=G) hmi ht (id:=[4,21]) (a:=A') (t:=zs z++zs tl) (val b) (V*(val b/V)) (Nat.mul_div_le _ _) A2 [j] (hid j hj)
 rw [abg, <- he] at abh
 have hqL:i<(zs (i+1)++(o++zs (k+1))).length:=by simp [zs];omega
 rw [eb]
 simp only [SS,Nat.reduceAdd,hj,d0,bc,Cg,a1,a4,Il]
 refine ⟨[([4,21],⟨us (A'++b++zs tl),1,false⟩)],_,aeS _ (by omega),by simp [aa.put],by simp, ?_⟩
 simp only [SS,Nat.reduceAdd,wi,wj,iaq]
 rw [bL (o:=zs (i+1)++(o++zs (k+1))) (by simp [aa.put]) hqL,tK]
 simp only [SS,Nat.reduceAdd]
 refine ⟨[([4,21],⟨us (A'++b++zs tl),1,false⟩)],_,abf _,by simp [aa.put],by simp, ?_⟩
 simp only [SS,Nat.reduceAdd]
 refine ⟨[([4,21],⟨us (A'++b++zs tl),1,false⟩)],_,abh _ (by omega),by simp [aa.put],by simp, ?_⟩
 simp only [SS,Nat.reduceAdd,az]
 obtain ⟨r,hr⟩:∃ r,r=val b%V:=⟨_,rfl⟩
 rw [<- hr] at ED ⊢
 have C6:r<au ^ (k+2):=Nat.lt_trans ED hV
 have aeT:r<au ^ (k+2+1):=Nat.lt_of_lt_of_le C6 (Nat.pow_le_pow_right cP (by omega))
 obtain ⟨pd,Yf⟩:∃ pd,pd=pad (k+2+1) r:=⟨_,rfl⟩
 have Ro:pd.length=k+3:=by rw [Yf];exact j0 _ _
 refine VW.bG (α := Nat × Nat) (fun x=>⟨List.replicate 10 .top++[.int .i64 (s:Int), .osl [4,21] 1 0 (ab m+1) false,W V, .osl [30] 1 0 (ab m) false, .int .i64 (i:Int), .osl [4,21] 1 A'.length (k+3) false, .top, .top,W r, .int .i64 (x.1:Int)]++List.replicate 108 .top,
   aa.put (aa.put (fun _=>none) [4,21] (some ⟨us (A'++(pd.take x.1++b.drop x.1)++zs tl),1,false⟩)) [30] (some ⟨us (zs i++val b/V::(o++zs (k+1))),1,false⟩),x.2⟩)
   (fun x=>x.1<=k+3/\1000<=x.2) (fun x=>k+3-x.1) (0,nn+1000) ?_ ?_ ?_
 . refine Wk.forget (by simp [Fg,List.replicate]) (fun j => ?_) (by simp only [];omega)
   simp only [List.take_zero,List.drop_zero,List.nil_append,aa.put]
   by_cases e1:j=[30]
   . subst e1;simp
   . by_cases e2:j=[4,21]
     . subst e2;simp
     . simp [e1,e2]
 . exact ⟨Nat.zero_le _,by simp only [];omega⟩
 rintro ⟨j,mm⟩ ⟨hjk,Dh⟩
 simp only [] at hjk Dh
 have oH:j<k+3->decide ((j:Int)<((k+3:Nat):Int))=true:=fun h=>ai (by omega)
 have hd2 : ¬ j<k+3->decide ((j:Int)<((k+3:Nat):Int))=false:=fun h=>ag (by omega)
 have H7:j<ab r->decide ((j:Int)<(ab r:Int))=true:=fun h=>ai (by omega)
 have H8 : ¬ j<ab r->decide ((j:Int)<(ab r:Int))=false:=fun h=>ag (by omega)
 have MG:=ao j (by omega)
 by_cases yE:j<k+3
 . have ZQ:=ml (q:=[4,21]) (off:=A'.length) (t:=false) yE
   have aiR:(pd.take j++b.drop j).length=k+3:=by simp [Ro,tp];omega
   obtain ⟨y',hy'⟩:∃ y,pd[j]? = some y:=⟨_,List.getElem?_eq_getElem (by omega)⟩
   have hpm:=UD (Yf▸hy') aeT
   have Uo:∀ w,(A'++(pd.take j++b.drop j)++zs tl).set (A'.length+j) w=A'++(pd.take j++w::b.drop (j+1))++zs tl:=fun w=>Rn Ro tp yE
   have abk:∀ v w,(A'++(pd.take j++v::b.drop (j+1))++zs tl).set (A'.length+j) w=A'++(pd.take j++w::b.drop (j+1))++zs tl:=fun v w=>Oz Ro yE
   have lF:A'.length+j<(A'++(pd.take j++b.drop j)++zs tl).length:=by simp [Ro,tp];omega
   have sD:∀ v,A'.length+j<(A'++(pd.take j++v::b.drop (j+1))++zs tl).length:=fun v=>by simp [Ro,tp];omega
   have JR:pd.take j++y'::b.drop (j+1)=pd.take (j+1)++b.drop (j+1):=by
     have:=List.take_add_one (l:=pd) (i:=j)
     rw [hy'] at this;rw [this];simp
   have abl:k+3-(j+1)<k+3-j:=by omega
   have abm:∀ σ : aa, σ [4,21]=some ⟨us (A'++(pd.take j++b.drop j)++zs tl),1,false⟩->eO σ 1 (.ref [4,21] (A'.length+j) 0) (.int .u32 0)=some { val := .tup [],rd:=[[4,21]],up:=[([4,21],some ⟨us (A'++(pd.take j++0::b.drop (j+1))++zs tl),1,false⟩)] }:=fun σ hσ => by
     have:=bL (x:=0) hσ lF
     rw [Uo] at this;exact this
   by_cases Yg:j<ab r
   . obtain ⟨dj,hdj⟩:∃ y,(digits r)[j]? = some y:=⟨_,List.getElem?_eq_getElem Yg⟩
     rw [if_pos Yg,hdj,Option.getD_some] at hpm
     subst hpm
     simp only [SS,Nat.reduceAdd,oH yE,ZQ]
     rw [abm _ (by simp [aa.put])]
     simp only [SS,Nat.reduceAdd,bc,H7 Yg,cZ hdj,ax,bl,ZQ]
     rw [bL (o:=A'++(pd.take j++0::b.drop (j+1))++zs tl) (by simp [aa.put]) (sD _),abk,JR]
     simp only [SS,Nat.reduceAdd,MG]
     refine ⟨(j+1,_),⟨by simp only [];omega,by simp only [];omega⟩,abl,Wk.forget (by simp [Fg]) (fun q => ?_) (Nat.le_refl _)⟩
     simp only [aa.put]
     by_cases e1:q=[30]
     . subst e1;simp
     . by_cases e2:q=[4,21]
       . subst e2;simp
       . simp [e1,e2]
   . rw [if_neg Yg] at hpm
     subst hpm
     simp only [SS,Nat.reduceAdd,oH yE,ZQ]
     rw [abm _ (by simp [aa.put]),JR]
     simp only [SS,Nat.reduceAdd,bc,H8 Yg,MG]
     refine ⟨(j+1,_),⟨by simp only [];omega,by simp only [];omega⟩,abl,Wk.forget (by simp [Fg]) (fun q => ?_) (Nat.le_refl _)⟩
     simp only [aa.put]
     by_cases e1:q=[30]
     . subst e1;simp
     . by_cases e2:q=[4,21]
       . subst e2;simp
       . simp [e1,e2]
 . have u7:j=k+3:=by omega
   have xj:val b=val b/V*V+r:=by rw [hr];have:=Nat.div_add_mod (val b) V;rw [Nat.mul_comm] at this;omega
   have hUn:U=val A'+au ^ i*(val (val b/V::o)*V+val (pad (k+2) r)):=by
     rw [gu C6]
     refine Ii (x:=y) (R:=val R) (O:=val o) ?_ (by rw [<- hbv];exact xj)
     rw [X6,cj,hA']
     simp only [val,Nat.mul_zero,Nat.add_zero]
   have hep:A'++(pd.take j++b.drop j)++zs tl=A'++pad (k+2) r++zs (tl+1):=by
     rw [u7,List.take_of_length_le (by omega),List.drop_eq_nil_of_le (by omega),Yf,F4 C6]
     simp [iq]
   rw [hep]
   simp only [SS,Nat.reduceAdd,hd2 yE,AX]
   refine ⟨(i,A',pad (k+2) r,tl+1,val b/V::o,_),⟨by simp;omega,hA',j0 _ _,by simp only [];omega,X8,p5 _ _, ?_,by simp only [];rw [gu C6];exact ED,hUn,by simp only [];omega⟩,Nat.lt_succ_self i,Wk.forget (by simp [Fg]) (fun q => ?_) (Nat.le_refl _)⟩
   . intro w hw
     rcases List.mem_cons.1 hw with rfl | hw
     . exact TI
     . exact X4 w hw
   . right;simp
end
theorem Rp {a b:Int} (h:decide (a<0)=decide (b<0)):iL (decide (a<0)) (a.natAbs+b.natAbs)=a+b:=by
 unfold iL
 by_cases h1:a<0<;>by_cases h2:b<0<;>simp [h1,h2] at h ⊢ <;> omega
theorem Iq {a b:Int} (h : ¬ decide (a<0)=decide (b<0)) (hn:b.natAbs<=a.natAbs):iL (decide (a<0)) (a.natAbs-b.natAbs)=a+b:=by
 unfold iL
 by_cases h1:a<0<;>by_cases h2:b<0<;>simp [h1,h2] at h ⊢ <;> omega
theorem not_neg (n:Nat):decide ((n:Int)<0)=false:=ag (by omega)
theorem k6 (n:Nat):(n:Int).natAbs=n:=rfl
section
variable {P:Program} {G:Nat->Option (List AV)}
theorem UE {f ft fd fs:FuncId} (h:Has P f (kj ft fd fs)) (ht:gU P G ft) (hd:∀ m n,n≠0->ab m<=900000->ab n<=900000->VP P G fd [W m,W n] (.tup [W (m/n),W (m%n)]))
   (hs:iM P G fs) (a b:Int) (ha:ab a.natAbs<=900000) (hb:ab b.natAbs<=900000):VP P G f [IV a,IV b] (IV (Nat.gcd a.natAbs b.natAbs:Nat)):=by
 refine VP.has h ?_
 have lG:([0]:List Nat)≠[1]:=by decide
 have k02:([0]:List Nat)≠[2]:=by decide
 have k12:([1]:List Nat)≠[2]:=by decide
 simp only [kj,SS,DD,Nat.reduceAdd,y5,uF,ay lG,ay k02,ak,z7]
 refine dG (nD ht a.natAbs (by omega)) (by simp [bp]) ?_
 simp only [SS,DD,Nat.reduceAdd,ay k12,ak,z7]
 refine dG (nD ht b.natAbs (by omega)) (by simp [bp]) ?_
 simp only [SS,DD,Nat.reduceAdd]
 refine ⟨by simp [aJ,apart], ?_⟩
 simp only [az]
 refine VW.bG (α := Nat × Nat × Nat) (fun x=>⟨[IV a,IV b, .top, .top, .ref [2] 0 0,W x.1,W x.2.1]++List.replicate 21 .top,
   aa.put (fun _=>none) [2] (some ⟨[.agg [.bool false, .nils]],(AV.agg [.bool false, .nils]).size,false⟩),x.2.2⟩)
   (fun x=>Nat.gcd x.1 x.2.1=Nat.gcd a.natAbs b.natAbs/\ab x.1<=900000/\ab x.2.1<=900000) (fun x=>x.2.1) (a.natAbs,b.natAbs,1000) ?_ ?_ ?_
 . exact Wk.forget (by simp [Fg,List.replicate]) (fun j=>by simp only [aa.put];split<;>simp_all) (by simp only [];omega)
 . exact ⟨rfl,ha,hb⟩
 rintro ⟨x,y,nn⟩ ⟨hg,hx,hy⟩
 simp only [] at hg hx hy
 have w1:=xN x y
 by_cases c3:0<ab y
 . have Ut:y≠0:=fun e=>by have:=bC.2 e;omega
   have g5:decide ((0:Int)<(ab y:Int))=true:=ai (by omega)
   simp only [SS,Nat.reduceAdd,bc,g5]
   refine aj (hd x y Ut hx hy) (by simp [bp]) ?_
   simp only [SS,Nat.reduceAdd,wi,wj]
   exact ⟨(y,x%y,_),⟨tM hg,hy,by simp only [];omega⟩,Nat.mod_lt _ (Nat.pos_of_ne_zero Ut),Wk.slots (by simp [Fg]) (Nat.le_refl _)⟩
 . have g5:decide ((0:Int)<(ab y:Int))=false:=ag (by omega)
   have hyz:y=0:=bC.1 (by omega)
   rw [hyz,Nat.gcd_zero_right] at hg
   have dr:=hs false x (by omega)
   rw [mo] at dr
   simp only [SS,Nat.reduceAdd,bc,g5]
   refine aj dr (by simp [af.bool,bp]) ?_
   simp only [SS,Nat.reduceAdd,xM]
   rw [<- hg]
   refine ah▸ae (r:=IV (x:Int)) ?_ (kA _)
   simp only [RS,fY,iR,ak];rfl
theorem Rq {f fc:FuncId} (h:Has P f (jO fc)) (hc:∀ m n,ab m<=1000000->ab n<=1000000->VP P G fc [W m,W n] (.int .i64 (gr m n))) (a b:Int) (ha:ab a.natAbs<=1000000) (hb:ab b.natAbs<=1000000) :
   VP P G f [IV a,IV b] (.bool (decide (a=b))):=by
 refine VP.has h ?_
 have lG:([0]:List Nat)≠[1]:=by decide
 simp only [jO,SS,Nat.reduceAdd,y5,ay lG,ak,Ws]
 by_cases AU:decide (a<0)=decide (b<0)
 . have d0:(decide (a<0)==decide (b<0))=true:=by rw [AU];exact beq_self_eq_true _
   have d1:decide (gr a.natAbs b.natAbs=0)=decide (a=b):=by
     have aiT:(a<0)↔(b<0):=by simpa using AU
     by_cases e:a=b
     . rw [ai e,ai (by rw [e];exact FZ rfl)]
     . rw [ag e,ag (fun e2=>e (by
         simp only [gr,iy] at e2
         split at e2
         . omega
         . split at e2<;>omega))]
   simp only [SS,Nat.reduceAdd,d0,ay lG,ak,z7]
   refine aj (hc _ _ ha hb) (by simp [bp]) ?_
   simp only [SS,Nat.reduceAdd,d1]
   exact ah▸ae rfl (af.bool _)
 . have d0:(decide (a<0)==decide (b<0))=false:=by simpa using AU
   have d1:decide (a=b)=false:=ag (fun e=>AU (by rw [e]))
   rw [d1]
   simp only [SS,Nat.reduceAdd,d0]
   exact ah▸ae rfl (af.bool _)
end
theorem qK {ws:List Nat} (hw:Wd ws):ab (val ws)<=ws.length:=iK (kg hw)
theorem Ir (neg:Bool) {ws:List Nat} (hw:Wd ws):(decide (ab (val ws)=ws.length)&&(!neg||decide (0<ws.length)))=fj neg ws:=by
 unfold fj
 by_cases h0:ws=[]
 . subst h0;simp [ab,val,bh]
 . rw [if_neg h0]
   have mK:0<ws.length:=List.length_pos_iff.2 h0
   rw [ai mK,Bool.or_true,Bool.and_true]
   obtain ⟨k,hk⟩:∃ k,ws.length=k+1:=⟨ws.length-1,by omega⟩
   obtain ⟨b,x,rfl,hb⟩:=rL hk
   have e:(b++[x])[(b++[x]).length-1]?.getD 0=x:=by simp
   rw [e]
   by_cases hx:x=0
   . rw [ag (show ¬ x≠0 from fun h=>h hx),hx,jK]
     exact ag (by have:=qK (fun w hw'=>hw w (by simp [hw']):Wd b);simp;omega)
   . rw [ai hx]
     exact ai (by rw [ab,kh hw (.inr ⟨x,by simp,hx⟩)])
theorem F6 {m n k:Nat} (hm:ab m<=k) (hn:ab n<=k):ab (m+n)<=k+1:=by
 refine iK ?_
 have h1:=Nat.lt_of_lt_of_le (cG m) (Nat.pow_le_pow_right cP hm)
 have h2:=Nat.lt_of_lt_of_le (cG n) (Nat.pow_le_pow_right cP hn)
 rw [Nat.pow_succ]
 have:2<=au:=by decide
 have h3:au ^ k*2<=au ^ k*au:=Nat.mul_le_mul_left _ this
 omega
end Go.VL
