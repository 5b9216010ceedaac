/- For the claim of FeatureLimits: parts GP, GS, PHas, TUP, VL28, VL29, CLex, CB, WN, CI1, CI2. -/
import Derived.Test.YtchdghnpcekegaaGreatDoorC03
import Derived.Test.YtchdghnpcekegaaGreatDoorProg
import Derived.KernelRfl
import Derived.Test.YtchdghnpcekegaaGreatDoorC04
import Derived.RangeFuncBox
import Derived.RangeFuncLeaves
import Derived.Shelf.Abstract
import Derived.WalkKit
import Derived.OwnWalkIn
import Derived.TacticsInMore
import Derived.LoopNIn
import Derived.LoopIn
set_option linter.unusedSimpArgs false
set_option linter.unusedVariables false
section
set_option maxRecDepth 100000
namespace Go.VL
def ny (mU eM:Nat):aB:=⟨16,[(.cell 6 true 4)],(cS [oX 4 1,⟨some 6,.box (.c (.agg [.nils,.nils,.nils,.nils])),none⟩] (.seq (cS [oM 7 2,bp 8 .neq 7 0] (.cond (.t 8) (cS [oM 9 0,oM 10 2,bo 11 mU 9 10] (cS [⟨some 12,.call (.f eM) [(.c (.int .i64 1))],none⟩,⟨some 13,.call (.f eM) [(.c (.int .i64 0))],none⟩,⟨some 14,.build [.nils,.nils,.nils,.nils] [(0,(2,(.t 12))),(2,(2,(.t 13)))],none⟩,oS 4 6 14] .ret)) .skip)) (cS [aQ 15 4 4,oS 4 6 15] .ret)))⟩
def mq (Gi iw:Nat):aB:=⟨14,[(.cell 6 true 4)],(cS [oX 4 1,oX 5 2,⟨some 6,.box (.c (.agg [.nils,.nils,.nils,.nils])),none⟩] (cS [oM 7 0,aQ 8 4 4,aQ 9 2 5,bo 10 Gi 8 9,oE 11 10 0,oE 12 10 1,⟨some 13,.call (.f iw) [(.t 7),(.t 11),(.t 12)],none⟩,oS 4 6 13] .ret))⟩
def nz (JL iw:Nat):aB:=⟨14,[(.cell 6 true 4)],(cS [oX 4 1,oX 5 2,⟨some 6,.box (.c (.agg [.nils,.nils,.nils,.nils])),none⟩] (cS [oM 7 0,aQ 8 4 4,aQ 9 4 5,bo 10 JL 8 9,oE 11 10 0,oE 12 10 1,⟨some 13,.call (.f iw) [(.t 7),(.t 11),(.t 12)],none⟩,oS 4 6 13] .ret))⟩
def oD:aB:=⟨8,[(.tmp 3)],(cS [oX 2 0,oB 3 false] (cS [oF 4 0 2,oL 5 1 4,oL 6 1 1,⟨some 7,.bin .eql .str (.t 5) (.t 6),none⟩,oM 3 7] .ret))⟩
def dE:aB:=⟨19,[(.tmp 4)],(cS [oI 4 0] (.seq (cS [oM 6 0,oN 7 6,oI 8 0] (.block 0 (.loop (cS [oT 9 .lss 8 7] (.seq (.cond (.t 9) .skip (.exit 0)) (.seq (.block 1 (cS [oM 10 8,oM 5 10] (cS [oM 11 1,oM 12 0,oM 13 5,oA 14 15 12 13,aQ 15 15 14,⟨some 16,.call (.t 11) [.t 15],none⟩] (.cond (.t 16) (cS [oM 17 5,oM 4 17] .ret) .skip)))) (cR [bp 18 .add 8 1,oM 8 18]))))))) (cS [oI 4 (-1-0)] .ret)))⟩
def qm (BS dF:Nat):aB:=⟨8,[(.tmp 4)],(cS [oX 3 1,oI 4 0] (cS [oM 5 0,⟨some 6,.mkfn (.func BS) [] [.t 3],none⟩,bo 7 dF 5 6,oM 4 7] .ret))⟩
def mr (iK:Nat):aB:=⟨18,[(.cell 4 true 14),(.tmp 5)],(cS [⟨some 4,.box (.c (.agg [(.bool false),.nils,.nils,.nils,.nils,.nils,.nils,.nils,.nils,.nils,.nils,.nils,.nils,(.bool false)])),none⟩,oB 5 false] (cS [oM 7 0,oM 8 1,bo 9 iK 7 8,oM 6 9] (.seq (cS [oM 10 6,bp 11 .lss 10 0] (.cond (.t 11) (cS [⟨some 12,.build [(.bool false),.nils,.nils,.nils,.nils,.nils,.nils,.nils,.nils,.nils,.nils,.nils,.nils,(.bool false)] [],none⟩,oS 14 4 12,oB 5 false] .ret) .skip)) (cS [oM 13 0,oM 14 6,oA 15 15 13 14,oF 16 1 15,aQ 17 14 16,oS 14 4 17,oB 5 true] .ret))))⟩
def gi:aB:=⟨19,[(.tmp 4)],(cS [oI 4 0] (.seq (cS [oM 6 0,oN 7 6,oI 8 0] (.block 0 (.loop (cS [oT 9 .lss 8 7] (.seq (.cond (.t 9) .skip (.exit 0)) (.seq (.block 1 (cS [oM 10 8,oM 5 10] (cS [oM 11 1,oM 12 0,oM 13 5,oA 14 1 12 13,oL 15 1 14,⟨some 16,.bin .eql .str (.t 11) (.t 15),none⟩] (.cond (.t 16) (cS [oM 17 5,oM 4 17] .ret) .skip)))) (cR [bp 18 .add 8 1,oM 8 18]))))))) (cS [oI 4 (-1-0)] .ret)))⟩
def e6 (pW:Nat):aB:=⟨9,[(.tmp 4)],(cS [oB 4 false] (cS [oM 5 0,oM 6 1,bo 7 pW 5 6,bp 8 .geq 7 0,oM 4 8] .ret))⟩
def nA (oG:Nat):aB:=⟨18,[(.tmp 2)],(cS [oB 2 false] (.seq (cS [oM 5 0,oN 6 5,oI 7 0] (.block 0 (.loop (cS [oT 8 .lss 7 6] (.seq (.cond (.t 8) .skip (.exit 0)) (.seq (.block 1 (cS [oM 9 7,oA 10 1 5 7,oL 11 1 10,oM 3 9,oM 4 11] (cS [oM 12 0,oM 13 3,⟨some 14,.slice 1 (.t 12) none (some (.t 13)) none,none⟩,oM 15 4,bo 16 oG 14 15] (.cond (.t 16) (cS [oB 2 true] .ret) .skip)))) (cR [bp 17 .add 7 1,oM 7 17]))))))) (cS [oB 2 false] .ret)))⟩
def pz (Gj AE Gk:Nat):aB:=⟨49,[(.tmp 6),(.tmp 7)],(cS [oZ 6,oI 7 0] (.seq (cS [oM 13 0,oC 14 Gj 13,uo 15 14,oM 16 15,gM 17 2 16 false,gN 18 17 16 false,⟨some 19,.bin .eql .int (.t 18) (.c (.int .i64 0)),some (16,false)⟩,xM 20 16 19,oM 21 20,gM 22 2 21 false,⟨some 23,.call (.f AE) [.t 22],some (21,false)⟩,xM 24 21 23] (.cond (.t 24) (cS [oZ 6,oI 7 1] .ret) .skip)) (cS [oM 25 2,oN 26 25,⟨some 27,.mksl 14 304 (.agg [(.bool false),.nils,.nils,.nils,.nils,.nils,.nils,.nils,.nils,.nils,.nils,.nils,.nils,(.bool false)]) (.t 26) (.t 26),none⟩,oM 8 27] (.seq (cS [oM 28 2,oN 29 28,oI 30 0] (.block 0 (.loop (cS [oT 31 .lss 30 29] (.seq (.cond (.t 31) .skip (.exit 0)) (.seq (.block 1 (cS [oM 32 30,oA 33 1 28 30,oL 34 1 33,oM 9 32,oM 10 34] (cS [oM 36 1,oM 37 10,bo 38 Gk 36 37,oM 35 38,oE 39 35 0,oE 40 35 1,⟨some 11,.box (.c (.agg [(.bool false),.nils,.nils,.nils,.nils,.nils,.nils,.nils,.nils,.nils,.nils,.nils,.nils,(.bool false)])),none⟩,oS 14 11 39,oM 12 40] (.seq (cS [oM 41 12,uo 42 41] (.cond (.t 42) (cS [oZ 6,oI 7 4] .ret) .skip)) (cR [oM 43 8,oM 44 9,aQ 45 14 11,oA 46 14 43 44,oS 14 46 45]))))) (cR [bp 47 .add 30 1,oM 30 47]))))))) (cS [oM 48 8,oM 6 48,oI 7 0] .ret)))))⟩
def dm (dF:Nat):aB:=⟨9,[(.tmp 4)],(cS [oB 4 false] (cS [oM 5 0,oM 6 1,bo 7 dF 5 6,bp 8 .geq 7 0,oM 4 8] .ret))⟩
def pA:aB:=⟨7,[(.tmp 2)],(cS [oX 1 0,oB 2 false] (cS [oF 3 0 1,oL 4 1 3,⟨some 5,.len true (.t 4),none⟩,bp 6 .gtr 5 200,oM 2 6] .ret))⟩
def pB (iK:Nat):aB:=⟨9,[(.tmp 3)],(cS [oX 2 0,oB 3 false] (cS [oL 4 1 1,oF 5 0 2,oL 6 1 5,bo 7 iK 4 6,bp 8 .geq 7 0,oM 3 8] .ret))⟩
def rp (Dm Dn e7:Nat):aB:=⟨24,[(.tmp 4)],(cS [oX 2 0,oI 4 0] (cS [⟨some 5,.mv (.f Dm),none⟩] (cS [⟨some 7,.mkfn (.func Dn) [] [.t 2],none⟩,oM 6 7] (.seq (.block 0 (cS [oL 9 1 2,oN 10 9,oM 11 1,oN 12 11,oT 13 .add 10 12,bp 14 .gtr 13 200,oM 15 14,gM 16 1 15 false,gM 17 5 15 false,⟨some 18,.call (.f e7) [(.t 16),(.t 17)],some (15,false)⟩,xM 19 15 18,oM 8 19] (.cond (.t 8) (cS [oI 4 3] .ret) (cS [oM 21 1,oM 22 6,bo 23 e7 21 22,oM 20 23] (.cond (.t 20) (cS [oI 4 5] .ret) .skip))))) (cS [oI 4 0] .ret)))))⟩
def dp:aB:=⟨27,[(.tmp 4)],(cS [oZ 4] (.seq (cS [oM 5 1,bp 6 .lss 5 0] (.cond (.t 6) (cR [⟨(some 7),.bad,none⟩,⟨none,.bad,none⟩]) .skip)) (.seq (cS [oM 8 1,oM 9 0,⟨some 10,.cap (.t 9),none⟩,oM 11 0,oN 12 11,oT 13 .sub 10 12,oT 14 .sub 8 13,oM 1 14] (cS [oM 15 1,bp 16 .gtr 15 0] (.cond (.t 16) (cR [oM 17 0,oM 18 0,⟨some 19,.cap (.t 18),none⟩,⟨some 20,.slice 15 (.t 17) none (some (.t 19)) none,none⟩,oM 21 1,⟨some 22,.appz 15 320 (.agg [(.str []),(.bool false),.nils,.nils,.nils,.nils,.nils,.nils,.nils,.nils,.nils,.nils,.nils,.nils,(.bool false)]) (.t 20) (.t 21),none⟩,oM 23 0,oN 24 23,⟨some 25,.slice 15 (.t 22) none (some (.t 24)) none,none⟩,oM 0 25]) .skip))) (cS [oM 26 0,oM 4 26] .ret))))⟩
def dZ (nB:Nat):aB:=⟨36,[(.tmp 2)],(cS [oZ 2] (cS [oI 3 0] (.seq (cS [oM 9 0,oN 10 9,oI 11 0] (.block 0 (.loop (cS [oT 12 .lss 11 10] (.seq (.cond (.t 12) .skip (.exit 0)) (.seq (.block 1 (cS [oA 13 1 9 11,oL 14 1 13,oM 5 14] (cS [oM 15 3,oM 16 5,oN 17 16,oT 18 .add 15 17,oM 3 18] (cS [oM 19 3,bp 20 .lss 19 0] (.cond (.t 20) (cR [⟨(some 21),.bad,none⟩,⟨none,.bad,none⟩]) .skip))))) (cR [bp 22 .add 11 1,oM 11 22]))))))) (cS [oM 23 3,⟨some 24,.call (.f nB) [(.c .nils),(.t 23)],none⟩,oM 6 24] (.seq (cS [oM 25 0,oN 26 25,oI 27 0] (.block 2 (.loop (cS [oT 28 .lss 27 26] (.seq (.cond (.t 28) .skip (.exit 2)) (.seq (.block 3 (cS [oA 29 1 25 27,oL 30 1 29,oM 8 30] (cR [oM 31 6,oM 32 8,zF 33 15 320 31 32,oM 6 33]))) (cR [bp 34 .add 27 1,oM 27 34]))))))) (cS [oM 35 6,oM 2 35] .ret))))))⟩
def rq (Gl mV:Nat):aB:=⟨17,[(.tmp 4),(.tmp 5)],(cS [oZ 4,oI 5 0] (.seq (cS [oM 7 0,oM 8 1,bo 9 Gl 7 8,oM 6 9] (cS [oM 10 6,bp 11 .neq 10 0] (.cond (.t 11) (cS [oM 12 6,oZ 4,oM 5 12] .ret) .skip))) (cS [oM 13 0,oM 14 1,⟨some 15,.buildSl 1 2 .nils [(0,(.t 13)),(1,(.t 14))],none⟩,oC 16 mV 15,oM 4 16,oI 5 0] .ret)))⟩
def cZ:aB:=⟨8,[(.tmp 2)],(cS [oZ 2] (.seq (cS [oM 3 0,⟨some 4,.bin .eql .slice (.t 3) (.c .nils),none⟩] (.cond (.t 4) (cS [oZ 2] .ret) .skip)) (cS [⟨some 5,.buildSl 15 0 (.agg [(.str []),(.bool false),.nils,.nils,.nils,.nils,.nils,.nils,.nils,.nils,.nils,.nils,.nils,.nils,(.bool false)]) [],none⟩,oM 6 0,zF 7 15 320 5 6,oM 2 7] .ret)))⟩
def jh:aB:=⟨15,[(.tmp 2)],(cS [⟨some 2,.mv (.c (.str [])),none⟩] (.seq (cS [oM 3 0,bp 4 .lss 3 10] (.cond (.t 4) (cS [oM 5 0,oM 6 0,bp 7 .add 6 1,⟨some 8,.sliceS (.c (.str [48,49,50,51,52,53,54,55,56,57,97,98,99,100,101,102,103,104,105,106,107,108,109,110,111,112,113,114,115,116,117,118,119,120,121,122])) (some (.t 5)) (some (.t 7)),none⟩,oM 2 8] .ret) .skip)) (cS [oM 9 0,bp 10 .mul 9 2,oM 11 0,bp 12 .mul 11 2,bp 13 .add 12 2,⟨some 14,.sliceS (.c (.str [48,48,48,49,48,50,48,51,48,52,48,53,48,54,48,55,48,56,48,57,49,48,49,49,49,50,49,51,49,52,49,53,49,54,49,55,49,56,49,57,50,48,50,49,50,50,50,51,50,52,50,53,50,54,50,55,50,56,50,57,51,48,51,49,51,50,51,51,51,52,51,53,51,54,51,55,51,56,51,57,52,48,52,49,52,50,52,51,52,52,52,53,52,54,52,55,52,56,52,57,53,48,53,49,53,50,53,51,53,52,53,53,53,54,53,55,53,56,53,57,54,48,54,49,54,50,54,51,54,52,54,53,54,54,54,55,54,56,54,57,55,48,55,49,55,50,55,51,55,52,55,53,55,54,55,55,55,56,55,57,56,48,56,49,56,50,56,51,56,52,56,53,56,54,56,55,56,56,56,57,57,48,57,49,57,50,57,51,57,52,57,53,57,54,57,55,57,56,57,57])) (some (.t 10)) (some (.t 13)),none⟩,oM 2 14] .ret)))⟩
def gA (tC qn o0 pX:Nat):aB:=⟨54,[(.tmp 4)],(cS [⟨some 4,.mv (.c (.str [])),none⟩] (.seq (cS [oM 10 1,bp 11 .eql 10 10] (.cond (.t 11) (.seq (cS [oM 12 0,⟨some 13,.bin .leq .int (.c (.int .i64 0)) (.t 12),none⟩,oM 14 13,gM 15 0 14 true,⟨some 16,.bin .lss .int (.t 15) (.c (.int .i64 100)),some (14,true)⟩,n5 17 14 16] (.cond (.t 17) (cS [oM 18 0,oC 19 tC 18,oM 4 19] .ret) .skip)) (cS [⟨some 5,.box (.c (.agg [(.int .u8 0),(.int .u8 0),(.int .u8 0),(.int .u8 0),(.int .u8 0),(.int .u8 0),(.int .u8 0),(.int .u8 0),(.int .u8 0),(.int .u8 0),(.int .u8 0),(.int .u8 0),(.int .u8 0),(.int .u8 0),(.int .u8 0),(.int .u8 0),(.int .u8 0),(.int .u8 0),(.int .u8 0),(.int .u8 0),(.int .u8 0),(.int .u8 0),(.int .u8 0),(.int .u8 0)])),none⟩] (cS [oM 20 0,oK 21 .u64 20,oM 6 21] (.seq (cS [oM 22 0,bp 23 .lss 22 0] (.cond (.t 23) (cR [oM 24 6,⟨some 25,.un .neg (.t 24),none⟩,oM 6 25]) .skip)) (cS [oM 26 6,oC 27 qn 26,oM 7 27] (cS [oM 28 7,⟨some 29,.bin .add .int (.c (.int .i64 1)) (.t 28),none⟩,⟨(some 30),.bad,none⟩,oM 31 6,bo 32 o0 30 31] (.seq (cS [oM 33 0,bp 34 .lss 33 0] (.cond (.t 34) (cS [⟨some 35,.iaddrA 24 1 (.t 5) (.c (.int .i64 0)),none⟩,⟨none,.store 1 (.t 35) (.c (.int .u8 45)),none⟩] (cS [oM 36 7,⟨some 37,.bin .add .int (.c (.int .i64 1)) (.t 36),none⟩,⟨(some 38),.bad,none⟩,⟨some 39,.bytesStr (.t 38),none⟩,oM 4 39] .ret)) .skip)) (cS [oM 40 7,⟨some 41,.bin .add .int (.c (.int .i64 1)) (.t 40),none⟩,⟨(some 42),.bad,none⟩,⟨some 43,.bytesStr (.t 42),none⟩,oM 4 43] .ret)))))))) .skip)) (cS [oM 45 0,oK 46 .u64 45,oM 47 1,oM 48 0,bp 49 .lss 48 0,⟨some 50,.call (.f pX) [(.c .nils),(.t 46),(.t 47),(.t 49),(.c (.bool false))],none⟩,oM 44 50,oE 51 44 0,oE 52 44 1,oM 8 51,oM 9 52] (cS [oM 53 9,oM 4 53] .ret))))⟩
def jN (qo:Nat):aB:=⟨5,[(.tmp 2)],(cS [⟨some 2,.mv (.c (.str [])),none⟩] (cS [oM 3 0,⟨some 4,.call (.f qo) [(.t 3),(.c (.int .i64 10))],none⟩,oM 2 4] .ret))⟩
def rr (uB:Nat):aB:=⟨5,[(.tmp 2)],(cS [⟨some 2,.mv (.c (.str [])),none⟩] (cS [oM 3 0,oC 4 uB 3,oM 2 4] .ret))⟩
def fx (ck:Nat):aB:=⟨9,[(.cell 4 true 4)],(cS [oX 3 0,⟨some 4,.box (.c (.agg [.nils,.nils,.nils,.nils])),none⟩] (cS [oL 5 1 1,aQ 6 4 3,aQ 7 4 2,⟨some 8,.call (.f ck) [(.t 5),(.t 6),(.t 7)],none⟩,oS 4 4 8] .ret))⟩
def ij:aB:=⟨60,[(.tmp 10)],(cS [oZ 10] (cS [oM 14 1,oN 15 14,⟨some 16,.mksl 15 320 (.agg [(.str []),(.bool false),.nils,.nils,.nils,.nils,.nils,.nils,.nils,.nils,.nils,.nils,.nils,.nils,(.bool false)]) (.t 15) (.t 15),none⟩,oM 11 16] (.seq (cS [oM 17 2,oN 18 17,oI 19 0] (.block 0 (.loop (cS [oT 20 .lss 19 18] (.seq (.cond (.t 20) .skip (.exit 0)) (.seq (.block 1 (cS [oM 21 19,oA 22 14 17 19,aQ 23 14 22,⟨some 13,.box (.c (.agg [(.bool false),.nils,.nils,.nils,.nils,.nils,.nils,.nils,.nils,.nils,.nils,.nils,.nils,(.bool false)])),none⟩,oM 12 21,oS 14 13 23] (.seq (.reg (some [(3,6)]) [oM 24 3,oF 25 1 13,aQ 26 4 25,⟨some 27,.call (.t 24) [.t 26],none⟩,oM 28 3,oF 29 5 13,aQ 30 4 29,⟨some 31,.call (.t 28) [.t 30],none⟩,oF 32 1 13,oS 4 32 27,oF 33 5 13,oS 4 33 31]) (.seq (cS [oF 34 0 13,oL 35 1 34] (.cond (.t 35) (cS [oM 36 3,oF 37 9 13,aQ 38 4 37,⟨some 39,.call (.t 36) [.t 38],none⟩,oF 40 9 13,oS 4 40 39] (cR [oF 41 13 13,oL 42 1 41,oM 43 4,⟨some 44,.bin .neq .bool (.t 42) (.t 43),none⟩,oF 45 13 13,oS 1 45 44])) .skip)) (.reg (some []) [oM 46 11,oM 47 12,oM 48 0,⟨some 49,.bin .add .str (.t 48) (.c (.str [47])),none⟩,oM 50 1,oM 51 12,oA 52 1 50 51,oL 53 1 52,⟨some 54,.bin .add .str (.t 49) (.t 53),none⟩,aQ 55 14 13,⟨some 56,.build [(.str []),(.bool false),.nils,.nils,.nils,.nils,.nils,.nils,.nils,.nils,.nils,.nils,.nils,.nils,(.bool false)] [(0,(1,(.t 54))),(1,(14,(.t 55)))],none⟩,oA 57 15 46 47,oS 15 57 56]))))) (cR [bp 58 .add 19 1,oM 19 58]))))))) (cS [oM 59 11,oM 10 59] .ret))))⟩
def sI (jO dv tD eM bD ru mW pC mw:Nat):aB:=⟨83,[(.tmp 12),(.tmp 13)],(cS [oX 9 3,oX 10 4,oZ 12,oI 13 0] (.seq (cS [oM 20 5,bp 21 .lss 20 1,oM 22 21,gM 23 5 22 false,⟨some 24,.bin .gtr .int (.t 23) (.c (.int .i64 50)),some (22,false)⟩,xM 25 22 24] (.cond (.t 25) (cS [oZ 12,oI 13 1] .ret) .skip)) (cS [oM 27 0,oM 28 1,oM 29 2,⟨some 30,.call (.f jO) [(.t 27),(.t 28),(.t 29)],none⟩,oM 26 30,oE 31 26 0,oE 32 26 1,oM 14 31,oM 15 32] (.seq (cS [oM 33 15,bp 34 .neq 33 0] (.cond (.t 34) (cS [oM 35 15,oZ 12,oM 13 35] .ret) .skip)) (.seq (cS [aQ 36 4 9,oC 37 dv 36,bp 38 .eql 37 0,oM 39 38,vI 40 4 10 39 true,⟨some 41,.call (.f dv) [.t 40],some (39,true)⟩,⟨some 42,.bin .eql .int (.t 41) (.c (.int .i64 0)),some (39,true)⟩,n5 43 39 42] (.cond (.t 43) (cS [oZ 12,oI 13 6] .ret) .skip)) (cS [⟨some 44,.build [(.int .i64 0)] [],none⟩,oX 45 44,⟨some 16,.box (.c .nilp),none⟩,oS 1 16 45] (cS [oZ 17] (.seq (cS [oI 18 1] (.block 0 (.loop (.seq (cS [oM 46 18,oM 47 5,oT 48 .leq 46 47] (.cond (.t 48) .skip (.exit 0))) (.seq (.block 1 (.seq (.reg (some [(0,3),(0,5),(0,7),(1,7),(2,7),(3,7),(5,7),(6,7)]) [oL 51 1 16,aQ 52 4 9,aQ 53 4 10,bo 54 tD 52 53,oM 55 18,oC 56 eM 55,⟨some 57,.call (.f bD) [(.t 51),(.t 54),(.t 56)],none⟩,⟨some 19,.box (.c (.agg [.nils,.nils,.nils,.nils])),none⟩,oS 4 19 57]) (cR [oM 58 17,oM 59 0,⟨some 60,.bin .add .str (.t 59) (.c (.str [47])),none⟩,oM 61 18,oC 62 ru 61,⟨some 63,.bin .add .str (.t 60) (.t 62),none⟩,oM 64 2,oM 65 14,⟨some 66,.mkfn (.func mW) [] [(.t 16),(.t 19)],none⟩,⟨some 67,.call (.f pC) [(.t 63),(.t 64),(.t 65),(.t 66),(.c (.bool false))],none⟩,zF 68 15 320 58 67,oM 17 68]))) (cR [oM 49 18,bp 50 .add 49 1,oM 18 50])))))) (.seq (cS [oL 69 1 16,Dk 70 69,oF 71 0 70,oL 72 1 71,bp 73 .neq 72 0] (.cond (.t 73) (.seq (.reg (some []) [oL 74 1 16,Dk 75 74,oF 76 0 75,oL 77 1 76,oZ 12,oM 13 77]) .ret) .skip)) (cS [oM 78 1,oM 79 17,bo 80 mw 78 79,oE 81 80 0,oE 82 80 1,oM 12 81,oM 13 82] .ret))))))))))⟩
def kv (x5 iB:Nat):aB:=⟨21,[(.tmp 8)],(cS [oB 8 false] (cS [oM 9 1,oM 10 3,oT 11 .eql 9 10,oM 12 11,gM 13 0 12 true,⟨some 14,.call (.f x5) [.t 13],some (12,true)⟩,n5 15 12 14,oM 16 15,gM 17 0 16 true,gM 18 2 16 true,⟨some 19,.call (.f iB) [(.t 17),(.t 18)],some (16,true)⟩,n5 20 16 19,oM 8 20] .ret))⟩
def jP (wv x6 bY et aL BU tE wz:Nat):aB:=⟨109,[(.tmp 6)],(cS [oB 6 false] (.seq (cS [⟨some 15,.call (.f wv) [],none⟩,uo 16 15] (.cond (.t 16) (cS [oB 6 false] .ret) .skip)) (cS [oM 18 0,oC 19 x6 18,oM 17 19,oE 20 17 0,oE 21 17 1,oM 7 20,oM 8 21] (.seq (cS [oM 22 8,uo 23 22,oM 24 23,gM 25 7 24 false,gN 26 25 24 false,⟨some 27,.bin .eql .int (.t 26) (.c (.int .i64 0)),some (24,false)⟩,xM 28 24 27] (.cond (.t 28) (cS [oB 6 true] .ret) .skip)) (.seq (.block 0 (.loop (.seq (cS [oM 29 7,oN 30 29,bp 31 .lss 30 160] (.cond (.t 31) .skip (.exit 0))) (.block 1 (.reg (some [(3,8)]) [oM 32 7,oM 33 7,oN 34 33,oC 35 bY 34,⟨some 36,.bin .add .str (.c (.str [120,47])) (.t 35),none⟩,oM 37 7,⟨some 38,.iaddrS 15 (.t 37) (.c (.int .i64 0)),none⟩,oF 39 1 38,aQ 40 14 39,⟨some 41,.build [(.str []),(.bool false),.nils,.nils,.nils,.nils,.nils,.nils,.nils,.nils,.nils,.nils,.nils,.nils,(.bool false)] [(0,(1,(.t 36))),(1,(14,(.t 40)))],none⟩,⟨some 42,.buildSl 15 1 (.agg [(.str []),(.bool false),.nils,.nils,.nils,.nils,.nils,.nils,.nils,.nils,.nils,.nils,.nils,.nils,(.bool false)]) [(0,(.t 41))],none⟩,zF 43 15 320 32 42,oM 7 43]))))) (cS [oM 44 1,oK 45 .i64 44,⟨some 46,.mksl 1 1 (.int .u8 0) (.t 45) (.t 45),none⟩,oM 9 46] (.seq (cS [oM 47 9,oN 48 47,oI 49 0] (.block 2 (.loop (cS [oT 50 .lss 49 48] (.seq (.cond (.t 50) .skip (.exit 2)) (.seq (.block 3 (cS [oM 51 49,oM 10 51] (cR [oM 52 9,oM 53 10,oA 54 1 52 53,⟨none,.store 1 (.t 54) (.c (.int .u8 121)),none⟩]))) (cR [bp 55 .add 49 1,oM 49 55]))))))) (cS [oM 56 7,oM 57 9,⟨some 58,.bytesStr (.t 57),none⟩,⟨some 59,.bin .add .str (.c (.str [107,47])) (.t 58),none⟩,⟨some 60,.iaddrS 15 (.t 56) (.c (.int .i64 0)),none⟩,oF 61 0 60,oS 1 61 59] (.seq (cS [oM 62 2,⟨some 63,.bin .rem .int (.t 62) (.c (.int .u8 4)),none⟩,⟨some 64,.bin .eql .int (.t 63) (.c (.int .u8 0)),none⟩] (.cond (.t 64) (cR [oM 65 7,oM 66 7,⟨some 67,.iaddrS 15 (.t 66) (.c (.int .i64 0)),none⟩,oF 68 0 67,oL 69 1 68,⟨some 70,.bin .add .str (.c (.str [112,47,49,47])) (.t 69),none⟩,⟨some 71,.iaddrS 15 (.t 65) (.c (.int .i64 1)),none⟩,oF 72 0 71,oS 1 72 70]) .skip)) (.seq (.reg (some [(1,5),(1,6),(5,7),(6,7),(5,8),(6,8)]) [oM 74 7,oC 75 et 74,oM 76 7,⟨some 77,.iaddrS 15 (.t 76) (.c (.int .i64 0)),none⟩,oF 78 0 77,oL 79 1 78,⟨some 80,.buildSl 1 1 (.str []) [(0,(.t 79))],none⟩,⟨some 81,.call (.f aL) [(.c (.int .i64 1))],none⟩,⟨some 82,.call (.f aL) [(.c (.int .i64 0))],none⟩,oM 83 2,⟨some 84,.bin .rem .int (.t 83) (.c (.int .u8 64)),none⟩,oK 85 .i64 84,⟨some 86,.call (.f BU) [(.c (.str [112])),(.t 75),(.t 80),(.t 81),(.t 82),(.t 85)],none⟩,oM 73 86,oE 87 73 0,oE 88 73 1,oM 11 87,oM 12 88]) (.seq (.reg (some [(4,6),(5,6),(4,7),(5,7)]) [oM 90 7,oM 91 7,⟨some 92,.iaddrS 15 (.t 91) (.c (.int .i64 0)),none⟩,oF 93 0 92,oL 94 1 93,⟨some 95,.buildSl 1 1 (.str []) [(0,(.t 94))],none⟩,⟨some 96,.call (.f aL) [(.c (.int .i64 1))],none⟩,⟨some 97,.call (.f aL) [(.c (.int .i64 0))],none⟩,oM 98 2,⟨some 99,.bin .rem .int (.t 98) (.c (.int .u8 64)),none⟩,oK 100 .i64 99,⟨some 101,.call (.f tE) [(.c (.str [112])),(.t 90),(.t 95),(.t 96),(.t 97),(.t 100)],none⟩,oM 89 101,oE 102 89 0,oE 103 89 1,oM 13 102,oM 14 103]) (cS [oM 104 11,oM 105 12,oM 106 13,oM 107 14,⟨some 108,.call (.f wz) [(.t 104),(.t 105),(.t 106),(.t 107)],none⟩,oM 6 108] .ret))))))))))))⟩
end Go.VL
end

section
set_option maxRecDepth 100000
namespace Go.VL
def wA (eu aL uC Dp bP iB:Nat):aB:=⟨73,[(.tmp 0)],(cS [oB 0 false] (cS [⟨some 10,.call (.f eu) [(.c (.int .i64 0)),(.c (.int .i64 0)),(.c (.int .i64 4)),(.c (.int .i64 0))],none⟩,⟨some 11,.build [(.str []),(.bool false),.nils,.nils,.nils,.nils,.nils,.nils,.nils,.nils,.nils,.nils,.nils,.nils,(.bool false)] [(0,(1,(.c (.str [97])))),(1,(14,(.t 10)))],none⟩,⟨some 12,.call (.f eu) [(.c (.int .i64 0)),(.c (.int .i64 0)),(.c (.int .i64 0)),(.c (.int .i64 4))],none⟩,⟨some 13,.build [(.str []),(.bool false),.nils,.nils,.nils,.nils,.nils,.nils,.nils,.nils,.nils,.nils,.nils,.nils,(.bool false)] [(0,(1,(.c (.str [98])))),(1,(14,(.t 12)))],none⟩,⟨some 14,.buildSl 15 2 (.agg [(.str []),(.bool false),.nils,.nils,.nils,.nils,.nils,.nils,.nils,.nils,.nils,.nils,.nils,.nils,(.bool false)]) [(0,(.t 11)),(1,(.t 13))],none⟩,oM 1 14] (cS [oM 16 1,⟨some 17,.call (.f aL) [(.c (.int .i64 1))],none⟩,⟨some 18,.call (.f uC) [(.c (.str [102])),(.t 16),(.c (.str [97])),(.c (.str [98])),(.t 17)],none⟩,oM 15 18,oE 19 15 0,oE 20 15 1,oM 2 19,oM 3 20] (cS [oM 22 1,⟨some 23,.call (.f aL) [(.c (.int .i64 4))],none⟩,⟨some 24,.call (.f uC) [(.c (.str [102])),(.t 22),(.c (.str [97])),(.c (.str [98])),(.t 23)],none⟩,oM 21 24,oE 25 21 0,oE 26 21 1,oM 4 25,oM 5 26] (cS [oM 28 1,⟨some 29,.buildSl 1 1 (.str []) [(0,(.c (.str [97])))],none⟩,⟨some 30,.call (.f aL) [(.c (.int .i64 2))],none⟩,⟨some 31,.call (.f Dp) [(.c (.str [103])),(.t 28),(.t 29),(.t 30)],none⟩,oM 27 31,oE 32 27 0,oE 33 27 1,oM 6 32,oM 7 33] (cS [⟨some 34,.call (.f bP) [(.c (.int .i64 1)),(.c (.int .i64 0))],none⟩,⟨some 35,.call (.f bP) [(.c (.int .i64 0)),(.c (.int .i64 1))],none⟩,⟨some 36,.call (.f bP) [(.c (.int .i64 1)),(.c (.int .i64 1))],none⟩,⟨some 37,.build [(.bool false),.nils,.nils,.nils,.nils,.nils,.nils,.nils,.nils,.nils,.nils,.nils,.nils,(.bool false)] [(0,(1,(.c (.bool true)))),(1,(4,(.t 34))),(5,(4,(.t 35))),(9,(4,(.t 36))),(13,(1,(.c (.bool true))))],none⟩,⟨some 8,.box (.c (.agg [(.bool false),.nils,.nils,.nils,.nils,.nils,.nils,.nils,.nils,.nils,.nils,.nils,.nils,(.bool false)])),none⟩,oS 14 8 37] (.seq (.reg (some [(0,4),(2,4)]) [⟨some 38,.call (.f eu) [(.c (.int .i64 1)),(.c (.int .i64 0)),(.c (.int .i64 4)),(.c (.int .i64 0))],none⟩,⟨some 39,.build [(.str []),(.bool false),.nils,.nils,.nils,.nils,.nils,.nils,.nils,.nils,.nils,.nils,.nils,.nils,(.bool false)] [(0,(1,(.c (.str [97])))),(1,(14,(.t 38)))],none⟩,⟨some 40,.call (.f eu) [(.c (.int .i64 0)),(.c (.int .i64 1)),(.c (.int .i64 0)),(.c (.int .i64 4))],none⟩,⟨some 41,.build [(.str []),(.bool false),.nils,.nils,.nils,.nils,.nils,.nils,.nils,.nils,.nils,.nils,.nils,.nils,(.bool false)] [(0,(1,(.c (.str [98])))),(1,(14,(.t 40)))],none⟩,aQ 42 14 8,⟨some 43,.build [(.str []),(.bool false),.nils,.nils,.nils,.nils,.nils,.nils,.nils,.nils,.nils,.nils,.nils,.nils,(.bool false)] [(0,(1,(.c (.str [102,47,48])))),(1,(14,(.t 42)))],none⟩,⟨some 44,.buildSl 15 3 (.agg [(.str []),(.bool false),.nils,.nils,.nils,.nils,.nils,.nils,.nils,.nils,.nils,.nils,.nils,.nils,(.bool false)]) [(0,(.t 39)),(1,(.t 41)),(2,(.t 43))],none⟩,oM 9 44]) (.seq (.reg (some [(22,23),(22,25)]) [oM 45 3,bp 46 .eql 45 0,oM 47 46,gM 48 5 47 true,⟨some 49,.bin .eql .int (.t 48) (.c (.int .i64 16)),some (47,true)⟩,n5 50 47 49,oM 51 50,gM 52 7 51 true,⟨some 53,.bin .eql .int (.t 52) (.c (.int .i64 0)),some (51,true)⟩,n5 54 51 53,oM 55 54,gM 56 2 55 true,gM 57 9 55 true,⟨some 58,.call (.f iB) [(.t 56),(.t 57)],some (55,true)⟩,n5 59 55 58,oM 60 59,gM 61 6 60 true,gN 62 61 60 true,⟨some 63,.bin .eql .int (.t 62) (.c (.int .i64 3)),some (60,true)⟩,n5 64 60 63,oM 65 64,gM 66 6 65 true,⟨some 67,.slice 15 (.t 66) (some (.c (.int .i64 2))) none none,some (65,true)⟩,⟨some 68,.call (.f eu) [(.c (.int .i64 0)),(.c (.int .i64 2)),(.c (.int .i64 4)),(.c (.int .i64 2))],some (65,true)⟩,⟨some 69,.build [(.str []),(.bool false),.nils,.nils,.nils,.nils,.nils,.nils,.nils,.nils,.nils,.nils,.nils,.nils,(.bool false)] [(0,(1,(.c (.str [103,47,97])))),(1,(14,(.t 68)))],some (65,true)⟩,⟨some 70,.buildSl 15 1 (.agg [(.str []),(.bool false),.nils,.nils,.nils,.nils,.nils,.nils,.nils,.nils,.nils,.nils,.nils,.nils,(.bool false)]) [(0,(.t 69))],some (65,true)⟩,⟨some 71,.call (.f iB) [(.t 67),(.t 70)],some (65,true)⟩,n5 72 65 71,oM 0 72]) .ret))))))))⟩
def tG (bP:Nat):aB:=⟨16,[(.cell 8 true 14)],(cS [⟨some 8,.box (.c (.agg [(.bool false),.nils,.nils,.nils,.nils,.nils,.nils,.nils,.nils,.nils,.nils,.nils,.nils,(.bool false)])),none⟩] (cS [oM 9 0,oM 10 1,bo 11 bP 9 10,oM 12 2,oM 13 3,bo 14 bP 12 13,⟨some 15,.build [(.bool false),.nils,.nils,.nils,.nils,.nils,.nils,.nils,.nils,.nils,.nils,.nils,.nils,(.bool false)] [(1,(4,(.t 11))),(5,(4,(.t 14)))],none⟩,oS 14 8 15] .ret))⟩
def Dq (jO Dr dv EJ et iK ry mw:Nat):aB:=⟨119,[(.tmp 10),(.tmp 11)],(cS [oX 9 4,oZ 10,oI 11 0] (cS [oM 21 0,oM 22 1,oM 23 2,oM 24 3,⟨some 25,.buildSl 1 2 (.str []) [(0,(.t 23)),(1,(.t 24))],none⟩,⟨some 26,.call (.f jO) [(.t 21),(.t 22),(.t 25)],none⟩,oM 20 26,oE 27 20 0,oE 28 20 1,oM 12 27,oM 13 28] (.seq (cS [oM 29 13,bp 30 .neq 29 0] (.cond (.t 30) (cS [oM 31 13,oZ 10,oM 11 31] .ret) .skip)) (.seq (.reg (some [(2,12),(5,12),(6,12),(2,13),(5,13),(6,13),(12,13),(2,14),(5,14),(6,14),(12,14),(13,14)]) [oM 33 12,⟨some 34,.iaddrS 14 (.t 33) (.c (.int .i64 0)),none⟩,aQ 35 14 34,oM 36 12,⟨some 37,.iaddrS 14 (.t 36) (.c (.int .i64 1)),none⟩,aQ 38 14 37,bo 39 Dr 35 38,oM 32 39,oE 40 32 0,oE 41 32 1,oE 42 32 2,oE 43 32 3,⟨some 14,.box (.c (.agg [.nils,.nils,.nils,.nils])),none⟩,⟨some 15,.box (.c (.agg [.nils,.nils,.nils,.nils])),none⟩,⟨some 16,.box (.c (.agg [.nils,.nils,.nils,.nils])),none⟩,oS 4 14 40,oS 4 15 41,oS 4 16 42,oM 17 43]) (.seq (.block 0 (cS [oM 45 12,⟨some 46,.iaddrS 14 (.t 45) (.c (.int .i64 0)),none⟩,oF 47 0 46,oL 48 1 47,oM 49 48,gM 50 12 49 false,⟨some 51,.iaddrS 14 (.t 50) (.c (.int .i64 1)),some (49,false)⟩,gF 52 0 51 49 false,gL 53 1 52 49 false,xM 54 49 53,oM 55 54,gM 56 17 55 false,⟨some 57,.un .not (.t 56),some (55,false)⟩,xM 58 55 57,oM 44 58] (.cond (.t 44) (cS [oZ 10,oI 11 1] .ret) (cS [aQ 60 4 9,oC 61 dv 60,bp 62 .leq 61 0,oM 59 62] (.cond (.t 59) (cS [oZ 10,oI 11 6] .ret) .skip))))) (cS [aQ 64 4 14,aQ 65 4 15,aQ 66 4 16,aQ 67 4 9,⟨some 68,.call (.f EJ) [(.t 64),(.t 65),(.t 66),(.t 67)],none⟩,oM 63 68,oE 69 63 0,oE 70 63 1,⟨some 18,.box (.c (.agg [.nils,.nils,.nils,.nils,.nils,.nils,.nils,.nils,.nils,.nils,.nils,.nils,(.bool false)])),none⟩,oS 13 18 69,oM 13 70] (.seq (cS [oM 71 13,bp 72 .neq 71 0] (.cond (.t 72) (cS [oM 73 13,oZ 10,oM 11 73] .ret) .skip)) (cS [oM 74 1,oC 75 et 74,oM 19 75] (.seq (.reg (some [(3,6),(3,7),(3,9)]) [oM 76 19,oM 77 1,oM 78 2,bo 79 iK 77 78,oM 80 12,⟨some 81,.iaddrS 14 (.t 80) (.c (.int .i64 0)),none⟩,aQ 82 14 81,aQ 83 4 14,oF 84 0 18,aQ 85 4 84,⟨some 86,.call (.f ry) [(.t 82),(.t 83),(.t 85)],none⟩,oA 87 15 76 79,oF 88 1 87,oS 14 88 86]) (.seq (.reg (some [(3,6),(3,7),(3,9)]) [oM 89 19,oM 90 1,oM 91 3,bo 92 iK 90 91,oM 93 12,⟨some 94,.iaddrS 14 (.t 93) (.c (.int .i64 1)),none⟩,aQ 95 14 94,aQ 96 4 14,oF 97 4 18,aQ 98 4 97,⟨some 99,.call (.f ry) [(.t 95),(.t 96),(.t 98)],none⟩,oA 100 15 89 92,oF 101 1 100,oS 14 101 99]) (cS [oM 102 19,oM 103 0,⟨some 104,.bin .add .str (.t 103) (.c (.str [47,48])),none⟩,oF 105 0 18,aQ 106 4 105,oF 107 4 18,aQ 108 4 107,oF 109 8 18,aQ 110 4 109,oF 111 12 18,oL 112 1 111,⟨some 113,.build [(.bool false),.nils,.nils,.nils,.nils,.nils,.nils,.nils,.nils,.nils,.nils,.nils,.nils,(.bool false)] [(0,(1,(.c (.bool true)))),(1,(4,(.t 106))),(5,(4,(.t 108))),(9,(4,(.t 110))),(13,(1,(.t 112)))],none⟩,⟨some 114,.build [(.str []),(.bool false),.nils,.nils,.nils,.nils,.nils,.nils,.nils,.nils,.nils,.nils,.nils,.nils,(.bool false)] [(0,(1,(.t 104))),(1,(14,(.t 113)))],none⟩,⟨some 115,.buildSl 15 1 (.agg [(.str []),(.bool false),.nils,.nils,.nils,.nils,.nils,.nils,.nils,.nils,.nils,.nils,.nils,.nils,(.bool false)]) [(0,(.t 114))],none⟩,bo 116 mw 102 115,oE 117 116 0,oE 118 116 1,oM 10 117,oM 11 118] .ret)))))))))))⟩
def Ds (jO dv AG mw:Nat):aB:=⟨67,[(.tmp 8),(.tmp 9)],(cS [oX 7 3,oZ 8,oI 9 0] (cS [oM 18 0,oM 19 1,oM 20 2,⟨some 21,.call (.f jO) [(.t 18),(.t 19),(.t 20)],none⟩,oM 17 21,oE 22 17 0,oE 23 17 1,oM 10 22,oM 11 23] (.seq (cS [oM 24 11,bp 25 .neq 24 0] (.cond (.t 25) (cS [oM 26 11,oZ 8,oM 9 26] .ret) .skip)) (.seq (cS [aQ 27 4 7,oC 28 dv 27,bp 29 .eql 28 0] (.cond (.t 29) (cS [oZ 8,oI 9 6] .ret) .skip)) (cS [oM 30 2,oN 31 30,⟨some 32,.mksl 15 320 (.agg [(.str []),(.bool false),.nils,.nils,.nils,.nils,.nils,.nils,.nils,.nils,.nils,.nils,.nils,.nils,(.bool false)]) (.t 31) (.t 31),none⟩,oM 12 32] (.seq (cS [oM 33 10,oN 34 33,oI 35 0] (.block 0 (.loop (cS [oT 36 .lss 35 34] (.seq (.cond (.t 36) .skip (.exit 0)) (.seq (.block 1 (cS [oM 37 35,oA 38 14 33 35,aQ 39 14 38,⟨some 14,.box (.c (.agg [(.bool false),.nils,.nils,.nils,.nils,.nils,.nils,.nils,.nils,.nils,.nils,.nils,.nils,(.bool false)])),none⟩,oM 13 37,oS 14 14 39] (cS [aQ 41 14 14,aQ 42 4 7,bo 43 AG 41 42,oM 40 43,oE 44 40 0,oE 45 40 1,⟨some 15,.box (.c (.agg [(.bool false),.nils,.nils,.nils,.nils,.nils,.nils,.nils,.nils,.nils,.nils,.nils,.nils,(.bool false)])),none⟩,oS 14 15 44,oM 16 45] (.seq (cS [oM 46 16,bp 47 .neq 46 0] (.cond (.t 47) (cS [oM 48 16,oZ 8,oM 9 48] .ret) .skip)) (.reg (some []) [oM 49 12,oM 50 13,oM 51 0,⟨some 52,.bin .add .str (.t 51) (.c (.str [47])),none⟩,oM 53 2,oM 54 13,oA 55 1 53 54,oL 56 1 55,⟨some 57,.bin .add .str (.t 52) (.t 56),none⟩,aQ 58 14 15,⟨some 59,.build [(.str []),(.bool false),.nils,.nils,.nils,.nils,.nils,.nils,.nils,.nils,.nils,.nils,.nils,.nils,(.bool false)] [(0,(1,(.t 57))),(1,(14,(.t 58)))],none⟩,oA 60 15 49 50,oS 15 60 59]))))) (cR [bp 61 .add 35 1,oM 35 61]))))))) (cS [oM 62 1,oM 63 12,bo 64 mw 62 63,oE 65 64 0,oE 66 64 1,oM 8 65,oM 9 66] .ret)))))))⟩
def Dt (rz:Nat):aB:=⟨60,[(.cell 4 true 4),(.cell 5 true 4),(.cell 6 true 4),(.tmp 7)],(cS [oX 2 0,oX 3 1,⟨some 4,.box (.c (.agg [.nils,.nils,.nils,.nils])),none⟩,⟨some 5,.box (.c (.agg [.nils,.nils,.nils,.nils])),none⟩,⟨some 6,.box (.c (.agg [.nils,.nils,.nils,.nils])),none⟩,oB 7 false] (.seq (cS [oF 12 1 2,aQ 13 4 12,oF 14 5 2,aQ 15 4 14,⟨some 16,.build [.nils,.nils,.nils,.nils,.nils,.nils,.nils,.nils] [(0,(4,(.t 13))),(4,(4,(.t 15)))],none⟩,oF 17 5 2,aQ 18 4 17,oF 19 1 2,aQ 20 4 19,⟨some 21,.build [.nils,.nils,.nils,.nils,.nils,.nils,.nils,.nils] [(0,(4,(.t 18))),(4,(4,(.t 20)))],none⟩,⟨some 22,.buildSl 8 2 (.agg [.nils,.nils,.nils,.nils,.nils,.nils,.nils,.nils]) [(0,(.t 16)),(1,(.t 21))],none⟩,oN 23 22,oI 24 0] (.block 0 (.loop (cS [oT 25 .lss 24 23] (.seq (.cond (.t 25) .skip (.exit 0)) (.seq (.block 1 (cS [oA 26 8 22 24,aQ 27 8 26,⟨some 9,.box (.c (.agg [.nils,.nils,.nils,.nils,.nils,.nils,.nils,.nils])),none⟩,oS 8 9 27] (cS [oF 28 1 3,aQ 29 4 28,oF 30 5 3,aQ 31 4 30,⟨some 32,.build [.nils,.nils,.nils,.nils,.nils,.nils,.nils,.nils] [(0,(4,(.t 29))),(4,(4,(.t 31)))],none⟩,oF 33 5 3,aQ 34 4 33,oF 35 1 3,aQ 36 4 35,⟨some 37,.build [.nils,.nils,.nils,.nils,.nils,.nils,.nils,.nils] [(0,(4,(.t 34))),(4,(4,(.t 36)))],none⟩,⟨some 38,.buildSl 8 2 (.agg [.nils,.nils,.nils,.nils,.nils,.nils,.nils,.nils]) [(0,(.t 32)),(1,(.t 37))],none⟩,oN 39 38,oI 40 0] (.block 2 (.loop (cS [oT 41 .lss 40 39] (.seq (.cond (.t 41) .skip (.exit 2)) (.seq (.block 3 (cS [oA 42 8 38 40,aQ 43 8 42,⟨some 11,.box (.c (.agg [.nils,.nils,.nils,.nils,.nils,.nils,.nils,.nils])),none⟩,oS 8 11 43] (cS [⟨some 44,.iaddrA 2 4 (.t 9) (.c (.int .i64 0)),none⟩,aQ 45 4 44,⟨some 46,.iaddrA 2 4 (.t 11) (.c (.int .i64 0)),none⟩,aQ 47 4 46,bo 48 rz 45 47] (.cond (.t 48) (.seq (.reg (some [(3,6),(5,6),(5,7)]) [⟨some 49,.iaddrA 2 4 (.t 9) (.c (.int .i64 0)),none⟩,aQ 50 4 49,⟨some 51,.iaddrA 2 4 (.t 9) (.c (.int .i64 1)),none⟩,aQ 52 4 51,⟨some 53,.iaddrA 2 4 (.t 11) (.c (.int .i64 1)),none⟩,aQ 54 4 53,oS 4 4 50,oS 4 5 52,oS 4 6 54,oB 7 true]) .ret) .skip)))) (cR [bp 55 .add 40 1,oM 40 55]))))))))) (cR [bp 56 .add 24 1,oM 24 56]))))))) (cS [⟨some 57,.build [.nils,.nils,.nils,.nils] [],none⟩,⟨some 58,.build [.nils,.nils,.nils,.nils] [],none⟩,⟨some 59,.build [.nils,.nils,.nils,.nils] [],none⟩,oS 4 4 57,oS 4 5 58,oS 4 6 59,oB 7 false] .ret)))⟩
def EK (fN Gm bA kL iS eJ kH rA oH j7 dr qH bD ck:Nat):aB:=⟨184,[(.cell 8 true 13),(.tmp 9)],(cS [oX 4 0,oX 5 1,oX 6 2,oX 7 3,⟨some 8,.box (.c (.agg [.nils,.nils,.nils,.nils,.nils,.nils,.nils,.nils,.nils,.nils,.nils,.nils,(.bool false)])),none⟩,oI 9 0] (cS [⟨some 23,.build [(.int .i64 0)] [],none⟩,oX 24 23,oM 10 24] (.seq (.reg (some [(3,5),(3,6),(1,8),(2,8),(3,8),(5,8),(6,8),(7,8),(1,9),(2,9),(3,9),(5,9),(6,9),(7,9),(8,9)]) [oM 25 10,aQ 26 4 5,aQ 27 4 4,⟨some 28,.call (.f fN) [(.t 25),(.t 26),(.t 27)],none⟩,oM 29 10,aQ 30 4 6,aQ 31 4 4,⟨some 32,.call (.f fN) [(.t 29),(.t 30),(.t 31)],none⟩,⟨some 11,.box (.c (.agg [.nils,.nils,.nils,.nils])),none⟩,⟨some 12,.box (.c (.agg [.nils,.nils,.nils,.nils])),none⟩,oS 4 11 28,oS 4 12 32]) (cS [oM 33 10,aQ 34 4 11,aQ 35 4 12,bo 36 Gm 34 35,oE 37 36 0,oE 38 36 1,⟨some 39,.call (.f bA) [(.t 33),(.t 37),(.t 38)],none⟩,⟨some 13,.box (.c (.agg [.nils,.nils])),none⟩,oS 2 13 39] (cS [aQ 40 2 13,oC 41 kL 40,bp 42 .gtr 41 0,⟨some 43,.build [.nils,.nils,.nils,.nils,.nils,.nils,.nils,.nils,.nils,.nils,.nils,.nils,(.bool false)] [(12,(1,(.t 42)))],none⟩,⟨some 14,.box (.c (.agg [.nils,.nils,.nils,.nils,.nils,.nils,.nils,.nils,.nils,.nils,.nils,.nils,(.bool false)])),none⟩,oS 13 14 43] (.seq (cS [aQ 44 2 13,oC 45 kL 44] (.block 0 (cS [bp 47 .eql 45 0,oM 46 47] (.cond (.t 46) (.seq (cS [oM 48 10,Dk 49 48,oF 50 0 49,oL 51 1 50,bp 52 .neq 51 0] (.cond (.t 52) (.seq (.reg (some [(4,5)]) [aQ 53 13 14,oM 54 10,Dk 55 54,oF 56 0 55,oL 57 1 56,oS 13 8 53,oM 9 57]) .ret) .skip)) (cS [aQ 58 13 14,oS 13 8 58,oI 9 10] .ret)) (cS [bp 60 .eql 45 (-1-0),oM 59 60] (.cond (.t 59) (cR [aQ 61 2 13,oC 62 iS 61,oS 2 13 62]) .skip)))))) (cS [aQ 63 4 7,oC 64 eJ 63,⟨some 15,.box (.c (.agg [.nils,.nils])),none⟩,oS 2 15 64] (.seq (.reg (some [(2,7),(5,7),(1,12),(2,12),(5,12),(7,12),(8,12),(11,12),(1,13),(2,13),(5,13),(7,13),(8,13),(11,13),(12,13)]) [oM 65 10,aQ 66 4 11,oC 67 kH 66,oE 68 67 0,oE 69 67 1,⟨some 70,.call (.f bA) [(.t 65),(.t 68),(.t 69)],none⟩,oM 71 10,aQ 72 4 12,oC 73 kH 72,oE 74 73 0,oE 75 73 1,⟨some 76,.call (.f bA) [(.t 71),(.t 74),(.t 75)],none⟩,⟨some 16,.box (.c (.agg [.nils,.nils])),none⟩,⟨some 17,.box (.c (.agg [.nils,.nils])),none⟩,oS 2 16 70,oS 2 17 76]) (cS [oM 77 10,aQ 78 2 16,aQ 79 2 17,⟨some 80,.call (.f rA) [(.t 77),(.t 78),(.t 79)],none⟩,⟨some 18,.box (.c (.agg [.nils,.nils])),none⟩,oS 2 18 80] (.seq (.reg (some [(2,8),(4,8),(2,11),(4,11),(2,12),(2,15),(8,17),(11,17),(12,17),(15,17),(16,17),(2,19),(4,19),(6,19),(7,19),(8,19),(11,19),(12,19),(15,19),(16,19),(17,19),(18,19)]) [oM 81 10,oM 82 10,aQ 83 2 15,oM 84 10,aQ 85 2 18,oM 86 10,aQ 87 4 11,aQ 88 4 12,bo 89 oH 87 88,oE 90 89 0,oE 91 89 1,⟨some 92,.call (.f bA) [(.t 86),(.t 90),(.t 91)],none⟩,bo 93 j7 85 92,oE 94 93 0,oE 95 93 1,⟨some 96,.call (.f bA) [(.t 84),(.t 94),(.t 95)],none⟩,⟨some 97,.call (.f rA) [(.t 82),(.t 83),(.t 96)],none⟩,aQ 98 2 13,⟨some 99,.call (.f dr) [(.t 81),(.t 97),(.t 98)],none⟩,⟨some 19,.box (.c (.agg [.nils,.nils])),none⟩,oS 2 19 99]) (.seq (.reg (some [(3,8),(6,8),(3,9),(6,9),(1,14),(2,14),(3,14),(6,14),(8,14),(9,14),(10,14),(13,14),(1,15),(2,15),(3,15),(6,15),(8,15),(9,15),(10,15),(13,15),(14,15)]) [oM 100 10,aQ 101 2 16,aQ 102 2 19,bo 103 qH 101 102,oE 104 103 0,oE 105 103 1,⟨some 106,.call (.f bA) [(.t 100),(.t 104),(.t 105)],none⟩,oM 107 10,aQ 108 2 17,aQ 109 2 19,bo 110 qH 108 109,oE 111 110 0,oE 112 110 1,⟨some 113,.call (.f bA) [(.t 107),(.t 111),(.t 112)],none⟩,⟨some 20,.box (.c (.agg [.nils,.nils])),none⟩,⟨some 21,.box (.c (.agg [.nils,.nils])),none⟩,oS 2 20 106,oS 2 21 113]) (.seq (cS [oM 114 10,Dk 115 114,oF 116 0 115,oL 117 1 116,bp 118 .eql 117 0,oM 119 118,vI 120 2 20 119 true,⟨some 121,.call (.f kL) [.t 120],some (119,true)⟩,⟨some 122,.bin .leq .int (.t 121) (.c (.int .i64 0)),some (119,true)⟩,gM 123 122 119 true,vI 124 2 21 123 false,⟨some 125,.call (.f kL) [.t 124],some (123,false)⟩,⟨some 126,.bin .leq .int (.t 125) (.c (.int .i64 0)),some (123,false)⟩,⟨some 127,.pick (.t 123) (.c (.bool true)) (.t 126),some (119,true)⟩,n5 128 119 127] (.cond (.t 128) (cS [aQ 129 13 14,oS 13 8 129,oI 9 16] .ret) .skip)) (.seq (.reg (some [(1,7),(3,7),(1,8),(7,11),(8,11),(9,11),(7,13),(8,13),(9,13),(7,15),(8,15),(9,15),(7,16),(8,16),(9,16),(11,17),(13,17),(11,18)]) [oM 130 10,aQ 131 4 4,oM 132 10,aQ 133 4 11,oM 134 10,aQ 135 2 19,aQ 136 2 16,⟨some 137,.call (.f dr) [(.t 134),(.t 135),(.t 136)],none⟩,⟨some 138,.call (.f bD) [(.t 132),(.t 133),(.t 137)],none⟩,⟨some 139,.call (.f ck) [(.t 130),(.t 131),(.t 138)],none⟩,oM 140 10,aQ 141 4 4,oM 142 10,aQ 143 4 12,oM 144 10,aQ 145 2 19,aQ 146 2 17,⟨some 147,.call (.f dr) [(.t 144),(.t 145),(.t 146)],none⟩,⟨some 148,.call (.f bD) [(.t 142),(.t 143),(.t 147)],none⟩,⟨some 149,.call (.f ck) [(.t 140),(.t 141),(.t 148)],none⟩,oF 150 0 14,oS 4 150 139,oF 151 4 14,oS 4 151 149]) (.seq (.reg (some [(2,6),(6,9),(7,9),(6,11),(7,11),(6,12),(7,12),(9,13),(2,16),(4,16),(5,16),(6,16),(7,16),(9,16),(11,16),(12,16),(13,16),(14,16),(15,16)]) [oM 152 10,oM 153 10,aQ 154 4 11,oM 155 10,aQ 156 2 15,aQ 157 2 16,⟨some 158,.call (.f dr) [(.t 155),(.t 156),(.t 157)],none⟩,⟨some 159,.call (.f bD) [(.t 153),(.t 154),(.t 158)],none⟩,oM 160 10,aQ 161 4 12,oM 162 10,aQ 163 2 15,aQ 164 2 17,⟨some 165,.call (.f dr) [(.t 162),(.t 163),(.t 164)],none⟩,⟨some 166,.call (.f bD) [(.t 160),(.t 161),(.t 165)],none⟩,⟨some 167,.call (.f ck) [(.t 152),(.t 159),(.t 166)],none⟩,⟨some 22,.box (.c (.agg [.nils,.nils,.nils,.nils])),none⟩,oS 4 22 167]) (.seq (.reg (some [(1,7),(3,7),(1,8)]) [oM 168 10,aQ 169 4 4,oM 170 10,aQ 171 4 22,oM 172 10,aQ 173 2 18,aQ 174 2 13,⟨some 175,.call (.f dr) [(.t 172),(.t 173),(.t 174)],none⟩,⟨some 176,.call (.f bD) [(.t 170),(.t 171),(.t 175)],none⟩,⟨some 177,.call (.f ck) [(.t 168),(.t 169),(.t 176)],none⟩,oF 178 8 14,oS 4 178 177]) (.seq (.reg (some [(4,5)]) [aQ 179 13 14,oM 180 10,Dk 181 180,oF 182 0 181,oL 183 1 182,oS 13 8 179,oM 9 183]) .ret))))))))))))))))⟩
def AH (rz:Nat):aB:=⟨16,[(.cell 6 true 14)],(cS [oX 3 0,oX 4 1,oX 5 2,⟨some 6,.box (.c (.agg [(.bool false),.nils,.nils,.nils,.nils,.nils,.nils,.nils,.nils,.nils,.nils,.nils,.nils,(.bool false)])),none⟩] (.seq (cS [oF 7 1 3,aQ 8 4 7,aQ 9 4 4,bo 10 rz 8 9] (.cond (.t 10) (cR [aQ 11 4 5,oF 12 1 3,oS 4 12 11]) (cR [aQ 13 4 5,oF 14 5 3,oS 4 14 13]))) (cS [aQ 15 14 3,oS 14 6 15] .ret)))⟩
def AJ (eJ fN tH kH bA dr bD ck iS j7 kL:Nat):aB:=⟨119,[(.cell 4 true 14),(.tmp 5)],(cS [oX 2 0,oX 3 1,⟨some 4,.box (.c (.agg [(.bool false),.nils,.nils,.nils,.nils,.nils,.nils,.nils,.nils,.nils,.nils,.nils,.nils,(.bool false)])),none⟩,oI 5 0] (cS [⟨some 15,.build [(.int .i64 0)] [],none⟩,oX 16 15,oM 6 16] (cS [aQ 17 4 3,oC 18 eJ 17,⟨some 7,.box (.c (.agg [.nils,.nils])),none⟩,oS 2 7 18] (.seq (cS [oF 19 0 2,oL 20 1 19,uo 21 20] (.cond (.t 21) (cS [oM 22 6,oF 23 5 2,aQ 24 4 23,oF 25 1 2,aQ 26 4 25,⟨some 27,.call (.f fN) [(.t 22),(.t 24),(.t 26)],none⟩,oC 28 tH 27,⟨some 8,.box (.c (.agg [.nils,.nils,.nils,.nils])),none⟩,oS 4 8 28] (.seq (.reg (some [(1,6),(3,6),(1,9),(3,9),(1,10),(1,12),(3,12),(5,12),(6,12),(9,12),(10,12),(11,12)]) [oM 29 6,aQ 30 4 8,oM 31 6,aQ 32 2 7,oM 33 6,aQ 34 4 8,oC 35 kH 34,oE 36 35 0,oE 37 35 1,⟨some 38,.call (.f bA) [(.t 33),(.t 36),(.t 37)],none⟩,⟨some 39,.call (.f dr) [(.t 31),(.t 32),(.t 38)],none⟩,⟨some 40,.call (.f bD) [(.t 29),(.t 30),(.t 39)],none⟩,⟨some 9,.box (.c (.agg [.nils,.nils,.nils,.nils])),none⟩,oS 4 9 40]) (.seq (.reg (some [(4,7),(4,8)]) [oM 41 6,oF 42 1 2,aQ 43 4 42,aQ 44 4 9,⟨some 45,.call (.f ck) [(.t 41),(.t 43),(.t 44)],none⟩,oM 46 6,oF 47 5 2,aQ 48 4 47,aQ 49 4 9,⟨some 50,.call (.f ck) [(.t 46),(.t 48),(.t 49)],none⟩,oF 51 1 2,oS 4 51 45,oF 52 5 2,oS 4 52 50]) (.seq (.reg (some [(4,5)]) [aQ 53 14 2,oM 54 6,Dk 55 54,oF 56 0 55,oL 57 1 56,oS 14 4 53,oM 5 57]) .ret)))) .skip)) (.seq (.reg (some [(5,8),(5,10),(2,12),(4,12),(5,12),(8,12),(10,12),(11,12),(2,13),(4,13),(5,13),(8,13),(10,13),(11,13),(12,13)]) [oM 58 6,oF 59 1 2,aQ 60 4 59,oF 61 9 2,aQ 62 4 61,⟨some 63,.call (.f fN) [(.t 58),(.t 60),(.t 62)],none⟩,oM 64 6,oF 65 5 2,aQ 66 4 65,oF 67 9 2,aQ 68 4 67,⟨some 69,.call (.f fN) [(.t 64),(.t 66),(.t 68)],none⟩,⟨some 10,.box (.c (.agg [.nils,.nils,.nils,.nils])),none⟩,⟨some 11,.box (.c (.agg [.nils,.nils,.nils,.nils])),none⟩,oS 4 10 63,oS 4 11 69]) (cS [oM 70 6,aQ 71 4 10,oC 72 kH 71,oE 73 72 0,oE 74 72 1,⟨some 75,.call (.f bA) [(.t 70),(.t 73),(.t 74)],none⟩,⟨some 12,.box (.c (.agg [.nils,.nils])),none⟩,oS 2 12 75] (.seq (cS [oF 76 13 2,oL 77 1 76,uo 78 77] (.cond (.t 78) (cR [aQ 79 2 7,oC 80 iS 79,oS 2 7 80]) .skip)) (cS [oM 81 6,aQ 82 2 12,aQ 83 2 7,bo 84 j7 82 83,oE 85 84 0,oE 86 84 1,⟨some 87,.call (.f bA) [(.t 81),(.t 85),(.t 86)],none⟩,⟨some 13,.box (.c (.agg [.nils,.nils])),none⟩,oS 2 13 87] (.seq (cS [aQ 88 2 13,oC 89 kL 88,bp 90 .leq 89 0] (.cond (.t 90) (cS [⟨some 91,.build [(.bool false),.nils,.nils,.nils,.nils,.nils,.nils,.nils,.nils,.nils,.nils,.nils,.nils,(.bool false)] [],none⟩,oS 14 4 91,oI 5 6] .ret) .skip)) (cS [oM 92 6,aQ 93 2 13,aQ 94 2 12,⟨some 95,.call (.f dr) [(.t 92),(.t 93),(.t 94)],none⟩,⟨some 14,.box (.c (.agg [.nils,.nils])),none⟩,oS 2 14 95] (.seq (.reg (some [(2,6),(6,10),(7,10),(6,12),(7,12),(6,13),(7,13),(10,14)]) [oM 96 6,oF 97 9 2,aQ 98 4 97,oM 99 6,aQ 100 4 10,aQ 101 2 14,⟨some 102,.call (.f bD) [(.t 99),(.t 100),(.t 101)],none⟩,⟨some 103,.call (.f ck) [(.t 96),(.t 98),(.t 102)],none⟩,oM 104 6,oF 105 9 2,aQ 106 4 105,oM 107 6,aQ 108 4 11,aQ 109 2 14,⟨some 110,.call (.f bD) [(.t 107),(.t 108),(.t 109)],none⟩,⟨some 111,.call (.f ck) [(.t 104),(.t 106),(.t 110)],none⟩,oF 112 1 2,oS 4 112 103,oF 113 5 2,oS 4 113 111]) (.seq (.reg (some [(4,5)]) [aQ 114 14 2,oM 115 6,Dk 116 115,oF 117 0 116,oL 118 1 117,oS 14 4 114,oM 5 118]) .ret))))))))))))⟩
def rB (JM iw:Nat):aB:=⟨14,[(.cell 6 true 4)],(cS [oX 4 1,oX 5 2,⟨some 6,.box (.c (.agg [.nils,.nils,.nils,.nils])),none⟩] (cS [oM 7 0,aQ 8 4 4,aQ 9 4 5,bo 10 JM 8 9,oE 11 10 0,oE 12 10 1,⟨some 13,.call (.f iw) [(.t 7),(.t 11),(.t 12)],none⟩,oS 4 6 13] .ret))⟩
def rC (mU eM:Nat):aB:=⟨14,[(.cell 6 true 2)],(cS [oX 4 1,⟨some 6,.box (.c (.agg [.nils,.nils])),none⟩] (.seq (cS [oM 7 2,bp 8 .neq 7 0] (.cond (.t 8) (cS [oM 9 0,oM 10 2,bo 11 mU 9 10] (cS [⟨some 12,.call (.f eM) [(.c (.int .i64 1))],none⟩,oS 2 6 12] .ret)) .skip)) (cS [aQ 13 2 4,oS 2 6 13] .ret)))⟩
def yS (tH oH:Nat):aB:=⟨12,[(.cell 4 true 2),(.tmp 5)],(cS [oX 2 0,oX 3 1,⟨some 4,.box (.c (.agg [.nils,.nils])),none⟩,oI 5 0] (.seq (.reg (some [(1,2)]) [aQ 6 4 2,oC 7 tH 6,aQ 8 4 3,bo 9 oH 7 8,oE 10 9 0,oE 11 9 1,oS 2 4 10,oM 5 11]) .ret))⟩
def xz (EL HG:Nat):aB:=⟨19,[(.cell 2 true 2),(.tmp 3)],(cS [oX 1 0,⟨some 2,.box (.c (.agg [.nils,.nils])),none⟩,oI 3 0] (cS [aQ 7 4 1,oC 8 EL 7,oM 6 8,oE 9 6 0,oE 10 6 1,⟨some 4,.box (.c (.agg [.nils,.nils])),none⟩,oS 2 4 9,oM 5 10] (.seq (cS [oM 11 5,bp 12 .neq 11 0] (.cond (.t 12) (cS [⟨some 13,.build [.nils,.nils] [],none⟩,oM 14 5,oS 2 2 13,oM 3 14] .ret) .skip)) (cS [aQ 15 2 4,oC 16 HG 15,oE 17 16 0,oE 18 16 1,oS 2 2 17,oM 3 18] .ret))))⟩
def rD (j5 bA:Nat):aB:=⟨14,[(.cell 6 true 2)],(cS [oX 4 1,oX 5 2,⟨some 6,.box (.c (.agg [.nils,.nils])),none⟩] (cS [oM 7 0,aQ 8 2 4,aQ 9 2 5,bo 10 j5 8 9,oE 11 10 0,oE 12 10 1,⟨some 13,.call (.f bA) [(.t 7),(.t 11),(.t 12)],none⟩,oS 2 6 13] .ret))⟩
def rE (JN bA:Nat):aB:=⟨14,[(.cell 6 true 2)],(cS [oX 4 1,oX 5 2,⟨some 6,.box (.c (.agg [.nils,.nils])),none⟩] (cS [oM 7 0,aQ 8 2 4,aQ 9 2 5,bo 10 JN 8 9,oE 11 10 0,oE 12 10 1,⟨some 13,.call (.f bA) [(.t 7),(.t 11),(.t 12)],none⟩,oS 2 6 13] .ret))⟩
def BV (jc j5 j7:Nat):aB:=⟨25,[(.cell 4 true 2),(.tmp 5)],(cS [oX 2 0,oX 3 1,⟨some 4,.box (.c (.agg [.nils,.nils])),none⟩,oI 5 0] (cS [aQ 9 4 2,aQ 10 4 3,⟨some 11,.call (.f jc) [(.t 9),(.t 10),(.f j5)],none⟩,oM 8 11,oE 12 8 0,oE 13 8 1,⟨some 6,.box (.c (.agg [.nils,.nils,.nils,.nils])),none⟩,oS 4 6 12,oM 7 13] (.seq (cS [oM 14 7,bp 15 .neq 14 0] (.cond (.t 15) (cS [⟨some 16,.build [.nils,.nils] [],none⟩,oM 17 7,oS 2 4 16,oM 5 17] .ret) .skip)) (cS [oF 18 0 6,aQ 19 2 18,oF 20 2 6,aQ 21 2 20,bo 22 j7 19 21,oE 23 22 0,oE 24 22 1,oS 2 4 23,oM 5 24] .ret))))⟩
def Am (iS EM:Nat):aB:=⟨10,[(.cell 2 true 4)],(cS [oX 1 0,⟨some 2,.box (.c (.agg [.nils,.nils,.nils,.nils])),none⟩] (.seq (.reg (some [(2,4)]) [oF 3 2 1,aQ 4 2 3,oC 5 iS 4,oF 6 0 1,aQ 7 2 6,oC 8 EM 7,⟨some 9,.build [.nils,.nils,.nils,.nils] [(0,(2,(.t 5))),(2,(2,(.t 8)))],none⟩,oS 4 2 9]) .ret))⟩
def xA (oH:Nat):aB:=⟨9,[(.cell 2 true 2),(.tmp 3)],(cS [oX 1 0,⟨some 2,.box (.c (.agg [.nils,.nils])),none⟩,oI 3 0] (cS [aQ 4 4 1,aQ 5 4 1,bo 6 oH 4 5,oE 7 6 0,oE 8 6 1,oS 2 2 7,oM 3 8] .ret))⟩
def Ao (HH kG:Nat):aB:=⟨24,[(.cell 2 true 2),(.tmp 3)],(cS [oX 1 0,⟨some 2,.box (.c (.agg [.nils,.nils])),none⟩,oI 3 0] (cS [oF 8 0 1,oL 9 1 8,oF 10 1 1,oL 11 1 10,bo 12 HH 9 11,oM 7 12,oE 13 7 0,oE 14 7 1,oE 15 7 2,oM 4 13,oM 5 14,oM 6 15] (.seq (cS [oM 16 6,bp 17 .neq 16 0] (.cond (.t 17) (cS [⟨some 18,.build [.nils,.nils] [],none⟩,oM 19 6,oS 2 2 18,oM 3 19] .ret) .skip)) (cS [oM 20 4,oM 21 5,⟨some 22,.build [.nils,.nils] [(0,(1,(.t 20))),(1,(1,(.t 21)))],none⟩,oC 23 kG 22,oS 2 2 23,oI 3 0] .ret))))⟩
def xB (iS:Nat):aB:=⟨6,[(.cell 2 true 2)],(cS [oX 1 0,⟨some 2,.box (.c (.agg [.nils,.nils])),none⟩] (cS [aQ 3 2 1,oC 4 iS 3,oC 5 iS 4,oS 2 2 5] .ret))⟩
def Ap (cW Gn lY EN BW cQ JO:Nat):aB:=⟨49,[(.tmp 4),(.tmp 5),(.tmp 6)],(cS [oZ 4,oZ 5,oI 6 0] (.seq (.block 0 (cS [oM 11 0,oM 12 1,bo 13 cW 11 12,uo 14 13,oM 15 14,gM 16 0 15 false,⟨some 17,.call (.f Gn) [.t 16],some (15,false)⟩,⟨some 18,.un .not (.t 17),some (15,false)⟩,xM 19 15 18,oM 10 19] (.cond (.t 10) (cS [oZ 4,oZ 5,oI 6 1] .ret) (cS [oM 21 0,oM 22 1,bo 23 lY 21 22,bp 24 .lss 23 0,oM 20 24] (.cond (.t 20) (cS [oZ 4,oZ 5,oI 6 7] .ret) .skip))))) (.seq (cS [oM 26 0,oM 27 1,bo 28 EN 26 27,oM 25 28,oE 29 25 0,oE 30 25 1,oM 7 29,oM 8 30] (cS [oM 31 8] (.cond (.t 31) (cS [oM 32 0,oC 33 BW 32,oM 34 7,oM 4 33,oM 5 34,oI 6 0] .ret) .skip))) (.seq (cS [oM 35 0,oN 36 35,bp 37 .geq 36 8] (.cond (.t 37) (cS [oZ 4,oZ 5,oI 6 3] .ret) .skip)) (cS [oM 38 0,oC 39 BW 38,oM 40 1,oC 41 cQ 40,⟨some 42,.buildSl 1 1 .nils [(0,(.t 41))],none⟩,zF 43 1 24 39 42,oM 9 43] (cS [oM 44 9,oM 45 9,oM 46 0,oN 47 46,bo 48 JO 45 47,oM 4 44,oM 5 48,oI 6 0] .ret))))))⟩
def yT (cW lY ic:Nat):aB:=⟨38,[(.tmp 2)],(cS [oB 2 false] (.seq (cS [oM 7 0,oN 8 7,oI 9 0] (.block 0 (.loop (cS [oT 10 .lss 9 8] (.seq (.cond (.t 10) .skip (.exit 0)) (.seq (.block 1 (cS [oM 11 9,oA 12 1 7 9,oL 13 1 12,oM 3 11,oM 4 13] (.seq (cS [oM 14 0,oM 15 3,⟨some 16,.slice 1 (.t 14) none (some (.t 15)) none,none⟩,oM 17 4,bo 18 cW 16 17,uo 19 18,oM 20 19,gM 21 0 20 false,gM 22 3 20 false,⟨some 23,.slice 1 (.t 21) none (some (.t 22)) none,some (20,false)⟩,gM 24 4 20 false,⟨some 25,.call (.f lY) [(.t 23),(.t 24)],some (20,false)⟩,⟨some 26,.bin .neq .int (.t 25) (.c (.int .i64 1)),some (20,false)⟩,xM 27 20 26] (.cond (.t 27) (cS [oB 2 false] .ret) .skip)) (cS [oM 29 0,oM 30 3,⟨some 31,.slice 1 (.t 29) none (some (.t 30)) none,none⟩,oM 32 4,bo 33 ic 31 32,oM 28 33,oE 34 28 0,oE 35 28 1,oM 5 34,oM 6 35] (cS [oM 36 6] (.cond (.t 36) (cS [oB 2 false] .ret) .skip)))))) (cR [bp 37 .add 9 1,oM 9 37]))))))) (cS [oB 2 true] .ret)))⟩
def xC (ic lY yD:Nat):aB:=⟨24,[(.tmp 4),(.tmp 5)],(cS [oZ 4,oB 5 false] (cS [oM 9 0,oM 10 1,bo 11 ic 9 10,oM 8 11,oE 12 8 0,oE 13 8 1,oM 6 12,oM 7 13] (.seq (cS [oM 14 7,uo 15 14] (.cond (.t 15) (cS [oZ 4,oB 5 false] .ret) .skip)) (.seq (cS [oM 16 0,oM 17 6,bo 18 lY 16 17,bp 19 .lss 18 0] (.cond (.t 19) (cR [oM 20 0,oM 21 6,bo 22 yD 20 21,oM 6 22]) .skip)) (cS [oM 23 6,oM 4 23,oB 5 true] .ret)))))⟩
def BX (cQ:Nat):aB:=⟨23,[(.tmp 2)],(cS [oZ 2] (cS [oM 6 0,oN 7 6,⟨some 8,.mksl 1 24 .nils (.t 7) (.t 7),none⟩,oM 3 8] (.seq (cS [oM 9 0,oN 10 9,oI 11 0] (.block 0 (.loop (cS [oT 12 .lss 11 10] (.seq (.cond (.t 12) .skip (.exit 0)) (.seq (.block 1 (cS [oM 13 11,oA 14 1 9 11,oL 15 1 14,oM 4 13,oM 5 15] (cR [oM 16 3,oM 17 4,oM 18 5,oC 19 cQ 18,oA 20 1 16 17,oS 1 20 19]))) (cR [bp 21 .add 11 1,oM 11 21]))))))) (cS [oM 22 3,oM 2 22] .ret))))⟩
def Aq (EO ow ic b7 nk e8 sH jV JP sG pV LH:Nat):aB:=⟨154,[(.tmp 4),(.tmp 5)],(cS [oZ 4,oB 5 false] (.seq (cS [oM 26 0,oN 27 26,bp 28 .eql 27 0] (.cond (.t 28) (cS [oM 30 1,⟨some 31,.iaddrS 4 (.t 30) (.c (.int .i64 0)),none⟩,aQ 32 4 31,oC 33 EO 32,oM 29 33,oE 34 29 0,oE 35 29 1,⟨some 6,.box (.c (.agg [(.bool false),.nils,(.bool false),.nils])),none⟩,oS 4 6 34,oM 7 35] (cS [aQ 36 4 6,⟨some 37,.buildSl 4 1 (.agg [(.bool false),.nils,(.bool false),.nils]) [(0,(.t 36))],none⟩,oM 38 7,oM 4 37,oM 5 38] .ret)) .skip)) (.seq (.reg (some []) [oM 39 0,oM 40 0,oN 41 40,bp 42 .sub 41 1,⟨some 43,.slice 1 (.t 39) none (some (.t 42)) none,none⟩,oM 44 0,oM 45 0,oN 46 45,bp 47 .sub 46 1,oA 48 1 44 47,oL 49 1 48,oM 8 43,oM 9 49]) (.seq (.reg (some []) [oM 50 1,oM 51 1,oN 52 51,bp 53 .quo 52 2,⟨some 54,.slice 4 (.t 50) none (some (.t 53)) none,none⟩,oM 55 1,oM 56 1,oN 57 56,bp 58 .quo 57 2,⟨some 59,.slice 4 (.t 55) (some (.t 58)) none none,none⟩,oM 10 54,oM 11 59]) (.seq (cS [oM 60 11,oC 61 ow 60] (.cond (.t 61) (.seq (cS [oM 63 8,oM 64 10,bo 65 ic 63 64,oM 62 65,oE 66 62 0,oE 67 62 1,oM 12 66,oM 13 67] (cS [oM 68 13] (.cond (.t 68) (cS [oM 69 12,oM 70 8,⟨some 71,.call (.f b7) [(.c (.int .i64 0))],none⟩,bo 72 nk 70 71,⟨some 73,.buildSl 1 2 .nils [(0,(.t 69)),(1,(.t 72))],none⟩,oC 74 e8 73,oM 4 74,oB 5 true] .ret) .skip))) (cS [oM 76 8,oM 77 9,bo 78 sH 76 77,oM 75 78,oE 79 75 0,oE 80 75 1,oM 14 79,oM 15 80] (.seq (cS [oM 81 15,bp 82 .neq 81 0] (.cond (.t 82) (cS [oZ 4,oB 5 false] .ret) .skip)) (cS [oM 84 8,oM 85 8,oM 86 10,oM 87 14,⟨some 88,.call (.f jV) [(.t 85),(.t 86),(.t 87)],none⟩,bo 89 ic 84 88,oM 83 89,oE 90 83 0,oE 91 83 1,oM 16 90,oM 17 91] (cS [oM 92 8,⟨some 93,.call (.f b7) [(.c (.int .i64 0))],none⟩,bo 94 nk 92 93,oM 95 16,⟨some 96,.buildSl 1 2 .nils [(0,(.t 94)),(1,(.t 95))],none⟩,oC 97 e8 96,oM 98 17,oM 4 97,oM 5 98] .ret))))) .skip)) (cS [oM 100 8,oM 101 0,oM 102 1,bo 103 JP 101 102,bo 104 ic 100 103,oM 99 104,oE 105 99 0,oE 106 99 1,oM 18 105,oM 19 106] (.seq (cS [oM 107 19,uo 108 107] (.cond (.t 108) (cS [oZ 4,oB 5 false] .ret) .skip)) (.seq (cS [oM 109 8,oM 110 10,oM 111 18,⟨some 112,.call (.f sG) [(.t 109),(.t 110),(.t 111)],none⟩,oM 113 8,oM 114 10,oM 115 18,⟨some 116,.call (.f pV) [(.t 113),(.t 114),(.t 115)],none⟩,⟨some 117,.buildSl 1 2 .nils [(0,(.t 112)),(1,(.t 116))],none⟩,oN 118 117,oI 119 0] (.block 0 (.loop (cS [oT 120 .lss 119 118] (.seq (.cond (.t 120) .skip (.exit 0)) (.seq (.block 1 (cS [oA 121 1 117 119,oL 122 1 121,oM 21 122] (cS [oM 124 8,oM 125 8,oM 126 21,bo 127 LH 125 126,bo 128 ic 124 127,oM 123 128,oE 129 123 0,oE 130 123 1,oM 22 129,oM 23 130] (.seq (cS [oM 131 23,uo 132 131,oM 133 132,gM 134 22 133 false,⟨some 135,.call (.f ow) [.t 134],some (133,false)⟩,xM 136 133 135] (.cond (.t 136) (.exit 1) .skip)) (cS [oM 138 8,oM 139 8,oM 140 22,oM 141 22,⟨some 142,.call (.f sG) [(.t 139),(.t 140),(.t 141)],none⟩,bo 143 sH 138 142,oM 137 143,oE 144 137 0,oE 145 137 1,oM 24 144,oM 25 145] (cS [oM 146 22,oM 147 8,oM 148 11,oM 149 24,⟨some 150,.call (.f jV) [(.t 147),(.t 148),(.t 149)],none⟩,⟨some 151,.buildSl 1 2 .nils [(0,(.t 146)),(1,(.t 150))],none⟩,oC 152 e8 151,oM 4 152,oB 5 true] .ret)))))) (cR [bp 153 .add 119 1,oM 119 153]))))))) (cS [oZ 4,oB 5 false] .ret)))))))))⟩
def xD (xE:Nat):aB:=⟨30,[(.cell 2 true 4),(.tmp 3)],(cS [oX 1 0,⟨some 2,.box (.c (.agg [(.bool false),.nils,(.bool false),.nils])),none⟩,oB 3 false] (cS [oF 9 0 1,aQ 10 2 9,oC 11 xE 10,oM 8 11,oE 12 8 0,oE 13 8 1,⟨some 4,.box (.c (.agg [(.bool false),.nils])),none⟩,oS 2 4 12,oM 5 13] (cS [oF 15 2 1,aQ 16 2 15,oC 17 xE 16,oM 14 17,oE 18 14 0,oE 19 14 1,⟨some 6,.box (.c (.agg [(.bool false),.nils])),none⟩,oS 2 6 18,oM 7 19] (.seq (cS [oM 20 5,uo 21 20,oM 22 21,gM 23 7 22 false,⟨some 24,.un .not (.t 23),some (22,false)⟩,xM 25 22 24] (.cond (.t 25) (cS [⟨some 26,.build [(.bool false),.nils,(.bool false),.nils] [],none⟩,oS 4 2 26,oB 3 false] .ret) .skip)) (cS [aQ 27 2 4,aQ 28 2 6,⟨some 29,.build [(.bool false),.nils,(.bool false),.nils] [(0,(2,(.t 27))),(2,(2,(.t 28)))],none⟩,oS 4 2 29,oB 3 true] .ret)))))⟩
def xF (Gp cI tg:Nat):aB:=⟨22,[(.cell 2 true 2),(.tmp 3)],(cS [oX 1 0,⟨some 2,.box (.c (.agg [(.bool false),.nils])),none⟩,oB 3 false] (cS [aQ 7 2 1,oC 8 Gp 7,oM 6 8,oE 9 6 0,oE 10 6 1,⟨some 4,.box (.c (.agg [(.bool false),.nils])),none⟩,oS 2 4 9,oM 5 10] (.seq (.reg (some [(0,6),(6,7),(0,8)]) [aQ 11 2 4,oM 12 5,bp 13 .eql 12 0,oM 14 13,vI 15 2 4 14 true,vI 16 2 4 14 true,⟨some 17,.call (.f cI) [(.t 15),(.t 16)],some (14,true)⟩,vI 18 2 1 14 true,⟨some 19,.call (.f tg) [(.t 17),(.t 18)],some (14,true)⟩,⟨some 20,.bin .eql .int (.t 19) (.c (.int .i64 0)),some (14,true)⟩,n5 21 14 20,oS 2 2 11,oM 3 21]) .ret)))⟩
def rF (ga Gq BZ aN jz lK Gr eX bC:Nat):aB:=⟨42,[(.cell 2 true 2),(.tmp 3)],(cS [oX 1 0,⟨some 2,.box (.c (.agg [(.bool false),.nils])),none⟩,oI 3 0] (.seq (cS [aQ 9 2 1,oC 10 ga 9] (.block 0 (cS [bp 12 .eql 10 (-1-0),oM 11 12] (.cond (.t 11) (cS [⟨some 13,.build [(.bool false),.nils] [],none⟩,oS 2 2 13,oI 3 7] .ret) (cS [bp 15 .eql 10 0,oM 14 15] (.cond (.t 14) (cS [⟨some 16,.build [(.bool false),.nils] [],none⟩,oS 2 2 16,oI 3 0] .ret) .skip)))))) (cS [aQ 17 2 1,oC 18 Gq 17,bp 19 .quo 18 2,bp 20 .add 19 1,oM 4 20] (cS [oM 21 4,oC 22 BZ 21,oM 5 22] (.block 1 (.loop (.block 2 (cS [oF 24 1 1,oL 25 1 24,oC 26 aN 25,oM 27 5,bo 28 jz 26 27,oM 23 28,oE 29 23 0,oE 30 23 1,oM 6 29,oM 7 30] (cS [oM 31 5,oM 32 6,bo 33 lK 31 32,oC 34 Gr 33,oM 8 34] (.seq (cS [oM 35 8,oM 36 5,bo 37 eX 35 36,bp 38 .geq 37 0] (.cond (.t 38) (cS [oM 39 5,⟨some 40,.call (.f bC) [(.c (.bool false)),(.t 39)],none⟩,oS 2 2 40,oI 3 0] .ret) .skip)) (cR [oM 41 8,oM 5 41])))))))))))⟩
def yU (aN oi:Nat):aB:=⟨22,[(.tmp 2)],(cS [oX 1 0,oI 2 0] (cS [oF 4 1 1,oL 5 1 4,oC 6 aN 5,oM 3 6] (.seq (cS [oM 7 3,oN 8 7,bp 9 .eql 8 0] (.cond (.t 9) (cS [oI 2 0] .ret) .skip)) (cS [oM 10 3,oN 11 10,bp 12 .sub 11 1,⟨some 13,.bin .mul .int (.c (.int .i64 32)) (.t 12),none⟩,oM 14 3,oM 15 3,oN 16 15,bp 17 .sub 16 1,oA 18 1 14 17,oL 19 1 18,oC 20 oi 19,oT 21 .add 13 20,oM 2 21] .ret))))⟩
def e9:aB:=⟨16,[(.tmp 2)],(cS [oZ 2] (cS [oM 4 0,bp 5 .quo 4 32,bp 6 .add 5 1,⟨some 7,.mksl 1 4 (.int .u32 0) (.t 6) (.t 6),none⟩,oM 3 7] (cS [oM 8 3,oM 9 0,bp 10 .quo 9 32,oM 11 0,bp 12 .rem 11 32,⟨some 13,.bin .shl .int (.c (.int .u32 1)) (.t 12),none⟩,oA 14 1 8 10,oS 1 14 13] (cS [oM 15 3,oM 2 15] .ret))))⟩
def yV (lJ aN:Nat):aB:=⟨6,[(.tmp 2)],(cS [oZ 2] (cS [oM 3 0,⟨some 4,.call (.f lJ) [(.t 3),(.c (.int .i64 1))],none⟩,oC 5 aN 4,oM 2 5] .ret))⟩
end Go.VL
end

section
set_option maxRecDepth 100000
namespace Go.Proofs.YtchdghnpcekegaaGreatDoor
open Go.VL Go.Proofs
theorem AK:Has Tryz.prog 100 (mF):=⟨_,Tryz.func100,by kernel_rfl⟩
theorem B0:Has Tryz.prog 151 (ng):=⟨_,Tryz.func151,by kernel_rfl⟩
theorem Du:Has Tryz.prog 102 (qW 100 151):=⟨_,Tryz.func102,by kernel_rfl⟩
theorem Gs:Has Tryz.prog 101 (vJ):=⟨_,Tryz.func101,by kernel_rfl⟩
theorem Dv:Has Tryz.prog 56 (lH 100 101 102):=⟨_,Tryz.func56,by kernel_rfl⟩
theorem rZ:Has Tryz.prog 68 (eI 116):=⟨_,Tryz.func68,by kernel_rfl⟩
theorem uD:Has Tryz.prog 116 (fH 161 162):=⟨_,Tryz.func116,by kernel_rfl⟩
theorem r6:Has Tryz.prog 161 (uq):=⟨_,Tryz.func161,by kernel_rfl⟩
theorem tI:Has Tryz.prog 162 (vL):=⟨_,Tryz.func162,by kernel_rfl⟩
theorem Dw:Has Tryz.prog 104 (fY):=⟨_,Tryz.func104,by kernel_rfl⟩
theorem AL:Has Tryz.prog 155 (mG 104):=⟨_,Tryz.func155,by kernel_rfl⟩
theorem yW:Has Tryz.prog 156 (jZ 104):=⟨_,Tryz.func156,by kernel_rfl⟩
theorem zV:Has Tryz.prog 270 (n7 269 287):=⟨_,Tryz.func270,by kernel_rfl⟩
theorem Dx:Has Tryz.prog 280 (qX):=⟨_,Tryz.func280,by kernel_rfl⟩
theorem B1:Has Tryz.prog 281 (qa 104):=⟨_,Tryz.func281,by kernel_rfl⟩
theorem B2:Has Tryz.prog 271 (qb 104):=⟨_,Tryz.func271,by kernel_rfl⟩
theorem x7:Has Tryz.prog 300 (jr):=⟨_,Tryz.func300,by kernel_rfl⟩
theorem kx:Has Tryz.prog 303 (fZ):=⟨_,Tryz.func303,by kernel_rfl⟩
theorem wB:Has Tryz.prog 298 (lI 104 156):=⟨_,Tryz.func298,by kernel_rfl⟩
theorem AM:Has Tryz.prog 288 (pe 270 154 289 156 298 299 300 104 301 302 303):=⟨_,Tryz.func288,by kernel_rfl⟩
theorem yX:Has Tryz.prog 301 (j0):=⟨_,Tryz.func301,by kernel_rfl⟩
theorem zW:Has Tryz.prog 302 (lz):=⟨_,Tryz.func302,by kernel_rfl⟩
theorem B3:Has Tryz.prog 273 (qc):=⟨_,Tryz.func273,by kernel_rfl⟩
theorem Dy:Has Tryz.prog 59 (qZ 104):=⟨_,Tryz.func59,by kernel_rfl⟩
theorem EP:Has Tryz.prog 249 (s7 59 269 104 270):=⟨_,Tryz.func249,by kernel_rfl⟩
theorem ER:Has Tryz.prog 255 (s9 104 154 155):=⟨_,Tryz.func255,by kernel_rfl⟩
theorem ES:Has Tryz.prog 250 (ta 104 271 155):=⟨_,Tryz.func250,by kernel_rfl⟩
theorem AO:Has Tryz.prog 293 (pg 104 288 280 281 155):=⟨_,Tryz.func293,by kernel_rfl⟩
theorem ET:Has Tryz.prog 274 (tc 104 288 154 155 289 156):=⟨_,Tryz.func274,by kernel_rfl⟩
theorem zX:Has Tryz.prog 109 (n9 156 155):=⟨_,Tryz.func109,by kernel_rfl⟩
theorem Dz:Has Tryz.prog 110 (q7 109):=⟨_,Tryz.func110,by kernel_rfl⟩
theorem AP:Has Tryz.prog 259 (pj):=⟨_,Tryz.func259,by kernel_rfl⟩
theorem DA:Has Tryz.prog 282 (q8 259 293):=⟨_,Tryz.func282,by kernel_rfl⟩
theorem zY:Has Tryz.prog 261 (oe 274 255 282):=⟨_,Tryz.func261,by kernel_rfl⟩
theorem AQ:Has Tryz.prog 254 (pk 273 59 274 259):=⟨_,Tryz.func254,by kernel_rfl⟩
theorem B4:Has Tryz.prog 24 (ni 59):=⟨_,Tryz.func24,by kernel_rfl⟩
theorem yY:Has Tryz.prog 63 (nw 109 110):=⟨_,Tryz.func63,by kernel_rfl⟩
theorem DB:Has Tryz.prog 229 (og 259 250 110 261):=⟨_,Tryz.func229,by kernel_rfl⟩
theorem mX:Has Tryz.prog 307 (oh):=⟨_,Tryz.func307,by kernel_rfl⟩
theorem qp:Has Tryz.prog 299 (iq 307):=⟨_,Tryz.func299,by kernel_rfl⟩
theorem B5:Has Tryz.prog 286 (qd):=⟨_,Tryz.func286,by kernel_rfl⟩
theorem yZ:Has Tryz.prog 297 (nx):=⟨_,Tryz.func297,by kernel_rfl⟩
theorem zZ:Has Tryz.prog 269 (om 286):=⟨_,Tryz.func269,by kernel_rfl⟩
theorem wC:Has Tryz.prog 287 (lM 297):=⟨_,Tryz.func287,by kernel_rfl⟩
theorem o6:Has Tryz.prog 154 (db):=⟨_,Tryz.func154,by kernel_rfl⟩
theorem uE:Has Tryz.prog 96 (xO):=⟨_,Tryz.func96,by kernel_rfl⟩
theorem r7:Has Tryz.prog 54 (jA 96):=⟨_,Tryz.func54,by kernel_rfl⟩
theorem uF:Has Tryz.prog 98 (kO 54):=⟨_,Tryz.func98,by kernel_rfl⟩
theorem tJ:Has Tryz.prog 265 (j1 96):=⟨_,Tryz.func265,by kernel_rfl⟩
theorem tK:Has Tryz.prog 55 (vM 96):=⟨_,Tryz.func55,by kernel_rfl⟩
theorem rG:Has Tryz.prog 22 (iZ 55 54):=⟨_,Tryz.func22,by kernel_rfl⟩
theorem tL:Has Tryz.prog 141 (j2):=⟨_,Tryz.func141,by kernel_rfl⟩
theorem rH:Has Tryz.prog 140 (ja):=⟨_,Tryz.func140,by kernel_rfl⟩
theorem uG:Has Tryz.prog 190 (kP 96):=⟨_,Tryz.func190,by kernel_rfl⟩
theorem m6:Has Tryz.prog 146 (dU 96):=⟨_,Tryz.func146,by kernel_rfl⟩
theorem m7:Has Tryz.prog 189 (gQ 96):=⟨_,Tryz.func189,by kernel_rfl⟩
theorem x8:Has Tryz.prog 142 (mR 96):=⟨_,Tryz.func142,by kernel_rfl⟩
theorem r8:Has Tryz.prog 143 (gp):=⟨_,Tryz.func143,by kernel_rfl⟩
theorem rI:Has Tryz.prog 144 (fW):=⟨_,Tryz.func144,by kernel_rfl⟩
theorem uH:Has Tryz.prog 147 (kQ 96):=⟨_,Tryz.func147,by kernel_rfl⟩
theorem tM:Has Tryz.prog 145 (gR 189 96 140 146):=⟨_,Tryz.func145,by kernel_rfl⟩
theorem r9:Has Tryz.prog 97 (jB 140 141 55 142 143 144 96 145 146 147):=⟨_,Tryz.func97,by kernel_rfl⟩
theorem uI:Has Tryz.prog 51 (kR 98):=⟨_,Tryz.func51,by kernel_rfl⟩
theorem wD:Has Tryz.prog 52 (lN 54):=⟨_,Tryz.func52,by kernel_rfl⟩
theorem wE:Has Tryz.prog 150 (lO 98 190 54 140 146):=⟨_,Tryz.func150,by kernel_rfl⟩
theorem wF:Has Tryz.prog 148 (lP 52 150):=⟨_,Tryz.func148,by kernel_rfl⟩
theorem wG:Has Tryz.prog 149 (lQ 98 189 54):=⟨_,Tryz.func149,by kernel_rfl⟩
theorem sc:Has Tryz.prog 99 (jC 98 97 54 149 148 51 22 150):=⟨_,Tryz.func99,by kernel_rfl⟩
theorem wH:Has Tryz.prog 50 (lR 96 97 54):=⟨_,Tryz.func50,by kernel_rfl⟩
theorem wI:Has Tryz.prog 53 (lS 99):=⟨_,Tryz.func53,by kernel_rfl⟩
theorem rJ:Has Tryz.prog 8 (jb 22):=⟨_,Tryz.func8,by kernel_rfl⟩
theorem wJ:Has Tryz.prog 240 (lT):=⟨_,Tryz.func240,by kernel_rfl⟩
theorem tN:Has Tryz.prog 241 (vP 265 51 50 240):=⟨_,Tryz.func241,by kernel_rfl⟩
theorem uJ:Has Tryz.prog 34 (xR 51):=⟨_,Tryz.func34,by kernel_rfl⟩
theorem wK:Has Tryz.prog 198 (lU 8 240 149 50 53):=⟨_,Tryz.func198,by kernel_rfl⟩
theorem EU:Has Tryz.prog 260 (m4 104 280 155 270 281):=⟨_,Tryz.func260,by kernel_rfl⟩
theorem z6:Has Tryz.prog 279 (ot):=⟨_,Tryz.func279,by kernel_rfl⟩
theorem DC:Has Tryz.prog 213 (rb 24 250 249):=⟨_,Tryz.func213,by kernel_rfl⟩
theorem DF:Has Tryz.prog 227 (re 259 260 110 250 261):=⟨_,Tryz.func227,by kernel_rfl⟩
theorem DG:Has Tryz.prog 221 (rf 255):=⟨_,Tryz.func221,by kernel_rfl⟩
theorem DI:Has Tryz.prog 257 (rh 279 250 261):=⟨_,Tryz.func257,by kernel_rfl⟩
theorem z7:Has Tryz.prog 253 (lA 254):=⟨_,Tryz.func253,by kernel_rfl⟩
theorem mH:Has Tryz.prog 272 (cY):=⟨_,Tryz.func272,by kernel_rfl⟩
theorem lx:Has Tryz.prog 252 (cE 272):=⟨_,Tryz.func252,by kernel_rfl⟩
theorem B6:Has Tryz.prog 220 (qe 252 253):=⟨_,Tryz.func220,by kernel_rfl⟩
theorem z8:Has Tryz.prog 219 (ou 220):=⟨_,Tryz.func219,by kernel_rfl⟩
theorem DJ:Has Tryz.prog 181 (ri 219 220):=⟨_,Tryz.func181,by kernel_rfl⟩
theorem DK:Has Tryz.prog 185 (rj 181 220):=⟨_,Tryz.func185,by kernel_rfl⟩
theorem Ar:Has Tryz.prog 186 (yv 227):=⟨_,Tryz.func186,by kernel_rfl⟩
theorem HI:Has Tryz.prog 182 (yw 221):=⟨_,Tryz.func182,by kernel_rfl⟩
theorem HJ:Has Tryz.prog 135 (yx 185 186):=⟨_,Tryz.func135,by kernel_rfl⟩
theorem HK:Has Tryz.prog 136 (yy 185 182 186):=⟨_,Tryz.func136,by kernel_rfl⟩
theorem HL:Has Tryz.prog 130 (yz 181 182):=⟨_,Tryz.func130,by kernel_rfl⟩
theorem HM:Has Tryz.prog 191 (yA 229 230 231 232 233 191 186):=⟨_,Tryz.func191,by kernel_rfl⟩
theorem HN:Has Tryz.prog 153 (yB 185 191):=⟨_,Tryz.func153,by kernel_rfl⟩
theorem EW:Has Tryz.prog 231 (pN 63):=⟨_,Tryz.func231,by kernel_rfl⟩
theorem B7:Has Tryz.prog 251 (qf 219 254 231):=⟨_,Tryz.func251,by kernel_rfl⟩
theorem B8:Has Tryz.prog 226 (qg 63 257 232 258 226 233 191 182):=⟨_,Tryz.func226,by kernel_rfl⟩
theorem HO:Has Tryz.prog 184 (yC 181 226):=⟨_,Tryz.func184,by kernel_rfl⟩
theorem AR:Has Tryz.prog 108 (po 154):=⟨_,Tryz.func108,by kernel_rfl⟩
theorem AU:Has Tryz.prog 62 (pt 108):=⟨_,Tryz.func62,by kernel_rfl⟩
theorem AW:Has Tryz.prog 27 (px 63 62):=⟨_,Tryz.func27,by kernel_rfl⟩
theorem qD:Has Tryz.prog 180 (oy 108):=⟨_,Tryz.func180,by kernel_rfl⟩
theorem sJ:Has Tryz.prog 129 (nj 180):=⟨_,Tryz.func129,by kernel_rfl⟩
theorem tO:Has Tryz.prog 212 (j4 213):=⟨_,Tryz.func212,by kernel_rfl⟩
theorem wL:Has Tryz.prog 172 (lX 211 212):=⟨_,Tryz.func172,by kernel_rfl⟩
theorem gB:Has Tryz.prog 211 (cd):=⟨_,Tryz.func211,by kernel_rfl⟩
theorem fO:Has Tryz.prog 210 (bV):=⟨_,Tryz.func210,by kernel_rfl⟩
theorem B9:Has Tryz.prog 171 (qi 210 172):=⟨_,Tryz.func171,by kernel_rfl⟩
theorem nW:Has Tryz.prog 217 (cP):=⟨_,Tryz.func217,by kernel_rfl⟩
theorem Gt:Has Tryz.prog 177 (vR 217 63):=⟨_,Tryz.func177,by kernel_rfl⟩
theorem Ca:Has Tryz.prog 214 (qj 171 215):=⟨_,Tryz.func214,by kernel_rfl⟩
theorem EX:Has Tryz.prog 173 (tj 214 171 177 215 216 129):=⟨_,Tryz.func173,by kernel_rfl⟩
theorem nC:Has Tryz.prog 134 (py 173):=⟨_,Tryz.func134,by kernel_rfl⟩
theorem Gu:Has Tryz.prog 85 (vU 134 135):=⟨_,Tryz.func85,by kernel_rfl⟩
theorem Gv:Has Tryz.prog 87 (vV 134 136):=⟨_,Tryz.func87,by kernel_rfl⟩
theorem Gw:Has Tryz.prog 107 (vW 134 153):=⟨_,Tryz.func107,by kernel_rfl⟩
theorem Gx:Has Tryz.prog 81 (vY 129 130):=⟨_,Tryz.func81,by kernel_rfl⟩
theorem Gy:Has Tryz.prog 133 (vZ 184 107):=⟨_,Tryz.func133,by kernel_rfl⟩
theorem EY:Has Tryz.prog 80 (tq 128):=⟨_,Tryz.func80,by kernel_rfl⟩
theorem DL:Has Tryz.prog 126 (rk 171 172 173 174 175 177 176):=⟨_,Tryz.func126,by kernel_rfl⟩
theorem HP:Has Tryz.prog 178 (yE 181 218):=⟨_,Tryz.func178,by kernel_rfl⟩
theorem HQ:Has Tryz.prog 218 (yF 63 251 181 179):=⟨_,Tryz.func218,by kernel_rfl⟩
theorem Gz:Has Tryz.prog 179 (wa 24 179 153 136):=⟨_,Tryz.func179,by kernel_rfl⟩
theorem HR:Has Tryz.prog 128 (yG 178 179):=⟨_,Tryz.func128,by kernel_rfl⟩
theorem EZ:Has Tryz.prog 26 (tu 62):=⟨_,Tryz.func26,by kernel_rfl⟩
theorem np:Has Tryz.prog 106 (tv):=⟨_,Tryz.func106,by kernel_rfl⟩
theorem GC:Has Tryz.prog 65 (wb 106 85):=⟨_,Tryz.func65,by kernel_rfl⟩
theorem GD:Has Tryz.prog 127 (we 106 87):=⟨_,Tryz.func127,by kernel_rfl⟩
theorem DM:Has Tryz.prog 61 (rn 106 107):=⟨_,Tryz.func61,by kernel_rfl⟩
theorem DN:Has Tryz.prog 76 (yH 126):=⟨_,Tryz.func76,by kernel_rfl⟩
theorem uK:Has Tryz.prog 21 (kS 50 51 52 53):=⟨_,Tryz.func21,by kernel_rfl⟩
theorem uL:Has Tryz.prog 7 (kT 8 22 21):=⟨_,Tryz.func7,by kernel_rfl⟩
theorem wM:Has Tryz.prog 201 (lZ 240 150 50 149 53):=⟨_,Tryz.func201,by kernel_rfl⟩
theorem wN:Has Tryz.prog 228 (l4 52):=⟨_,Tryz.func228,by kernel_rfl⟩
theorem tP:Has Tryz.prog 203 (j8 241):=⟨_,Tryz.func203,by kernel_rfl⟩
theorem tQ:Has Tryz.prog 202 (j9 203):=⟨_,Tryz.func202,by kernel_rfl⟩
theorem se:Has Tryz.prog 166 (jF 202 203):=⟨_,Tryz.func166,by kernel_rfl⟩
theorem wO:Has Tryz.prog 165 (l5 201):=⟨_,Tryz.func165,by kernel_rfl⟩
theorem wP:Has Tryz.prog 188 (l6 228):=⟨_,Tryz.func188,by kernel_rfl⟩
theorem wQ:Has Tryz.prog 164 (l7 198 199 164 8 200 165):=⟨_,Tryz.func164,by kernel_rfl⟩
theorem uM:Has Tryz.prog 208 (kU 34 208 248):=⟨_,Tryz.func208,by kernel_rfl⟩
theorem uN:Has Tryz.prog 169 (kV 208):=⟨_,Tryz.func169,by kernel_rfl⟩
theorem rK:Has Tryz.prog 167 (jd 166 204 205):=⟨_,Tryz.func167,by kernel_rfl⟩
theorem rL:Has Tryz.prog 69 (je):=⟨_,Tryz.func69,by kernel_rfl⟩
theorem rM:Has Tryz.prog 37 (jf 8 69):=⟨_,Tryz.func37,by kernel_rfl⟩
theorem sf:Has Tryz.prog 236 (jH 263):=⟨_,Tryz.func236,by kernel_rfl⟩
theorem nO:Has Tryz.prog 238 (kW 8):=⟨_,Tryz.func238,by kernel_rfl⟩
theorem uO:Has Tryz.prog 197 (kY 236 237 238 239):=⟨_,Tryz.func197,by kernel_rfl⟩
theorem wR:Has Tryz.prog 163 (l8 197):=⟨_,Tryz.func163,by kernel_rfl⟩
theorem wS:Has Tryz.prog 121 (l9 163 165):=⟨_,Tryz.func121,by kernel_rfl⟩
theorem wT:Has Tryz.prog 139 (mb 188):=⟨_,Tryz.func139,by kernel_rfl⟩
theorem wU:Has Tryz.prog 209 (mc 139 121):=⟨_,Tryz.func209,by kernel_rfl⟩
theorem wV:Has Tryz.prog 118 (me 163 164):=⟨_,Tryz.func118,by kernel_rfl⟩
theorem uP:Has Tryz.prog 124 (kZ 169):=⟨_,Tryz.func124,by kernel_rfl⟩
theorem wW:Has Tryz.prog 170 (mf 209 124):=⟨_,Tryz.func170,by kernel_rfl⟩
theorem tR:Has Tryz.prog 125 (ke 170):=⟨_,Tryz.func125,by kernel_rfl⟩
theorem tT:Has Tryz.prog 122 (kf 166 167):=⟨_,Tryz.func122,by kernel_rfl⟩
theorem uQ:Has Tryz.prog 35 (k9 69):=⟨_,Tryz.func35,by kernel_rfl⟩
theorem m8:Has Tryz.prog 18 (kg 8 35):=⟨_,Tryz.func18,by kernel_rfl⟩
theorem tU:Has Tryz.prog 120 (kh):=⟨_,Tryz.func120,by kernel_rfl⟩
theorem wX:Has Tryz.prog 119 (mg):=⟨_,Tryz.func119,by kernel_rfl⟩
theorem wY:Has Tryz.prog 72 (mh 121 120 119):=⟨_,Tryz.func72,by kernel_rfl⟩
theorem wZ:Has Tryz.prog 187 (mj 139):=⟨_,Tryz.func187,by kernel_rfl⟩
theorem w6:Has Tryz.prog 138 (ml 187 72):=⟨_,Tryz.func138,by kernel_rfl⟩
theorem tV:Has Tryz.prog 71 (ki 118 120 119):=⟨_,Tryz.func71,by kernel_rfl⟩
theorem uR:Has Tryz.prog 95 (lf 139):=⟨_,Tryz.func95,by kernel_rfl⟩
theorem w7:Has Tryz.prog 247 (mo 118 120 121):=⟨_,Tryz.func247,by kernel_rfl⟩
theorem si:Has Tryz.prog 207 (jJ 247):=⟨_,Tryz.func207,by kernel_rfl⟩
theorem tW:Has Tryz.prog 91 (kj 125):=⟨_,Tryz.func91,by kernel_rfl⟩
theorem tX:Has Tryz.prog 74 (ko 122):=⟨_,Tryz.func74,by kernel_rfl⟩
theorem qq:Has Tryz.prog 117 (ir):=⟨_,Tryz.func117,by kernel_rfl⟩
theorem qI:Has Tryz.prog 206 (iF 117 37):=⟨_,Tryz.func206,by kernel_rfl⟩
theorem qJ:Has Tryz.prog 70 (iG 117 18):=⟨_,Tryz.func70,by kernel_rfl⟩
theorem qu:Has Tryz.prog 39 (iv 72 70):=⟨_,Tryz.func39,by kernel_rfl⟩
theorem pY:Has Tryz.prog 93 (gV 138 70):=⟨_,Tryz.func93,by kernel_rfl⟩
theorem pZ:Has Tryz.prog 36 (gW 71 70):=⟨_,Tryz.func36,by kernel_rfl⟩
theorem pD:Has Tryz.prog 168 (gz 207 206):=⟨_,Tryz.func168,by kernel_rfl⟩
theorem qK:Has Tryz.prog 123 (iH 93 168):=⟨_,Tryz.func123,by kernel_rfl⟩
theorem sj:Has Tryz.prog 42 (jK):=⟨_,Tryz.func42,by kernel_rfl⟩
theorem tY:Has Tryz.prog 75 (kp 91 123 124 125):=⟨_,Tryz.func75,by kernel_rfl⟩
theorem uS:Has Tryz.prog 94 (lh 7 35):=⟨_,Tryz.func94,by kernel_rfl⟩
theorem x9:Has Tryz.prog 92 (mS 7 35):=⟨_,Tryz.func92,by kernel_rfl⟩
theorem tZ:Has Tryz.prog 49 (kq 92 18 93 94 36 95 39 75):=⟨_,Tryz.func49,by kernel_rfl⟩
theorem mN:Has Tryz.prog 20 (gq 49):=⟨_,Tryz.func20,by kernel_rfl⟩
theorem ji:Has Tryz.prog 48 (ks 91):=⟨_,Tryz.func48,by kernel_rfl⟩
theorem sk:Has Tryz.prog 14 (jL 42):=⟨_,Tryz.func14,by kernel_rfl⟩
theorem uT:Has Tryz.prog 38 (lj):=⟨_,Tryz.func38,by kernel_rfl⟩
theorem sn:Has Tryz.prog 33 (jM 68 38):=⟨_,Tryz.func33,by kernel_rfl⟩
theorem uU:Has Tryz.prog 73 (ln 38):=⟨_,Tryz.func73,by kernel_rfl⟩
theorem ua:Has Tryz.prog 40 (kt 73):=⟨_,Tryz.func40,by kernel_rfl⟩
theorem rN:Has Tryz.prog 12 (jg 33 34 35 37 36 38 39 14 40):=⟨_,Tryz.func12,by kernel_rfl⟩
theorem jQ:Has Tryz.prog 19 (lq 48):=⟨_,Tryz.func19,by kernel_rfl⟩
theorem uV:Has Tryz.prog 41 (lu 74 75):=⟨_,Tryz.func41,by kernel_rfl⟩
theorem nP:Has Tryz.prog 6 (iA 20 14):=⟨_,Tryz.func6,by kernel_rfl⟩
theorem my:Has Tryz.prog 60 (ny 105 27):=⟨_,Tryz.func60,by kernel_rfl⟩
theorem w9:Has Tryz.prog 25 (mq 61 60):=⟨_,Tryz.func25,by kernel_rfl⟩
theorem y0:Has Tryz.prog 31 (nz 65 60):=⟨_,Tryz.func31,by kernel_rfl⟩
theorem qE:Has Tryz.prog 89 (oD):=⟨_,Tryz.func89,by kernel_rfl⟩
theorem aS:Has Tryz.prog 88 (dE):=⟨_,Tryz.func88,by kernel_rfl⟩
theorem sK:Has Tryz.prog 46 (qm 89 88):=⟨_,Tryz.func46,by kernel_rfl⟩
theorem mI:Has Tryz.prog 58 (mr 46):=⟨_,Tryz.func58,by kernel_rfl⟩
theorem fB:Has Tryz.prog 152 (gi):=⟨_,Tryz.func152,by kernel_rfl⟩
theorem eF:Has Tryz.prog 103 (e6 152):=⟨_,Tryz.func103,by kernel_rfl⟩
theorem mz:Has Tryz.prog 57 (nA 103):=⟨_,Tryz.func57,by kernel_rfl⟩
theorem nD:Has Tryz.prog 23 (pz 56 57 58):=⟨_,Tryz.func23,by kernel_rfl⟩
theorem bh:Has Tryz.prog 114 (dm 88):=⟨_,Tryz.func114,by kernel_rfl⟩
theorem nE:Has Tryz.prog 112 (pA):=⟨_,Tryz.func112,by kernel_rfl⟩
theorem nF:Has Tryz.prog 113 (pB 46):=⟨_,Tryz.func113,by kernel_rfl⟩
theorem pE:Has Tryz.prog 66 (rp 112 113 114):=⟨_,Tryz.func66,by kernel_rfl⟩
theorem ee:Has Tryz.prog 115 (dp):=⟨_,Tryz.func115,by kernel_rfl⟩
theorem dN:Has Tryz.prog 67 (dZ 115):=⟨_,Tryz.func67,by kernel_rfl⟩
theorem pF:Has Tryz.prog 32 (rq 66 67):=⟨_,Tryz.func32,by kernel_rfl⟩
theorem gr:Has Tryz.prog 10 (cZ):=⟨_,Tryz.func10,by kernel_rfl⟩
theorem rO:Has Tryz.prog 157 (jh):=⟨_,Tryz.func157,by kernel_rfl⟩
theorem pG:Has Tryz.prog 111 (gA 157 158 159 160):=⟨_,Tryz.func111,by kernel_rfl⟩
theorem sq:Has Tryz.prog 64 (jN 111):=⟨_,Tryz.func64,by kernel_rfl⟩
theorem DO:Has Tryz.prog 29 (rr 64):=⟨_,Tryz.func29,by kernel_rfl⟩
theorem ya:Has Tryz.prog 30 (fx 31):=⟨_,Tryz.func30,by kernel_rfl⟩
theorem AX:Has Tryz.prog 28 (ij):=⟨_,Tryz.func28,by kernel_rfl⟩
theorem Aa:Has Tryz.prog 9 (sI 23 24 26 27 25 29 30 28 32):=⟨_,Tryz.func9,by kernel_rfl⟩
theorem m9:Has Tryz.prog 13 (kv 41 19):=⟨_,Tryz.func13,by kernel_rfl⟩
theorem fk:Has Tryz.prog 4 (jP 5 6 14 10 8 9 12 13):=⟨_,Tryz.func4,by kernel_rfl⟩
theorem ub:Has Tryz.prog 5 (wA 15 8 16 17 18 19):=⟨_,Tryz.func5,by kernel_rfl⟩
theorem rP:Has Tryz.prog 15 (tG 18):=⟨_,Tryz.func15,by kernel_rfl⟩
theorem rQ:Has Tryz.prog 16 (Dq 23 43 24 44 10 46 45 32):=⟨_,Tryz.func16,by kernel_rfl⟩
theorem AY:Has Tryz.prog 17 (Ds 23 24 47 32):=⟨_,Tryz.func17,by kernel_rfl⟩
theorem AZ:Has Tryz.prog 43 (Dt 76):=⟨_,Tryz.func43,by kernel_rfl⟩
theorem sL:Has Tryz.prog 44 (EK 77 79 78 80 81 62 82 83 86 85 84 87 25 31):=⟨_,Tryz.func44,by kernel_rfl⟩
theorem p4:Has Tryz.prog 45 (AH 76):=⟨_,Tryz.func45,by kernel_rfl⟩
theorem y5:Has Tryz.prog 47 (AJ 62 77 90 82 78 84 25 31 81 85 80):=⟨_,Tryz.func47,by kernel_rfl⟩
theorem y7:Has Tryz.prog 77 (rB 127 60):=⟨_,Tryz.func77,by kernel_rfl⟩
theorem y8:Has Tryz.prog 78 (rC 105 27):=⟨_,Tryz.func78,by kernel_rfl⟩
theorem DR:Has Tryz.prog 79 (yS 90 86):=⟨_,Tryz.func79,by kernel_rfl⟩
theorem Cb:Has Tryz.prog 82 (xz 131 132):=⟨_,Tryz.func82,by kernel_rfl⟩
theorem y9:Has Tryz.prog 83 (rD 107 78):=⟨_,Tryz.func83,by kernel_rfl⟩
theorem zd:Has Tryz.prog 84 (rE 133 78):=⟨_,Tryz.func84,by kernel_rfl⟩
theorem GF:Has Tryz.prog 86 (BV 106 107 85):=⟨_,Tryz.func86,by kernel_rfl⟩
theorem E4:Has Tryz.prog 90 (Am 81 137):=⟨_,Tryz.func90,by kernel_rfl⟩
theorem Cc:Has Tryz.prog 131 (xA 86):=⟨_,Tryz.func131,by kernel_rfl⟩
theorem E5:Has Tryz.prog 132 (Ao 183 129):=⟨_,Tryz.func132,by kernel_rfl⟩
theorem Ce:Has Tryz.prog 137 (xB 81):=⟨_,Tryz.func137,by kernel_rfl⟩
theorem E6:Has Tryz.prog 183 (Ap 181 222 128 223 224 217 225):=⟨_,Tryz.func183,by kernel_rfl⟩
theorem DT:Has Tryz.prog 222 (yT 181 128 256):=⟨_,Tryz.func222,by kernel_rfl⟩
theorem Cf:Has Tryz.prog 223 (xC 256 128 130):=⟨_,Tryz.func223,by kernel_rfl⟩
theorem GG:Has Tryz.prog 224 (BX 217):=⟨_,Tryz.func224,by kernel_rfl⟩
theorem E7:Has Tryz.prog 256 (Aq 275 230 256 63 251 276 184 153 277 135 136 278):=⟨_,Tryz.func256,by kernel_rfl⟩
theorem Cg:Has Tryz.prog 275 (xD 290):=⟨_,Tryz.func275,by kernel_rfl⟩
theorem sM:Has Tryz.prog 290 (xF 305 250 249):=⟨_,Tryz.func290,by kernel_rfl⟩
theorem uW:Has Tryz.prog 305 (rF 59 309 310 104 288 280 311 270 155):=⟨_,Tryz.func305,by kernel_rfl⟩
theorem uX:Has Tryz.prog 309 (yU 104 307):=⟨_,Tryz.func309,by kernel_rfl⟩
theorem qF:Has Tryz.prog 310 (e9):=⟨_,Tryz.func310,by kernel_rfl⟩
theorem uY:Has Tryz.prog 311 (yV 303 104):=⟨_,Tryz.func311,by kernel_rfl⟩
end Go.Proofs.YtchdghnpcekegaaGreatDoor
end

section
namespace Go.Proofs
open Go.RowKit Go.Shelf
attribute [local go_sem] Oper.semAt_some
def Tryz.upto {α : Type} (f:Nat -> α) (k:Nat):List α := (List.range k).map f
theorem Tryz.IY {α : Type} (f:Nat -> α) (k:Nat):Tryz.upto f (k+1)=Tryz.upto f k++[f k]:=by simp [Tryz.upto,List.range_succ]
theorem Tryz.LI {α : Type} (f:Nat -> α) (k:Nat):(Tryz.upto f k).length=k:=by simp [Tryz.upto]
def Tryz.bw (zs:List Int) (k:Nat):Int × Int:=((zs.length:Int)-1-k,zs[zs.length-1-k]?.getD 0)
def Tryz.BK (n₀ Bs:Nat) (A B:World):Prop:=Below n₀ A B/\B.cell? ⟨Bs,0,none⟩=A.cell? ⟨Bs,0,none⟩
theorem Tryz.BK.refl (n₀ Bs:Nat) (A:World):Tryz.BK n₀ Bs A A:=⟨Below.refl _ _,rfl⟩
theorem Tryz.BK.trans {n₀ Bs:Nat} {A B C:World} (h:Tryz.BK n₀ Bs A B) (k:Tryz.BK n₀ Bs B C):Tryz.BK n₀ Bs A C:=⟨h.1.trans k.1,k.2.trans h.2⟩
set_option maxRecDepth 100000 in
set_option maxHeartbeats 2000000 in
theorem Tryz.aaJ (F:Fence) (n:Nat) (h8:F.fn 308) (Q8:F.round=none) (hn:1<=n) (l Bs n₀ b off cap:Nat) (zs:List Int) (JQ:zs.length*8<=140737488351232) (hb:b<n₀) (J Jx:List (Int × Int)->World->Prop)
   (hY:∀ pre x W,J pre W->pre.length<zs.length->YieldAt F (n-1) Tryz.prog l #[.int .i64 x.1, .int .u32 x.2] W fun e W' =>
     (e = .returned (.bool true)/\J (pre++[x]) W'/\Tryz.BK n₀ Bs W W')∨(e = .returned (.bool false)/\Jx (pre++[x]) W'))
   (W:World) (agU:W.cell? ⟨Bs,0,none⟩=some (.slice (some ⟨b,off,none⟩) zs.length cap)) (hc:∀ j,j<zs.length->W.cell? ⟨b,off+j,none⟩=some (.int .u32 (zs[j]?.getD 0))) (h0:J [] W) :
   CallsIn F n Tryz.prog 308 #[.func (.yield l) #[] #[], .pointer (some ⟨Bs,0,none⟩)] W fun e W'=>(∃ v,e = .returned v) /\
     ((∃ ys,ys=Tryz.upto (Tryz.bw zs) zs.length/\J ys W')∨(∃ pre,(∃ k,k<=zs.length/\pre=Tryz.upto (Tryz.bw zs) k)/\Jx pre W')):=by
 refine callsIn_of_wp Tryz.func308 rfl h8 ?_ Q8
 simp only [Tryz.ntmps308,List.size_toArray,List.length_cons,List.length_nil,Nat.reduceAdd,Nat.reduceSub,Array.replicate_succ,Array.replicate_zero,List.push_toArray,List.append_toArray,List.nil_append,List.cons_append]
 gi_wp2
 gi_loopw [3] (fun i wr=>∃ k:Nat,k<=zs.length/\i = .int .i64 ((zs.length:Int)-1-k)/\J (Tryz.upto (Tryz.bw zs) k) wr/\Tryz.BK n₀ Bs W wr)
   (fun i _=>(intOf i+1).toNat)
 case atStart=>exact ⟨0,Nat.zero_le _,by simp,h0,Tryz.BK.refl _ _ _⟩
 case round =>
   obtain ⟨k,hk,rfl,hJs,hnx⟩:=hrel
   have hBk:=hnx.2.trans agU
   have hcx:∀ j,j<zs.length->wr.cell? ⟨b,off+j,none⟩=some (.int .u32 (zs[j]?.getD 0)):=fun j h=>(hnx.1.cell (p:=⟨b,off+j,none⟩) hb).trans (hc j h)
   by_cases hlt:k<zs.length
   . obtain ⟨q,hq⟩:∃ q,q=zs.length-1-k:=⟨_,rfl⟩
     have hqi:(zs.length:Int)-1-k=q:=by omega
     have hql:q<zs.length:=by omega
     have Hr:Hid (Tryz.bw zs k=((q:Int),zs[q]?.getD 0)):=by show Tryz.bw zs k=_;rw [Tryz.bw, <- hq,hqi]
     have hqk:Hid (q+1+k=zs.length):=by show q+1+k=zs.length;omega
     clear hq
     have agW:=hcx q hql
     generalize zs[q]?.getD 0=zq at Hr agW
     obtain ⟨fn,tmps,assign,body,hy,hR⟩:=hY _ ((q:Int),zq) wr hJs (by rw [Tryz.LI];exact hlt)
     dsimp only at hy
     rw [hqi]
     clear hqi hY h0 hc hcx
     gi_wp2
     refine hR.mono ?_
     rintro e W3 (⟨rfl,hJ3,hk3⟩ | ⟨rfl,agX⟩)
     . gi_wp2
       go_roundw
       case rel=>exact ⟨k+1,by omega,by have:=hqk.out;congr 1;omega,by rw [Tryz.IY,Hr.out];exact hJ3,hnx.trans hk3⟩
       case measure=>simp [intOf]
     . gi_wp2
       refine bodyPost_ret (results_none rfl _ _ _) rfl ?_
       exact ⟨⟨_,rfl⟩, .inr ⟨_,⟨k+1,by omega,by rw [Tryz.IY,Hr.out]⟩,agX⟩⟩
   . obtain rfl:k=zs.length:=by omega
     have agY:(zs.length:Int)-1-zs.length = -1:=by omega
     rw [agY]
     gi_wp2
     go_end0
     exact ⟨⟨_,rfl⟩, .inl ⟨_,rfl,hJs⟩⟩
def Tryz.Q9 (n₀:Nat) (W:World) (sv:Value) (zs:List Int):Prop :=
 (∃ a cap,sv = .slice a 0 cap/\zs=[])∨∃ b off cap,sv = .slice (some ⟨b,off,none⟩) zs.length cap/\b<n₀/\∀ j,j<zs.length->W.cell? ⟨b,off+j,none⟩=some (.int .u32 (zs[j]?.getD 0))
theorem Tryz.Q9.below {n₀:Nat} {A B:World} (h:Below n₀ A B) {sv:Value} {zs:List Int}:Tryz.Q9 n₀ A sv zs->Tryz.Q9 n₀ B sv zs
 | .inl e => .inl e
 | .inr ⟨b,off,cap,e,hb,hc⟩ => .inr ⟨b,off,cap,e,hb,fun j hj=>(h.cell (p:=⟨b,off+j,none⟩) hb).trans (hc j hj)⟩
set_option maxRecDepth 100000 in
set_option maxHeartbeats 1000000 in
theorem Tryz.Nx (F:Fence) (n:Nat) (h8:F.fn 308) (Q8:F.round=none) (l Bs:Nat) (a:Option Addr) (cap:Nat) (J:List (Int × Int)->World->Prop) (W:World) (hBs:W.cell? ⟨Bs,0,none⟩=some (.slice a 0 cap)) (h0:J [] W) :
   CallsIn F n Tryz.prog 308 #[.func (.yield l) #[] #[], .pointer (some ⟨Bs,0,none⟩)] W fun e W'=>(∃ v,e = .returned v)/\J [] W':=by
 refine callsIn_of_wp Tryz.func308 rfl h8 ?_ Q8
 simp only [Tryz.ntmps308,List.size_toArray,List.length_cons,List.length_nil,Nat.reduceAdd,Nat.reduceSub,Array.replicate_succ,Array.replicate_zero,List.push_toArray,List.append_toArray,List.nil_append,List.cons_append]
 gi_wp2
 gi_loopw [3] (fun i wr=>i = .int .i64 (-1)/\J [] wr) (fun _ _=>0)
 case atStart=>exact ⟨rfl,h0⟩
 case round =>
   obtain ⟨rfl,hJs⟩:=hrel
   gi_wp2
   go_end0
   exact ⟨⟨_,rfl⟩,hJs⟩
set_option maxHeartbeats 1000000 in
theorem Tryz.LJ (F:Fence) (n:Nat) (h5:F.fn 304) (Q8:F.round=none) (a:Option Addr) (len cap:Nat) (w:World) :
   CallsIn F n Tryz.prog 304 #[.slice a len cap] w fun e w'=>e = .returned (.func (.func 308) #[] #[.pointer (some ⟨w.heap.size,0,none⟩)])/\w'=w.alloc (.cells #[.slice a len cap] 30):=by
 refine callsIn_of_wp Tryz.func304 rfl h5 ?_ Q8
 simp only [Tryz.ntmps304,List.size_toArray,List.length_cons,List.length_nil,Nat.reduceAdd,Nat.reduceSub,Array.replicate_succ,Array.replicate_zero,List.push_toArray,List.append_toArray,List.nil_append,List.cons_append]
 gi_wp2
 go_ret
 exact ⟨rfl,rfl⟩
theorem Tryz.TX (F:Fence) (n:Nat) (h8:F.fn 308) (Q8:F.round=none) (hn:1<=n) (Bs n₀:Nat) (sv:Value) (zs:List Int) (JQ:zs.length*8<=140737488351232) (w:World) (hBs:Bs<w.heap.size) (hn₀:n₀<=w.heap.size)
   (hc:w.cell? ⟨Bs,0,none⟩=some sv) (hI:Tryz.Q9 n₀ w sv zs) :
   SeqStopsK F n Tryz.prog 308 #[.pointer (some ⟨Bs,0,none⟩)] (fun x:Int × Int => #[Value.int .i64 x.1,Value.int .u32 x.2]) (Tryz.BK n₀ Bs) (fun ys=>ys=Tryz.upto (Tryz.bw zs) zs.length)
     (fun pre=>∃ k,k<=zs.length/\pre=Tryz.upto (Tryz.bw zs) k) zs.length w:=fun l J Jx W hW _ _ hY h0=>by
 have hc':=(hW.cell (p:=⟨Bs,0,none⟩) hBs).trans hc
 rcases hI.below (hW.mono hn₀) with ⟨a,cap,rfl,rfl⟩ | ⟨b,off,cap,rfl,hb,hcs⟩
 . exact (Tryz.Nx F n h8 Q8 l Bs a cap J W hc' h0).mono fun e W' ⟨he,hj⟩=>⟨he, .inl ⟨_,rfl,hj⟩⟩
 . exact Tryz.aaJ F n h8 Q8 hn l Bs n₀ b off cap zs JQ hb J Jx hY W hc' hcs h0
def Tryz.GH (s v:Int):Int:=bits BinOp.or IntKind.u64 (IntKind.u64.wrap (s*4294967296)) (IntKind.u64.wrap v)
def Tryz.toU (l:List (Int × Int)):Int:=l.foldl (fun s x=>Tryz.GH s x.2) 0
theorem Tryz.toU_snoc (pre:List (Int × Int)) (x:Int × Int):Tryz.toU (pre++[x])=Tryz.GH (Tryz.toU pre) x.2:=by simp [Tryz.toU]
set_option maxRecDepth 100000 in
set_option maxHeartbeats 2000000 in
theorem Tryz.toUint_in (F:Fence) (n:Nat) (h3:F.fn 289) (h6:F.fn 304) (h8:F.fn 308) (Q8:F.round=none) (hn:3<=n) (a:Option Addr) (len cap:Nat) (zs:List Int) (JQ:zs.length*8<=140737488351232) (w:World) (hI:Tryz.Q9 w.heap.size w (.slice a len cap) zs) :
   CallsIn F n Tryz.prog 289 #[.slice a len cap] w fun e W'=>e = .returned (.int .u64 (Tryz.toU (Tryz.upto (Tryz.bw zs) zs.length)))/\Below w.heap.size w W':=by
 have h1:1<=n:=by omega
 refine callsIn_of_wp_marks Tryz.func289 rfl h3 ?_ Q8
 simp only [Tryz.ntmps289,List.size_toArray,List.length_cons,List.length_nil,Nat.reduceAdd,Nat.reduceSub,Array.replicate_succ,Array.replicate_zero,List.push_toArray,List.append_toArray,List.nil_append,List.cons_append]
 gi_wp2_with (gi_at_call 304;refine (Tryz.LJ F (n-1) h6 Q8 _ _ _ _).mono ?_;rintro e w' ⟨rfl,rfl⟩)
 have bS:=Boxed.new w 106 (.int .u64 0)
 have bN:=Boxed.new (w.alloc (.cells #[.int .u64 0] 106)) 30 (.slice a len cap)
 rw [World.size_alloc] at bN
 have hB0:Below w.heap.size w ((w.alloc (.cells #[.int .u64 0] 106)).alloc (.cells #[.slice a len cap] 30)):=((Below.refl _ w).alloc (Nat.le_refl _) _).alloc (by simp) _
 have alo:((w.alloc (.cells #[.int .u64 0] 106)).alloc (.cells #[.slice a len cap] 30)).heap.size=w.heap.size+2:=by simp
 refine wpIn_rangeFunc_ownG Q8 h1 (gf:=308) (lb := #[.pointer (some ⟨w.heap.size+1,0,none⟩)]) rfl h8 (enters_of Tryz.func308 (by kernel_rfl) rfl)
   (Tryz.TX F (n-1) h8 Q8 (by omega) (w.heap.size+1) w.heap.size _ zs JQ _ (by simp) (by simp;omega) bN.cell (hI.below hB0)) (fun h k=>h.trans k)
   (fun W l o o' hl h h2 h3=>⟨belowK_b (w:=w) (Nat.le_refl _) W l o o' (by omega) h h2 h3,(belowK_b (w:=(w.alloc (.cells #[.int .u64 0] 106)).alloc (.cells #[.slice a len cap] 30)) (Nat.le_refl _) W l o o' hl h h2 h3).cell (p:=⟨w.heap.size+1,0,none⟩) (by simp)⟩) (Below.refl _ _) (fun _=>rfl)
   (fun pre W=>(W.cell? ⟨w.heap.size,0,none⟩=some (.int .u64 (Tryz.toU pre))/\W.frozen? ⟨w.heap.size,0,none⟩=false)/\Below w.heap.size w W)
   (fun _ _ _=>False)
   (OwnFrom.and (Own.from (fun s A B row hs hg hr=>⟨cell_kept hs.1 hg hr,(frozen_kept hs.1 hg hr).trans hs.2⟩) _) (ownFrom_below (Nat.le_refl _) (by simp;omega)))
   (fun _ _ _ _ _ hs _ _=>hs)
   ⟨⟨(bS.alloc _).cell,(bS.alloc _).frozen⟩,hB0⟩
   (fun x=>{ tmps := #[.slice a len cap,undef, .int .u64 0, .pointer (some ⟨w.heap.size,0,none⟩),undef, .int .u32 x.2, .slice a len cap, .func (.func 308) #[] #[.pointer (some ⟨w.heap.size+1,0,none⟩)], .int .i64 x.1, .int .u32 x.2,undef,undef,undef,undef,undef,undef],defers:=[] }) ?assign ?body ?done ?stop
 case assign =>
   intro l x W K hK
   gi_wp2
   exact hK
 case body =>
   rintro l pre x W ⟨⟨hc,hf⟩,hB⟩ _
   gi_wp2
   exact ⟨(KeepsOthers.setCell _ _ _).from _,⟨(Below.refl w.heap.size W).setCell (p:=⟨w.heap.size,0,none⟩) (Nat.le_refl _) _,World.cell?_of_block (a:=⟨w.heap.size+1,0,none⟩) (Below.heap_setCell _ _ _ _ (by simp))⟩,
     ⟨by rw [Tryz.toU_snoc];exact World.cell?_setCell_same' _ _ _ (by rw [hc];rfl),by rw [World.frozen?_setCell];exact hf⟩,hB.setCell (p:=⟨w.heap.size,0,none⟩) (Nat.le_refl _) _⟩
 case done =>
   rintro D ys W hD rfl ⟨⟨hc,_⟩,hB⟩ hK
   gi_wp2
   refine ⟨by simp, .inl ⟨_,_,rfl,run_takeDeferred hK, ?_⟩⟩
   exact ⟨_,results_tmp rfl _ _ _,rfl,hB.trans (belowK_b (w:=w) (Nat.le_refl _) W D _ _ (by simp at hD;omega) hK rfl rfl)⟩
 case stop =>
   rintro D c pre W _ _ h _
   exact h.elim
end Go.Proofs
end

section
namespace Go.VL
section
variable {P:Program} {G:Nat->Option (List AV)} {own:Nat->Prop} {E:Env} {w:World} {σ : af}
theorem View.fn {σ : af} {f:Fn} {a c a' c':List AV} (ha:aF σ a a') (hc:aF σ c c'):View σ (.fn f a c) (.fn f a' c'):=fun G own E w v hi hr=>by
 simp only [aT] at hr ⊢
 obtain ⟨xs,ys,e,h1,h2⟩:=hr
 exact ⟨xs,ys,e,ha.uk hi h1,hc.uk hi h2⟩
theorem View.ref {σ : af} {id:Id} {bk:da} {e o:Nat} {el:AV} {cs:List AV} (hσ : σ id=some bk) (he:bk.els[e]? = some el) (h:aF σ el.cells cs):View σ (.ref id e o) (.ep cs o):=fun G own E w v hi hr=>by
 obtain ⟨g,N,cur,ty,hB⟩:=hi.blk id bk hσ
 simp only [aT] at hr ⊢
 obtain ⟨g',k',N',hm,rfl⟩:=hr
 rw [hB.μ] at hm
 simp only [Option.some.injEq,Prod.mk.injEq] at hm
 obtain ⟨rfl,rfl,rfl⟩:=hm
 refine ⟨g,e*bk.k,rfl, .inr ⟨id,bk,bk.k,N,hσ,hB.μ⟩, ?_⟩
 refine eR.2 (h.Ed hi ?_)
 have hlt:=(List.getElem?_eq_some_iff.1 he).1
 have:=qQ (l:=e) (r:=e+1) hB.k hB.row (by omega) (by omega)
 rw [Nat.zero_add] at this
 have e2:(bk.els.take (e+1)).drop e=[el]:=by
   rw [List.drop_take,show e+1-e=1 from by omega,List.drop_eq_getElem_cons hlt]
   obtain ⟨_,he'⟩:=List.getElem?_eq_some_iff.1 he
   simp [he']
 rw [e2] at this
 simpa [flat] using this
def xG (F:List (Id × da)) (c d:AV):Prop:=∀ G own E w v,Inv G own E w (af.of F)->aT E w c v->aT ⟨E.μ,(E.jU (af.of F)).ok⟩ w d v
def gY (F:List (Id × da)):List AV->List AV->Prop
 | [],[]=>True
 | c::cs,d::ds=>xG F c d/\gY F cs ds
 | _,_=>False
theorem xG.same (F:List (Id × da)) (c:AV):xG F c c:=fun _ _ E w v _ hr =>
 aT.keep (⟨fun _ _ h=>h,fun _ h => .inl h,fun _ _=>rfl⟩:Step E ⟨E.μ,(E.jU (af.of F)).ok⟩ w w) _ v hr
theorem xG.top (F:List (Id × da)) (c:AV):xG F c .top:=fun _ _ _ _ _ _ _=>by simp [aT]
theorem gY.same (F:List (Id × da)):∀ cs:List AV,gY F cs cs
 | []=>trivial
 | c::cs=>⟨xG.same F c,gY.same F cs⟩
theorem gY.uk {F:List (Id × da)} (hi:Inv G own E w (af.of F)):∀ {cs ds:List AV} {vs:List Value},gY F cs ds->bd E w cs vs->bd ⟨E.μ,(E.jU (af.of F)).ok⟩ w ds vs
 | [],[],_,_,h=>by simpa [bd] using h
 | c::cs,d::ds,vs,hf,h=>by
   simp only [gY] at hf
   simp only [bd] at h ⊢
   obtain ⟨v,rest,e,h1,h2⟩:=h
   exact ⟨v,rest,e,hf.1 _ _ _ _ _ hi h1,gY.uk hi hf.2 h2⟩
 | [],_::_,_,h,_=>by simp [gY] at h
 | _::_,[],_,h,_=>by simp [gY] at h
theorem gY.get {F:List (Id × da)}:∀ {cs ds:List AV},gY F cs ds->∀ (j:Nat) (d:AV),ds[j]? = some d->∃ c,cs[j]? = some c/\xG F c d
 | [],[],_,j,d,h=>by simp at h
 | c::cs,d::ds,hf,0,d',h=>by simp at h;subst h;exact ⟨c,rfl,hf.1⟩
 | c::cs,d::ds,hf,j+1,d',h=>by simpa using gY.get hf.2 j d' (by simpa using h)
 | [],_::_,h,_,_,_=>by simp [gY] at h
 | _::_,[],h,_,_,_=>by simp [gY] at h
theorem gY.len {F:List (Id × da)}:∀ {cs ds:List AV},gY F cs ds->cs.length=ds.length
 | [],[],_=>rfl
 | _::cs,_::ds,h=>by simp [gY.len h.2]
 | [],_::_,h=>by simp [gY] at h
 | _::_,[],h=>by simp [gY] at h
theorem xG.agg {F:List (Id × da)} {cs ds:List AV} (h:gY F cs ds):xG F (.agg cs) (.agg ds):=fun _ _ E w v hi hr=>by
 simp only [aT] at hr ⊢;obtain ⟨xs,e,hr⟩:=hr;exact ⟨xs,e,h.uk hi hr⟩
theorem xG.tup {F:List (Id × da)} {cs ds:List AV} (h:gY F cs ds):xG F (.tup cs) (.tup ds):=fun _ _ E w v hi hr=>by
 simp only [aT] at hr ⊢;obtain ⟨xs,e,hr⟩:=hr;exact ⟨xs,e,h.uk hi hr⟩
structure aaK (F:List (Id × da)) (i:Id) (bk FA:da):Prop where
 k:FA.k=bk.k
 fr:FA.fr=bk.fr∨(FA.fr=true/\(i,bk)∈F)
 no:FA.fr=false->∀ x∈F,x.1≠i
 len:FA.els.length=bk.els.length
 sz:∀ e∈FA.els,e.size=bk.k
 els:gY F (flat bk.els) (flat FA.els)
theorem El {p:Id} {σ σ':af} (F:List (Id × da)) (hF:∀ x∈F, σ x.1=some x.2) (hs:∀ i, σ' i=none∨∃ bk FA, σ i=some bk /\ σ' i=some FA/\aaK F i bk FA) (hi:Inv G own E w σ) :
   mQ own p E ⟨E.μ,(E.jU (af.of F)).ok⟩ w w/\Inv G own ⟨E.μ,(E.jU (af.of F)).ok⟩ w σ':=by
 have hiF:Inv G own E w (af.of F):=hi.sub (af.vH hF)
 have gD:Adv own E ⟨E.μ,(E.jU (af.of F)).ok⟩ w w:=by
   refine ⟨⟨fun _ _ h=>h,fun b hb => .inl hb,fun b hb=>rfl⟩,rfl,rfl,rfl,Nat.le_refl _,fun k hk _=>rfl,fun b hb => ?_⟩
   rcases hb with h1 | ⟨id,bk,k,N,hs,hm⟩
   . exact .inl h1
   . obtain ⟨g,N',cur,ty,hB⟩:=hi.blk id bk (hF _ (gw hs))
     rw [hB.μ] at hm
     simp only [Option.some.injEq,Prod.mk.injEq] at hm
     rw [<- hm.1];exact .inr hB.own
 refine ⟨⟨gD,fun _ _=>rfl⟩,(hi.jU hF).okb,fun id FA QM => ?_,fun i j x y pM hj' hne hx hy => ?_,fun g cs hg => ?_,hi.new⟩
 . rcases hs id with h | ⟨bk,bk2,h1,h2,hR⟩
   . rw [h] at QM;simp at QM
   . rw [h2] at QM
     simp only [Option.some.injEq] at QM;subst QM
     obtain ⟨g,N,cur,ty,hB⟩:=hi.blk id bk h1
     refine ⟨g,N,cur,ty,by rw [hR.k];exact hB.μ,hB.heap,by rw [hR.k];exact hB.size,by rw [hR.len];exact hB.len,hB.most,hB.own,fun hf => ?_,fun hf gK => ?_,by rw [hR.k];exact hR.sz, ?_⟩
     . rcases hR.fr with h | ⟨_,h⟩
       . exact .inl (hB.ok (h▸hf))
       . exact .inr ⟨id,bk,bk.k,N,Dj hF h,hB.μ⟩
     . have hbf:bk.fr=false:=by
         rcases hR.fr with h | ⟨h,_⟩
         . rw [<- h];exact hf
         . rw [hf] at h;simp at h
       rcases gK with h | ⟨D9,bk2,k2,N2,Tz,Bu⟩
       . exact hB.no hbf h
       . have hm:=gw Tz
         exact hi.inj id D9 _ _ (by simp [h1]) (by simp [hF _ hm]) (fun e=>hR.no hf _ hm e.symm) hB.μ Bu rfl
     . intro j d hd
       obtain ⟨c,hc,hv⟩:=hR.els.get j d hd
       obtain ⟨v,qT,yg⟩:=hB.row j c hc
       exact ⟨v,qT,hv _ _ _ _ _ hiF yg⟩
 . have keep:∀ i, σ' i≠none -> σ i≠none:=by
     intro i hn he
     rcases hs i with h | ⟨bk,bk2,h1,_⟩
     . exact hn h
     . rw [he] at h1;simp at h1
   exact hi.inj i j x y (keep i pM) (keep j hj') hne hx hy
 . obtain ⟨h1,h2⟩:=hi.glob g cs hg
   exact ⟨.inl h1,bm.keep gD.step.bare rfl cs 0 h2⟩
theorem Wk.Di {π : Id} {t t':List AV} {σ σ':af} {n n':Nat} (F:List (Id × da)) (hF:∀ x∈F, σ x.1=some x.2) (ht:gY F t t')
   (hs:∀ i, σ' i=none∨∃ bk FA, σ i=some bk /\ σ' i=some FA/\aaK F i bk FA) (hn:n<=n'):Wk G π ⟨t, σ,n⟩ ⟨t', σ',n'⟩:=fun own E w a hm=>by
 obtain ⟨h1,h2⟩:=El (p := π) F hF hs hm.inv
 exact ⟨_,h1,ht.uk (hm.inv.sub (af.vH hF)) hm.frame,h2,hm.free.mono hn,hm.defers⟩
theorem Fin.Di {p:Id} {S:List (Id × da)} {σ':af} {r0:AV} {r:eP} (F:List (Id × da)) (hF:∀ x∈F, σ' x.1=some x.2) (hv:xG F r0 r.val)
   (hs:∀ i,(af.of S).app r.up i=none∨∃ bk FA, σ' i=some bk/\(af.of S).app r.up i=some FA/\aaK F i bk FA):Fin G p S σ' r0 r :=
 fun own E w v hi hr _=>by
   obtain ⟨h1,h2⟩:=El (p:=p) F hF hs hi
   exact ⟨_,h1,h2,hv _ _ _ _ _ (hi.sub (af.vH hF)) hr⟩
end
end Go.VL
end

section
namespace Go.VL
section
variable {P:Program} {G:Nat->Option (List AV)}
end
theorem ky {σ : af} {k:Nat} {es:List AV}:fT σ k (.sl k es)=some (es,[]):=by simp [fT]
theorem jW {σ : af} {k:Nat} {id:Id} {off len:Nat} {t:Bool} {bk:da} (h : σ id=some bk) (hk:bk.k=k) (hl:off+len<=bk.els.length):fT σ k (.osl id k off len t)=some ((bk.els.drop off).take len,[id]):=by
 simp [fT,h,hk,hl]
theorem oJ {σ : af} {p id:Id} {k bytes len:Nat} {x:AV} {els ys:List AV} {rd:List Id} (hx:fT σ k x=some (ys,rd)) (hy:ys≠[]) (h : σ id=some ⟨els,k,false⟩) (hl:len=els.length)
   (hb:(len+ys.length)*bytes<=140737488355328) (hm:len+ys.length<=maxLen) (h1:(ys.all fun e=>e.cells.all AV.one)=true) (h2:(els.all fun e=>e.cells.all AV.one)=true) :
   eh σ p k bytes (.osl id k 0 len false) x=some { val := .osl p k 0 (len+ys.length) false,rd:=id::rd,up:=[(id,none),(p,some ⟨els++ys,k,false⟩)] }:=by
 have hne:ys.isEmpty=false:=by cases ys<;>simp at hy ⊢
 unfold eh
 rw [hx]
 simp only [hne,h,h1,h2,hl,Bool.false_eq_true,if_false]
 rw [if_pos ⟨trivial,trivial,trivial,Nat.le_refl _,by rw [<- hl];exact hb,by rw [<- hl];exact hm,trivial⟩]
 simp
theorem Ch {σ : af} {p:Id} {k bytes:Nat} {x:AV} {ys:List AV} {rd:List Id} (hx:fT σ k x=some (ys,rd)) (hy:ys≠[]) (hb:ys.length*bytes<=140737488355328) (hm:ys.length<=maxLen) (h1:(ys.all fun e=>e.cells.all AV.one)=true) :
   eh σ p k bytes .nils x=some { val := .osl p k 0 ys.length false,rd,up:=[(p,some ⟨ys,k,false⟩)] }:=by
 have hne:ys.isEmpty=false:=by cases ys<;>simp at hy ⊢
 unfold eh
 rw [hx]
 simp only [hne,h1,Bool.false_eq_true,if_false]
 rw [if_pos ⟨hb,hm,trivial⟩]
theorem p5 {σ : af} {p:Id} {k bytes:Nat} {x:AV} {es ys:List AV} {rd:List Id} (hx:fT σ k x=some (ys,rd)) (hy:ys≠[]) (hb:(es.length+ys.length)*bytes<=140737488355328) (hm:es.length+ys.length<=maxLen) (h1:((es++ys).all fun e=>e.cells.all AV.one)=true) :
   eh σ p k bytes (.tsl k es) x=some { val := .osl p k 0 (es.length+ys.length) false,rd,up:=[(p,some ⟨es++ys,k,false⟩)] }:=by
 have hne:ys.isEmpty=false:=by cases ys<;>simp at hy ⊢
 unfold eh
 rw [hx]
 simp only [hne,h1,Bool.false_eq_true,if_false]
 rw [if_pos ⟨trivial,hb,hm,trivial⟩]
theorem ze {σ : af} {p:Id} {k k' bytes:Nat} {es:List AV} {x:AV} {rd:List Id} (hx:fT σ k x=some ([],rd)):eh σ p k bytes (.tsl k' es) x=some { val := .tsl k' es,rd }:=by
 unfold eh;rw [hx];rfl
theorem eN {n:Nat} (h:n<=140737488355328):n<=maxLen:=Nat.le_trans h (by decide)
theorem bs0 {σ : af} {p:Id} {k:Nat} {z:AV} (hz:z.size=k) (SM:z.cells.all AV.one=true):bU σ p (.buildSl k 0 z [])=some { val := .tsl k [] }:=by
 rw [yq];simp only [kD,List.replicate_zero];rw [if_pos ⟨hz,SM⟩,if_pos trivial]
theorem bQ {σ : af} {p:Id} {k:Nat} {z x:AV} (hx:x.size=k) (Hs:x.cells.all AV.one=true) (hz:z.size=k) (SM:z.cells.all AV.one=true) :
   bU σ p (.buildSl k 1 z [(0,x)])=some { val := .osl p k 0 1 false,up:=[(p,some ⟨[x],k,false⟩)] }:=by
 rw [yq]
 have e:kD k (List.replicate 1 z) [(0,x)]=some [x]:=by simp only [kD,List.replicate_succ,List.replicate_zero];rw [if_pos ⟨hx,by simp,Hs⟩];rfl
 rw [e];simp only [];rw [if_pos ⟨hz,SM⟩,if_neg (by decide)]
theorem bR {σ : af} {p:Id} {k:Nat} {z x y:AV} (hx:x.size=k) (Hs:x.cells.all AV.one=true) (hy:y.size=k) (OU:y.cells.all AV.one=true) (hz:z.size=k) (SM:z.cells.all AV.one=true) :
   bU σ p (.buildSl k 2 z [(0,x),(1,y)])=some { val := .osl p k 0 2 false,up:=[(p,some ⟨[x,y],k,false⟩)] }:=by
 rw [yq]
 have e:kD k (List.replicate 2 z) [(0,x),(1,y)]=some [x,y]:=by
   simp only [kD,List.replicate_succ,List.replicate_zero]
   rw [if_pos ⟨hx,by simp,Hs⟩,if_pos ⟨hy,by simp,OU⟩];rfl
 rw [e];simp only [];rw [if_pos ⟨hz,SM⟩,if_neg (by decide)]
section
variable {P:Program} {G:Nat->Option (List AV)}
theorem dX {p:Id} {S:List (Id × da)} {rs:List ug} {r:eP} {s:VS}:Q7 G p S rs r .ret s=∃ r0,aY rs s=some r0/\Fin G p S s.σ r0 r:=by simp [Q7]
theorem Em {p:Id} {S:List (Id × da)} {rs:List ug} {r:eP} {s:VS}:Q7 G p S rs r .normal s=∃ r0,aY rs s=some r0/\Fin G p S s.σ r0 r:=by simp [Q7]
theorem bF {p:Id} {S:List (Id × da)} {rs:List ug} {r:eP} {s:VS} (h:aY rs s=some r.val) (hs:∀ i,(af.of S).app r.up i=none∨(af.of S).app r.up i=s.σ i):∃ r0,aY rs s=some r0/\Fin G p S s.σ r0 r:=⟨_,h,Fin.same rfl hs⟩
end
theorem ao {σ : af} {id:Id} {x:AV} {k:Nat} {b agg:Bool} {n o:Nat}:jl (σ.put id (some ⟨[x],k,b⟩)) agg n (.ref id 0 o)=(part agg x.cells o n).map fun v=>{ val:=v,rd:=[id] } :=
 qR (af.dA _ _ _) rfl
theorem aq {σ : af} {id id':Id} {b:Option da} {agg:Bool} {n e o:Nat} (h:id'≠id):jl (σ.put id b) agg n (.ref id' e o)=jl σ agg n (.ref id' e o):=by
 unfold jl;simp only [af.cB _ _ _ h]
theorem eO {σ : af} {id:Id} {els:List AV} {k n e o:Nat} {el v:AV} (h : σ id=some ⟨els,k,false⟩) (he:els[e]? = some el) (hn:v.cells.length=n) (ho:o+n<=el.size) (h1:v.cells.all AV.one=true) :
   fy σ n (.ref id e o) v=some { val := .tup [],rd:=[id],up:=[(id,some ⟨els.set e (el.upd o v.cells),k,false⟩)] }:=by
 simp only [fy,h,he]
 rw [if_pos ⟨trivial,hn,ho,h1⟩]
section
variable {P:Program} {G:Nat->Option (List AV)} {π : Id} {Q:bX->VS->Prop} {s:VS}
end
end Go.VL
end

section
set_option linter.unusedVariables false
namespace Go.VL
def dG (c:UInt8):Bool:=(decide ((97:Int)<=c.toNat)&&decide ((c.toNat:Int)<=122))||(decide ((65:Int)<=c.toNat)&&decide ((c.toNat:Int)<=90))
def oO (c:UInt8):Bool:=decide ((48:Int)<=c.toNat)&&decide ((c.toNat:Int)<=57)
def dt (c:UInt8):Bool:=dG c||oO c||decide ((c.toNat:Int)=95)
def kz (c:UInt8):AV := .int .u8 c.toNat
theorem ek (c:UInt8):aa (kz c):=aa.int _ _
section
variable {P:Program} {G:Nat->Option (List AV)}
theorem En {f:FuncId} (h:Has P f mF) (c:UInt8):VP P G f [kz c] (.bool (dG c)):=by
 refine VP.has h ?_
 unfold dG
 by_cases h1:(97:Int)<=c.toNat<;>by_cases h2:(c.toNat:Int)<=122<;>by_cases h3:(65:Int)<=c.toNat<;>by_cases h4:(c.toNat:Int)<=90 <;>
   (simp only [mF,kz,SS,Nat.reduceAdd,h1,h2,h3,h4,decide_true,decide_false,Bool.and_self,Bool.and_true,Bool.and_false,Bool.or_false,Bool.or_true,Bool.or_self]
    exact ak▸ae rfl (aa.bool _))
theorem GI {f:FuncId} (h:Has P f ng) (c:UInt8):VP P G f [kz c] (.bool (oO c)):=by
 refine VP.has h ?_
 unfold oO
 by_cases h1:(48:Int)<=c.toNat<;>by_cases h2:(c.toNat:Int)<=57 <;>
   (simp only [ng,kz,SS,Nat.reduceAdd,h1,h2,decide_true,decide_false,Bool.and_self,Bool.and_true,Bool.and_false]
    exact ak▸ae rfl (aa.bool _))
theorem Ra {f fl fd:FuncId} (h:Has P f (qW fl fd)) (hl:∀ c,VP P G fl [kz c] (.bool (dG c))) (hd:∀ c,VP P G fd [kz c] (.bool (oO c))) (c:UInt8) :
   VP P G f [kz c] (.bool (dt c)):=by
 refine VP.has h ?_
 simp only [qW,SS,Nat.reduceAdd]
 refine ah (hl c) (by simp [ek]) ?_
 unfold dt
 cases h1:dG c
 . simp only [SS,Nat.reduceAdd]
   refine ah (hd c) (by simp [ek]) ?_
   cases h2:oO c
   . by_cases h3:(c.toNat:Int)=95 <;>
     (simp only [SS,Nat.reduceAdd,kz,h3,decide_true,decide_false,Bool.or_true,Bool.or_self]
      exact ak▸ae rfl (aa.bool _))
   . simp only [SS,Nat.reduceAdd,Bool.or_true,Bool.true_or]
     exact ak▸ae rfl (aa.bool _)
 . simp only [SS,Nat.reduceAdd,Bool.true_or]
   exact ak▸ae rfl (aa.bool _)
def fL (p:UInt8->Bool) (s:List UInt8):Nat:=(s.takeWhile p).length
theorem GJ (p:UInt8->Bool):∀ s:List UInt8,fL p s<=s.length
 | []=>Nat.le_refl _
 | c::s=>by unfold fL;simp only [List.takeWhile_cons];split<;>simp;exact GJ p s
theorem GK (p:UInt8->Bool):∀ (s:List UInt8) (k:Nat),k<fL p s->∃ c,s[k]? = some c/\p c=true
 | [],k,h=>by simp [fL] at h
 | c :: s,k,h=>by
   unfold fL at h;simp only [List.takeWhile_cons] at h
   split at h
   . rename_i hc
     cases k with
     | zero=>exact ⟨c,rfl,hc⟩
     | succ k=>simpa using GK p s k (by simpa [fL] using h)
   . simp at h
theorem A1 (p:UInt8->Bool):∀ (s:List UInt8),s[fL p s]? = none∨∃ c,s[fL p s]? = some c/\p c=false
 | [] => .inl rfl
 | c::s=>by
   unfold fL;simp only [List.takeWhile_cons]
   split
   . simpa [fL] using A1 p s
   . rename_i hc;exact .inr ⟨c,rfl,by simpa using hc⟩
theorem iL {s:List UInt8} {k:Nat} {c:UInt8} (h:s[k]? = some c):(if (0:Int)<=(k:Int) then bu ((s[(k:Int).toNat]?).map fun b=>AV.int .u8 b.toNat) else none)=bu (some (kz c)):=by
 rw [if_pos (by omega),Int.toNat_natCast,h];rfl
theorem aI (k:Nat) (h:k<9223372036854775807):IntKind.i64.wrap ((k:Int)+1)=((k+1:Nat):Int):=by rw [IntKind.wrap_i64];omega
theorem Xh {f fw:FuncId} (h:Has P f vJ) {p:UInt8->Bool} (hw:∀ c,VP P G fw [kz c] (.bool (p c))) (s:List UInt8) (hs:s.length<9223372036854775807) :
   VP P G f [.str s, .fn (.func fw) [] []] (.int .i64 (fL p s)):=by
 refine VP.has h ?_
 simp only [vJ,SS,Nat.reduceAdd,aK]
 refine VW.dQ (α := Nat × Nat) (fun x=>⟨[.str s, .fn (.func fw) [] [], .top, .top, .top, .int .i64 x.1]++List.replicate 14 .top,fun _=>none,x.2⟩) (fun x=>x.1<=fL p s) (fun x=>fL p s-x.1) (0,2) ?_ (Nat.zero_le _) ?_
 . exact Wk.slots (by simp [Fg,List.replicate]) (Nat.le_refl _)
 rintro ⟨k,n⟩ hk
 simp only [] at hk
 have TY:=GJ p s
 simp only [SS,Nat.reduceAdd]
 by_cases hlt:k<fL p s
 . obtain ⟨c,hc,Xi⟩:=GK p s k hlt
   have h1:(k:Int)<(s.length:Int):=by omega
   simp only [SS,Nat.reduceAdd,h1,decide_true,iL hc]
   refine ah (hw c) (by simp [ek]) ?_
   rw [Xi]
   simp only [SS,Nat.reduceAdd,aI k (by omega)]
   exact ⟨(k+1,_),by simp only [];omega,by simp only [];omega,Wk.slots (by simp [Fg]) (Nat.le_refl _)⟩
 . have Wy:k=fL p s:=by omega
   rcases A1 p s with h0 | ⟨c,hc,Xi⟩
   . have h1 : ¬ (k:Int)<(s.length:Int):=by have:=List.getElem?_eq_none_iff.1 h0;omega
     simp only [SS,Nat.reduceAdd,h1,decide_false]
     rw [Wy]
     exact ak▸ae rfl (aa.int _ _)
   . have h1:(k:Int)<(s.length:Int):=by have:=(List.getElem?_eq_some_iff.1 hc).1;omega
     rw [<- Wy] at hc
     simp only [SS,Nat.reduceAdd,h1,decide_true,iL hc]
     refine ah (hw c) (by simp [ek]) ?_
     rw [Xi]
     simp only [SS,Nat.reduceAdd]
     rw [Wy]
     exact ak▸ae rfl (aa.int _ _)
def eA (s:List UInt8):Bool:=match s with
 | []=>false
 | c::_=>decide (s.length<=24)&&dG c&&decide (fL dt s=s.length)
theorem Rb {f fl fs fw:FuncId} (h:Has P f (lH fl fs fw)) (hl:∀ c,VP P G fl [kz c] (.bool (dG c)))
   (hs:∀ s:List UInt8,s.length<9223372036854775807->VP P G fs [.str s, .fn (.func fw) [] []] (.int .i64 (fL dt s))) (s:List UInt8):VP P G f [.str s] (.bool (eA s)):=by
 refine VP.has h ?_
 cases s with
 | nil =>
   simp only [lH,SS,Nat.reduceAdd]
   exact ak▸ae rfl (aa.bool _)
 | cons c s =>
   have e0:(!((c::s)==([]:List UInt8)))=true:=rfl
   by_cases h1:(((s.length+1:Nat)):Int)<=24
   . have e1:(if (0:Int)<=0 then bu (Option.map (fun b=>AV.int IntKind.u8 ↑b.toNat) (c::s)[Int.toNat 0]?) else none)=bu (some (kz c)):=rfl
     simp only [lH,SS,Nat.reduceAdd,e0,h1,decide_true,e1]
     refine ah (hl c) (by simp [ek]) ?_
     cases h2:dG c
     . simp only [SS,Nat.reduceAdd]
       have:eA (c::s)=false:=by unfold eA;simp [h2]
       rw [this]
       exact ak▸ae rfl (aa.bool _)
     . simp only [SS,Nat.reduceAdd]
       refine ah (hs (c::s) (by simp only [List.length_cons];omega)) (by simp;exact ⟨aa.str _,aa.fn (by simp) (by simp)⟩) ?_
       by_cases h3:fL dt (c::s)=(s.length+1)
       . have h4:(fL dt (c::s):Int)=((s.length+1:Nat):Int):=by omega
         simp only [SS,Nat.reduceAdd,h4,decide_true]
         have:eA (c::s)=true:=by unfold eA;simp [h2,h3];omega
         rw [this]
         exact ak▸ae rfl (aa.bool _)
       . have h4 : ¬ (fL dt (c::s):Int)=((s.length+1:Nat):Int):=by omega
         simp only [SS,Nat.reduceAdd,h4,decide_false]
         have:eA (c::s)=false:=by unfold eA;simp [h3]
         rw [this]
         exact ak▸ae rfl (aa.bool _)
   . simp only [lH,SS,Nat.reduceAdd,e0,h1,decide_false]
     have:eA (c::s)=false:=by unfold eA;simp only [List.length_cons];simp;intro h;omega
     rw [this]
     exact ak▸ae rfl (aa.bool _)
end
end Go.VL
end

section
set_option linter.unusedVariables false
namespace Go.VL
theorem iM {k kk:Nat} {es:List AV} {e:AV} {ik:IntKind} {i:Nat} (hk:kk=k) (h:es[i]? = some e):cn k (.sl kk es) (.int ik (i:Int))=some (.ep e.cells 0):=by
 subst hk
 simp [cn,h]
theorem GL {k:Nat} {id:Id} {off len:Nat} {b:Bool} {ik:IntKind} {i:Nat} (h:i<len):cn k (.osl id k off len b) (.int ik (i:Int))=some (.ref id (off+i) 0):=by
 simp [cn,h]
def Ab:Option Nat->Int
 | some i=>i
 | none => -1
theorem qL {α : Type} {p : α -> Bool} {l:List α} (h:∀ (j:Nat) x,l[j]? = some x->p x=false):l.findIdx? p=none:=by
 rw [List.findIdx?_eq_none_iff]
 intro x hx
 obtain ⟨j,hj⟩:=List.getElem?_of_mem hx
 exact h j x hj
theorem qM {α : Type} {p : α -> Bool} {l:List α} {i:Nat} {x : α} (hi:l[i]? = some x) (hx:p x=true) (h:∀ (j:Nat) x,j<i->l[j]? = some x->p x=false):l.findIdx? p=some i:=by
 rw [List.findIdx?_eq_some_iff_getElem]
 obtain ⟨hlt,he⟩:=List.getElem?_eq_some_iff.1 hi
 refine ⟨hlt,by rw [he];exact hx,fun j TZ => ?_⟩
 have:=h j _ TZ (List.getElem?_eq_getElem (by omega))
 simp [this]
section
variable {P:Program} {G:Nat->Option (List AV)}
end
end Go.VL
end

section
namespace Go.VL
def aE:Nat:=4294967296
theorem JR:1<aE:=by decide
theorem cV:0<aE:=by decide
def val:List Nat->Nat
 | []=>0
 | w::r=>w+aE*val r
def Wd (ws:List Nat):Prop:=∀ w∈ws,w<aE
def digits (n:Nat):List Nat:=if _h:n=0 then [] else n%aE::digits (n/aE)
termination_by n
decreasing_by exact Nat.div_lt_self (Nat.pos_of_ne_zero _h) JR
theorem bx:digits 0=[]:=by rw [digits];simp
theorem iy {n:Nat} (h:n≠0):digits n=n%aE::digits (n/aE):=by rw [digits];simp [h]
theorem aU (n:Nat):val (digits n)=n:=by
 induction n using Nat.strongRecOn with
 | _ n ih =>
   by_cases h:n=0
   . subst h;rw [bx];rfl
   . rw [iy h,val,ih _ (Nat.div_lt_self (Nat.pos_of_ne_zero h) JR)]
     exact Nat.mod_add_div n aE
theorem aX (n:Nat):Wd (digits n):=by
 induction n using Nat.strongRecOn with
 | _ n ih =>
   by_cases h:n=0
   . subst h;rw [bx];intro w hw;simp at hw
   . rw [iy h]
     intro w hw
     rcases List.mem_cons.1 hw with rfl | hw
     . exact Nat.mod_lt _ (by decide)
     . exact ih _ (Nat.div_lt_self (Nat.pos_of_ne_zero h) JR) w hw
theorem na {n:Nat}:digits n=[]↔n=0:=by
 constructor
 . intro h
   have:=aU n
   rw [h] at this
   exact this.symm
 . rintro rfl;exact bx
theorem cm (a b:List Nat):val (a++b)=val a+aE ^ a.length*val b:=by
 induction a with
 | nil=>simp [val]
 | cons x a ih =>
   simp only [List.cons_append,val,ih,List.length_cons,Nat.pow_succ]
   rw [Nat.mul_add, <- Nat.add_assoc]
   congr 1
   rw [<- Nat.mul_assoc,Nat.mul_comm (aE ^ a.length) aE]
theorem mA {ws:List Nat} (h:Wd ws):val ws<aE ^ ws.length:=by
 induction ws with
 | nil=>simp [val]
 | cons w ws ih =>
   have h1:=ih (fun x hx=>h x (List.mem_cons_of_mem _ hx))
   have h2:=h w (by simp)
   simp only [val,List.length_cons,Nat.pow_succ]
   have h3:aE*(val ws+1)<=aE*aE ^ ws.length:=Nat.mul_le_mul_left _ h1
   rw [Nat.mul_comm (aE ^ ws.length) aE]
   rw [Nat.mul_add] at h3
   omega
theorem DU {ws:List Nat} (h:∀ w∈ws,w=0):val ws=0:=by
 induction ws with
 | nil=>rfl
 | cons w ws ih=>simp only [val];rw [ih (fun x hx=>h x (List.mem_cons_of_mem _ hx)),h w (by simp)];rfl
theorem nG {ws:List Nat} (h:Wd ws) (h0:ws=[]∨∃ w,ws.getLast? = some w/\w≠0):digits (val ws)=ws:=by
 induction ws with
 | nil=>simp [val,bx]
 | cons w ws ih =>
   have hw:=h w (by simp)
   have Rc:Wd ws:=fun x hx=>h x (List.mem_cons_of_mem _ hx)
   cases ws with
   | nil =>
     rcases h0 with h0 | ⟨x,hx,hne⟩
     . simp at h0
     . simp at hx;subst hx
       simp only [val,Nat.mul_zero,Nat.add_zero]
       rw [iy hne,Nat.mod_eq_of_lt hw,Nat.div_eq_of_lt hw,bx]
   | cons y ws =>
     have hl:∃ x,(y::ws).getLast? = some x/\x≠0:=by
       rcases h0 with h0 | ⟨x,hx,hne⟩
       . simp at h0
       . exact ⟨x,by simpa [List.getLast?_cons_cons] using hx,hne⟩
     have hih:=ih Rc (.inr hl)
     have hv:val (y::ws)≠0:=by
       intro e
       have:digits (val (y::ws))=[]:=by rw [e,bx]
       rw [hih] at this;simp at this
     have hne:val (w::y::ws)≠0:=by
       simp only [val] at hv ⊢
       have:0<aE*(y+aE*val ws):=Nat.mul_pos (by decide) (Nat.pos_of_ne_zero hv)
       omega
     rw [iy hne]
     have e1:val (w::y::ws)%aE=w:=by
       show (w+aE*val (y::ws))%aE=w
       rw [Nat.add_mul_mod_self_left];exact Nat.mod_eq_of_lt hw
     have e2:val (w::y::ws)/aE=val (y::ws):=by
       show (w+aE*val (y::ws))/aE=_
       rw [Nat.add_mul_div_left _ _ (by decide),Nat.div_eq_of_lt hw,Nat.zero_add]
     rw [e1,e2,hih]
theorem zf {n:Nat}:digits n=[]∨∃ w,(digits n).getLast? = some w/\w≠0:=by
 induction n using Nat.strongRecOn with
 | _ n ih =>
   by_cases h:n=0
   . left;subst h;exact bx
   . right
     rw [iy h]
     rcases ih _ (Nat.div_lt_self (Nat.pos_of_ne_zero h) JR) with h1 | ⟨w,h1,h2⟩
     . have hd:=na.1 h1
       rw [h1]
       refine ⟨n%aE,rfl, ?_⟩
       rw [Nat.mod_eq_of_lt]
       . exact h
       . rcases Nat.div_eq_zero_iff.1 hd with h3 | h3
         . exact absurd h3 (by decide)
         . exact h3
     . cases hd:digits (n/aE) with
       | nil=>rw [hd] at h1;simp at h1
       | cons x xs=>rw [hd] at h1;exact ⟨w,by simpa [List.getLast?_cons_cons] using h1,h2⟩
theorem kM (ws:List Nat):val (ws++[0])=val ws:=by rw [cm];simp [val]
theorem sN {ws:List Nat} (h:Wd ws) (k:Nat):Wd (ws.take k):=fun w hw=>h w (List.mem_of_mem_take hw)
theorem cM {a b:List Nat} (ha:Wd a) (hb:Wd b):Wd (a++b):=fun w hw=>(List.mem_append.1 hw).elim (ha w) (hb w)
def ag (n:Nat):Nat:=(digits n).length
theorem cU (n:Nat):n<aE ^ ag n:=by have:=mA (aX n);rwa [aU] at this
theorem fC {n k:Nat} (h:n<aE ^ k):ag n<=k:=by
 induction k generalizing n with
 | zero=>simp at h;subst h;simp [ag,bx]
 | succ k ih =>
   by_cases h0:n=0
   . subst h0;simp [ag,bx]
   . unfold ag
     rw [iy h0]
     have:n/aE<aE ^ k:=by rw [Nat.pow_succ] at h;exact Nat.div_lt_of_lt_mul (by rwa [Nat.mul_comm])
     have:=ih this
     simp only [List.length_cons]
     unfold ag at this
     omega
theorem bE {m n:Nat} (h:m<=n):ag m<=ag n:=fC (Nat.lt_of_le_of_lt h (cU n))
theorem sO {n:Nat} (h:n≠0):aE ^ (ag n-1)<=n:=by
 rcases Nat.lt_or_ge n (aE ^ (ag n-1)) with h1 | h1
 . have:=fC h1
   have h2:0<ag n:=by
     unfold ag
     cases hd:digits n with
     | nil=>exact absurd (na.1 hd) h
     | cons _ _=>simp
   omega
 . exact h1
theorem zg (m n:Nat):ag (m*n)<=ag m+ag n:=by
 refine fC ?_
 rw [Nat.pow_add]
 exact Nat.mul_lt_mul'' (cU m) (cU n)
end Go.VL
end

section
set_option linter.unusedVariables false
namespace Go.VL
def us (ws:List Nat):List AV:=ws.map fun w:Nat => .int .u32 (w:Int)
def W (n:Nat):AV := .sl 1 (us (digits n))
theorem gj (ws:List Nat):(us ws).length=ws.length:=by simp [us]
theorem xd {ws:List Nat} {i w:Nat} (h:ws[i]? = some w):(us ws)[i]? = some (.int .u32 (w:Int)):=by simp [us,h]
theorem PM (ws:List Nat) (k:Nat):(us ws).take k=us (ws.take k):=by simp [us,List.map_take]
theorem DV (a b:List Nat):us (a++b)=us a++us b:=by simp [us]
theorem PN (ws:List Nat):flat (us ws)=us ws:=by
 induction ws with
 | nil=>rfl
 | cons w ws ih=>simp only [us,List.map_cons,flat,List.flatMap_cons,AV.cells] at ih ⊢;rw [ih];rfl
theorem Ci (ws:List Nat):aa (.sl 1 (us ws)):=aa.sl (by rw [PN];intro c hc;simp only [us,List.mem_map] at hc;obtain ⟨w,_,rfl⟩:=hc;exact aa.int _ _)
theorem zh (ws:List Nat):∀ c∈flat (us ws),aa c:=by rw [PN];intro c hc;simp only [us,List.mem_map] at hc;obtain ⟨w,_,rfl⟩:=hc;exact aa.int _ _
theorem Cj (ws:List Nat):∀ e∈us ws,e.size=1:=by intro e he;simp only [us,List.mem_map] at he;obtain ⟨w,_,rfl⟩:=he;rfl
theorem Ny (ws:List Nat):((us ws).all fun e=>e.cells.all AV.one)=true:=by rw [List.all_eq_true];intro e he;simp only [us,List.mem_map] at he;obtain ⟨w,_,rfl⟩:=he;rfl
theorem ay (n:Nat):aa (W n):=Ci _
theorem bl {k:IntKind} {n:Int}:part false (AV.int k n).cells 0 1=some (.int k n):=rfl
theorem uc (k:Nat) (h:0<k) (h2:k<=9223372036854775807):IntKind.i64.wrap ((k:Int)-1)=((k-1:Nat):Int):=by rw [IntKind.wrap_i64];omega
theorem aw {p:Prop} [Decidable p] (h:p):decide p=true:=decide_eq_true h
theorem ar {p:Prop} [Decidable p] (h : ¬ p):decide p=false:=decide_eq_false h
theorem T1 {k kk:Nat} {es:List AV} {h:Nat} (hk:kk=k) (hh:h<=es.length):gP k (.sl kk es) none (some (.int .i64 (h:Int))) none=some (.sl k (es.take h)):=by
 subst hk
 simp [gP,gO,kN,hh]
section
variable {P:Program} {G:Nat->Option (List AV)}
theorem PO {f:FuncId} (h:Has P f fY) {ws:List Nat} (hw:Wd ws) (hl:ws.length<=9223372036854775807):VP P G f [.sl 1 (us ws)] (W (val ws)):=by
 refine VP.has h ?_
 simp only [fY,SS,aK]
 refine VW.dQ (α := Nat × Nat) (fun x=>⟨[.sl 1 (us (ws.take x.1))]++List.replicate 20 .top,fun _=>none,x.2⟩) (fun x=>x.1<=ws.length/\val (ws.take x.1)=val ws) (fun x=>x.1) (ws.length,1) ?_ ⟨Nat.le_refl _,by rw [List.take_length]⟩ ?_
 . exact Wk.slots (by simp [Fg,List.replicate]) (Nat.le_refl _)
 rintro ⟨k,n⟩ ⟨hk,hv⟩
 simp only [] at hk hv
 have Xa:(us (ws.take k)).length=k:=by rw [gj,List.length_take];omega
 simp only [SS,Nat.reduceAdd,Xa]
 by_cases h0:k=0
 . subst h0
   have d0:decide ((0:Int)<((0:Nat):Int))=false:=by decide
   simp only [SS,Nat.reduceAdd,d0]
   refine ak▸ae (r:=W (val ws)) ?_ (ay _)
   have:digits (val ws)=[]:=by rw [<- hv];simp [val,bx]
   simp [aY,a7,W,us,this]
 . have p8:0<k:=Nat.pos_of_ne_zero h0
   have d0:decide ((0:Int)<(k:Int))=true:=aw (by omega)
   have Wx:=uc k p8 (by omega)
   obtain ⟨w,hwk⟩:∃ w,ws[k-1]? = some w:=⟨ws[k-1],by rw [List.getElem?_eq_getElem]⟩
   have adG:(ws.take k)[k-1]? = some w:=by rw [List.getElem?_take_of_lt (by omega)];exact hwk
   have ZB:ws.take k=ws.take (k-1)++[w]:=by
     have:=List.take_add_one (l:=ws) (i:=k-1)
     rw [hwk,show k-1+1=k from by omega] at this
     simpa using this
   have TY:k-1<=(us (ws.take k)).length:=by rw [Xa];omega
   by_cases hz:w=0
   . have d1:decide ((w:Int)=0)=true:=aw (by omega)
     simp only [SS,Nat.reduceAdd,d0,Wx,iM rfl (xd adG),aH,bl,d1,Xa,T1 rfl TY]
     have hm:min (k-1) k=k-1:=Nat.min_eq_left (Nat.sub_le _ _)
     refine ⟨(k-1,_),⟨by simp only [];omega, ?_⟩,by simp only [];omega,Wk.slots (by simp [Fg,PM,List.take_take,hm]) (Nat.le_refl _)⟩
     simp only []
     rw [<- hv,ZB,hz,kM]
   . have d1:decide ((w:Int)=0)=false:=ar (by omega)
     simp only [SS,Nat.reduceAdd,d0,Wx,iM rfl (xd adG),aH,bl,d1,Xa]
     refine ak▸ae (r:=W (val ws)) ?_ (ay _)
     have e:digits (val ws)=ws.take k:=by
       rw [<- hv]
       exact nG (sN hw k) (.inr ⟨w,by rw [ZB];simp,hz⟩)
     simp [aY,a7,W,e]
end
end Go.VL
end

section
set_option linter.unusedVariables false
namespace Go.VL
def jj (a b:Int):Int:=if a<b then -1 else if b<a then 1 else 0
def fP (m n:Nat):Int:=jj m n
def IV (z:Int):AV := .agg [.bool (decide (z<0)),W z.natAbs]
def xe (neg:Bool) (n:Nat):Int:=if neg then -(n:Int) else n
theorem au (z:Int):aa (IV z):=aa.agg (by intro c hc;simp at hc;rcases hc with rfl | rfl;exact aa.bool _;exact ay _)
theorem gZ (z:Int):((IV z).cells.all AV.one=true)=True:=by simp [IV,AV.cells,AV.one,W]
theorem jR (z:Int):part false (IV z).cells 0 1=some (.bool (decide (z<0))):=rfl
theorem iD (z:Int):part false (IV z).cells 1 1=some (W z.natAbs):=rfl
theorem c9 (z:Int):part true (IV z).cells 0 2=some (IV z):=rfl
theorem hH {id:Id} {ws:List Nat} {b t:Bool} {n:Nat} (hn:n=ws.length):View (af.of [(id,⟨us ws,1,b⟩)]) (.osl id 1 0 n t) (.sl 1 (us ws)):=by
 subst hn
 refine View.osl (bk:=⟨us ws,1,b⟩) (by simp [af.of]) rfl (by rw [gj];omega) ?_ (by rw [gj]) (Cj ws)
 rw [List.drop_zero,List.take_of_length_le (by rw [gj];exact Nat.le_refl _)]
 exact aF.pure (zh ws)
theorem Ff {a b:List Nat} (ha:Wd a) (_hb:Wd b) (hl:a.length=b.length) {i x y:Nat} (hx:a[i]? = some x) (hy:b[i]? = some y) (hd:a.drop (i+1)=b.drop (i+1)) (JS:x<y):val a<val b:=by
 have nX:=(List.getElem?_eq_some_iff.1 hx).1
 have hib:=(List.getElem?_eq_some_iff.1 hy).1
 have ea:a=a.take i++x::a.drop (i+1):=by
   have:=List.take_append_drop i a
   rw [List.drop_eq_getElem_cons nX] at this
   obtain ⟨_,h2⟩:=List.getElem?_eq_some_iff.1 hx
   rw [h2] at this;exact this.symm
 have eb:b=b.take i++y::b.drop (i+1):=by
   have:=List.take_append_drop i b
   rw [List.drop_eq_getElem_cons hib] at this
   obtain ⟨_,h2⟩:=List.getElem?_eq_some_iff.1 hy
   rw [h2] at this;exact this.symm
 rw [ea,eb,cm,cm, <- hd]
 have hta:(a.take i).length=i:=by rw [List.length_take];omega
 have htb:(b.take i).length=i:=by rw [List.length_take];omega
 have h1:=mA (sN ha i)
 rw [hta] at h1 ⊢
 rw [htb]
 simp only [val]
 have h2:aE ^ i*(x+1)<=aE ^ i*y:=Nat.mul_le_mul_left _ JS
 rw [Nat.mul_add,Nat.mul_one] at h2
 rw [Nat.mul_add,Nat.mul_add]
 omega
section
variable {P:Program} {G:Nat->Option (List AV)}
theorem Nz {f:FuncId} (h:Has P f qd) (a:Int):VP P G f [.int .i64 a] (.bool false):=by
 refine VP.has h ?_
 have e:decide (a≠a)=false:=by simp
 simp only [qd,SS,Nat.reduceAdd,e]
 exact ak▸ae rfl (aa.bool _)
theorem NA {f fn:FuncId} (h:Has P f (om fn)) (hn:∀ a,VP P G fn [.int .i64 a] (.bool false)) (a b:Int):VP P G f [.int .i64 a, .int .i64 b] (.int .i64 (jj a b)):=by
 refine VP.has h ?_
 simp only [om,SS,Nat.reduceAdd]
 refine ah (hn a) (by simp [aa.int]) ?_
 simp only [SS,Nat.reduceAdd]
 refine ah (hn b) (by simp [aa.int]) ?_
 unfold jj
 by_cases h1:a<b
 . simp only [SS,Nat.reduceAdd,h1,decide_true]
   exact ak▸ae rfl (aa.int _ _)
 . by_cases h2:b<a
   . simp only [SS,Nat.reduceAdd,h1,h2,decide_true,decide_false]
     exact ak▸ae rfl (aa.int _ _)
   . simp only [SS,Nat.reduceAdd,h1,h2,decide_false]
     exact ak▸ae rfl (aa.int _ _)
theorem HS {f:FuncId} (h:Has P f nx) (a:Int):VP P G f [.int .u32 a] (.bool false):=by
 refine VP.has h ?_
 have e:decide (a≠a)=false:=by simp
 simp only [nx,SS,Nat.reduceAdd,e]
 exact ak▸ae rfl (aa.bool _)
theorem HT {f fn:FuncId} (h:Has P f (lM fn)) (hn:∀ a,VP P G fn [.int .u32 a] (.bool false)) (a b:Int):VP P G f [.int .u32 a, .int .u32 b] (.int .i64 (jj a b)):=by
 refine VP.has h ?_
 simp only [lM,SS,Nat.reduceAdd]
 refine ah (hn a) (by simp [aa.int]) ?_
 simp only [SS,Nat.reduceAdd]
 refine ah (hn b) (by simp [aa.int]) ?_
 unfold jj
 by_cases h1:a<b
 . simp only [SS,Nat.reduceAdd,h1,decide_true]
   exact ak▸ae rfl (aa.int _ _)
 . by_cases h2:b<a
   . simp only [SS,Nat.reduceAdd,h1,h2,decide_true,decide_false]
     exact ak▸ae rfl (aa.int _ _)
   . simp only [SS,Nat.reduceAdd,h1,h2,decide_false]
     exact ak▸ae rfl (aa.int _ _)
def iT (P:Program) (G:Nat->Option (List AV)) (f:FuncId):Prop:=∀ ws:List Nat,Wd ws->ws.length<=9223372036854775807->VP P G f [.sl 1 (us ws)] (W (val ws))
theorem Eo {f ft:FuncId} (h:Has P f (jZ ft)) (ht:iT P G ft) (n:Nat) (hn:n<18446744073709551616):VP P G f [.int .u64 (n:Int)] (W n):=by
 refine VP.has h ?_
 have e1:IntKind.u32.wrap (n:Int)=((n%aE:Nat):Int):=by rw [IntKind.wrap_u32];unfold aE;omega
 have e2:bM .shr .int (.int .u64 (n:Int)) (.int .u64 32)=some (.int .u64 ((n/aE:Nat):Int)):=by
   rw [sE (by decide)]
   have:(n:Int).fdiv (2 ^ (min (32:Int).toNat IntKind.u64.bits))=((n/aE:Nat):Int):=by
     show (n:Int).fdiv (2 ^ 32)=_
     rw [Int.fdiv_eq_ediv_of_nonneg _ (by decide)];unfold aE;omega
   rw [this]
 have e3:IntKind.u32.wrap ((n/aE:Nat):Int)=((n/aE:Nat):Int):=by rw [IntKind.wrap_u32];unfold aE;omega
 have hb:∀ (σ : af) (q:Id),bU σ q (.buildSl 1 2 (.int .u32 0) [(0, .int .u32 ((n%aE:Nat):Int)),(1, .int .u32 ((n/aE:Nat):Int))])=some { val := .osl q 1 0 2 false,up:=[(q,some ⟨us [n%aE,n/aE],1,false⟩)] }:=fun σ q=>bR rfl rfl rfl rfl rfl rfl
 have hw:Wd [n%aE,n/aE]:=by intro w hw;simp at hw;rcases hw with rfl | rfl<;>unfold aE<;>omega
 have hv:val [n%aE,n/aE]=n:=by simp [val,Nat.mod_add_div]
 have zG:=ht [n%aE,n/aE] hw (by simp)
 rw [hv] at zG
 simp only [jZ,SS,Nat.reduceAdd,e1,e2,e3,hb]
 refine bB [([6],⟨us [n%aE,n/aE],1,false⟩)] zG (aF.cons (hH rfl) aF.nil) (by simp [af.put]) ?_
 simp only [SS,Nat.reduceAdd]
 exact ak▸ae rfl (ay _)
theorem Re {f ft:FuncId} (h:Has P f (mG ft)) (ht:iT P G ft) (neg:Bool) {ws:List Nat} (hw:Wd ws) (hl:ws.length<=9223372036854775807):VP P G f [.bool neg, .sl 1 (us ws)] (IV (xe neg (val ws))):=by
 refine VP.has h ?_
 have z1:(AV.cells (.agg [(.bool false), .nils])).all AV.one=true:=rfl
 have hlen:∀ m,sX false (W m)=some (.int .i64 (digits m).length):=fun m=>by simp [W,sX,gj]
 simp only [mG,SS,Nat.reduceAdd,z1]
 refine ah (ht ws hw hl) (by simp [Ci]) ?_
 simp only [SS,Nat.reduceAdd,hlen]
 by_cases h0:val ws=0
 . have d0:decide (((digits (val ws)).length:Int)=0)=true:=aw (by rw [h0,bx];rfl)
   have e:iN [.bool false, .nils] []=some [.bool false, .nils]:=rfl
   have e2:∀ (σ : af) (id:Id) (k:Nat),fy (σ.put id (some ⟨[.agg [.bool false, .nils]],k,false⟩)) 2 (.ref id 0 0) (.agg [.bool false, .nils])=some { val := .tup [],rd:=[id],up:=[(id,some ⟨[.agg [.bool false, .nils]],k,false⟩)] }:=by
     intro σ id k
     rw [eO (n:=2) (v := .agg [.bool false, .nils]) (els:=[.agg [.bool false, .nils]]) (k:=k) (af.dA _ _ _) rfl rfl (by simp [AV.size,AV.cells]) rfl]
     rfl
   simp only [SS,Nat.reduceAdd,d0,e,e2]
   refine ak▸⟨.agg [.bool false, .nils], ?_, ?_⟩
   . simp only [RS,aY,a7,ao];rfl
   . have:IV (xe neg (val ws)) = .agg [.bool false, .sl 1 []]:=by rw [h0];cases neg<;>simp [IV,xe,W,bx,us]
     rw [this]
     exact View.agg (aF.cons (View.pure (aa.bool _)) (aF.cons (View.nils 1) aF.nil))
 . have hne:(digits (val ws)).length≠0:=by intro e;exact h0 (na.1 (List.length_eq_zero_iff.1 e))
   have d0:decide (((digits (val ws)).length:Int)=0)=false:=ar (by omega)
   have e:iN [.bool false, .nils] [(0,(1, .bool neg)),(1,(1,W (val ws)))]=some [.bool neg,W (val ws)]:=rfl
   have e2:∀ (σ : af) (id:Id) (k:Nat),fy (σ.put id (some ⟨[.agg [.bool false, .nils]],k,false⟩)) 2 (.ref id 0 0) (.agg [.bool neg,W (val ws)])=some { val := .tup [],rd:=[id],up:=[(id,some ⟨[.agg [.bool neg,W (val ws)]],k,false⟩)] }:=by
     intro σ id k
     rw [eO (n:=2) (v := .agg [.bool neg,W (val ws)]) (els:=[.agg [.bool false, .nils]]) (k:=k) (af.dA _ _ _) rfl rfl (by simp [AV.size,AV.cells]) rfl]
     rfl
   simp only [SS,Nat.reduceAdd,d0,e,e2]
   have ei:IV (xe neg (val ws)) = .agg [.bool neg,W (val ws)]:=by
     cases neg
     . simp only [IV,xe];simp<;>omega
     . simp only [IV,xe];simp<;>omega
   rw [ei]
   refine ak▸ae (r := .agg [.bool neg,W (val ws)]) ?_ (aa.agg (by intro c hc;simp at hc;rcases hc with rfl | rfl;exact aa.bool _;exact ay _))
   simp only [RS,aY,a7,ao];rfl
end
end Go.VL
end
