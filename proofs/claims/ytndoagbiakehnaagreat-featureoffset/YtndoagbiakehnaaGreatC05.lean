/- For the claim of FeatureOffset: parts GS, GU, GV, OHas, OUP, VL28, VL29, CLex, CB, WN, CI1. -/
import Derived.Test.YtndoagbiakehnaaGreatC03
import Derived.Test.YtndoagbiakehnaaGreatProg
import Derived.KernelRfl
import Derived.Test.YtndoagbiakehnaaGreatC04
import Derived.RangeFuncBox
import Derived.RangeFuncLeaves
import Derived.Shelf.Abstract
import Derived.WalkKit
import Derived.OwnWalkIn
import Derived.TacticsInMore
import Derived.LoopNIn
import Derived.LoopIn
set_option linter.unusedSimpArgs false
set_option linter.unusedVariables false
section
set_option maxRecDepth 100000
namespace Go.VL
def xN (eW aE wa qF b8 iX:Nat):ax:=⟨73,[(.tmp 0)],(cS [oB 0 false] (cS [⟨some 10,.call (.f eW) [(.c (.int .i64 0)),(.c (.int .i64 0)),(.c (.int .i64 4)),(.c (.int .i64 0))],none⟩,⟨some 11,.build [(.str []),(.bool false),.nils,.nils,.nils,.nils,.nils,.nils,.nils,.nils,.nils,.nils,.nils,.nils,(.bool false)] [(0,(1,(.c (.str [97])))),(1,(14,(.t 10)))],none⟩,⟨some 12,.call (.f eW) [(.c (.int .i64 0)),(.c (.int .i64 0)),(.c (.int .i64 0)),(.c (.int .i64 4))],none⟩,⟨some 13,.build [(.str []),(.bool false),.nils,.nils,.nils,.nils,.nils,.nils,.nils,.nils,.nils,.nils,.nils,.nils,(.bool false)] [(0,(1,(.c (.str [98])))),(1,(14,(.t 12)))],none⟩,⟨some 14,.buildSl 15 2 (.agg [(.str []),(.bool false),.nils,.nils,.nils,.nils,.nils,.nils,.nils,.nils,.nils,.nils,.nils,.nils,(.bool false)]) [(0,(.t 11)),(1,(.t 13))],none⟩,oM 1 14] (cS [oM 16 1,⟨some 17,.call (.f aE) [(.c (.int .i64 1))],none⟩,⟨some 18,.call (.f wa) [(.c (.str [102])),(.t 16),(.c (.str [97])),(.c (.str [98])),(.t 17)],none⟩,oM 15 18,oE 19 15 0,oE 20 15 1,oM 2 19,oM 3 20] (cS [oM 22 1,⟨some 23,.call (.f aE) [(.c (.int .i64 4))],none⟩,⟨some 24,.call (.f wa) [(.c (.str [102])),(.t 22),(.c (.str [97])),(.c (.str [98])),(.t 23)],none⟩,oM 21 24,oE 25 21 0,oE 26 21 1,oM 4 25,oM 5 26] (cS [oM 28 1,⟨some 29,.buildSl 1 1 (.str []) [(0,(.c (.str [97])))],none⟩,⟨some 30,.call (.f aE) [(.c (.int .i64 2))],none⟩,⟨some 31,.call (.f qF) [(.c (.str [103])),(.t 28),(.t 29),(.t 30)],none⟩,oM 27 31,oE 32 27 0,oE 33 27 1,oM 6 32,oM 7 33] (cS [⟨some 34,.call (.f b8) [(.c (.int .i64 1)),(.c (.int .i64 0))],none⟩,⟨some 35,.call (.f b8) [(.c (.int .i64 0)),(.c (.int .i64 1))],none⟩,⟨some 36,.call (.f b8) [(.c (.int .i64 1)),(.c (.int .i64 1))],none⟩,⟨some 37,.build [(.bool false),.nils,.nils,.nils,.nils,.nils,.nils,.nils,.nils,.nils,.nils,.nils,.nils,(.bool false)] [(0,(1,(.c (.bool true)))),(1,(4,(.t 34))),(5,(4,(.t 35))),(9,(4,(.t 36))),(13,(1,(.c (.bool true))))],none⟩,⟨some 8,.box (.c (.agg [(.bool false),.nils,.nils,.nils,.nils,.nils,.nils,.nils,.nils,.nils,.nils,.nils,.nils,(.bool false)])),none⟩,oS 14 8 37] (.seq (.reg (some [(0,4),(2,4)]) [⟨some 38,.call (.f eW) [(.c (.int .i64 1)),(.c (.int .i64 0)),(.c (.int .i64 4)),(.c (.int .i64 0))],none⟩,⟨some 39,.build [(.str []),(.bool false),.nils,.nils,.nils,.nils,.nils,.nils,.nils,.nils,.nils,.nils,.nils,.nils,(.bool false)] [(0,(1,(.c (.str [97])))),(1,(14,(.t 38)))],none⟩,⟨some 40,.call (.f eW) [(.c (.int .i64 0)),(.c (.int .i64 1)),(.c (.int .i64 0)),(.c (.int .i64 4))],none⟩,⟨some 41,.build [(.str []),(.bool false),.nils,.nils,.nils,.nils,.nils,.nils,.nils,.nils,.nils,.nils,.nils,.nils,(.bool false)] [(0,(1,(.c (.str [98])))),(1,(14,(.t 40)))],none⟩,aF 42 14 8,⟨some 43,.build [(.str []),(.bool false),.nils,.nils,.nils,.nils,.nils,.nils,.nils,.nils,.nils,.nils,.nils,.nils,(.bool false)] [(0,(1,(.c (.str [102,47,48])))),(1,(14,(.t 42)))],none⟩,⟨some 44,.buildSl 15 3 (.agg [(.str []),(.bool false),.nils,.nils,.nils,.nils,.nils,.nils,.nils,.nils,.nils,.nils,.nils,.nils,(.bool false)]) [(0,(.t 39)),(1,(.t 41)),(2,(.t 43))],none⟩,oM 9 44]) (.seq (.reg (some [(22,23),(22,25)]) [oM 45 3,bd 46 .eql 45 0,oM 47 46,gM 48 5 47 true,⟨some 49,.bin .eql .int (.t 48) (.c (.int .i64 16)),some (47,true)⟩,pg 50 47 49,oM 51 50,gM 52 7 51 true,⟨some 53,.bin .eql .int (.t 52) (.c (.int .i64 0)),some (51,true)⟩,pg 54 51 53,oM 55 54,gM 56 2 55 true,gM 57 9 55 true,⟨some 58,.call (.f iX) [(.t 56),(.t 57)],some (55,true)⟩,pg 59 55 58,oM 60 59,gM 61 6 60 true,gN 62 61 60 true,⟨some 63,.bin .eql .int (.t 62) (.c (.int .i64 3)),some (60,true)⟩,pg 64 60 63,oM 65 64,gM 66 6 65 true,⟨some 67,.slice 15 (.t 66) (some (.c (.int .i64 2))) none none,some (65,true)⟩,⟨some 68,.call (.f eW) [(.c (.int .i64 0)),(.c (.int .i64 2)),(.c (.int .i64 4)),(.c (.int .i64 2))],some (65,true)⟩,⟨some 69,.build [(.str []),(.bool false),.nils,.nils,.nils,.nils,.nils,.nils,.nils,.nils,.nils,.nils,.nils,.nils,(.bool false)] [(0,(1,(.c (.str [103,47,97])))),(1,(14,(.t 68)))],some (65,true)⟩,⟨some 70,.buildSl 15 1 (.agg [(.str []),(.bool false),.nils,.nils,.nils,.nils,.nils,.nils,.nils,.nils,.nils,.nils,.nils,.nils,(.bool false)]) [(0,(.t 69))],some (65,true)⟩,⟨some 71,.call (.f iX) [(.t 67),(.t 70)],some (65,true)⟩,pg 72 65 71,oM 0 72]) .ret))))))))⟩
def u3 (b8:Nat):ax:=⟨16,[(.cell 8 true 14)],(cS [⟨some 8,.box (.c (.agg [(.bool false),.nils,.nils,.nils,.nils,.nils,.nils,.nils,.nils,.nils,.nils,.nils,.nils,(.bool false)])),none⟩] (cS [oM 9 0,oM 10 1,bc 11 b8 9 10,oM 12 2,oM 13 3,bc 14 b8 12 13,⟨some 15,.build [(.bool false),.nils,.nils,.nils,.nils,.nils,.nils,.nils,.nils,.nils,.nils,.nils,.nils,(.bool false)] [(1,(4,(.t 11))),(5,(4,(.t 14)))],none⟩,oS 14 8 15] .ret))⟩
def EM (qG EN eu F9 eX je sQ sR:Nat):ax:=⟨119,[(.tmp 10),(.tmp 11)],(cS [oX 9 4,oZ 10,oI 11 0] (cS [oM 21 0,oM 22 1,oM 23 2,oM 24 3,⟨some 25,.buildSl 1 2 (.str []) [(0,(.t 23)),(1,(.t 24))],none⟩,⟨some 26,.call (.f qG) [(.t 21),(.t 22),(.t 25)],none⟩,oM 20 26,oE 27 20 0,oE 28 20 1,oM 12 27,oM 13 28] (.seq (cS [oM 29 13,bd 30 .neq 29 0] (.cond (.t 30) (cS [oM 31 13,oZ 10,oM 11 31] .ret) .skip)) (.seq (.reg (some [(2,12),(5,12),(6,12),(2,13),(5,13),(6,13),(12,13),(2,14),(5,14),(6,14),(12,14),(13,14)]) [oM 33 12,⟨some 34,.iaddrS 14 (.t 33) (.c (.int .i64 0)),none⟩,aF 35 14 34,oM 36 12,⟨some 37,.iaddrS 14 (.t 36) (.c (.int .i64 1)),none⟩,aF 38 14 37,bc 39 EN 35 38,oM 32 39,oE 40 32 0,oE 41 32 1,oE 42 32 2,oE 43 32 3,⟨some 14,.box (.c (.agg [.nils,.nils,.nils,.nils])),none⟩,⟨some 15,.box (.c (.agg [.nils,.nils,.nils,.nils])),none⟩,⟨some 16,.box (.c (.agg [.nils,.nils,.nils,.nils])),none⟩,oS 4 14 40,oS 4 15 41,oS 4 16 42,oM 17 43]) (.seq (.block 0 (cS [oM 45 12,⟨some 46,.iaddrS 14 (.t 45) (.c (.int .i64 0)),none⟩,oF 47 0 46,oL 48 1 47,oM 49 48,gM 50 12 49 false,⟨some 51,.iaddrS 14 (.t 50) (.c (.int .i64 1)),some (49,false)⟩,gF 52 0 51 49 false,gL 53 1 52 49 false,sj 54 49 53,oM 55 54,gM 56 17 55 false,⟨some 57,.un .not (.t 56),some (55,false)⟩,sj 58 55 57,oM 44 58] (.cond (.t 44) (cS [oZ 10,oI 11 1] .ret) (cS [aF 60 4 9,oC 61 eu 60,bd 62 .leq 61 0,oM 59 62] (.cond (.t 59) (cS [oZ 10,oI 11 6] .ret) .skip))))) (cS [aF 64 4 14,aF 65 4 15,aF 66 4 16,aF 67 4 9,⟨some 68,.call (.f F9) [(.t 64),(.t 65),(.t 66),(.t 67)],none⟩,oM 63 68,oE 69 63 0,oE 70 63 1,⟨some 18,.box (.c (.agg [.nils,.nils,.nils,.nils,.nils,.nils,.nils,.nils,.nils,.nils,.nils,.nils,(.bool false)])),none⟩,oS 13 18 69,oM 13 70] (.seq (cS [oM 71 13,bd 72 .neq 71 0] (.cond (.t 72) (cS [oM 73 13,oZ 10,oM 11 73] .ret) .skip)) (cS [oM 74 1,oC 75 eX 74,oM 19 75] (.seq (.reg (some [(3,6),(3,7),(3,9)]) [oM 76 19,oM 77 1,oM 78 2,bc 79 je 77 78,oM 80 12,⟨some 81,.iaddrS 14 (.t 80) (.c (.int .i64 0)),none⟩,aF 82 14 81,aF 83 4 14,oF 84 0 18,aF 85 4 84,⟨some 86,.call (.f sQ) [(.t 82),(.t 83),(.t 85)],none⟩,oA 87 15 76 79,oF 88 1 87,oS 14 88 86]) (.seq (.reg (some [(3,6),(3,7),(3,9)]) [oM 89 19,oM 90 1,oM 91 3,bc 92 je 90 91,oM 93 12,⟨some 94,.iaddrS 14 (.t 93) (.c (.int .i64 1)),none⟩,aF 95 14 94,aF 96 4 14,oF 97 4 18,aF 98 4 97,⟨some 99,.call (.f sQ) [(.t 95),(.t 96),(.t 98)],none⟩,oA 100 15 89 92,oF 101 1 100,oS 14 101 99]) (cS [oM 102 19,oM 103 0,⟨some 104,.bin .add .str (.t 103) (.c (.str [47,48])),none⟩,oF 105 0 18,aF 106 4 105,oF 107 4 18,aF 108 4 107,oF 109 8 18,aF 110 4 109,oF 111 12 18,oL 112 1 111,⟨some 113,.build [(.bool false),.nils,.nils,.nils,.nils,.nils,.nils,.nils,.nils,.nils,.nils,.nils,.nils,(.bool false)] [(0,(1,(.c (.bool true)))),(1,(4,(.t 106))),(5,(4,(.t 108))),(9,(4,(.t 110))),(13,(1,(.t 112)))],none⟩,⟨some 114,.build [(.str []),(.bool false),.nils,.nils,.nils,.nils,.nils,.nils,.nils,.nils,.nils,.nils,.nils,.nils,(.bool false)] [(0,(1,(.t 104))),(1,(14,(.t 113)))],none⟩,⟨some 115,.buildSl 15 1 (.agg [(.str []),(.bool false),.nils,.nils,.nils,.nils,.nils,.nils,.nils,.nils,.nils,.nils,.nils,.nils,(.bool false)]) [(0,(.t 114))],none⟩,bc 116 sR 102 115,oE 117 116 0,oE 118 116 1,oM 10 117,oM 11 118] .ret)))))))))))⟩
def EO (qG eu Cv sR:Nat):ax:=⟨67,[(.tmp 8),(.tmp 9)],(cS [oX 7 3,oZ 8,oI 9 0] (cS [oM 18 0,oM 19 1,oM 20 2,⟨some 21,.call (.f qG) [(.t 18),(.t 19),(.t 20)],none⟩,oM 17 21,oE 22 17 0,oE 23 17 1,oM 10 22,oM 11 23] (.seq (cS [oM 24 11,bd 25 .neq 24 0] (.cond (.t 25) (cS [oM 26 11,oZ 8,oM 9 26] .ret) .skip)) (.seq (cS [aF 27 4 7,oC 28 eu 27,bd 29 .eql 28 0] (.cond (.t 29) (cS [oZ 8,oI 9 6] .ret) .skip)) (cS [oM 30 2,oN 31 30,⟨some 32,.mksl 15 320 (.agg [(.str []),(.bool false),.nils,.nils,.nils,.nils,.nils,.nils,.nils,.nils,.nils,.nils,.nils,.nils,(.bool false)]) (.t 31) (.t 31),none⟩,oM 12 32] (.seq (cS [oM 33 10,oN 34 33,oI 35 0] (.block 0 (.loop (cS [oT 36 .lss 35 34] (.seq (.cond (.t 36) .skip (.exit 0)) (.seq (.block 1 (cS [oM 37 35,oA 38 14 33 35,aF 39 14 38,⟨some 14,.box (.c (.agg [(.bool false),.nils,.nils,.nils,.nils,.nils,.nils,.nils,.nils,.nils,.nils,.nils,.nils,(.bool false)])),none⟩,oM 13 37,oS 14 14 39] (cS [aF 41 14 14,aF 42 4 7,bc 43 Cv 41 42,oM 40 43,oE 44 40 0,oE 45 40 1,⟨some 15,.box (.c (.agg [(.bool false),.nils,.nils,.nils,.nils,.nils,.nils,.nils,.nils,.nils,.nils,.nils,.nils,(.bool false)])),none⟩,oS 14 15 44,oM 16 45] (.seq (cS [oM 46 16,bd 47 .neq 46 0] (.cond (.t 47) (cS [oM 48 16,oZ 8,oM 9 48] .ret) .skip)) (.reg (some []) [oM 49 12,oM 50 13,oM 51 0,⟨some 52,.bin .add .str (.t 51) (.c (.str [47])),none⟩,oM 53 2,oM 54 13,oA 55 1 53 54,oL 56 1 55,⟨some 57,.bin .add .str (.t 52) (.t 56),none⟩,aF 58 14 15,⟨some 59,.build [(.str []),(.bool false),.nils,.nils,.nils,.nils,.nils,.nils,.nils,.nils,.nils,.nils,.nils,.nils,(.bool false)] [(0,(1,(.t 57))),(1,(14,(.t 58)))],none⟩,oA 60 15 49 50,oS 15 60 59]))))) (cR [bd 61 .add 35 1,oM 35 61]))))))) (cS [oM 62 1,oM 63 12,bc 64 sR 62 63,oE 65 64 0,oE 66 64 1,oM 8 65,oM 9 66] .ret)))))))⟩
def EP (sT:Nat):ax:=⟨60,[(.cell 4 true 4),(.cell 5 true 4),(.cell 6 true 4),(.tmp 7)],(cS [oX 2 0,oX 3 1,⟨some 4,.box (.c (.agg [.nils,.nils,.nils,.nils])),none⟩,⟨some 5,.box (.c (.agg [.nils,.nils,.nils,.nils])),none⟩,⟨some 6,.box (.c (.agg [.nils,.nils,.nils,.nils])),none⟩,oB 7 false] (.seq (cS [oF 12 1 2,aF 13 4 12,oF 14 5 2,aF 15 4 14,⟨some 16,.build [.nils,.nils,.nils,.nils,.nils,.nils,.nils,.nils] [(0,(4,(.t 13))),(4,(4,(.t 15)))],none⟩,oF 17 5 2,aF 18 4 17,oF 19 1 2,aF 20 4 19,⟨some 21,.build [.nils,.nils,.nils,.nils,.nils,.nils,.nils,.nils] [(0,(4,(.t 18))),(4,(4,(.t 20)))],none⟩,⟨some 22,.buildSl 8 2 (.agg [.nils,.nils,.nils,.nils,.nils,.nils,.nils,.nils]) [(0,(.t 16)),(1,(.t 21))],none⟩,oN 23 22,oI 24 0] (.block 0 (.loop (cS [oT 25 .lss 24 23] (.seq (.cond (.t 25) .skip (.exit 0)) (.seq (.block 1 (cS [oA 26 8 22 24,aF 27 8 26,⟨some 9,.box (.c (.agg [.nils,.nils,.nils,.nils,.nils,.nils,.nils,.nils])),none⟩,oS 8 9 27] (cS [oF 28 1 3,aF 29 4 28,oF 30 5 3,aF 31 4 30,⟨some 32,.build [.nils,.nils,.nils,.nils,.nils,.nils,.nils,.nils] [(0,(4,(.t 29))),(4,(4,(.t 31)))],none⟩,oF 33 5 3,aF 34 4 33,oF 35 1 3,aF 36 4 35,⟨some 37,.build [.nils,.nils,.nils,.nils,.nils,.nils,.nils,.nils] [(0,(4,(.t 34))),(4,(4,(.t 36)))],none⟩,⟨some 38,.buildSl 8 2 (.agg [.nils,.nils,.nils,.nils,.nils,.nils,.nils,.nils]) [(0,(.t 32)),(1,(.t 37))],none⟩,oN 39 38,oI 40 0] (.block 2 (.loop (cS [oT 41 .lss 40 39] (.seq (.cond (.t 41) .skip (.exit 2)) (.seq (.block 3 (cS [oA 42 8 38 40,aF 43 8 42,⟨some 11,.box (.c (.agg [.nils,.nils,.nils,.nils,.nils,.nils,.nils,.nils])),none⟩,oS 8 11 43] (cS [⟨some 44,.iaddrA 2 4 (.t 9) (.c (.int .i64 0)),none⟩,aF 45 4 44,⟨some 46,.iaddrA 2 4 (.t 11) (.c (.int .i64 0)),none⟩,aF 47 4 46,bc 48 sT 45 47] (.cond (.t 48) (.seq (.reg (some [(3,6),(5,6),(5,7)]) [⟨some 49,.iaddrA 2 4 (.t 9) (.c (.int .i64 0)),none⟩,aF 50 4 49,⟨some 51,.iaddrA 2 4 (.t 9) (.c (.int .i64 1)),none⟩,aF 52 4 51,⟨some 53,.iaddrA 2 4 (.t 11) (.c (.int .i64 1)),none⟩,aF 54 4 53,oS 4 4 50,oS 4 5 52,oS 4 6 54,oB 7 true]) .ret) .skip)))) (cR [bd 55 .add 40 1,oM 40 55]))))))))) (cR [bd 56 .add 24 1,oM 24 56]))))))) (cS [⟨some 57,.build [.nils,.nils,.nils,.nils] [],none⟩,⟨some 58,.build [.nils,.nils,.nils,.nils] [],none⟩,⟨some 59,.build [.nils,.nils,.nils,.nils] [],none⟩,oS 4 4 57,oS 4 5 58,oS 4 6 59,oB 7 false] .ret)))⟩
def Ga (gz HL bD ln jm qH lf sU pI kD dA rU cT dB:Nat):ax:=⟨184,[(.cell 8 true 13),(.tmp 9)],(cS [oX 4 0,oX 5 1,oX 6 2,oX 7 3,⟨some 8,.box (.c (.agg [.nils,.nils,.nils,.nils,.nils,.nils,.nils,.nils,.nils,.nils,.nils,.nils,(.bool false)])),none⟩,oI 9 0] (cS [⟨some 23,.build [(.int .i64 0)] [],none⟩,oX 24 23,oM 10 24] (.seq (.reg (some [(3,5),(3,6),(1,8),(2,8),(3,8),(5,8),(6,8),(7,8),(1,9),(2,9),(3,9),(5,9),(6,9),(7,9),(8,9)]) [oM 25 10,aF 26 4 5,aF 27 4 4,⟨some 28,.call (.f gz) [(.t 25),(.t 26),(.t 27)],none⟩,oM 29 10,aF 30 4 6,aF 31 4 4,⟨some 32,.call (.f gz) [(.t 29),(.t 30),(.t 31)],none⟩,⟨some 11,.box (.c (.agg [.nils,.nils,.nils,.nils])),none⟩,⟨some 12,.box (.c (.agg [.nils,.nils,.nils,.nils])),none⟩,oS 4 11 28,oS 4 12 32]) (cS [oM 33 10,aF 34 4 11,aF 35 4 12,bc 36 HL 34 35,oE 37 36 0,oE 38 36 1,⟨some 39,.call (.f bD) [(.t 33),(.t 37),(.t 38)],none⟩,⟨some 13,.box (.c (.agg [.nils,.nils])),none⟩,oS 2 13 39] (cS [aF 40 2 13,oC 41 ln 40,bd 42 .gtr 41 0,⟨some 43,.build [.nils,.nils,.nils,.nils,.nils,.nils,.nils,.nils,.nils,.nils,.nils,.nils,(.bool false)] [(12,(1,(.t 42)))],none⟩,⟨some 14,.box (.c (.agg [.nils,.nils,.nils,.nils,.nils,.nils,.nils,.nils,.nils,.nils,.nils,.nils,(.bool false)])),none⟩,oS 13 14 43] (.seq (cS [aF 44 2 13,oC 45 ln 44] (.block 0 (cS [bd 47 .eql 45 0,oM 46 47] (.cond (.t 46) (.seq (cS [oM 48 10,Hu 49 48,oF 50 0 49,oL 51 1 50,bd 52 .neq 51 0] (.cond (.t 52) (.seq (.reg (some [(4,5)]) [aF 53 13 14,oM 54 10,Hu 55 54,oF 56 0 55,oL 57 1 56,oS 13 8 53,oM 9 57]) .ret) .skip)) (cS [aF 58 13 14,oS 13 8 58,oI 9 10] .ret)) (cS [bd 60 .eql 45 (-1-0),oM 59 60] (.cond (.t 59) (cR [aF 61 2 13,oC 62 jm 61,oS 2 13 62]) .skip)))))) (cS [aF 63 4 7,oC 64 qH 63,⟨some 15,.box (.c (.agg [.nils,.nils])),none⟩,oS 2 15 64] (.seq (.reg (some [(2,7),(5,7),(1,12),(2,12),(5,12),(7,12),(8,12),(11,12),(1,13),(2,13),(5,13),(7,13),(8,13),(11,13),(12,13)]) [oM 65 10,aF 66 4 11,oC 67 lf 66,oE 68 67 0,oE 69 67 1,⟨some 70,.call (.f bD) [(.t 65),(.t 68),(.t 69)],none⟩,oM 71 10,aF 72 4 12,oC 73 lf 72,oE 74 73 0,oE 75 73 1,⟨some 76,.call (.f bD) [(.t 71),(.t 74),(.t 75)],none⟩,⟨some 16,.box (.c (.agg [.nils,.nils])),none⟩,⟨some 17,.box (.c (.agg [.nils,.nils])),none⟩,oS 2 16 70,oS 2 17 76]) (cS [oM 77 10,aF 78 2 16,aF 79 2 17,⟨some 80,.call (.f sU) [(.t 77),(.t 78),(.t 79)],none⟩,⟨some 18,.box (.c (.agg [.nils,.nils])),none⟩,oS 2 18 80] (.seq (.reg (some [(2,8),(4,8),(2,11),(4,11),(2,12),(2,15),(8,17),(11,17),(12,17),(15,17),(16,17),(2,19),(4,19),(6,19),(7,19),(8,19),(11,19),(12,19),(15,19),(16,19),(17,19),(18,19)]) [oM 81 10,oM 82 10,aF 83 2 15,oM 84 10,aF 85 2 18,oM 86 10,aF 87 4 11,aF 88 4 12,bc 89 pI 87 88,oE 90 89 0,oE 91 89 1,⟨some 92,.call (.f bD) [(.t 86),(.t 90),(.t 91)],none⟩,bc 93 kD 85 92,oE 94 93 0,oE 95 93 1,⟨some 96,.call (.f bD) [(.t 84),(.t 94),(.t 95)],none⟩,⟨some 97,.call (.f sU) [(.t 82),(.t 83),(.t 96)],none⟩,aF 98 2 13,⟨some 99,.call (.f dA) [(.t 81),(.t 97),(.t 98)],none⟩,⟨some 19,.box (.c (.agg [.nils,.nils])),none⟩,oS 2 19 99]) (.seq (.reg (some [(3,8),(6,8),(3,9),(6,9),(1,14),(2,14),(3,14),(6,14),(8,14),(9,14),(10,14),(13,14),(1,15),(2,15),(3,15),(6,15),(8,15),(9,15),(10,15),(13,15),(14,15)]) [oM 100 10,aF 101 2 16,aF 102 2 19,bc 103 rU 101 102,oE 104 103 0,oE 105 103 1,⟨some 106,.call (.f bD) [(.t 100),(.t 104),(.t 105)],none⟩,oM 107 10,aF 108 2 17,aF 109 2 19,bc 110 rU 108 109,oE 111 110 0,oE 112 110 1,⟨some 113,.call (.f bD) [(.t 107),(.t 111),(.t 112)],none⟩,⟨some 20,.box (.c (.agg [.nils,.nils])),none⟩,⟨some 21,.box (.c (.agg [.nils,.nils])),none⟩,oS 2 20 106,oS 2 21 113]) (.seq (cS [oM 114 10,Hu 115 114,oF 116 0 115,oL 117 1 116,bd 118 .eql 117 0,oM 119 118,sx 120 2 20 119 true,⟨some 121,.call (.f ln) [.t 120],some (119,true)⟩,⟨some 122,.bin .leq .int (.t 121) (.c (.int .i64 0)),some (119,true)⟩,gM 123 122 119 true,sx 124 2 21 123 false,⟨some 125,.call (.f ln) [.t 124],some (123,false)⟩,⟨some 126,.bin .leq .int (.t 125) (.c (.int .i64 0)),some (123,false)⟩,⟨some 127,.pick (.t 123) (.c (.bool true)) (.t 126),some (119,true)⟩,pg 128 119 127] (.cond (.t 128) (cS [aF 129 13 14,oS 13 8 129,oI 9 16] .ret) .skip)) (.seq (.reg (some [(1,7),(3,7),(1,8),(7,11),(8,11),(9,11),(7,13),(8,13),(9,13),(7,15),(8,15),(9,15),(7,16),(8,16),(9,16),(11,17),(13,17),(11,18)]) [oM 130 10,aF 131 4 4,oM 132 10,aF 133 4 11,oM 134 10,aF 135 2 19,aF 136 2 16,⟨some 137,.call (.f dA) [(.t 134),(.t 135),(.t 136)],none⟩,⟨some 138,.call (.f cT) [(.t 132),(.t 133),(.t 137)],none⟩,⟨some 139,.call (.f dB) [(.t 130),(.t 131),(.t 138)],none⟩,oM 140 10,aF 141 4 4,oM 142 10,aF 143 4 12,oM 144 10,aF 145 2 19,aF 146 2 17,⟨some 147,.call (.f dA) [(.t 144),(.t 145),(.t 146)],none⟩,⟨some 148,.call (.f cT) [(.t 142),(.t 143),(.t 147)],none⟩,⟨some 149,.call (.f dB) [(.t 140),(.t 141),(.t 148)],none⟩,oF 150 0 14,oS 4 150 139,oF 151 4 14,oS 4 151 149]) (.seq (.reg (some [(2,6),(6,9),(7,9),(6,11),(7,11),(6,12),(7,12),(9,13),(2,16),(4,16),(5,16),(6,16),(7,16),(9,16),(11,16),(12,16),(13,16),(14,16),(15,16)]) [oM 152 10,oM 153 10,aF 154 4 11,oM 155 10,aF 156 2 15,aF 157 2 16,⟨some 158,.call (.f dA) [(.t 155),(.t 156),(.t 157)],none⟩,⟨some 159,.call (.f cT) [(.t 153),(.t 154),(.t 158)],none⟩,oM 160 10,aF 161 4 12,oM 162 10,aF 163 2 15,aF 164 2 17,⟨some 165,.call (.f dA) [(.t 162),(.t 163),(.t 164)],none⟩,⟨some 166,.call (.f cT) [(.t 160),(.t 161),(.t 165)],none⟩,⟨some 167,.call (.f dB) [(.t 152),(.t 159),(.t 166)],none⟩,⟨some 22,.box (.c (.agg [.nils,.nils,.nils,.nils])),none⟩,oS 4 22 167]) (.seq (.reg (some [(1,7),(3,7),(1,8)]) [oM 168 10,aF 169 4 4,oM 170 10,aF 171 4 22,oM 172 10,aF 173 2 18,aF 174 2 13,⟨some 175,.call (.f dA) [(.t 172),(.t 173),(.t 174)],none⟩,⟨some 176,.call (.f cT) [(.t 170),(.t 171),(.t 175)],none⟩,⟨some 177,.call (.f dB) [(.t 168),(.t 169),(.t 176)],none⟩,oF 178 8 14,oS 4 178 177]) (.seq (.reg (some [(4,5)]) [aF 179 13 14,oM 180 10,Hu 181 180,oF 182 0 181,oL 183 1 182,oS 13 8 179,oM 9 183]) .ret))))))))))))))))⟩
def Cw (sT:Nat):ax:=⟨16,[(.cell 6 true 14)],(cS [oX 3 0,oX 4 1,oX 5 2,⟨some 6,.box (.c (.agg [(.bool false),.nils,.nils,.nils,.nils,.nils,.nils,.nils,.nils,.nils,.nils,.nils,.nils,(.bool false)])),none⟩] (.seq (cS [oF 7 1 3,aF 8 4 7,aF 9 4 4,bc 10 sT 8 9] (.cond (.t 10) (cR [aF 11 4 5,oF 12 1 3,oS 4 12 11]) (cR [aF 13 4 5,oF 14 5 3,oS 4 14 13]))) (cS [aF 15 14 3,oS 14 6 15] .ret)))⟩
def Cx (qH gz u4 lf bD dA cT dB jm kD ln:Nat):ax:=⟨119,[(.cell 4 true 14),(.tmp 5)],(cS [oX 2 0,oX 3 1,⟨some 4,.box (.c (.agg [(.bool false),.nils,.nils,.nils,.nils,.nils,.nils,.nils,.nils,.nils,.nils,.nils,.nils,(.bool false)])),none⟩,oI 5 0] (cS [⟨some 15,.build [(.int .i64 0)] [],none⟩,oX 16 15,oM 6 16] (cS [aF 17 4 3,oC 18 qH 17,⟨some 7,.box (.c (.agg [.nils,.nils])),none⟩,oS 2 7 18] (.seq (cS [oF 19 0 2,oL 20 1 19,rr 21 20] (.cond (.t 21) (cS [oM 22 6,oF 23 5 2,aF 24 4 23,oF 25 1 2,aF 26 4 25,⟨some 27,.call (.f gz) [(.t 22),(.t 24),(.t 26)],none⟩,oC 28 u4 27,⟨some 8,.box (.c (.agg [.nils,.nils,.nils,.nils])),none⟩,oS 4 8 28] (.seq (.reg (some [(1,6),(3,6),(1,9),(3,9),(1,10),(1,12),(3,12),(5,12),(6,12),(9,12),(10,12),(11,12)]) [oM 29 6,aF 30 4 8,oM 31 6,aF 32 2 7,oM 33 6,aF 34 4 8,oC 35 lf 34,oE 36 35 0,oE 37 35 1,⟨some 38,.call (.f bD) [(.t 33),(.t 36),(.t 37)],none⟩,⟨some 39,.call (.f dA) [(.t 31),(.t 32),(.t 38)],none⟩,⟨some 40,.call (.f cT) [(.t 29),(.t 30),(.t 39)],none⟩,⟨some 9,.box (.c (.agg [.nils,.nils,.nils,.nils])),none⟩,oS 4 9 40]) (.seq (.reg (some [(4,7),(4,8)]) [oM 41 6,oF 42 1 2,aF 43 4 42,aF 44 4 9,⟨some 45,.call (.f dB) [(.t 41),(.t 43),(.t 44)],none⟩,oM 46 6,oF 47 5 2,aF 48 4 47,aF 49 4 9,⟨some 50,.call (.f dB) [(.t 46),(.t 48),(.t 49)],none⟩,oF 51 1 2,oS 4 51 45,oF 52 5 2,oS 4 52 50]) (.seq (.reg (some [(4,5)]) [aF 53 14 2,oM 54 6,Hu 55 54,oF 56 0 55,oL 57 1 56,oS 14 4 53,oM 5 57]) .ret)))) .skip)) (.seq (.reg (some [(5,8),(5,10),(2,12),(4,12),(5,12),(8,12),(10,12),(11,12),(2,13),(4,13),(5,13),(8,13),(10,13),(11,13),(12,13)]) [oM 58 6,oF 59 1 2,aF 60 4 59,oF 61 9 2,aF 62 4 61,⟨some 63,.call (.f gz) [(.t 58),(.t 60),(.t 62)],none⟩,oM 64 6,oF 65 5 2,aF 66 4 65,oF 67 9 2,aF 68 4 67,⟨some 69,.call (.f gz) [(.t 64),(.t 66),(.t 68)],none⟩,⟨some 10,.box (.c (.agg [.nils,.nils,.nils,.nils])),none⟩,⟨some 11,.box (.c (.agg [.nils,.nils,.nils,.nils])),none⟩,oS 4 10 63,oS 4 11 69]) (cS [oM 70 6,aF 71 4 10,oC 72 lf 71,oE 73 72 0,oE 74 72 1,⟨some 75,.call (.f bD) [(.t 70),(.t 73),(.t 74)],none⟩,⟨some 12,.box (.c (.agg [.nils,.nils])),none⟩,oS 2 12 75] (.seq (cS [oF 76 13 2,oL 77 1 76,rr 78 77] (.cond (.t 78) (cR [aF 79 2 7,oC 80 jm 79,oS 2 7 80]) .skip)) (cS [oM 81 6,aF 82 2 12,aF 83 2 7,bc 84 kD 82 83,oE 85 84 0,oE 86 84 1,⟨some 87,.call (.f bD) [(.t 81),(.t 85),(.t 86)],none⟩,⟨some 13,.box (.c (.agg [.nils,.nils])),none⟩,oS 2 13 87] (.seq (cS [aF 88 2 13,oC 89 ln 88,bd 90 .leq 89 0] (.cond (.t 90) (cS [⟨some 91,.build [(.bool false),.nils,.nils,.nils,.nils,.nils,.nils,.nils,.nils,.nils,.nils,.nils,.nils,(.bool false)] [],none⟩,oS 14 4 91,oI 5 6] .ret) .skip)) (cS [oM 92 6,aF 93 2 13,aF 94 2 12,⟨some 95,.call (.f dA) [(.t 92),(.t 93),(.t 94)],none⟩,⟨some 14,.box (.c (.agg [.nils,.nils])),none⟩,oS 2 14 95] (.seq (.reg (some [(2,6),(6,10),(7,10),(6,12),(7,12),(6,13),(7,13),(10,14)]) [oM 96 6,oF 97 9 2,aF 98 4 97,oM 99 6,aF 100 4 10,aF 101 2 14,⟨some 102,.call (.f cT) [(.t 99),(.t 100),(.t 101)],none⟩,⟨some 103,.call (.f dB) [(.t 96),(.t 98),(.t 102)],none⟩,oM 104 6,oF 105 9 2,aF 106 4 105,oM 107 6,aF 108 4 11,aF 109 2 14,⟨some 110,.call (.f cT) [(.t 107),(.t 108),(.t 109)],none⟩,⟨some 111,.call (.f dB) [(.t 104),(.t 106),(.t 110)],none⟩,oF 112 1 2,oS 4 112 103,oF 113 5 2,oS 4 113 111]) (.seq (.reg (some [(4,5)]) [aF 114 14 2,oM 115 6,Hu 116 115,oF 117 0 116,oL 118 1 117,oS 14 4 114,oM 5 118]) .ret))))))))))))⟩
def sV (Lg iR:Nat):ax:=⟨14,[(.cell 6 true 4)],(cS [oX 4 1,oX 5 2,⟨some 6,.box (.c (.agg [.nils,.nils,.nils,.nils])),none⟩] (cS [oM 7 0,aF 8 4 4,aF 9 4 5,bc 10 Lg 8 9,oE 11 10 0,oE 12 10 1,⟨some 13,.call (.f iR) [(.t 7),(.t 11),(.t 12)],none⟩,oS 4 6 13] .ret))⟩
def sW (nu mV:Nat):ax:=⟨14,[(.cell 6 true 2)],(cS [oX 4 1,⟨some 6,.box (.c (.agg [.nils,.nils])),none⟩] (.seq (cS [oM 7 2,bd 8 .neq 7 0] (.cond (.t 8) (cS [oM 9 0,oM 10 2,bc 11 nu 9 10] (cS [⟨some 12,.call (.f mV) [(.c (.int .i64 1))],none⟩,oS 2 6 12] .ret)) .skip)) (cS [aF 13 2 4,oS 2 6 13] .ret)))⟩
def AJ (u4 pI:Nat):ax:=⟨12,[(.cell 4 true 2),(.tmp 5)],(cS [oX 2 0,oX 3 1,⟨some 4,.box (.c (.agg [.nils,.nils])),none⟩,oI 5 0] (.seq (.reg (some [(1,2)]) [aF 6 4 2,oC 7 u4 6,aF 8 4 3,bc 9 pI 7 8,oE 10 9 0,oE 11 9 1,oS 2 4 10,oM 5 11]) .ret))⟩
def yz (Gb Jh:Nat):ax:=⟨19,[(.cell 2 true 2),(.tmp 3)],(cS [oX 1 0,⟨some 2,.box (.c (.agg [.nils,.nils])),none⟩,oI 3 0] (cS [aF 7 4 1,oC 8 Gb 7,oM 6 8,oE 9 6 0,oE 10 6 1,⟨some 4,.box (.c (.agg [.nils,.nils])),none⟩,oS 2 4 9,oM 5 10] (.seq (cS [oM 11 5,bd 12 .neq 11 0] (.cond (.t 12) (cS [⟨some 13,.build [.nils,.nils] [],none⟩,oM 14 5,oS 2 2 13,oM 3 14] .ret) .skip)) (cS [aF 15 2 4,oC 16 Jh 15,oE 17 16 0,oE 18 16 1,oS 2 2 17,oM 3 18] .ret))))⟩
def sY (kA bD:Nat):ax:=⟨14,[(.cell 6 true 2)],(cS [oX 4 1,oX 5 2,⟨some 6,.box (.c (.agg [.nils,.nils])),none⟩] (cS [oM 7 0,aF 8 2 4,aF 9 2 5,bc 10 kA 8 9,oE 11 10 0,oE 12 10 1,⟨some 13,.call (.f bD) [(.t 7),(.t 11),(.t 12)],none⟩,oS 2 6 13] .ret))⟩
def sZ (Lh bD:Nat):ax:=⟨14,[(.cell 6 true 2)],(cS [oX 4 1,oX 5 2,⟨some 6,.box (.c (.agg [.nils,.nils])),none⟩] (cS [oM 7 0,aF 8 2 4,aF 9 2 5,bc 10 Lh 8 9,oE 11 10 0,oE 12 10 1,⟨some 13,.call (.f bD) [(.t 7),(.t 11),(.t 12)],none⟩,oS 2 6 13] .ret))⟩
def Dz (jA kA kD:Nat):ax:=⟨25,[(.cell 4 true 2),(.tmp 5)],(cS [oX 2 0,oX 3 1,⟨some 4,.box (.c (.agg [.nils,.nils])),none⟩,oI 5 0] (cS [aF 9 4 2,aF 10 4 3,⟨some 11,.call (.f jA) [(.t 9),(.t 10),(.f kA)],none⟩,oM 8 11,oE 12 8 0,oE 13 8 1,⟨some 6,.box (.c (.agg [.nils,.nils,.nils,.nils])),none⟩,oS 4 6 12,oM 7 13] (.seq (cS [oM 14 7,bd 15 .neq 14 0] (.cond (.t 15) (cS [⟨some 16,.build [.nils,.nils] [],none⟩,oM 17 7,oS 2 4 16,oM 5 17] .ret) .skip)) (cS [oF 18 0 6,aF 19 2 18,oF 20 2 6,aF 21 2 20,bc 22 kD 19 21,oE 23 22 0,oE 24 22 1,oS 2 4 23,oM 5 24] .ret))))⟩
def B7 (jm Gc:Nat):ax:=⟨10,[(.cell 2 true 4)],(cS [oX 1 0,⟨some 2,.box (.c (.agg [.nils,.nils,.nils,.nils])),none⟩] (.seq (.reg (some [(2,4)]) [oF 3 2 1,aF 4 2 3,oC 5 jm 4,oF 6 0 1,aF 7 2 6,oC 8 Gc 7,⟨some 9,.build [.nils,.nils,.nils,.nils] [(0,(2,(.t 5))),(2,(2,(.t 8)))],none⟩,oS 4 2 9]) .ret))⟩
def yA (pI:Nat):ax:=⟨9,[(.cell 2 true 2),(.tmp 3)],(cS [oX 1 0,⟨some 2,.box (.c (.agg [.nils,.nils])),none⟩,oI 3 0] (cS [aF 4 4 1,aF 5 4 1,bc 6 pI 4 5,oE 7 6 0,oE 8 6 1,oS 2 2 7,oM 3 8] .ret))⟩
def B8 (Ji ld:Nat):ax:=⟨24,[(.cell 2 true 2),(.tmp 3)],(cS [oX 1 0,⟨some 2,.box (.c (.agg [.nils,.nils])),none⟩,oI 3 0] (cS [oF 8 0 1,oL 9 1 8,oF 10 1 1,oL 11 1 10,bc 12 Ji 9 11,oM 7 12,oE 13 7 0,oE 14 7 1,oE 15 7 2,oM 4 13,oM 5 14,oM 6 15] (.seq (cS [oM 16 6,bd 17 .neq 16 0] (.cond (.t 17) (cS [⟨some 18,.build [.nils,.nils] [],none⟩,oM 19 6,oS 2 2 18,oM 3 19] .ret) .skip)) (cS [oM 20 4,oM 21 5,⟨some 22,.build [.nils,.nils] [(0,(1,(.t 20))),(1,(1,(.t 21)))],none⟩,oC 23 ld 22,oS 2 2 23,oI 3 0] .ret))))⟩
def yB (jm:Nat):ax:=⟨6,[(.cell 2 true 2)],(cS [oX 1 0,⟨some 2,.box (.c (.agg [.nils,.nils])),none⟩] (cS [aF 3 2 1,oC 4 jm 3,oC 5 jm 4,oS 2 2 5] .ret))⟩
def B9 (df HM mo Gd DA db Li:Nat):ax:=⟨49,[(.tmp 4),(.tmp 5),(.tmp 6)],(cS [oZ 4,oZ 5,oI 6 0] (.seq (.block 0 (cS [oM 11 0,oM 12 1,bc 13 df 11 12,rr 14 13,oM 15 14,gM 16 0 15 false,⟨some 17,.call (.f HM) [.t 16],some (15,false)⟩,⟨some 18,.un .not (.t 17),some (15,false)⟩,sj 19 15 18,oM 10 19] (.cond (.t 10) (cS [oZ 4,oZ 5,oI 6 1] .ret) (cS [oM 21 0,oM 22 1,bc 23 mo 21 22,bd 24 .lss 23 0,oM 20 24] (.cond (.t 20) (cS [oZ 4,oZ 5,oI 6 7] .ret) .skip))))) (.seq (cS [oM 26 0,oM 27 1,bc 28 Gd 26 27,oM 25 28,oE 29 25 0,oE 30 25 1,oM 7 29,oM 8 30] (cS [oM 31 8] (.cond (.t 31) (cS [oM 32 0,oC 33 DA 32,oM 34 7,oM 4 33,oM 5 34,oI 6 0] .ret) .skip))) (.seq (cS [oM 35 0,oN 36 35,bd 37 .geq 36 8] (.cond (.t 37) (cS [oZ 4,oZ 5,oI 6 3] .ret) .skip)) (cS [oM 38 0,oC 39 DA 38,oM 40 1,oC 41 db 40,⟨some 42,.buildSl 1 1 .nils [(0,(.t 41))],none⟩,Bl 43 1 24 39 42,oM 9 43] (cS [oM 44 9,oM 45 9,oM 46 0,oN 47 46,bc 48 Li 45 47,oM 4 44,oM 5 48,oI 6 0] .ret))))))⟩
def AK (df mo iK:Nat):ax:=⟨38,[(.tmp 2)],(cS [oB 2 false] (.seq (cS [oM 7 0,oN 8 7,oI 9 0] (.block 0 (.loop (cS [oT 10 .lss 9 8] (.seq (.cond (.t 10) .skip (.exit 0)) (.seq (.block 1 (cS [oM 11 9,oA 12 1 7 9,oL 13 1 12,oM 3 11,oM 4 13] (.seq (cS [oM 14 0,oM 15 3,⟨some 16,.slice 1 (.t 14) none (some (.t 15)) none,none⟩,oM 17 4,bc 18 df 16 17,rr 19 18,oM 20 19,gM 21 0 20 false,gM 22 3 20 false,⟨some 23,.slice 1 (.t 21) none (some (.t 22)) none,some (20,false)⟩,gM 24 4 20 false,⟨some 25,.call (.f mo) [(.t 23),(.t 24)],some (20,false)⟩,⟨some 26,.bin .neq .int (.t 25) (.c (.int .i64 1)),some (20,false)⟩,sj 27 20 26] (.cond (.t 27) (cS [oB 2 false] .ret) .skip)) (cS [oM 29 0,oM 30 3,⟨some 31,.slice 1 (.t 29) none (some (.t 30)) none,none⟩,oM 32 4,bc 33 iK 31 32,oM 28 33,oE 34 28 0,oE 35 28 1,oM 5 34,oM 6 35] (cS [oM 36 6] (.cond (.t 36) (cS [oB 2 false] .ret) .skip)))))) (cR [bd 37 .add 9 1,oM 9 37]))))))) (cS [oB 2 true] .ret)))⟩
def yC (iK mo z7:Nat):ax:=⟨24,[(.tmp 4),(.tmp 5)],(cS [oZ 4,oB 5 false] (cS [oM 9 0,oM 10 1,bc 11 iK 9 10,oM 8 11,oE 12 8 0,oE 13 8 1,oM 6 12,oM 7 13] (.seq (cS [oM 14 7,rr 15 14] (.cond (.t 15) (cS [oZ 4,oB 5 false] .ret) .skip)) (.seq (cS [oM 16 0,oM 17 6,bc 18 mo 16 17,bd 19 .lss 18 0] (.cond (.t 19) (cR [oM 20 0,oM 21 6,bc 22 z7 20 21,oM 6 22]) .skip)) (cS [oM 23 6,oM 4 23,oB 5 true] .ret)))))⟩
def DB (db:Nat):ax:=⟨23,[(.tmp 2)],(cS [oZ 2] (cS [oM 6 0,oN 7 6,⟨some 8,.mksl 1 24 .nils (.t 7) (.t 7),none⟩,oM 3 8] (.seq (cS [oM 9 0,oN 10 9,oI 11 0] (.block 0 (.loop (cS [oT 12 .lss 11 10] (.seq (.cond (.t 12) .skip (.exit 0)) (.seq (.block 1 (cS [oM 13 11,oA 14 1 9 11,oL 15 1 14,oM 4 13,oM 5 15] (cR [oM 16 3,oM 17 4,oM 18 5,oC 19 db 18,oA 20 1 16 17,oS 1 20 19]))) (cR [bd 21 .add 11 1,oM 11 21]))))))) (cS [oM 22 3,oM 2 22] .ret))))⟩
def Ca (Ge pD iK cn nZ ga uk ko Lj uj rh Nw:Nat):ax:=⟨154,[(.tmp 4),(.tmp 5)],(cS [oZ 4,oB 5 false] (.seq (cS [oM 26 0,oN 27 26,bd 28 .eql 27 0] (.cond (.t 28) (cS [oM 30 1,⟨some 31,.iaddrS 4 (.t 30) (.c (.int .i64 0)),none⟩,aF 32 4 31,oC 33 Ge 32,oM 29 33,oE 34 29 0,oE 35 29 1,⟨some 6,.box (.c (.agg [(.bool false),.nils,(.bool false),.nils])),none⟩,oS 4 6 34,oM 7 35] (cS [aF 36 4 6,⟨some 37,.buildSl 4 1 (.agg [(.bool false),.nils,(.bool false),.nils]) [(0,(.t 36))],none⟩,oM 38 7,oM 4 37,oM 5 38] .ret)) .skip)) (.seq (.reg (some []) [oM 39 0,oM 40 0,oN 41 40,bd 42 .sub 41 1,⟨some 43,.slice 1 (.t 39) none (some (.t 42)) none,none⟩,oM 44 0,oM 45 0,oN 46 45,bd 47 .sub 46 1,oA 48 1 44 47,oL 49 1 48,oM 8 43,oM 9 49]) (.seq (.reg (some []) [oM 50 1,oM 51 1,oN 52 51,bd 53 .quo 52 2,⟨some 54,.slice 4 (.t 50) none (some (.t 53)) none,none⟩,oM 55 1,oM 56 1,oN 57 56,bd 58 .quo 57 2,⟨some 59,.slice 4 (.t 55) (some (.t 58)) none none,none⟩,oM 10 54,oM 11 59]) (.seq (cS [oM 60 11,oC 61 pD 60] (.cond (.t 61) (.seq (cS [oM 63 8,oM 64 10,bc 65 iK 63 64,oM 62 65,oE 66 62 0,oE 67 62 1,oM 12 66,oM 13 67] (cS [oM 68 13] (.cond (.t 68) (cS [oM 69 12,oM 70 8,⟨some 71,.call (.f cn) [(.c (.int .i64 0))],none⟩,bc 72 nZ 70 71,⟨some 73,.buildSl 1 2 .nils [(0,(.t 69)),(1,(.t 72))],none⟩,oC 74 ga 73,oM 4 74,oB 5 true] .ret) .skip))) (cS [oM 76 8,oM 77 9,bc 78 uk 76 77,oM 75 78,oE 79 75 0,oE 80 75 1,oM 14 79,oM 15 80] (.seq (cS [oM 81 15,bd 82 .neq 81 0] (.cond (.t 82) (cS [oZ 4,oB 5 false] .ret) .skip)) (cS [oM 84 8,oM 85 8,oM 86 10,oM 87 14,⟨some 88,.call (.f ko) [(.t 85),(.t 86),(.t 87)],none⟩,bc 89 iK 84 88,oM 83 89,oE 90 83 0,oE 91 83 1,oM 16 90,oM 17 91] (cS [oM 92 8,⟨some 93,.call (.f cn) [(.c (.int .i64 0))],none⟩,bc 94 nZ 92 93,oM 95 16,⟨some 96,.buildSl 1 2 .nils [(0,(.t 94)),(1,(.t 95))],none⟩,oC 97 ga 96,oM 98 17,oM 4 97,oM 5 98] .ret))))) .skip)) (cS [oM 100 8,oM 101 0,oM 102 1,bc 103 Lj 101 102,bc 104 iK 100 103,oM 99 104,oE 105 99 0,oE 106 99 1,oM 18 105,oM 19 106] (.seq (cS [oM 107 19,rr 108 107] (.cond (.t 108) (cS [oZ 4,oB 5 false] .ret) .skip)) (.seq (cS [oM 109 8,oM 110 10,oM 111 18,⟨some 112,.call (.f uj) [(.t 109),(.t 110),(.t 111)],none⟩,oM 113 8,oM 114 10,oM 115 18,⟨some 116,.call (.f rh) [(.t 113),(.t 114),(.t 115)],none⟩,⟨some 117,.buildSl 1 2 .nils [(0,(.t 112)),(1,(.t 116))],none⟩,oN 118 117,oI 119 0] (.block 0 (.loop (cS [oT 120 .lss 119 118] (.seq (.cond (.t 120) .skip (.exit 0)) (.seq (.block 1 (cS [oA 121 1 117 119,oL 122 1 121,oM 21 122] (cS [oM 124 8,oM 125 8,oM 126 21,bc 127 Nw 125 126,bc 128 iK 124 127,oM 123 128,oE 129 123 0,oE 130 123 1,oM 22 129,oM 23 130] (.seq (cS [oM 131 23,rr 132 131,oM 133 132,gM 134 22 133 false,⟨some 135,.call (.f pD) [.t 134],some (133,false)⟩,sj 136 133 135] (.cond (.t 136) (.exit 1) .skip)) (cS [oM 138 8,oM 139 8,oM 140 22,oM 141 22,⟨some 142,.call (.f uj) [(.t 139),(.t 140),(.t 141)],none⟩,bc 143 uk 138 142,oM 137 143,oE 144 137 0,oE 145 137 1,oM 24 144,oM 25 145] (cS [oM 146 22,oM 147 8,oM 148 11,oM 149 24,⟨some 150,.call (.f ko) [(.t 147),(.t 148),(.t 149)],none⟩,⟨some 151,.buildSl 1 2 .nils [(0,(.t 146)),(1,(.t 150))],none⟩,oC 152 ga 151,oM 4 152,oB 5 true] .ret)))))) (cR [bd 153 .add 119 1,oM 119 153]))))))) (cS [oZ 4,oB 5 false] .ret)))))))))⟩
def yD (yE:Nat):ax:=⟨30,[(.cell 2 true 4),(.tmp 3)],(cS [oX 1 0,⟨some 2,.box (.c (.agg [(.bool false),.nils,(.bool false),.nils])),none⟩,oB 3 false] (cS [oF 9 0 1,aF 10 2 9,oC 11 yE 10,oM 8 11,oE 12 8 0,oE 13 8 1,⟨some 4,.box (.c (.agg [(.bool false),.nils])),none⟩,oS 2 4 12,oM 5 13] (cS [oF 15 2 1,aF 16 2 15,oC 17 yE 16,oM 14 17,oE 18 14 0,oE 19 14 1,⟨some 6,.box (.c (.agg [(.bool false),.nils])),none⟩,oS 2 6 18,oM 7 19] (.seq (cS [oM 20 5,rr 21 20,oM 22 21,gM 23 7 22 false,⟨some 24,.un .not (.t 23),some (22,false)⟩,sj 25 22 24] (.cond (.t 25) (cS [⟨some 26,.build [(.bool false),.nils,(.bool false),.nils] [],none⟩,oS 4 2 26,oB 3 false] .ret) .skip)) (cS [aF 27 2 4,aF 28 2 6,⟨some 29,.build [(.bool false),.nils,(.bool false),.nils] [(0,(2,(.t 27))),(2,(2,(.t 28)))],none⟩,oS 4 2 29,oB 3 true] .ret)))))⟩
def yF (HN cV uU:Nat):ax:=⟨22,[(.cell 2 true 2),(.tmp 3)],(cS [oX 1 0,⟨some 2,.box (.c (.agg [(.bool false),.nils])),none⟩,oB 3 false] (cS [aF 7 2 1,oC 8 HN 7,oM 6 8,oE 9 6 0,oE 10 6 1,⟨some 4,.box (.c (.agg [(.bool false),.nils])),none⟩,oS 2 4 9,oM 5 10] (.seq (.reg (some [(0,6),(6,7),(0,8)]) [aF 11 2 4,oM 12 5,bd 13 .eql 12 0,oM 14 13,sx 15 2 4 14 true,sx 16 2 4 14 true,⟨some 17,.call (.f cV) [(.t 15),(.t 16)],some (14,true)⟩,sx 18 2 1 14 true,⟨some 19,.call (.f uU) [(.t 17),(.t 18)],some (14,true)⟩,⟨some 20,.bin .eql .int (.t 19) (.c (.int .i64 0)),some (14,true)⟩,pg 21 14 20,oS 2 2 11,oM 3 21]) .ret)))⟩
def pJ (gS HO DC aH jV l6 HP fT bE:Nat):ax:=⟨42,[(.cell 2 true 2),(.tmp 3)],(cS [oX 1 0,⟨some 2,.box (.c (.agg [(.bool false),.nils])),none⟩,oI 3 0] (.seq (cS [aF 9 2 1,oC 10 gS 9] (.block 0 (cS [bd 12 .eql 10 (-1-0),oM 11 12] (.cond (.t 11) (cS [⟨some 13,.build [(.bool false),.nils] [],none⟩,oS 2 2 13,oI 3 7] .ret) (cS [bd 15 .eql 10 0,oM 14 15] (.cond (.t 14) (cS [⟨some 16,.build [(.bool false),.nils] [],none⟩,oS 2 2 16,oI 3 0] .ret) .skip)))))) (cS [aF 17 2 1,oC 18 HO 17,bd 19 .quo 18 2,bd 20 .add 19 1,oM 4 20] (cS [oM 21 4,oC 22 DC 21,oM 5 22] (.block 1 (.loop (.block 2 (cS [oF 24 1 1,oL 25 1 24,oC 26 aH 25,oM 27 5,bc 28 jV 26 27,oM 23 28,oE 29 23 0,oE 30 23 1,oM 6 29,oM 7 30] (cS [oM 31 5,oM 32 6,bc 33 l6 31 32,oC 34 HP 33,oM 8 34] (.seq (cS [oM 35 8,oM 36 5,bc 37 fT 35 36,bd 38 .geq 37 0] (.cond (.t 38) (cS [oM 39 5,⟨some 40,.call (.f bE) [(.c (.bool false)),(.t 39)],none⟩,oS 2 2 40,oI 3 0] .ret) .skip)) (cR [oM 41 8,oM 5 41])))))))))))⟩
def s5 (aH py:Nat):ax:=⟨22,[(.tmp 2)],(cS [oX 1 0,oI 2 0] (cS [oF 4 1 1,oL 5 1 4,oC 6 aH 5,oM 3 6] (.seq (cS [oM 7 3,oN 8 7,bd 9 .eql 8 0] (.cond (.t 9) (cS [oI 2 0] .ret) .skip)) (cS [oM 10 3,oN 11 10,bd 12 .sub 11 1,⟨some 13,.bin .mul .int (.c (.int .i64 32)) (.t 12),none⟩,oM 14 3,oM 15 3,oN 16 15,bd 17 .sub 16 1,oA 18 1 14 17,oL 19 1 18,oC 20 py 19,oT 21 .add 13 20,oM 2 21] .ret))))⟩
def eQ:ax:=⟨16,[(.tmp 2)],(cS [oZ 2] (cS [oM 4 0,bd 5 .quo 4 32,bd 6 .add 5 1,⟨some 7,.mksl 1 4 (.int .u32 0) (.t 6) (.t 6),none⟩,oM 3 7] (cS [oM 8 3,oM 9 0,bd 10 .quo 9 32,oM 11 0,bd 12 .rem 11 32,⟨some 13,.bin .shl .int (.c (.int .u32 1)) (.t 12),none⟩,oA 14 1 8 10,oS 1 14 13] (cS [oM 15 3,oM 2 15] .ret))))⟩
def AL (l5 aH:Nat):ax:=⟨6,[(.tmp 2)],(cS [oZ 2] (cS [oM 3 0,⟨some 4,.call (.f l5) [(.t 3),(.c (.int .i64 1))],none⟩,oC 5 aH 4,oM 2 5] .ret))⟩
end Go.VL
end

section
set_option maxRecDepth 100000
namespace Go.VL
def Lk (ek HQ:Nat):ax:=⟨6,[(.tmp 2)],(cS [oB 2 false] (cS [oM 3 0,⟨some 4,.call (.f ek) [(.t 3),(.f HQ)],none⟩,rr 5 4,oM 2 5] .ret))⟩
def HR (eu:Nat):ax:=⟨6,[(.tmp 2)],(cS [oX 1 0,oB 2 false] (cS [aF 3 4 1,oC 4 eu 3,bd 5 .neq 4 0,oM 2 5] .ret))⟩
def Jj:ax:=⟨15,[(.tmp 2),(.tmp 3)],(cS [oZ 2,oZ 3] (.seq (.reg (some []) [oM 4 0,oM 5 0,oN 6 5,bd 7 .sub 6 1,⟨some 8,.slice 1 (.t 4) none (some (.t 7)) none,none⟩,oM 9 0,oM 10 0,oN 11 10,bd 12 .sub 11 1,oA 13 1 9 12,oL 14 1 13,oM 2 8,oM 3 14]) .ret))⟩
def HS:ax:=⟨14,[(.tmp 2),(.tmp 3)],(cS [oZ 2,oZ 3] (.seq (.reg (some []) [oM 4 0,oM 5 0,oN 6 5,bd 7 .quo 6 2,⟨some 8,.slice 4 (.t 4) none (some (.t 7)) none,none⟩,oM 9 0,oM 10 0,oN 11 10,bd 12 .quo 11 2,⟨some 13,.slice 4 (.t 9) (some (.t 12)) none none,none⟩,oM 2 8,oM 3 13]) .ret))⟩
def Ll (nH j1 eP ml kj:Nat):ax:=⟨32,[(.tmp 4)],(cS [oZ 4] (cS [oM 10 0,oC 11 nH 10,oM 9 11,oE 12 9 0,oE 13 9 1,oM 5 12,oM 6 13] (cS [oM 15 1,oC 16 j1 15,oM 14 16,oE 17 14 0,oE 18 14 1,oM 7 17,oM 8 18] (cS [oM 19 5,oM 20 7,oM 21 7,⟨some 22,.call (.f eP) [(.t 19),(.t 20),(.t 21)],none⟩,oM 23 5,oM 24 5,oM 25 8,oM 26 8,⟨some 27,.call (.f eP) [(.t 24),(.t 25),(.t 26)],none⟩,oM 28 6,⟨some 29,.call (.f eP) [(.t 23),(.t 27),(.t 28)],none⟩,oC 30 ml 29,bc 31 kj 22 30,oM 4 31] .ret))))⟩
def Lm (jk nG cn:Nat):ax:=⟨29,[(.tmp 4)],(cS [oZ 4] (.seq (cS [oM 6 0,oC 7 jk 6,rr 8 7,oM 9 8,gM 10 1 9 false,⟨some 11,.bin .lss .int (.t 10) (.c (.int .i64 0)),some (9,false)⟩,sj 12 9 11,oM 13 12,gM 14 1 13 false,gM 15 0 13 false,gN 16 15 13 false,gT 17 .geq 14 16 13 false,sj 18 13 17] (.cond (.t 18) (cS [oZ 4] .ret) .skip)) (cS [oM 19 0,oN 20 19,⟨some 21,.bin .shl .int (.c (.int .i64 1)) (.t 20),none⟩,oC 22 nG 21,oM 5 22] (.seq (.reg (some []) [oM 23 5,oM 24 1,⟨some 25,.bin .shl .int (.c (.int .i64 1)) (.t 24),none⟩,⟨some 26,.call (.f cn) [(.c (.int .i64 1))],none⟩,oA 27 4 23 25,oS 4 27 26]) (cS [oM 28 5,oM 4 28] .ret)))))⟩
def u5 (aE:Nat):ax:=⟨19,[(.tmp 4)],(cS [oX 3 1,oZ 4] (cS [aF 6 4 3,⟨some 7,.buildSl 4 1 (.agg [(.bool false),.nils,(.bool false),.nils]) [(0,(.t 6))],none⟩,oM 5 7] (.seq (.block 0 (.loop (.seq (cS [oM 8 5,oN 9 8,oM 10 0,oN 11 10,⟨some 12,.bin .shl .int (.c (.int .i64 1)) (.t 11),none⟩,oT 13 .lss 9 12] (.cond (.t 13) .skip (.exit 0))) (.block 1 (cR [oM 14 5,⟨some 15,.call (.f aE) [(.c (.int .i64 0))],none⟩,⟨some 16,.buildSl 4 1 (.agg [(.bool false),.nils,(.bool false),.nils]) [(0,(.t 15))],none⟩,Bl 17 4 64 14 16,oM 5 17]))))) (cS [oM 18 5,oM 4 18] .ret))))⟩
def zf (aL mF:Nat):ax:=⟨43,[(.tmp 4)],(cS [oZ 4] (cS [oM 8 1,oN 9 8,bd 10 .quo 9 2,oM 5 10] (.seq (.reg (some []) [oM 11 0,oM 12 0,oN 13 12,bd 14 .sub 13 1,⟨some 15,.slice 1 (.t 11) none (some (.t 14)) none,none⟩,oM 16 0,oM 17 0,oN 18 17,bd 19 .sub 18 1,oA 20 1 16 19,oL 21 1 20,oM 6 15,oM 7 21]) (.seq (.reg (some [(8,13),(8,16)]) [oM 22 6,oM 23 6,oM 24 1,oM 25 5,⟨some 26,.slice 4 (.t 24) none (some (.t 25)) none,none⟩,oM 27 1,oM 28 5,⟨some 29,.slice 4 (.t 27) none (some (.t 28)) none,none⟩,⟨some 30,.call (.f aL) [(.t 23),(.t 26),(.t 29)],none⟩,oM 31 6,oM 32 6,oM 33 1,oM 34 5,⟨some 35,.slice 4 (.t 33) (some (.t 34)) none none,none⟩,oM 36 1,oM 37 5,⟨some 38,.slice 4 (.t 36) (some (.t 37)) none none,none⟩,⟨some 39,.call (.f aL) [(.t 32),(.t 35),(.t 38)],none⟩,oM 40 7,⟨some 41,.call (.f aL) [(.t 31),(.t 39),(.t 40)],none⟩,⟨some 42,.call (.f mF) [(.t 22),(.t 30),(.t 41)],none⟩,oM 4 42]) .ret))))⟩
def AM (cQ du:Nat):ax:=⟨13,[(.tmp 6)],(cS [oZ 6] (cS [oM 7 0,oM 8 1,oM 9 0,oM 10 2,bc 11 cQ 9 10,⟨some 12,.call (.f du) [(.t 7),(.t 8),(.t 11)],none⟩,oM 6 12] .ret))⟩
def zg (aE cB:Nat):ax:=⟨15,[(.tmp 4)],(cS [oZ 4] (cS [oM 6 0,⟨some 7,.call (.f aE) [(.c (.int .i64 0))],none⟩,bc 8 cB 6 7,oM 5 8] (.seq (.reg (some []) [oM 9 5,oM 10 1,⟨some 11,.bin .shl .int (.c (.int .i64 1)) (.t 10),none⟩,⟨some 12,.call (.f aE) [(.c (.int .i64 1))],none⟩,oA 13 4 9 11,oS 4 13 12]) (cS [oM 14 5,oM 4 14] .ret))))⟩
def zh (kH cI:Nat):ax:=⟨22,[(.tmp 2)],(cS [oB 2 false] (.seq (cS [oM 4 0,oC 5 kH 4,rr 6 5] (.cond (.t 6) (cS [oB 2 false] .ret) .skip)) (.seq (cS [oI 3 0] (.block 0 (.loop (.seq (cS [oM 7 3,oM 8 0,oN 9 8,oT 10 .lss 7 9] (.cond (.t 10) .skip (.exit 0))) (.seq (.block 1 (.seq (.reg (some []) [oM 13 0,oM 14 3,⟨some 15,.slice 1 (.t 13) none (some (.t 14)) none,none⟩,oM 16 0,oM 17 3,oA 18 1 16 17,oL 19 1 18,bc 20 cI 15 19,bd 21 .neq 20 1]) (.cond (.t 21) (cS [oB 2 false] .ret) .skip))) (cR [oM 11 3,bd 12 .add 11 1,oM 3 12])))))) (cS [oB 2 true] .ret))))⟩
def zi (dh zj cI:Nat):ax:=⟨17,[(.tmp 4)],(cS [oI 4 0] (.seq (cS [oM 5 0,oM 6 1,bc 7 dh 5 6,rr 8 7,oM 9 8,gM 10 0 9 false,⟨some 11,.call (.f zj) [.t 10],some (9,false)⟩,⟨some 12,.un .not (.t 11),some (9,false)⟩,sj 13 9 12] (.cond (.t 13) (cS [oI 4 0] .ret) .skip)) (cS [oM 14 0,oM 15 1,bc 16 cI 14 15,oM 4 16] .ret)))⟩
def wb (zk dM aE cB eS cK lI eo aL mF dN du cQ:Nat):ax:=⟨159,[(.tmp 4),(.tmp 5)],(cS [oZ 4,oB 5 false] (.seq (cS [oM 30 0,oN 31 30,bd 32 .eql 31 0] (.cond (.t 32) (cS [oM 34 1,⟨some 35,.iaddrS 4 (.t 34) (.c (.int .i64 0)),none⟩,aF 36 4 35,oC 37 zk 36,oM 33 37,oE 38 33 0,oE 39 33 1,⟨some 6,.box (.c (.agg [(.bool false),.nils,(.bool false),.nils])),none⟩,oS 4 6 38,oM 7 39] (cS [aF 40 4 6,⟨some 41,.buildSl 4 1 (.agg [(.bool false),.nils,(.bool false),.nils]) [(0,(.t 40))],none⟩,oM 42 7,oM 4 41,oM 5 42] .ret)) .skip)) (.seq (cS [oM 43 0,oM 44 1,bc 45 dM 43 44,bd 46 .lss 45 0] (.cond (.t 46) (cS [oZ 4,oB 5 false] .ret) .skip)) (cS [oM 47 0,oN 48 47,bd 49 .sub 48 1,oM 8 49] (.seq (.reg (some []) [oM 50 0,oM 51 8,⟨some 52,.slice 1 (.t 50) none (some (.t 51)) none,none⟩,oM 53 0,oM 54 8,oA 55 1 53 54,oL 56 1 55,oM 9 52,oM 10 56]) (cS [oM 57 1,oN 58 57,bd 59 .quo 58 2,oM 11 59] (.seq (.reg (some []) [oM 60 1,oM 61 11,⟨some 62,.slice 4 (.t 60) none (some (.t 61)) none,none⟩,oM 63 1,oM 64 11,⟨some 65,.slice 4 (.t 63) (some (.t 64)) none none,none⟩,oM 12 62,oM 13 65]) (cS [oM 66 9,⟨some 67,.call (.f aE) [(.c (.int .i64 0))],none⟩,bc 68 cB 66 67,oM 14 68] (.seq (cS [oM 69 13,oC 70 eS 69] (.cond (.t 70) (.seq (cS [oM 72 9,oM 73 12,bc 74 cK 72 73,oM 71 74,oE 75 71 0,oE 76 71 1,oM 15 75,oM 16 76] (cS [oM 77 16] (.cond (.t 77) (cS [oM 78 15,oM 79 14,bc 80 lI 78 79,oM 4 80,oB 5 true] .ret) .skip))) (cS [oM 82 9,oM 83 10,bc 84 eo 82 83,oM 81 84,oE 85 81 0,oE 86 81 1,oM 17 85,oM 18 86] (.seq (cS [oM 88 9,oM 89 9,oM 90 12,oM 91 17,⟨some 92,.call (.f aL) [(.t 89),(.t 90),(.t 91)],none⟩,bc 93 cK 88 92,oM 87 93,oE 94 87 0,oE 95 87 1,oM 19 94,oM 20 95] (cS [oM 96 20] (.cond (.t 96) (cS [oM 97 14,oM 98 19,bc 99 lI 97 98,oM 4 99,oB 5 true] .ret) .skip))) (cS [oZ 4,oB 5 false] .ret)))) .skip)) (cS [oM 100 9,oM 101 9,oM 102 12,oM 103 12,⟨some 104,.call (.f aL) [(.t 101),(.t 102),(.t 103)],none⟩,oM 105 9,oM 106 10,oM 107 9,oM 108 13,oM 109 13,⟨some 110,.call (.f aL) [(.t 107),(.t 108),(.t 109)],none⟩,⟨some 111,.call (.f aL) [(.t 105),(.t 106),(.t 110)],none⟩,⟨some 112,.call (.f mF) [(.t 100),(.t 104),(.t 111)],none⟩,oM 21 112] (cS [oM 114 9,oM 115 21,bc 116 cK 114 115,oM 113 116,oE 117 113 0,oE 118 113 1,oM 22 117,oM 23 118] (.seq (cS [oM 119 23,rr 120 119] (.cond (.t 120) (cS [oZ 4,oB 5 false] .ret) .skip)) (cS [oM 121 9,⟨some 122,.call (.f dN) [(.c (.int .i64 1)),(.c (.int .i64 2))],none⟩,bc 123 cB 121 122,oM 24 123] (.seq (cS [oI 25 0] (.block 0 (.loop (.seq (cS [oM 124 25,bd 125 .lss 124 2] (.cond (.t 125) .skip (.exit 0))) (.seq (.block 1 (.seq (cS [oM 129 9,oM 130 9,oM 131 24,oM 132 9,oM 133 12,oM 134 22,⟨some 135,.call (.f du) [(.t 132),(.t 133),(.t 134)],none⟩,⟨some 136,.call (.f aL) [(.t 130),(.t 131),(.t 135)],none⟩,bc 137 cK 129 136,oM 128 137,oE 138 128 0,oE 139 128 1,oM 26 138,oM 27 139] (cS [oM 140 27] (.cond (.t 140) (cS [oM 142 9,oM 143 26,bc 144 eo 142 143,oM 141 144,oE 145 141 0,oE 146 141 1,oM 28 145,oM 29 146] (cS [oM 147 26,oM 148 9,oM 149 24,oM 150 9,oM 151 13,oM 152 28,⟨some 153,.call (.f aL) [(.t 150),(.t 151),(.t 152)],none⟩,⟨some 154,.call (.f aL) [(.t 148),(.t 149),(.t 153)],none⟩,bc 155 lI 147 154,oM 4 155,oB 5 true] .ret)) .skip))) (cR [oM 156 9,oM 157 22,bc 158 cQ 156 157,oM 22 158]))) (cR [oM 126 25,bd 127 .add 126 1,oM 25 127])))))) (cS [oZ 4,oB 5 false] .ret)))))))))))))))⟩
def zl (cK dM cQ:Nat):ax:=⟨24,[(.tmp 4),(.tmp 5)],(cS [oZ 4,oB 5 false] (cS [oM 9 0,oM 10 1,bc 11 cK 9 10,oM 8 11,oE 12 8 0,oE 13 8 1,oM 6 12,oM 7 13] (.seq (cS [oM 14 7,rr 15 14] (.cond (.t 15) (cS [oZ 4,oB 5 false] .ret) .skip)) (.seq (cS [oM 16 0,oM 17 6,bc 18 dM 16 17,bd 19 .lss 18 0] (.cond (.t 19) (cR [oM 20 0,oM 21 6,bc 22 cQ 20 21,oM 6 22]) .skip)) (cS [oM 23 6,oM 4 23,oB 5 true] .ret)))))⟩
def we (jC dh wh:Nat):ax:=⟨22,[(.tmp 4),(.tmp 5),(.tmp 6)],(cS [oZ 4,oZ 5,oI 6 0] (.seq (cS [oM 7 0,oC 8 jC 7,rr 9 8,oM 10 9,gM 11 0 10 false,gM 12 1 10 false,⟨some 13,.call (.f dh) [(.t 11),(.t 12)],some (10,false)⟩,⟨some 14,.un .not (.t 13),some (10,false)⟩,sj 15 10 14] (.cond (.t 15) (cS [oZ 4,oZ 5,oI 6 1] .ret) .skip)) (cS [oM 16 0,oM 17 1,bc 18 wh 16 17,oE 19 18 0,oE 20 18 1,oE 21 18 2,oM 4 19,oM 5 20,oM 6 21] .ret)))⟩
def wi (dM zm zp:Nat):ax:=⟨37,[(.tmp 4),(.tmp 5),(.tmp 6)],(cS [oZ 4,oZ 5,oI 6 0] (.seq (cS [oM 10 0,oM 11 1,bc 12 dM 10 11,bd 13 .lss 12 0] (.cond (.t 13) (cS [oZ 4,oZ 5,oI 6 7] .ret) .skip)) (.seq (cS [oM 15 0,oM 16 1,bc 17 zm 15 16,oM 14 17,oE 18 14 0,oE 19 14 1,oM 7 18,oM 8 19] (cS [oM 20 8] (.cond (.t 20) (cS [oM 21 0,oM 22 7,oM 4 21,oM 5 22,oI 6 0] .ret) .skip))) (.seq (cS [oM 23 0,oN 24 23,bd 25 .geq 24 8] (.cond (.t 25) (cS [oZ 4,oZ 5,oI 6 3] .ret) .skip)) (cS [⟨some 26,.buildSl 1 0 .nils [],none⟩,oM 27 0,Bl 28 1 24 26 27,oM 29 1,⟨some 30,.buildSl 1 1 .nils [(0,(.t 29))],none⟩,Bl 31 1 24 28 30,oM 9 31] (cS [oM 32 9,oM 33 9,oM 34 0,oN 35 34,bc 36 zp 33 35,oM 4 32,oM 5 36,oI 6 0] .ret))))))⟩
def zr (qj a9 nI:Nat):ax:=⟨44,[(.cell 2 true 4),(.tmp 3)],(cS [oX 1 0,⟨some 2,.box (.c (.agg [(.bool false),.nils,(.bool false),.nils])),none⟩,oB 3 false] (.seq (cS [oF 8 0 1,oF 9 0 8,oL 10 1 9] (.cond (.t 10) (cS [⟨some 11,.build [(.bool false),.nils,(.bool false),.nils] [],none⟩,oS 4 2 11,oB 3 false] .ret) .skip)) (cS [oF 13 0 1,aF 14 2 13,oC 15 qj 14,oM 12 15,oE 16 12 0,oE 17 12 1,⟨some 4,.box (.c (.agg [(.bool false),.nils])),none⟩,oS 2 4 16,oM 5 17] (cS [oF 19 2 1,aF 20 2 19,oC 21 qj 20,oM 18 21,oE 22 18 0,oE 23 18 1,⟨some 6,.box (.c (.agg [(.bool false),.nils])),none⟩,oS 2 6 22,oM 7 23] (.seq (.seq (.reg (some [(2,4),(10,12)]) [aF 24 2 4,aF 25 2 4,bc 26 a9 24 25,oF 27 0 1,aF 28 2 27,bc 29 nI 26 28,rr 30 29,oM 31 30,sx 32 2 6 31 false,sx 33 2 6 31 false,⟨some 34,.call (.f a9) [(.t 32),(.t 33)],some (31,false)⟩,gF 35 2 1 31 false,sx 36 2 35 31 false,⟨some 37,.call (.f nI) [(.t 34),(.t 36)],some (31,false)⟩,⟨some 38,.un .not (.t 37),some (31,false)⟩,sj 39 31 38]) (.cond (.t 39) (cS [⟨some 40,.build [(.bool false),.nils,(.bool false),.nils] [],none⟩,oS 4 2 40,oB 3 false] .ret) .skip)) (cS [aF 41 2 4,aF 42 2 6,⟨some 43,.build [(.bool false),.nils,(.bool false),.nils] [(0,(2,(.t 41))),(2,(2,(.t 42)))],none⟩,oS 4 2 43,oB 3 true] .ret))))))⟩
def qk (bI zt aB fU cW aT:Nat):ax:=⟨63,[(.cell 2 true 2),(.tmp 3)],(cS [oX 1 0,⟨some 2,.box (.c (.agg [(.bool false),.nils])),none⟩,oI 3 0] (cS [aF 7 2 1,oC 8 bI 7,oS 2 1 8] (.seq (cS [oF 9 0 1,oL 10 1 9] (.cond (.t 10) (cS [⟨some 11,.build [(.bool false),.nils] [],none⟩,oS 2 2 11,oI 3 7] .ret) .skip)) (cS [aF 12 2 1,oC 13 zt 12,bd 14 .add 13 1,bd 15 .quo 14 2,oM 4 15] (cS [oM 16 4,bd 17 .quo 16 32,bd 18 .add 17 1,⟨some 19,.mksl 1 4 (.int .u32 0) (.t 18) (.t 18),none⟩,oM 5 19] (.seq (cS [oM 20 4,bd 21 .sub 20 1,oM 6 21] (.block 0 (.loop (.seq (cS [oM 22 6,bd 23 .geq 22 0] (.cond (.t 23) .skip (.exit 0))) (.seq (.block 1 (.seq (.reg (some []) [oM 26 5,oM 27 6,bd 28 .quo 27 32,oM 29 5,oM 30 6,bd 31 .quo 30 32,oA 32 1 29 31,oL 33 1 32,oM 34 6,bd 35 .rem 34 32,⟨some 36,.bin .shl .int (.c (.int .u32 1)) (.t 35),none⟩,oT 37 .or 33 36,oA 38 1 26 28,oS 1 38 37]) (.seq (.reg (some [(1,6),(3,6),(4,6)]) [oM 39 5,oC 40 aB 39,oM 41 5,oC 42 aB 41,bc 43 fU 40 42,oF 44 1 1,oL 45 1 44,bc 46 cW 43 45,bd 47 .gtr 46 0]) (.cond (.t 47) (.reg (some []) [oM 48 5,oM 49 6,bd 50 .quo 49 32,oM 51 5,oM 52 6,bd 53 .quo 52 32,oA 54 1 51 53,oL 55 1 54,oM 56 6,bd 57 .rem 56 32,⟨some 58,.bin .shl .int (.c (.int .u32 1)) (.t 57),none⟩,oT 59 .andNot 55 58,oA 60 1 48 50,oS 1 60 59]) .skip)))) (cR [oM 24 6,bd 25 .sub 24 1,oM 6 25])))))) (cS [oM 61 5,⟨some 62,.call (.f aT) [(.c (.bool false)),(.t 61)],none⟩,oS 2 2 62,oI 3 0] .ret)))))))⟩
def ql (aB jY:Nat):ax:=⟨7,[(.tmp 2)],(cS [oX 1 0,oI 2 0] (cS [oF 3 1 1,oL 4 1 3,oC 5 aB 4,oC 6 jY 5,oM 2 6] .ret))⟩
end Go.VL
end

section
set_option maxRecDepth 100000
namespace Go.VL
def AO (eo er:Nat):ax:=⟨28,[(.cell 4 true 2),(.tmp 5)],(cS [oX 2 0,oX 3 1,⟨some 4,.box (.c (.agg [.nils,.nils])),none⟩,oI 5 0] (cS [oF 9 0 3,oL 10 1 9,oF 11 1 3,oL 12 1 11,bc 13 eo 10 12,oM 8 13,oE 14 8 0,oE 15 8 1,oM 6 14,oM 7 15] (.seq (cS [oM 16 7,bd 17 .neq 16 0] (.cond (.t 17) (cS [⟨some 18,.build [.nils,.nils] [],none⟩,oM 19 7,oS 2 4 18,oM 5 19] .ret) .skip)) (cS [aF 20 2 2,oF 21 0 3,oL 22 1 21,oM 23 6,⟨some 24,.build [.nils,.nils] [(0,(1,(.t 22))),(1,(1,(.t 23)))],none⟩,bc 25 er 20 24,oE 26 25 0,oE 27 25 1,oS 2 4 26,oM 5 27] .ret))))⟩
def zu (wj:Nat):ax:=⟨23,[(.cell 2 true 2),(.tmp 3)],(cS [oX 1 0,⟨some 2,.box (.c (.agg [.nils,.nils])),none⟩,oI 3 0] (cS [oF 8 0 1,oL 9 1 8,oF 10 1 1,oL 11 1 10,bc 12 wj 9 11,oM 7 12,oE 13 7 0,oE 14 7 1,oE 15 7 2,oM 4 13,oM 5 14,oM 6 15] (.seq (cS [oM 16 6,bd 17 .neq 16 0] (.cond (.t 17) (cS [⟨some 18,.build [.nils,.nils] [],none⟩,oM 19 6,oS 2 2 18,oM 3 19] .ret) .skip)) (cS [oM 20 4,oM 21 5,⟨some 22,.build [.nils,.nils] [(0,(1,(.t 20))),(1,(1,(.t 21)))],none⟩,oS 2 2 22,oI 3 0] .ret))))⟩
def tM (gI cy lG hZ mG m7 cY cG gj tN tO gr:Nat):ax:=⟨113,[(.cell 4 true 14),(.tmp 5)],(cS [oX 2 0,oX 3 1,⟨some 4,.box (.c (.agg [(.bool false),.nils,.nils,.nils,.nils,.nils,.nils,.nils,.nils,.nils,.nils,.nils,.nils,(.bool false)])),none⟩,oI 5 0] (cS [⟨some 12,.build [(.int .i64 0)] [],none⟩,oX 13 12,oM 6 13] (cS [aF 14 4 3,oC 15 gI 14,⟨some 7,.box (.c (.agg [.nils,.nils])),none⟩,oS 2 7 15] (.seq (cS [oF 16 0 2,oL 17 1 16,rr 18 17] (.cond (.t 18) (cS [oM 19 6,oF 20 5 2,aF 21 4 20,oF 22 1 2,aF 23 4 22,⟨some 24,.call (.f cy) [(.t 19),(.t 21),(.t 23)],none⟩,oC 25 lG 24,⟨some 8,.box (.c (.agg [.nils,.nils,.nils,.nils])),none⟩,oS 4 8 25] (.seq (.reg (some [(1,7),(3,7),(1,8),(3,8),(1,9)]) [oM 26 6,aF 27 4 8,oM 28 6,aF 29 2 7,oM 30 6,oM 31 6,aF 32 4 8,bc 33 hZ 31 32,bc 34 mG 30 33,⟨some 35,.call (.f m7) [(.t 28),(.t 29),(.t 34)],none⟩,⟨some 36,.call (.f cY) [(.t 26),(.t 27),(.t 35)],none⟩,oS 4 8 36]) (.seq (.reg (some [(4,7),(4,8)]) [oM 37 6,oF 38 1 2,aF 39 4 38,aF 40 4 8,⟨some 41,.call (.f cG) [(.t 37),(.t 39),(.t 40)],none⟩,oM 42 6,oF 43 5 2,aF 44 4 43,aF 45 4 8,⟨some 46,.call (.f cG) [(.t 42),(.t 44),(.t 45)],none⟩,oF 47 1 2,oS 4 47 41,oF 48 5 2,oS 4 48 46]) (.seq (.reg (some [(4,5)]) [aF 49 14 2,oM 50 6,Hu 51 50,oF 52 0 51,oL 53 1 52,oS 14 4 49,oM 5 53]) .ret)))) .skip)) (cS [oM 54 6,oM 55 6,oF 56 9 2,aF 57 4 56,oF 58 1 2,aF 59 4 58,⟨some 60,.call (.f gj) [(.t 55),(.t 57),(.t 59)],none⟩,bc 61 mG 54 60,⟨some 9,.box (.c (.agg [.nils,.nils])),none⟩,oS 2 9 61] (cS [oM 62 6,aF 63 2 9,aF 64 2 7,⟨some 65,.call (.f tN) [(.t 62),(.t 63),(.t 64)],none⟩,⟨some 10,.box (.c (.agg [.nils,.nils])),none⟩,oS 2 10 65] (.seq (cS [oF 66 13 2,oL 67 1 66] (.cond (.t 67) (cR [oM 68 6,aF 69 2 9,aF 70 2 7,⟨some 71,.call (.f tO) [(.t 68),(.t 69),(.t 70)],none⟩,oS 2 10 71]) .skip)) (.seq (cS [aF 72 2 10,oC 73 gr 72,bd 74 .leq 73 0] (.cond (.t 74) (cS [⟨some 75,.build [(.bool false),.nils,.nils,.nils,.nils,.nils,.nils,.nils,.nils,.nils,.nils,.nils,.nils,(.bool false)] [],none⟩,oS 14 4 75,oI 5 6] .ret) .skip)) (cS [oM 76 6,aF 77 2 10,aF 78 2 9,⟨some 79,.call (.f m7) [(.t 76),(.t 77),(.t 78)],none⟩,⟨some 11,.box (.c (.agg [.nils,.nils])),none⟩,oS 2 11 79] (.seq (.reg (some [(2,9),(9,10),(2,11),(9,15),(11,15),(12,15),(9,19),(11,19),(12,19),(9,21),(11,21),(12,21),(15,22),(9,23),(11,23),(12,23),(22,23),(15,24)]) [oM 80 6,oF 81 9 2,aF 82 4 81,oM 83 6,oM 84 6,oF 85 1 2,aF 86 4 85,oF 87 9 2,aF 88 4 87,⟨some 89,.call (.f cy) [(.t 84),(.t 86),(.t 88)],none⟩,aF 90 2 11,⟨some 91,.call (.f cY) [(.t 83),(.t 89),(.t 90)],none⟩,⟨some 92,.call (.f cG) [(.t 80),(.t 82),(.t 91)],none⟩,oM 93 6,oF 94 9 2,aF 95 4 94,oM 96 6,oM 97 6,oF 98 5 2,aF 99 4 98,oF 100 9 2,aF 101 4 100,⟨some 102,.call (.f cy) [(.t 97),(.t 99),(.t 101)],none⟩,aF 103 2 11,⟨some 104,.call (.f cY) [(.t 96),(.t 102),(.t 103)],none⟩,⟨some 105,.call (.f cG) [(.t 93),(.t 95),(.t 104)],none⟩,oF 106 1 2,oS 4 106 92,oF 107 5 2,oS 4 107 105]) (.seq (.reg (some [(4,5)]) [aF 108 14 2,oM 109 6,Hu 110 109,oF 111 0 110,oL 112 1 111,oS 14 4 108,oM 5 112]) .ret)))))))))))⟩
def wm (wo lE gv tP xO:Nat):ax:=⟨66,[(.tmp 8),(.tmp 9)],(cS [oX 7 3,oZ 8,oI 9 0] (.seq (cS [oM 15 0,oM 16 1,oM 17 2,⟨some 18,.call (.f wo) [(.t 15),(.t 16),(.t 17)],none⟩,oM 10 18] (cS [oM 19 10,bd 20 .neq 19 0] (.cond (.t 20) (cS [oM 21 10,oZ 8,oM 9 21] .ret) .skip))) (.seq (cS [aF 22 4 7,oC 23 lE 22,bd 24 .eql 23 0] (.cond (.t 24) (cS [oZ 8,oI 9 6] .ret) .skip)) (cS [oZ 11] (.seq (cS [oI 12 0] (.block 0 (.loop (.seq (cS [oM 25 12,oM 26 2,oN 27 26,oT 28 .lss 25 27] (.cond (.t 28) .skip (.exit 0))) (.seq (.block 1 (.seq (.reg (some [(6,10),(5,15),(6,15),(9,15),(10,15),(11,15)]) [oM 32 1,oM 33 1,oM 34 2,oM 35 12,oA 36 1 34 35,oL 37 1 36,bc 38 gv 33 37,oA 39 15 32 38,oF 40 1 39,aF 41 14 40,aF 42 4 7,bc 43 tP 41 42,oM 31 43,oE 44 31 0,oE 45 31 1,⟨some 13,.box (.c (.agg [(.bool false),.nils,.nils,.nils,.nils,.nils,.nils,.nils,.nils,.nils,.nils,.nils,.nils,(.bool false)])),none⟩,oS 14 13 44,oM 14 45]) (.seq (cS [oM 46 14,bd 47 .neq 46 0] (.cond (.t 47) (cS [oM 48 14,oZ 8,oM 9 48] .ret) .skip)) (.reg (some []) [oM 49 11,oM 50 0,⟨some 51,.bin .add .str (.t 50) (.c (.str [47])),none⟩,oM 52 2,oM 53 12,oA 54 1 52 53,oL 55 1 54,⟨some 56,.bin .add .str (.t 51) (.t 55),none⟩,aF 57 14 13,⟨some 58,.build [(.str []),(.bool false),.nils,.nils,.nils,.nils,.nils,.nils,.nils,.nils,.nils,.nils,.nils,.nils,(.bool false)] [(0,(1,(.t 56))),(1,(14,(.t 57)))],none⟩,⟨some 59,.buildSl 15 1 (.agg [(.str []),(.bool false),.nils,.nils,.nils,.nils,.nils,.nils,.nils,.nils,.nils,.nils,.nils,.nils,(.bool false)]) [(0,(.t 58))],none⟩,Bl 60 15 320 49 59,oM 11 60])))) (cR [oM 29 12,bd 30 .add 29 1,oM 12 30])))))) (cS [oM 61 1,oM 62 11,bc 63 xO 61 62,oE 64 63 0,oE 65 63 1,oM 8 64,oM 9 65] .ret))))))⟩
def qI (xP zw xQ eX rj qF wq xR:Nat):ax:=⟨73,[(.tmp 6)],(cS [oX 5 2,oB 6 false] (.seq (cS [⟨some 13,.call (.f xP) [],none⟩,rr 14 13] (.cond (.t 14) (cS [oB 6 false] .ret) .skip)) (cS [oM 16 0,oC 17 zw 16,oM 15 17,oE 18 15 0,oE 19 15 1,oM 7 18,oM 8 19] (.seq (cS [oM 20 8,rr 21 20,oM 22 21,sx 23 4 5 22 false,⟨some 24,.call (.f xQ) [.t 23],some (22,false)⟩,⟨some 25,.un .not (.t 24),some (22,false)⟩,sj 26 22 25,oM 27 26,gM 28 1 27 false,gN 29 28 27 false,⟨some 30,.bin .eql .int (.t 29) (.c (.int .i64 0)),some (27,false)⟩,sj 31 27 30,oM 32 31,gM 33 1 32 false,gN 34 33 32 false,⟨some 35,.bin .gtr .int (.t 34) (.c (.int .i64 6)),some (32,false)⟩,sj 36 32 35,oM 37 36,gM 38 1 37 false,⟨some 39,.iaddrS 1 (.t 38) (.c (.int .i64 0)),some (37,false)⟩,gL 40 1 39 37 false,⟨some 41,.len true (.t 40),some (37,false)⟩,⟨some 42,.bin .gtr .int (.t 41) (.c (.int .i64 40)),some (37,false)⟩,sj 43 37 42] (.cond (.t 43) (cS [oB 6 true] .ret) .skip)) (.seq (.reg (some [(2,4),(4,6),(2,7),(4,8),(7,8)]) [oM 45 1,⟨some 46,.iaddrS 1 (.t 45) (.c (.int .i64 0)),none⟩,oL 47 1 46,oM 48 7,oC 49 eX 48,oM 50 1,⟨some 51,.slice 1 (.t 50) (some (.c (.int .i64 1))) none none,none⟩,oC 52 rj 51,aF 53 4 5,⟨some 54,.call (.f qF) [(.t 47),(.t 49),(.t 52),(.t 53)],none⟩,oM 44 54,oE 55 44 0,oE 56 44 1,oM 9 55,oM 10 56]) (.seq (.reg (some []) [oM 58 1,⟨some 59,.iaddrS 1 (.t 58) (.c (.int .i64 0)),none⟩,oL 60 1 59,oM 61 7,oM 62 1,⟨some 63,.slice 1 (.t 62) (some (.c (.int .i64 1))) none none,none⟩,aF 64 4 5,⟨some 65,.call (.f wq) [(.t 60),(.t 61),(.t 63),(.t 64)],none⟩,oM 57 65,oE 66 57 0,oE 67 57 1,oM 11 66,oM 12 67]) (cS [oM 68 9,oM 69 10,oM 70 11,oM 71 12,⟨some 72,.call (.f xR) [(.t 68),(.t 69),(.t 70),(.t 71)],none⟩,oM 6 72] .ret)))))))⟩
def s6 (zx bX:Nat):ax:=⟨11,[(.cell 4 true 2)],(cS [oX 3 1,⟨some 4,.box (.c (.agg [.nils,.nils])),none⟩] (cS [oM 5 0,aF 6 2 3,oC 7 zx 6,oE 8 7 0,oE 9 7 1,⟨some 10,.call (.f bX) [(.t 5),(.t 8),(.t 9)],none⟩,oS 2 4 10] .ret))⟩
def tQ (AP bX:Nat):ax:=⟨14,[(.cell 6 true 2)],(cS [oX 4 1,oX 5 2,⟨some 6,.box (.c (.agg [.nils,.nils])),none⟩] (cS [oM 7 0,aF 8 2 4,aF 9 2 5,bc 10 AP 8 9,oE 11 10 0,oE 12 10 1,⟨some 13,.call (.f bX) [(.t 7),(.t 11),(.t 12)],none⟩,oS 2 6 13] .ret))⟩
def tR (mA bX:Nat):ax:=⟨14,[(.cell 6 true 2)],(cS [oX 4 1,oX 5 2,⟨some 6,.box (.c (.agg [.nils,.nils])),none⟩] (cS [oM 7 0,aF 8 2 4,aF 9 2 5,bc 10 mA 8 9,oE 11 10 0,oE 12 10 1,⟨some 13,.call (.f bX) [(.t 7),(.t 11),(.t 12)],none⟩,oS 2 6 13] .ret))⟩
def tT (dv bX:Nat):ax:=⟨14,[(.cell 6 true 2)],(cS [oX 4 1,oX 5 2,⟨some 6,.box (.c (.agg [.nils,.nils])),none⟩] (cS [oM 7 0,aF 8 2 4,aF 9 2 5,bc 10 dv 8 9,oE 11 10 0,oE 12 10 1,⟨some 13,.call (.f bX) [(.t 7),(.t 11),(.t 12)],none⟩,oS 2 6 13] .ret))⟩
def xS (AQ:Nat):ax:=⟨5,[(.tmp 2)],(cS [oX 1 0,oB 2 false] (cS [aF 3 4 1,⟨some 4,.call (.f AQ) [(.t 3),(.c (.int .i64 2))],none⟩,oM 2 4] .ret))⟩
def AR (kF:Nat):ax:=⟨23,[(.tmp 4)],(cS [oX 2 0,oB 4 false] (cS [oF 5 0 2,oF 6 1 5,oL 7 1 6,oN 8 7,oM 9 1,oT 10 .leq 8 9,oM 11 10,gF 12 2 2 11 true,gF 13 1 12 11 true,gL 14 1 13 11 true,gN 15 14 11 true,gM 16 1 11 true,gT 17 .leq 15 16 11 true,pg 18 11 17,oM 19 18,sx 20 4 2 19 true,⟨some 21,.call (.f kF) [.t 20],some (19,true)⟩,pg 22 19 21,oM 4 22] .ret))⟩
end Go.VL
end

section
set_option maxRecDepth 100000
namespace Go.Proofs.YtndoagbiakehnaaGreat
open Go.VL Go.Proofs
theorem Cy:Has Tryz.prog 136 (mS):=⟨_,Tryz.func136,by kernel_rfl⟩
theorem DF:Has Tryz.prog 189 (nW):=⟨_,Tryz.func189,by kernel_rfl⟩
theorem ER:Has Tryz.prog 138 (sy 136 189):=⟨_,Tryz.func138,by kernel_rfl⟩
theorem HT:Has Tryz.prog 137 (xj):=⟨_,Tryz.func137,by kernel_rfl⟩
theorem ES:Has Tryz.prog 72 (l3 136 137 138):=⟨_,Tryz.func72,by kernel_rfl⟩
theorem qh:Has Tryz.prog 21 (eO):=⟨_,Tryz.func21,by kernel_rfl⟩
theorem tU:Has Tryz.prog 95 (fB 164):=⟨_,Tryz.func95,by kernel_rfl⟩
theorem wu:Has Tryz.prog 164 (gp 210 211):=⟨_,Tryz.func164,by kernel_rfl⟩
theorem tV:Has Tryz.prog 210 (vN):=⟨_,Tryz.func210,by kernel_rfl⟩
theorem u6:Has Tryz.prog 211 (xl):=⟨_,Tryz.func211,by kernel_rfl⟩
theorem ET:Has Tryz.prog 141 (gQ):=⟨_,Tryz.func141,by kernel_rfl⟩
theorem Cz:Has Tryz.prog 260 (mU 141):=⟨_,Tryz.func260,by kernel_rfl⟩
theorem AU:Has Tryz.prog 261 (ku 141):=⟨_,Tryz.func261,by kernel_rfl⟩
theorem BM:Has Tryz.prog 281 (pj 280 299):=⟨_,Tryz.func281,by kernel_rfl⟩
theorem EU:Has Tryz.prog 292 (sC):=⟨_,Tryz.func292,by kernel_rfl⟩
theorem DG:Has Tryz.prog 293 (ru 141):=⟨_,Tryz.func293,by kernel_rfl⟩
theorem DI:Has Tryz.prog 282 (ry 141):=⟨_,Tryz.func282,by kernel_rfl⟩
theorem zy:Has Tryz.prog 311 (jN):=⟨_,Tryz.func311,by kernel_rfl⟩
theorem iz:Has Tryz.prog 314 (gR):=⟨_,Tryz.func314,by kernel_rfl⟩
theorem xT:Has Tryz.prog 309 (l4 141 261):=⟨_,Tryz.func309,by kernel_rfl⟩
theorem CA:Has Tryz.prog 300 (qx 281 204 301 261 309 310 311 141 312 313 314):=⟨_,Tryz.func300,by kernel_rfl⟩
theorem AW:Has Tryz.prog 312 (kv):=⟨_,Tryz.func312,by kernel_rfl⟩
theorem BN:Has Tryz.prog 313 (lM):=⟨_,Tryz.func313,by kernel_rfl⟩
theorem DJ:Has Tryz.prog 285 (rz):=⟨_,Tryz.func285,by kernel_rfl⟩
theorem EW:Has Tryz.prog 76 (sE 141):=⟨_,Tryz.func76,by kernel_rfl⟩
theorem Gf:Has Tryz.prog 256 (uO 76 280 141 281):=⟨_,Tryz.func256,by kernel_rfl⟩
theorem Gg:Has Tryz.prog 265 (uP 141 204 260):=⟨_,Tryz.func265,by kernel_rfl⟩
theorem Gh:Has Tryz.prog 257 (uQ 141 282 260):=⟨_,Tryz.func257,by kernel_rfl⟩
theorem CB:Has Tryz.prog 305 (qy 141 300 292 293 260):=⟨_,Tryz.func305,by kernel_rfl⟩
theorem Gi:Has Tryz.prog 286 (uR 141 300 204 260 301 261):=⟨_,Tryz.func286,by kernel_rfl⟩
theorem BO:Has Tryz.prog 232 (pn 261 260):=⟨_,Tryz.func232,by kernel_rfl⟩
theorem EX:Has Tryz.prog 233 (sG 232):=⟨_,Tryz.func233,by kernel_rfl⟩
theorem CD:Has Tryz.prog 273 (qz):=⟨_,Tryz.func273,by kernel_rfl⟩
theorem EY:Has Tryz.prog 294 (sH 273 305):=⟨_,Tryz.func294,by kernel_rfl⟩
theorem BP:Has Tryz.prog 275 (pt 286 265 294):=⟨_,Tryz.func275,by kernel_rfl⟩
theorem CE:Has Tryz.prog 264 (jW 285 76 286 273):=⟨_,Tryz.func264,by kernel_rfl⟩
theorem DK:Has Tryz.prog 32 (nY 76):=⟨_,Tryz.func32,by kernel_rfl⟩
theorem AX:Has Tryz.prog 198 (oa 232 233):=⟨_,Tryz.func198,by kernel_rfl⟩
theorem EZ:Has Tryz.prog 268 (pw 273 257 233 275):=⟨_,Tryz.func268,by kernel_rfl⟩
theorem jO:Has Tryz.prog 318 (px):=⟨_,Tryz.func318,by kernel_rfl⟩
theorem rH:Has Tryz.prog 310 (iP 318):=⟨_,Tryz.func310,by kernel_rfl⟩
theorem DL:Has Tryz.prog 298 (rA):=⟨_,Tryz.func298,by kernel_rfl⟩
theorem AY:Has Tryz.prog 308 (od):=⟨_,Tryz.func308,by kernel_rfl⟩
theorem BQ:Has Tryz.prog 280 (pz 298):=⟨_,Tryz.func280,by kernel_rfl⟩
theorem xU:Has Tryz.prog 299 (l8 308):=⟨_,Tryz.func299,by kernel_rfl⟩
theorem qi:Has Tryz.prog 204 (dm):=⟨_,Tryz.func204,by kernel_rfl⟩
theorem oz:Has Tryz.prog 128 (gq):=⟨_,Tryz.func128,by kernel_rfl⟩
theorem m8:Has Tryz.prog 126 (gX 128):=⟨_,Tryz.func126,by kernel_rfl⟩
theorem wv:Has Tryz.prog 125 (lx 126):=⟨_,Tryz.func125,by kernel_rfl⟩
theorem u7:Has Tryz.prog 135 (kx 128):=⟨_,Tryz.func135,by kernel_rfl⟩
theorem u9:Has Tryz.prog 132 (xm 128):=⟨_,Tryz.func132,by kernel_rfl⟩
theorem s7:Has Tryz.prog 66 (jx 132 126):=⟨_,Tryz.func66,by kernel_rfl⟩
theorem ve:Has Tryz.prog 178 (ky):=⟨_,Tryz.func178,by kernel_rfl⟩
theorem s9:Has Tryz.prog 177 (jy):=⟨_,Tryz.func177,by kernel_rfl⟩
theorem wz:Has Tryz.prog 222 (ly 128):=⟨_,Tryz.func222,by kernel_rfl⟩
theorem nJ:Has Tryz.prog 183 (eD 128):=⟨_,Tryz.func183,by kernel_rfl⟩
theorem jD:Has Tryz.prog 127 (dz 128):=⟨_,Tryz.func127,by kernel_rfl⟩
theorem zz:Has Tryz.prog 179 (np 128):=⟨_,Tryz.func179,by kernel_rfl⟩
theorem m9:Has Tryz.prog 180 (fC):=⟨_,Tryz.func180,by kernel_rfl⟩
theorem ta:Has Tryz.prog 181 (gH):=⟨_,Tryz.func181,by kernel_rfl⟩
theorem wA:Has Tryz.prog 184 (lz 128):=⟨_,Tryz.func184,by kernel_rfl⟩
theorem vg:Has Tryz.prog 182 (iu 127 128 177 183):=⟨_,Tryz.func182,by kernel_rfl⟩
theorem tW:Has Tryz.prog 129 (jX 177 178 132 179 180 181 128 182 183 184):=⟨_,Tryz.func129,by kernel_rfl⟩
theorem wB:Has Tryz.prog 96 (lA 125):=⟨_,Tryz.func96,by kernel_rfl⟩
theorem xV:Has Tryz.prog 213 (l9 126):=⟨_,Tryz.func213,by kernel_rfl⟩
theorem xW:Has Tryz.prog 186 (ma 125 222 126 177 183):=⟨_,Tryz.func186,by kernel_rfl⟩
theorem xX:Has Tryz.prog 185 (mb 213 186):=⟨_,Tryz.func185,by kernel_rfl⟩
theorem xY:Has Tryz.prog 60 (mc 125 127 126):=⟨_,Tryz.func60,by kernel_rfl⟩
theorem tX:Has Tryz.prog 130 (jZ 125 129 126 60 185 96 66 186):=⟨_,Tryz.func130,by kernel_rfl⟩
theorem xZ:Has Tryz.prog 61 (me 128 129 126):=⟨_,Tryz.func61,by kernel_rfl⟩
theorem x3:Has Tryz.prog 62 (mf 130):=⟨_,Tryz.func62,by kernel_rfl⟩
theorem tc:Has Tryz.prog 24 (jz 66):=⟨_,Tryz.func24,by kernel_rfl⟩
theorem x4:Has Tryz.prog 59 (mg):=⟨_,Tryz.func59,by kernel_rfl⟩
theorem vk:Has Tryz.prog 71 (xp 135 96 61 59):=⟨_,Tryz.func71,by kernel_rfl⟩
theorem td:Has Tryz.prog 296 (nC):=⟨_,Tryz.func296,by kernel_rfl⟩
theorem wC:Has Tryz.prog 39 (yP 96):=⟨_,Tryz.func39,by kernel_rfl⟩
theorem x5:Has Tryz.prog 17 (mh 24 59 60 61 62):=⟨_,Tryz.func17,by kernel_rfl⟩
theorem Gj:Has Tryz.prog 274 (nD 141 292 260 281 293):=⟨_,Tryz.func274,by kernel_rfl⟩
theorem BR:Has Tryz.prog 291 (pC):=⟨_,Tryz.func291,by kernel_rfl⟩
theorem E4:Has Tryz.prog 227 (sJ 32 257 256):=⟨_,Tryz.func227,by kernel_rfl⟩
theorem E5:Has Tryz.prog 244 (sK 273 274 233 257 275):=⟨_,Tryz.func244,by kernel_rfl⟩
theorem E6:Has Tryz.prog 237 (sL 265):=⟨_,Tryz.func237,by kernel_rfl⟩
theorem E7:Has Tryz.prog 271 (sM 291 257 275):=⟨_,Tryz.func271,by kernel_rfl⟩
theorem rS:Has Tryz.prog 263 (Dv 264):=⟨_,Tryz.func263,by kernel_rfl⟩
theorem cZ:Has Tryz.prog 284 (nE):=⟨_,Tryz.func284,by kernel_rfl⟩
theorem cJ:Has Tryz.prog 262 (mi 284):=⟨_,Tryz.func262,by kernel_rfl⟩
theorem um:Has Tryz.prog 236 (F5 262 263):=⟨_,Tryz.func236,by kernel_rfl⟩
theorem ny:Has Tryz.prog 235 (Dx 236):=⟨_,Tryz.func235,by kernel_rfl⟩
theorem qJ:Has Tryz.prog 202 (Hw 235 236):=⟨_,Tryz.func202,by kernel_rfl⟩
theorem qK:Has Tryz.prog 208 (Hx 202 236):=⟨_,Tryz.func208,by kernel_rfl⟩
theorem nK:Has Tryz.prog 209 (zX 244):=⟨_,Tryz.func209,by kernel_rfl⟩
theorem Cb:Has Tryz.prog 203 (zY 237):=⟨_,Tryz.func203,by kernel_rfl⟩
theorem Cc:Has Tryz.prog 155 (Nr 208 209):=⟨_,Tryz.func155,by kernel_rfl⟩
theorem Ce:Has Tryz.prog 157 (zZ 208 203 209):=⟨_,Tryz.func157,by kernel_rfl⟩
theorem Jk:Has Tryz.prog 148 (z5 202 203):=⟨_,Tryz.func148,by kernel_rfl⟩
theorem lq:Has Tryz.prog 242 (Ns 268 259 267 269 270 242 209):=⟨_,Tryz.func242,by kernel_rfl⟩
theorem vn:Has Tryz.prog 206 (Nt 208 242):=⟨_,Tryz.func206,by kernel_rfl⟩
theorem rI:Has Tryz.prog 267 (qZ 198):=⟨_,Tryz.func267,by kernel_rfl⟩
theorem uo:Has Tryz.prog 258 (rB 235 264 267):=⟨_,Tryz.func258,by kernel_rfl⟩
theorem pK:Has Tryz.prog 243 (rC 198 271 269 272 243 270 242 203):=⟨_,Tryz.func243,by kernel_rfl⟩
theorem Cf:Has Tryz.prog 207 (z6 202 243):=⟨_,Tryz.func207,by kernel_rfl⟩
theorem CF:Has Tryz.prog 149 (EG 204):=⟨_,Tryz.func149,by kernel_rfl⟩
theorem CG:Has Tryz.prog 82 (EH 149):=⟨_,Tryz.func82,by kernel_rfl⟩
theorem im:Has Tryz.prog 201 (pE 149):=⟨_,Tryz.func201,by kernel_rfl⟩
theorem lN:Has Tryz.prog 147 (yx 201):=⟨_,Tryz.func147,by kernel_rfl⟩
theorem nL:Has Tryz.prog 226 (kz 227):=⟨_,Tryz.func226,by kernel_rfl⟩
theorem pL:Has Tryz.prog 192 (mn 225 226):=⟨_,Tryz.func192,by kernel_rfl⟩
theorem dF:Has Tryz.prog 225 (cx):=⟨_,Tryz.func225,by kernel_rfl⟩
theorem b6:Has Tryz.prog 224 (gU):=⟨_,Tryz.func224,by kernel_rfl⟩
theorem lO:Has Tryz.prog 191 (F6 224 192):=⟨_,Tryz.func191,by kernel_rfl⟩
theorem dG:Has Tryz.prog 231 (da):=⟨_,Tryz.func231,by kernel_rfl⟩
theorem te:Has Tryz.prog 197 (La 231 198):=⟨_,Tryz.func197,by kernel_rfl⟩
theorem lP:Has Tryz.prog 228 (F7 191 229):=⟨_,Tryz.func228,by kernel_rfl⟩
theorem n4:Has Tryz.prog 193 (Jg 228 191 197 229 230 147):=⟨_,Tryz.func193,by kernel_rfl⟩
theorem iS:Has Tryz.prog 154 (qD 193):=⟨_,Tryz.func154,by kernel_rfl⟩
theorem pM:Has Tryz.prog 86 (Lc 154 155):=⟨_,Tryz.func86,by kernel_rfl⟩
theorem HU:Has Tryz.prog 88 (xt 154 157):=⟨_,Tryz.func88,by kernel_rfl⟩
theorem pN:Has Tryz.prog 152 (Ld 154 206):=⟨_,Tryz.func152,by kernel_rfl⟩
theorem HV:Has Tryz.prog 81 (xu 147 148):=⟨_,Tryz.func81,by kernel_rfl⟩
theorem mH:Has Tryz.prog 153 (xv 207 152):=⟨_,Tryz.func153,by kernel_rfl⟩
theorem yG:Has Tryz.prog 80 (uX 146):=⟨_,Tryz.func80,by kernel_rfl⟩
theorem E8:Has Tryz.prog 140 (sN 191 192 193 194 195 197 196):=⟨_,Tryz.func140,by kernel_rfl⟩
theorem Cg:Has Tryz.prog 199 (z8 202 234):=⟨_,Tryz.func199,by kernel_rfl⟩
theorem Ch:Has Tryz.prog 234 (z9 198 258 202 200):=⟨_,Tryz.func234,by kernel_rfl⟩
theorem j7:Has Tryz.prog 200 (xw 32 200 206 157):=⟨_,Tryz.func200,by kernel_rfl⟩
theorem Ci:Has Tryz.prog 146 (Aa 199 200):=⟨_,Tryz.func146,by kernel_rfl⟩
theorem jf:Has Tryz.prog 156 (uY):=⟨_,Tryz.func156,by kernel_rfl⟩
theorem AZ:Has Tryz.prog 158 (Le 156 86):=⟨_,Tryz.func158,by kernel_rfl⟩
theorem A1:Has Tryz.prog 143 (xx 156 88):=⟨_,Tryz.func143,by kernel_rfl⟩
theorem wD:Has Tryz.prog 159 (HE 156 152):=⟨_,Tryz.func159,by kernel_rfl⟩
theorem E9:Has Tryz.prog 75 (Ab 140):=⟨_,Tryz.func75,by kernel_rfl⟩
theorem x6:Has Tryz.prog 307 (Ad 185 96):=⟨_,Tryz.func307,by kernel_rfl⟩
theorem wE:Has Tryz.prog 223 (lB 61 96 213 62):=⟨_,Tryz.func223,by kernel_rfl⟩
theorem wF:Has Tryz.prog 188 (lC 24 66 223):=⟨_,Tryz.func188,by kernel_rfl⟩
theorem x7:Has Tryz.prog 221 (mq 59 186 61 60 62):=⟨_,Tryz.func221,by kernel_rfl⟩
theorem x8:Has Tryz.prog 167 (mr 213):=⟨_,Tryz.func167,by kernel_rfl⟩
theorem pO:Has Tryz.prog 217 (mw 213):=⟨_,Tryz.func217,by kernel_rfl⟩
theorem x9:Has Tryz.prog 297 (Ae 60 307):=⟨_,Tryz.func297,by kernel_rfl⟩
theorem nM:Has Tryz.prog 249 (xy 71):=⟨_,Tryz.func249,by kernel_rfl⟩
theorem jE:Has Tryz.prog 248 (xz 249):=⟨_,Tryz.func248,by kernel_rfl⟩
theorem jb:Has Tryz.prog 215 (vQ 248 249):=⟨_,Tryz.func215,by kernel_rfl⟩
theorem oD:Has Tryz.prog 218 (yR):=⟨_,Tryz.func218,by kernel_rfl⟩
theorem iA:Has Tryz.prog 172 (Ag 221):=⟨_,Tryz.func172,by kernel_rfl⟩
theorem kP:Has Tryz.prog 101 (Ai 167):=⟨_,Tryz.func101,by kernel_rfl⟩
theorem dC:Has Tryz.prog 171 (Ak 17 218 171 24 219 172):=⟨_,Tryz.func171,by kernel_rfl⟩
theorem gb:Has Tryz.prog 169 (my 217 218 169 24 219 212 171 101):=⟨_,Tryz.func169,by kernel_rfl⟩
theorem dW:Has Tryz.prog 166 (yS 39 166 212):=⟨_,Tryz.func166,by kernel_rfl⟩
theorem oG:Has Tryz.prog 100 (yT 166):=⟨_,Tryz.func100,by kernel_rfl⟩
theorem iT:Has Tryz.prog 214 (jB 215 246 247):=⟨_,Tryz.func214,by kernel_rfl⟩
theorem tg:Has Tryz.prog 16 (uZ):=⟨_,Tryz.func16,by kernel_rfl⟩
theorem wG:Has Tryz.prog 279 (yU 297):=⟨_,Tryz.func279,by kernel_rfl⟩
theorem gl:Has Tryz.prog 252 (vR 279):=⟨_,Tryz.func252,by kernel_rfl⟩
theorem j8:Has Tryz.prog 254 (yW 24):=⟨_,Tryz.func254,by kernel_rfl⟩
theorem gZ:Has Tryz.prog 220 (yX 252 253 254 255):=⟨_,Tryz.func220,by kernel_rfl⟩
theorem iB:Has Tryz.prog 170 (Ap 220):=⟨_,Tryz.func170,by kernel_rfl⟩
theorem iC:Has Tryz.prog 106 (Aq 170 172):=⟨_,Tryz.func106,by kernel_rfl⟩
theorem pP:Has Tryz.prog 43 (Ar 101):=⟨_,Tryz.func43,by kernel_rfl⟩
theorem pQ:Has Tryz.prog 108 (Au 43 106):=⟨_,Tryz.func108,by kernel_rfl⟩
theorem iD:Has Tryz.prog 105 (Av 170 171):=⟨_,Tryz.func105,by kernel_rfl⟩
theorem oH:Has Tryz.prog 42 (y0 100):=⟨_,Tryz.func42,by kernel_rfl⟩
theorem pR:Has Tryz.prog 63 (Aw 108 42):=⟨_,Tryz.func63,by kernel_rfl⟩
theorem nN:Has Tryz.prog 18 (xB 63):=⟨_,Tryz.func18,by kernel_rfl⟩
theorem nO:Has Tryz.prog 175 (xC 215 214):=⟨_,Tryz.func175,by kernel_rfl⟩
theorem wH:Has Tryz.prog 67 (y4 16):=⟨_,Tryz.func67,by kernel_rfl⟩
theorem nP:Has Tryz.prog 25 (kJ 24 67):=⟨_,Tryz.func25,by kernel_rfl⟩
theorem vq:Has Tryz.prog 173 (xD):=⟨_,Tryz.func173,by kernel_rfl⟩
theorem pS:Has Tryz.prog 174 (Ay):=⟨_,Tryz.func174,by kernel_rfl⟩
theorem pT:Has Tryz.prog 109 (Az 106 173 174):=⟨_,Tryz.func109,by kernel_rfl⟩
theorem pU:Has Tryz.prog 114 (AA 43):=⟨_,Tryz.func114,by kernel_rfl⟩
theorem pV:Has Tryz.prog 56 (AB 114 109):=⟨_,Tryz.func56,by kernel_rfl⟩
theorem nQ:Has Tryz.prog 110 (xE 105 173 174):=⟨_,Tryz.func110,by kernel_rfl⟩
theorem wI:Has Tryz.prog 116 (y5 43):=⟨_,Tryz.func116,by kernel_rfl⟩
theorem pW:Has Tryz.prog 107 (AE 105 173 106):=⟨_,Tryz.func107,by kernel_rfl⟩
theorem na:Has Tryz.prog 103 (vS 107):=⟨_,Tryz.func103,by kernel_rfl⟩
theorem gJ:Has Tryz.prog 19 (xF 18):=⟨_,Tryz.func19,by kernel_rfl⟩
theorem nR:Has Tryz.prog 112 (xG 175):=⟨_,Tryz.func112,by kernel_rfl⟩
theorem rJ:Has Tryz.prog 165 (sO):=⟨_,Tryz.func165,by kernel_rfl⟩
theorem lQ:Has Tryz.prog 98 (tJ 165 122):=⟨_,Tryz.func98,by kernel_rfl⟩
theorem lR:Has Tryz.prog 97 (tK 165 25):=⟨_,Tryz.func97,by kernel_rfl⟩
theorem lg:Has Tryz.prog 51 (sP 109 97):=⟨_,Tryz.func51,by kernel_rfl⟩
theorem kp:Has Tryz.prog 40 (rV 56 97):=⟨_,Tryz.func40,by kernel_rfl⟩
theorem kq:Has Tryz.prog 52 (rW 110 97):=⟨_,Tryz.func52,by kernel_rfl⟩
theorem j9:Has Tryz.prog 45 (rF 103 98):=⟨_,Tryz.func45,by kernel_rfl⟩
theorem lS:Has Tryz.prog 15 (tL 40 45):=⟨_,Tryz.func15,by kernel_rfl⟩
theorem tY:Has Tryz.prog 70 (j4):=⟨_,Tryz.func70,by kernel_rfl⟩
theorem jF:Has Tryz.prog 113 (kK 19 15 42 18):=⟨_,Tryz.func113,by kernel_rfl⟩
theorem wJ:Has Tryz.prog 134 (lF 188 67):=⟨_,Tryz.func134,by kernel_rfl⟩
theorem zA:Has Tryz.prog 133 (nr 188 67):=⟨_,Tryz.func133,by kernel_rfl⟩
theorem vt:Has Tryz.prog 69 (kL 133 25 40 134 52 116 51 113):=⟨_,Tryz.func69,by kernel_rfl⟩
theorem nb:Has Tryz.prog 27 (gY 69):=⟨_,Tryz.func27,by kernel_rfl⟩
theorem dK:Has Tryz.prog 68 (xJ 19):=⟨_,Tryz.func68,by kernel_rfl⟩
theorem tZ:Has Tryz.prog 28 (j5 70):=⟨_,Tryz.func28,by kernel_rfl⟩
theorem oJ:Has Tryz.prog 12 (y7):=⟨_,Tryz.func12,by kernel_rfl⟩
theorem ua:Has Tryz.prog 37 (j6 95 12):=⟨_,Tryz.func37,by kernel_rfl⟩
theorem g7:Has Tryz.prog 111 (y8 12):=⟨_,Tryz.func111,by kernel_rfl⟩
theorem nS:Has Tryz.prog 54 (xK 111):=⟨_,Tryz.func54,by kernel_rfl⟩
theorem g8:Has Tryz.prog 26 (zc 68):=⟨_,Tryz.func26,by kernel_rfl⟩
theorem oO:Has Tryz.prog 55 (zd 112 113):=⟨_,Tryz.func55,by kernel_rfl⟩
theorem wK:Has Tryz.prog 6 (lH 27 28):=⟨_,Tryz.func6,by kernel_rfl⟩
theorem dw:Has Tryz.prog 142 (oe 144 145):=⟨_,Tryz.func142,by kernel_rfl⟩
theorem kQ:Has Tryz.prog 90 (mD 159 142):=⟨_,Tryz.func90,by kernel_rfl⟩
theorem mI:Has Tryz.prog 89 (og 158 142):=⟨_,Tryz.func89,by kernel_rfl⟩
theorem nz:Has Tryz.prog 92 (pG):=⟨_,Tryz.func92,by kernel_rfl⟩
theorem aJ:Has Tryz.prog 91 (dU):=⟨_,Tryz.func91,by kernel_rfl⟩
theorem pX:Has Tryz.prog 35 (rG 92 91):=⟨_,Tryz.func35,by kernel_rfl⟩
theorem mW:Has Tryz.prog 74 (mE 35):=⟨_,Tryz.func74,by kernel_rfl⟩
theorem gi:Has Tryz.prog 190 (gW):=⟨_,Tryz.func190,by kernel_rfl⟩
theorem fx:Has Tryz.prog 139 (fY 190):=⟨_,Tryz.func139,by kernel_rfl⟩
theorem mJ:Has Tryz.prog 73 (oh 139):=⟨_,Tryz.func73,by kernel_rfl⟩
theorem om:Has Tryz.prog 30 (qE 72 73 74):=⟨_,Tryz.func30,by kernel_rfl⟩
theorem bF:Has Tryz.prog 162 (kO 91):=⟨_,Tryz.func162,by kernel_rfl⟩
theorem oo:Has Tryz.prog 160 (EI):=⟨_,Tryz.func160,by kernel_rfl⟩
theorem oq:Has Tryz.prog 161 (EJ 35):=⟨_,Tryz.func161,by kernel_rfl⟩
theorem iM:Has Tryz.prog 93 (HI 160 161 162):=⟨_,Tryz.func93,by kernel_rfl⟩
theorem eK:Has Tryz.prog 163 (fk):=⟨_,Tryz.func163,by kernel_rfl⟩
theorem et:Has Tryz.prog 94 (nw 163):=⟨_,Tryz.func94,by kernel_rfl⟩
theorem mX:Has Tryz.prog 36 (HJ 93 94):=⟨_,Tryz.func36,by kernel_rfl⟩
theorem g9:Has Tryz.prog 9 (cC):=⟨_,Tryz.func9,by kernel_rfl⟩
theorem nT:Has Tryz.prog 11 (xM 55 26):=⟨_,Tryz.func11,by kernel_rfl⟩
theorem vu:Has Tryz.prog 5 (xN 23 24 8 20 25 26):=⟨_,Tryz.func5,by kernel_rfl⟩
theorem th:Has Tryz.prog 23 (u3 25):=⟨_,Tryz.func23,by kernel_rfl⟩
theorem ti:Has Tryz.prog 8 (EM 30 31 32 33 9 35 34 36):=⟨_,Tryz.func8,by kernel_rfl⟩
theorem gA:Has Tryz.prog 20 (EO 30 32 64 36):=⟨_,Tryz.func20,by kernel_rfl⟩
theorem CH:Has Tryz.prog 31 (EP 75):=⟨_,Tryz.func31,by kernel_rfl⟩
theorem uq:Has Tryz.prog 33 (Ga 77 79 78 80 81 82 83 84 87 86 85 88 90 89):=⟨_,Tryz.func33,by kernel_rfl⟩
theorem rk:Has Tryz.prog 34 (Cw 75):=⟨_,Tryz.func34,by kernel_rfl⟩
theorem fE:Has Tryz.prog 64 (Cx 82 77 131 83 78 85 90 89 81 86 80):=⟨_,Tryz.func64,by kernel_rfl⟩
theorem jn:Has Tryz.prog 77 (sV 143 142):=⟨_,Tryz.func77,by kernel_rfl⟩
theorem mK:Has Tryz.prog 78 (sW 144 145):=⟨_,Tryz.func78,by kernel_rfl⟩
theorem Fa:Has Tryz.prog 79 (AJ 131 87):=⟨_,Tryz.func79,by kernel_rfl⟩
theorem pY:Has Tryz.prog 83 (yz 150 151):=⟨_,Tryz.func83,by kernel_rfl⟩
theorem A2:Has Tryz.prog 84 (sY 152 78):=⟨_,Tryz.func84,by kernel_rfl⟩
theorem rn:Has Tryz.prog 85 (sZ 153 78):=⟨_,Tryz.func85,by kernel_rfl⟩
theorem A3:Has Tryz.prog 87 (Dz 156 152 86):=⟨_,Tryz.func87,by kernel_rfl⟩
theorem yH:Has Tryz.prog 131 (B7 81 187):=⟨_,Tryz.func131,by kernel_rfl⟩
theorem ur:Has Tryz.prog 150 (yA 87):=⟨_,Tryz.func150,by kernel_rfl⟩
theorem rK:Has Tryz.prog 151 (B8 205 147):=⟨_,Tryz.func151,by kernel_rfl⟩
theorem uu:Has Tryz.prog 187 (yB 81):=⟨_,Tryz.func187,by kernel_rfl⟩
theorem rL:Has Tryz.prog 205 (B9 202 238 146 239 240 231 241):=⟨_,Tryz.func205,by kernel_rfl⟩
theorem qL:Has Tryz.prog 238 (AK 202 146 266):=⟨_,Tryz.func238,by kernel_rfl⟩
theorem pZ:Has Tryz.prog 239 (yC 266 146 148):=⟨_,Tryz.func239,by kernel_rfl⟩
theorem tj:Has Tryz.prog 240 (DB 231):=⟨_,Tryz.func240,by kernel_rfl⟩
theorem rM:Has Tryz.prog 266 (Ca 287 259 266 198 258 288 207 206 289 155 157 290):=⟨_,Tryz.func266,by kernel_rfl⟩
theorem lT:Has Tryz.prog 287 (yD 302):=⟨_,Tryz.func287,by kernel_rfl⟩
theorem p4:Has Tryz.prog 302 (yF 316 257 256):=⟨_,Tryz.func302,by kernel_rfl⟩
theorem qM:Has Tryz.prog 316 (pJ 76 320 321 141 300 292 322 281 260):=⟨_,Tryz.func316,by kernel_rfl⟩
theorem qN:Has Tryz.prog 320 (s5 141 318):=⟨_,Tryz.func320,by kernel_rfl⟩
theorem nA:Has Tryz.prog 321 (eQ):=⟨_,Tryz.func321,by kernel_rfl⟩
theorem qO:Has Tryz.prog 322 (AL 314 141):=⟨_,Tryz.func322,by kernel_rfl⟩
theorem HW:Has Tryz.prog 259 (Lk 262 283):=⟨_,Tryz.func259,by kernel_rfl⟩
theorem Fb:Has Tryz.prog 283 (HR 32):=⟨_,Tryz.func283,by kernel_rfl⟩
theorem Gk:Has Tryz.prog 269 (Jj):=⟨_,Tryz.func269,by kernel_rfl⟩
theorem Fc:Has Tryz.prog 270 (HS):=⟨_,Tryz.func270,by kernel_rfl⟩
theorem HX:Has Tryz.prog 272 (Ll 269 270 242 203 209):=⟨_,Tryz.func272,by kernel_rfl⟩
theorem HY:Has Tryz.prog 241 (Lm 235 267 198):=⟨_,Tryz.func241,by kernel_rfl⟩
theorem mL:Has Tryz.prog 219 (u5 24):=⟨_,Tryz.func219,by kernel_rfl⟩
theorem wL:Has Tryz.prog 212 (zf 171 245):=⟨_,Tryz.func212,by kernel_rfl⟩
theorem ya:Has Tryz.prog 245 (AM 101 172):=⟨_,Tryz.func245,by kernel_rfl⟩
theorem wM:Has Tryz.prog 251 (zg 24 219):=⟨_,Tryz.func251,by kernel_rfl⟩
theorem oP:Has Tryz.prog 276 (zh 248 166):=⟨_,Tryz.func276,by kernel_rfl⟩
theorem oQ:Has Tryz.prog 246 (zi 215 276 166):=⟨_,Tryz.func246,by kernel_rfl⟩
theorem jc:Has Tryz.prog 247 (wb 277 246 24 219 218 247 278 169 171 245 188 172 101):=⟨_,Tryz.func247,by kernel_rfl⟩
theorem oR:Has Tryz.prog 250 (zl 247 246 101):=⟨_,Tryz.func250,by kernel_rfl⟩
theorem nc:Has Tryz.prog 168 (we 214 215 216):=⟨_,Tryz.func168,by kernel_rfl⟩
theorem nd:Has Tryz.prog 216 (wi 246 250 251):=⟨_,Tryz.func216,by kernel_rfl⟩
theorem kd:Has Tryz.prog 277 (zr 295 60 296):=⟨_,Tryz.func277,by kernel_rfl⟩
theorem wN:Has Tryz.prog 295 (qk 125 306 128 127 177 126):=⟨_,Tryz.func295,by kernel_rfl⟩
theorem wO:Has Tryz.prog 306 (ql 128 180):=⟨_,Tryz.func306,by kernel_rfl⟩
theorem p5:Has Tryz.prog 104 (AO 169 105):=⟨_,Tryz.func104,by kernel_rfl⟩
theorem oU:Has Tryz.prog 102 (zu 168):=⟨_,Tryz.func102,by kernel_rfl⟩
theorem dP:Has Tryz.prog 65 (tM 16 40 116 45 44 46 52 51 15 50 48 42):=⟨_,Tryz.func65,by kernel_rfl⟩
theorem eI:Has Tryz.prog 22 (wm 37 39 12 65 54):=⟨_,Tryz.func22,by kernel_rfl⟩
theorem cf:Has Tryz.prog 4 (qI 5 6 7 9 21 20 22 11):=⟨_,Tryz.func4,by kernel_rfl⟩
theorem lh:Has Tryz.prog 44 (s6 102 98):=⟨_,Tryz.func44,by kernel_rfl⟩
theorem rX:Has Tryz.prog 46 (tQ 104 98):=⟨_,Tryz.func46,by kernel_rfl⟩
theorem rY:Has Tryz.prog 50 (tR 108 98):=⟨_,Tryz.func50,by kernel_rfl⟩
theorem rZ:Has Tryz.prog 48 (tT 106 98):=⟨_,Tryz.func48,by kernel_rfl⟩
theorem vv:Has Tryz.prog 7 (xS 29):=⟨_,Tryz.func7,by kernel_rfl⟩
theorem kR:Has Tryz.prog 29 (AR 71):=⟨_,Tryz.func29,by kernel_rfl⟩
end Go.Proofs.YtndoagbiakehnaaGreat
end

section
namespace Go.Proofs
open Go.RowKit Go.Shelf
attribute [local go_sem] Oper.semAt_some
def Tryz.upto {α : Type} (f:Nat -> α) (k:Nat):List α := (List.range k).map f
theorem Tryz.Ke {α : Type} (f:Nat -> α) (k:Nat):Tryz.upto f (k+1)=Tryz.upto f k++[f k]:=by simp [Tryz.upto,List.range_succ]
theorem Tryz.Nx {α : Type} (f:Nat -> α) (k:Nat):(Tryz.upto f k).length=k:=by simp [Tryz.upto]
def Tryz.bw (zs:List Int) (k:Nat):Int × Int:=((zs.length:Int)-1-k,zs[zs.length-1-k]?.getD 0)
def Tryz.BK (n₀ Bs:Nat) (A B:World):Prop:=Below n₀ A B/\B.cell? ⟨Bs,0,none⟩=A.cell? ⟨Bs,0,none⟩
theorem Tryz.BK.refl (n₀ Bs:Nat) (A:World):Tryz.BK n₀ Bs A A:=⟨Below.refl _ _,rfl⟩
theorem Tryz.BK.trans {n₀ Bs:Nat} {A B C:World} (h:Tryz.BK n₀ Bs A B) (k:Tryz.BK n₀ Bs B C):Tryz.BK n₀ Bs A C:=⟨h.1.trans k.1,k.2.trans h.2⟩
set_option maxRecDepth 100000 in
set_option maxHeartbeats 2000000 in
theorem Tryz.adu (F:Fence) (n:Nat) (h8:F.fn 319) (Tx:F.round=none) (hn:1<=n) (l Bs n₀ b off cap:Nat) (zs:List Int) (Ln:zs.length*8<=140737488351232) (hb:b<n₀) (J Jx:List (Int × Int)->World->Prop)
   (hY:∀ pre x W,J pre W->pre.length<zs.length->YieldAt F (n-1) Tryz.prog l #[.int .i64 x.1, .int .u32 x.2] W fun e W' =>
     (e = .returned (.bool true)/\J (pre++[x]) W'/\Tryz.BK n₀ Bs W W')∨(e = .returned (.bool false)/\Jx (pre++[x]) W'))
   (W:World) (aln:W.cell? ⟨Bs,0,none⟩=some (.slice (some ⟨b,off,none⟩) zs.length cap)) (hc:∀ j,j<zs.length->W.cell? ⟨b,off+j,none⟩=some (.int .u32 (zs[j]?.getD 0))) (h0:J [] W) :
   CallsIn F n Tryz.prog 319 #[.func (.yield l) #[] #[], .pointer (some ⟨Bs,0,none⟩)] W fun e W'=>(∃ v,e = .returned v) /\
     ((∃ ys,ys=Tryz.upto (Tryz.bw zs) zs.length/\J ys W')∨(∃ pre,(∃ k,k<=zs.length/\pre=Tryz.upto (Tryz.bw zs) k)/\Jx pre W')):=by
 refine callsIn_of_wp Tryz.func319 rfl h8 ?_ Tx
 simp only [Tryz.ntmps319,List.size_toArray,List.length_cons,List.length_nil,Nat.reduceAdd,Nat.reduceSub,Array.replicate_succ,Array.replicate_zero,List.push_toArray,List.append_toArray,List.nil_append,List.cons_append]
 gi_wp2
 gi_loopw [3] (fun i wr=>∃ k:Nat,k<=zs.length/\i = .int .i64 ((zs.length:Int)-1-k)/\J (Tryz.upto (Tryz.bw zs) k) wr/\Tryz.BK n₀ Bs W wr)
   (fun i _=>(intOf i+1).toNat)
 case atStart=>exact ⟨0,Nat.zero_le _,by simp,h0,Tryz.BK.refl _ _ _⟩
 case round =>
   obtain ⟨k,hk,rfl,hJs,hnx⟩:=hrel
   have hBk:=hnx.2.trans aln
   have Vh:∀ j,j<zs.length->wr.cell? ⟨b,off+j,none⟩=some (.int .u32 (zs[j]?.getD 0)):=fun j h=>(hnx.1.cell (p:=⟨b,off+j,none⟩) hb).trans (hc j h)
   by_cases hlt:k<zs.length
   . obtain ⟨q,hq⟩:∃ q,q=zs.length-1-k:=⟨_,rfl⟩
     have hqi:(zs.length:Int)-1-k=q:=by omega
     have hql:q<zs.length:=by omega
     have FH:Hid (Tryz.bw zs k=((q:Int),zs[q]?.getD 0)):=by show Tryz.bw zs k=_;rw [Tryz.bw, <- hq,hqi]
     have hqk:Hid (q+1+k=zs.length):=by show q+1+k=zs.length;omega
     clear hq
     have alp:=Vh q hql
     generalize zs[q]?.getD 0=zq at FH alp
     obtain ⟨fn,tmps,assign,body,hy,hR⟩:=hY _ ((q:Int),zq) wr hJs (by rw [Tryz.Nx];exact hlt)
     dsimp only at hy
     rw [hqi]
     clear hqi hY h0 hc Vh
     gi_wp2
     refine hR.mono ?_
     rintro e W3 (⟨rfl,hJ3,hk3⟩ | ⟨rfl,alq⟩)
     . gi_wp2
       go_roundw
       case rel=>exact ⟨k+1,by omega,by have:=hqk.out;congr 1;omega,by rw [Tryz.Ke,FH.out];exact hJ3,hnx.trans hk3⟩
       case measure=>simp [intOf]
     . gi_wp2
       refine bodyPost_ret (results_none rfl _ _ _) rfl ?_
       exact ⟨⟨_,rfl⟩, .inr ⟨_,⟨k+1,by omega,by rw [Tryz.Ke,FH.out]⟩,alq⟩⟩
   . obtain rfl:k=zs.length:=by omega
     have alr:(zs.length:Int)-1-zs.length = -1:=by omega
     rw [alr]
     gi_wp2
     go_end0
     exact ⟨⟨_,rfl⟩, .inl ⟨_,rfl,hJs⟩⟩
def Tryz.Ty (n₀:Nat) (W:World) (sv:Value) (zs:List Int):Prop :=
 (∃ a cap,sv = .slice a 0 cap/\zs=[])∨∃ b off cap,sv = .slice (some ⟨b,off,none⟩) zs.length cap/\b<n₀/\∀ j,j<zs.length->W.cell? ⟨b,off+j,none⟩=some (.int .u32 (zs[j]?.getD 0))
theorem Tryz.Ty.below {n₀:Nat} {A B:World} (h:Below n₀ A B) {sv:Value} {zs:List Int}:Tryz.Ty n₀ A sv zs->Tryz.Ty n₀ B sv zs
 | .inl e => .inl e
 | .inr ⟨b,off,cap,e,hb,hc⟩ => .inr ⟨b,off,cap,e,hb,fun j hj=>(h.cell (p:=⟨b,off+j,none⟩) hb).trans (hc j hj)⟩
set_option maxRecDepth 100000 in
set_option maxHeartbeats 1000000 in
theorem Tryz.PE (F:Fence) (n:Nat) (h8:F.fn 319) (Tx:F.round=none) (l Bs:Nat) (a:Option Addr) (cap:Nat) (J:List (Int × Int)->World->Prop) (W:World) (hBs:W.cell? ⟨Bs,0,none⟩=some (.slice a 0 cap)) (h0:J [] W) :
   CallsIn F n Tryz.prog 319 #[.func (.yield l) #[] #[], .pointer (some ⟨Bs,0,none⟩)] W fun e W'=>(∃ v,e = .returned v)/\J [] W':=by
 refine callsIn_of_wp Tryz.func319 rfl h8 ?_ Tx
 simp only [Tryz.ntmps319,List.size_toArray,List.length_cons,List.length_nil,Nat.reduceAdd,Nat.reduceSub,Array.replicate_succ,Array.replicate_zero,List.push_toArray,List.append_toArray,List.nil_append,List.cons_append]
 gi_wp2
 gi_loopw [3] (fun i wr=>i = .int .i64 (-1)/\J [] wr) (fun _ _=>0)
 case atStart=>exact ⟨rfl,h0⟩
 case round =>
   obtain ⟨rfl,hJs⟩:=hrel
   gi_wp2
   go_end0
   exact ⟨⟨_,rfl⟩,hJs⟩
set_option maxHeartbeats 1000000 in
theorem Tryz.Ny (F:Fence) (n:Nat) (h5:F.fn 315) (Tx:F.round=none) (a:Option Addr) (len cap:Nat) (w:World) :
   CallsIn F n Tryz.prog 315 #[.slice a len cap] w fun e w'=>e = .returned (.func (.func 319) #[] #[.pointer (some ⟨w.heap.size,0,none⟩)])/\w'=w.alloc (.cells #[.slice a len cap] 24):=by
 refine callsIn_of_wp Tryz.func315 rfl h5 ?_ Tx
 simp only [Tryz.ntmps315,List.size_toArray,List.length_cons,List.length_nil,Nat.reduceAdd,Nat.reduceSub,Array.replicate_succ,Array.replicate_zero,List.push_toArray,List.append_toArray,List.nil_append,List.cons_append]
 gi_wp2
 go_ret
 exact ⟨rfl,rfl⟩
theorem Tryz.V8 (F:Fence) (n:Nat) (h8:F.fn 319) (Tx:F.round=none) (hn:1<=n) (Bs n₀:Nat) (sv:Value) (zs:List Int) (Ln:zs.length*8<=140737488351232) (w:World) (hBs:Bs<w.heap.size) (hn₀:n₀<=w.heap.size)
   (hc:w.cell? ⟨Bs,0,none⟩=some sv) (hI:Tryz.Ty n₀ w sv zs) :
   SeqStopsK F n Tryz.prog 319 #[.pointer (some ⟨Bs,0,none⟩)] (fun x:Int × Int => #[Value.int .i64 x.1,Value.int .u32 x.2]) (Tryz.BK n₀ Bs) (fun ys=>ys=Tryz.upto (Tryz.bw zs) zs.length)
     (fun pre=>∃ k,k<=zs.length/\pre=Tryz.upto (Tryz.bw zs) k) zs.length w:=fun l J Jx W hW _ _ hY h0=>by
 have hc':=(hW.cell (p:=⟨Bs,0,none⟩) hBs).trans hc
 rcases hI.below (hW.mono hn₀) with ⟨a,cap,rfl,rfl⟩ | ⟨b,off,cap,rfl,hb,hcs⟩
 . exact (Tryz.PE F n h8 Tx l Bs a cap J W hc' h0).mono fun e W' ⟨he,hj⟩=>⟨he, .inl ⟨_,rfl,hj⟩⟩
 . exact Tryz.adu F n h8 Tx hn l Bs n₀ b off cap zs Ln hb J Jx hY W hc' hcs h0
def Tryz.HZ (s v:Int):Int:=bits BinOp.or IntKind.u64 (IntKind.u64.wrap (s*4294967296)) (IntKind.u64.wrap v)
def Tryz.toU (l:List (Int × Int)):Int:=l.foldl (fun s x=>Tryz.HZ s x.2) 0
theorem Tryz.toU_snoc (pre:List (Int × Int)) (x:Int × Int):Tryz.toU (pre++[x])=Tryz.HZ (Tryz.toU pre) x.2:=by simp [Tryz.toU]
set_option maxRecDepth 100000 in
set_option maxHeartbeats 2000000 in
theorem Tryz.toUint_in (F:Fence) (n:Nat) (h3:F.fn 301) (h6:F.fn 315) (h8:F.fn 319) (Tx:F.round=none) (hn:3<=n) (a:Option Addr) (len cap:Nat) (zs:List Int) (Ln:zs.length*8<=140737488351232) (w:World) (hI:Tryz.Ty w.heap.size w (.slice a len cap) zs) :
   CallsIn F n Tryz.prog 301 #[.slice a len cap] w fun e W'=>e = .returned (.int .u64 (Tryz.toU (Tryz.upto (Tryz.bw zs) zs.length)))/\Below w.heap.size w W':=by
 have h1:1<=n:=by omega
 refine callsIn_of_wp_marks Tryz.func301 rfl h3 ?_ Tx
 simp only [Tryz.ntmps301,List.size_toArray,List.length_cons,List.length_nil,Nat.reduceAdd,Nat.reduceSub,Array.replicate_succ,Array.replicate_zero,List.push_toArray,List.append_toArray,List.nil_append,List.cons_append]
 gi_wp2_with (gi_at_call 315;refine (Tryz.Ny F (n-1) h6 Tx _ _ _ _).mono ?_;rintro e w' ⟨rfl,rfl⟩)
 have bS:=Boxed.new w 156 (.int .u64 0)
 have bN:=Boxed.new (w.alloc (.cells #[.int .u64 0] 156)) 24 (.slice a len cap)
 rw [World.size_alloc] at bN
 have hB0:Below w.heap.size w ((w.alloc (.cells #[.int .u64 0] 156)).alloc (.cells #[.slice a len cap] 24)):=((Below.refl _ w).alloc (Nat.le_refl _) _).alloc (by simp) _
 have aqy:((w.alloc (.cells #[.int .u64 0] 156)).alloc (.cells #[.slice a len cap] 24)).heap.size=w.heap.size+2:=by simp
 refine wpIn_rangeFunc_ownG Tx h1 (gf:=319) (lb := #[.pointer (some ⟨w.heap.size+1,0,none⟩)]) rfl h8 (enters_of Tryz.func319 (by kernel_rfl) rfl)
   (Tryz.V8 F (n-1) h8 Tx (by omega) (w.heap.size+1) w.heap.size _ zs Ln _ (by simp) (by simp;omega) bN.cell (hI.below hB0)) (fun h k=>h.trans k)
   (fun W l o o' hl h h2 h3=>⟨belowK_b (w:=w) (Nat.le_refl _) W l o o' (by omega) h h2 h3,(belowK_b (w:=(w.alloc (.cells #[.int .u64 0] 156)).alloc (.cells #[.slice a len cap] 24)) (Nat.le_refl _) W l o o' hl h h2 h3).cell (p:=⟨w.heap.size+1,0,none⟩) (by simp)⟩) (Below.refl _ _) (fun _=>rfl)
   (fun pre W=>(W.cell? ⟨w.heap.size,0,none⟩=some (.int .u64 (Tryz.toU pre))/\W.frozen? ⟨w.heap.size,0,none⟩=false)/\Below w.heap.size w W)
   (fun _ _ _=>False)
   (OwnFrom.and (Own.from (fun s A B row hs hg hr=>⟨cell_kept hs.1 hg hr,(frozen_kept hs.1 hg hr).trans hs.2⟩) _) (ownFrom_below (Nat.le_refl _) (by simp;omega)))
   (fun _ _ _ _ _ hs _ _=>hs)
   ⟨⟨(bS.alloc _).cell,(bS.alloc _).frozen⟩,hB0⟩
   (fun x=>{ tmps := #[.slice a len cap,undef, .int .u64 0, .pointer (some ⟨w.heap.size,0,none⟩),undef, .int .u32 x.2, .slice a len cap, .func (.func 319) #[] #[.pointer (some ⟨w.heap.size+1,0,none⟩)], .int .i64 x.1, .int .u32 x.2,undef,undef,undef,undef,undef,undef],defers:=[] }) ?assign ?body ?done ?stop
 case assign =>
   intro l x W K hK
   gi_wp2
   exact hK
 case body =>
   rintro l pre x W ⟨⟨hc,hf⟩,hB⟩ _
   gi_wp2
   exact ⟨(KeepsOthers.setCell _ _ _).from _,⟨(Below.refl w.heap.size W).setCell (p:=⟨w.heap.size,0,none⟩) (Nat.le_refl _) _,World.cell?_of_block (a:=⟨w.heap.size+1,0,none⟩) (Below.heap_setCell _ _ _ _ (by simp))⟩,
     ⟨by rw [Tryz.toU_snoc];exact World.cell?_setCell_same' _ _ _ (by rw [hc];rfl),by rw [World.frozen?_setCell];exact hf⟩,hB.setCell (p:=⟨w.heap.size,0,none⟩) (Nat.le_refl _) _⟩
 case done =>
   rintro D ys W hD rfl ⟨⟨hc,_⟩,hB⟩ hK
   gi_wp2
   refine ⟨by simp, .inl ⟨_,_,rfl,run_takeDeferred hK, ?_⟩⟩
   exact ⟨_,results_tmp rfl _ _ _,rfl,hB.trans (belowK_b (w:=w) (Nat.le_refl _) W D _ _ (by simp at hD;omega) hK rfl rfl)⟩
 case stop =>
   rintro D c pre W _ _ h _
   exact h.elim
end Go.Proofs
end

section
namespace Go.VL
section
variable {P:Program} {G:Nat->Option (List AV)} {own:Nat->Prop} {E:Env} {w:World} {σ : ae}
theorem View.fn {σ : ae} {f:Fn} {a c a' c':List AV} (ha:az σ a a') (hc:az σ c c'):View σ (.fn f a c) (.fn f a' c'):=fun G own E w v hi hr=>by
 simp only [aN] at hr ⊢
 obtain ⟨xs,ys,e,h1,h2⟩:=hr
 exact ⟨xs,ys,e,ha.vL hi h1,hc.vL hi h2⟩
theorem View.ref {σ : ae} {id:Id} {bk:dc} {e o:Nat} {el:AV} {cs:List AV} (hσ : σ id=some bk) (he:bk.els[e]? = some el) (h:az σ el.cells cs):View σ (.ref id e o) (.ep cs o):=fun G own E w v hi hr=>by
 obtain ⟨g,N,cur,ty,hB⟩:=hi.blk id bk hσ
 simp only [aN] at hr ⊢
 obtain ⟨g',k',N',hm,rfl⟩:=hr
 rw [hB.μ] at hm
 simp only [Option.some.injEq,Prod.mk.injEq] at hm
 obtain ⟨rfl,rfl,rfl⟩:=hm
 refine ⟨g,e*bk.k,rfl, .inr ⟨id,bk,bk.k,N,hσ,hB.μ⟩, ?_⟩
 refine fN.2 (h.Fy hi ?_)
 have hlt:=(List.getElem?_eq_some_iff.1 he).1
 have:=se (l:=e) (r:=e+1) hB.k hB.row (by omega) (by omega)
 rw [Nat.zero_add] at this
 have e2:(bk.els.take (e+1)).drop e=[el]:=by
   rw [List.drop_take,show e+1-e=1 from by omega,List.drop_eq_getElem_cons hlt]
   obtain ⟨_,he'⟩:=List.getElem?_eq_some_iff.1 he
   simp [he']
 rw [e2] at this
 simpa [flat] using this
def yI (F:List (Id × dc)) (c d:AV):Prop:=∀ G own E w v,Inv G own E w (ae.of F)->aN E w c v->aN ⟨E.μ,(E.ki (ae.of F)).ok⟩ w d v
def iE (F:List (Id × dc)):List AV->List AV->Prop
 | [],[]=>True
 | c::cs,d::ds=>yI F c d/\iE F cs ds
 | _,_=>False
theorem yI.same (F:List (Id × dc)) (c:AV):yI F c c:=fun _ _ E w v _ hr =>
 aN.keep (⟨fun _ _ h=>h,fun _ h => .inl h,fun _ _=>rfl⟩:Step E ⟨E.μ,(E.ki (ae.of F)).ok⟩ w w) _ v hr
theorem yI.top (F:List (Id × dc)) (c:AV):yI F c .top:=fun _ _ _ _ _ _ _=>by simp [aN]
theorem iE.same (F:List (Id × dc)):∀ cs:List AV,iE F cs cs
 | []=>trivial
 | c::cs=>⟨yI.same F c,iE.same F cs⟩
theorem iE.vL {F:List (Id × dc)} (hi:Inv G own E w (ae.of F)):∀ {cs ds:List AV} {vs:List Value},iE F cs ds->aU E w cs vs->aU ⟨E.μ,(E.ki (ae.of F)).ok⟩ w ds vs
 | [],[],_,_,h=>by simpa [aU] using h
 | c::cs,d::ds,vs,hf,h=>by
   simp only [iE] at hf
   simp only [aU] at h ⊢
   obtain ⟨v,rest,e,h1,h2⟩:=h
   exact ⟨v,rest,e,hf.1 _ _ _ _ _ hi h1,iE.vL hi hf.2 h2⟩
 | [],_::_,_,h,_=>by simp [iE] at h
 | _::_,[],_,h,_=>by simp [iE] at h
theorem iE.get {F:List (Id × dc)}:∀ {cs ds:List AV},iE F cs ds->∀ (j:Nat) (d:AV),ds[j]? = some d->∃ c,cs[j]? = some c/\yI F c d
 | [],[],_,j,d,h=>by simp at h
 | c::cs,d::ds,hf,0,d',h=>by simp at h;subst h;exact ⟨c,rfl,hf.1⟩
 | c::cs,d::ds,hf,j+1,d',h=>by simpa using iE.get hf.2 j d' (by simpa using h)
 | [],_::_,h,_,_,_=>by simp [iE] at h
 | _::_,[],h,_,_,_=>by simp [iE] at h
theorem iE.len {F:List (Id × dc)}:∀ {cs ds:List AV},iE F cs ds->cs.length=ds.length
 | [],[],_=>rfl
 | _::cs,_::ds,h=>by simp [iE.len h.2]
 | [],_::_,h=>by simp [iE] at h
 | _::_,[],h=>by simp [iE] at h
theorem yI.agg {F:List (Id × dc)} {cs ds:List AV} (h:iE F cs ds):yI F (.agg cs) (.agg ds):=fun _ _ E w v hi hr=>by
 simp only [aN] at hr ⊢;obtain ⟨xs,e,hr⟩:=hr;exact ⟨xs,e,h.vL hi hr⟩
theorem yI.tup {F:List (Id × dc)} {cs ds:List AV} (h:iE F cs ds):yI F (.tup cs) (.tup ds):=fun _ _ E w v hi hr=>by
 simp only [aN] at hr ⊢;obtain ⟨xs,e,hr⟩:=hr;exact ⟨xs,e,h.vL hi hr⟩
structure adw (F:List (Id × dc)) (i:Id) (bk GM:dc):Prop where
 k:GM.k=bk.k
 fr:GM.fr=bk.fr∨(GM.fr=true/\(i,bk)∈F)
 no:GM.fr=false->∀ x∈F,x.1≠i
 len:GM.els.length=bk.els.length
 sz:∀ e∈GM.els,e.size=bk.k
 els:iE F (flat bk.els) (flat GM.els)
theorem FI {p:Id} {σ σ':ae} (F:List (Id × dc)) (hF:∀ x∈F, σ x.1=some x.2) (hs:∀ i, σ' i=none∨∃ bk GM, σ i=some bk /\ σ' i=some GM/\adw F i bk GM) (hi:Inv G own E w σ) :
   nk own p E ⟨E.μ,(E.ki (ae.of F)).ok⟩ w w/\Inv G own ⟨E.μ,(E.ki (ae.of F)).ok⟩ w σ':=by
 have hiF:Inv G own E w (ae.of F):=hi.sub (ae.xi hF)
 have ig:Adv own E ⟨E.μ,(E.ki (ae.of F)).ok⟩ w w:=by
   refine ⟨⟨fun _ _ h=>h,fun b hb => .inl hb,fun b hb=>rfl⟩,rfl,rfl,rfl,Nat.le_refl _,fun k hk _=>rfl,fun b hb => ?_⟩
   rcases hb with h1 | ⟨id,bk,k,N,hs,hm⟩
   . exact .inl h1
   . obtain ⟨g,N',cur,ty,hB⟩:=hi.blk id bk (hF _ (iO hs))
     rw [hB.μ] at hm
     simp only [Option.some.injEq,Prod.mk.injEq] at hm
     rw [<- hm.1];exact .inr hB.own
 refine ⟨⟨ig,fun _ _=>rfl⟩,(hi.ki hF).okb,fun id GM JI => ?_,fun i j x y qY hj' hne hx hy => ?_,fun g cs hg => ?_,hi.new⟩
 . rcases hs id with h | ⟨bk,bk2,h1,h2,hR⟩
   . rw [h] at JI;simp at JI
   . rw [h2] at JI
     simp only [Option.some.injEq] at JI;subst JI
     obtain ⟨g,N,cur,ty,hB⟩:=hi.blk id bk h1
     refine ⟨g,N,cur,ty,by rw [hR.k];exact hB.μ,hB.heap,by rw [hR.k];exact hB.size,by rw [hR.len];exact hB.len,hB.most,hB.own,fun hf => ?_,fun hf ib => ?_,by rw [hR.k];exact hR.sz, ?_⟩
     . rcases hR.fr with h | ⟨_,h⟩
       . exact .inl (hB.ok (h▸hf))
       . exact .inr ⟨id,bk,bk.k,N,ED hF h,hB.μ⟩
     . have hbf:bk.fr=false:=by
         rcases hR.fr with h | ⟨h,_⟩
         . rw [<- h];exact hf
         . rw [hf] at h;simp at h
       rcases ib with h | ⟨QT,bk2,k2,N2,VG,BI⟩
       . exact hB.no hbf h
       . have hm:=iO VG
         exact hi.inj id QT _ _ (by simp [h1]) (by simp [hF _ hm]) (fun e=>hR.no hf _ hm e.symm) hB.μ BI rfl
     . intro j d hd
       obtain ⟨c,hc,hv⟩:=hR.els.get j d hd
       obtain ⟨v,qq,xd⟩:=hB.row j c hc
       exact ⟨v,qq,hv _ _ _ _ _ hiF xd⟩
 . have keep:∀ i, σ' i≠none -> σ i≠none:=by
     intro i hn he
     rcases hs i with h | ⟨bk,bk2,h1,_⟩
     . exact hn h
     . rw [he] at h1;simp at h1
   exact hi.inj i j x y (keep i qY) (keep j hj') hne hx hy
 . obtain ⟨h1,h2⟩:=hi.glob g cs hg
   exact ⟨.inl h1,bq.keep ig.step.bare rfl cs 0 h2⟩
theorem Wk.FC {π : Id} {t t':List AV} {σ σ':ae} {n n':Nat} (F:List (Id × dc)) (hF:∀ x∈F, σ x.1=some x.2) (ht:iE F t t')
   (hs:∀ i, σ' i=none∨∃ bk GM, σ i=some bk /\ σ' i=some GM/\adw F i bk GM) (hn:n<=n'):Wk G π ⟨t, σ,n⟩ ⟨t', σ',n'⟩:=fun own E w a hm=>by
 obtain ⟨h1,h2⟩:=FI (p := π) F hF hs hm.inv
 exact ⟨_,h1,ht.vL (hm.inv.sub (ae.xi hF)) hm.frame,h2,hm.free.mono hn,hm.defers⟩
theorem Fin.FC {p:Id} {S:List (Id × dc)} {σ':ae} {r0:AV} {r:fL} (F:List (Id × dc)) (hF:∀ x∈F, σ' x.1=some x.2) (hv:yI F r0 r.val)
   (hs:∀ i,(ae.of S).app r.up i=none∨∃ bk GM, σ' i=some bk/\(ae.of S).app r.up i=some GM/\adw F i bk GM):Fin G p S σ' r0 r :=
 fun own E w v hi hr _=>by
   obtain ⟨h1,h2⟩:=FI (p:=p) F hF hs hi
   exact ⟨_,h1,h2,hv _ _ _ _ _ (hi.sub (ae.xi hF)) hr⟩
end
end Go.VL
end

section
namespace Go.VL
section
variable {P:Program} {G:Nat->Option (List AV)}
end
theorem gB {σ : ae} {k:Nat} {es:List AV}:gG σ k (.sl k es)=some (es,[]):=by simp [gG]
theorem A4 {σ : ae} {k:Nat} {id:Id} {off len:Nat} {t:Bool} {bk:dc} (h : σ id=some bk) (hk:bk.k=k) (hl:off+len<=bk.els.length):gG σ k (.osl id k off len t)=some ((bk.els.drop off).take len,[id]):=by
 simp [gG,h,hk,hl]
theorem yb {σ : ae} {p id:Id} {k bytes len:Nat} {x:AV} {els ys:List AV} {rd:List Id} (hx:gG σ k x=some (ys,rd)) (hy:ys≠[]) (h : σ id=some ⟨els,k,false⟩) (hl:len=els.length)
   (hb:(len+ys.length)*bytes<=140737488355328) (hm:len+ys.length<=maxLen) (h1:(ys.all fun e=>e.cells.all AV.one)=true) (h2:(els.all fun e=>e.cells.all AV.one)=true) :
   fK σ p k bytes (.osl id k 0 len false) x=some { val := .osl p k 0 (len+ys.length) false,rd:=id::rd,up:=[(id,none),(p,some ⟨els++ys,k,false⟩)] }:=by
 have hne:ys.isEmpty=false:=by cases ys<;>simp at hy ⊢
 unfold fK
 rw [hx]
 simp only [hne,h,h1,h2,hl,Bool.false_eq_true,if_false]
 rw [if_pos ⟨trivial,trivial,trivial,Nat.le_refl _,by rw [<- hl];exact hb,by rw [<- hl];exact hm,trivial⟩]
 simp
theorem Lp {σ : ae} {p:Id} {k bytes:Nat} {x:AV} {ys:List AV} {rd:List Id} (hx:gG σ k x=some (ys,rd)) (hy:ys≠[]) (hb:ys.length*bytes<=140737488355328) (hm:ys.length<=maxLen) (h1:(ys.all fun e=>e.cells.all AV.one)=true) :
   fK σ p k bytes .nils x=some { val := .osl p k 0 ys.length false,rd,up:=[(p,some ⟨ys,k,false⟩)] }:=by
 have hne:ys.isEmpty=false:=by cases ys<;>simp at hy ⊢
 unfold fK
 rw [hx]
 simp only [hne,h1,Bool.false_eq_true,if_false]
 rw [if_pos ⟨hb,hm,trivial⟩]
theorem rp {σ : ae} {p:Id} {k bytes:Nat} {x:AV} {es ys:List AV} {rd:List Id} (hx:gG σ k x=some (ys,rd)) (hy:ys≠[]) (hb:(es.length+ys.length)*bytes<=140737488355328) (hm:es.length+ys.length<=maxLen) (h1:((es++ys).all fun e=>e.cells.all AV.one)=true) :
   fK σ p k bytes (.tsl k es) x=some { val := .osl p k 0 (es.length+ys.length) false,rd,up:=[(p,some ⟨es++ys,k,false⟩)] }:=by
 have hne:ys.isEmpty=false:=by cases ys<;>simp at hy ⊢
 unfold fK
 rw [hx]
 simp only [hne,h1,Bool.false_eq_true,if_false]
 rw [if_pos ⟨trivial,hb,hm,trivial⟩]
theorem p6 {σ : ae} {p:Id} {k k' bytes:Nat} {es:List AV} {x:AV} {rd:List Id} (hx:gG σ k x=some ([],rd)):fK σ p k bytes (.tsl k' es) x=some { val := .tsl k' es,rd }:=by
 unfold fK;rw [hx];rfl
theorem gC {n:Nat} (h:n<=140737488355328):n<=maxLen:=Nat.le_trans h (by decide)
theorem bs0 {σ : ae} {p:Id} {k:Nat} {z:AV} (hz:z.size=k) (hz1:z.cells.all AV.one=true):bW σ p (.buildSl k 0 z [])=some { val := .tsl k [] }:=by
 rw [zT];simp only [kY,List.replicate_zero];rw [if_pos ⟨hz,hz1⟩,if_pos trivial]
theorem gK {σ : ae} {p:Id} {k:Nat} {z x:AV} (hx:x.size=k) (Lq:x.cells.all AV.one=true) (hz:z.size=k) (hz1:z.cells.all AV.one=true) :
   bW σ p (.buildSl k 1 z [(0,x)])=some { val := .osl p k 0 1 false,up:=[(p,some ⟨[x],k,false⟩)] }:=by
 rw [zT]
 have e:kY k (List.replicate 1 z) [(0,x)]=some [x]:=by simp only [kY,List.replicate_succ,List.replicate_zero];rw [if_pos ⟨hx,by simp,Lq⟩];rfl
 rw [e];simp only [];rw [if_pos ⟨hz,hz1⟩,if_neg (by decide)]
theorem gO {σ : ae} {p:Id} {k:Nat} {z x y:AV} (hx:x.size=k) (Lq:x.cells.all AV.one=true) (hy:y.size=k) (QQ:y.cells.all AV.one=true) (hz:z.size=k) (hz1:z.cells.all AV.one=true) :
   bW σ p (.buildSl k 2 z [(0,x),(1,y)])=some { val := .osl p k 0 2 false,up:=[(p,some ⟨[x,y],k,false⟩)] }:=by
 rw [zT]
 have e:kY k (List.replicate 2 z) [(0,x),(1,y)]=some [x,y]:=by
   simp only [kY,List.replicate_succ,List.replicate_zero]
   rw [if_pos ⟨hx,by simp,Lq⟩,if_pos ⟨hy,by simp,QQ⟩];rfl
 rw [e];simp only [];rw [if_pos ⟨hz,hz1⟩,if_neg (by decide)]
section
variable {P:Program} {G:Nat->Option (List AV)}
theorem ke {p:Id} {S:List (Id × dc)} {rs:List vI} {r:fL} {s:VS}:Tw G p S rs r .ret s=∃ r0,bn rs s=some r0/\Fin G p S s.σ r0 r:=by simp [Tw]
theorem Nz {p:Id} {S:List (Id × dc)} {rs:List vI} {r:fL} {s:VS}:Tw G p S rs r .normal s=∃ r0,bn rs s=some r0/\Fin G p S s.σ r0 r:=by simp [Tw]
theorem dQ {p:Id} {S:List (Id × dc)} {rs:List vI} {r:fL} {s:VS} (h:bn rs s=some r.val) (hs:∀ i,(ae.of S).app r.up i=none∨(ae.of S).app r.up i=s.σ i):∃ r0,bn rs s=some r0/\Fin G p S s.σ r0 r:=⟨_,h,Fin.same rfl hs⟩
end
theorem aj {σ : ae} {id:Id} {x:AV} {k:Nat} {b agg:Bool} {n o:Nat}:lK (σ.put id (some ⟨[x],k,b⟩)) agg n (.ref id 0 o)=(part agg x.cells o n).map fun v=>{ val:=v,rd:=[id] } :=
 EE (ae.dO _ _ _) rfl
theorem aq {σ : ae} {id id':Id} {b:Option dc} {agg:Bool} {n e o:Nat} (h:id'≠id):lK (σ.put id b) agg n (.ref id' e o)=lK σ agg n (.ref id' e o):=by
 unfold lK;simp only [ae.cN _ _ _ h]
theorem gD {σ : ae} {id:Id} {els:List AV} {k n e o:Nat} {el v:AV} (h : σ id=some ⟨els,k,false⟩) (he:els[e]? = some el) (hn:v.cells.length=n) (ho:o+n<=el.size) (h1:v.cells.all AV.one=true) :
   ir σ n (.ref id e o) v=some { val := .tup [],rd:=[id],up:=[(id,some ⟨els.set e (el.upd o v.cells),k,false⟩)] }:=by
 simp only [ir,h,he]
 rw [if_pos ⟨trivial,hn,ho,h1⟩]
section
variable {P:Program} {G:Nat->Option (List AV)} {π : Id} {Q:bM->VS->Prop} {s:VS}
end
end Go.VL
end

section
set_option linter.unusedVariables false
namespace Go.VL
def dX (c:UInt8):Bool:=(decide ((97:Int)<=c.toNat)&&decide ((c.toNat:Int)<=122))||(decide ((65:Int)<=c.toNat)&&decide ((c.toNat:Int)<=90))
def p7 (c:UInt8):Bool:=decide ((48:Int)<=c.toNat)&&decide ((c.toNat:Int)<=57)
def dD (c:UInt8):Bool:=dX c||p7 c||decide ((c.toNat:Int)=95)
def kS (c:UInt8):AV := .int .u8 c.toNat
theorem eR (c:UInt8):ab (kS c):=ab.int _ _
section
variable {P:Program} {G:Nat->Option (List AV)}
theorem FJ {f:FuncId} (h:Has P f mS) (c:UInt8):VP P G f [kS c] (.bool (dX c)):=by
 refine VP.has h ?_
 unfold dX
 by_cases h1:(97:Int)<=c.toNat<;>by_cases h2:(c.toNat:Int)<=122<;>by_cases h3:(65:Int)<=c.toNat<;>by_cases h4:(c.toNat:Int)<=90 <;>
   (simp only [mS,kS,SS,Nat.reduceAdd,h1,h2,h3,h4,decide_true,decide_false,Bool.and_self,Bool.and_true,Bool.and_false,Bool.or_false,Bool.or_true,Bool.or_self]
    exact ai▸af rfl (ab.bool _))
theorem H0 {f:FuncId} (h:Has P f nW) (c:UInt8):VP P G f [kS c] (.bool (p7 c)):=by
 refine VP.has h ?_
 unfold p7
 by_cases h1:(48:Int)<=c.toNat<;>by_cases h2:(c.toNat:Int)<=57 <;>
   (simp only [nW,kS,SS,Nat.reduceAdd,h1,h2,decide_true,decide_false,Bool.and_self,Bool.and_true,Bool.and_false]
    exact ai▸af rfl (ab.bool _))
theorem Tz {f fl fd:FuncId} (h:Has P f (sy fl fd)) (hl:∀ c,VP P G fl [kS c] (.bool (dX c))) (hd:∀ c,VP P G fd [kS c] (.bool (p7 c))) (c:UInt8) :
   VP P G f [kS c] (.bool (dD c)):=by
 refine VP.has h ?_
 simp only [sy,SS,Nat.reduceAdd]
 refine ah (hl c) (by simp [eR]) ?_
 unfold dD
 cases h1:dX c
 . simp only [SS,Nat.reduceAdd]
   refine ah (hd c) (by simp [eR]) ?_
   cases h2:p7 c
   . by_cases h3:(c.toNat:Int)=95 <;>
     (simp only [SS,Nat.reduceAdd,kS,h3,decide_true,decide_false,Bool.or_true,Bool.or_self]
      exact ai▸af rfl (ab.bool _))
   . simp only [SS,Nat.reduceAdd,Bool.or_true,Bool.true_or]
     exact ai▸af rfl (ab.bool _)
 . simp only [SS,Nat.reduceAdd,Bool.true_or]
   exact ai▸af rfl (ab.bool _)
def gw (p:UInt8->Bool) (s:List UInt8):Nat:=(s.takeWhile p).length
theorem H2 (p:UInt8->Bool):∀ s:List UInt8,gw p s<=s.length
 | []=>Nat.le_refl _
 | c::s=>by unfold gw;simp only [List.takeWhile_cons];split<;>simp;exact H2 p s
theorem H3 (p:UInt8->Bool):∀ (s:List UInt8) (k:Nat),k<gw p s->∃ c,s[k]? = some c/\p c=true
 | [],k,h=>by simp [gw] at h
 | c :: s,k,h=>by
   unfold gw at h;simp only [List.takeWhile_cons] at h
   split at h
   . rename_i hc
     cases k with
     | zero=>exact ⟨c,rfl,hc⟩
     | succ k=>simpa using H3 p s k (by simpa [gw] using h)
   . simp at h
theorem CI (p:UInt8->Bool):∀ (s:List UInt8),s[gw p s]? = none∨∃ c,s[gw p s]? = some c/\p c=false
 | [] => .inl rfl
 | c::s=>by
   unfold gw;simp only [List.takeWhile_cons]
   split
   . simpa [gw] using CI p s
   . rename_i hc;exact .inr ⟨c,rfl,by simpa using hc⟩
theorem jg {s:List UInt8} {k:Nat} {c:UInt8} (h:s[k]? = some c):(if (0:Int)<=(k:Int) then bB ((s[(k:Int).toNat]?).map fun b=>AV.int .u8 b.toNat) else none)=bB (some (kS c)):=by
 rw [if_pos (by omega),Int.toNat_natCast,h];rfl
theorem aD (k:Nat) (h:k<9223372036854775807):IntKind.i64.wrap ((k:Int)+1)=((k+1:Nat):Int):=by rw [IntKind.wrap_i64];omega
theorem Zs {f fw:FuncId} (h:Has P f xj) {p:UInt8->Bool} (hw:∀ c,VP P G fw [kS c] (.bool (p c))) (s:List UInt8) (hs:s.length<9223372036854775807) :
   VP P G f [.str s, .fn (.func fw) [] []] (.int .i64 (gw p s)):=by
 refine VP.has h ?_
 simp only [xj,SS,Nat.reduceAdd,aY]
 refine VW.e9 (α := Nat × Nat) (fun x=>⟨[.str s, .fn (.func fw) [] [], .top, .top, .top, .int .i64 x.1]++List.replicate 14 .top,fun _=>none,x.2⟩) (fun x=>x.1<=gw p s) (fun x=>gw p s-x.1) (0,2) ?_ (Nat.zero_le _) ?_
 . exact Wk.slots (by simp [Fg,List.replicate]) (Nat.le_refl _)
 rintro ⟨k,n⟩ hk
 simp only [] at hk
 have V9:=H2 p s
 simp only [SS,Nat.reduceAdd]
 by_cases hlt:k<gw p s
 . obtain ⟨c,hc,Zt⟩:=H3 p s k hlt
   have h1:(k:Int)<(s.length:Int):=by omega
   simp only [SS,Nat.reduceAdd,h1,decide_true,jg hc]
   refine ah (hw c) (by simp [eR]) ?_
   rw [Zt]
   simp only [SS,Nat.reduceAdd,aD k (by omega)]
   exact ⟨(k+1,_),by simp only [];omega,by simp only [];omega,Wk.slots (by simp [Fg]) (Nat.le_refl _)⟩
 . have YL:k=gw p s:=by omega
   rcases CI p s with h0 | ⟨c,hc,Zt⟩
   . have h1 : ¬ (k:Int)<(s.length:Int):=by have:=List.getElem?_eq_none_iff.1 h0;omega
     simp only [SS,Nat.reduceAdd,h1,decide_false]
     rw [YL]
     exact ai▸af rfl (ab.int _ _)
   . have h1:(k:Int)<(s.length:Int):=by have:=(List.getElem?_eq_some_iff.1 hc).1;omega
     rw [<- YL] at hc
     simp only [SS,Nat.reduceAdd,h1,decide_true,jg hc]
     refine ah (hw c) (by simp [eR]) ?_
     rw [Zt]
     simp only [SS,Nat.reduceAdd]
     rw [YL]
     exact ai▸af rfl (ab.int _ _)
def e6 (s:List UInt8):Bool:=match s with
 | []=>false
 | c::_=>decide (s.length<=24)&&dX c&&decide (gw dD s=s.length)
theorem TA {f fl fs fw:FuncId} (h:Has P f (l3 fl fs fw)) (hl:∀ c,VP P G fl [kS c] (.bool (dX c)))
   (hs:∀ s:List UInt8,s.length<9223372036854775807->VP P G fs [.str s, .fn (.func fw) [] []] (.int .i64 (gw dD s))) (s:List UInt8):VP P G f [.str s] (.bool (e6 s)):=by
 refine VP.has h ?_
 cases s with
 | nil =>
   simp only [l3,SS,Nat.reduceAdd]
   exact ai▸af rfl (ab.bool _)
 | cons c s =>
   have e0:(!((c::s)==([]:List UInt8)))=true:=rfl
   by_cases h1:(((s.length+1:Nat)):Int)<=24
   . have e1:(if (0:Int)<=0 then bB (Option.map (fun b=>AV.int IntKind.u8 ↑b.toNat) (c::s)[Int.toNat 0]?) else none)=bB (some (kS c)):=rfl
     simp only [l3,SS,Nat.reduceAdd,e0,h1,decide_true,e1]
     refine ah (hl c) (by simp [eR]) ?_
     cases h2:dX c
     . simp only [SS,Nat.reduceAdd]
       have:e6 (c::s)=false:=by unfold e6;simp [h2]
       rw [this]
       exact ai▸af rfl (ab.bool _)
     . simp only [SS,Nat.reduceAdd]
       refine ah (hs (c::s) (by simp only [List.length_cons];omega)) (by simp;exact ⟨ab.str _,ab.fn (by simp) (by simp)⟩) ?_
       by_cases h3:gw dD (c::s)=(s.length+1)
       . have h4:(gw dD (c::s):Int)=((s.length+1:Nat):Int):=by omega
         simp only [SS,Nat.reduceAdd,h4,decide_true]
         have:e6 (c::s)=true:=by unfold e6;simp [h2,h3];omega
         rw [this]
         exact ai▸af rfl (ab.bool _)
       . have h4 : ¬ (gw dD (c::s):Int)=((s.length+1:Nat):Int):=by omega
         simp only [SS,Nat.reduceAdd,h4,decide_false]
         have:e6 (c::s)=false:=by unfold e6;simp [h3]
         rw [this]
         exact ai▸af rfl (ab.bool _)
   . simp only [l3,SS,Nat.reduceAdd,e0,h1,decide_false]
     have:e6 (c::s)=false:=by unfold e6;simp only [List.length_cons];simp;intro h;omega
     rw [this]
     exact ai▸af rfl (ab.bool _)
end
end Go.VL
end

section
set_option linter.unusedVariables false
namespace Go.VL
theorem fG {k kk:Nat} {es:List AV} {e:AV} {ik:IntKind} {i:Nat} (hk:kk=k) (h:es[i]? = some e):bK k (.sl kk es) (.int ik (i:Int))=some (.ep e.cells 0):=by
 subst hk
 simp [bK,h]
theorem PF {k:Nat} {id:Id} {off len:Nat} {b:Bool} {ik:IntKind} {i:Nat} (h:i<len):bK k (.osl id k off len b) (.int ik (i:Int))=some (.ref id (off+i) 0):=by
 simp [bK,h]
def CJ:Option Nat->Int
 | some i=>i
 | none => -1
theorem yc {α : Type} {p : α -> Bool} {l:List α} (h:∀ (j:Nat) x,l[j]? = some x->p x=false):l.findIdx? p=none:=by
 rw [List.findIdx?_eq_none_iff]
 intro x hx
 obtain ⟨j,hj⟩:=List.getElem?_of_mem hx
 exact h j x hj
theorem r6 {α : Type} {p : α -> Bool} {l:List α} {i:Nat} {x : α} (hi:l[i]? = some x) (hx:p x=true) (h:∀ (j:Nat) x,j<i->l[j]? = some x->p x=false):l.findIdx? p=some i:=by
 rw [List.findIdx?_eq_some_iff_getElem]
 obtain ⟨hlt,he⟩:=List.getElem?_eq_some_iff.1 hi
 refine ⟨hlt,by rw [he];exact hx,fun j Zu => ?_⟩
 have:=h j _ Zu (List.getElem?_eq_getElem (by omega))
 simp [this]
section
variable {P:Program} {G:Nat->Option (List AV)}
end
end Go.VL
end

section
namespace Go.VL
def ay:Nat:=4294967296
theorem Lr:1<ay:=by decide
theorem bZ:0<ay:=by decide
def val:List Nat->Nat
 | []=>0
 | w::r=>w+ay*val r
def Wd (ws:List Nat):Prop:=∀ w∈ws,w<ay
def digits (n:Nat):List Nat:=if _h:n=0 then [] else n%ay::digits (n/ay)
termination_by n
decreasing_by exact Nat.div_lt_self (Nat.pos_of_ne_zero _h) Lr
theorem bo:digits 0=[]:=by rw [digits];simp
theorem iU {n:Nat} (h:n≠0):digits n=n%ay::digits (n/ay):=by rw [digits];simp [h]
theorem aI (n:Nat):val (digits n)=n:=by
 induction n using Nat.strongRecOn with
 | _ n ih =>
   by_cases h:n=0
   . subst h;rw [bo];rfl
   . rw [iU h,val,ih _ (Nat.div_lt_self (Nat.pos_of_ne_zero h) Lr)]
     exact Nat.mod_add_div n ay
theorem aQ (n:Nat):Wd (digits n):=by
 induction n using Nat.strongRecOn with
 | _ n ih =>
   by_cases h:n=0
   . subst h;rw [bo];intro w hw;simp at hw
   . rw [iU h]
     intro w hw
     rcases List.mem_cons.1 hw with rfl | hw
     . exact Nat.mod_lt _ (by decide)
     . exact ih _ (Nat.div_lt_self (Nat.pos_of_ne_zero h) Lr) w hw
theorem lr {n:Nat}:digits n=[]↔n=0:=by
 constructor
 . intro h
   have:=aI n
   rw [h] at this
   exact this.symm
 . rintro rfl;exact bo
theorem bO (a b:List Nat):val (a++b)=val a+ay ^ a.length*val b:=by
 induction a with
 | nil=>simp [val]
 | cons x a ih =>
   simp only [List.cons_append,val,ih,List.length_cons,Nat.pow_succ]
   rw [Nat.mul_add, <- Nat.add_assoc]
   congr 1
   rw [<- Nat.mul_assoc,Nat.mul_comm (ay ^ a.length) ay]
theorem eF {ws:List Nat} (h:Wd ws):val ws<ay ^ ws.length:=by
 induction ws with
 | nil=>simp [val]
 | cons w ws ih =>
   have h1:=ih (fun x hx=>h x (List.mem_cons_of_mem _ hx))
   have h2:=h w (by simp)
   simp only [val,List.length_cons,Nat.pow_succ]
   have h3:ay*(val ws+1)<=ay*ay ^ ws.length:=Nat.mul_le_mul_left _ h1
   rw [Nat.mul_comm (ay ^ ws.length) ay]
   rw [Nat.mul_add] at h3
   omega
theorem sk {ws:List Nat} (h:∀ w∈ws,w=0):val ws=0:=by
 induction ws with
 | nil=>rfl
 | cons w ws ih=>simp only [val];rw [ih (fun x hx=>h x (List.mem_cons_of_mem _ hx)),h w (by simp)];rfl
theorem jG {ws:List Nat} (h:Wd ws) (h0:ws=[]∨∃ w,ws.getLast? = some w/\w≠0):digits (val ws)=ws:=by
 induction ws with
 | nil=>simp [val,bo]
 | cons w ws ih =>
   have hw:=h w (by simp)
   have PG:Wd ws:=fun x hx=>h x (List.mem_cons_of_mem _ hx)
   cases ws with
   | nil =>
     rcases h0 with h0 | ⟨x,hx,hne⟩
     . simp at h0
     . simp at hx;subst hx
       simp only [val,Nat.mul_zero,Nat.add_zero]
       rw [iU hne,Nat.mod_eq_of_lt hw,Nat.div_eq_of_lt hw,bo]
   | cons y ws =>
     have hl:∃ x,(y::ws).getLast? = some x/\x≠0:=by
       rcases h0 with h0 | ⟨x,hx,hne⟩
       . simp at h0
       . exact ⟨x,by simpa [List.getLast?_cons_cons] using hx,hne⟩
     have hih:=ih PG (.inr hl)
     have hv:val (y::ws)≠0:=by
       intro e
       have:digits (val (y::ws))=[]:=by rw [e,bo]
       rw [hih] at this;simp at this
     have hne:val (w::y::ws)≠0:=by
       simp only [val] at hv ⊢
       have:0<ay*(y+ay*val ws):=Nat.mul_pos (by decide) (Nat.pos_of_ne_zero hv)
       omega
     rw [iU hne]
     have e1:val (w::y::ws)%ay=w:=by
       show (w+ay*val (y::ws))%ay=w
       rw [Nat.add_mul_mod_self_left];exact Nat.mod_eq_of_lt hw
     have e2:val (w::y::ws)/ay=val (y::ws):=by
       show (w+ay*val (y::ws))/ay=_
       rw [Nat.add_mul_div_left _ _ (by decide),Nat.div_eq_of_lt hw,Nat.zero_add]
     rw [e1,e2,hih]
theorem uv {n:Nat}:digits n=[]∨∃ w,(digits n).getLast? = some w/\w≠0:=by
 induction n using Nat.strongRecOn with
 | _ n ih =>
   by_cases h:n=0
   . left;subst h;exact bo
   . right
     rw [iU h]
     rcases ih _ (Nat.div_lt_self (Nat.pos_of_ne_zero h) Lr) with h1 | ⟨w,h1,h2⟩
     . have hd:=lr.1 h1
       rw [h1]
       refine ⟨n%ay,rfl, ?_⟩
       rw [Nat.mod_eq_of_lt]
       . exact h
       . rcases Nat.div_eq_zero_iff.1 hd with h3 | h3
         . exact absurd h3 (by decide)
         . exact h3
     . cases hd:digits (n/ay) with
       | nil=>rw [hd] at h1;simp at h1
       | cons x xs=>rw [hd] at h1;exact ⟨w,by simpa [List.getLast?_cons_cons] using h1,h2⟩
theorem jH (ws:List Nat):val (ws++[0])=val ws:=by rw [bO];simp [val]
theorem jP {ws:List Nat} (h:Wd ws) (k:Nat):Wd (ws.take k):=fun w hw=>h w (List.mem_of_mem_take hw)
theorem c9 {a b:List Nat} (ha:Wd a) (hb:Wd b):Wd (a++b):=fun w hw=>(List.mem_append.1 hw).elim (ha w) (hb w)
def aa (n:Nat):Nat:=(digits n).length
theorem de (n:Nat):n<ay ^ aa n:=by have:=eF (aQ n);rwa [aI] at this
theorem dH {n k:Nat} (h:n<ay ^ k):aa n<=k:=by
 induction k generalizing n with
 | zero=>simp at h;subst h;simp [aa,bo]
 | succ k ih =>
   by_cases h0:n=0
   . subst h0;simp [aa,bo]
   . unfold aa
     rw [iU h0]
     have:n/ay<ay ^ k:=by rw [Nat.pow_succ] at h;exact Nat.div_lt_of_lt_mul (by rwa [Nat.mul_comm])
     have:=ih this
     simp only [List.length_cons]
     unfold aa at this
     omega
theorem bg {m n:Nat} (h:m<=n):aa m<=aa n:=dH (Nat.lt_of_le_of_lt h (de n))
theorem uw {n:Nat} (h:n≠0):ay ^ (aa n-1)<=n:=by
 rcases Nat.lt_or_ge n (ay ^ (aa n-1)) with h1 | h1
 . have:=dH h1
   have h2:0<aa n:=by
     unfold aa
     cases hd:digits n with
     | nil=>exact absurd (lr.1 hd) h
     | cons _ _=>simp
   omega
 . exact h1
theorem rq (m n:Nat):aa (m*n)<=aa m+aa n:=by
 refine dH ?_
 rw [Nat.pow_add]
 exact Nat.mul_lt_mul'' (de m) (de n)
end Go.VL
end

section
set_option linter.unusedVariables false
namespace Go.VL
def us (ws:List Nat):List AV:=ws.map fun w:Nat => .int .u32 (w:Int)
def W (n:Nat):AV := .sl 1 (us (digits n))
theorem eL (ws:List Nat):(us ws).length=ws.length:=by simp [us]
theorem qP {ws:List Nat} {i w:Nat} (h:ws[i]? = some w):(us ws)[i]? = some (.int .u32 (w:Int)):=by simp [us,h]
theorem Ls (ws:List Nat) (k:Nat):(us ws).take k=us (ws.take k):=by simp [us,List.map_take]
theorem Fe (a b:List Nat):us (a++b)=us a++us b:=by simp [us]
theorem RN (ws:List Nat):flat (us ws)=us ws:=by
 induction ws with
 | nil=>rfl
 | cons w ws ih=>simp only [us,List.map_cons,flat,List.flatMap_cons,AV.cells] at ih ⊢;rw [ih];rfl
theorem Bm (ws:List Nat):ab (.sl 1 (us ws)):=ab.sl (by rw [RN];intro c hc;simp only [us,List.mem_map] at hc;obtain ⟨w,_,rfl⟩:=hc;exact ab.int _ _)
theorem tk (ws:List Nat):∀ c∈flat (us ws),ab c:=by rw [RN];intro c hc;simp only [us,List.mem_map] at hc;obtain ⟨w,_,rfl⟩:=hc;exact ab.int _ _
theorem yd (ws:List Nat):∀ e∈us ws,e.size=1:=by intro e he;simp only [us,List.mem_map] at he;obtain ⟨w,_,rfl⟩:=he;rfl
theorem PH (ws:List Nat):((us ws).all fun e=>e.cells.all AV.one)=true:=by rw [List.all_eq_true];intro e he;simp only [us,List.mem_map] at he;obtain ⟨w,_,rfl⟩:=he;rfl
theorem aC (n:Nat):ab (W n):=Bm _
theorem bp {k:IntKind} {n:Int}:part false (AV.int k n).cells 0 1=some (.int k n):=rfl
theorem vz (k:Nat) (h:0<k) (h2:k<=9223372036854775807):IntKind.i64.wrap ((k:Int)-1)=((k-1:Nat):Int):=by rw [IntKind.wrap_i64];omega
theorem aw {p:Prop} [Decidable p] (h:p):decide p=true:=decide_eq_true h
theorem ak {p:Prop} [Decidable p] (h : ¬ p):decide p=false:=decide_eq_false h
theorem Wa {k kk:Nat} {es:List AV} {h:Nat} (hk:kk=k) (hh:h<=es.length):gh k (.sl kk es) none (some (.int .i64 (h:Int))) none=some (.sl k (es.take h)):=by
 subst hk
 simp [gh,iW,lv,hh]
theorem PI {k kk:Nat} {es:List AV} {l:Nat} (hk:kk=k) (hh:l<=es.length):gh k (.sl kk es) (some (.int .i64 (l:Int))) none none=some (.sl k (es.drop l)):=by
 subst hk
 simp [gh,iW,lv,hh]
section
variable {P:Program} {G:Nat->Option (List AV)}
theorem RO {f:FuncId} (h:Has P f gQ) {ws:List Nat} (hw:Wd ws) (hl:ws.length<=9223372036854775807):VP P G f [.sl 1 (us ws)] (W (val ws)):=by
 refine VP.has h ?_
 simp only [gQ,SS,aY]
 refine VW.e9 (α := Nat × Nat) (fun x=>⟨[.sl 1 (us (ws.take x.1))]++List.replicate 20 .top,fun _=>none,x.2⟩) (fun x=>x.1<=ws.length/\val (ws.take x.1)=val ws) (fun x=>x.1) (ws.length,1) ?_ ⟨Nat.le_refl _,by rw [List.take_length]⟩ ?_
 . exact Wk.slots (by simp [Fg,List.replicate]) (Nat.le_refl _)
 rintro ⟨k,n⟩ ⟨hk,hv⟩
 simp only [] at hk hv
 have Zk:(us (ws.take k)).length=k:=by rw [eL,List.length_take];omega
 simp only [SS,Nat.reduceAdd,Zk]
 by_cases h0:k=0
 . subst h0
   have d0:decide ((0:Int)<((0:Nat):Int))=false:=by decide
   simp only [SS,Nat.reduceAdd,d0]
   refine ai▸af (r:=W (val ws)) ?_ (aC _)
   have:digits (val ws)=[]:=by rw [<- hv];simp [val,bo]
   simp [bn,bC,W,us,this]
 . have re:0<k:=Nat.pos_of_ne_zero h0
   have d0:decide ((0:Int)<(k:Int))=true:=aw (by omega)
   have QX:=vz k re (by omega)
   obtain ⟨w,hwk⟩:∃ w,ws[k-1]? = some w:=⟨ws[k-1],by rw [List.getElem?_eq_getElem]⟩
   have ahc:(ws.take k)[k-1]? = some w:=by rw [List.getElem?_take_of_lt (by omega)];exact hwk
   have RP:ws.take k=ws.take (k-1)++[w]:=by
     have:=List.take_add_one (l:=ws) (i:=k-1)
     rw [hwk,show k-1+1=k from by omega] at this
     simpa using this
   have V9:k-1<=(us (ws.take k)).length:=by rw [Zk];omega
   by_cases hz:w=0
   . have d1:decide ((w:Int)=0)=true:=aw (by omega)
     simp only [SS,Nat.reduceAdd,d0,QX,fG rfl (qP ahc),aK,bp,d1,Zk,Wa rfl V9]
     have hm:min (k-1) k=k-1:=Nat.min_eq_left (Nat.sub_le _ _)
     refine ⟨(k-1,_),⟨by simp only [];omega, ?_⟩,by simp only [];omega,Wk.slots (by simp [Fg,Ls,List.take_take,hm]) (Nat.le_refl _)⟩
     simp only []
     rw [<- hv,RP,hz,jH]
   . have d1:decide ((w:Int)=0)=false:=ak (by omega)
     simp only [SS,Nat.reduceAdd,d0,QX,fG rfl (qP ahc),aK,bp,d1,Zk]
     refine ai▸af (r:=W (val ws)) ?_ (aC _)
     have e:digits (val ws)=ws.take k:=by
       rw [<- hv]
       exact jG (jP hw k) (.inr ⟨w,by rw [RP];simp,hz⟩)
     simp [bn,bC,W,e]
end
end Go.VL
end
