/- For the claim of FeatureMirror: parts GS, GT, MHas, MUP, VL28, VL29, CLex, CB, WN, CI1. -/
import Derived.Test.YtchdghnpcekegaaGreatC03
import Derived.Test.YtchdghnpcekegaaGreatProg
import Derived.KernelRfl
import Derived.Test.YtchdghnpcekegaaGreatC04
import Derived.RangeFuncBox
import Derived.RangeFuncLeaves
import Derived.Shelf.Abstract
import Derived.WalkKit
import Derived.OwnWalkIn
import Derived.TacticsInMore
import Derived.LoopNIn
import Derived.LoopIn
set_option linter.unusedSimpArgs false
set_option linter.unusedVariables false
section
set_option maxRecDepth 100000
namespace Go.VL
def xi (eG aU ve D8 bQ iD:Nat):az:=⟨73,[(.tmp 0)],(cS [oB 0 false] (cS [⟨some 10,.call (.f eG) [(.c (.int .i64 0)),(.c (.int .i64 0)),(.c (.int .i64 4)),(.c (.int .i64 0))],none⟩,⟨some 11,.build [(.str []),(.bool false),.nils,.nils,.nils,.nils,.nils,.nils,.nils,.nils,.nils,.nils,.nils,.nils,(.bool false)] [(0,(1,(.c (.str [97])))),(1,(14,(.t 10)))],none⟩,⟨some 12,.call (.f eG) [(.c (.int .i64 0)),(.c (.int .i64 0)),(.c (.int .i64 0)),(.c (.int .i64 4))],none⟩,⟨some 13,.build [(.str []),(.bool false),.nils,.nils,.nils,.nils,.nils,.nils,.nils,.nils,.nils,.nils,.nils,.nils,(.bool false)] [(0,(1,(.c (.str [98])))),(1,(14,(.t 12)))],none⟩,⟨some 14,.buildSl 15 2 (.agg [(.str []),(.bool false),.nils,.nils,.nils,.nils,.nils,.nils,.nils,.nils,.nils,.nils,.nils,.nils,(.bool false)]) [(0,(.t 11)),(1,(.t 13))],none⟩,oM 1 14] (cS [oM 16 1,⟨some 17,.call (.f aU) [(.c (.int .i64 1))],none⟩,⟨some 18,.call (.f ve) [(.c (.str [102])),(.t 16),(.c (.str [97])),(.c (.str [98])),(.t 17)],none⟩,oM 15 18,oE 19 15 0,oE 20 15 1,oM 2 19,oM 3 20] (cS [oM 22 1,⟨some 23,.call (.f aU) [(.c (.int .i64 4))],none⟩,⟨some 24,.call (.f ve) [(.c (.str [102])),(.t 22),(.c (.str [97])),(.c (.str [98])),(.t 23)],none⟩,oM 21 24,oE 25 21 0,oE 26 21 1,oM 4 25,oM 5 26] (cS [oM 28 1,⟨some 29,.buildSl 1 1 (.str []) [(0,(.c (.str [97])))],none⟩,⟨some 30,.call (.f aU) [(.c (.int .i64 2))],none⟩,⟨some 31,.call (.f D8) [(.c (.str [103])),(.t 28),(.t 29),(.t 30)],none⟩,oM 27 31,oE 32 27 0,oE 33 27 1,oM 6 32,oM 7 33] (cS [⟨some 34,.call (.f bQ) [(.c (.int .i64 1)),(.c (.int .i64 0))],none⟩,⟨some 35,.call (.f bQ) [(.c (.int .i64 0)),(.c (.int .i64 1))],none⟩,⟨some 36,.call (.f bQ) [(.c (.int .i64 1)),(.c (.int .i64 1))],none⟩,⟨some 37,.build [(.bool false),.nils,.nils,.nils,.nils,.nils,.nils,.nils,.nils,.nils,.nils,.nils,.nils,(.bool false)] [(0,(1,(.c (.bool true)))),(1,(4,(.t 34))),(5,(4,(.t 35))),(9,(4,(.t 36))),(13,(1,(.c (.bool true))))],none⟩,⟨some 8,.box (.c (.agg [(.bool false),.nils,.nils,.nils,.nils,.nils,.nils,.nils,.nils,.nils,.nils,.nils,.nils,(.bool false)])),none⟩,oS 14 8 37] (.seq (.reg (some [(0,4),(2,4)]) [⟨some 38,.call (.f eG) [(.c (.int .i64 1)),(.c (.int .i64 0)),(.c (.int .i64 4)),(.c (.int .i64 0))],none⟩,⟨some 39,.build [(.str []),(.bool false),.nils,.nils,.nils,.nils,.nils,.nils,.nils,.nils,.nils,.nils,.nils,.nils,(.bool false)] [(0,(1,(.c (.str [97])))),(1,(14,(.t 38)))],none⟩,⟨some 40,.call (.f eG) [(.c (.int .i64 0)),(.c (.int .i64 1)),(.c (.int .i64 0)),(.c (.int .i64 4))],none⟩,⟨some 41,.build [(.str []),(.bool false),.nils,.nils,.nils,.nils,.nils,.nils,.nils,.nils,.nils,.nils,.nils,.nils,(.bool false)] [(0,(1,(.c (.str [98])))),(1,(14,(.t 40)))],none⟩,aK 42 14 8,⟨some 43,.build [(.str []),(.bool false),.nils,.nils,.nils,.nils,.nils,.nils,.nils,.nils,.nils,.nils,.nils,.nils,(.bool false)] [(0,(1,(.c (.str [102,47,48])))),(1,(14,(.t 42)))],none⟩,⟨some 44,.buildSl 15 3 (.agg [(.str []),(.bool false),.nils,.nils,.nils,.nils,.nils,.nils,.nils,.nils,.nils,.nils,.nils,.nils,(.bool false)]) [(0,(.t 39)),(1,(.t 41)),(2,(.t 43))],none⟩,oM 9 44]) (.seq (.reg (some [(22,23),(22,25)]) [oM 45 3,bn 46 .eql 45 0,oM 47 46,gM 48 5 47 true,⟨some 49,.bin .eql .int (.t 48) (.c (.int .i64 16)),some (47,true)⟩,oo 50 47 49,oM 51 50,gM 52 7 51 true,⟨some 53,.bin .eql .int (.t 52) (.c (.int .i64 0)),some (51,true)⟩,oo 54 51 53,oM 55 54,gM 56 2 55 true,gM 57 9 55 true,⟨some 58,.call (.f iD) [(.t 56),(.t 57)],some (55,true)⟩,oo 59 55 58,oM 60 59,gM 61 6 60 true,gN 62 61 60 true,⟨some 63,.bin .eql .int (.t 62) (.c (.int .i64 3)),some (60,true)⟩,oo 64 60 63,oM 65 64,gM 66 6 65 true,⟨some 67,.slice 15 (.t 66) (some (.c (.int .i64 2))) none none,some (65,true)⟩,⟨some 68,.call (.f eG) [(.c (.int .i64 0)),(.c (.int .i64 2)),(.c (.int .i64 4)),(.c (.int .i64 2))],some (65,true)⟩,⟨some 69,.build [(.str []),(.bool false),.nils,.nils,.nils,.nils,.nils,.nils,.nils,.nils,.nils,.nils,.nils,.nils,(.bool false)] [(0,(1,(.c (.str [103,47,97])))),(1,(14,(.t 68)))],some (65,true)⟩,⟨some 70,.buildSl 15 1 (.agg [(.str []),(.bool false),.nils,.nils,.nils,.nils,.nils,.nils,.nils,.nils,.nils,.nils,.nils,.nils,(.bool false)]) [(0,(.t 69))],some (65,true)⟩,⟨some 71,.call (.f iD) [(.t 67),(.t 70)],some (65,true)⟩,oo 72 65 71,oM 0 72]) .ret))))))))⟩
def uf (bQ:Nat):az:=⟨16,[(.cell 8 true 14)],(cS [⟨some 8,.box (.c (.agg [(.bool false),.nils,.nils,.nils,.nils,.nils,.nils,.nils,.nils,.nils,.nils,.nils,.nils,(.bool false)])),none⟩] (cS [oM 9 0,oM 10 1,bf 11 bQ 9 10,oM 12 2,oM 13 3,bf 14 bQ 12 13,⟨some 15,.build [(.bool false),.nils,.nils,.nils,.nils,.nils,.nils,.nils,.nils,.nils,.nils,.nils,.nils,(.bool false)] [(1,(4,(.t 11))),(5,(4,(.t 14)))],none⟩,oS 14 8 15] .ret))⟩
def D9 (jT Ea fC FA eH iM rN mL:Nat):az:=⟨119,[(.tmp 10),(.tmp 11)],(cS [oX 9 4,oZ 10,oI 11 0] (cS [oM 21 0,oM 22 1,oM 23 2,oM 24 3,⟨some 25,.buildSl 1 2 (.str []) [(0,(.t 23)),(1,(.t 24))],none⟩,⟨some 26,.call (.f jT) [(.t 21),(.t 22),(.t 25)],none⟩,oM 20 26,oE 27 20 0,oE 28 20 1,oM 12 27,oM 13 28] (.seq (cS [oM 29 13,bn 30 .neq 29 0] (.cond (.t 30) (cS [oM 31 13,oZ 10,oM 11 31] .ret) .skip)) (.seq (.reg (some [(2,12),(5,12),(6,12),(2,13),(5,13),(6,13),(12,13),(2,14),(5,14),(6,14),(12,14),(13,14)]) [oM 33 12,⟨some 34,.iaddrS 14 (.t 33) (.c (.int .i64 0)),none⟩,aK 35 14 34,oM 36 12,⟨some 37,.iaddrS 14 (.t 36) (.c (.int .i64 1)),none⟩,aK 38 14 37,bf 39 Ea 35 38,oM 32 39,oE 40 32 0,oE 41 32 1,oE 42 32 2,oE 43 32 3,⟨some 14,.box (.c (.agg [.nils,.nils,.nils,.nils])),none⟩,⟨some 15,.box (.c (.agg [.nils,.nils,.nils,.nils])),none⟩,⟨some 16,.box (.c (.agg [.nils,.nils,.nils,.nils])),none⟩,oS 4 14 40,oS 4 15 41,oS 4 16 42,oM 17 43]) (.seq (.block 0 (cS [oM 45 12,⟨some 46,.iaddrS 14 (.t 45) (.c (.int .i64 0)),none⟩,oF 47 0 46,oL 48 1 47,oM 49 48,gM 50 12 49 false,⟨some 51,.iaddrS 14 (.t 50) (.c (.int .i64 1)),some (49,false)⟩,gF 52 0 51 49 false,gL 53 1 52 49 false,yh 54 49 53,oM 55 54,gM 56 17 55 false,⟨some 57,.un .not (.t 56),some (55,false)⟩,yh 58 55 57,oM 44 58] (.cond (.t 44) (cS [oZ 10,oI 11 1] .ret) (cS [aK 60 4 9,oC 61 fC 60,bn 62 .leq 61 0,oM 59 62] (.cond (.t 59) (cS [oZ 10,oI 11 6] .ret) .skip))))) (cS [aK 64 4 14,aK 65 4 15,aK 66 4 16,aK 67 4 9,⟨some 68,.call (.f FA) [(.t 64),(.t 65),(.t 66),(.t 67)],none⟩,oM 63 68,oE 69 63 0,oE 70 63 1,⟨some 18,.box (.c (.agg [.nils,.nils,.nils,.nils,.nils,.nils,.nils,.nils,.nils,.nils,.nils,.nils,(.bool false)])),none⟩,oS 13 18 69,oM 13 70] (.seq (cS [oM 71 13,bn 72 .neq 71 0] (.cond (.t 72) (cS [oM 73 13,oZ 10,oM 11 73] .ret) .skip)) (cS [oM 74 1,oC 75 eH 74,oM 19 75] (.seq (.reg (some [(3,6),(3,7),(3,9)]) [oM 76 19,oM 77 1,oM 78 2,bf 79 iM 77 78,oM 80 12,⟨some 81,.iaddrS 14 (.t 80) (.c (.int .i64 0)),none⟩,aK 82 14 81,aK 83 4 14,oF 84 0 18,aK 85 4 84,⟨some 86,.call (.f rN) [(.t 82),(.t 83),(.t 85)],none⟩,oA 87 15 76 79,oF 88 1 87,oS 14 88 86]) (.seq (.reg (some [(3,6),(3,7),(3,9)]) [oM 89 19,oM 90 1,oM 91 3,bf 92 iM 90 91,oM 93 12,⟨some 94,.iaddrS 14 (.t 93) (.c (.int .i64 1)),none⟩,aK 95 14 94,aK 96 4 14,oF 97 4 18,aK 98 4 97,⟨some 99,.call (.f rN) [(.t 95),(.t 96),(.t 98)],none⟩,oA 100 15 89 92,oF 101 1 100,oS 14 101 99]) (cS [oM 102 19,oM 103 0,⟨some 104,.bin .add .str (.t 103) (.c (.str [47,48])),none⟩,oF 105 0 18,aK 106 4 105,oF 107 4 18,aK 108 4 107,oF 109 8 18,aK 110 4 109,oF 111 12 18,oL 112 1 111,⟨some 113,.build [(.bool false),.nils,.nils,.nils,.nils,.nils,.nils,.nils,.nils,.nils,.nils,.nils,.nils,(.bool false)] [(0,(1,(.c (.bool true)))),(1,(4,(.t 106))),(5,(4,(.t 108))),(9,(4,(.t 110))),(13,(1,(.t 112)))],none⟩,⟨some 114,.build [(.str []),(.bool false),.nils,.nils,.nils,.nils,.nils,.nils,.nils,.nils,.nils,.nils,.nils,.nils,(.bool false)] [(0,(1,(.t 104))),(1,(14,(.t 113)))],none⟩,⟨some 115,.buildSl 15 1 (.agg [(.str []),(.bool false),.nils,.nils,.nils,.nils,.nils,.nils,.nils,.nils,.nils,.nils,.nils,.nils,(.bool false)]) [(0,(.t 114))],none⟩,bf 116 mL 102 115,oE 117 116 0,oE 118 116 1,oM 10 117,oM 11 118] .ret)))))))))))⟩
def Eb (jT fC Bv mL:Nat):az:=⟨67,[(.tmp 8),(.tmp 9)],(cS [oX 7 3,oZ 8,oI 9 0] (cS [oM 18 0,oM 19 1,oM 20 2,⟨some 21,.call (.f jT) [(.t 18),(.t 19),(.t 20)],none⟩,oM 17 21,oE 22 17 0,oE 23 17 1,oM 10 22,oM 11 23] (.seq (cS [oM 24 11,bn 25 .neq 24 0] (.cond (.t 25) (cS [oM 26 11,oZ 8,oM 9 26] .ret) .skip)) (.seq (cS [aK 27 4 7,oC 28 fC 27,bn 29 .eql 28 0] (.cond (.t 29) (cS [oZ 8,oI 9 6] .ret) .skip)) (cS [oM 30 2,oN 31 30,⟨some 32,.mksl 15 320 (.agg [(.str []),(.bool false),.nils,.nils,.nils,.nils,.nils,.nils,.nils,.nils,.nils,.nils,.nils,.nils,(.bool false)]) (.t 31) (.t 31),none⟩,oM 12 32] (.seq (cS [oM 33 10,oN 34 33,oI 35 0] (.block 0 (.loop (cS [oT 36 .lss 35 34] (.seq (.cond (.t 36) .skip (.exit 0)) (.seq (.block 1 (cS [oM 37 35,oA 38 14 33 35,aK 39 14 38,⟨some 14,.box (.c (.agg [(.bool false),.nils,.nils,.nils,.nils,.nils,.nils,.nils,.nils,.nils,.nils,.nils,.nils,(.bool false)])),none⟩,oM 13 37,oS 14 14 39] (cS [aK 41 14 14,aK 42 4 7,bf 43 Bv 41 42,oM 40 43,oE 44 40 0,oE 45 40 1,⟨some 15,.box (.c (.agg [(.bool false),.nils,.nils,.nils,.nils,.nils,.nils,.nils,.nils,.nils,.nils,.nils,.nils,(.bool false)])),none⟩,oS 14 15 44,oM 16 45] (.seq (cS [oM 46 16,bn 47 .neq 46 0] (.cond (.t 47) (cS [oM 48 16,oZ 8,oM 9 48] .ret) .skip)) (.reg (some []) [oM 49 12,oM 50 13,oM 51 0,⟨some 52,.bin .add .str (.t 51) (.c (.str [47])),none⟩,oM 53 2,oM 54 13,oA 55 1 53 54,oL 56 1 55,⟨some 57,.bin .add .str (.t 52) (.t 56),none⟩,aK 58 14 15,⟨some 59,.build [(.str []),(.bool false),.nils,.nils,.nils,.nils,.nils,.nils,.nils,.nils,.nils,.nils,.nils,.nils,(.bool false)] [(0,(1,(.t 57))),(1,(14,(.t 58)))],none⟩,oA 60 15 49 50,oS 15 60 59]))))) (cR [bn 61 .add 35 1,oM 35 61]))))))) (cS [oM 62 1,oM 63 12,bf 64 mL 62 63,oE 65 64 0,oE 66 64 1,oM 8 65,oM 9 66] .ret)))))))⟩
def Ec (mM:Nat):az:=⟨60,[(.cell 4 true 4),(.cell 5 true 4),(.cell 6 true 4),(.tmp 7)],(cS [oX 2 0,oX 3 1,⟨some 4,.box (.c (.agg [.nils,.nils,.nils,.nils])),none⟩,⟨some 5,.box (.c (.agg [.nils,.nils,.nils,.nils])),none⟩,⟨some 6,.box (.c (.agg [.nils,.nils,.nils,.nils])),none⟩,oB 7 false] (.seq (cS [oF 12 1 2,aK 13 4 12,oF 14 5 2,aK 15 4 14,⟨some 16,.build [.nils,.nils,.nils,.nils,.nils,.nils,.nils,.nils] [(0,(4,(.t 13))),(4,(4,(.t 15)))],none⟩,oF 17 5 2,aK 18 4 17,oF 19 1 2,aK 20 4 19,⟨some 21,.build [.nils,.nils,.nils,.nils,.nils,.nils,.nils,.nils] [(0,(4,(.t 18))),(4,(4,(.t 20)))],none⟩,⟨some 22,.buildSl 8 2 (.agg [.nils,.nils,.nils,.nils,.nils,.nils,.nils,.nils]) [(0,(.t 16)),(1,(.t 21))],none⟩,oN 23 22,oI 24 0] (.block 0 (.loop (cS [oT 25 .lss 24 23] (.seq (.cond (.t 25) .skip (.exit 0)) (.seq (.block 1 (cS [oA 26 8 22 24,aK 27 8 26,⟨some 9,.box (.c (.agg [.nils,.nils,.nils,.nils,.nils,.nils,.nils,.nils])),none⟩,oS 8 9 27] (cS [oF 28 1 3,aK 29 4 28,oF 30 5 3,aK 31 4 30,⟨some 32,.build [.nils,.nils,.nils,.nils,.nils,.nils,.nils,.nils] [(0,(4,(.t 29))),(4,(4,(.t 31)))],none⟩,oF 33 5 3,aK 34 4 33,oF 35 1 3,aK 36 4 35,⟨some 37,.build [.nils,.nils,.nils,.nils,.nils,.nils,.nils,.nils] [(0,(4,(.t 34))),(4,(4,(.t 36)))],none⟩,⟨some 38,.buildSl 8 2 (.agg [.nils,.nils,.nils,.nils,.nils,.nils,.nils,.nils]) [(0,(.t 32)),(1,(.t 37))],none⟩,oN 39 38,oI 40 0] (.block 2 (.loop (cS [oT 41 .lss 40 39] (.seq (.cond (.t 41) .skip (.exit 2)) (.seq (.block 3 (cS [oA 42 8 38 40,aK 43 8 42,⟨some 11,.box (.c (.agg [.nils,.nils,.nils,.nils,.nils,.nils,.nils,.nils])),none⟩,oS 8 11 43] (cS [⟨some 44,.iaddrA 2 4 (.t 9) (.c (.int .i64 0)),none⟩,aK 45 4 44,⟨some 46,.iaddrA 2 4 (.t 11) (.c (.int .i64 0)),none⟩,aK 47 4 46,bf 48 mM 45 47] (.cond (.t 48) (.seq (.reg (some [(3,6),(5,6),(5,7)]) [⟨some 49,.iaddrA 2 4 (.t 9) (.c (.int .i64 0)),none⟩,aK 50 4 49,⟨some 51,.iaddrA 2 4 (.t 9) (.c (.int .i64 1)),none⟩,aK 52 4 51,⟨some 53,.iaddrA 2 4 (.t 11) (.c (.int .i64 1)),none⟩,aK 54 4 53,oS 4 4 50,oS 4 5 52,oS 4 6 54,oB 7 true]) .ret) .skip)))) (cR [bn 55 .add 40 1,oM 40 55]))))))))) (cR [bn 56 .add 24 1,oM 24 56]))))))) (cS [⟨some 57,.build [.nils,.nils,.nils,.nils] [],none⟩,⟨some 58,.build [.nils,.nils,.nils,.nils] [],none⟩,⟨some 59,.build [.nils,.nils,.nils,.nils] [],none⟩,oS 4 4 57,oS 4 5 58,oS 4 6 59,oB 7 false] .ret)))⟩
def FB (fU G9 bB hJ gh jJ kQ rO gX kg dw mV cH dx:Nat):az:=⟨184,[(.cell 8 true 13),(.tmp 9)],(cS [oX 4 0,oX 5 1,oX 6 2,oX 7 3,⟨some 8,.box (.c (.agg [.nils,.nils,.nils,.nils,.nils,.nils,.nils,.nils,.nils,.nils,.nils,.nils,(.bool false)])),none⟩,oI 9 0] (cS [⟨some 23,.build [(.int .i64 0)] [],none⟩,oX 24 23,oM 10 24] (.seq (.reg (some [(3,5),(3,6),(1,8),(2,8),(3,8),(5,8),(6,8),(7,8),(1,9),(2,9),(3,9),(5,9),(6,9),(7,9),(8,9)]) [oM 25 10,aK 26 4 5,aK 27 4 4,⟨some 28,.call (.f fU) [(.t 25),(.t 26),(.t 27)],none⟩,oM 29 10,aK 30 4 6,aK 31 4 4,⟨some 32,.call (.f fU) [(.t 29),(.t 30),(.t 31)],none⟩,⟨some 11,.box (.c (.agg [.nils,.nils,.nils,.nils])),none⟩,⟨some 12,.box (.c (.agg [.nils,.nils,.nils,.nils])),none⟩,oS 4 11 28,oS 4 12 32]) (cS [oM 33 10,aK 34 4 11,aK 35 4 12,bf 36 G9 34 35,oE 37 36 0,oE 38 36 1,⟨some 39,.call (.f bB) [(.t 33),(.t 37),(.t 38)],none⟩,⟨some 13,.box (.c (.agg [.nils,.nils])),none⟩,oS 2 13 39] (cS [aK 40 2 13,oC 41 hJ 40,bn 42 .gtr 41 0,⟨some 43,.build [.nils,.nils,.nils,.nils,.nils,.nils,.nils,.nils,.nils,.nils,.nils,.nils,(.bool false)] [(12,(1,(.t 42)))],none⟩,⟨some 14,.box (.c (.agg [.nils,.nils,.nils,.nils,.nils,.nils,.nils,.nils,.nils,.nils,.nils,.nils,(.bool false)])),none⟩,oS 13 14 43] (.seq (cS [aK 44 2 13,oC 45 hJ 44] (.block 0 (cS [bn 47 .eql 45 0,oM 46 47] (.cond (.t 46) (.seq (cS [oM 48 10,pn 49 48,oF 50 0 49,oL 51 1 50,bn 52 .neq 51 0] (.cond (.t 52) (.seq (.reg (some [(4,5)]) [aK 53 13 14,oM 54 10,pn 55 54,oF 56 0 55,oL 57 1 56,oS 13 8 53,oM 9 57]) .ret) .skip)) (cS [aK 58 13 14,oS 13 8 58,oI 9 10] .ret)) (cS [bn 60 .eql 45 (-1-0),oM 59 60] (.cond (.t 59) (cR [aK 61 2 13,oC 62 gh 61,oS 2 13 62]) .skip)))))) (cS [aK 63 4 7,oC 64 jJ 63,⟨some 15,.box (.c (.agg [.nils,.nils])),none⟩,oS 2 15 64] (.seq (.reg (some [(2,7),(5,7),(1,12),(2,12),(5,12),(7,12),(8,12),(11,12),(1,13),(2,13),(5,13),(7,13),(8,13),(11,13),(12,13)]) [oM 65 10,aK 66 4 11,oC 67 kQ 66,oE 68 67 0,oE 69 67 1,⟨some 70,.call (.f bB) [(.t 65),(.t 68),(.t 69)],none⟩,oM 71 10,aK 72 4 12,oC 73 kQ 72,oE 74 73 0,oE 75 73 1,⟨some 76,.call (.f bB) [(.t 71),(.t 74),(.t 75)],none⟩,⟨some 16,.box (.c (.agg [.nils,.nils])),none⟩,⟨some 17,.box (.c (.agg [.nils,.nils])),none⟩,oS 2 16 70,oS 2 17 76]) (cS [oM 77 10,aK 78 2 16,aK 79 2 17,⟨some 80,.call (.f rO) [(.t 77),(.t 78),(.t 79)],none⟩,⟨some 18,.box (.c (.agg [.nils,.nils])),none⟩,oS 2 18 80] (.seq (.reg (some [(2,8),(4,8),(2,11),(4,11),(2,12),(2,15),(8,17),(11,17),(12,17),(15,17),(16,17),(2,19),(4,19),(6,19),(7,19),(8,19),(11,19),(12,19),(15,19),(16,19),(17,19),(18,19)]) [oM 81 10,oM 82 10,aK 83 2 15,oM 84 10,aK 85 2 18,oM 86 10,aK 87 4 11,aK 88 4 12,bf 89 gX 87 88,oE 90 89 0,oE 91 89 1,⟨some 92,.call (.f bB) [(.t 86),(.t 90),(.t 91)],none⟩,bf 93 kg 85 92,oE 94 93 0,oE 95 93 1,⟨some 96,.call (.f bB) [(.t 84),(.t 94),(.t 95)],none⟩,⟨some 97,.call (.f rO) [(.t 82),(.t 83),(.t 96)],none⟩,aK 98 2 13,⟨some 99,.call (.f dw) [(.t 81),(.t 97),(.t 98)],none⟩,⟨some 19,.box (.c (.agg [.nils,.nils])),none⟩,oS 2 19 99]) (.seq (.reg (some [(3,8),(6,8),(3,9),(6,9),(1,14),(2,14),(3,14),(6,14),(8,14),(9,14),(10,14),(13,14),(1,15),(2,15),(3,15),(6,15),(8,15),(9,15),(10,15),(13,15),(14,15)]) [oM 100 10,aK 101 2 16,aK 102 2 19,bf 103 mV 101 102,oE 104 103 0,oE 105 103 1,⟨some 106,.call (.f bB) [(.t 100),(.t 104),(.t 105)],none⟩,oM 107 10,aK 108 2 17,aK 109 2 19,bf 110 mV 108 109,oE 111 110 0,oE 112 110 1,⟨some 113,.call (.f bB) [(.t 107),(.t 111),(.t 112)],none⟩,⟨some 20,.box (.c (.agg [.nils,.nils])),none⟩,⟨some 21,.box (.c (.agg [.nils,.nils])),none⟩,oS 2 20 106,oS 2 21 113]) (.seq (cS [oM 114 10,pn 115 114,oF 116 0 115,oL 117 1 116,bn 118 .eql 117 0,oM 119 118,yi 120 2 20 119 true,⟨some 121,.call (.f hJ) [.t 120],some (119,true)⟩,⟨some 122,.bin .leq .int (.t 121) (.c (.int .i64 0)),some (119,true)⟩,gM 123 122 119 true,yi 124 2 21 123 false,⟨some 125,.call (.f hJ) [.t 124],some (123,false)⟩,⟨some 126,.bin .leq .int (.t 125) (.c (.int .i64 0)),some (123,false)⟩,⟨some 127,.pick (.t 123) (.c (.bool true)) (.t 126),some (119,true)⟩,oo 128 119 127] (.cond (.t 128) (cS [aK 129 13 14,oS 13 8 129,oI 9 16] .ret) .skip)) (.seq (.reg (some [(1,7),(3,7),(1,8),(7,11),(8,11),(9,11),(7,13),(8,13),(9,13),(7,15),(8,15),(9,15),(7,16),(8,16),(9,16),(11,17),(13,17),(11,18)]) [oM 130 10,aK 131 4 4,oM 132 10,aK 133 4 11,oM 134 10,aK 135 2 19,aK 136 2 16,⟨some 137,.call (.f dw) [(.t 134),(.t 135),(.t 136)],none⟩,⟨some 138,.call (.f cH) [(.t 132),(.t 133),(.t 137)],none⟩,⟨some 139,.call (.f dx) [(.t 130),(.t 131),(.t 138)],none⟩,oM 140 10,aK 141 4 4,oM 142 10,aK 143 4 12,oM 144 10,aK 145 2 19,aK 146 2 17,⟨some 147,.call (.f dw) [(.t 144),(.t 145),(.t 146)],none⟩,⟨some 148,.call (.f cH) [(.t 142),(.t 143),(.t 147)],none⟩,⟨some 149,.call (.f dx) [(.t 140),(.t 141),(.t 148)],none⟩,oF 150 0 14,oS 4 150 139,oF 151 4 14,oS 4 151 149]) (.seq (.reg (some [(2,6),(6,9),(7,9),(6,11),(7,11),(6,12),(7,12),(9,13),(2,16),(4,16),(5,16),(6,16),(7,16),(9,16),(11,16),(12,16),(13,16),(14,16),(15,16)]) [oM 152 10,oM 153 10,aK 154 4 11,oM 155 10,aK 156 2 15,aK 157 2 16,⟨some 158,.call (.f dw) [(.t 155),(.t 156),(.t 157)],none⟩,⟨some 159,.call (.f cH) [(.t 153),(.t 154),(.t 158)],none⟩,oM 160 10,aK 161 4 12,oM 162 10,aK 163 2 15,aK 164 2 17,⟨some 165,.call (.f dw) [(.t 162),(.t 163),(.t 164)],none⟩,⟨some 166,.call (.f cH) [(.t 160),(.t 161),(.t 165)],none⟩,⟨some 167,.call (.f dx) [(.t 152),(.t 159),(.t 166)],none⟩,⟨some 22,.box (.c (.agg [.nils,.nils,.nils,.nils])),none⟩,oS 4 22 167]) (.seq (.reg (some [(1,7),(3,7),(1,8)]) [oM 168 10,aK 169 4 4,oM 170 10,aK 171 4 22,oM 172 10,aK 173 2 18,aK 174 2 13,⟨some 175,.call (.f dw) [(.t 172),(.t 173),(.t 174)],none⟩,⟨some 176,.call (.f cH) [(.t 170),(.t 171),(.t 175)],none⟩,⟨some 177,.call (.f dx) [(.t 168),(.t 169),(.t 176)],none⟩,oF 178 8 14,oS 4 178 177]) (.seq (.reg (some [(4,5)]) [aK 179 13 14,oM 180 10,pn 181 180,oF 182 0 181,oL 183 1 182,oS 13 8 179,oM 9 183]) .ret))))))))))))))))⟩
def Bw (mM:Nat):az:=⟨16,[(.cell 6 true 14)],(cS [oX 3 0,oX 4 1,oX 5 2,⟨some 6,.box (.c (.agg [(.bool false),.nils,.nils,.nils,.nils,.nils,.nils,.nils,.nils,.nils,.nils,.nils,.nils,(.bool false)])),none⟩] (.seq (cS [oF 7 1 3,aK 8 4 7,aK 9 4 4,bf 10 mM 8 9] (.cond (.t 10) (cR [aK 11 4 5,oF 12 1 3,oS 4 12 11]) (cR [aK 13 4 5,oF 14 5 3,oS 4 14 13]))) (cS [aK 15 14 3,oS 14 6 15] .ret)))⟩
def Bx (jJ fU ug kQ bB dw cH dx gh kg hJ:Nat):az:=⟨119,[(.cell 4 true 14),(.tmp 5)],(cS [oX 2 0,oX 3 1,⟨some 4,.box (.c (.agg [(.bool false),.nils,.nils,.nils,.nils,.nils,.nils,.nils,.nils,.nils,.nils,.nils,.nils,(.bool false)])),none⟩,oI 5 0] (cS [⟨some 15,.build [(.int .i64 0)] [],none⟩,oX 16 15,oM 6 16] (cS [aK 17 4 3,oC 18 jJ 17,⟨some 7,.box (.c (.agg [.nils,.nils])),none⟩,oS 2 7 18] (.seq (cS [oF 19 0 2,oL 20 1 19,sx 21 20] (.cond (.t 21) (cS [oM 22 6,oF 23 5 2,aK 24 4 23,oF 25 1 2,aK 26 4 25,⟨some 27,.call (.f fU) [(.t 22),(.t 24),(.t 26)],none⟩,oC 28 ug 27,⟨some 8,.box (.c (.agg [.nils,.nils,.nils,.nils])),none⟩,oS 4 8 28] (.seq (.reg (some [(1,6),(3,6),(1,9),(3,9),(1,10),(1,12),(3,12),(5,12),(6,12),(9,12),(10,12),(11,12)]) [oM 29 6,aK 30 4 8,oM 31 6,aK 32 2 7,oM 33 6,aK 34 4 8,oC 35 kQ 34,oE 36 35 0,oE 37 35 1,⟨some 38,.call (.f bB) [(.t 33),(.t 36),(.t 37)],none⟩,⟨some 39,.call (.f dw) [(.t 31),(.t 32),(.t 38)],none⟩,⟨some 40,.call (.f cH) [(.t 29),(.t 30),(.t 39)],none⟩,⟨some 9,.box (.c (.agg [.nils,.nils,.nils,.nils])),none⟩,oS 4 9 40]) (.seq (.reg (some [(4,7),(4,8)]) [oM 41 6,oF 42 1 2,aK 43 4 42,aK 44 4 9,⟨some 45,.call (.f dx) [(.t 41),(.t 43),(.t 44)],none⟩,oM 46 6,oF 47 5 2,aK 48 4 47,aK 49 4 9,⟨some 50,.call (.f dx) [(.t 46),(.t 48),(.t 49)],none⟩,oF 51 1 2,oS 4 51 45,oF 52 5 2,oS 4 52 50]) (.seq (.reg (some [(4,5)]) [aK 53 14 2,oM 54 6,pn 55 54,oF 56 0 55,oL 57 1 56,oS 14 4 53,oM 5 57]) .ret)))) .skip)) (.seq (.reg (some [(5,8),(5,10),(2,12),(4,12),(5,12),(8,12),(10,12),(11,12),(2,13),(4,13),(5,13),(8,13),(10,13),(11,13),(12,13)]) [oM 58 6,oF 59 1 2,aK 60 4 59,oF 61 9 2,aK 62 4 61,⟨some 63,.call (.f fU) [(.t 58),(.t 60),(.t 62)],none⟩,oM 64 6,oF 65 5 2,aK 66 4 65,oF 67 9 2,aK 68 4 67,⟨some 69,.call (.f fU) [(.t 64),(.t 66),(.t 68)],none⟩,⟨some 10,.box (.c (.agg [.nils,.nils,.nils,.nils])),none⟩,⟨some 11,.box (.c (.agg [.nils,.nils,.nils,.nils])),none⟩,oS 4 10 63,oS 4 11 69]) (cS [oM 70 6,aK 71 4 10,oC 72 kQ 71,oE 73 72 0,oE 74 72 1,⟨some 75,.call (.f bB) [(.t 70),(.t 73),(.t 74)],none⟩,⟨some 12,.box (.c (.agg [.nils,.nils])),none⟩,oS 2 12 75] (.seq (cS [oF 76 13 2,oL 77 1 76,sx 78 77] (.cond (.t 78) (cR [aK 79 2 7,oC 80 gh 79,oS 2 7 80]) .skip)) (cS [oM 81 6,aK 82 2 12,aK 83 2 7,bf 84 kg 82 83,oE 85 84 0,oE 86 84 1,⟨some 87,.call (.f bB) [(.t 81),(.t 85),(.t 86)],none⟩,⟨some 13,.box (.c (.agg [.nils,.nils])),none⟩,oS 2 13 87] (.seq (cS [aK 88 2 13,oC 89 hJ 88,bn 90 .leq 89 0] (.cond (.t 90) (cS [⟨some 91,.build [(.bool false),.nils,.nils,.nils,.nils,.nils,.nils,.nils,.nils,.nils,.nils,.nils,.nils,(.bool false)] [],none⟩,oS 14 4 91,oI 5 6] .ret) .skip)) (cS [oM 92 6,aK 93 2 13,aK 94 2 12,⟨some 95,.call (.f dw) [(.t 92),(.t 93),(.t 94)],none⟩,⟨some 14,.box (.c (.agg [.nils,.nils])),none⟩,oS 2 14 95] (.seq (.reg (some [(2,6),(6,10),(7,10),(6,12),(7,12),(6,13),(7,13),(10,14)]) [oM 96 6,oF 97 9 2,aK 98 4 97,oM 99 6,aK 100 4 10,aK 101 2 14,⟨some 102,.call (.f cH) [(.t 99),(.t 100),(.t 101)],none⟩,⟨some 103,.call (.f dx) [(.t 96),(.t 98),(.t 102)],none⟩,oM 104 6,oF 105 9 2,aK 106 4 105,oM 107 6,aK 108 4 11,aK 109 2 14,⟨some 110,.call (.f cH) [(.t 107),(.t 108),(.t 109)],none⟩,⟨some 111,.call (.f dx) [(.t 104),(.t 106),(.t 110)],none⟩,oF 112 1 2,oS 4 112 103,oF 113 5 2,oS 4 113 111]) (.seq (.reg (some [(4,5)]) [aK 114 14 2,oM 115 6,pn 116 115,oF 117 0 116,oL 118 1 117,oS 14 4 114,oM 5 118]) .ret))))))))))))⟩
def rP (o0 eM:Nat):az:=⟨14,[(.cell 6 true 4)],(cS [oX 4 1,oX 5 2,⟨some 6,.box (.c (.agg [.nils,.nils,.nils,.nils])),none⟩] (cS [oM 7 0,aK 8 4 4,aK 9 4 5,bf 10 o0 8 9,oE 11 10 0,oE 12 10 1,⟨some 13,.call (.f eM) [(.t 7),(.t 11),(.t 12)],none⟩,oS 4 6 13] .ret))⟩
def rQ (ng cY:Nat):az:=⟨14,[(.cell 6 true 2)],(cS [oX 4 1,⟨some 6,.box (.c (.agg [.nils,.nils])),none⟩] (.seq (cS [oM 7 2,bn 8 .neq 7 0] (.cond (.t 8) (cS [oM 9 0,oM 10 2,bf 11 ng 9 10] (cS [⟨some 12,.call (.f cY) [(.c (.int .i64 1))],none⟩,oS 2 6 12] .ret)) .skip)) (cS [aK 13 2 4,oS 2 6 13] .ret)))⟩
def zL (ug gX:Nat):az:=⟨12,[(.cell 4 true 2),(.tmp 5)],(cS [oX 2 0,oX 3 1,⟨some 4,.box (.c (.agg [.nils,.nils])),none⟩,oI 5 0] (.seq (.reg (some [(1,2)]) [aK 6 4 2,oC 7 ug 6,aK 8 4 3,bf 9 gX 7 8,oE 10 9 0,oE 11 9 1,oS 2 4 10,oM 5 11]) .ret))⟩
def ym (qD Is:Nat):az:=⟨19,[(.cell 2 true 2),(.tmp 3)],(cS [oX 1 0,⟨some 2,.box (.c (.agg [.nils,.nils])),none⟩,oI 3 0] (cS [aK 7 4 1,oC 8 qD 7,oM 6 8,oE 9 6 0,oE 10 6 1,⟨some 4,.box (.c (.agg [.nils,.nils])),none⟩,oS 2 4 9,oM 5 10] (.seq (cS [oM 11 5,bn 12 .neq 11 0] (.cond (.t 12) (cS [⟨some 13,.build [.nils,.nils] [],none⟩,oM 14 5,oS 2 2 13,oM 3 14] .ret) .skip)) (cS [aK 15 2 4,oC 16 Is 15,oE 17 16 0,oE 18 16 1,oS 2 2 17,oM 3 18] .ret))))⟩
def rR (gR bB:Nat):az:=⟨14,[(.cell 6 true 2)],(cS [oX 4 1,oX 5 2,⟨some 6,.box (.c (.agg [.nils,.nils])),none⟩] (cS [oM 7 0,aK 8 2 4,aK 9 2 5,bf 10 gR 8 9,oE 11 10 0,oE 12 10 1,⟨some 13,.call (.f bB) [(.t 7),(.t 11),(.t 12)],none⟩,oS 2 6 13] .ret))⟩
def rS (kG bB:Nat):az:=⟨14,[(.cell 6 true 2)],(cS [oX 4 1,oX 5 2,⟨some 6,.box (.c (.agg [.nils,.nils])),none⟩] (cS [oM 7 0,aK 8 2 4,aK 9 2 5,bf 10 kG 8 9,oE 11 10 0,oE 12 10 1,⟨some 13,.call (.f bB) [(.t 7),(.t 11),(.t 12)],none⟩,oS 2 6 13] .ret))⟩
def CJ (jh gR kg:Nat):az:=⟨25,[(.cell 4 true 2),(.tmp 5)],(cS [oX 2 0,oX 3 1,⟨some 4,.box (.c (.agg [.nils,.nils])),none⟩,oI 5 0] (cS [aK 9 4 2,aK 10 4 3,⟨some 11,.call (.f jh) [(.t 9),(.t 10),(.f gR)],none⟩,oM 8 11,oE 12 8 0,oE 13 8 1,⟨some 6,.box (.c (.agg [.nils,.nils,.nils,.nils])),none⟩,oS 4 6 12,oM 7 13] (.seq (cS [oM 14 7,bn 15 .neq 14 0] (.cond (.t 15) (cS [⟨some 16,.build [.nils,.nils] [],none⟩,oM 17 7,oS 2 4 16,oM 5 17] .ret) .skip)) (cS [oF 18 0 6,aK 19 2 18,oF 20 2 6,aK 21 2 20,bf 22 kg 19 21,oE 23 22 0,oE 24 22 1,oS 2 4 23,oM 5 24] .ret))))⟩
def Bc (gh FC:Nat):az:=⟨10,[(.cell 2 true 4)],(cS [oX 1 0,⟨some 2,.box (.c (.agg [.nils,.nils,.nils,.nils])),none⟩] (.seq (.reg (some [(2,4)]) [oF 3 2 1,aK 4 2 3,oC 5 gh 4,oF 6 0 1,aK 7 2 6,oC 8 FC 7,⟨some 9,.build [.nils,.nils,.nils,.nils] [(0,(2,(.t 5))),(2,(2,(.t 8)))],none⟩,oS 4 2 9]) .ret))⟩
def yn (gX:Nat):az:=⟨9,[(.cell 2 true 2),(.tmp 3)],(cS [oX 1 0,⟨some 2,.box (.c (.agg [.nils,.nils])),none⟩,oI 3 0] (cS [aK 4 4 1,aK 5 4 1,bf 6 gX 4 5,oE 7 6 0,oE 8 6 1,oS 2 2 7,oM 3 8] .ret))⟩
def Bd (Iu kP:Nat):az:=⟨24,[(.cell 2 true 2),(.tmp 3)],(cS [oX 1 0,⟨some 2,.box (.c (.agg [.nils,.nils])),none⟩,oI 3 0] (cS [oF 8 0 1,oL 9 1 8,oF 10 1 1,oL 11 1 10,bf 12 Iu 9 11,oM 7 12,oE 13 7 0,oE 14 7 1,oE 15 7 2,oM 4 13,oM 5 14,oM 6 15] (.seq (cS [oM 16 6,bn 17 .neq 16 0] (.cond (.t 17) (cS [⟨some 18,.build [.nils,.nils] [],none⟩,oM 19 6,oS 2 2 18,oM 3 19] .ret) .skip)) (cS [oM 20 4,oM 21 5,⟨some 22,.build [.nils,.nils] [(0,(1,(.t 20))),(1,(1,(.t 21)))],none⟩,oC 23 kP 22,oS 2 2 23,oI 3 0] .ret))))⟩
def yo (gh:Nat):az:=⟨6,[(.cell 2 true 2)],(cS [oX 1 0,⟨some 2,.box (.c (.agg [.nils,.nils])),none⟩] (cS [aK 3 2 1,oC 4 gh 3,oC 5 gh 4,oS 2 2 5] .ret))⟩
def Be (cX Ha l7 FD CK cP KA:Nat):az:=⟨49,[(.tmp 4),(.tmp 5),(.tmp 6)],(cS [oZ 4,oZ 5,oI 6 0] (.seq (.block 0 (cS [oM 11 0,oM 12 1,bf 13 cX 11 12,sx 14 13,oM 15 14,gM 16 0 15 false,⟨some 17,.call (.f Ha) [.t 16],some (15,false)⟩,⟨some 18,.un .not (.t 17),some (15,false)⟩,yh 19 15 18,oM 10 19] (.cond (.t 10) (cS [oZ 4,oZ 5,oI 6 1] .ret) (cS [oM 21 0,oM 22 1,bf 23 l7 21 22,bn 24 .lss 23 0,oM 20 24] (.cond (.t 20) (cS [oZ 4,oZ 5,oI 6 7] .ret) .skip))))) (.seq (cS [oM 26 0,oM 27 1,bf 28 FD 26 27,oM 25 28,oE 29 25 0,oE 30 25 1,oM 7 29,oM 8 30] (cS [oM 31 8] (.cond (.t 31) (cS [oM 32 0,oC 33 CK 32,oM 34 7,oM 4 33,oM 5 34,oI 6 0] .ret) .skip))) (.seq (cS [oM 35 0,oN 36 35,bn 37 .geq 36 8] (.cond (.t 37) (cS [oZ 4,oZ 5,oI 6 3] .ret) .skip)) (cS [oM 38 0,oC 39 CK 38,oM 40 1,oC 41 cP 40,⟨some 42,.buildSl 1 1 .nils [(0,(.t 41))],none⟩,yZ 43 1 24 39 42,oM 9 43] (cS [oM 44 9,oM 45 9,oM 46 0,oN 47 46,bf 48 KA 45 47,oM 4 44,oM 5 48,oI 6 0] .ret))))))⟩
def zM (cX l7 hP:Nat):az:=⟨38,[(.tmp 2)],(cS [oB 2 false] (.seq (cS [oM 7 0,oN 8 7,oI 9 0] (.block 0 (.loop (cS [oT 10 .lss 9 8] (.seq (.cond (.t 10) .skip (.exit 0)) (.seq (.block 1 (cS [oM 11 9,oA 12 1 7 9,oL 13 1 12,oM 3 11,oM 4 13] (.seq (cS [oM 14 0,oM 15 3,⟨some 16,.slice 1 (.t 14) none (some (.t 15)) none,none⟩,oM 17 4,bf 18 cX 16 17,sx 19 18,oM 20 19,gM 21 0 20 false,gM 22 3 20 false,⟨some 23,.slice 1 (.t 21) none (some (.t 22)) none,some (20,false)⟩,gM 24 4 20 false,⟨some 25,.call (.f l7) [(.t 23),(.t 24)],some (20,false)⟩,⟨some 26,.bin .neq .int (.t 25) (.c (.int .i64 1)),some (20,false)⟩,yh 27 20 26] (.cond (.t 27) (cS [oB 2 false] .ret) .skip)) (cS [oM 29 0,oM 30 3,⟨some 31,.slice 1 (.t 29) none (some (.t 30)) none,none⟩,oM 32 4,bf 33 hP 31 32,oM 28 33,oE 34 28 0,oE 35 28 1,oM 5 34,oM 6 35] (cS [oM 36 6] (.cond (.t 36) (cS [oB 2 false] .ret) .skip)))))) (cR [bn 37 .add 9 1,oM 9 37]))))))) (cS [oB 2 true] .ret)))⟩
def yp (hP l7 zx:Nat):az:=⟨24,[(.tmp 4),(.tmp 5)],(cS [oZ 4,oB 5 false] (cS [oM 9 0,oM 10 1,bf 11 hP 9 10,oM 8 11,oE 12 8 0,oE 13 8 1,oM 6 12,oM 7 13] (.seq (cS [oM 14 7,sx 15 14] (.cond (.t 15) (cS [oZ 4,oB 5 false] .ret) .skip)) (.seq (cS [oM 16 0,oM 17 6,bf 18 l7 16 17,bn 19 .lss 18 0] (.cond (.t 19) (cR [oM 20 0,oM 21 6,bf 22 zx 20 21,oM 6 22]) .skip)) (cS [oM 23 6,oM 4 23,oB 5 true] .ret)))))⟩
def CL (cP:Nat):az:=⟨23,[(.tmp 2)],(cS [oZ 2] (cS [oM 6 0,oN 7 6,⟨some 8,.mksl 1 24 .nils (.t 7) (.t 7),none⟩,oM 3 8] (.seq (cS [oM 9 0,oN 10 9,oI 11 0] (.block 0 (.loop (cS [oT 12 .lss 11 10] (.seq (.cond (.t 12) .skip (.exit 0)) (.seq (.block 1 (cS [oM 13 11,oA 14 1 9 11,oL 15 1 14,oM 4 13,oM 5 15] (cR [oM 16 3,oM 17 4,oM 18 5,oC 19 cP 18,oA 20 1 16 17,oS 1 20 19]))) (cR [bn 21 .add 11 1,oM 11 21]))))))) (cS [oM 22 3,oM 2 22] .ret))))⟩
def Bf (FE oQ hP bW nG fk tc j2 KB ta qb Mu:Nat):az:=⟨154,[(.tmp 4),(.tmp 5)],(cS [oZ 4,oB 5 false] (.seq (cS [oM 26 0,oN 27 26,bn 28 .eql 27 0] (.cond (.t 28) (cS [oM 30 1,⟨some 31,.iaddrS 4 (.t 30) (.c (.int .i64 0)),none⟩,aK 32 4 31,oC 33 FE 32,oM 29 33,oE 34 29 0,oE 35 29 1,⟨some 6,.box (.c (.agg [(.bool false),.nils,(.bool false),.nils])),none⟩,oS 4 6 34,oM 7 35] (cS [aK 36 4 6,⟨some 37,.buildSl 4 1 (.agg [(.bool false),.nils,(.bool false),.nils]) [(0,(.t 36))],none⟩,oM 38 7,oM 4 37,oM 5 38] .ret)) .skip)) (.seq (.reg (some []) [oM 39 0,oM 40 0,oN 41 40,bn 42 .sub 41 1,⟨some 43,.slice 1 (.t 39) none (some (.t 42)) none,none⟩,oM 44 0,oM 45 0,oN 46 45,bn 47 .sub 46 1,oA 48 1 44 47,oL 49 1 48,oM 8 43,oM 9 49]) (.seq (.reg (some []) [oM 50 1,oM 51 1,oN 52 51,bn 53 .quo 52 2,⟨some 54,.slice 4 (.t 50) none (some (.t 53)) none,none⟩,oM 55 1,oM 56 1,oN 57 56,bn 58 .quo 57 2,⟨some 59,.slice 4 (.t 55) (some (.t 58)) none none,none⟩,oM 10 54,oM 11 59]) (.seq (cS [oM 60 11,oC 61 oQ 60] (.cond (.t 61) (.seq (cS [oM 63 8,oM 64 10,bf 65 hP 63 64,oM 62 65,oE 66 62 0,oE 67 62 1,oM 12 66,oM 13 67] (cS [oM 68 13] (.cond (.t 68) (cS [oM 69 12,oM 70 8,⟨some 71,.call (.f bW) [(.c (.int .i64 0))],none⟩,bf 72 nG 70 71,⟨some 73,.buildSl 1 2 .nils [(0,(.t 69)),(1,(.t 72))],none⟩,oC 74 fk 73,oM 4 74,oB 5 true] .ret) .skip))) (cS [oM 76 8,oM 77 9,bf 78 tc 76 77,oM 75 78,oE 79 75 0,oE 80 75 1,oM 14 79,oM 15 80] (.seq (cS [oM 81 15,bn 82 .neq 81 0] (.cond (.t 82) (cS [oZ 4,oB 5 false] .ret) .skip)) (cS [oM 84 8,oM 85 8,oM 86 10,oM 87 14,⟨some 88,.call (.f j2) [(.t 85),(.t 86),(.t 87)],none⟩,bf 89 hP 84 88,oM 83 89,oE 90 83 0,oE 91 83 1,oM 16 90,oM 17 91] (cS [oM 92 8,⟨some 93,.call (.f bW) [(.c (.int .i64 0))],none⟩,bf 94 nG 92 93,oM 95 16,⟨some 96,.buildSl 1 2 .nils [(0,(.t 94)),(1,(.t 95))],none⟩,oC 97 fk 96,oM 98 17,oM 4 97,oM 5 98] .ret))))) .skip)) (cS [oM 100 8,oM 101 0,oM 102 1,bf 103 KB 101 102,bf 104 hP 100 103,oM 99 104,oE 105 99 0,oE 106 99 1,oM 18 105,oM 19 106] (.seq (cS [oM 107 19,sx 108 107] (.cond (.t 108) (cS [oZ 4,oB 5 false] .ret) .skip)) (.seq (cS [oM 109 8,oM 110 10,oM 111 18,⟨some 112,.call (.f ta) [(.t 109),(.t 110),(.t 111)],none⟩,oM 113 8,oM 114 10,oM 115 18,⟨some 116,.call (.f qb) [(.t 113),(.t 114),(.t 115)],none⟩,⟨some 117,.buildSl 1 2 .nils [(0,(.t 112)),(1,(.t 116))],none⟩,oN 118 117,oI 119 0] (.block 0 (.loop (cS [oT 120 .lss 119 118] (.seq (.cond (.t 120) .skip (.exit 0)) (.seq (.block 1 (cS [oA 121 1 117 119,oL 122 1 121,oM 21 122] (cS [oM 124 8,oM 125 8,oM 126 21,bf 127 Mu 125 126,bf 128 hP 124 127,oM 123 128,oE 129 123 0,oE 130 123 1,oM 22 129,oM 23 130] (.seq (cS [oM 131 23,sx 132 131,oM 133 132,gM 134 22 133 false,⟨some 135,.call (.f oQ) [.t 134],some (133,false)⟩,yh 136 133 135] (.cond (.t 136) (.exit 1) .skip)) (cS [oM 138 8,oM 139 8,oM 140 22,oM 141 22,⟨some 142,.call (.f ta) [(.t 139),(.t 140),(.t 141)],none⟩,bf 143 tc 138 142,oM 137 143,oE 144 137 0,oE 145 137 1,oM 24 144,oM 25 145] (cS [oM 146 22,oM 147 8,oM 148 11,oM 149 24,⟨some 150,.call (.f j2) [(.t 147),(.t 148),(.t 149)],none⟩,⟨some 151,.buildSl 1 2 .nils [(0,(.t 146)),(1,(.t 150))],none⟩,oC 152 fk 151,oM 4 152,oB 5 true] .ret)))))) (cR [bn 153 .add 119 1,oM 119 153]))))))) (cS [oZ 4,oB 5 false] .ret)))))))))⟩
def yq (yr:Nat):az:=⟨30,[(.cell 2 true 4),(.tmp 3)],(cS [oX 1 0,⟨some 2,.box (.c (.agg [(.bool false),.nils,(.bool false),.nils])),none⟩,oB 3 false] (cS [oF 9 0 1,aK 10 2 9,oC 11 yr 10,oM 8 11,oE 12 8 0,oE 13 8 1,⟨some 4,.box (.c (.agg [(.bool false),.nils])),none⟩,oS 2 4 12,oM 5 13] (cS [oF 15 2 1,aK 16 2 15,oC 17 yr 16,oM 14 17,oE 18 14 0,oE 19 14 1,⟨some 6,.box (.c (.agg [(.bool false),.nils])),none⟩,oS 2 6 18,oM 7 19] (.seq (cS [oM 20 5,sx 21 20,oM 22 21,gM 23 7 22 false,⟨some 24,.un .not (.t 23),some (22,false)⟩,yh 25 22 24] (.cond (.t 25) (cS [⟨some 26,.build [(.bool false),.nils,(.bool false),.nils] [],none⟩,oS 4 2 26,oB 3 false] .ret) .skip)) (cS [aK 27 2 4,aK 28 2 6,⟨some 29,.build [(.bool false),.nils,(.bool false),.nils] [(0,(2,(.t 27))),(2,(2,(.t 28)))],none⟩,oS 4 2 29,oB 3 true] .ret)))))⟩
def yt (Hb cK tW:Nat):az:=⟨22,[(.cell 2 true 2),(.tmp 3)],(cS [oX 1 0,⟨some 2,.box (.c (.agg [(.bool false),.nils])),none⟩,oB 3 false] (cS [aK 7 2 1,oC 8 Hb 7,oM 6 8,oE 9 6 0,oE 10 6 1,⟨some 4,.box (.c (.agg [(.bool false),.nils])),none⟩,oS 2 4 9,oM 5 10] (.seq (.reg (some [(0,6),(6,7),(0,8)]) [aK 11 2 4,oM 12 5,bn 13 .eql 12 0,oM 14 13,yi 15 2 4 14 true,yi 16 2 4 14 true,⟨some 17,.call (.f cK) [(.t 15),(.t 16)],some (14,true)⟩,yi 18 2 1 14 true,⟨some 19,.call (.f tW) [(.t 17),(.t 18)],some (14,true)⟩,⟨some 20,.bin .eql .int (.t 19) (.c (.int .i64 0)),some (14,true)⟩,oo 21 14 20,oS 2 2 11,oM 3 21]) .ret)))⟩
def rT (gp Hc CM aQ jE lP Hd e6 bD:Nat):az:=⟨42,[(.cell 2 true 2),(.tmp 3)],(cS [oX 1 0,⟨some 2,.box (.c (.agg [(.bool false),.nils])),none⟩,oI 3 0] (.seq (cS [aK 9 2 1,oC 10 gp 9] (.block 0 (cS [bn 12 .eql 10 (-1-0),oM 11 12] (.cond (.t 11) (cS [⟨some 13,.build [(.bool false),.nils] [],none⟩,oS 2 2 13,oI 3 7] .ret) (cS [bn 15 .eql 10 0,oM 14 15] (.cond (.t 14) (cS [⟨some 16,.build [(.bool false),.nils] [],none⟩,oS 2 2 16,oI 3 0] .ret) .skip)))))) (cS [aK 17 2 1,oC 18 Hc 17,bn 19 .quo 18 2,bn 20 .add 19 1,oM 4 20] (cS [oM 21 4,oC 22 CM 21,oM 5 22] (.block 1 (.loop (.block 2 (cS [oF 24 1 1,oL 25 1 24,oC 26 aQ 25,oM 27 5,bf 28 jE 26 27,oM 23 28,oE 29 23 0,oE 30 23 1,oM 6 29,oM 7 30] (cS [oM 31 5,oM 32 6,bf 33 lP 31 32,oC 34 Hd 33,oM 8 34] (.seq (cS [oM 35 8,oM 36 5,bf 37 e6 35 36,bn 38 .geq 37 0] (.cond (.t 38) (cS [oM 39 5,⟨some 40,.call (.f bD) [(.c (.bool false)),(.t 39)],none⟩,oS 2 2 40,oI 3 0] .ret) .skip)) (cR [oM 41 8,oM 5 41])))))))))))⟩
def zO (aQ oz:Nat):az:=⟨22,[(.tmp 2)],(cS [oX 1 0,oI 2 0] (cS [oF 4 1 1,oL 5 1 4,oC 6 aQ 5,oM 3 6] (.seq (cS [oM 7 3,oN 8 7,bn 9 .eql 8 0] (.cond (.t 9) (cS [oI 2 0] .ret) .skip)) (cS [oM 10 3,oN 11 10,bn 12 .sub 11 1,⟨some 13,.bin .mul .int (.c (.int .i64 32)) (.t 12),none⟩,oM 14 3,oM 15 3,oN 16 15,bn 17 .sub 16 1,oA 18 1 14 17,oL 19 1 18,oC 20 oz 19,oT 21 .add 13 20,oM 2 21] .ret))))⟩
def fx:az:=⟨16,[(.tmp 2)],(cS [oZ 2] (cS [oM 4 0,bn 5 .quo 4 32,bn 6 .add 5 1,⟨some 7,.mksl 1 4 (.int .u32 0) (.t 6) (.t 6),none⟩,oM 3 7] (cS [oM 8 3,oM 9 0,bn 10 .quo 9 32,oM 11 0,bn 12 .rem 11 32,⟨some 13,.bin .shl .int (.c (.int .u32 1)) (.t 12),none⟩,oA 14 1 8 10,oS 1 14 13] (cS [oM 15 3,oM 2 15] .ret))))⟩
def zP (lO aQ:Nat):az:=⟨6,[(.tmp 2)],(cS [oZ 2] (cS [oM 3 0,⟨some 4,.call (.f lO) [(.t 3),(.c (.int .i64 1))],none⟩,oC 5 aQ 4,oM 2 5] .ret))⟩
end Go.VL
end

section
set_option maxRecDepth 100000
namespace Go.VL
def He (mM o0 nH KC Ed:Nat):az:=⟨26,[(.cell 4 true 6),(.tmp 5)],(cS [oX 2 0,oX 3 1,⟨some 4,.box (.c (.agg [.nils,.nils,.nils,.nils,.nils,.nils])),none⟩,oI 5 0] (.seq (cS [aK 7 4 2,aK 8 4 3,bf 9 mM 7 8] (.cond (.t 9) (cS [⟨some 10,.build [.nils,.nils,.nils,.nils,.nils,.nils] [],none⟩,oS 6 4 10,oI 5 11] .ret) .skip)) (cS [⟨some 11,.build [(.int .i64 0)] [],none⟩,oX 12 11,oM 6 12] (.seq (.reg (some [(1,5),(1,8),(1,9)]) [oM 13 6,aK 14 4 2,oM 15 6,aK 16 4 3,aK 17 4 2,bf 18 o0 16 17,oE 19 18 0,oE 20 18 1,⟨some 21,.call (.f nH) [(.t 15),(.t 19),(.t 20)],none⟩,oC 22 KC 21,⟨some 23,.call (.f Ed) [(.t 13),(.t 14),(.t 22)],none⟩,oE 24 23 0,oE 25 23 1,oS 6 4 24,oM 5 25]) .ret))))⟩
def Bz (Iv eM:Nat):az:=⟨12,[(.cell 4 true 4)],(cS [oX 3 0,⟨some 4,.box (.c (.agg [.nils,.nils,.nils,.nils])),none⟩] (.seq (.reg (some [(0,3)]) [oL 5 1 1,aK 6 6 2,aK 7 4 3,bf 8 Iv 6 7,oE 9 8 0,oE 10 8 1,⟨some 11,.call (.f eM) [(.t 5),(.t 9),(.t 10)],none⟩,oS 4 4 11]) .ret))⟩
def Iw (Hf:Nat):az:=⟨11,[(.cell 4 true 4),(.tmp 5)],(cS [oX 2 0,oX 3 1,⟨some 4,.box (.c (.agg [.nils,.nils,.nils,.nils])),none⟩,oI 5 0] (cS [aK 6 6 2,aK 7 4 3,⟨some 8,.call (.f Hf) [(.t 6),(.t 7),(.c (.int .i64 2))],none⟩,oE 9 8 0,oE 10 8 1,oS 4 4 9,oM 5 10] .ret))⟩
def uh (dt mH xj:Nat):az:=⟨27,[(.cell 4 true 6),(.tmp 5)],(cS [oX 2 0,oX 3 1,⟨some 4,.box (.c (.agg [.nils,.nils,.nils,.nils,.nils,.nils])),none⟩,oI 5 0] (.seq (cS [aK 8 4 2,aK 9 4 3,bf 10 dt 8 9] (.cond (.t 10) (cS [⟨some 11,.build [.nils,.nils,.nils,.nils,.nils,.nils] [],none⟩,oS 6 4 11,oI 5 11] .ret) .skip)) (cS [aK 13 4 3,aK 14 4 2,bf 15 mH 13 14,oM 12 15,oE 16 12 0,oE 17 12 1,⟨some 6,.box (.c (.agg [.nils,.nils,.nils,.nils])),none⟩,oS 4 6 16,oM 7 17] (.seq (cS [oM 18 7,bn 19 .neq 18 0] (.cond (.t 19) (cS [⟨some 20,.build [.nils,.nils,.nils,.nils,.nils,.nils] [],none⟩,oM 21 7,oS 6 4 20,oM 5 21] .ret) .skip)) (cS [aK 22 4 2,aK 23 4 6,bf 24 xj 22 23,oE 25 24 0,oE 26 24 1,oS 6 4 25,oM 5 26] .ret)))))⟩
def vg (xk:Nat):az:=⟨11,[(.cell 4 true 4),(.tmp 5)],(cS [oX 2 0,oX 3 1,⟨some 4,.box (.c (.agg [.nils,.nils,.nils,.nils])),none⟩,oI 5 0] (cS [aK 6 6 2,aK 7 4 3,⟨some 8,.call (.f xk) [(.t 6),(.t 7),(.c (.int .i64 2))],none⟩,oE 9 8 0,oE 10 8 1,oS 4 4 9,oM 5 10] .ret))⟩
def xl:az:=⟨9,[(.tmp 4)],(cS [oI 4 0] (.seq (cS [oM 5 0,bn 6 .neq 5 0] (.cond (.t 6) (cS [oM 7 0,oM 4 7] .ret) .skip)) (cS [oM 8 1,oM 4 8] .ret)))⟩
def Ee (gX cn hJ kG:Nat):az:=⟨60,[(.cell 6 true 6),(.tmp 7)],(cS [oX 4 1,oX 5 2,⟨some 6,.box (.c (.agg [.nils,.nils,.nils,.nils,.nils,.nils])),none⟩,oI 7 0] (cS [oM 11 0,aK 12 4 4,aK 13 4 5,bf 14 gX 12 13,oE 15 14 0,oE 16 14 1,⟨some 17,.call (.f cn) [(.t 11),(.t 15),(.t 16)],none⟩,⟨some 8,.box (.c (.agg [.nils,.nils])),none⟩,oS 2 8 17] (cS [oF 18 0 5,aK 19 2 18,⟨some 9,.box (.c (.agg [.nils,.nils])),none⟩,oS 2 9 19] (.seq (cS [aK 20 2 9,oC 21 hJ 20,bn 22 .eql 21 0] (.cond (.t 22) (cR [oF 23 2 5,aK 24 2 23,oS 2 9 24]) .skip)) (.seq (.reg (some [(4,10),(7,10),(4,11),(7,11),(4,17),(7,17),(12,17),(15,17),(4,18),(7,18),(12,18),(15,18),(2,24),(3,24),(4,24),(7,24),(10,24),(11,24),(12,24),(15,24),(17,24),(18,24),(19,24),(22,24)]) [oM 25 0,oF 26 0 5,aK 27 2 26,aK 28 2 9,bf 29 kG 27 28,oE 30 29 0,oE 31 29 1,⟨some 32,.call (.f cn) [(.t 25),(.t 30),(.t 31)],none⟩,oM 33 0,oF 34 2 5,aK 35 2 34,aK 36 2 9,bf 37 kG 35 36,oE 38 37 0,oE 39 37 1,⟨some 40,.call (.f cn) [(.t 33),(.t 38),(.t 39)],none⟩,oM 41 0,aK 42 2 8,aK 43 2 9,bf 44 kG 42 43,oE 45 44 0,oE 46 44 1,⟨some 47,.call (.f cn) [(.t 41),(.t 45),(.t 46)],none⟩,⟨some 48,.build [.nils,.nils,.nils,.nils,.nils,.nils] [(0,(2,(.t 32))),(2,(2,(.t 40))),(4,(2,(.t 47)))],none⟩,⟨some 10,.box (.c (.agg [.nils,.nils,.nils,.nils,.nils,.nils])),none⟩,oS 6 10 48]) (.seq (cS [oM 49 0,pn 50 49,oF 51 0 50,oL 52 1 51,bn 53 .neq 52 0] (.cond (.t 53) (.seq (.reg (some [(4,5)]) [⟨some 54,.build [.nils,.nils,.nils,.nils,.nils,.nils] [],none⟩,oM 55 0,pn 56 55,oF 57 0 56,oL 58 1 57,oS 6 6 54,oM 7 58]) .ret) .skip)) (cS [aK 59 6 10,oS 6 6 59,oI 7 0] .ret)))))))⟩
def KD (gh:Nat):az:=⟨9,[(.cell 2 true 4)],(cS [oX 1 0,⟨some 2,.box (.c (.agg [.nils,.nils,.nils,.nils])),none⟩] (.seq (.reg (some [(1,4)]) [oF 3 2 1,aK 4 2 3,oF 5 0 1,aK 6 2 5,oC 7 gh 6,⟨some 8,.build [.nils,.nils,.nils,.nils] [(0,(2,(.t 4))),(2,(2,(.t 7)))],none⟩,oS 4 2 8]) .ret))⟩
def FF (cY:Nat):az:=⟨25,[(.cell 6 true 4)],(cS [oX 4 1,⟨some 6,.box (.c (.agg [.nils,.nils,.nils,.nils])),none⟩] (.seq (cS [oM 7 0,pn 8 7,oF 9 0 8,oL 10 1 9,bn 11 .eql 10 0] (.cond (.t 11) (cR [oM 12 0,oM 13 2,pn 14 12,oF 15 0 14,oS 1 15 13]) .skip)) (.seq (cS [oM 16 0,pn 17 16,oF 18 0 17,oL 19 1 18,bn 20 .neq 19 0] (.cond (.t 20) (cS [⟨some 21,.call (.f cY) [(.c (.int .i64 1))],none⟩,⟨some 22,.call (.f cY) [(.c (.int .i64 1))],none⟩,⟨some 23,.build [.nils,.nils,.nils,.nils] [(0,(2,(.t 21))),(2,(2,(.t 22)))],none⟩,oS 4 6 23] .ret) .skip)) (cS [aK 24 4 4,oS 4 6 24] .ret))))⟩
def Hg (BA cY gR cn ui rK nH o0 CN:Nat):az:=⟨41,[(.cell 6 true 4),(.tmp 7)],(cS [oX 3 0,oX 4 1,⟨some 6,.box (.c (.agg [.nils,.nils,.nils,.nils])),none⟩,oI 7 0] (cS [⟨some 10,.build [(.int .i64 0)] [],none⟩,oX 11 10,oM 8 11] (cS [oM 12 8,oM 13 8,aK 14 6 3,aK 15 4 4,⟨some 16,.call (.f BA) [(.t 13),(.t 14),(.t 15)],none⟩,oM 17 2,oC 18 cY 17,bf 19 gR 16 18,oE 20 19 0,oE 21 19 1,⟨some 22,.call (.f cn) [(.t 12),(.t 20),(.t 21)],none⟩,⟨some 9,.box (.c (.agg [.nils,.nils])),none⟩,oS 2 9 22] (.seq (.reg (some [(2,5),(5,6),(2,7),(2,10)]) [oM 23 8,oM 24 8,aK 25 4 4,oM 26 8,aK 27 6 3,oC 28 ui 27,aK 29 2 9,bf 30 rK 28 29,oE 31 30 0,oE 32 30 1,⟨some 33,.call (.f nH) [(.t 26),(.t 31),(.t 32)],none⟩,bf 34 o0 25 33,oE 35 34 0,oE 36 34 1,⟨some 37,.call (.f nH) [(.t 24),(.t 35),(.t 36)],none⟩,bf 38 CN 23 37,oE 39 38 0,oE 40 38 1,oS 4 6 39,oM 7 40]) .ret))))⟩
def xm (yN lv bq ee rU:Nat):az:=⟨37,[(.cell 4 true 6),(.tmp 5)],(cS [oX 2 0,oX 3 1,⟨some 4,.box (.c (.agg [.nils,.nils,.nils,.nils,.nils,.nils])),none⟩,oI 5 0] (.seq (cS [aK 8 4 3,oC 9 yN 8] (.cond (.t 9) (cS [⟨some 10,.build [.nils,.nils,.nils,.nils,.nils,.nils] [],none⟩,oS 6 4 10,oI 5 6] .ret) .skip)) (cS [⟨some 11,.build [(.int .i64 0)] [],none⟩,oX 12 11,oM 6 12] (cS [aK 13 4 3,oC 14 lv 13,⟨some 7,.box (.c (.agg [.nils,.nils,.nils,.nils])),none⟩,oS 4 7 14] (.seq (.reg (some [(2,11),(4,11),(11,14),(11,16),(2,17),(4,17),(2,18),(4,18)]) [oM 15 6,oF 16 0 7,aK 17 2 16,oF 18 2 7,aK 19 2 18,oM 20 6,oM 21 6,oF 22 0 7,aK 23 2 22,oF 24 0 2,aK 25 2 24,⟨some 26,.call (.f bq) [(.t 21),(.t 23),(.t 25)],none⟩,oM 27 6,oF 28 2 7,aK 29 2 28,oF 30 2 2,aK 31 2 30,⟨some 32,.call (.f bq) [(.t 27),(.t 29),(.t 31)],none⟩,⟨some 33,.call (.f ee) [(.t 20),(.t 26),(.t 32)],none⟩,⟨some 34,.call (.f rU) [(.t 15),(.t 17),(.t 19),(.t 33)],none⟩,oE 35 34 0,oE 36 34 1,oS 6 4 35,oM 5 36]) .ret)))))⟩
def xp (vk bq ee eg eF fJ qT:Nat):az:=⟨59,[(.cell 6 true 4),(.tmp 7)],(cS [oX 3 0,oX 4 1,⟨some 6,.box (.c (.agg [.nils,.nils,.nils,.nils])),none⟩,oI 7 0] (cS [⟨some 10,.build [(.int .i64 0)] [],none⟩,oX 11 10,oM 8 11] (.seq (.reg (some [(4,8),(4,10),(4,14),(11,14),(4,16),(11,16),(2,20),(3,20),(4,20),(8,20),(10,20),(11,20),(14,20),(16,20),(17,20),(18,20),(19,20)]) [oM 12 8,oM 13 8,aK 14 6 3,aK 15 4 4,⟨some 16,.call (.f vk) [(.t 13),(.t 14),(.t 15)],none⟩,oM 17 8,oM 18 8,oF 19 0 3,aK 20 2 19,oF 21 0 3,aK 22 2 21,⟨some 23,.call (.f bq) [(.t 18),(.t 20),(.t 22)],none⟩,oM 24 8,oF 25 2 3,aK 26 2 25,oF 27 2 3,aK 28 2 27,⟨some 29,.call (.f bq) [(.t 24),(.t 26),(.t 28)],none⟩,⟨some 30,.call (.f ee) [(.t 17),(.t 23),(.t 29)],none⟩,⟨some 31,.call (.f eg) [(.t 12),(.t 16),(.t 30)],none⟩,⟨some 9,.box (.c (.agg [.nils,.nils])),none⟩,oS 2 9 31]) (.seq (.reg (some [(1,3)]) [oM 32 8,aK 33 2 9,oM 34 2,oC 35 eF 34,⟨some 36,.call (.f bq) [(.t 32),(.t 33),(.t 35)],none⟩,oS 2 9 36]) (.seq (.reg (some [(3,8),(8,12),(9,12),(8,14),(9,14),(8,16),(9,16),(12,17)]) [oM 37 8,oM 38 8,oF 39 0 4,aK 40 2 39,oM 41 8,aK 42 2 9,oF 43 0 3,aK 44 2 43,⟨some 45,.call (.f bq) [(.t 41),(.t 42),(.t 44)],none⟩,⟨some 46,.call (.f fJ) [(.t 38),(.t 40),(.t 45)],none⟩,oM 47 8,oF 48 2 4,aK 49 2 48,oM 50 8,aK 51 2 9,oF 52 2 3,aK 53 2 52,⟨some 54,.call (.f bq) [(.t 50),(.t 51),(.t 53)],none⟩,⟨some 55,.call (.f fJ) [(.t 47),(.t 49),(.t 54)],none⟩,⟨some 56,.call (.f qT) [(.t 37),(.t 46),(.t 55)],none⟩,oE 57 56 0,oE 58 56 1,oS 4 6 57,oM 7 58]) .ret)))))⟩
def BB (cY:Nat):az:=⟨23,[(.cell 6 true 2)],(cS [oX 4 1,⟨some 6,.box (.c (.agg [.nils,.nils])),none⟩] (.seq (cS [oM 7 0,pn 8 7,oF 9 0 8,oL 10 1 9,bn 11 .eql 10 0] (.cond (.t 11) (cR [oM 12 0,oM 13 2,pn 14 12,oF 15 0 14,oS 1 15 13]) .skip)) (.seq (cS [oM 16 0,pn 17 16,oF 18 0 17,oL 19 1 18,bn 20 .neq 19 0] (.cond (.t 20) (cS [⟨some 21,.call (.f cY) [(.c (.int .i64 1))],none⟩,oS 2 6 21] .ret) .skip)) (cS [aK 22 2 4,oS 2 6 22] .ret))))⟩
def BC (ui gX cn mV qD kG:Nat):az:=⟨37,[(.cell 6 true 2)],(cS [oX 4 1,oX 5 2,⟨some 6,.box (.c (.agg [.nils,.nils])),none⟩] (cS [aK 9 6 4,oC 10 ui 9,⟨some 7,.box (.c (.agg [.nils,.nils,.nils,.nils])),none⟩,oS 4 7 10] (.seq (.reg (some [(4,9),(7,9),(2,14),(3,14),(4,14),(7,14),(9,14),(10,14),(13,14)]) [oM 11 0,oM 12 0,aK 13 4 7,aK 14 4 5,bf 15 gX 13 14,oE 16 15 0,oE 17 15 1,⟨some 18,.call (.f cn) [(.t 12),(.t 16),(.t 17)],none⟩,oF 19 4 4,aK 20 2 19,bf 21 mV 18 20,oE 22 21 0,oE 23 21 1,⟨some 24,.call (.f cn) [(.t 11),(.t 22),(.t 23)],none⟩,⟨some 8,.box (.c (.agg [.nils,.nils])),none⟩,oS 2 8 24]) (.seq (.reg (some [(1,4),(1,7)]) [oM 25 0,aK 26 2 8,oM 27 0,aK 28 4 7,oC 29 qD 28,oE 30 29 0,oE 31 29 1,⟨some 32,.call (.f cn) [(.t 27),(.t 30),(.t 31)],none⟩,bf 33 kG 26 32,oE 34 33 0,oE 35 33 1,⟨some 36,.call (.f cn) [(.t 25),(.t 34),(.t 35)],none⟩,oS 2 6 36]) .ret))))⟩
def CO:az:=⟨17,[(.cell 4 true 4),(.tmp 5)],(cS [oX 3 1,⟨some 4,.box (.c (.agg [.nils,.nils,.nils,.nils])),none⟩,oI 5 0] (.seq (cS [oM 6 0,pn 7 6,oF 8 0 7,oL 9 1 8,bn 10 .neq 9 0] (.cond (.t 10) (.seq (.reg (some [(4,5)]) [⟨some 11,.build [.nils,.nils,.nils,.nils] [],none⟩,oM 12 0,pn 13 12,oF 14 0 13,oL 15 1 14,oS 4 4 11,oM 5 15]) .ret) .skip)) (cS [aK 16 4 3,oS 4 4 16,oI 5 0] .ret)))⟩
def Ix:az:=⟨8,[(.cell 2 true 4)],(cS [oX 1 0,⟨some 2,.box (.c (.agg [.nils,.nils,.nils,.nils])),none⟩] (cS [oF 3 0 1,aK 4 2 3,oF 5 2 1,aK 6 2 5,⟨some 7,.build [.nils,.nils,.nils,.nils] [(0,(2,(.t 4))),(2,(2,(.t 6)))],none⟩,oS 4 2 7] .ret))⟩
def yO (cT:Nat):az:=⟨13,[(.tmp 2)],(cS [oX 1 0,oB 2 false] (cS [oF 3 0 1,aK 4 2 3,oC 5 cT 4,bn 6 .eql 5 0,oM 7 6,gF 8 2 1 7 true,yi 9 2 8 7 true,⟨some 10,.call (.f cT) [.t 9],some (7,true)⟩,⟨some 11,.bin .eql .int (.t 10) (.c (.int .i64 0)),some (7,true)⟩,oo 12 7 11,oM 2 12] .ret))⟩
def rV (cT eg:Nat):az:=⟨41,[(.cell 8 true 6),(.tmp 9)],(cS [oX 5 1,oX 6 2,oX 7 3,⟨some 8,.box (.c (.agg [.nils,.nils,.nils,.nils,.nils,.nils])),none⟩,oI 9 0] (cS [aK 12 2 5,⟨some 10,.box (.c (.agg [.nils,.nils])),none⟩,oS 2 10 12] (.seq (cS [aK 13 2 5,oC 14 cT 13,bn 15 .eql 14 0] (.cond (.t 15) (cR [aK 16 2 6,oS 2 10 16]) .skip)) (.seq (.reg (some [(3,5),(3,6),(3,9),(7,9),(3,10),(7,10),(1,13),(2,13),(3,13),(5,13),(6,13),(7,13),(9,13),(10,13),(11,13)]) [oM 17 0,aK 18 2 5,aK 19 2 10,⟨some 20,.call (.f eg) [(.t 17),(.t 18),(.t 19)],none⟩,oM 21 0,aK 22 2 6,aK 23 2 10,⟨some 24,.call (.f eg) [(.t 21),(.t 22),(.t 23)],none⟩,oM 25 0,aK 26 2 7,aK 27 2 10,⟨some 28,.call (.f eg) [(.t 25),(.t 26),(.t 27)],none⟩,⟨some 29,.build [.nils,.nils,.nils,.nils,.nils,.nils] [(0,(2,(.t 20))),(2,(2,(.t 24))),(4,(2,(.t 28)))],none⟩,⟨some 11,.box (.c (.agg [.nils,.nils,.nils,.nils,.nils,.nils])),none⟩,oS 6 11 29]) (.seq (cS [oM 30 0,pn 31 30,oF 32 0 31,oL 33 1 32,bn 34 .neq 33 0] (.cond (.t 34) (.seq (.reg (some [(4,5)]) [⟨some 35,.build [.nils,.nils,.nils,.nils,.nils,.nils] [],none⟩,oM 36 0,pn 37 36,oF 38 0 37,oL 39 1 38,oS 6 8 35,oM 9 39]) .ret) .skip)) (cS [aK 40 6 11,oS 6 8 40,oI 9 0] .ret))))))⟩
def sE (dh cu:Nat):az:=⟨19,[(.cell 6 true 2)],(cS [oX 4 1,oX 5 2,⟨some 6,.box (.c (.agg [.nils,.nils])),none⟩] (cS [aK 10 2 4,aK 11 2 5,bf 12 dh 10 11,oM 9 12,oE 13 9 0,oE 14 9 1,⟨some 7,.box (.c (.agg [.nils,.nils])),none⟩,oS 2 7 13,oM 8 14] (cS [oM 15 0,aK 16 2 7,oM 17 8,⟨some 18,.call (.f cu) [(.t 15),(.t 16),(.t 17)],none⟩,oS 2 6 18] .ret)))⟩
def sF (cG cu:Nat):az:=⟨19,[(.cell 6 true 2)],(cS [oX 4 1,oX 5 2,⟨some 6,.box (.c (.agg [.nils,.nils])),none⟩] (cS [aK 10 2 4,aK 11 2 5,bf 12 cG 10 11,oM 9 12,oE 13 9 0,oE 14 9 1,⟨some 7,.box (.c (.agg [.nils,.nils])),none⟩,oS 2 7 13,oM 8 14] (cS [oM 15 0,aK 16 2 7,oM 17 8,⟨some 18,.call (.f cu) [(.t 15),(.t 16),(.t 17)],none⟩,oS 2 6 18] .ret)))⟩
def sG (zQ cu:Nat):az:=⟨19,[(.cell 6 true 2)],(cS [oX 4 1,oX 5 2,⟨some 6,.box (.c (.agg [.nils,.nils])),none⟩] (cS [aK 10 2 4,aK 11 2 5,bf 12 zQ 10 11,oM 9 12,oE 13 9 0,oE 14 9 1,⟨some 7,.box (.c (.agg [.nils,.nils])),none⟩,oS 2 7 13,oM 8 14] (cS [oM 15 0,aK 16 2 7,oM 17 8,⟨some 18,.call (.f cu) [(.t 15),(.t 16),(.t 17)],none⟩,oS 2 6 18] .ret)))⟩
def qU:az:=⟨21,[(.cell 6 true 4),(.tmp 7)],(cS [oX 4 1,oX 5 2,⟨some 6,.box (.c (.agg [.nils,.nils,.nils,.nils])),none⟩,oI 7 0] (.seq (cS [oM 8 0,pn 9 8,oF 10 0 9,oL 11 1 10,bn 12 .neq 11 0] (.cond (.t 12) (.seq (.reg (some [(4,5)]) [⟨some 13,.build [.nils,.nils,.nils,.nils] [],none⟩,oM 14 0,pn 15 14,oF 16 0 15,oL 17 1 16,oS 4 6 13,oM 7 17]) .ret) .skip)) (cS [aK 18 2 4,aK 19 2 5,⟨some 20,.build [.nils,.nils,.nils,.nils] [(0,(2,(.t 18))),(2,(2,(.t 19)))],none⟩,oS 4 6 20,oI 7 0] .ret)))⟩
def sH (mz cu:Nat):az:=⟨19,[(.cell 6 true 2)],(cS [oX 4 1,oX 5 2,⟨some 6,.box (.c (.agg [.nils,.nils])),none⟩] (cS [aK 10 2 4,aK 11 2 5,bf 12 mz 10 11,oM 9 12,oE 13 9 0,oE 14 9 1,⟨some 7,.box (.c (.agg [.nils,.nils])),none⟩,oS 2 7 13,oM 8 14] (cS [oM 15 0,aK 16 2 7,oM 17 8,⟨some 18,.call (.f cu) [(.t 15),(.t 16),(.t 17)],none⟩,oS 2 6 18] .ret)))⟩
def rW (eF:Nat):az:=⟨23,[(.cell 6 true 2)],(cS [oX 4 1,⟨some 6,.box (.c (.agg [.nils,.nils])),none⟩] (.seq (cS [oM 7 0,pn 8 7,oF 9 0 8,oL 10 1 9,bn 11 .eql 10 0] (.cond (.t 11) (cR [oM 12 0,oM 13 2,pn 14 12,oF 15 0 14,oS 1 15 13]) .skip)) (.seq (cS [oM 16 0,pn 17 16,oF 18 0 17,oL 19 1 18,bn 20 .neq 19 0] (.cond (.t 20) (cS [⟨some 21,.call (.f eF) [(.c (.int .i64 0))],none⟩,oS 2 6 21] .ret) .skip)) (cS [aK 22 2 4,oS 2 6 22] .ret))))⟩
def vn (bq ee fJ:Nat):az:=⟨25,[(.cell 6 true 2)],(cS [oX 4 1,oX 5 2,⟨some 6,.box (.c (.agg [.nils,.nils])),none⟩] (.seq (.reg (some [(7,10),(7,12),(7,16),(13,16),(14,16)]) [oM 7 0,oM 8 0,oM 9 0,oF 10 0 4,aK 11 2 10,oF 12 0 5,aK 13 2 12,⟨some 14,.call (.f bq) [(.t 9),(.t 11),(.t 13)],none⟩,oM 15 0,oF 16 2 4,aK 17 2 16,oF 18 2 5,aK 19 2 18,⟨some 20,.call (.f bq) [(.t 15),(.t 17),(.t 19)],none⟩,⟨some 21,.call (.f ee) [(.t 8),(.t 14),(.t 20)],none⟩,oF 22 4 4,aK 23 2 22,⟨some 24,.call (.f fJ) [(.t 7),(.t 21),(.t 23)],none⟩,oS 2 6 24]) .ret))⟩
def zR (iU cG:Nat):az:=⟨28,[(.cell 4 true 2),(.tmp 5)],(cS [oX 2 0,oX 3 1,⟨some 4,.box (.c (.agg [.nils,.nils])),none⟩,oI 5 0] (cS [oF 9 0 3,oL 10 1 9,oF 11 1 3,oL 12 1 11,bf 13 iU 10 12,oM 8 13,oE 14 8 0,oE 15 8 1,oM 6 14,oM 7 15] (.seq (cS [oM 16 7,bn 17 .neq 16 0] (.cond (.t 17) (cS [⟨some 18,.build [.nils,.nils] [],none⟩,oM 19 7,oS 2 4 18,oM 5 19] .ret) .skip)) (cS [aK 20 2 2,oF 21 0 3,oL 22 1 21,oM 23 6,⟨some 24,.build [.nils,.nils] [(0,(1,(.t 22))),(1,(1,(.t 23)))],none⟩,bf 25 cG 20 24,oE 26 25 0,oE 27 25 1,oS 2 4 26,oM 5 27] .ret))))⟩
def Ef (gu jT Hh BD Eg mL:Nat):az:=⟨80,[(.tmp 8),(.tmp 9)],(cS [oZ 8,oI 9 0] (.seq (cS [oM 16 2,oN 17 16,bn 18 .eql 17 0] (.cond (.t 18) (cS [oZ 8,oI 9 1] .ret) .skip)) (cS [oM 19 2,oN 20 19,oM 10 20] (cS [oM 22 0,oM 23 1,oM 24 2,oC 25 gu 24,oM 26 3,⟨some 27,.buildSl 1 1 (.str []) [(0,(.t 26))],none⟩,yZ 28 1 16 25 27,⟨some 29,.call (.f jT) [(.t 22),(.t 23),(.t 28)],none⟩,oM 21 29,oE 30 21 0,oE 31 21 1,oM 11 30,oM 12 31] (.seq (cS [oM 32 12,bn 33 .neq 32 0] (.cond (.t 33) (cS [oM 34 12,oZ 8,oM 9 34] .ret) .skip)) (.seq (cS [oM 35 11,oM 36 10,oA 37 14 35 36,oF 38 0 37,oL 39 1 38] (.cond (.t 39) (cS [oZ 8,oI 9 1] .ret) .skip)) (.seq (.reg (some [(4,14),(9,14),(10,14)]) [oM 41 11,oM 42 10,oA 43 14 41 42,oF 44 1 43,aK 45 4 44,oM 46 11,oM 47 10,oA 48 14 46 47,oF 49 5 48,aK 50 4 49,bf 51 Hh 45 50,oM 40 51,oE 52 40 0,oE 53 40 1,⟨some 13,.box (.c (.agg [.nils,.nils,.nils,.nils,.nils,.nils])),none⟩,oS 6 13 52,oM 12 53]) (.seq (cS [oM 54 12,bn 55 .neq 54 0] (.cond (.t 55) (cS [oM 56 12,oZ 8,oM 9 56] .ret) .skip)) (cS [⟨some 57,.build [(.int .i64 0)] [],none⟩,oX 58 57,⟨some 14,.box (.c .nilp),none⟩,oS 1 14 58] (cS [oM 59 0,oM 60 2,oM 61 11,oM 62 10,⟨some 63,.slice 14 (.t 61) none (some (.t 62)) none,none⟩,⟨some 64,.mkfn (.func BD) [] [(.t 14),(.t 13)],none⟩,⟨some 65,.call (.f Eg) [(.t 59),(.t 60),(.t 63),(.t 64),(.c (.bool true))],none⟩,oM 15 65] (.seq (cS [oL 66 1 14,pn 67 66,oF 68 0 67,oL 69 1 68,bn 70 .neq 69 0] (.cond (.t 70) (.seq (.reg (some []) [oL 71 1 14,pn 72 71,oF 73 0 72,oL 74 1 73,oZ 8,oM 9 74]) .ret) .skip)) (cS [oM 75 1,oM 76 15,bf 77 mL 75 76,oE 78 77 0,oE 79 77 1,oM 8 78,oM 9 79] .ret))))))))))))⟩
def vq (vt cU uj jU o6 xq:Nat):az:=⟨134,[(.tmp 8),(.tmp 9)],(cS [oZ 8,oI 9 0] (.seq (cS [oM 23 2,oN 24 23,bn 25 .eql 24 0] (.cond (.t 25) (cS [oZ 8,oI 9 1] .ret) .skip)) (.seq (cS [oM 26 0,oM 27 1,⟨some 28,.buildSl 1 0 (.str []) [],none⟩,oM 29 2,yZ 30 1 16 28 29,oM 31 3,⟨some 32,.buildSl 1 1 (.str []) [(0,(.t 31))],none⟩,yZ 33 1 16 30 32,⟨some 34,.call (.f vt) [(.t 26),(.t 27),(.t 33)],none⟩,oM 10 34] (cS [oM 35 10,bn 36 .neq 35 0] (.cond (.t 36) (cS [oM 37 10,oZ 8,oM 9 37] .ret) .skip))) (cS [oM 38 1,oM 39 1,oM 40 3,bf 41 cU 39 40,oA 42 15 38 41,oF 43 1 42,aK 44 14 43,⟨some 11,.box (.c (.agg [(.bool false),.nils,.nils,.nils,.nils,.nils,.nils,.nils,.nils,.nils,.nils,.nils,.nils,(.bool false)])),none⟩,oS 14 11 44] (.seq (cS [oF 45 0 11,oL 46 1 45] (.cond (.t 46) (cS [oZ 8,oI 9 1] .ret) .skip)) (cS [oF 48 1 11,aK 49 4 48,oF 50 5 11,aK 51 4 50,bf 52 uj 49 51,oM 47 52,oE 53 47 0,oE 54 47 1,⟨some 12,.box (.c (.agg [.nils,.nils,.nils,.nils,.nils,.nils])),none⟩,oS 6 12 53,oM 13 54] (cS [oZ 14] (.seq (cS [oI 15 0] (.block 0 (.loop (.seq (cS [oM 55 15,oM 56 2,oN 57 56,oT 58 .lss 55 57,oM 59 58,gM 60 13 59 true,⟨some 61,.bin .eql .int (.t 60) (.c (.int .i64 0)),some (59,true)⟩,oo 62 59 61] (.cond (.t 62) .skip (.exit 0))) (.seq (.block 1 (cS [oM 65 1,oM 66 1,oM 67 2,oM 68 15,oA 69 1 67 68,oL 70 1 69,bf 71 cU 66 70,oA 72 15 65 71,oF 73 1 72,aK 74 14 73,⟨some 16,.box (.c (.agg [(.bool false),.nils,.nils,.nils,.nils,.nils,.nils,.nils,.nils,.nils,.nils,.nils,.nils,(.bool false)])),none⟩,oS 14 16 74] (cS [aK 76 6 12,oF 77 1 16,aK 78 4 77,bf 79 jU 76 78,oM 75 79,oE 80 75 0,oE 81 75 1,⟨some 17,.box (.c (.agg [.nils,.nils,.nils,.nils])),none⟩,oS 4 17 80,oM 18 81] (cS [aK 83 6 12,oF 84 5 16,aK 85 4 84,bf 86 jU 83 85,oM 82 86,oE 87 82 0,oE 88 82 1,⟨some 19,.box (.c (.agg [.nils,.nils,.nils,.nils])),none⟩,oS 4 19 87,oM 20 88] (.seq (.reg (some [(1,3)]) [aK 89 4 17,aK 90 4 19,oF 91 1 16,oS 4 91 89,oF 92 5 16,oS 4 92 90]) (cS [oM 93 18,oM 94 20,bf 95 o6 93 94,oM 13 95] (.seq (cS [oF 96 0 16,oL 97 1 96] (.cond (.t 97) (cS [aK 99 6 12,oF 100 9 16,aK 101 4 100,bf 102 jU 99 101,oM 98 102,oE 103 98 0,oE 104 98 1,⟨some 21,.box (.c (.agg [.nils,.nils,.nils,.nils])),none⟩,oS 4 21 103,oM 22 104] (cS [aK 105 4 21,oF 106 13 16,oL 107 1 106,sx 108 107,oF 109 9 16,oS 4 109 105,oF 110 13 16,oS 1 110 108] (cR [oM 111 13,oM 112 22,bf 113 o6 111 112,oM 13 113]))) .skip)) (.reg (some []) [oM 114 14,oM 115 0,⟨some 116,.bin .add .str (.t 115) (.c (.str [47])),none⟩,oM 117 2,oM 118 15,oA 119 1 117 118,oL 120 1 119,⟨some 121,.bin .add .str (.t 116) (.t 120),none⟩,aK 122 14 16,⟨some 123,.build [(.str []),(.bool false),.nils,.nils,.nils,.nils,.nils,.nils,.nils,.nils,.nils,.nils,.nils,.nils,(.bool false)] [(0,(1,(.t 121))),(1,(14,(.t 122)))],none⟩,⟨some 124,.buildSl 15 1 (.agg [(.str []),(.bool false),.nils,.nils,.nils,.nils,.nils,.nils,.nils,.nils,.nils,.nils,.nils,.nils,(.bool false)]) [(0,(.t 123))],none⟩,yZ 125 15 320 114 124,oM 14 125])))))))) (cR [oM 63 15,bn 64 .add 63 1,oM 15 64])))))) (.seq (cS [oM 126 13,bn 127 .neq 126 0] (.cond (.t 127) (cS [oM 128 13,oZ 8,oM 9 128] .ret) .skip)) (cS [oM 129 1,oM 130 14,bf 131 xq 129 130,oE 132 131 0,oE 133 131 1,oM 8 132,oM 9 133] .ret))))))))))⟩
def jV (xr yP eH gu vu vv xt cU kC:Nat):az:=⟨146,[(.tmp 4)],(cS [oB 4 false] (.seq (cS [⟨some 20,.call (.f xr) [],none⟩,sx 21 20] (.cond (.t 21) (cS [oB 4 false] .ret) .skip)) (cS [oM 23 0,oC 24 yP 23,oM 22 24,oE 25 22 0,oE 26 22 1,oM 5 25,oM 6 26] (.seq (cS [oM 27 6,sx 28 27,oM 29 28,gM 30 1 29 false,gN 31 30 29 false,⟨some 32,.bin .lss .int (.t 31) (.c (.int .i64 2)),some (29,false)⟩,yh 33 29 32,oM 34 33,gM 35 1 34 false,gN 36 35 34 false,⟨some 37,.bin .gtr .int (.t 36) (.c (.int .i64 6)),some (34,false)⟩,yh 38 34 37,oM 39 38,gM 40 1 39 false,⟨some 41,.iaddrS 1 (.t 40) (.c (.int .i64 0)),some (39,false)⟩,gL 42 1 41 39 false,⟨some 43,.len true (.t 42),some (39,false)⟩,⟨some 44,.bin .gtr .int (.t 43) (.c (.int .i64 40)),some (39,false)⟩,yh 45 39 44] (.cond (.t 45) (cS [oB 4 true] .ret) .skip)) (.seq (.reg (some []) [oM 46 1,oM 47 1,oN 48 47,bn 49 .sub 48 1,⟨some 50,.slice 1 (.t 46) (some (.c (.int .i64 1))) (some (.t 49)) none,none⟩,oM 51 1,oM 52 1,oN 53 52,bn 54 .sub 53 1,oA 55 1 51 54,oL 56 1 55,oM 7 50,oM 8 56]) (.seq (.reg (some [(2,4),(2,6)]) [oM 58 1,⟨some 59,.iaddrS 1 (.t 58) (.c (.int .i64 0)),none⟩,oL 60 1 59,oM 61 5,oC 62 eH 61,oM 63 7,oC 64 gu 63,oM 65 8,⟨some 66,.call (.f vu) [(.t 60),(.t 62),(.t 64),(.t 65)],none⟩,oM 57 66,oE 67 57 0,oE 68 57 1,oM 9 67,oM 10 68]) (cS [oM 70 1,⟨some 71,.iaddrS 1 (.t 70) (.c (.int .i64 0)),none⟩,oL 72 1 71,oM 73 5,oM 74 7,oM 75 8,⟨some 76,.call (.f vv) [(.t 72),(.t 73),(.t 74),(.t 75)],none⟩,oM 69 76,oE 77 69 0,oE 78 69 1,oM 11 77,oM 12 78] (.seq (cS [oM 79 9,oM 80 10,oM 81 11,oM 82 12,⟨some 83,.call (.f xt) [(.t 79),(.t 80),(.t 81),(.t 82)],none⟩,sx 84 83] (.cond (.t 84) (cS [oB 4 false] .ret) .skip)) (.seq (cS [oM 85 10,bn 86 .neq 85 0] (.cond (.t 86) (cS [oB 4 true] .ret) .skip)) (cS [oZ 13] (.seq (cS [oM 87 9,oM 88 5,oN 89 88,⟨some 90,.slice 15 (.t 87) (some (.t 89)) none none,none⟩,oN 91 90,oI 92 0] (.block 0 (.loop (cS [oT 93 .lss 92 91] (.seq (.cond (.t 93) .skip (.exit 0)) (.seq (.block 1 (cS [oA 94 15 90 92,aK 95 15 94,⟨some 15,.box (.c (.agg [(.str []),(.bool false),.nils,.nils,.nils,.nils,.nils,.nils,.nils,.nils,.nils,.nils,.nils,.nils,(.bool false)])),none⟩,oS 15 15 95] (cR [oM 96 13,oF 97 0 15,oL 98 1 97,⟨some 99,.buildSl 1 1 (.str []) [(0,(.t 98))],none⟩,yZ 100 1 16 96 99,oM 13 100]))) (cR [bn 101 .add 92 1,oM 92 101]))))))) (cS [oM 103 9,oM 104 13,oM 105 8,⟨some 106,.call (.f vu) [(.c (.str [97,103,97,105,110])),(.t 103),(.t 104),(.t 105)],none⟩,oM 102 106,oE 107 102 0,oE 108 102 1,oM 16 107,oM 17 108] (.seq (cS [oM 109 17,bn 110 .neq 109 0,oM 111 110,gM 112 16 111 false,gN 113 112 111 false,gM 114 9 111 false,gN 115 114 111 false,gM 116 7 111 false,gN 117 116 111 false,gT 118 .add 115 117 111 false,gT 119 .neq 113 118 111 false,yh 120 111 119] (.cond (.t 120) (cS [oB 4 false] .ret) .skip)) (.seq (cS [oM 121 7,oN 122 121,oI 123 0] (.block 2 (.loop (cS [oT 124 .lss 123 122] (.seq (.cond (.t 124) .skip (.exit 2)) (.seq (.block 3 (cS [oM 125 123,oA 126 1 121 123,oL 127 1 126,oM 18 125,oM 19 127] (.seq (.reg (some [(7,11)]) [oM 128 16,oM 129 9,oN 130 129,oM 131 18,oT 132 .add 130 131,oA 133 15 128 132,oF 134 1 133,aK 135 14 134,oM 136 5,oM 137 5,oM 138 19,bf 139 cU 137 138,oA 140 15 136 139,oF 141 1 140,aK 142 14 141,bf 143 kC 135 142,sx 144 143]) (.cond (.t 144) (cS [oB 4 false] .ret) .skip)))) (cR [bn 145 .add 123 1,oM 123 145]))))))) (cS [oB 4 true] .ret)))))))))))))))⟩
end Go.VL
end

section
set_option maxRecDepth 100000
namespace Go.Proofs.YtchdghnpcekegaaGreat
open Go.VL Go.Proofs
theorem BF:Has Tryz.prog 93 (mS):=⟨_,Tryz.func93,by kernel_rfl⟩
theorem CP:Has Tryz.prog 144 (nC):=⟨_,Tryz.func144,by kernel_rfl⟩
theorem Eh:Has Tryz.prog 95 (rq 93 144):=⟨_,Tryz.func95,by kernel_rfl⟩
theorem Hi:Has Tryz.prog 94 (wM):=⟨_,Tryz.func94,by kernel_rfl⟩
theorem Ei:Has Tryz.prog 45 (lM 93 94 95):=⟨_,Tryz.func45,by kernel_rfl⟩
theorem js:Has Tryz.prog 8 (eA):=⟨_,Tryz.func8,by kernel_rfl⟩
theorem sI:Has Tryz.prog 58 (eP 111):=⟨_,Tryz.func58,by kernel_rfl⟩
theorem vz:Has Tryz.prog 111 (fO 157 158):=⟨_,Tryz.func111,by kernel_rfl⟩
theorem sJ:Has Tryz.prog 157 (uY):=⟨_,Tryz.func157,by kernel_rfl⟩
theorem uk:Has Tryz.prog 158 (wO):=⟨_,Tryz.func158,by kernel_rfl⟩
theorem Ej:Has Tryz.prog 127 (gm):=⟨_,Tryz.func127,by kernel_rfl⟩
theorem BG:Has Tryz.prog 191 (mU 127):=⟨_,Tryz.func191,by kernel_rfl⟩
theorem zS:Has Tryz.prog 192 (j6 127):=⟨_,Tryz.func192,by kernel_rfl⟩
theorem AO:Has Tryz.prog 255 (oq 254 289):=⟨_,Tryz.func255,by kernel_rfl⟩
theorem Ek:Has Tryz.prog 276 (rr):=⟨_,Tryz.func276,by kernel_rfl⟩
theorem CQ:Has Tryz.prog 277 (qm 127):=⟨_,Tryz.func277,by kernel_rfl⟩
theorem CR:Has Tryz.prog 256 (qn 127):=⟨_,Tryz.func256,by kernel_rfl⟩
theorem yQ:Has Tryz.prog 306 (jx):=⟨_,Tryz.func306,by kernel_rfl⟩
theorem kH:Has Tryz.prog 309 (gn):=⟨_,Tryz.func309,by kernel_rfl⟩
theorem xu:Has Tryz.prog 304 (lN 127 192):=⟨_,Tryz.func304,by kernel_rfl⟩
theorem BH:Has Tryz.prog 295 (pA 255 175 296 192 304 305 306 127 307 308 309):=⟨_,Tryz.func295,by kernel_rfl⟩
theorem zT:Has Tryz.prog 307 (j7):=⟨_,Tryz.func307,by kernel_rfl⟩
theorem AP:Has Tryz.prog 308 (lE):=⟨_,Tryz.func308,by kernel_rfl⟩
theorem CS:Has Tryz.prog 270 (qo):=⟨_,Tryz.func270,by kernel_rfl⟩
theorem El:Has Tryz.prog 66 (ry 127):=⟨_,Tryz.func66,by kernel_rfl⟩
theorem FG:Has Tryz.prog 219 (tP 66 254 127 255):=⟨_,Tryz.func219,by kernel_rfl⟩
theorem FH:Has Tryz.prog 246 (tQ 127 175 191):=⟨_,Tryz.func246,by kernel_rfl⟩
theorem FI:Has Tryz.prog 220 (tR 127 256 191):=⟨_,Tryz.func220,by kernel_rfl⟩
theorem BI:Has Tryz.prog 300 (pB 127 295 276 277 191):=⟨_,Tryz.func300,by kernel_rfl⟩
theorem FJ:Has Tryz.prog 271 (tT 127 295 175 191 296 192):=⟨_,Tryz.func271,by kernel_rfl⟩
theorem AQ:Has Tryz.prog 154 (ou 192 191):=⟨_,Tryz.func154,by kernel_rfl⟩
theorem Em:Has Tryz.prog 155 (rz 154):=⟨_,Tryz.func155,by kernel_rfl⟩
theorem BJ:Has Tryz.prog 248 (pC):=⟨_,Tryz.func248,by kernel_rfl⟩
theorem En:Has Tryz.prog 278 (rA 248 300):=⟨_,Tryz.func278,by kernel_rfl⟩
theorem AR:Has Tryz.prog 250 (ow 271 246 278):=⟨_,Tryz.func250,by kernel_rfl⟩
theorem BM:Has Tryz.prog 245 (pD 270 66 271 248):=⟨_,Tryz.func245,by kernel_rfl⟩
theorem CT:Has Tryz.prog 36 (nE 66):=⟨_,Tryz.func36,by kernel_rfl⟩
theorem zU:Has Tryz.prog 101 (nL 154 155):=⟨_,Tryz.func101,by kernel_rfl⟩
theorem Eo:Has Tryz.prog 227 (ox 248 220 155 250):=⟨_,Tryz.func227,by kernel_rfl⟩
theorem ni:Has Tryz.prog 316 (oy):=⟨_,Tryz.func316,by kernel_rfl⟩
theorem qE:Has Tryz.prog 305 (ir 316):=⟨_,Tryz.func305,by kernel_rfl⟩
theorem CU:Has Tryz.prog 288 (qp):=⟨_,Tryz.func288,by kernel_rfl⟩
theorem zV:Has Tryz.prog 301 (nM):=⟨_,Tryz.func301,by kernel_rfl⟩
theorem AU:Has Tryz.prog 254 (oD 288):=⟨_,Tryz.func254,by kernel_rfl⟩
theorem xv:Has Tryz.prog 289 (lR 301):=⟨_,Tryz.func289,by kernel_rfl⟩
theorem po:Has Tryz.prog 175 (dc):=⟨_,Tryz.func175,by kernel_rfl⟩
theorem vA:Has Tryz.prog 138 (yz):=⟨_,Tryz.func138,by kernel_rfl⟩
theorem sK:Has Tryz.prog 83 (jF 138):=⟨_,Tryz.func83,by kernel_rfl⟩
theorem vC:Has Tryz.prog 252 (kY 83):=⟨_,Tryz.func252,by kernel_rfl⟩
theorem um:Has Tryz.prog 266 (j8 138):=⟨_,Tryz.func266,by kernel_rfl⟩
theorem uo:Has Tryz.prog 84 (wP 138):=⟨_,Tryz.func84,by kernel_rfl⟩
theorem rX:Has Tryz.prog 40 (je 84 83):=⟨_,Tryz.func40,by kernel_rfl⟩
theorem uq:Has Tryz.prog 280 (j9):=⟨_,Tryz.func280,by kernel_rfl⟩
theorem rY:Has Tryz.prog 279 (jf):=⟨_,Tryz.func279,by kernel_rfl⟩
theorem vD:Has Tryz.prog 292 (kZ 138):=⟨_,Tryz.func292,by kernel_rfl⟩
theorem nw:Has Tryz.prog 285 (dX 138):=⟨_,Tryz.func285,by kernel_rfl⟩
theorem nx:Has Tryz.prog 293 (gO 138):=⟨_,Tryz.func293,by kernel_rfl⟩
theorem yR:Has Tryz.prog 281 (nc 138):=⟨_,Tryz.func281,by kernel_rfl⟩
theorem sL:Has Tryz.prog 282 (gy):=⟨_,Tryz.func282,by kernel_rfl⟩
theorem rZ:Has Tryz.prog 283 (gb):=⟨_,Tryz.func283,by kernel_rfl⟩
theorem vE:Has Tryz.prog 286 (k5 138):=⟨_,Tryz.func286,by kernel_rfl⟩
theorem ur:Has Tryz.prog 284 (gP 293 138 279 285):=⟨_,Tryz.func284,by kernel_rfl⟩
theorem sM:Has Tryz.prog 251 (jG 279 280 84 281 282 283 138 284 285 286):=⟨_,Tryz.func251,by kernel_rfl⟩
theorem vF:Has Tryz.prog 215 (k6 252):=⟨_,Tryz.func215,by kernel_rfl⟩
theorem xw:Has Tryz.prog 216 (lS 83):=⟨_,Tryz.func216,by kernel_rfl⟩
theorem xx:Has Tryz.prog 264 (lT 252 292 83 279 285):=⟨_,Tryz.func264,by kernel_rfl⟩
theorem xy:Has Tryz.prog 287 (lU 216 264):=⟨_,Tryz.func287,by kernel_rfl⟩
theorem xz:Has Tryz.prog 265 (lV 252 293 83):=⟨_,Tryz.func265,by kernel_rfl⟩
theorem sN:Has Tryz.prog 253 (jH 252 251 83 265 287 215 40 264):=⟨_,Tryz.func253,by kernel_rfl⟩
theorem xA:Has Tryz.prog 214 (lW 138 251 83):=⟨_,Tryz.func214,by kernel_rfl⟩
theorem xB:Has Tryz.prog 217 (lX 253):=⟨_,Tryz.func217,by kernel_rfl⟩
theorem r6:Has Tryz.prog 15 (jg 40):=⟨_,Tryz.func15,by kernel_rfl⟩
theorem xC:Has Tryz.prog 263 (lY):=⟨_,Tryz.func263,by kernel_rfl⟩
theorem uu:Has Tryz.prog 236 (wR 266 215 214 263):=⟨_,Tryz.func236,by kernel_rfl⟩
theorem vG:Has Tryz.prog 242 (yC 215):=⟨_,Tryz.func242,by kernel_rfl⟩
theorem xD:Has Tryz.prog 231 (lZ 15 263 265 214 217):=⟨_,Tryz.func231,by kernel_rfl⟩
theorem FK:Has Tryz.prog 249 (nr 127 276 191 255 277):=⟨_,Tryz.func249,by kernel_rfl⟩
theorem AW:Has Tryz.prog 258 (oJ):=⟨_,Tryz.func258,by kernel_rfl⟩
theorem Ep:Has Tryz.prog 185 (rC 36 220 219):=⟨_,Tryz.func185,by kernel_rfl⟩
theorem Er:Has Tryz.prog 213 (rD 248 249 155 220 250):=⟨_,Tryz.func213,by kernel_rfl⟩
theorem Es:Has Tryz.prog 208 (rE 246):=⟨_,Tryz.func208,by kernel_rfl⟩
theorem Et:Has Tryz.prog 223 (rF 258 220 250):=⟨_,Tryz.func223,by kernel_rfl⟩
theorem AX:Has Tryz.prog 244 (lF 245):=⟨_,Tryz.func244,by kernel_rfl⟩
theorem mW:Has Tryz.prog 269 (c9):=⟨_,Tryz.func269,by kernel_rfl⟩
theorem lC:Has Tryz.prog 243 (cF 269):=⟨_,Tryz.func243,by kernel_rfl⟩
theorem CV:Has Tryz.prog 207 (qq 243 244):=⟨_,Tryz.func207,by kernel_rfl⟩
theorem AY:Has Tryz.prog 206 (oO 207):=⟨_,Tryz.func206,by kernel_rfl⟩
theorem Eu:Has Tryz.prog 173 (rG 206 207):=⟨_,Tryz.func173,by kernel_rfl⟩
theorem Ev:Has Tryz.prog 177 (rH 173 207):=⟨_,Tryz.func177,by kernel_rfl⟩
theorem Bg:Has Tryz.prog 178 (zj 213):=⟨_,Tryz.func178,by kernel_rfl⟩
theorem Iy:Has Tryz.prog 174 (zk 208):=⟨_,Tryz.func174,by kernel_rfl⟩
theorem Iz:Has Tryz.prog 135 (zl 177 178):=⟨_,Tryz.func135,by kernel_rfl⟩
theorem IA:Has Tryz.prog 136 (zm 177 174 178):=⟨_,Tryz.func136,by kernel_rfl⟩
theorem IB:Has Tryz.prog 130 (zp 173 174):=⟨_,Tryz.func130,by kernel_rfl⟩
theorem IC:Has Tryz.prog 193 (zr 227 222 228 224 226 193 178):=⟨_,Tryz.func193,by kernel_rfl⟩
theorem ID:Has Tryz.prog 156 (zt 177 193):=⟨_,Tryz.func156,by kernel_rfl⟩
theorem FL:Has Tryz.prog 228 (p5 101):=⟨_,Tryz.func228,by kernel_rfl⟩
theorem CW:Has Tryz.prog 221 (qu 206 245 228):=⟨_,Tryz.func221,by kernel_rfl⟩
theorem CY:Has Tryz.prog 190 (qv 101 223 224 225 190 226 193 174):=⟨_,Tryz.func190,by kernel_rfl⟩
theorem IE:Has Tryz.prog 153 (zu 173 190):=⟨_,Tryz.func153,by kernel_rfl⟩
theorem BN:Has Tryz.prog 131 (pF 175):=⟨_,Tryz.func131,by kernel_rfl⟩
theorem BO:Has Tryz.prog 72 (pG 131):=⟨_,Tryz.func72,by kernel_rfl⟩
theorem BP:Has Tryz.prog 54 (pI 101 72):=⟨_,Tryz.func54,by kernel_rfl⟩
theorem qN:Has Tryz.prog 172 (oU 131):=⟨_,Tryz.func172,by kernel_rfl⟩
theorem td:Has Tryz.prog 129 (nF 172):=⟨_,Tryz.func129,by kernel_rfl⟩
theorem uv:Has Tryz.prog 184 (ke 185):=⟨_,Tryz.func184,by kernel_rfl⟩
theorem xE:Has Tryz.prog 147 (l6 183 184):=⟨_,Tryz.func147,by kernel_rfl⟩
theorem gE:Has Tryz.prog 183 (cd):=⟨_,Tryz.func183,by kernel_rfl⟩
theorem fW:Has Tryz.prog 182 (bT):=⟨_,Tryz.func182,by kernel_rfl⟩
theorem CZ:Has Tryz.prog 146 (qx 182 147):=⟨_,Tryz.func146,by kernel_rfl⟩
theorem oh:Has Tryz.prog 189 (cO):=⟨_,Tryz.func189,by kernel_rfl⟩
theorem Hj:Has Tryz.prog 152 (wT 189 101):=⟨_,Tryz.func152,by kernel_rfl⟩
theorem C0:Has Tryz.prog 186 (qy 146 187):=⟨_,Tryz.func186,by kernel_rfl⟩
theorem FM:Has Tryz.prog 148 (tZ 186 146 152 187 188 129):=⟨_,Tryz.func148,by kernel_rfl⟩
theorem nR:Has Tryz.prog 134 (pJ 148):=⟨_,Tryz.func134,by kernel_rfl⟩
theorem Hk:Has Tryz.prog 76 (wV 134 135):=⟨_,Tryz.func76,by kernel_rfl⟩
theorem Hl:Has Tryz.prog 78 (wW 134 136):=⟨_,Tryz.func78,by kernel_rfl⟩
theorem Hm:Has Tryz.prog 102 (wX 134 156):=⟨_,Tryz.func102,by kernel_rfl⟩
theorem Hn:Has Tryz.prog 71 (wY 129 130):=⟨_,Tryz.func71,by kernel_rfl⟩
theorem Ho:Has Tryz.prog 99 (wZ 153 102):=⟨_,Tryz.func99,by kernel_rfl⟩
theorem FN:Has Tryz.prog 70 (uc 128):=⟨_,Tryz.func70,by kernel_rfl⟩
theorem Ew:Has Tryz.prog 97 (rI 146 147 148 149 150 152 151):=⟨_,Tryz.func97,by kernel_rfl⟩
theorem IF:Has Tryz.prog 170 (zy 173 205):=⟨_,Tryz.func170,by kernel_rfl⟩
theorem IG:Has Tryz.prog 205 (zz 101 221 173 171):=⟨_,Tryz.func205,by kernel_rfl⟩
theorem Hp:Has Tryz.prog 171 (w6 36 171 156 136):=⟨_,Tryz.func171,by kernel_rfl⟩
theorem IH:Has Tryz.prog 128 (zA 170 171):=⟨_,Tryz.func128,by kernel_rfl⟩
theorem iN:Has Tryz.prog 100 (ud):=⟨_,Tryz.func100,by kernel_rfl⟩
theorem Hq:Has Tryz.prog 137 (w7 100 76):=⟨_,Tryz.func137,by kernel_rfl⟩
theorem zW:Has Tryz.prog 52 (w9 100 78):=⟨_,Tryz.func52,by kernel_rfl⟩
theorem Ex:Has Tryz.prog 105 (rJ 100 102):=⟨_,Tryz.func105,by kernel_rfl⟩
theorem vH:Has Tryz.prog 48 (zB 97):=⟨_,Tryz.func48,by kernel_rfl⟩
theorem vI:Has Tryz.prog 179 (k7 214 215 216 217):=⟨_,Tryz.func179,by kernel_rfl⟩
theorem vJ:Has Tryz.prog 140 (k8 15 40 179):=⟨_,Tryz.func140,by kernel_rfl⟩
theorem xF:Has Tryz.prog 230 (l8 263 264 214 265 217):=⟨_,Tryz.func230,by kernel_rfl⟩
theorem xG:Has Tryz.prog 218 (l9 216):=⟨_,Tryz.func218,by kernel_rfl⟩
theorem xH:Has Tryz.prog 234 (me 216):=⟨_,Tryz.func234,by kernel_rfl⟩
theorem uw:Has Tryz.prog 199 (kh 236):=⟨_,Tryz.func199,by kernel_rfl⟩
theorem ux:Has Tryz.prog 198 (ki 199):=⟨_,Tryz.func198,by kernel_rfl⟩
theorem sO:Has Tryz.prog 166 (jL 198 199):=⟨_,Tryz.func166,by kernel_rfl⟩
theorem xI:Has Tryz.prog 195 (mf 230):=⟨_,Tryz.func195,by kernel_rfl⟩
theorem xJ:Has Tryz.prog 181 (mg 218):=⟨_,Tryz.func181,by kernel_rfl⟩
theorem xK:Has Tryz.prog 196 (mh 231 232 196 15 233 195):=⟨_,Tryz.func196,by kernel_rfl⟩
theorem xL:Has Tryz.prog 197 (mi 234 232 197 15 233 235 196 181):=⟨_,Tryz.func197,by kernel_rfl⟩
theorem vK:Has Tryz.prog 204 (ld 242 204 235):=⟨_,Tryz.func204,by kernel_rfl⟩
theorem vL:Has Tryz.prog 169 (lf 204):=⟨_,Tryz.func169,by kernel_rfl⟩
theorem r7:Has Tryz.prog 167 (jj 166 200 201):=⟨_,Tryz.func167,by kernel_rfl⟩
theorem r8:Has Tryz.prog 86 (jk):=⟨_,Tryz.func86,by kernel_rfl⟩
theorem r9:Has Tryz.prog 120 (jl 15 86):=⟨_,Tryz.func120,by kernel_rfl⟩
theorem sP:Has Tryz.prog 259 (jN 290):=⟨_,Tryz.func259,by kernel_rfl⟩
theorem n6:Has Tryz.prog 261 (lg 15):=⟨_,Tryz.func261,by kernel_rfl⟩
theorem vM:Has Tryz.prog 229 (lh 259 260 261 262):=⟨_,Tryz.func229,by kernel_rfl⟩
theorem xM:Has Tryz.prog 194 (ml 229):=⟨_,Tryz.func194,by kernel_rfl⟩
theorem xN:Has Tryz.prog 159 (mn 194 195):=⟨_,Tryz.func159,by kernel_rfl⟩
theorem xO:Has Tryz.prog 143 (mq 181):=⟨_,Tryz.func143,by kernel_rfl⟩
theorem xP:Has Tryz.prog 165 (mr 143 159):=⟨_,Tryz.func165,by kernel_rfl⟩
theorem xQ:Has Tryz.prog 163 (mw 194 196):=⟨_,Tryz.func163,by kernel_rfl⟩
theorem vN:Has Tryz.prog 125 (lj 169):=⟨_,Tryz.func125,by kernel_rfl⟩
theorem xR:Has Tryz.prog 126 (my 165 125):=⟨_,Tryz.func126,by kernel_rfl⟩
theorem uy:Has Tryz.prog 65 (ko 126):=⟨_,Tryz.func65,by kernel_rfl⟩
theorem uz:Has Tryz.prog 123 (kp 166 167):=⟨_,Tryz.func123,by kernel_rfl⟩
theorem vP:Has Tryz.prog 42 (lq 86):=⟨_,Tryz.func42,by kernel_rfl⟩
theorem ny:Has Tryz.prog 17 (kq 15 42):=⟨_,Tryz.func17,by kernel_rfl⟩
theorem uA:Has Tryz.prog 161 (kr):=⟨_,Tryz.func161,by kernel_rfl⟩
theorem xS:Has Tryz.prog 160 (mA):=⟨_,Tryz.func160,by kernel_rfl⟩
theorem xT:Has Tryz.prog 112 (mB 159 161 160):=⟨_,Tryz.func112,by kernel_rfl⟩
theorem xU:Has Tryz.prog 113 (mD 143):=⟨_,Tryz.func113,by kernel_rfl⟩
theorem xV:Has Tryz.prog 59 (mE 113 112):=⟨_,Tryz.func59,by kernel_rfl⟩
theorem uB:Has Tryz.prog 142 (ks 163 161 160):=⟨_,Tryz.func142,by kernel_rfl⟩
theorem vQ:Has Tryz.prog 92 (lr 143):=⟨_,Tryz.func92,by kernel_rfl⟩
theorem xW:Has Tryz.prog 241 (mG 163 161 159):=⟨_,Tryz.func241,by kernel_rfl⟩
theorem sQ:Has Tryz.prog 203 (jP 241):=⟨_,Tryz.func203,by kernel_rfl⟩
theorem uC:Has Tryz.prog 34 (kt 65):=⟨_,Tryz.func34,by kernel_rfl⟩
theorem uD:Has Tryz.prog 63 (ku 123):=⟨_,Tryz.func63,by kernel_rfl⟩
theorem qF:Has Tryz.prog 180 (iu):=⟨_,Tryz.func180,by kernel_rfl⟩
theorem qV:Has Tryz.prog 202 (iH 180 120):=⟨_,Tryz.func202,by kernel_rfl⟩
theorem qW:Has Tryz.prog 141 (iI 180 17):=⟨_,Tryz.func141,by kernel_rfl⟩
theorem qG:Has Tryz.prog 90 (iw 112 141):=⟨_,Tryz.func90,by kernel_rfl⟩
theorem qd:Has Tryz.prog 88 (gU 59 141):=⟨_,Tryz.func88,by kernel_rfl⟩
theorem qe:Has Tryz.prog 91 (gV 142 141):=⟨_,Tryz.func91,by kernel_rfl⟩
theorem pO:Has Tryz.prog 168 (gD 203 202):=⟨_,Tryz.func168,by kernel_rfl⟩
theorem qX:Has Tryz.prog 124 (iJ 88 168):=⟨_,Tryz.func124,by kernel_rfl⟩
theorem sR:Has Tryz.prog 44 (jQ):=⟨_,Tryz.func44,by kernel_rfl⟩
theorem uE:Has Tryz.prog 64 (kv 34 124 125 65):=⟨_,Tryz.func64,by kernel_rfl⟩
theorem vR:Has Tryz.prog 89 (lu 140 42):=⟨_,Tryz.func89,by kernel_rfl⟩
theorem yS:Has Tryz.prog 87 (nd 140 42):=⟨_,Tryz.func87,by kernel_rfl⟩
theorem uF:Has Tryz.prog 43 (kx 87 17 88 89 91 92 90 64):=⟨_,Tryz.func43,by kernel_rfl⟩
theorem m8:Has Tryz.prog 19 (gz 43):=⟨_,Tryz.func19,by kernel_rfl⟩
theorem gi:Has Tryz.prog 11 (kz 34):=⟨_,Tryz.func11,by kernel_rfl⟩
theorem sS:Has Tryz.prog 20 (jR 44):=⟨_,Tryz.func20,by kernel_rfl⟩
theorem vS:Has Tryz.prog 12 (lx):=⟨_,Tryz.func12,by kernel_rfl⟩
theorem sT:Has Tryz.prog 28 (jS 58 12):=⟨_,Tryz.func28,by kernel_rfl⟩
theorem vU:Has Tryz.prog 62 (ly 12):=⟨_,Tryz.func62,by kernel_rfl⟩
theorem uG:Has Tryz.prog 32 (kA 62):=⟨_,Tryz.func32,by kernel_rfl⟩
theorem jW:Has Tryz.prog 18 (lz 11):=⟨_,Tryz.func18,by kernel_rfl⟩
theorem vV:Has Tryz.prog 33 (lA 63 64):=⟨_,Tryz.func33,by kernel_rfl⟩
theorem vW:Has Tryz.prog 5 (lB 19 20):=⟨_,Tryz.func5,by kernel_rfl⟩
theorem iV:Has Tryz.prog 25 (nN 53 54):=⟨_,Tryz.func25,by kernel_rfl⟩
theorem xX:Has Tryz.prog 80 (mJ 105 25):=⟨_,Tryz.func80,by kernel_rfl⟩
theorem zX:Has Tryz.prog 79 (nO 137 25):=⟨_,Tryz.func79,by kernel_rfl⟩
theorem qO:Has Tryz.prog 82 (oW):=⟨_,Tryz.func82,by kernel_rfl⟩
theorem aR:Has Tryz.prog 81 (dI):=⟨_,Tryz.func81,by kernel_rfl⟩
theorem te:Has Tryz.prog 39 (qC 82 81):=⟨_,Tryz.func39,by kernel_rfl⟩
theorem mX:Has Tryz.prog 47 (mK 39):=⟨_,Tryz.func47,by kernel_rfl⟩
theorem fG:Has Tryz.prog 145 (gr):=⟨_,Tryz.func145,by kernel_rfl⟩
theorem eN:Has Tryz.prog 96 (e8 145):=⟨_,Tryz.func96,by kernel_rfl⟩
theorem mN:Has Tryz.prog 46 (nP 96):=⟨_,Tryz.func46,by kernel_rfl⟩
theorem nS:Has Tryz.prog 21 (pK 45 46 47):=⟨_,Tryz.func21,by kernel_rfl⟩
theorem bh:Has Tryz.prog 109 (du 81):=⟨_,Tryz.func109,by kernel_rfl⟩
theorem nT:Has Tryz.prog 107 (pL):=⟨_,Tryz.func107,by kernel_rfl⟩
theorem nU:Has Tryz.prog 108 (pM 39):=⟨_,Tryz.func108,by kernel_rfl⟩
theorem pP:Has Tryz.prog 56 (rL 107 108 109):=⟨_,Tryz.func56,by kernel_rfl⟩
theorem er:Has Tryz.prog 110 (dv):=⟨_,Tryz.func110,by kernel_rfl⟩
theorem dS:Has Tryz.prog 57 (eo 110):=⟨_,Tryz.func57,by kernel_rfl⟩
theorem pQ:Has Tryz.prog 27 (rM 56 57):=⟨_,Tryz.func27,by kernel_rfl⟩
theorem gA:Has Tryz.prog 7 (cj):=⟨_,Tryz.func7,by kernel_rfl⟩
theorem BQ:Has Tryz.prog 23 (pN):=⟨_,Tryz.func23,by kernel_rfl⟩
theorem nz:Has Tryz.prog 10 (kF 33 18):=⟨_,Tryz.func10,by kernel_rfl⟩
theorem uH:Has Tryz.prog 4 (xi 13 15 14 16 17 18):=⟨_,Tryz.func4,by kernel_rfl⟩
theorem sc:Has Tryz.prog 13 (uf 17):=⟨_,Tryz.func13,by kernel_rfl⟩
theorem se:Has Tryz.prog 14 (D9 21 35 36 37 7 39 38 27):=⟨_,Tryz.func14,by kernel_rfl⟩
theorem BR:Has Tryz.prog 16 (Eb 21 36 41 27):=⟨_,Tryz.func16,by kernel_rfl⟩
theorem BU:Has Tryz.prog 35 (Ec 48):=⟨_,Tryz.func35,by kernel_rfl⟩
theorem tg:Has Tryz.prog 37 (FB 67 69 68 70 71 72 73 74 77 76 75 78 80 79):=⟨_,Tryz.func37,by kernel_rfl⟩
theorem qf:Has Tryz.prog 38 (Bw 48):=⟨_,Tryz.func38,by kernel_rfl⟩
theorem zY:Has Tryz.prog 41 (Bx 72 67 85 73 68 75 80 79 71 76 70):=⟨_,Tryz.func41,by kernel_rfl⟩
theorem zZ:Has Tryz.prog 67 (rP 52 25):=⟨_,Tryz.func67,by kernel_rfl⟩
theorem z5:Has Tryz.prog 68 (rQ 53 54):=⟨_,Tryz.func68,by kernel_rfl⟩
theorem Ey:Has Tryz.prog 69 (zL 85 77):=⟨_,Tryz.func69,by kernel_rfl⟩
theorem C1:Has Tryz.prog 73 (ym 132 133):=⟨_,Tryz.func73,by kernel_rfl⟩
theorem z6:Has Tryz.prog 74 (rR 102 68):=⟨_,Tryz.func74,by kernel_rfl⟩
theorem z7:Has Tryz.prog 75 (rS 99 68):=⟨_,Tryz.func75,by kernel_rfl⟩
theorem z8:Has Tryz.prog 77 (CJ 100 102 76):=⟨_,Tryz.func77,by kernel_rfl⟩
theorem FO:Has Tryz.prog 85 (Bc 71 139):=⟨_,Tryz.func85,by kernel_rfl⟩
theorem th:Has Tryz.prog 132 (yn 77):=⟨_,Tryz.func132,by kernel_rfl⟩
theorem FP:Has Tryz.prog 133 (Bd 176 129):=⟨_,Tryz.func133,by kernel_rfl⟩
theorem C2:Has Tryz.prog 139 (yo 71):=⟨_,Tryz.func139,by kernel_rfl⟩
theorem FQ:Has Tryz.prog 176 (Be 173 209 128 210 211 189 212):=⟨_,Tryz.func176,by kernel_rfl⟩
theorem Ez:Has Tryz.prog 209 (zM 173 128 247):=⟨_,Tryz.func209,by kernel_rfl⟩
theorem C3:Has Tryz.prog 210 (yp 247 128 130):=⟨_,Tryz.func210,by kernel_rfl⟩
theorem Hr:Has Tryz.prog 211 (CL 189):=⟨_,Tryz.func211,by kernel_rfl⟩
theorem FR:Has Tryz.prog 247 (Bf 272 222 247 101 221 273 153 156 274 135 136 275):=⟨_,Tryz.func247,by kernel_rfl⟩
theorem C4:Has Tryz.prog 272 (yq 297):=⟨_,Tryz.func272,by kernel_rfl⟩
theorem ti:Has Tryz.prog 297 (yt 311 220 219):=⟨_,Tryz.func297,by kernel_rfl⟩
theorem vY:Has Tryz.prog 311 (rT 66 318 319 127 295 276 320 255 191):=⟨_,Tryz.func311,by kernel_rfl⟩
theorem vZ:Has Tryz.prog 318 (zO 127 316):=⟨_,Tryz.func318,by kernel_rfl⟩
theorem qP:Has Tryz.prog 319 (fx):=⟨_,Tryz.func319,by kernel_rfl⟩
theorem wa:Has Tryz.prog 320 (zP 309 127):=⟨_,Tryz.func320,by kernel_rfl⟩
theorem EA:Has Tryz.prog 22 (He 48 52 51 50 49):=⟨_,Tryz.func22,by kernel_rfl⟩
theorem z9:Has Tryz.prog 24 (Bz 26 25):=⟨_,Tryz.func24,by kernel_rfl⟩
theorem FT:Has Tryz.prog 26 (Iw 55):=⟨_,Tryz.func26,by kernel_rfl⟩
theorem si:Has Tryz.prog 29 (uh 34 59 60):=⟨_,Tryz.func29,by kernel_rfl⟩
theorem sU:Has Tryz.prog 30 (vg 61):=⟨_,Tryz.func30,by kernel_rfl⟩
theorem uI:Has Tryz.prog 31 (xl):=⟨_,Tryz.func31,by kernel_rfl⟩
theorem sj:Has Tryz.prog 49 (Ee 77 98 70 99):=⟨_,Tryz.func49,by kernel_rfl⟩
theorem Hs:Has Tryz.prog 50 (KD 71):=⟨_,Tryz.func50,by kernel_rfl⟩
theorem C5:Has Tryz.prog 51 (FF 54):=⟨_,Tryz.func51,by kernel_rfl⟩
theorem EB:Has Tryz.prog 55 (Hg 103 54 102 98 106 105 51 52 104):=⟨_,Tryz.func55,by kernel_rfl⟩
theorem uJ:Has Tryz.prog 60 (xm 114 92 117 116 115):=⟨_,Tryz.func60,by kernel_rfl⟩
theorem uK:Has Tryz.prog 61 (xp 119 117 116 118 120 122 121):=⟨_,Tryz.func61,by kernel_rfl⟩
theorem Aa:Has Tryz.prog 98 (BB 54):=⟨_,Tryz.func98,by kernel_rfl⟩
theorem Ab:Has Tryz.prog 103 (BC 106 77 98 78 132 99):=⟨_,Tryz.func103,by kernel_rfl⟩
theorem AZ:Has Tryz.prog 104 (CO):=⟨_,Tryz.func104,by kernel_rfl⟩
theorem FU:Has Tryz.prog 106 (Ix):=⟨_,Tryz.func106,by kernel_rfl⟩
theorem n7:Has Tryz.prog 114 (yO 125):=⟨_,Tryz.func114,by kernel_rfl⟩
theorem kR:Has Tryz.prog 115 (rV 125 118):=⟨_,Tryz.func115,by kernel_rfl⟩
theorem qY:Has Tryz.prog 116 (sE 159 162):=⟨_,Tryz.func116,by kernel_rfl⟩
theorem qZ:Has Tryz.prog 117 (sF 163 162):=⟨_,Tryz.func117,by kernel_rfl⟩
theorem q7:Has Tryz.prog 118 (sG 164 162):=⟨_,Tryz.func118,by kernel_rfl⟩
theorem qg:Has Tryz.prog 121 (qU):=⟨_,Tryz.func121,by kernel_rfl⟩
theorem q8:Has Tryz.prog 122 (sH 165 162):=⟨_,Tryz.func122,by kernel_rfl⟩
theorem qH:Has Tryz.prog 162 (rW 120):=⟨_,Tryz.func162,by kernel_rfl⟩
theorem sV:Has Tryz.prog 119 (vn 117 116 122):=⟨_,Tryz.func119,by kernel_rfl⟩
theorem xY:Has Tryz.prog 164 (zR 197 163):=⟨_,Tryz.func164,by kernel_rfl⟩
theorem iy:Has Tryz.prog 6 (Ef 8 21 22 24 23 27):=⟨_,Tryz.func6,by kernel_rfl⟩
theorem eh:Has Tryz.prog 9 (vq 28 12 29 30 31 32):=⟨_,Tryz.func9,by kernel_rfl⟩
theorem o7:Has Tryz.prog 3 (jV 4 5 7 8 6 9 10 12 11):=⟨_,Tryz.func3,by kernel_rfl⟩
end Go.Proofs.YtchdghnpcekegaaGreat
end

section
namespace Go.Proofs
open Go.RowKit Go.Shelf
attribute [local go_sem] Oper.semAt_some
def Tryz.upto {α : Type} (f:Nat -> α) (k:Nat):List α := (List.range k).map f
theorem Tryz.JF {α : Type} (f:Nat -> α) (k:Nat):Tryz.upto f (k+1)=Tryz.upto f k++[f k]:=by simp [Tryz.upto,List.range_succ]
theorem Tryz.Mv {α : Type} (f:Nat -> α) (k:Nat):(Tryz.upto f k).length=k:=by simp [Tryz.upto]
def Tryz.bw (zs:List Int) (k:Nat):Int × Int:=((zs.length:Int)-1-k,zs[zs.length-1-k]?.getD 0)
def Tryz.BK (n₀ Bs:Nat) (A B:World):Prop:=Below n₀ A B/\B.cell? ⟨Bs,0,none⟩=A.cell? ⟨Bs,0,none⟩
theorem Tryz.BK.refl (n₀ Bs:Nat) (A:World):Tryz.BK n₀ Bs A A:=⟨Below.refl _ _,rfl⟩
theorem Tryz.BK.trans {n₀ Bs:Nat} {A B C:World} (h:Tryz.BK n₀ Bs A B) (k:Tryz.BK n₀ Bs B C):Tryz.BK n₀ Bs A C:=⟨h.1.trans k.1,k.2.trans h.2⟩
set_option maxRecDepth 100000 in
set_option maxHeartbeats 2000000 in
theorem Tryz.abN (F:Fence) (n:Nat) (h8:F.fn 317) (Si:F.round=none) (hn:1<=n) (l Bs n₀ b off cap:Nat) (zs:List Int) (KE:zs.length*8<=140737488351232) (hb:b<n₀) (J Jx:List (Int × Int)->World->Prop)
   (hY:∀ pre x W,J pre W->pre.length<zs.length->YieldAt F (n-1) Tryz.prog l #[.int .i64 x.1, .int .u32 x.2] W fun e W' =>
     (e = .returned (.bool true)/\J (pre++[x]) W'/\Tryz.BK n₀ Bs W W')∨(e = .returned (.bool false)/\Jx (pre++[x]) W'))
   (W:World) (aia:W.cell? ⟨Bs,0,none⟩=some (.slice (some ⟨b,off,none⟩) zs.length cap)) (hc:∀ j,j<zs.length->W.cell? ⟨b,off+j,none⟩=some (.int .u32 (zs[j]?.getD 0))) (h0:J [] W) :
   CallsIn F n Tryz.prog 317 #[.func (.yield l) #[] #[], .pointer (some ⟨Bs,0,none⟩)] W fun e W'=>(∃ v,e = .returned v) /\
     ((∃ ys,ys=Tryz.upto (Tryz.bw zs) zs.length/\J ys W')∨(∃ pre,(∃ k,k<=zs.length/\pre=Tryz.upto (Tryz.bw zs) k)/\Jx pre W')):=by
 refine callsIn_of_wp Tryz.func317 rfl h8 ?_ Si
 simp only [Tryz.ntmps317,List.size_toArray,List.length_cons,List.length_nil,Nat.reduceAdd,Nat.reduceSub,Array.replicate_succ,Array.replicate_zero,List.push_toArray,List.append_toArray,List.nil_append,List.cons_append]
 gi_wp2
 gi_loopw [3] (fun i wr=>∃ k:Nat,k<=zs.length/\i = .int .i64 ((zs.length:Int)-1-k)/\J (Tryz.upto (Tryz.bw zs) k) wr/\Tryz.BK n₀ Bs W wr)
   (fun i _=>(intOf i+1).toNat)
 case atStart=>exact ⟨0,Nat.zero_le _,by simp,h0,Tryz.BK.refl _ _ _⟩
 case round =>
   obtain ⟨k,hk,rfl,hJs,hnx⟩:=hrel
   have hBk:=hnx.2.trans aia
   have hcx:∀ j,j<zs.length->wr.cell? ⟨b,off+j,none⟩=some (.int .u32 (zs[j]?.getD 0)):=fun j h=>(hnx.1.cell (p:=⟨b,off+j,none⟩) hb).trans (hc j h)
   by_cases hlt:k<zs.length
   . obtain ⟨q,hq⟩:∃ q,q=zs.length-1-k:=⟨_,rfl⟩
     have hqi:(zs.length:Int)-1-k=q:=by omega
     have hql:q<zs.length:=by omega
     have Ib:Hid (Tryz.bw zs k=((q:Int),zs[q]?.getD 0)):=by show Tryz.bw zs k=_;rw [Tryz.bw, <- hq,hqi]
     have hqk:Hid (q+1+k=zs.length):=by show q+1+k=zs.length;omega
     clear hq
     have aic:=hcx q hql
     generalize zs[q]?.getD 0=zq at Ib aic
     obtain ⟨fn,tmps,assign,body,hy,hR⟩:=hY _ ((q:Int),zq) wr hJs (by rw [Tryz.Mv];exact hlt)
     dsimp only at hy
     rw [hqi]
     clear hqi hY h0 hc hcx
     gi_wp2
     refine hR.mono ?_
     rintro e W3 (⟨rfl,hJ3,hk3⟩ | ⟨rfl,aid⟩)
     . gi_wp2
       go_roundw
       case rel=>exact ⟨k+1,by omega,by have:=hqk.out;congr 1;omega,by rw [Tryz.JF,Ib.out];exact hJ3,hnx.trans hk3⟩
       case measure=>simp [intOf]
     . gi_wp2
       refine bodyPost_ret (results_none rfl _ _ _) rfl ?_
       exact ⟨⟨_,rfl⟩, .inr ⟨_,⟨k+1,by omega,by rw [Tryz.JF,Ib.out]⟩,aid⟩⟩
   . obtain rfl:k=zs.length:=by omega
     have Mw:(zs.length:Int)-1-zs.length = -1:=by omega
     rw [Mw]
     gi_wp2
     go_end0
     exact ⟨⟨_,rfl⟩, .inl ⟨_,rfl,hJs⟩⟩
def Tryz.Sj (n₀:Nat) (W:World) (sv:Value) (zs:List Int):Prop :=
 (∃ a cap,sv = .slice a 0 cap/\zs=[])∨∃ b off cap,sv = .slice (some ⟨b,off,none⟩) zs.length cap/\b<n₀/\∀ j,j<zs.length->W.cell? ⟨b,off+j,none⟩=some (.int .u32 (zs[j]?.getD 0))
theorem Tryz.Sj.below {n₀:Nat} {A B:World} (h:Below n₀ A B) {sv:Value} {zs:List Int}:Tryz.Sj n₀ A sv zs->Tryz.Sj n₀ B sv zs
 | .inl e => .inl e
 | .inr ⟨b,off,cap,e,hb,hc⟩ => .inr ⟨b,off,cap,e,hb,fun j hj=>(h.cell (p:=⟨b,off+j,none⟩) hb).trans (hc j hj)⟩
set_option maxRecDepth 100000 in
set_option maxHeartbeats 1000000 in
theorem Tryz.Ot (F:Fence) (n:Nat) (h8:F.fn 317) (Si:F.round=none) (l Bs:Nat) (a:Option Addr) (cap:Nat) (J:List (Int × Int)->World->Prop) (W:World) (hBs:W.cell? ⟨Bs,0,none⟩=some (.slice a 0 cap)) (h0:J [] W) :
   CallsIn F n Tryz.prog 317 #[.func (.yield l) #[] #[], .pointer (some ⟨Bs,0,none⟩)] W fun e W'=>(∃ v,e = .returned v)/\J [] W':=by
 refine callsIn_of_wp Tryz.func317 rfl h8 ?_ Si
 simp only [Tryz.ntmps317,List.size_toArray,List.length_cons,List.length_nil,Nat.reduceAdd,Nat.reduceSub,Array.replicate_succ,Array.replicate_zero,List.push_toArray,List.append_toArray,List.nil_append,List.cons_append]
 gi_wp2
 gi_loopw [3] (fun i wr=>i = .int .i64 (-1)/\J [] wr) (fun _ _=>0)
 case atStart=>exact ⟨rfl,h0⟩
 case round =>
   obtain ⟨rfl,hJs⟩:=hrel
   gi_wp2
   go_end0
   exact ⟨⟨_,rfl⟩,hJs⟩
set_option maxHeartbeats 1000000 in
theorem Tryz.Mx (F:Fence) (n:Nat) (h5:F.fn 310) (Si:F.round=none) (a:Option Addr) (len cap:Nat) (w:World) :
   CallsIn F n Tryz.prog 310 #[.slice a len cap] w fun e w'=>e = .returned (.func (.func 317) #[] #[.pointer (some ⟨w.heap.size,0,none⟩)])/\w'=w.alloc (.cells #[.slice a len cap] 49):=by
 refine callsIn_of_wp Tryz.func310 rfl h5 ?_ Si
 simp only [Tryz.ntmps310,List.size_toArray,List.length_cons,List.length_nil,Nat.reduceAdd,Nat.reduceSub,Array.replicate_succ,Array.replicate_zero,List.push_toArray,List.append_toArray,List.nil_append,List.cons_append]
 gi_wp2
 go_ret
 exact ⟨rfl,rfl⟩
theorem Tryz.U7 (F:Fence) (n:Nat) (h8:F.fn 317) (Si:F.round=none) (hn:1<=n) (Bs n₀:Nat) (sv:Value) (zs:List Int) (KE:zs.length*8<=140737488351232) (w:World) (hBs:Bs<w.heap.size) (hn₀:n₀<=w.heap.size)
   (hc:w.cell? ⟨Bs,0,none⟩=some sv) (hI:Tryz.Sj n₀ w sv zs) :
   SeqStopsK F n Tryz.prog 317 #[.pointer (some ⟨Bs,0,none⟩)] (fun x:Int × Int => #[Value.int .i64 x.1,Value.int .u32 x.2]) (Tryz.BK n₀ Bs) (fun ys=>ys=Tryz.upto (Tryz.bw zs) zs.length)
     (fun pre=>∃ k,k<=zs.length/\pre=Tryz.upto (Tryz.bw zs) k) zs.length w:=fun l J Jx W hW _ _ hY h0=>by
 have hc':=(hW.cell (p:=⟨Bs,0,none⟩) hBs).trans hc
 rcases hI.below (hW.mono hn₀) with ⟨a,cap,rfl,rfl⟩ | ⟨b,off,cap,rfl,hb,hcs⟩
 . exact (Tryz.Ot F n h8 Si l Bs a cap J W hc' h0).mono fun e W' ⟨he,hj⟩=>⟨he, .inl ⟨_,rfl,hj⟩⟩
 . exact Tryz.abN F n h8 Si hn l Bs n₀ b off cap zs KE hb J Jx hY W hc' hcs h0
def Tryz.Ht (s v:Int):Int:=bits BinOp.or IntKind.u64 (IntKind.u64.wrap (s*4294967296)) (IntKind.u64.wrap v)
def Tryz.toU (l:List (Int × Int)):Int:=l.foldl (fun s x=>Tryz.Ht s x.2) 0
theorem Tryz.toU_snoc (pre:List (Int × Int)) (x:Int × Int):Tryz.toU (pre++[x])=Tryz.Ht (Tryz.toU pre) x.2:=by simp [Tryz.toU]
set_option maxRecDepth 100000 in
set_option maxHeartbeats 2000000 in
theorem Tryz.toUint_in (F:Fence) (n:Nat) (h3:F.fn 296) (h6:F.fn 310) (h8:F.fn 317) (Si:F.round=none) (hn:3<=n) (a:Option Addr) (len cap:Nat) (zs:List Int) (KE:zs.length*8<=140737488351232) (w:World) (hI:Tryz.Sj w.heap.size w (.slice a len cap) zs) :
   CallsIn F n Tryz.prog 296 #[.slice a len cap] w fun e W'=>e = .returned (.int .u64 (Tryz.toU (Tryz.upto (Tryz.bw zs) zs.length)))/\Below w.heap.size w W':=by
 have h1:1<=n:=by omega
 refine callsIn_of_wp_marks Tryz.func296 rfl h3 ?_ Si
 simp only [Tryz.ntmps296,List.size_toArray,List.length_cons,List.length_nil,Nat.reduceAdd,Nat.reduceSub,Array.replicate_succ,Array.replicate_zero,List.push_toArray,List.append_toArray,List.nil_append,List.cons_append]
 gi_wp2_with (gi_at_call 310;refine (Tryz.Mx F (n-1) h6 Si _ _ _ _).mono ?_;rintro e w' ⟨rfl,rfl⟩)
 have bS:=Boxed.new w 132 (.int .u64 0)
 have bN:=Boxed.new (w.alloc (.cells #[.int .u64 0] 132)) 49 (.slice a len cap)
 rw [World.size_alloc] at bN
 have hB0:Below w.heap.size w ((w.alloc (.cells #[.int .u64 0] 132)).alloc (.cells #[.slice a len cap] 49)):=((Below.refl _ w).alloc (Nat.le_refl _) _).alloc (by simp) _
 have amH:((w.alloc (.cells #[.int .u64 0] 132)).alloc (.cells #[.slice a len cap] 49)).heap.size=w.heap.size+2:=by simp
 refine wpIn_rangeFunc_ownG Si h1 (gf:=317) (lb := #[.pointer (some ⟨w.heap.size+1,0,none⟩)]) rfl h8 (enters_of Tryz.func317 (by kernel_rfl) rfl)
   (Tryz.U7 F (n-1) h8 Si (by omega) (w.heap.size+1) w.heap.size _ zs KE _ (by simp) (by simp;omega) bN.cell (hI.below hB0)) (fun h k=>h.trans k)
   (fun W l o o' hl h h2 h3=>⟨belowK_b (w:=w) (Nat.le_refl _) W l o o' (by omega) h h2 h3,(belowK_b (w:=(w.alloc (.cells #[.int .u64 0] 132)).alloc (.cells #[.slice a len cap] 49)) (Nat.le_refl _) W l o o' hl h h2 h3).cell (p:=⟨w.heap.size+1,0,none⟩) (by simp)⟩) (Below.refl _ _) (fun _=>rfl)
   (fun pre W=>(W.cell? ⟨w.heap.size,0,none⟩=some (.int .u64 (Tryz.toU pre))/\W.frozen? ⟨w.heap.size,0,none⟩=false)/\Below w.heap.size w W)
   (fun _ _ _=>False)
   (OwnFrom.and (Own.from (fun s A B row hs hg hr=>⟨cell_kept hs.1 hg hr,(frozen_kept hs.1 hg hr).trans hs.2⟩) _) (ownFrom_below (Nat.le_refl _) (by simp;omega)))
   (fun _ _ _ _ _ hs _ _=>hs)
   ⟨⟨(bS.alloc _).cell,(bS.alloc _).frozen⟩,hB0⟩
   (fun x=>{ tmps := #[.slice a len cap,undef, .int .u64 0, .pointer (some ⟨w.heap.size,0,none⟩),undef, .int .u32 x.2, .slice a len cap, .func (.func 317) #[] #[.pointer (some ⟨w.heap.size+1,0,none⟩)], .int .i64 x.1, .int .u32 x.2,undef,undef,undef,undef,undef,undef],defers:=[] }) ?assign ?body ?done ?stop
 case assign =>
   intro l x W K hK
   gi_wp2
   exact hK
 case body =>
   rintro l pre x W ⟨⟨hc,hf⟩,hB⟩ _
   gi_wp2
   exact ⟨(KeepsOthers.setCell _ _ _).from _,⟨(Below.refl w.heap.size W).setCell (p:=⟨w.heap.size,0,none⟩) (Nat.le_refl _) _,World.cell?_of_block (a:=⟨w.heap.size+1,0,none⟩) (Below.heap_setCell _ _ _ _ (by simp))⟩,
     ⟨by rw [Tryz.toU_snoc];exact World.cell?_setCell_same' _ _ _ (by rw [hc];rfl),by rw [World.frozen?_setCell];exact hf⟩,hB.setCell (p:=⟨w.heap.size,0,none⟩) (Nat.le_refl _) _⟩
 case done =>
   rintro D ys W hD rfl ⟨⟨hc,_⟩,hB⟩ hK
   gi_wp2
   refine ⟨by simp, .inl ⟨_,_,rfl,run_takeDeferred hK, ?_⟩⟩
   exact ⟨_,results_tmp rfl _ _ _,rfl,hB.trans (belowK_b (w:=w) (Nat.le_refl _) W D _ _ (by simp at hD;omega) hK rfl rfl)⟩
 case stop =>
   rintro D c pre W _ _ h _
   exact h.elim
end Go.Proofs
end

section
namespace Go.VL
section
variable {P:Program} {G:Nat->Option (List AV)} {own:Nat->Prop} {E:Env} {w:World} {σ : af}
theorem View.fn {σ : af} {f:Fn} {a c a' c':List AV} (ha:aG σ a a') (hc:aG σ c c'):View σ (.fn f a c) (.fn f a' c'):=fun G own E w v hi hr=>by
 simp only [aT] at hr ⊢
 obtain ⟨xs,ys,e,h1,h2⟩:=hr
 exact ⟨xs,ys,e,ha.uW hi h1,hc.uW hi h2⟩
theorem View.ref {σ : af} {id:Id} {bk:cZ} {e o:Nat} {el:AV} {cs:List AV} (hσ : σ id=some bk) (he:bk.els[e]? = some el) (h:aG σ el.cells cs):View σ (.ref id e o) (.ep cs o):=fun G own E w v hi hr=>by
 obtain ⟨g,N,cur,ty,hB⟩:=hi.blk id bk hσ
 simp only [aT] at hr ⊢
 obtain ⟨g',k',N',hm,rfl⟩:=hr
 rw [hB.μ] at hm
 simp only [Option.some.injEq,Prod.mk.injEq] at hm
 obtain ⟨rfl,rfl,rfl⟩:=hm
 refine ⟨g,e*bk.k,rfl, .inr ⟨id,bk,bk.k,N,hσ,hB.μ⟩, ?_⟩
 refine eW.2 (h.EY hi ?_)
 have hlt:=(List.getElem?_eq_some_iff.1 he).1
 have:=rk (l:=e) (r:=e+1) hB.k hB.row (by omega) (by omega)
 rw [Nat.zero_add] at this
 have e2:(bk.els.take (e+1)).drop e=[el]:=by
   rw [List.drop_take,show e+1-e=1 from by omega,List.drop_eq_getElem_cons hlt]
   obtain ⟨_,he'⟩:=List.getElem?_eq_some_iff.1 he
   simp [he']
 rw [e2] at this
 simpa [flat] using this
def yu (F:List (Id × cZ)) (c d:AV):Prop:=∀ G own E w v,Inv G own E w (af.of F)->aT E w c v->aT ⟨E.μ,(E.j1 (af.of F)).ok⟩ w d v
def gY (F:List (Id × cZ)):List AV->List AV->Prop
 | [],[]=>True
 | c::cs,d::ds=>yu F c d/\gY F cs ds
 | _,_=>False
theorem yu.same (F:List (Id × cZ)) (c:AV):yu F c c:=fun _ _ E w v _ hr =>
 aT.keep (⟨fun _ _ h=>h,fun _ h => .inl h,fun _ _=>rfl⟩:Step E ⟨E.μ,(E.j1 (af.of F)).ok⟩ w w) _ v hr
theorem yu.top (F:List (Id × cZ)) (c:AV):yu F c .top:=fun _ _ _ _ _ _ _=>by simp [aT]
theorem gY.same (F:List (Id × cZ)):∀ cs:List AV,gY F cs cs
 | []=>trivial
 | c::cs=>⟨yu.same F c,gY.same F cs⟩
theorem gY.uW {F:List (Id × cZ)} (hi:Inv G own E w (af.of F)):∀ {cs ds:List AV} {vs:List Value},gY F cs ds->bc E w cs vs->bc ⟨E.μ,(E.j1 (af.of F)).ok⟩ w ds vs
 | [],[],_,_,h=>by simpa [bc] using h
 | c::cs,d::ds,vs,hf,h=>by
   simp only [gY] at hf
   simp only [bc] at h ⊢
   obtain ⟨v,rest,e,h1,h2⟩:=h
   exact ⟨v,rest,e,hf.1 _ _ _ _ _ hi h1,gY.uW hi hf.2 h2⟩
 | [],_::_,_,h,_=>by simp [gY] at h
 | _::_,[],_,h,_=>by simp [gY] at h
theorem gY.get {F:List (Id × cZ)}:∀ {cs ds:List AV},gY F cs ds->∀ (j:Nat) (d:AV),ds[j]? = some d->∃ c,cs[j]? = some c/\yu F c d
 | [],[],_,j,d,h=>by simp at h
 | c::cs,d::ds,hf,0,d',h=>by simp at h;subst h;exact ⟨c,rfl,hf.1⟩
 | c::cs,d::ds,hf,j+1,d',h=>by simpa using gY.get hf.2 j d' (by simpa using h)
 | [],_::_,h,_,_,_=>by simp [gY] at h
 | _::_,[],h,_,_,_=>by simp [gY] at h
theorem gY.len {F:List (Id × cZ)}:∀ {cs ds:List AV},gY F cs ds->cs.length=ds.length
 | [],[],_=>rfl
 | _::cs,_::ds,h=>by simp [gY.len h.2]
 | [],_::_,h=>by simp [gY] at h
 | _::_,[],h=>by simp [gY] at h
theorem yu.agg {F:List (Id × cZ)} {cs ds:List AV} (h:gY F cs ds):yu F (.agg cs) (.agg ds):=fun _ _ E w v hi hr=>by
 simp only [aT] at hr ⊢;obtain ⟨xs,e,hr⟩:=hr;exact ⟨xs,e,h.uW hi hr⟩
theorem yu.tup {F:List (Id × cZ)} {cs ds:List AV} (h:gY F cs ds):yu F (.tup cs) (.tup ds):=fun _ _ E w v hi hr=>by
 simp only [aT] at hr ⊢;obtain ⟨xs,e,hr⟩:=hr;exact ⟨xs,e,h.uW hi hr⟩
structure abO (F:List (Id × cZ)) (i:Id) (bk Gh:cZ):Prop where
 k:Gh.k=bk.k
 fr:Gh.fr=bk.fr∨(Gh.fr=true/\(i,bk)∈F)
 no:Gh.fr=false->∀ x∈F,x.1≠i
 len:Gh.els.length=bk.els.length
 sz:∀ e∈Gh.els,e.size=bk.k
 els:gY F (flat bk.els) (flat Gh.els)
theorem Fb {p:Id} {σ σ':af} (F:List (Id × cZ)) (hF:∀ x∈F, σ x.1=some x.2) (hs:∀ i, σ' i=none∨∃ bk Gh, σ i=some bk /\ σ' i=some Gh/\abO F i bk Gh) (hi:Inv G own E w σ) :
   nb own p E ⟨E.μ,(E.j1 (af.of F)).ok⟩ w w/\Inv G own ⟨E.μ,(E.j1 (af.of F)).ok⟩ w σ':=by
 have hiF:Inv G own E w (af.of F):=hi.sub (af.wL hF)
 have ig:Adv own E ⟨E.μ,(E.j1 (af.of F)).ok⟩ w w:=by
   refine ⟨⟨fun _ _ h=>h,fun b hb => .inl hb,fun b hb=>rfl⟩,rfl,rfl,rfl,Nat.le_refl _,fun k hk _=>rfl,fun b hb => ?_⟩
   rcases hb with h1 | ⟨id,bk,k,N,hs,hm⟩
   . exact .inl h1
   . obtain ⟨g,N',cur,ty,hB⟩:=hi.blk id bk (hF _ (iq hs))
     rw [hB.μ] at hm
     simp only [Option.some.injEq,Prod.mk.injEq] at hm
     rw [<- hm.1];exact .inr hB.own
 refine ⟨⟨ig,fun _ _=>rfl⟩,(hi.j1 hF).okb,fun id Gh RR => ?_,fun i j x y qk hj' hne hx hy => ?_,fun g cs hg => ?_,hi.new⟩
 . rcases hs id with h | ⟨bk,bk2,h1,h2,hR⟩
   . rw [h] at RR;simp at RR
   . rw [h2] at RR
     simp only [Option.some.injEq] at RR;subst RR
     obtain ⟨g,N,cur,ty,hB⟩:=hi.blk id bk h1
     refine ⟨g,N,cur,ty,by rw [hR.k];exact hB.μ,hB.heap,by rw [hR.k];exact hB.size,by rw [hR.len];exact hB.len,hB.most,hB.own,fun hf => ?_,fun hf ic => ?_,by rw [hR.k];exact hR.sz, ?_⟩
     . rcases hR.fr with h | ⟨_,h⟩
       . exact .inl (hB.ok (h▸hf))
       . exact .inr ⟨id,bk,bk.k,N,D4 hF h,hB.μ⟩
     . have hbf:bk.fr=false:=by
         rcases hR.fr with h | ⟨h,_⟩
         . rw [<- h];exact hf
         . rw [hf] at h;simp at h
       rcases ic with h | ⟨Cf,bk2,k2,N2,UI,Cn⟩
       . exact hB.no hbf h
       . have hm:=iq UI
         exact hi.inj id Cf _ _ (by simp [h1]) (by simp [hF _ hm]) (fun e=>hR.no hf _ hm e.symm) hB.μ Cn rfl
     . intro j d hd
       obtain ⟨c,hc,hv⟩:=hR.els.get j d hd
       obtain ⟨v,rn,y3⟩:=hB.row j c hc
       exact ⟨v,rn,hv _ _ _ _ _ hiF y3⟩
 . have keep:∀ i, σ' i≠none -> σ i≠none:=by
     intro i hn he
     rcases hs i with h | ⟨bk,bk2,h1,_⟩
     . exact hn h
     . rw [he] at h1;simp at h1
   exact hi.inj i j x y (keep i qk) (keep j hj') hne hx hy
 . obtain ⟨h1,h2⟩:=hi.glob g cs hg
   exact ⟨.inl h1,bp.keep ig.step.bare rfl cs 0 h2⟩
theorem Wk.E6 {π : Id} {t t':List AV} {σ σ':af} {n n':Nat} (F:List (Id × cZ)) (hF:∀ x∈F, σ x.1=some x.2) (ht:gY F t t')
   (hs:∀ i, σ' i=none∨∃ bk Gh, σ i=some bk /\ σ' i=some Gh/\abO F i bk Gh) (hn:n<=n'):Wk G π ⟨t, σ,n⟩ ⟨t', σ',n'⟩:=fun own E w a hm=>by
 obtain ⟨h1,h2⟩:=Fb (p := π) F hF hs hm.inv
 exact ⟨_,h1,ht.uW (hm.inv.sub (af.wL hF)) hm.frame,h2,hm.free.mono hn,hm.defers⟩
theorem Fin.E6 {p:Id} {S:List (Id × cZ)} {σ':af} {r0:AV} {r:eS} (F:List (Id × cZ)) (hF:∀ x∈F, σ' x.1=some x.2) (hv:yu F r0 r.val)
   (hs:∀ i,(af.of S).app r.up i=none∨∃ bk Gh, σ' i=some bk/\(af.of S).app r.up i=some Gh/\abO F i bk Gh):Fin G p S σ' r0 r :=
 fun own E w v hi hr _=>by
   obtain ⟨h1,h2⟩:=Fb (p:=p) F hF hs hi
   exact ⟨_,h1,h2,hv _ _ _ _ _ (hi.sub (af.wL hF)) hr⟩
end
end Go.VL
end

section
namespace Go.VL
section
variable {P:Program} {G:Nat->Option (List AV)}
end
theorem eO {σ : af} {k:Nat} {es:List AV}:ga σ k (.sl k es)=some (es,[]):=by simp [ga]
theorem tj {σ : af} {k:Nat} {id:Id} {off len:Nat} {t:Bool} {bk:cZ} (h : σ id=some bk) (hk:bk.k=k) (hl:off+len<=bk.els.length):ga σ k (.osl id k off len t)=some ((bk.els.drop off).take len,[id]):=by
 simp [ga,h,hk,hl]
theorem q9 {σ : af} {p id:Id} {k bytes len:Nat} {x:AV} {els ys:List AV} {rd:List Id} (hx:ga σ k x=some (ys,rd)) (hy:ys≠[]) (h : σ id=some ⟨els,k,false⟩) (hl:len=els.length)
   (hb:(len+ys.length)*bytes<=140737488355328) (hm:len+ys.length<=maxLen) (h1:(ys.all fun e=>e.cells.all AV.one)=true) (h2:(els.all fun e=>e.cells.all AV.one)=true) :
   eu σ p k bytes (.osl id k 0 len false) x=some { val := .osl p k 0 (len+ys.length) false,rd:=id::rd,up:=[(id,none),(p,some ⟨els++ys,k,false⟩)] }:=by
 have hne:ys.isEmpty=false:=by cases ys<;>simp at hy ⊢
 unfold eu
 rw [hx]
 simp only [hne,h,h1,h2,hl,Bool.false_eq_true,if_false]
 rw [if_pos ⟨trivial,trivial,trivial,Nat.le_refl _,by rw [<- hl];exact hb,by rw [<- hl];exact hm,trivial⟩]
 simp
theorem KF {σ : af} {p:Id} {k bytes:Nat} {x:AV} {ys:List AV} {rd:List Id} (hx:ga σ k x=some (ys,rd)) (hy:ys≠[]) (hb:ys.length*bytes<=140737488355328) (hm:ys.length<=maxLen) (h1:(ys.all fun e=>e.cells.all AV.one)=true) :
   eu σ p k bytes .nils x=some { val := .osl p k 0 ys.length false,rd,up:=[(p,some ⟨ys,k,false⟩)] }:=by
 have hne:ys.isEmpty=false:=by cases ys<;>simp at hy ⊢
 unfold eu
 rw [hx]
 simp only [hne,h1,Bool.false_eq_true,if_false]
 rw [if_pos ⟨hb,hm,trivial⟩]
theorem j3 {σ : af} {p:Id} {k bytes:Nat} {x:AV} {es ys:List AV} {rd:List Id} (hx:ga σ k x=some (ys,rd)) (hy:ys≠[]) (hb:(es.length+ys.length)*bytes<=140737488355328) (hm:es.length+ys.length<=maxLen) (h1:((es++ys).all fun e=>e.cells.all AV.one)=true) :
   eu σ p k bytes (.tsl k es) x=some { val := .osl p k 0 (es.length+ys.length) false,rd,up:=[(p,some ⟨es++ys,k,false⟩)] }:=by
 have hne:ys.isEmpty=false:=by cases ys<;>simp at hy ⊢
 unfold eu
 rw [hx]
 simp only [hne,h1,Bool.false_eq_true,if_false]
 rw [if_pos ⟨trivial,hb,hm,trivial⟩]
theorem o8 {σ : af} {p:Id} {k k' bytes:Nat} {es:List AV} {x:AV} {rd:List Id} (hx:ga σ k x=some ([],rd)):eu σ p k bytes (.tsl k' es) x=some { val := .tsl k' es,rd }:=by
 unfold eu;rw [hx];rfl
theorem eD {n:Nat} (h:n<=140737488355328):n<=maxLen:=Nat.le_trans h (by decide)
theorem bs0 {σ : af} {p:Id} {k:Nat} {z:AV} (hz:z.size=k) (hz1:z.cells.all AV.one=true):bO σ p (.buildSl k 0 z [])=some { val := .tsl k [] }:=by
 rw [zf];simp only [kN,List.replicate_zero];rw [if_pos ⟨hz,hz1⟩,if_pos trivial]
theorem bZ {σ : af} {p:Id} {k:Nat} {z x:AV} (hx:x.size=k) (Ic:x.cells.all AV.one=true) (hz:z.size=k) (hz1:z.cells.all AV.one=true) :
   bO σ p (.buildSl k 1 z [(0,x)])=some { val := .osl p k 0 1 false,up:=[(p,some ⟨[x],k,false⟩)] }:=by
 rw [zf]
 have e:kN k (List.replicate 1 z) [(0,x)]=some [x]:=by simp only [kN,List.replicate_succ,List.replicate_zero];rw [if_pos ⟨hx,by simp,Ic⟩];rfl
 rw [e];simp only [];rw [if_pos ⟨hz,hz1⟩,if_neg (by decide)]
theorem b6 {σ : af} {p:Id} {k:Nat} {z x y:AV} (hx:x.size=k) (Ic:x.cells.all AV.one=true) (hy:y.size=k) (PR:y.cells.all AV.one=true) (hz:z.size=k) (hz1:z.cells.all AV.one=true) :
   bO σ p (.buildSl k 2 z [(0,x),(1,y)])=some { val := .osl p k 0 2 false,up:=[(p,some ⟨[x,y],k,false⟩)] }:=by
 rw [zf]
 have e:kN k (List.replicate 2 z) [(0,x),(1,y)]=some [x,y]:=by
   simp only [kN,List.replicate_succ,List.replicate_zero]
   rw [if_pos ⟨hx,by simp,Ic⟩,if_pos ⟨hy,by simp,PR⟩];rfl
 rw [e];simp only [];rw [if_pos ⟨hz,hz1⟩,if_neg (by decide)]
section
variable {P:Program} {G:Nat->Option (List AV)}
theorem eI {p:Id} {S:List (Id × cZ)} {rs:List uT} {r:eS} {s:VS}:Sg G p S rs r .ret s=∃ r0,aX rs s=some r0/\Fin G p S s.σ r0 r:=by simp [Sg]
theorem Fc {p:Id} {S:List (Id × cZ)} {rs:List uT} {r:eS} {s:VS}:Sg G p S rs r .normal s=∃ r0,aX rs s=some r0/\Fin G p S s.σ r0 r:=by simp [Sg]
theorem bH {p:Id} {S:List (Id × cZ)} {rs:List uT} {r:eS} {s:VS} (h:aX rs s=some r.val) (hs:∀ i,(af.of S).app r.up i=none∨(af.of S).app r.up i=s.σ i):∃ r0,aX rs s=some r0/\Fin G p S s.σ r0 r:=⟨_,h,Fin.same rfl hs⟩
end
theorem ao {σ : af} {id:Id} {x:AV} {k:Nat} {b agg:Bool} {n o:Nat}:kM (σ.put id (some ⟨[x],k,b⟩)) agg n (.ref id 0 o)=(part agg x.cells o n).map fun v=>{ val:=v,rd:=[id] } :=
 Ax (af.dE _ _ _) rfl
theorem aq {σ : af} {id id':Id} {b:Option cZ} {agg:Bool} {n e o:Nat} (h:id'≠id):kM (σ.put id b) agg n (.ref id' e o)=kM σ agg n (.ref id' e o):=by
 unfold kM;simp only [af.cC _ _ _ h]
theorem fy {σ : af} {id:Id} {els:List AV} {k n e o:Nat} {el v:AV} (h : σ id=some ⟨els,k,false⟩) (he:els[e]? = some el) (hn:v.cells.length=n) (ho:o+n<=el.size) (h1:v.cells.all AV.one=true) :
   fD σ n (.ref id e o) v=some { val := .tup [],rd:=[id],up:=[(id,some ⟨els.set e (el.upd o v.cells),k,false⟩)] }:=by
 simp only [fD,h,he]
 rw [if_pos ⟨trivial,hn,ho,h1⟩]
section
variable {P:Program} {G:Nat->Option (List AV)} {π : Id} {Q:bX->VS->Prop} {s:VS}
end
end Go.VL
end

section
set_option linter.unusedVariables false
namespace Go.VL
def dL (c:UInt8):Bool:=(decide ((97:Int)<=c.toNat)&&decide ((c.toNat:Int)<=122))||(decide ((65:Int)<=c.toNat)&&decide ((c.toNat:Int)<=90))
def o9 (c:UInt8):Bool:=decide ((48:Int)<=c.toNat)&&decide ((c.toNat:Int)<=57)
def dy (c:UInt8):Bool:=dL c||o9 c||decide ((c.toNat:Int)=95)
def kJ (c:UInt8):AV := .int .u8 c.toNat
theorem eC (c:UInt8):aa (kJ c):=aa.int _ _
section
variable {P:Program} {G:Nat->Option (List AV)}
theorem Fe {f:FuncId} (h:Has P f mS) (c:UInt8):VP P G f [kJ c] (.bool (dL c)):=by
 refine VP.has h ?_
 unfold dL
 by_cases h1:(97:Int)<=c.toNat<;>by_cases h2:(c.toNat:Int)<=122<;>by_cases h3:(65:Int)<=c.toNat<;>by_cases h4:(c.toNat:Int)<=90 <;>
   (simp only [mS,kJ,SS,Nat.reduceAdd,h1,h2,h3,h4,decide_true,decide_false,Bool.and_self,Bool.and_true,Bool.and_false,Bool.or_false,Bool.or_true,Bool.or_self]
    exact ai▸ae rfl (aa.bool _))
theorem Hu {f:FuncId} (h:Has P f nC) (c:UInt8):VP P G f [kJ c] (.bool (o9 c)):=by
 refine VP.has h ?_
 unfold o9
 by_cases h1:(48:Int)<=c.toNat<;>by_cases h2:(c.toNat:Int)<=57 <;>
   (simp only [nC,kJ,SS,Nat.reduceAdd,h1,h2,decide_true,decide_false,Bool.and_self,Bool.and_true,Bool.and_false]
    exact ai▸ae rfl (aa.bool _))
theorem Sk {f fl fd:FuncId} (h:Has P f (rq fl fd)) (hl:∀ c,VP P G fl [kJ c] (.bool (dL c))) (hd:∀ c,VP P G fd [kJ c] (.bool (o9 c))) (c:UInt8) :
   VP P G f [kJ c] (.bool (dy c)):=by
 refine VP.has h ?_
 simp only [rq,SS,Nat.reduceAdd]
 refine ah (hl c) (by simp [eC]) ?_
 unfold dy
 cases h1:dL c
 . simp only [SS,Nat.reduceAdd]
   refine ah (hd c) (by simp [eC]) ?_
   cases h2:o9 c
   . by_cases h3:(c.toNat:Int)=95 <;>
     (simp only [SS,Nat.reduceAdd,kJ,h3,decide_true,decide_false,Bool.or_true,Bool.or_self]
      exact ai▸ae rfl (aa.bool _))
   . simp only [SS,Nat.reduceAdd,Bool.or_true,Bool.true_or]
     exact ai▸ae rfl (aa.bool _)
 . simp only [SS,Nat.reduceAdd,Bool.true_or]
   exact ai▸ae rfl (aa.bool _)
def fT (p:UInt8->Bool) (s:List UInt8):Nat:=(s.takeWhile p).length
theorem Hv (p:UInt8->Bool):∀ s:List UInt8,fT p s<=s.length
 | []=>Nat.le_refl _
 | c::s=>by unfold fT;simp only [List.takeWhile_cons];split<;>simp;exact Hv p s
theorem Hw (p:UInt8->Bool):∀ (s:List UInt8) (k:Nat),k<fT p s->∃ c,s[k]? = some c/\p c=true
 | [],k,h=>by simp [fT] at h
 | c :: s,k,h=>by
   unfold fT at h;simp only [List.takeWhile_cons] at h
   split at h
   . rename_i hc
     cases k with
     | zero=>exact ⟨c,rfl,hc⟩
     | succ k=>simpa using Hw p s k (by simpa [fT] using h)
   . simp at h
theorem BV (p:UInt8->Bool):∀ (s:List UInt8),s[fT p s]? = none∨∃ c,s[fT p s]? = some c/\p c=false
 | [] => .inl rfl
 | c::s=>by
   unfold fT;simp only [List.takeWhile_cons]
   split
   . simpa [fT] using BV p s
   . rename_i hc;exact .inr ⟨c,rfl,by simpa using hc⟩
theorem iO {s:List UInt8} {k:Nat} {c:UInt8} (h:s[k]? = some c):(if (0:Int)<=(k:Int) then bz ((s[(k:Int).toNat]?).map fun b=>AV.int .u8 b.toNat) else none)=bz (some (kJ c)):=by
 rw [if_pos (by omega),Int.toNat_natCast,h];rfl
theorem aL (k:Nat) (h:k<9223372036854775807):IntKind.i64.wrap ((k:Int)+1)=((k+1:Nat):Int):=by rw [IntKind.wrap_i64];omega
theorem Ys {f fw:FuncId} (h:Has P f wM) {p:UInt8->Bool} (hw:∀ c,VP P G fw [kJ c] (.bool (p c))) (s:List UInt8) (hs:s.length<9223372036854775807) :
   VP P G f [.str s, .fn (.func fw) [] []] (.int .i64 (fT p s)):=by
 refine VP.has h ?_
 simp only [wM,SS,Nat.reduceAdd,aP]
 refine VW.ey (α := Nat × Nat) (fun x=>⟨[.str s, .fn (.func fw) [] [], .top, .top, .top, .int .i64 x.1]++List.replicate 14 .top,fun _=>none,x.2⟩) (fun x=>x.1<=fT p s) (fun x=>fT p s-x.1) (0,2) ?_ (Nat.zero_le _) ?_
 . exact Wk.slots (by simp [Fg,List.replicate]) (Nat.le_refl _)
 rintro ⟨k,n⟩ hk
 simp only [] at hk
 have QH:=Hv p s
 simp only [SS,Nat.reduceAdd]
 by_cases hlt:k<fT p s
 . obtain ⟨c,hc,Yt⟩:=Hw p s k hlt
   have h1:(k:Int)<(s.length:Int):=by omega
   simp only [SS,Nat.reduceAdd,h1,decide_true,iO hc]
   refine ah (hw c) (by simp [eC]) ?_
   rw [Yt]
   simp only [SS,Nat.reduceAdd,aL k (by omega)]
   exact ⟨(k+1,_),by simp only [];omega,by simp only [];omega,Wk.slots (by simp [Fg]) (Nat.le_refl _)⟩
 . have TU:k=fT p s:=by omega
   rcases BV p s with h0 | ⟨c,hc,Yt⟩
   . have h1 : ¬ (k:Int)<(s.length:Int):=by have:=List.getElem?_eq_none_iff.1 h0;omega
     simp only [SS,Nat.reduceAdd,h1,decide_false]
     rw [TU]
     exact ai▸ae rfl (aa.int _ _)
   . have h1:(k:Int)<(s.length:Int):=by have:=(List.getElem?_eq_some_iff.1 hc).1;omega
     rw [<- TU] at hc
     simp only [SS,Nat.reduceAdd,h1,decide_true,iO hc]
     refine ah (hw c) (by simp [eC]) ?_
     rw [Yt]
     simp only [SS,Nat.reduceAdd]
     rw [TU]
     exact ai▸ae rfl (aa.int _ _)
def eK (s:List UInt8):Bool:=match s with
 | []=>false
 | c::_=>decide (s.length<=24)&&dL c&&decide (fT dy s=s.length)
theorem Sl {f fl fs fw:FuncId} (h:Has P f (lM fl fs fw)) (hl:∀ c,VP P G fl [kJ c] (.bool (dL c)))
   (hs:∀ s:List UInt8,s.length<9223372036854775807->VP P G fs [.str s, .fn (.func fw) [] []] (.int .i64 (fT dy s))) (s:List UInt8):VP P G f [.str s] (.bool (eK s)):=by
 refine VP.has h ?_
 cases s with
 | nil =>
   simp only [lM,SS,Nat.reduceAdd]
   exact ai▸ae rfl (aa.bool _)
 | cons c s =>
   have e0:(!((c::s)==([]:List UInt8)))=true:=rfl
   by_cases h1:(((s.length+1:Nat)):Int)<=24
   . have e1:(if (0:Int)<=0 then bz (Option.map (fun b=>AV.int IntKind.u8 ↑b.toNat) (c::s)[Int.toNat 0]?) else none)=bz (some (kJ c)):=rfl
     simp only [lM,SS,Nat.reduceAdd,e0,h1,decide_true,e1]
     refine ah (hl c) (by simp [eC]) ?_
     cases h2:dL c
     . simp only [SS,Nat.reduceAdd]
       have:eK (c::s)=false:=by unfold eK;simp [h2]
       rw [this]
       exact ai▸ae rfl (aa.bool _)
     . simp only [SS,Nat.reduceAdd]
       refine ah (hs (c::s) (by simp only [List.length_cons];omega)) (by simp;exact ⟨aa.str _,aa.fn (by simp) (by simp)⟩) ?_
       by_cases h3:fT dy (c::s)=(s.length+1)
       . have h4:(fT dy (c::s):Int)=((s.length+1:Nat):Int):=by omega
         simp only [SS,Nat.reduceAdd,h4,decide_true]
         have:eK (c::s)=true:=by unfold eK;simp [h2,h3];omega
         rw [this]
         exact ai▸ae rfl (aa.bool _)
       . have h4 : ¬ (fT dy (c::s):Int)=((s.length+1:Nat):Int):=by omega
         simp only [SS,Nat.reduceAdd,h4,decide_false]
         have:eK (c::s)=false:=by unfold eK;simp [h3]
         rw [this]
         exact ai▸ae rfl (aa.bool _)
   . simp only [lM,SS,Nat.reduceAdd,e0,h1,decide_false]
     have:eK (c::s)=false:=by unfold eK;simp only [List.length_cons];simp;intro h;omega
     rw [this]
     exact ai▸ae rfl (aa.bool _)
end
end Go.VL
end

section
set_option linter.unusedVariables false
namespace Go.VL
theorem fX {k kk:Nat} {es:List AV} {e:AV} {ik:IntKind} {i:Nat} (hk:kk=k) (h:es[i]? = some e):cx k (.sl kk es) (.int ik (i:Int))=some (.ep e.cells 0):=by
 subst hk
 simp [cx,h]
theorem Hx {k:Nat} {id:Id} {off len:Nat} {b:Bool} {ik:IntKind} {i:Nat} (h:i<len):cx k (.osl id k off len b) (.int ik (i:Int))=some (.ref id (off+i) 0):=by
 simp [cx,h]
def yT:Option Nat->Int
 | some i=>i
 | none => -1
theorem rb {α : Type} {p : α -> Bool} {l:List α} (h:∀ (j:Nat) x,l[j]? = some x->p x=false):l.findIdx? p=none:=by
 rw [List.findIdx?_eq_none_iff]
 intro x hx
 obtain ⟨j,hj⟩:=List.getElem?_of_mem hx
 exact h j x hj
theorem re {α : Type} {p : α -> Bool} {l:List α} {i:Nat} {x : α} (hi:l[i]? = some x) (hx:p x=true) (h:∀ (j:Nat) x,j<i->l[j]? = some x->p x=false):l.findIdx? p=some i:=by
 rw [List.findIdx?_eq_some_iff_getElem]
 obtain ⟨hlt,he⟩:=List.getElem?_eq_some_iff.1 hi
 refine ⟨hlt,by rw [he];exact hx,fun j U8 => ?_⟩
 have:=h j _ U8 (List.getElem?_eq_getElem (by omega))
 simp [this]
section
variable {P:Program} {G:Nat->Option (List AV)}
end
end Go.VL
end

section
namespace Go.VL
def aE:Nat:=4294967296
theorem KG:1<aE:=by decide
theorem cW:0<aE:=by decide
def val:List Nat->Nat
 | []=>0
 | w::r=>w+aE*val r
def Wd (ws:List Nat):Prop:=∀ w∈ws,w<aE
def digits (n:Nat):List Nat:=if _h:n=0 then [] else n%aE::digits (n/aE)
termination_by n
decreasing_by exact Nat.div_lt_self (Nat.pos_of_ne_zero _h) KG
theorem bA:digits 0=[]:=by rw [digits];simp
theorem iz {n:Nat} (h:n≠0):digits n=n%aE::digits (n/aE):=by rw [digits];simp [h]
theorem aV (n:Nat):val (digits n)=n:=by
 induction n using Nat.strongRecOn with
 | _ n ih =>
   by_cases h:n=0
   . subst h;rw [bA];rfl
   . rw [iz h,val,ih _ (Nat.div_lt_self (Nat.pos_of_ne_zero h) KG)]
     exact Nat.mod_add_div n aE
theorem aW (n:Nat):Wd (digits n):=by
 induction n using Nat.strongRecOn with
 | _ n ih =>
   by_cases h:n=0
   . subst h;rw [bA];intro w hw;simp at hw
   . rw [iz h]
     intro w hw
     rcases List.mem_cons.1 hw with rfl | hw
     . exact Nat.mod_lt _ (by decide)
     . exact ih _ (Nat.div_lt_self (Nat.pos_of_ne_zero h) KG) w hw
theorem nA {n:Nat}:digits n=[]↔n=0:=by
 constructor
 . intro h
   have:=aV n
   rw [h] at this
   exact this.symm
 . rintro rfl;exact bA
theorem cv (a b:List Nat):val (a++b)=val a+aE ^ a.length*val b:=by
 induction a with
 | nil=>simp [val]
 | cons x a ih =>
   simp only [List.cons_append,val,ih,List.length_cons,Nat.pow_succ]
   rw [Nat.mul_add, <- Nat.add_assoc]
   congr 1
   rw [<- Nat.mul_assoc,Nat.mul_comm (aE ^ a.length) aE]
theorem mO {ws:List Nat} (h:Wd ws):val ws<aE ^ ws.length:=by
 induction ws with
 | nil=>simp [val]
 | cons w ws ih =>
   have h1:=ih (fun x hx=>h x (List.mem_cons_of_mem _ hx))
   have h2:=h w (by simp)
   simp only [val,List.length_cons,Nat.pow_succ]
   have h3:aE*(val ws+1)<=aE*aE ^ ws.length:=Nat.mul_le_mul_left _ h1
   rw [Nat.mul_comm (aE ^ ws.length) aE]
   rw [Nat.mul_add] at h3
   omega
theorem EC {ws:List Nat} (h:∀ w∈ws,w=0):val ws=0:=by
 induction ws with
 | nil=>rfl
 | cons w ws ih=>simp only [val];rw [ih (fun x hx=>h x (List.mem_cons_of_mem _ hx)),h w (by simp)];rfl
theorem nV {ws:List Nat} (h:Wd ws) (h0:ws=[]∨∃ w,ws.getLast? = some w/\w≠0):digits (val ws)=ws:=by
 induction ws with
 | nil=>simp [val,bA]
 | cons w ws ih =>
   have hw:=h w (by simp)
   have hws:Wd ws:=fun x hx=>h x (List.mem_cons_of_mem _ hx)
   cases ws with
   | nil =>
     rcases h0 with h0 | ⟨x,hx,hne⟩
     . simp at h0
     . simp at hx;subst hx
       simp only [val,Nat.mul_zero,Nat.add_zero]
       rw [iz hne,Nat.mod_eq_of_lt hw,Nat.div_eq_of_lt hw,bA]
   | cons y ws =>
     have hl:∃ x,(y::ws).getLast? = some x/\x≠0:=by
       rcases h0 with h0 | ⟨x,hx,hne⟩
       . simp at h0
       . exact ⟨x,by simpa [List.getLast?_cons_cons] using hx,hne⟩
     have hih:=ih hws (.inr hl)
     have hv:val (y::ws)≠0:=by
       intro e
       have:digits (val (y::ws))=[]:=by rw [e,bA]
       rw [hih] at this;simp at this
     have hne:val (w::y::ws)≠0:=by
       simp only [val] at hv ⊢
       have:0<aE*(y+aE*val ws):=Nat.mul_pos (by decide) (Nat.pos_of_ne_zero hv)
       omega
     rw [iz hne]
     have e1:val (w::y::ws)%aE=w:=by
       show (w+aE*val (y::ws))%aE=w
       rw [Nat.add_mul_mod_self_left];exact Nat.mod_eq_of_lt hw
     have e2:val (w::y::ws)/aE=val (y::ws):=by
       show (w+aE*val (y::ws))/aE=_
       rw [Nat.add_mul_div_left _ _ (by decide),Nat.div_eq_of_lt hw,Nat.zero_add]
     rw [e1,e2,hih]
theorem Ac {n:Nat}:digits n=[]∨∃ w,(digits n).getLast? = some w/\w≠0:=by
 induction n using Nat.strongRecOn with
 | _ n ih =>
   by_cases h:n=0
   . left;subst h;exact bA
   . right
     rw [iz h]
     rcases ih _ (Nat.div_lt_self (Nat.pos_of_ne_zero h) KG) with h1 | ⟨w,h1,h2⟩
     . have hd:=nA.1 h1
       rw [h1]
       refine ⟨n%aE,rfl, ?_⟩
       rw [Nat.mod_eq_of_lt]
       . exact h
       . rcases Nat.div_eq_zero_iff.1 hd with h3 | h3
         . exact absurd h3 (by decide)
         . exact h3
     . cases hd:digits (n/aE) with
       | nil=>rw [hd] at h1;simp at h1
       | cons x xs=>rw [hd] at h1;exact ⟨w,by simpa [List.getLast?_cons_cons] using h1,h2⟩
theorem kV (ws:List Nat):val (ws++[0])=val ws:=by rw [cv];simp [val]
theorem tk {ws:List Nat} (h:Wd ws) (k:Nat):Wd (ws.take k):=fun w hw=>h w (List.mem_of_mem_take hw)
theorem cM {a b:List Nat} (ha:Wd a) (hb:Wd b):Wd (a++b):=fun w hw=>(List.mem_append.1 hw).elim (ha w) (hb w)
def ag (n:Nat):Nat:=(digits n).length
theorem cV (n:Nat):n<aE ^ ag n:=by have:=mO (aW n);rwa [aV] at this
theorem fK {n k:Nat} (h:n<aE ^ k):ag n<=k:=by
 induction k generalizing n with
 | zero=>simp at h;subst h;simp [ag,bA]
 | succ k ih =>
   by_cases h0:n=0
   . subst h0;simp [ag,bA]
   . unfold ag
     rw [iz h0]
     have:n/aE<aE ^ k:=by rw [Nat.pow_succ] at h;exact Nat.div_lt_of_lt_mul (by rwa [Nat.mul_comm])
     have:=ih this
     simp only [List.length_cons]
     unfold ag at this
     omega
theorem bE {m n:Nat} (h:m<=n):ag m<=ag n:=fK (Nat.lt_of_le_of_lt h (cV n))
theorem tp {n:Nat} (h:n≠0):aE ^ (ag n-1)<=n:=by
 rcases Nat.lt_or_ge n (aE ^ (ag n-1)) with h1 | h1
 . have:=fK h1
   have h2:0<ag n:=by
     unfold ag
     cases hd:digits n with
     | nil=>exact absurd (nA.1 hd) h
     | cons _ _=>simp
   omega
 . exact h1
theorem Ad (m n:Nat):ag (m*n)<=ag m+ag n:=by
 refine fK ?_
 rw [Nat.pow_add]
 exact Nat.mul_lt_mul'' (cV m) (cV n)
end Go.VL
end

section
set_option linter.unusedVariables false
namespace Go.VL
def us (ws:List Nat):List AV:=ws.map fun w:Nat => .int .u32 (w:Int)
def W (n:Nat):AV := .sl 1 (us (digits n))
theorem gv (ws:List Nat):(us ws).length=ws.length:=by simp [us]
theorem xZ {ws:List Nat} {i w:Nat} (h:ws[i]? = some w):(us ws)[i]? = some (.int .u32 (w:Int)):=by simp [us,h]
theorem QI (ws:List Nat) (k:Nat):(us ws).take k=us (ws.take k):=by simp [us,List.map_take]
theorem ED (a b:List Nat):us (a++b)=us a++us b:=by simp [us]
theorem QJ (ws:List Nat):flat (us ws)=us ws:=by
 induction ws with
 | nil=>rfl
 | cons w ws ih=>simp only [us,List.map_cons,flat,List.flatMap_cons,AV.cells] at ih ⊢;rw [ih];rfl
theorem C6 (ws:List Nat):aa (.sl 1 (us ws)):=aa.sl (by rw [QJ];intro c hc;simp only [us,List.mem_map] at hc;obtain ⟨w,_,rfl⟩:=hc;exact aa.int _ _)
theorem Ae (ws:List Nat):∀ c∈flat (us ws),aa c:=by rw [QJ];intro c hc;simp only [us,List.mem_map] at hc;obtain ⟨w,_,rfl⟩:=hc;exact aa.int _ _
theorem C7 (ws:List Nat):∀ e∈us ws,e.size=1:=by intro e he;simp only [us,List.mem_map] at he;obtain ⟨w,_,rfl⟩:=he;rfl
theorem Ou (ws:List Nat):((us ws).all fun e=>e.cells.all AV.one)=true:=by rw [List.all_eq_true];intro e he;simp only [us,List.mem_map] at he;obtain ⟨w,_,rfl⟩:=he;rfl
theorem aB (n:Nat):aa (W n):=C6 _
theorem bo {k:IntKind} {n:Int}:part false (AV.int k n).cells 0 1=some (.int k n):=rfl
theorem uL (k:Nat) (h:0<k) (h2:k<=9223372036854775807):IntKind.i64.wrap ((k:Int)-1)=((k-1:Nat):Int):=by rw [IntKind.wrap_i64];omega
theorem ay {p:Prop} [Decidable p] (h:p):decide p=true:=decide_eq_true h
theorem au {p:Prop} [Decidable p] (h : ¬ p):decide p=false:=decide_eq_false h
theorem U9 {k kk:Nat} {es:List AV} {h:Nat} (hk:kk=k) (hh:h<=es.length):ek k (.sl kk es) none (some (.int .i64 (h:Int))) none=some (.sl k (es.take h)):=by
 subst hk
 simp [ek,gw,jA,hh]
section
variable {P:Program} {G:Nat->Option (List AV)}
theorem QK {f:FuncId} (h:Has P f gm) {ws:List Nat} (hw:Wd ws) (hl:ws.length<=9223372036854775807):VP P G f [.sl 1 (us ws)] (W (val ws)):=by
 refine VP.has h ?_
 simp only [gm,SS,aP]
 refine VW.ey (α := Nat × Nat) (fun x=>⟨[.sl 1 (us (ws.take x.1))]++List.replicate 20 .top,fun _=>none,x.2⟩) (fun x=>x.1<=ws.length/\val (ws.take x.1)=val ws) (fun x=>x.1) (ws.length,1) ?_ ⟨Nat.le_refl _,by rw [List.take_length]⟩ ?_
 . exact Wk.slots (by simp [Fg,List.replicate]) (Nat.le_refl _)
 rintro ⟨k,n⟩ ⟨hk,hv⟩
 simp only [] at hk hv
 have Yk:(us (ws.take k)).length=k:=by rw [gv,List.length_take];omega
 simp only [SS,Nat.reduceAdd,Yk]
 by_cases h0:k=0
 . subst h0
   have d0:decide ((0:Int)<((0:Nat):Int))=false:=by decide
   simp only [SS,Nat.reduceAdd,d0]
   refine ai▸ae (r:=W (val ws)) ?_ (aB _)
   have:digits (val ws)=[]:=by rw [<- hv];simp [val,bA]
   simp [aX,a9,W,us,this]
 . have ql:0<k:=Nat.pos_of_ne_zero h0
   have d0:decide ((0:Int)<(k:Int))=true:=ay (by omega)
   have XJ:=uL k ql (by omega)
   obtain ⟨w,hwk⟩:∃ w,ws[k-1]? = some w:=⟨ws[k-1],by rw [List.getElem?_eq_getElem]⟩
   have aeU:(ws.take k)[k-1]? = some w:=by rw [List.getElem?_take_of_lt (by omega)];exact hwk
   have htk:ws.take k=ws.take (k-1)++[w]:=by
     have:=List.take_add_one (l:=ws) (i:=k-1)
     rw [hwk,show k-1+1=k from by omega] at this
     simpa using this
   have QH:k-1<=(us (ws.take k)).length:=by rw [Yk];omega
   by_cases hz:w=0
   . have d1:decide ((w:Int)=0)=true:=ay (by omega)
     simp only [SS,Nat.reduceAdd,d0,XJ,fX rfl (xZ aeU),aI,bo,d1,Yk,U9 rfl QH]
     have hm:min (k-1) k=k-1:=Nat.min_eq_left (Nat.sub_le _ _)
     refine ⟨(k-1,_),⟨by simp only [];omega, ?_⟩,by simp only [];omega,Wk.slots (by simp [Fg,QI,List.take_take,hm]) (Nat.le_refl _)⟩
     simp only []
     rw [<- hv,htk,hz,kV]
   . have d1:decide ((w:Int)=0)=false:=au (by omega)
     simp only [SS,Nat.reduceAdd,d0,XJ,fX rfl (xZ aeU),aI,bo,d1,Yk]
     refine ai▸ae (r:=W (val ws)) ?_ (aB _)
     have e:digits (val ws)=ws.take k:=by
       rw [<- hv]
       exact nV (tk hw k) (.inr ⟨w,by rw [htk];simp,hz⟩)
     simp [aX,a9,W,e]
end
end Go.VL
end
