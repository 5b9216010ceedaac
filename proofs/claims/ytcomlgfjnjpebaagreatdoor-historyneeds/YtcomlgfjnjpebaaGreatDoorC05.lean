/- For the claim of HistoryNeeds: parts GR, HHas, TryzShelf, FUH, TUH, VL28, VL29, CLex, CB, WN, CI1, CI2, CI3, CI4. -/
import Derived.Test.YtcomlgfjnjpebaaGreatDoorC04
import Derived.Test.YtcomlgfjnjpebaaGreatDoorProg
import Derived.KernelRfl
import Derived.Shelf.Strings.Builder1
import Derived.Shelf.Strings.Builder2
import Derived.Shelf.Small.Bits
import Derived.Shelf.Strings.BuilderF
import Derived.Shelf.Strings.BuilderK
import Derived.Shelf.Strconv.Itoa0
import Derived.Shelf.Strconv.Itoa1
import Derived.Shelf.LaysM
import Derived.Shelf.Strconv.Itoa2
import Derived.Shelf.Strings.Search1
import Derived.Shelf.Strings.Search2
import Derived.Shelf.Strings.Cut
import Derived.Shelf.Strings.Shaped
import Derived.Shelf.Sort.Plain
import Derived.Shelf.Strings.Prefix
import Derived.Shelf.Bits.Mul64
import Derived.Shelf.Strings.Repeat
import Derived.Shelf.Slices.Equal
import Derived.Ground.Names2Prog
import Derived.Shelf.Slices.Clone
import Derived.Shelf.Slices.CompactS
import Derived.Shelf.Slices.SearchI
import Derived.Shelf.Slices.Cells
import Derived.Shelf.Slices.In.SortNone
import Derived.Shelf.Slices.Empties2
import Derived.Ground.SlgnProg
import Derived.Shelf.SlicesE.Clone
import Derived.WalkKit
import Derived.Lib.Walk
import Derived.Lib.ItoaMem
import Derived.Lib.AppendIntMem
import Derived.BigCall
import Derived.BigGuard
import Derived.RangeFuncBox
import Derived.RangeFuncLeaves
import Derived.Shelf.Abstract
import Derived.OwnWalkIn
import Derived.TacticsInMore
import Derived.LoopNIn
import Derived.LoopIn
import Derived.Laws.Bits64
set_option linter.unusedSimpArgs false
set_option linter.unusedVariables false
section
set_option maxRecDepth 100000
namespace Go.VL
def w_setsquareref01_trim : VFunc := ⟨21,[(.tmp 2)],(cS [oZ 2] (.seq (.block 0 (.loop (.seq (cS [oM 3 0,oN 4 3,oTc 5 .gtr 4 0,oM 6 5,gM 7 0 6 true,gM 8 0 6 true,gN 9 8 6 true,⟨some 10,.bin .sub .int (.t 9) (.c (.int .i64 1)),some (6,true)⟩,⟨some 11,.iaddrS 1 (.t 7) (.t 10),some (6,true)⟩,gL 12 1 11 6 true,⟨some 13,.bin .eql .int (.t 12) (.c (.int .u32 0)),some (6,true)⟩,oP0 14 6 13] (.cond (.t 14) .skip (.exit 0))) (.block 1 (cR [oM 15 0,oM 16 0,oN 17 16,oTc 18 .sub 17 1,⟨some 19,.slice 1 (.t 15) none (some (.t 18)) none,none⟩,oM 0 19]))))) (cS [oM 20 0,oM 2 20] .ret)))⟩
def w_setsquareref01_signed (f_setsquareref01_trim : Nat) : VFunc := ⟨15,[(.cell 4 true 2)],(cS [⟨some 4,.box (.c (.agg [(.bool false),.nils])),none⟩] (cS [oM 5 1,oC 6 f_setsquareref01_trim 5,oM 1 6] (cS [oM 7 0,oM 8 7,gM 9 1 8 true,gN 10 9 8 true,⟨some 11,.bin .gtr .int (.t 10) (.c (.int .i64 0)),some (8,true)⟩,oP0 12 8 11,oM 13 1,⟨some 14,.build [(.bool false),.nils] [(0,(1,(.t 12))),(1,(1,(.t 13)))],none⟩,oS 2 4 14] .ret)))⟩
def w_setsquareref01_Norm (f_setsquareref01_signed : Nat) : VFunc := ⟨8,[(.cell 2 true 2)],(cS [oX 1 0,⟨some 2,.box (.c (.agg [(.bool false),.nils])),none⟩] (cS [oF 3 0 1,oL 4 1 3,oF 5 1 1,oL 6 1 5,oCC 7 f_setsquareref01_signed 4 6,oS 2 2 7] .ret))⟩
def w_setsquareref01_Valid (f_setsquareref01_trim : Nat) : VFunc := ⟨22,[(.tmp 2)],(cS [oX 1 0,oB 2 false] (.seq (.reg (some [(2,5)]) [oF 3 1 1,oL 4 1 3,oC 5 f_setsquareref01_trim 4,oN 6 5,oF 7 1 1,oL 8 1 7,oN 9 8,oT 10 .eql 6 9,oM 11 10,gF 12 0 1 11 true,gL 13 1 12 11 true,⟨some 14,.un .not (.t 13),some (11,true)⟩,gM 15 14 11 true,gF 16 1 1 15 false,gL 17 1 16 15 false,gN 18 17 15 false,⟨some 19,.bin .gtr .int (.t 18) (.c (.int .i64 0)),some (15,false)⟩,⟨some 20,.pick (.t 15) (.c (.bool true)) (.t 19),some (11,true)⟩,oP0 21 11 20,oM 2 21]) .ret))⟩
def w_setsquareref01_words (f_setsquareref01_trim : Nat) : VFunc := ⟨10,[(.tmp 2)],(cS [oZ 2] (cS [oM 3 0,oK 4 .u32 3,oM 5 0,⟨some 6,.bin .shr .int (.t 5) (.c (.int .u64 32)),none⟩,oK 7 .u32 6,⟨some 8,.buildSl 1 2 (.int .u32 0) [(0,(.t 4)),(1,(.t 7))],none⟩,oC 9 f_setsquareref01_trim 8,oM 2 9] .ret))⟩
def w_setsquareref01_FromInt (f_setsquareref01_words f_setsquareref01_signed : Nat) : VFunc := ⟨14,[(.cell 2 true 2)],(cS [⟨some 2,.box (.c (.agg [(.bool false),.nils])),none⟩] (.seq (cS [oM 3 0,oTc 4 .lss 3 0] (.cond (.t 4) (cS [oM 5 0,oK 6 .u64 5,⟨some 7,.un .neg (.t 6),none⟩,oC 8 f_setsquareref01_words 7,⟨some 9,.call (.f f_setsquareref01_signed) [(.c (.bool true)),(.t 8)],none⟩,oS 2 2 9] .ret) .skip)) (cS [oM 10 0,oK 11 .u64 10,oC 12 f_setsquareref01_words 11,⟨some 13,.call (.f f_setsquareref01_signed) [(.c (.bool false)),(.t 12)],none⟩,oS 2 2 13] .ret)))⟩
def w_setsquareref01_short : VFunc := ⟨21,[(.tmp 2)],(cS [⟨some 2,.mv (.c (.int .u64 0)),none⟩] (cS [⟨some 3,.mv (.c (.int .u64 0)),none⟩] (.seq (cS [oM 5 0,oN 6 5,oTc 7 .sub 6 1,oM 4 7] (.block 0 (.loop (.seq (cS [oM 8 4,oTc 9 .geq 8 0] (.cond (.t 9) .skip (.exit 0))) (.seq (.block 1 (cR [oM 12 3,⟨some 13,.bin .shl .int (.t 12) (.c (.int .u64 32)),none⟩,oM 14 0,oM 15 4,oA 16 1 14 15,oL 17 1 16,oK 18 .u64 17,oT 19 .or 13 18,oM 3 19])) (cR [oM 10 4,oTc 11 .sub 10 1,oM 4 11])))))) (cS [oM 20 3,oM 2 20] .ret))))⟩
def w_setsquareref01_compare : VFunc := ⟨41,[(.tmp 4)],(cS [oI 4 0] (.seq (cS [oM 6 0,oN 7 6,oM 8 1,oN 9 8,oT 10 .neq 7 9] (.cond (.t 10) (.seq (cS [oM 11 0,oN 12 11,oM 13 1,oN 14 13,oT 15 .lss 12 14] (.cond (.t 15) (cS [oI 4 (-1 - 0)] .ret) .skip)) (cS [oI 4 1] .ret)) .skip)) (.seq (cS [oM 16 0,oN 17 16,oTc 18 .sub 17 1,oM 5 18] (.block 0 (.loop (.seq (cS [oM 19 5,oTc 20 .geq 19 0] (.cond (.t 20) .skip (.exit 0))) (.seq (.block 1 (.seq (.seq (.reg (some []) [oM 23 0,oM 24 5,oA 25 1 23 24,oL 26 1 25,oM 27 1,oM 28 5,oA 29 1 27 28,oL 30 1 29,oT 31 .lss 26 30]) (.cond (.t 31) (cS [oI 4 (-1 - 0)] .ret) .skip)) (.seq (.reg (some []) [oM 32 0,oM 33 5,oA 34 1 32 33,oL 35 1 34,oM 36 1,oM 37 5,oA 38 1 36 37,oL 39 1 38,oT 40 .gtr 35 39]) (.cond (.t 40) (cS [oI 4 1] .ret) .skip)))) (cR [oM 21 5,oTc 22 .sub 21 1,oM 5 22])))))) (cS [oI 4 0] .ret))))⟩
def w_setsquareref01_plus (f_setsquareref01_trim : Nat) : VFunc := ⟨58,[(.tmp 4)],(cS [oZ 4] (.seq (cS [oM 8 0,oN 9 8,oM 10 1,oN 11 10,oT 12 .lss 9 11] (.cond (.t 12) (cR [oM 13 1,oM 14 0,oM 0 13,oM 1 14]) .skip)) (cS [oM 15 0,oN 16 15,oTc 17 .add 16 1,⟨some 18,.mksl 1 4 (.int .u32 0) (.t 17) (.t 17),none⟩,oM 5 18] (cS [⟨some 6,.mv (.c (.int .u64 0)),none⟩] (.seq (cS [oI 7 0] (.block 0 (.loop (.seq (cS [oM 19 7,oM 20 0,oN 21 20,oT 22 .lss 19 21] (.cond (.t 22) .skip (.exit 0))) (.seq (.block 1 (cS [oM 25 6,oM 26 0,oM 27 7,oA 28 1 26 27,oL 29 1 28,oK 30 .u64 29,oT 31 .add 25 30,oM 6 31] (.seq (cS [oM 32 7,oM 33 1,oN 34 33,oT 35 .lss 32 34] (.cond (.t 35) (cR [oM 36 6,oM 37 1,oM 38 7,oA 39 1 37 38,oL 40 1 39,oK 41 .u64 40,oT 42 .add 36 41,oM 6 42]) .skip)) (cS [oM 43 5,oM 44 7,oM 45 6,oK 46 .u32 45,oA 47 1 43 44,oS 1 47 46] (cR [oM 48 6,⟨some 49,.bin .shr .int (.t 48) (.c (.int .u64 32)),none⟩,oM 6 49]))))) (cR [oM 23 7,oTc 24 .add 23 1,oM 7 24])))))) (cS [oM 50 5,oM 51 0,oN 52 51,oM 53 6,oK 54 .u32 53,oA 55 1 50 52,oS 1 55 54] (cS [oM 56 5,oC 57 f_setsquareref01_trim 56,oM 4 57] .ret)))))))⟩
def w_setsquareref01_minus (f_setsquareref01_trim : Nat) : VFunc := ⟨48,[(.tmp 4)],(cS [oZ 4] (cS [oM 10 0,oN 11 10,⟨some 12,.mksl 1 4 (.int .u32 0) (.t 11) (.t 11),none⟩,oM 5 12] (cS [⟨some 6,.mv (.c (.int .u64 0)),none⟩] (.seq (cS [oI 7 0] (.block 0 (.loop (.seq (cS [oM 13 7,oM 14 0,oN 15 14,oT 16 .lss 13 15] (.cond (.t 16) .skip (.exit 0))) (.seq (.block 1 (cS [⟨some 8,.mv (.c (.int .u64 0)),none⟩] (.seq (cS [oM 19 7,oM 20 1,oN 21 20,oT 22 .lss 19 21] (.cond (.t 22) (cR [oM 23 1,oM 24 7,oA 25 1 23 24,oL 26 1 25,oK 27 .u64 26,oM 8 27]) .skip)) (cS [oM 28 0,oM 29 7,oA 30 1 28 29,oL 31 1 30,oK 32 .u64 31,⟨some 33,.bin .add .int (.t 32) (.c (.int .u64 4294967296)),none⟩,oM 34 8,oT 35 .sub 33 34,oM 36 6,oT 37 .sub 35 36,oM 9 37] (cS [oM 38 5,oM 39 7,oM 40 9,oK 41 .u32 40,oA 42 1 38 39,oS 1 42 41] (cR [oM 43 9,⟨some 44,.bin .shr .int (.t 43) (.c (.int .u64 32)),none⟩,⟨some 45,.bin .sub .int (.c (.int .u64 1)) (.t 44),none⟩,oM 6 45])))))) (cR [oM 17 7,oTc 18 .add 17 1,oM 7 18])))))) (cS [oM 46 5,oC 47 f_setsquareref01_trim 46,oM 4 47] .ret)))))⟩
def w_setsquareref01_times (f_setsquareref01_trim : Nat) : VFunc := ⟨67,[(.tmp 4)],(cS [oZ 4] (cS [oM 9 0,oN 10 9,oM 11 1,oN 12 11,oT 13 .add 10 12,⟨some 14,.mksl 1 4 (.int .u32 0) (.t 13) (.t 13),none⟩,oM 5 14] (.seq (cS [oI 6 0] (.block 0 (.loop (.seq (cS [oM 15 6,oM 16 0,oN 17 16,oT 18 .lss 15 17] (.cond (.t 18) .skip (.exit 0))) (.seq (.block 1 (cS [⟨some 7,.mv (.c (.int .u64 0)),none⟩] (.seq (cS [oI 8 0] (.block 2 (.loop (.seq (cS [oM 21 8,oM 22 1,oN 23 22,oT 24 .lss 21 23] (.cond (.t 24) .skip (.exit 2))) (.seq (.block 3 (.seq (.reg (some []) [oM 27 7,oM 28 5,oM 29 6,oM 30 8,oT 31 .add 29 30,oA 32 1 28 31,oL 33 1 32,oK 34 .u64 33,oT 35 .add 27 34,oM 36 0,oM 37 6,oA 38 1 36 37,oL 39 1 38,oK 40 .u64 39,oM 41 1,oM 42 8,oA 43 1 41 42,oL 44 1 43,oK 45 .u64 44,oT 46 .mul 40 45,oT 47 .add 35 46,oM 7 47]) (cS [oM 48 5,oM 49 6,oM 50 8,oT 51 .add 49 50,oM 52 7,oK 53 .u32 52,oA 54 1 48 51,oS 1 54 53] (cR [oM 55 7,⟨some 56,.bin .shr .int (.t 55) (.c (.int .u64 32)),none⟩,oM 7 56])))) (cR [oM 25 8,oTc 26 .add 25 1,oM 8 26])))))) (cR [oM 57 5,oM 58 6,oM 59 1,oN 60 59,oT 61 .add 58 60,oM 62 7,oK 63 .u32 62,oA 64 1 57 61,oS 1 64 63])))) (cR [oM 19 6,oTc 20 .add 19 1,oM 6 20])))))) (cS [oM 65 5,oC 66 f_setsquareref01_trim 65,oM 4 66] .ret))))⟩
def w_setsquareref01_by (f_setsquareref01_trim : Nat) : VFunc := ⟨43,[(.tmp 4),(.tmp 5)],(cS [oZ 4,⟨some 5,.mv (.c (.int .u32 0)),none⟩] (cS [oM 9 0,oN 10 9,⟨some 11,.mksl 1 4 (.int .u32 0) (.t 10) (.t 10),none⟩,oM 6 11] (cS [⟨some 7,.mv (.c (.int .u64 0)),none⟩] (.seq (cS [oM 12 0,oN 13 12,oTc 14 .sub 13 1,oM 8 14] (.block 0 (.loop (.seq (cS [oM 15 8,oTc 16 .geq 15 0] (.cond (.t 16) .skip (.exit 0))) (.seq (.block 1 (cS [oM 19 7,⟨some 20,.bin .shl .int (.t 19) (.c (.int .u64 32)),none⟩,oM 21 0,oM 22 8,oA 23 1 21 22,oL 24 1 23,oK 25 .u64 24,oT 26 .or 20 25,oM 7 26] (cS [oM 27 6,oM 28 8,oM 29 7,oM 30 1,oK 31 .u64 30,oT 32 .quo 29 31,oK 33 .u32 32,oA 34 1 27 28,oS 1 34 33] (cR [oM 35 7,oM 36 1,oK 37 .u64 36,oT 38 .rem 35 37,oM 7 38])))) (cR [oM 17 8,oTc 18 .sub 17 1,oM 8 18])))))) (cS [oM 39 6,oC 40 f_setsquareref01_trim 39,oM 41 7,oK 42 .u32 41,oM 4 40,oM 5 42] .ret)))))⟩
def w_setsquareref01_length : VFunc := ⟨26,[(.tmp 2)],(cS [oI 2 0] (.seq (cS [oM 5 0,oN 6 5,oTc 7 .eql 6 0] (.cond (.t 7) (cS [oI 2 0] .ret) .skip)) (cS [oI 3 0] (.seq (cS [oM 8 0,oM 9 0,oN 10 9,oTc 11 .sub 10 1,oA 12 1 8 11,oL 13 1 12,oM 4 13] (.block 0 (.loop (.seq (cS [oM 14 4,⟨some 15,.bin .gtr .int (.t 14) (.c (.int .u32 0)),none⟩] (.cond (.t 15) .skip (.exit 0))) (.seq (.block 1 (cR [oM 18 3,oTc 19 .add 18 1,oM 3 19])) (cR [oM 16 4,⟨some 17,.bin .quo .int (.t 16) (.c (.int .u32 2)),none⟩,oM 4 17])))))) (cS [oM 20 0,oN 21 20,oTc 22 .sub 21 1,⟨some 23,.bin .mul .int (.c (.int .i64 32)) (.t 22),none⟩,oM 24 3,oT 25 .add 23 24,oM 2 25] .ret)))))⟩
def w_setsquareref01_shifted : VFunc := ⟨43,[(.tmp 4)],(cS [oZ 4] (cS [oM 8 0,oN 9 8,oTc 10 .add 9 1,⟨some 11,.mksl 1 4 (.int .u32 0) (.t 10) (.t 10),none⟩,oM 5 11] (.seq (cS [oI 6 0] (.block 0 (.loop (.seq (cS [oM 12 6,oM 13 0,oN 14 13,oT 15 .lss 12 14] (.cond (.t 15) .skip (.exit 0))) (.seq (.block 1 (cS [oM 18 0,oM 19 6,oA 20 1 18 19,oL 21 1 20,oK 22 .u64 21,oM 23 1,oT 24 .shl 22 23,oM 7 24] (cS [oM 25 5,oM 26 6,oM 27 5,oM 28 6,oA 29 1 27 28,oL 30 1 29,oM 31 7,oK 32 .u32 31,oT 33 .or 30 32,oA 34 1 25 26,oS 1 34 33] (cR [oM 35 5,oM 36 6,oTc 37 .add 36 1,oM 38 7,⟨some 39,.bin .shr .int (.t 38) (.c (.int .u64 32)),none⟩,oK 40 .u32 39,oA 41 1 35 37,oS 1 41 40])))) (cR [oM 16 6,oTc 17 .add 16 1,oM 6 17])))))) (cS [oM 42 5,oM 4 42] .ret))))⟩
def w_setsquareref01_back (f_setsquareref01_trim : Nat) : VFunc := ⟨45,[(.tmp 4)],(cS [oZ 4] (cS [oM 8 0,oN 9 8,⟨some 10,.mksl 1 4 (.int .u32 0) (.t 9) (.t 9),none⟩,oM 5 10] (.seq (cS [oI 6 0] (.block 0 (.loop (.seq (cS [oM 11 6,oM 12 0,oN 13 12,oT 14 .lss 11 13] (.cond (.t 14) .skip (.exit 0))) (.seq (.block 1 (cS [oM 17 0,oM 18 6,oA 19 1 17 18,oL 20 1 19,oK 21 .u64 20,oM 7 21] (.seq (cS [oM 22 6,oTc 23 .add 22 1,oM 24 0,oN 25 24,oT 26 .lss 23 25] (.cond (.t 26) (cR [oM 27 7,oM 28 0,oM 29 6,oTc 30 .add 29 1,oA 31 1 28 30,oL 32 1 31,oK 33 .u64 32,⟨some 34,.bin .shl .int (.t 33) (.c (.int .u64 32)),none⟩,oT 35 .or 27 34,oM 7 35]) .skip)) (cR [oM 36 5,oM 37 6,oM 38 7,oM 39 1,oT 40 .shr 38 39,oK 41 .u32 40,oA 42 1 36 37,oS 1 42 41])))) (cR [oM 15 6,oTc 16 .add 15 1,oM 6 16])))))) (cS [oM 43 5,oC 44 f_setsquareref01_trim 43,oM 4 44] .ret))))⟩
def w_setsquareref01_digit (f_setsquareref01_times f_setsquareref01_trim f_setsquareref01_compare f_setsquareref01_minus : Nat) : VFunc := ⟨51,[(.tmp 4),(.tmp 5)],(cS [⟨some 4,.mv (.c (.int .u32 0)),none⟩,oZ 5] (cS [oM 9 1,oN 10 9,oM 6 10] (.seq (.reg (some []) [oM 11 0,oM 12 6,oA 13 1 11 12,oL 14 1 13,oK 15 .u64 14,⟨some 16,.bin .shl .int (.t 15) (.c (.int .u64 32)),none⟩,oM 17 0,oM 18 6,oTc 19 .sub 18 1,oA 20 1 17 19,oL 21 1 20,oK 22 .u64 21,oT 23 .or 16 22,oM 24 1,oM 25 6,oTc 26 .sub 25 1,oA 27 1 24 26,oL 28 1 27,oK 29 .u64 28,oT 30 .quo 23 29,oM 7 30]) (.seq (cS [oM 31 7,⟨some 32,.bin .gtr .int (.t 31) (.c (.int .u64 4294967295)),none⟩] (.cond (.t 32) (cR [⟨some 7,.mv (.c (.int .u64 4294967295)),none⟩]) .skip)) (cS [oM 33 1,oM 34 7,oK 35 .u32 34,⟨some 36,.buildSl 1 1 (.int .u32 0) [(0,(.t 35))],none⟩,oCC 37 f_setsquareref01_times 33 36,oM 8 37] (.seq (.block 0 (.loop (.seq (cS [oM 38 0,oC 39 f_setsquareref01_trim 38,oM 40 8,oCC 41 f_setsquareref01_compare 39 40,oTc 42 .lss 41 0] (.cond (.t 42) .skip (.exit 0))) (.block 1 (cS [oM 43 7,⟨some 44,.bin .sub .int (.t 43) (.c (.int .u64 1)),none⟩,oM 7 44] (cR [oM 45 8,oM 46 1,oCC 47 f_setsquareref01_minus 45 46,oM 8 47])))))) (cS [oM 48 7,oK 49 .u32 48,oM 50 8,oM 4 49,oM 5 50] .ret)))))))⟩
def w_setsquareref01_divide (f_setsquareref01_compare f_setsquareref01_short f_setsquareref01_words f_setsquareref01_by f_setsquareref01_length f_setsquareref01_shifted f_setsquareref01_trim f_setsquareref01_digit f_setsquareref01_minus f_setsquareref01_back : Nat) : VFunc := ⟨128,[(.tmp 4),(.tmp 5)],(cS [oZ 4,oZ 5] (.seq (cS [oM 20 0,oM 21 1,oCC 22 f_setsquareref01_compare 20 21,oTc 23 .lss 22 0] (.cond (.t 23) (cS [oM 24 0,oZ 4,oM 5 24] .ret) .skip)) (.seq (cS [oM 25 0,oN 26 25,oTc 27 .leq 26 2] (.cond (.t 27) (cS [oM 28 0,oC 29 f_setsquareref01_short 28,oM 30 1,oC 31 f_setsquareref01_short 30,oM 6 29,oM 7 31] (.seq (.reg (some []) [oM 32 6,oM 33 7,oT 34 .quo 32 33,oC 35 f_setsquareref01_words 34,oM 36 6,oM 37 7,oT 38 .rem 36 37,oC 39 f_setsquareref01_words 38,oM 4 35,oM 5 39]) .ret)) .skip)) (.seq (cS [oM 40 1,oN 41 40,oTc 42 .eql 41 1] (.cond (.t 42) (cS [oM 44 0,oM 45 1,⟨some 46,.iaddrS 1 (.t 45) (.c (.int .i64 0)),none⟩,oL 47 1 46,oCC 48 f_setsquareref01_by 44 47,oM 43 48,oE 49 43 0,oE 50 43 1,oM 8 49,oM 9 50] (cS [oM 51 8,oM 52 9,oK 53 .u64 52,oC 54 f_setsquareref01_words 53,oM 4 51,oM 5 54] .ret)) .skip)) (cS [oM 55 1,oN 56 55,⟨some 57,.bin .mul .int (.c (.int .i64 32)) (.t 56),none⟩,oM 58 1,oC 59 f_setsquareref01_length 58,oT 60 .sub 57 59,oM 10 60] (cS [oM 61 0,oM 62 10,oCC 63 f_setsquareref01_shifted 61 62,oM 64 1,oM 65 10,oCC 66 f_setsquareref01_shifted 64 65,oC 67 f_setsquareref01_trim 66,oM 11 63,oM 12 67] (cS [oM 68 0,oN 69 68,⟨some 70,.mksl 1 4 (.int .u32 0) (.t 69) (.t 69),none⟩,oM 13 70] (.seq (cS [oM 71 0,oN 72 71,oM 73 12,oN 74 73,oT 75 .sub 72 74,oM 14 75] (.block 0 (.loop (.seq (cS [oM 76 14,oTc 77 .geq 76 0] (.cond (.t 77) .skip (.exit 0))) (.seq (.block 1 (cS [oM 80 11,oM 81 14,oM 82 14,oM 83 12,oN 84 83,oT 85 .add 82 84,oTc 86 .add 85 1,⟨some 87,.slice 1 (.t 80) (some (.t 81)) (some (.t 86)) none,none⟩,oM 15 87] (cS [oM 89 15,oM 90 12,oCC 91 f_setsquareref01_digit 89 90,oM 88 91,oE 92 88 0,oE 93 88 1,oM 16 92,oM 17 93] (cS [oM 94 13,oM 95 14,oM 96 16,oA 97 1 94 95,oS 1 97 96] (cS [oM 98 15,oC 99 f_setsquareref01_trim 98,oM 100 17,oCC 101 f_setsquareref01_minus 99 100,oM 18 101] (cS [oI 19 0] (.block 2 (.loop (.seq (cS [oM 102 19,oM 103 15,oN 104 103,oT 105 .lss 102 104] (.cond (.t 105) .skip (.exit 2))) (.seq (.block 3 (cS [oM 108 15,oM 109 19,oA 110 1 108 109,⟨none,.store 1 (.t 110) (.c (.int .u32 0)),none⟩] (cS [oM 111 19,oM 112 18,oN 113 112,oT 114 .lss 111 113] (.cond (.t 114) (cR [oM 115 15,oM 116 19,oM 117 18,oM 118 19,oA 119 1 117 118,oL 120 1 119,oA 121 1 115 116,oS 1 121 120]) .skip)))) (cR [oM 106 19,oTc 107 .add 106 1,oM 19 107]))))))))))) (cR [oM 78 14,oTc 79 .sub 78 1,oM 14 79])))))) (cS [oM 122 13,oC 123 f_setsquareref01_trim 122,oM 124 11,oC 125 f_setsquareref01_trim 124,oM 126 10,oCC 127 f_setsquareref01_back 125 126,oM 4 123,oM 5 127] .ret)))))))))⟩
def w_setsquareref01_Sign (f_setsquareref01_Norm : Nat) : VFunc := ⟨11,[(.tmp 2)],(cS [oX 1 0,oI 2 0] (cS [oLA 3 2 1,oC 4 f_setsquareref01_Norm 3,oS 2 1 4] (.seq (cS [oF 5 1 1,oL 6 1 5,oN 7 6,oTc 8 .eql 7 0] (.cond (.t 8) (cS [oI 2 0] .ret) .skip)) (.seq (cS [oF 9 0 1,oL 10 1 9] (.cond (.t 10) (cS [oI 2 (-1 - 0)] .ret) .skip)) (cS [oI 2 1] .ret)))))⟩
def w_setsquareref01_Neg (f_setsquareref01_signed : Nat) : VFunc := ⟨9,[(.cell 2 true 2)],(cS [oX 1 0,⟨some 2,.box (.c (.agg [(.bool false),.nils])),none⟩] (cS [oF 3 0 1,oL 4 1 3,oNo 5 4,oF 6 1 1,oL 7 1 6,oCC 8 f_setsquareref01_signed 5 7,oS 2 2 8] .ret))⟩
def w_setsquareref01_Add (f_setsquareref01_Norm f_setsquareref01_plus f_setsquareref01_signed f_setsquareref01_compare f_setsquareref01_minus : Nat) : VFunc := ⟨44,[(.cell 4 true 2)],(cS [oX 2 0,oX 3 1,⟨some 4,.box (.c (.agg [(.bool false),.nils])),none⟩] (.seq (.reg (some [(1,2)]) [oLA 5 2 2,oC 6 f_setsquareref01_Norm 5,oLA 7 2 3,oC 8 f_setsquareref01_Norm 7,oS 2 2 6,oS 2 3 8]) (.seq (cS [oF 9 0 2,oL 10 1 9,oF 11 0 3,oL 12 1 11,⟨some 13,.bin .eql .bool (.t 10) (.t 12),none⟩] (.cond (.t 13) (.seq (.reg (some [(1,6)]) [oF 14 0 2,oL 15 1 14,oF 16 1 2,oL 17 1 16,oF 18 1 3,oL 19 1 18,oCC 20 f_setsquareref01_plus 17 19,oCC 21 f_setsquareref01_signed 15 20,oS 2 4 21]) .ret) .skip)) (.seq (cS [oF 22 1 2,oL 23 1 22,oF 24 1 3,oL 25 1 24,oCC 26 f_setsquareref01_compare 23 25,oTc 27 .geq 26 0] (.cond (.t 27) (.seq (.reg (some [(1,6)]) [oF 28 0 2,oL 29 1 28,oF 30 1 2,oL 31 1 30,oF 32 1 3,oL 33 1 32,oCC 34 f_setsquareref01_minus 31 33,oCC 35 f_setsquareref01_signed 29 34,oS 2 4 35]) .ret) .skip)) (.seq (.reg (some [(1,6)]) [oF 36 0 3,oL 37 1 36,oF 38 1 3,oL 39 1 38,oF 40 1 2,oL 41 1 40,oCC 42 f_setsquareref01_minus 39 41,oCC 43 f_setsquareref01_signed 37 42,oS 2 4 43]) .ret)))))⟩
def w_setsquareref01_Sub (f_setsquareref01_Neg f_setsquareref01_Add : Nat) : VFunc := ⟨9,[(.cell 4 true 2)],(cS [oX 2 0,oX 3 1,⟨some 4,.box (.c (.agg [(.bool false),.nils])),none⟩] (.seq (.reg (some [(0,2)]) [oLA 5 2 2,oLA 6 2 3,oC 7 f_setsquareref01_Neg 6,oCC 8 f_setsquareref01_Add 5 7,oS 2 4 8]) .ret))⟩
def w_setsquareref01_Mul (f_setsquareref01_Norm f_setsquareref01_times f_setsquareref01_signed : Nat) : VFunc := ⟨20,[(.cell 4 true 2)],(cS [oX 2 0,oX 3 1,⟨some 4,.box (.c (.agg [(.bool false),.nils])),none⟩] (.seq (.reg (some [(1,2)]) [oLA 5 2 2,oC 6 f_setsquareref01_Norm 5,oLA 7 2 3,oC 8 f_setsquareref01_Norm 7,oS 2 2 6,oS 2 3 8]) (.seq (.reg (some [(1,9),(3,9)]) [oF 9 0 2,oL 10 1 9,oF 11 0 3,oL 12 1 11,⟨some 13,.bin .neq .bool (.t 10) (.t 12),none⟩,oF 14 1 2,oL 15 1 14,oF 16 1 3,oL 17 1 16,oCC 18 f_setsquareref01_times 15 17,oCC 19 f_setsquareref01_signed 13 18,oS 2 4 19]) .ret)))⟩
def w_setsquareref01_DivMod (f_setsquareref01_Norm f_setsquareref01_divide f_setsquareref01_signed f_setsquareref01_Mul f_setsquareref01_Sub f_setsquareref01_Sign f_setsquareref01_FromInt f_setsquareref01_Add : Nat) : VFunc := ⟨55,[(.cell 4 true 2),(.cell 5 true 2),(.tmp 6)],(cS [oX 2 0,oX 3 1,⟨some 4,.box (.c (.agg [(.bool false),.nils])),none⟩,⟨some 5,.box (.c (.agg [(.bool false),.nils])),none⟩,oI 6 0] (.seq (.reg (some [(1,2)]) [oLA 11 2 2,oC 12 f_setsquareref01_Norm 11,oLA 13 2 3,oC 14 f_setsquareref01_Norm 13,oS 2 2 12,oS 2 3 14]) (.seq (cS [oF 15 1 3,oL 16 1 15,oN 17 16,oTc 18 .eql 17 0] (.cond (.t 18) (cS [⟨some 19,.build [(.bool false),.nils] [],none⟩,⟨some 20,.build [(.bool false),.nils] [],none⟩,oS 2 4 19,oS 2 5 20,oI 6 6] .ret) .skip)) (cS [oF 22 1 2,oL 23 1 22,oF 24 1 3,oL 25 1 24,oCC 26 f_setsquareref01_divide 23 25,oM 21 26,oE 27 21 0,oE 28 21 1,oM 7 27,oM 8 28] (cS [oF 29 0 2,oL 30 1 29,oF 31 0 3,oL 32 1 31,⟨some 33,.bin .neq .bool (.t 30) (.t 32),none⟩,oM 34 7,oCC 35 f_setsquareref01_signed 33 34,⟨some 9,.box (.c (.agg [(.bool false),.nils])),none⟩,oS 2 9 35] (.seq (.reg (some [(0,3),(0,5),(1,5),(2,5),(3,5),(4,5)]) [oLA 36 2 2,oLA 37 2 9,oLA 38 2 3,oCC 39 f_setsquareref01_Mul 37 38,oCC 40 f_setsquareref01_Sub 36 39,⟨some 10,.box (.c (.agg [(.bool false),.nils])),none⟩,oS 2 10 40]) (.seq (.seq (.reg (some [(1,2)]) [oLA 41 2 10,oC 42 f_setsquareref01_Sign 41,oLA 43 2 3,oC 44 f_setsquareref01_Sign 43,oT 45 .mul 42 44,oTc 46 .lss 45 0]) (.cond (.t 46) (.seq (.reg (some [(0,1)]) [oLA 47 2 9,⟨some 48,.call (.f f_setsquareref01_FromInt) [(.c (.int .i64 1))],none⟩,oCC 49 f_setsquareref01_Sub 47 48,oS 2 9 49]) (cR [oLA 50 2 10,oLA 51 2 3,oCC 52 f_setsquareref01_Add 50 51,oS 2 10 52])) .skip)) (.seq (.reg (some [(1,2)]) [oLA 53 2 9,oLA 54 2 10,oS 2 4 53,oS 2 5 54,oI 6 0]) .ret))))))))⟩
def w_setsquareref01_GCD (f_setsquareref01_trim f_setsquareref01_divide f_setsquareref01_signed : Nat) : VFunc := ⟨28,[(.cell 4 true 2)],(cS [oX 2 0,oX 3 1,⟨some 4,.box (.c (.agg [(.bool false),.nils])),none⟩] (.seq (.reg (some [(2,4)]) [oF 9 1 2,oL 10 1 9,oC 11 f_setsquareref01_trim 10,oF 12 1 3,oL 13 1 12,oC 14 f_setsquareref01_trim 13,oM 5 11,oM 6 14]) (.seq (.block 0 (.loop (.seq (cS [oM 15 6,oN 16 15,oTc 17 .gtr 16 0] (.cond (.t 17) .skip (.exit 0))) (.block 1 (cS [oM 19 5,oM 20 6,oCC 21 f_setsquareref01_divide 19 20,oM 18 21,oE 22 18 0,oE 23 18 1,oM 7 22,oM 8 23] (cR [oM 24 6,oM 25 8,oM 5 24,oM 6 25])))))) (cS [oM 26 5,⟨some 27,.call (.f f_setsquareref01_signed) [(.c (.bool false)),(.t 26)],none⟩,oS 2 4 27] .ret))))⟩
def w_setsquareref01_Format (f_setsquareref01_Norm f_setsquareref01_by : Nat) : VFunc := ⟨34,[(.tmp 2)],(cS [oX 1 0,⟨some 2,.mv (.c (.str [])),none⟩] (cS [oLA 7 2 1,oC 8 f_setsquareref01_Norm 7,oS 2 1 8] (cS [⟨some 3,.mv (.c (.str [])),none⟩] (cS [oF 9 1 1,oL 10 1 9,oM 4 10] (.seq (.block 0 (.loop (.seq (cS [oM 11 4,oN 12 11,oTc 13 .gtr 12 0] (.cond (.t 13) .skip (.exit 0))) (.block 1 (cS [oM 15 4,⟨some 16,.call (.f f_setsquareref01_by) [(.t 15),(.c (.int .u32 10))],none⟩,oM 14 16,oE 17 14 0,oE 18 14 1,oM 5 17,oM 6 18] (cS [oM 19 6,⟨some 20,.bin .add .int (.c (.int .u32 48)) (.t 19),none⟩,oK 21 .u8 20,⟨some 22,.buildSl 1 1 (.int .u8 0) [(0,(.t 21))],none⟩,⟨some 23,.bytesStr (.t 22),none⟩,oM 24 3,⟨some 25,.bin .add .str (.t 23) (.t 24),none⟩,oM 3 25] (cR [oM 26 5,oM 4 26]))))))) (.seq (cS [oM 27 3,⟨some 28,.bin .eql .str (.t 27) (.c (.str [])),none⟩] (.cond (.t 28) (cS [⟨some 2,.mv (.c (.str [48])),none⟩] .ret) .skip)) (.seq (cS [oF 29 0 1,oL 30 1 29] (.cond (.t 30) (cS [oM 31 3,⟨some 32,.bin .add .str (.c (.str [45])) (.t 31),none⟩,oM 2 32] .ret) .skip)) (cS [oM 33 3,oM 2 33] .ret))))))))⟩
def w_setsquareref01_Same (f_setsquareref01_compare : Nat) : VFunc := ⟨18,[(.tmp 4)],(cS [oX 2 0,oX 3 1,oB 4 false] (cS [oF 5 0 2,oL 6 1 5,oF 7 0 3,oL 8 1 7,⟨some 9,.bin .eql .bool (.t 6) (.t 8),none⟩,oM 10 9,gF 11 1 2 10 true,gL 12 1 11 10 true,gF 13 1 3 10 true,gL 14 1 13 10 true,⟨some 15,.call (.f f_setsquareref01_compare) [(.t 12),(.t 14)],some (10,true)⟩,⟨some 16,.bin .eql .int (.t 15) (.c (.int .i64 0)),some (10,true)⟩,oP0 17 10 16,oM 4 17] .ret))⟩
def w_setsquareref02_quo (f_setsquareref01_DivMod : Nat) : VFunc := ⟨16,[(.cell 4 true 2)],(cS [oX 2 0,oX 3 1,⟨some 4,.box (.c (.agg [(.bool false),.nils])),none⟩] (cS [oLA 9 2 2,oLA 10 2 3,oCC 11 f_setsquareref01_DivMod 9 10,oM 8 11,oE 12 8 0,oE 13 8 1,oE 14 8 2,⟨some 5,.box (.c (.agg [(.bool false),.nils])),none⟩,⟨some 6,.box (.c (.agg [(.bool false),.nils])),none⟩,oS 2 5 12,oS 2 6 13,oM 7 14] (cS [oLA 15 2 5,oS 2 4 15] .ret)))⟩
def w_setsquareref02_FromInt (f_setsquareref01_FromInt : Nat) : VFunc := ⟨7,[(.cell 2 true 4)],(cS [⟨some 2,.box (.c (.agg [(.bool false),.nils,(.bool false),.nils])),none⟩] (cS [oM 3 0,oC 4 f_setsquareref01_FromInt 3,⟨some 5,.call (.f f_setsquareref01_FromInt) [(.c (.int .i64 1))],none⟩,⟨some 6,.build [(.bool false),.nils,(.bool false),.nils] [(0,(2,(.t 4))),(2,(2,(.t 5)))],none⟩,oS 4 2 6] .ret))⟩
def w_setsquareref02_one : VFunc := ⟨19,[(.tmp 2)],(cS [oX 1 0,oB 2 false] (cS [oF 3 1 1,oL 4 1 3,oN 5 4,oTc 6 .eql 5 1,oM 7 6,gF 8 1 1 7 true,gL 9 1 8 7 true,⟨some 10,.iaddrS 1 (.t 9) (.c (.int .i64 0)),some (7,true)⟩,gL 11 1 10 7 true,⟨some 12,.bin .eql .int (.t 11) (.c (.int .u32 1)),some (7,true)⟩,oP0 13 7 12,oM 14 13,gF 15 0 1 14 true,gL 16 1 15 14 true,⟨some 17,.un .not (.t 16),some (14,true)⟩,oP0 18 14 17,oM 2 18] .ret))⟩
def w_setsquareref02_Valid (f_setsquareref01_Valid f_setsquareref01_Sign f_setsquareref01_GCD f_setsquareref02_one : Nat) : VFunc := ⟨25,[(.tmp 2)],(cS [oX 1 0,oB 2 false] (cS [oF 3 0 1,oLA 4 2 3,oC 5 f_setsquareref01_Valid 4,oM 6 5,gF 7 2 1 6 true,gLA 8 2 7 6 true,⟨some 9,.call (.f f_setsquareref01_Valid) [.t 8],some (6,true)⟩,oP0 10 6 9,oM 11 10,gF 12 2 1 11 true,gLA 13 2 12 11 true,⟨some 14,.call (.f f_setsquareref01_Sign) [.t 13],some (11,true)⟩,⟨some 15,.bin .gtr .int (.t 14) (.c (.int .i64 0)),some (11,true)⟩,oP0 16 11 15,oM 17 16,gF 18 0 1 17 true,gLA 19 2 18 17 true,gF 20 2 1 17 true,gLA 21 2 20 17 true,⟨some 22,.call (.f f_setsquareref01_GCD) [(.t 19),(.t 21)],some (17,true)⟩,⟨some 23,.call (.f f_setsquareref02_one) [.t 22],some (17,true)⟩,oP0 24 17 23,oM 2 24] .ret))⟩
def w_setsquareref02_Sign (f_setsquareref01_Sign : Nat) : VFunc := ⟨6,[(.tmp 2)],(cS [oX 1 0,oI 2 0] (cS [oF 3 0 1,oLA 4 2 3,oC 5 f_setsquareref01_Sign 4,oM 2 5] .ret))⟩
def w_setsquareref02_Mul (f_setsquareref02_FromInt f_setsquareref02_one f_setsquareref01_Mul f_setsquareref01_GCD f_setsquareref02_quo : Nat) : VFunc := ⟨65,[(.cell 4 true 4)],(cS [oX 2 0,oX 3 1,⟨some 4,.box (.c (.agg [(.bool false),.nils,(.bool false),.nils])),none⟩] (.seq (cS [oF 7 0 2,oF 8 1 7,oL 9 1 8,oN 10 9,oTc 11 .eql 10 0,oM 12 11,gF 13 0 3 12 false,gF 14 1 13 12 false,gL 15 1 14 12 false,gN 16 15 12 false,⟨some 17,.bin .eql .int (.t 16) (.c (.int .i64 0)),some (12,false)⟩,oP1 18 12 17] (.cond (.t 18) (cS [⟨some 19,.call (.f f_setsquareref02_FromInt) [(.c (.int .i64 0))],none⟩,oS 4 4 19] .ret) .skip)) (.seq (cS [oF 20 2 2,oLA 21 2 20,oC 22 f_setsquareref02_one 21,oM 23 22,gF 24 2 3 23 true,gLA 25 2 24 23 true,⟨some 26,.call (.f f_setsquareref02_one) [.t 25],some (23,true)⟩,oP0 27 23 26] (.cond (.t 27) (.seq (.reg (some [(4,6)]) [oF 28 0 2,oLA 29 2 28,oF 30 0 3,oLA 31 2 30,oCC 32 f_setsquareref01_Mul 29 31,oF 33 2 2,oLA 34 2 33,⟨some 35,.build [(.bool false),.nils,(.bool false),.nils] [(0,(2,(.t 32))),(2,(2,(.t 34)))],none⟩,oS 4 4 35]) .ret) .skip)) (.seq (.reg (some [(4,6),(4,8),(1,10),(3,10),(4,10),(6,10),(8,10),(9,10),(1,11),(3,11),(4,11),(6,11),(8,11),(9,11),(10,11)]) [oF 36 0 2,oLA 37 2 36,oF 38 2 3,oLA 39 2 38,oCC 40 f_setsquareref01_GCD 37 39,oF 41 0 3,oLA 42 2 41,oF 43 2 2,oLA 44 2 43,oCC 45 f_setsquareref01_GCD 42 44,⟨some 5,.box (.c (.agg [(.bool false),.nils])),none⟩,⟨some 6,.box (.c (.agg [(.bool false),.nils])),none⟩,oS 2 5 40,oS 2 6 45]) (.seq (.reg (some [(3,5),(3,6),(3,10),(7,10),(8,10),(3,11),(7,11),(8,11),(3,14),(7,14),(8,14),(12,14),(3,15),(7,15),(8,15),(12,15)]) [oF 46 0 2,oLA 47 2 46,oLA 48 2 5,oCC 49 f_setsquareref02_quo 47 48,oF 50 0 3,oLA 51 2 50,oLA 52 2 6,oCC 53 f_setsquareref02_quo 51 52,oCC 54 f_setsquareref01_Mul 49 53,oF 55 2 2,oLA 56 2 55,oLA 57 2 6,oCC 58 f_setsquareref02_quo 56 57,oF 59 2 3,oLA 60 2 59,oLA 61 2 5,oCC 62 f_setsquareref02_quo 60 61,oCC 63 f_setsquareref01_Mul 58 62,⟨some 64,.build [(.bool false),.nils,(.bool false),.nils] [(0,(2,(.t 54))),(2,(2,(.t 63)))],none⟩,oS 4 4 64]) .ret)))))⟩
end Go.VL
end

section
set_option maxRecDepth 100000
namespace Go.Proofs.YtcomlgfjnjpebaaGreatDoor
open Go.VL Go.Proofs
theorem has_lexer_isLetter : Has Tryz.prog 73 (w_lexer_isLetter) := ⟨_, Tryz.func73, by kernel_rfl⟩
theorem has_lexer_isDigit : Has Tryz.prog 103 (w_lexer_isDigit) := ⟨_, Tryz.func103, by kernel_rfl⟩
theorem has_lexer_isWord : Has Tryz.prog 75 (w_lexer_isWord 73 103) := ⟨_, Tryz.func75, by kernel_rfl⟩
theorem has_lexer_span : Has Tryz.prog 74 (w_lexer_span) := ⟨_, Tryz.func74, by kernel_rfl⟩
theorem has_lexer_IsName : Has Tryz.prog 50 (w_lexer_IsName 73 74 75) := ⟨_, Tryz.func50, by kernel_rfl⟩
theorem has_history_valid : Has Tryz.prog 29 (w_history_valid 50 51 52 54 55) := ⟨_, Tryz.func29, by kernel_rfl⟩
theorem has_slices_ContainsFunc_Lstring_string : Has Tryz.prog 51 (w_slices_ContainsFunc_Lstring_string 76) := ⟨_, Tryz.func51, by kernel_rfl⟩
theorem has_slices_IndexFunc_Lstring_string : Has Tryz.prog 76 (w_slices_IndexFunc_Lstring_string) := ⟨_, Tryz.func76, by kernel_rfl⟩
theorem has_slices_ContainsFunc_Lapi_Expr_api_Expr : Has Tryz.prog 54 (w_slices_ContainsFunc_Lapi_Expr_api_Expr 77) := ⟨_, Tryz.func54, by kernel_rfl⟩
theorem has_slices_IndexFunc_Lapi_Expr_api_Expr : Has Tryz.prog 77 (w_slices_IndexFunc_Lapi_Expr_api_Expr) := ⟨_, Tryz.func77, by kernel_rfl⟩
theorem has_history_Needs : Has Tryz.prog 11 (w_history_Needs 29 30 31 32) := ⟨_, Tryz.func11, by kernel_rfl⟩
theorem has_integer_trim : Has Tryz.prog 145 (w_integer_trim) := ⟨_, Tryz.func145, by kernel_rfl⟩
theorem has_integer_signed : Has Tryz.prog 141 (w_integer_signed 145) := ⟨_, Tryz.func141, by kernel_rfl⟩
theorem has_integer_fromUint : Has Tryz.prog 142 (w_integer_fromUint 145) := ⟨_, Tryz.func142, by kernel_rfl⟩
theorem has_integer_compare : Has Tryz.prog 144 (w_integer_compare 143 167) := ⟨_, Tryz.func144, by kernel_rfl⟩
theorem has_integer_plus : Has Tryz.prog 207 (w_integer_plus) := ⟨_, Tryz.func207, by kernel_rfl⟩
theorem has_integer_minus : Has Tryz.prog 208 (w_integer_minus 145) := ⟨_, Tryz.func208, by kernel_rfl⟩
theorem has_integer_times : Has Tryz.prog 168 (w_integer_times 145) := ⟨_, Tryz.func168, by kernel_rfl⟩
theorem has_integer_shiftLeft : Has Tryz.prog 191 (w_integer_shiftLeft) := ⟨_, Tryz.func191, by kernel_rfl⟩
theorem has_integer_shiftRight : Has Tryz.prog 194 (w_integer_shiftRight) := ⟨_, Tryz.func194, by kernel_rfl⟩
theorem has_integer_divideWord : Has Tryz.prog 189 (w_integer_divideWord 145 142) := ⟨_, Tryz.func189, by kernel_rfl⟩
theorem has_integer_divide : Has Tryz.prog 164 (w_integer_divide 144 95 165 142 189 190 191 145 192 193 194) := ⟨_, Tryz.func164, by kernel_rfl⟩
theorem has_integer_subtract : Has Tryz.prog 192 (w_integer_subtract) := ⟨_, Tryz.func192, by kernel_rfl⟩
theorem has_integer_restore : Has Tryz.prog 193 (w_integer_restore) := ⟨_, Tryz.func193, by kernel_rfl⟩
theorem has_integer_Valid : Has Tryz.prog 136 (w_integer_Valid) := ⟨_, Tryz.func136, by kernel_rfl⟩
theorem has_integer_Sign : Has Tryz.prog 137 (w_integer_Sign 145) := ⟨_, Tryz.func137, by kernel_rfl⟩
theorem has_integer_Cmp : Has Tryz.prog 127 (w_integer_Cmp 137 143 145 144) := ⟨_, Tryz.func127, by kernel_rfl⟩
theorem has_integer_Neg : Has Tryz.prog 169 (w_integer_Neg 145 95 141) := ⟨_, Tryz.func169, by kernel_rfl⟩
theorem has_integer_Mul : Has Tryz.prog 146 (w_integer_Mul 145 168 141) := ⟨_, Tryz.func146, by kernel_rfl⟩
theorem has_integer_DivMod : Has Tryz.prog 196 (w_integer_DivMod 145 164 207 208 141) := ⟨_, Tryz.func196, by kernel_rfl⟩
theorem has_integer_GCD : Has Tryz.prog 139 (w_integer_GCD 145 164 95 141 165 142) := ⟨_, Tryz.func139, by kernel_rfl⟩
theorem has_integer_FromInt : Has Tryz.prog 126 (w_integer_FromInt 142 141) := ⟨_, Tryz.func126, by kernel_rfl⟩
theorem has_rational_one : Has Tryz.prog 140 (w_rational_one 126) := ⟨_, Tryz.func140, by kernel_rfl⟩
theorem has_rational_isOne : Has Tryz.prog 138 (w_rational_isOne) := ⟨_, Tryz.func138, by kernel_rfl⟩
theorem has_rational_quo : Has Tryz.prog 170 (w_rational_quo 138 196) := ⟨_, Tryz.func170, by kernel_rfl⟩
theorem has_rational_lowest : Has Tryz.prog 147 (w_rational_lowest 139 169 170) := ⟨_, Tryz.func147, by kernel_rfl⟩
theorem has_rational_Valid : Has Tryz.prog 123 (w_rational_Valid 136 137 139 138) := ⟨_, Tryz.func123, by kernel_rfl⟩
theorem has_rational_Sign : Has Tryz.prog 124 (w_rational_Sign 137) := ⟨_, Tryz.func124, by kernel_rfl⟩
theorem has_rational_FromInt : Has Tryz.prog 125 (w_rational_FromInt 126 140) := ⟨_, Tryz.func125, by kernel_rfl⟩
theorem has_rational_Mul : Has Tryz.prog 128 (w_rational_Mul 138 146 140 147) := ⟨_, Tryz.func128, by kernel_rfl⟩
theorem has_math_bits_Len32 : Has Tryz.prog 90 (w_math_bits_Len32) := ⟨_, Tryz.func90, by kernel_rfl⟩
theorem has_math_bits_LeadingZeros32 : Has Tryz.prog 190 (w_math_bits_LeadingZeros32 90) := ⟨_, Tryz.func190, by kernel_rfl⟩
theorem has_cmp_isNaN_int : Has Tryz.prog 166 (w_cmp_isNaN_int) := ⟨_, Tryz.func166, by kernel_rfl⟩
theorem has_cmp_isNaN_uint32 : Has Tryz.prog 195 (w_cmp_isNaN_uint32) := ⟨_, Tryz.func195, by kernel_rfl⟩
theorem has_cmp_Compare_int : Has Tryz.prog 143 (w_cmp_Compare_int 166) := ⟨_, Tryz.func143, by kernel_rfl⟩
theorem has_cmp_Compare_uint32 : Has Tryz.prog 167 (w_cmp_Compare_uint32 195) := ⟨_, Tryz.func167, by kernel_rfl⟩
theorem has_slices_Clone_Luint32_uint32 : Has Tryz.prog 95 (w_slices_Clone_Luint32_uint32) := ⟨_, Tryz.func95, by kernel_rfl⟩
theorem has_setsquareref01_trim : Has Tryz.prog 203 (w_setsquareref01_trim) := ⟨_, Tryz.func203, by kernel_rfl⟩
theorem has_setsquareref01_signed : Has Tryz.prog 182 (w_setsquareref01_signed 203) := ⟨_, Tryz.func182, by kernel_rfl⟩
theorem has_setsquareref01_Norm : Has Tryz.prog 185 (w_setsquareref01_Norm 182) := ⟨_, Tryz.func185, by kernel_rfl⟩
theorem has_setsquareref01_Valid : Has Tryz.prog 178 (w_setsquareref01_Valid 203) := ⟨_, Tryz.func178, by kernel_rfl⟩
theorem has_setsquareref01_words : Has Tryz.prog 183 (w_setsquareref01_words 203) := ⟨_, Tryz.func183, by kernel_rfl⟩
theorem has_setsquareref01_FromInt : Has Tryz.prog 160 (w_setsquareref01_FromInt 183 182) := ⟨_, Tryz.func160, by kernel_rfl⟩
theorem has_setsquareref01_short : Has Tryz.prog 213 (w_setsquareref01_short) := ⟨_, Tryz.func213, by kernel_rfl⟩
theorem has_setsquareref01_compare : Has Tryz.prog 184 (w_setsquareref01_compare) := ⟨_, Tryz.func184, by kernel_rfl⟩
theorem has_setsquareref01_plus : Has Tryz.prog 224 (w_setsquareref01_plus 203) := ⟨_, Tryz.func224, by kernel_rfl⟩
theorem has_setsquareref01_minus : Has Tryz.prog 217 (w_setsquareref01_minus 203) := ⟨_, Tryz.func217, by kernel_rfl⟩
theorem has_setsquareref01_times : Has Tryz.prog 205 (w_setsquareref01_times 203) := ⟨_, Tryz.func205, by kernel_rfl⟩
theorem has_setsquareref01_by : Has Tryz.prog 186 (w_setsquareref01_by 203) := ⟨_, Tryz.func186, by kernel_rfl⟩
theorem has_setsquareref01_length : Has Tryz.prog 214 (w_setsquareref01_length) := ⟨_, Tryz.func214, by kernel_rfl⟩
theorem has_setsquareref01_shifted : Has Tryz.prog 215 (w_setsquareref01_shifted) := ⟨_, Tryz.func215, by kernel_rfl⟩
theorem has_setsquareref01_back : Has Tryz.prog 218 (w_setsquareref01_back 203) := ⟨_, Tryz.func218, by kernel_rfl⟩
theorem has_setsquareref01_digit : Has Tryz.prog 216 (w_setsquareref01_digit 205 203 184 217) := ⟨_, Tryz.func216, by kernel_rfl⟩
theorem has_setsquareref01_divide : Has Tryz.prog 204 (w_setsquareref01_divide 184 213 183 186 214 215 203 216 217 218) := ⟨_, Tryz.func204, by kernel_rfl⟩
theorem has_setsquareref01_Sign : Has Tryz.prog 179 (w_setsquareref01_Sign 185) := ⟨_, Tryz.func179, by kernel_rfl⟩
theorem has_setsquareref01_Neg : Has Tryz.prog 223 (w_setsquareref01_Neg 182) := ⟨_, Tryz.func223, by kernel_rfl⟩
theorem has_setsquareref01_Add : Has Tryz.prog 220 (w_setsquareref01_Add 185 224 182 184 217) := ⟨_, Tryz.func220, by kernel_rfl⟩
theorem has_setsquareref01_Sub : Has Tryz.prog 219 (w_setsquareref01_Sub 223 220) := ⟨_, Tryz.func219, by kernel_rfl⟩
theorem has_setsquareref01_Mul : Has Tryz.prog 187 (w_setsquareref01_Mul 185 205 182) := ⟨_, Tryz.func187, by kernel_rfl⟩
theorem has_setsquareref01_DivMod : Has Tryz.prog 206 (w_setsquareref01_DivMod 185 204 182 187 219 179 160 220) := ⟨_, Tryz.func206, by kernel_rfl⟩
theorem has_setsquareref01_GCD : Has Tryz.prog 181 (w_setsquareref01_GCD 203 204 182) := ⟨_, Tryz.func181, by kernel_rfl⟩
theorem has_setsquareref01_Format : Has Tryz.prog 162 (w_setsquareref01_Format 185 186) := ⟨_, Tryz.func162, by kernel_rfl⟩
theorem has_setsquareref01_Same : Has Tryz.prog 161 (w_setsquareref01_Same 184) := ⟨_, Tryz.func161, by kernel_rfl⟩
theorem has_setsquareref02_quo : Has Tryz.prog 188 (w_setsquareref02_quo 206) := ⟨_, Tryz.func188, by kernel_rfl⟩
theorem has_setsquareref02_FromInt : Has Tryz.prog 159 (w_setsquareref02_FromInt 160) := ⟨_, Tryz.func159, by kernel_rfl⟩
theorem has_setsquareref02_one : Has Tryz.prog 180 (w_setsquareref02_one) := ⟨_, Tryz.func180, by kernel_rfl⟩
theorem has_setsquareref02_Valid : Has Tryz.prog 157 (w_setsquareref02_Valid 178 179 181 180) := ⟨_, Tryz.func157, by kernel_rfl⟩
theorem has_setsquareref02_Sign : Has Tryz.prog 158 (w_setsquareref02_Sign 179) := ⟨_, Tryz.func158, by kernel_rfl⟩
theorem has_setsquareref02_Mul : Has Tryz.prog 163 (w_setsquareref02_Mul 159 180 187 181 188) := ⟨_, Tryz.func163, by kernel_rfl⟩
theorem has_formula_decimal : Has Tryz.prog 104 (w_formula_decimal 123 124 125 126 127 128 129 130) := ⟨_, Tryz.func104, by kernel_rfl⟩
theorem has_formula_none : Has Tryz.prog 105 (w_formula_none) := ⟨_, Tryz.func105, by kernel_rfl⟩
theorem has_formula_formed : Has Tryz.prog 78 (w_formula_formed 104 50 105 54 106 0) := ⟨_, Tryz.func78, by kernel_rfl⟩
theorem has_formula_formed_1 : Has Tryz.prog 106 (w_formula_formed_1 78) := ⟨_, Tryz.func106, by kernel_rfl⟩
theorem has_formula_Depth : Has Tryz.prog 79 (w_formula_Depth 79) := ⟨_, Tryz.func79, by kernel_rfl⟩
theorem has_formula_Valid : Has Tryz.prog 56 (w_formula_Valid 78 79) := ⟨_, Tryz.func56, by kernel_rfl⟩
theorem has_setsquareref22_Decimal : Has Tryz.prog 134 (w_setsquareref22_Decimal 157 158 159 160 161 162 163) := ⟨_, Tryz.func134, by kernel_rfl⟩
theorem has_setsquareref22_shape : Has Tryz.prog 119 (w_setsquareref22_shape 134 60) := ⟨_, Tryz.func119, by kernel_rfl⟩
theorem has_setsquareref22_Formed : Has Tryz.prog 93 (w_setsquareref22_Formed 119 93) := ⟨_, Tryz.func93, by kernel_rfl⟩
theorem has_setsquareref22_Depth : Has Tryz.prog 94 (w_setsquareref22_Depth 94) := ⟨_, Tryz.func94, by kernel_rfl⟩
theorem has_setsquareref22_Valid : Has Tryz.prog 61 (w_setsquareref22_Valid 93 94) := ⟨_, Tryz.func61, by kernel_rfl⟩
theorem has_setsquareref22_Nodes : Has Tryz.prog 48 (w_setsquareref22_Nodes 48) := ⟨_, Tryz.func48, by kernel_rfl⟩
theorem has_setsquareref22_light : Has Tryz.prog 49 (w_setsquareref22_light 49) := ⟨_, Tryz.func49, by kernel_rfl⟩
theorem has_setsquareref22_Small : Has Tryz.prog 28 (w_setsquareref22_Small 48 49) := ⟨_, Tryz.func28, by kernel_rfl⟩
theorem has_setsquareref21_IsName : Has Tryz.prog 60 (w_setsquareref21_IsName 92) := ⟨_, Tryz.func60, by kernel_rfl⟩
theorem has_setsquareref21_word : Has Tryz.prog 92 (w_setsquareref21_word 117 118) := ⟨_, Tryz.func92, by kernel_rfl⟩
theorem has_setsquareref21_letter : Has Tryz.prog 117 (w_setsquareref21_letter) := ⟨_, Tryz.func117, by kernel_rfl⟩
theorem has_setsquareref21_digit : Has Tryz.prog 118 (w_setsquareref21_digit) := ⟨_, Tryz.func118, by kernel_rfl⟩
theorem has_setsquareref53_feature : Has Tryz.prog 34 (w_setsquareref53_feature 60) := ⟨_, Tryz.func34, by kernel_rfl⟩
theorem has_setsquareref53_has : Has Tryz.prog 35 (w_setsquareref53_has) := ⟨_, Tryz.func35, by kernel_rfl⟩
theorem has_setsquareref53_Valid : Has Tryz.prog 33 (w_setsquareref53_Valid 60 61 34) := ⟨_, Tryz.func33, by kernel_rfl⟩
theorem has_setsquareref53_Needs : Has Tryz.prog 12 (w_setsquareref53_Needs 33 34 35) := ⟨_, Tryz.func12, by kernel_rfl⟩
theorem has_setsquareref53_Small : Has Tryz.prog 10 (w_setsquareref53_Small 28) := ⟨_, Tryz.func10, by kernel_rfl⟩
theorem has_history_validInput : Has Tryz.prog 53 (w_history_validInput 30 50) := ⟨_, Tryz.func53, by kernel_rfl⟩
theorem has_history_valid_1 : Has Tryz.prog 52 (w_history_valid_1 53) := ⟨_, Tryz.func52, by kernel_rfl⟩
theorem has_history_valid_2 : Has Tryz.prog 55 (w_history_valid_2 56) := ⟨_, Tryz.func55, by kernel_rfl⟩
theorem has_setsquarelaw53_HistoryNeeds : Has Tryz.prog 3 (w_setsquarelaw53_HistoryNeeds 9 10 11 12) := ⟨_, Tryz.func3, by kernel_rfl⟩
end Go.Proofs.YtcomlgfjnjpebaaGreatDoor
end

section
namespace Go.Proofs
open Go.Shelf
def Tryz.lays169_ren : Go.Shelf.Ren := ⟨fun | 169 => 152 | n => n, fun | 70 => 162 | 9 => 9 | 0 => 0 | 72 => 164 | 37 => 31 | 127 => 187 | 3 => 3 | 5 => 5 | n => n, fun | n => n⟩
theorem Tryz.lays169 : Go.Proofs.Lays.n169 Tryz.prog Tryz.lays169_ren := {
  mixed := by kernel_rfl
  f169 := Tryz.func152.trans (congrArg some (by kernel_rfl))
  t0 := Tryz.underlying0
  a0 := Tryz.isAgg0
  z0 := Tryz.sizeOf0
  v0 := Tryz.zeroValue0
  t3 := Tryz.underlying3
  a3 := Tryz.isAgg3
  z3 := Tryz.sizeOf3
  v3 := Tryz.zeroValue3
  t9 := Tryz.underlying9
  a9 := Tryz.isAgg9
  z9 := Tryz.sizeOf9
  v9 := Tryz.zeroValue9
  t37 := Tryz.underlying31
  a37 := Tryz.isAgg31
  z37 := Tryz.sizeOf31
  v37 := Tryz.zeroValue31
  t70 := Tryz.underlying162
  a70 := Tryz.isAgg162
  z70 := Tryz.sizeOf162
  v70 := Tryz.zeroValue162
  t72 := Tryz.underlying164
  a72 := Tryz.isAgg164
  z72 := Tryz.sizeOf164
  v72 := Tryz.zeroValue164
  t127 := Tryz.underlying187
  a127 := Tryz.isAgg187
  z127 := Tryz.sizeOf187
  v127 := Tryz.zeroValue187 }
theorem Tryz.Builder_Extra_169 : Builder.Extra Tryz.prog Tryz.lays169_ren := {
  sizeBuilder := by kernel_rfl
  liesBuilder := by kernel_rfl
  t5 := Tryz.underlying5
  a5 := Tryz.isAgg5
  z5 := Tryz.sizeOf5
  v5 := Tryz.zeroValue5
  infoByte := by kernel_rfl
  cellsByte := by kernel_rfl
  sizeByte := by kernel_rfl
  neB5 := by decide }
open Go.RowKit in
theorem Tryz.Builder_String_any_k (B b : Nat) (l : List UInt8) (w : World) (h : Lib.IsBuilderF 164 5 B b (Lib.byteCells l) w) (hBw : B ≤ w.heap.size) :
    Calls Tryz.prog 152 #[.pointer (some ⟨b, 0, none⟩)] w fun e w' => e = .returned (.string ⟨l.toArray⟩) ∧ (Lib.IsBuilderF 164 5 B b (Lib.byteCells l) w' ∧ Below B w w' ∧ Lib.OthersKept 5 (some b) w w') := Any.Builder_String_any_k Tryz.lays169 Tryz.Builder_Extra_169 B b l w h hBw
def Tryz.lays129_ren : Go.Shelf.Ren := ⟨fun | 129 => 91 | n => n, fun | 53 => 118 | 3 => 3 | 4 => 4 | 46 => 92 | 5 => 5 | 9 => 9 | n => n, fun | n => n⟩
theorem Tryz.lays129 : Go.Proofs.Lays.n129 Tryz.prog Tryz.lays129_ren := {
  mixed := by kernel_rfl
  f129 := Tryz.func91.trans (congrArg some (by kernel_rfl))
  t3 := Tryz.underlying3
  a3 := Tryz.isAgg3
  z3 := Tryz.sizeOf3
  v3 := Tryz.zeroValue3
  t4 := Tryz.underlying4
  a4 := Tryz.isAgg4
  z4 := Tryz.sizeOf4
  v4 := Tryz.zeroValue4
  t5 := Tryz.underlying5
  a5 := Tryz.isAgg5
  z5 := Tryz.sizeOf5
  v5 := Tryz.zeroValue5
  t9 := Tryz.underlying9
  a9 := Tryz.isAgg9
  z9 := Tryz.sizeOf9
  v9 := Tryz.zeroValue9
  t46 := Tryz.underlying92
  a46 := Tryz.isAgg92
  z46 := Tryz.sizeOf92
  v46 := Tryz.zeroValue92
  t53 := Tryz.underlying118
  a53 := Tryz.isAgg118
  z53 := Tryz.sizeOf118
  v53 := Tryz.zeroValue118 }
theorem Tryz.bits_Len64 (x : Int) (w : World) (h0 : 0 ≤ x) (h1 : x ≤ 18446744073709551615) :
    Calls Tryz.prog 91 #[.int .u64 x] w fun e w' => e = .returned (.int .i64 (Lib.bitLen x.toNat)) ∧ w' = w := Any.bits_Len64 Tryz.lays129 x w h0 h1
def Tryz.lays317_ren : Go.Shelf.Ren := ⟨fun | 317 => 209 | n => n, fun | 3 => 3 | 46 => 92 | n => n, fun | n => n⟩
theorem Tryz.lays317 : Go.Proofs.Lays.n317 Tryz.prog Tryz.lays317_ren := {
  mixed := by kernel_rfl
  f317 := Tryz.func209.trans (congrArg some (by kernel_rfl))
  t3 := Tryz.underlying3
  a3 := Tryz.isAgg3
  z3 := Tryz.sizeOf3
  v3 := Tryz.zeroValue3
  t46 := Tryz.underlying92
  a46 := Tryz.isAgg92
  z46 := Tryz.sizeOf92
  v46 := Tryz.zeroValue92 }
open Go.Lib in
theorem Tryz.internal_strconv_log10Pow2 (x : Nat) (h : x ≤ 64) (w : World) :
    Calls Tryz.prog 209 #[.int .i64 x] w fun e w' => e = .returned (.int .i64 (Lib.l10 x)) ∧ w' = w := Any.internal_strconv_log10Pow2 Tryz.lays317 x h w
def Tryz.lays318_ren : Go.Shelf.Ren := ⟨fun | 318 => 210 | n => n, fun | 3 => 3 | 4 => 4 | n => n, fun | n => n⟩
theorem Tryz.lays318 : Go.Proofs.Lays.n318 Tryz.prog Tryz.lays318_ren := {
  mixed := by kernel_rfl
  f318 := Tryz.func210.trans (congrArg some (by kernel_rfl))
  t3 := Tryz.underlying3
  a3 := Tryz.isAgg3
  z3 := Tryz.sizeOf3
  v3 := Tryz.zeroValue3
  t4 := Tryz.underlying4
  a4 := Tryz.isAgg4
  z4 := Tryz.sizeOf4
  v4 := Tryz.zeroValue4 }
open Go.Lib in
theorem Tryz.internal_strconv_bool2_int (b : Bool) (w : World) :
    Calls Tryz.prog 210 #[.bool b] w fun e w' => e = .returned (.int .i64 (if b then 1 else 0)) ∧ w' = w := Any.internal_strconv_bool2_int Tryz.lays318 b w
def Tryz.lays283_ren : Go.Shelf.Ren := ⟨fun | 283 => 198 | n => n, fun | 3 => 3 | 9 => 9 | 4 => 4 | n => n, fun | n => n⟩
theorem Tryz.lays283 : Go.Proofs.Lays.n283 Tryz.prog Tryz.lays283_ren := {
  mixed := by kernel_rfl
  f283 := Tryz.func198.trans (congrArg some (by kernel_rfl))
  t3 := Tryz.underlying3
  a3 := Tryz.isAgg3
  z3 := Tryz.sizeOf3
  v3 := Tryz.zeroValue3
  t4 := Tryz.underlying4
  a4 := Tryz.isAgg4
  z4 := Tryz.sizeOf4
  v4 := Tryz.zeroValue4
  t9 := Tryz.underlying9
  a9 := Tryz.isAgg9
  z9 := Tryz.sizeOf9
  v9 := Tryz.zeroValue9 }
open Go.Lib in
theorem Tryz.internal_strconv_small (i : Nat) (h : i < 100) (w : World) :
    Calls Tryz.prog 198 #[.int .i64 i] w fun e w' => e = .returned (.string ⟨(Lib.decDigits i).toArray⟩) ∧ w' = w := Any.internal_strconv_small Tryz.lays283 i h w
def Tryz.lays285_ren : Go.Shelf.Ren := ⟨fun | 285 => 200 | n => n, fun | 37 => 31 | 53 => 118 | 3 => 3 | 4 => 4 | 51 => 116 | 9 => 9 | 5 => 5 | 0 => 0 | n => n, fun | n => n⟩
theorem Tryz.lays285 : Go.Proofs.Lays.n285 Tryz.prog Tryz.lays285_ren := {
  mixed := by kernel_rfl
  f285 := Tryz.func200.trans (congrArg some (by kernel_rfl))
  t0 := Tryz.underlying0
  a0 := Tryz.isAgg0
  z0 := Tryz.sizeOf0
  v0 := Tryz.zeroValue0
  t3 := Tryz.underlying3
  a3 := Tryz.isAgg3
  z3 := Tryz.sizeOf3
  v3 := Tryz.zeroValue3
  t4 := Tryz.underlying4
  a4 := Tryz.isAgg4
  z4 := Tryz.sizeOf4
  v4 := Tryz.zeroValue4
  t5 := Tryz.underlying5
  a5 := Tryz.isAgg5
  z5 := Tryz.sizeOf5
  v5 := Tryz.zeroValue5
  t9 := Tryz.underlying9
  a9 := Tryz.isAgg9
  z9 := Tryz.sizeOf9
  v9 := Tryz.zeroValue9
  t37 := Tryz.underlying31
  a37 := Tryz.isAgg31
  z37 := Tryz.sizeOf31
  v37 := Tryz.zeroValue31
  t51 := Tryz.underlying116
  a51 := Tryz.isAgg116
  z51 := Tryz.sizeOf116
  v51 := Tryz.zeroValue116
  t53 := Tryz.underlying118
  a53 := Tryz.isAgg118
  z53 := Tryz.sizeOf118
  v53 := Tryz.zeroValue118 }
open Go.RowKit Go.Sort Go.Lib in
theorem Tryz.internal_strconv_formatBase10 (blk off cap : Nat) (u : Nat) (d : Array UInt8) (w : World) (hH : Holds (fun (b : UInt8) => Value.int .u8 (b.toNat : Int)) w blk off d) (hu : u < 10 ^ d.size) (hu64 : u < 18446744073709551616) (hsz : d.size < 4611686018427387904) :
    Calls Tryz.prog 200 #[.slice (some ⟨blk, off, none⟩) d.size cap, .int .u64 u] w fun e w' =>
      e = .returned (.tuple #[]) ∧ ∃ (n v' : Nat) (dk : Array UInt8), w' = (putRow (fun (b : UInt8) => Value.int .u8 (b.toNat : Int)) w blk off dk).drewN n ∧ FmtInv d.size u 0 v' dk := Any.internal_strconv_formatBase10 Tryz.lays285 blk off cap u d w hH hu hu64 hsz
def Tryz.lays145_ren : Go.Shelf.Ren := ⟨fun | 145 => 30 | 220 => 57 | 219 => 80 | 217 => 107 | 225 => 108 | 224 => 109 | 267 => 110 | 266 => 131 | 314 => 132 | n => n, fun | 9 => 9 | 4 => 4 | 59 => 64 | 3 => 3 | 5 => 5 | 46 => 92 | 146 => 147 | 51 => 116 | n => n, fun | 1 => 1 | n => n⟩
theorem Tryz.lays145 : Go.Proofs.Lays.n145 Tryz.prog Tryz.lays145_ren := {
  mixed := by kernel_rfl
  f145 := Tryz.func30.trans (congrArg some (by kernel_rfl))
  f217 := Tryz.func107.trans (congrArg some (by kernel_rfl))
  f219 := Tryz.func80.trans (congrArg some (by kernel_rfl))
  f220 := Tryz.func57.trans (congrArg some (by kernel_rfl))
  f224 := Tryz.func109.trans (congrArg some (by kernel_rfl))
  f225 := Tryz.func108.trans (congrArg some (by kernel_rfl))
  f266 := Tryz.func131.trans (congrArg some (by kernel_rfl))
  f267 := Tryz.func110.trans (congrArg some (by kernel_rfl))
  f314 := Tryz.func132.trans (congrArg some (by kernel_rfl))
  t3 := Tryz.underlying3
  a3 := Tryz.isAgg3
  z3 := Tryz.sizeOf3
  v3 := Tryz.zeroValue3
  t4 := Tryz.underlying4
  a4 := Tryz.isAgg4
  z4 := Tryz.sizeOf4
  v4 := Tryz.zeroValue4
  t5 := Tryz.underlying5
  a5 := Tryz.isAgg5
  z5 := Tryz.sizeOf5
  v5 := Tryz.zeroValue5
  t9 := Tryz.underlying9
  a9 := Tryz.isAgg9
  z9 := Tryz.sizeOf9
  v9 := Tryz.zeroValue9
  t46 := Tryz.underlying92
  a46 := Tryz.isAgg92
  z46 := Tryz.sizeOf92
  v46 := Tryz.zeroValue92
  t51 := Tryz.underlying116
  a51 := Tryz.isAgg116
  z51 := Tryz.sizeOf116
  v51 := Tryz.zeroValue116
  t59 := Tryz.underlying64
  a59 := Tryz.isAgg64
  z59 := Tryz.sizeOf64
  v59 := Tryz.zeroValue64
  t146 := Tryz.underlying147
  a146 := Tryz.isAgg147
  z146 := Tryz.sizeOf147
  v146 := Tryz.zeroValue147
  g1 := by kernel_rfl }
open Go.RowKit Go.Lib in
theorem Tryz.strings_Cut (s sep : ByteArray) (m : Int) (w : World) (hs : s.size < 4294967281) (hm : w.cell? ⟨1, 0, none⟩ = some (.int .i64 m)) :
    Calls Tryz.prog 30 #[.string s, .string sep] w fun e w' => e = .returned (.tuple #[.string ⟨(Lib.cut s.data.toList sep.data.toList).1.toArray⟩, .string ⟨(Lib.cut s.data.toList sep.data.toList).2.1.toArray⟩, .bool (Lib.cut s.data.toList sep.data.toList).2.2]) ∧ ∃ n, w' = w.drewN n := Any.strings_Cut Tryz.lays145 s sep m w hs hm
def Tryz.laysM145_ren : Go.Shelf.Ren := ⟨fun | 145 => 30 | 220 => 57 | 219 => 80 | 217 => 107 | 225 => 108 | 224 => 109 | 267 => 110 | 266 => 131 | 314 => 132 | n => n, fun | 9 => 9 | 4 => 4 | 59 => 64 | 3 => 3 | 5 => 5 | 46 => 92 | 146 => 147 | 51 => 116 | n => n, fun | 1 => 1 | n => n⟩
theorem Tryz.laysM145 : Go.Proofs.LaysM.n145 Tryz.prog Tryz.laysM145_ren := {
  mixed := by kernel_rfl
  f145 := Tryz.func30.trans (congrArg some (by kernel_rfl))
  f217 := Tryz.func107.trans (congrArg some (by kernel_rfl))
  f219 := Tryz.func80.trans (congrArg some (by kernel_rfl))
  f220 := Tryz.func57.trans (congrArg some (by kernel_rfl))
  f224 := Tryz.func109.trans (congrArg some (by kernel_rfl))
  f225 := Tryz.func108.trans (congrArg some (by kernel_rfl))
  f266 := Tryz.func131.trans (congrArg some (by kernel_rfl))
  f267 := Tryz.func110.trans (congrArg some (by kernel_rfl))
  f314 := Tryz.func132.trans (congrArg some (by kernel_rfl))
  t3 := Tryz.underlying3
  a3 := Tryz.isAgg3
  z3 := Tryz.sizeOf3
  v3 := Tryz.zeroValue3
  t4 := Tryz.underlying4
  a4 := Tryz.isAgg4
  z4 := Tryz.sizeOf4
  v4 := Tryz.zeroValue4
  t5 := Tryz.underlying5
  a5 := Tryz.isAgg5
  z5 := Tryz.sizeOf5
  v5 := Tryz.zeroValue5
  t9 := Tryz.underlying9
  a9 := Tryz.isAgg9
  z9 := Tryz.sizeOf9
  v9 := Tryz.zeroValue9
  t46 := Tryz.underlying92
  a46 := Tryz.isAgg92
  z46 := Tryz.sizeOf92
  v46 := Tryz.zeroValue92
  t51 := Tryz.underlying116
  a51 := Tryz.isAgg116
  z51 := Tryz.sizeOf116
  v51 := Tryz.zeroValue116
  t59 := Tryz.underlying64
  a59 := Tryz.isAgg64
  z59 := Tryz.sizeOf64
  v59 := Tryz.zeroValue64
  t146 := Tryz.underlying147
  a146 := Tryz.isAgg147
  z146 := Tryz.sizeOf147
  v146 := Tryz.zeroValue147
  g1 := by kernel_rfl
  i3 := by kernel_rfl
  i4 := by kernel_rfl
  i5 := by kernel_rfl
  i9 := by kernel_rfl
  i46 := by kernel_rfl
  i51 := by kernel_rfl
  i59 := by kernel_rfl
  i146 := by kernel_rfl
  m1 := by kernel_rfl
  s1_3 := fun w h => Go.Proofs.cell_of_shapedOpen_int (zero := #[.int .i64 0]) (t := 3) h (of_decide_eq_true (by kernel_rfl)) (by kernel_rfl) rfl (by kernel_rfl) (by kernel_rfl) Tryz.underlying3 }
def Tryz.lays190_ren : Go.Shelf.Ren := ⟨fun | 190 => 31 | 125 => 59 | 258 => 58 | 128 => 90 | 129 => 91 | 302 => 81 | 303 => 82 | 304 => 83 | 305 => 84 | 306 => 85 | 307 => 86 | 308 => 87 | 309 => 88 | 310 => 89 | 333 => 111 | 329 => 112 | 330 => 113 | 334 => 114 | 335 => 115 | 336 => 116 | 344 => 133 | n => n, fun | 31 => 22 | 9 => 9 | 3 => 3 | 46 => 92 | 0 => 0 | 51 => 116 | 53 => 118 | 4 => 4 | 183 => 108 | 182 => 107 | 131 => 113 | 5 => 5 | 218 => 132 | 222 => 136 | 228 => 149 | 229 => 150 | n => n, fun | n => n⟩
theorem Tryz.lays190 : Go.Proofs.Lays.n190 Tryz.prog Tryz.lays190_ren := {
  mixed := by kernel_rfl
  f125 := Tryz.func59.trans (congrArg some (by kernel_rfl))
  f128 := Tryz.func90.trans (congrArg some (by kernel_rfl))
  f129 := Tryz.func91.trans (congrArg some (by kernel_rfl))
  f190 := Tryz.func31.trans (congrArg some (by kernel_rfl))
  f258 := Tryz.func58.trans (congrArg some (by kernel_rfl))
  f302 := Tryz.func81.trans (congrArg some (by kernel_rfl))
  f303 := Tryz.func82.trans (congrArg some (by kernel_rfl))
  f304 := Tryz.func83.trans (congrArg some (by kernel_rfl))
  f305 := Tryz.func84.trans (congrArg some (by kernel_rfl))
  f306 := Tryz.func85.trans (congrArg some (by kernel_rfl))
  f307 := Tryz.func86.trans (congrArg some (by kernel_rfl))
  f308 := Tryz.func87.trans (congrArg some (by kernel_rfl))
  f309 := Tryz.func88.trans (congrArg some (by kernel_rfl))
  f310 := Tryz.func89.trans (congrArg some (by kernel_rfl))
  f329 := Tryz.func112.trans (congrArg some (by kernel_rfl))
  f330 := Tryz.func113.trans (congrArg some (by kernel_rfl))
  f333 := Tryz.func111.trans (congrArg some (by kernel_rfl))
  f334 := Tryz.func114.trans (congrArg some (by kernel_rfl))
  f335 := Tryz.func115.trans (congrArg some (by kernel_rfl))
  f336 := Tryz.func116.trans (congrArg some (by kernel_rfl))
  f344 := Tryz.func133.trans (congrArg some (by kernel_rfl))
  t0 := Tryz.underlying0
  a0 := Tryz.isAgg0
  z0 := Tryz.sizeOf0
  v0 := Tryz.zeroValue0
  t3 := Tryz.underlying3
  a3 := Tryz.isAgg3
  z3 := Tryz.sizeOf3
  v3 := Tryz.zeroValue3
  t4 := Tryz.underlying4
  a4 := Tryz.isAgg4
  z4 := Tryz.sizeOf4
  v4 := Tryz.zeroValue4
  t5 := Tryz.underlying5
  a5 := Tryz.isAgg5
  z5 := Tryz.sizeOf5
  v5 := Tryz.zeroValue5
  t9 := Tryz.underlying9
  a9 := Tryz.isAgg9
  z9 := Tryz.sizeOf9
  v9 := Tryz.zeroValue9
  t31 := Tryz.underlying22
  a31 := Tryz.isAgg22
  z31 := Tryz.sizeOf22
  v31 := Tryz.zeroValue22
  t46 := Tryz.underlying92
  a46 := Tryz.isAgg92
  z46 := Tryz.sizeOf92
  v46 := Tryz.zeroValue92
  t51 := Tryz.underlying116
  a51 := Tryz.isAgg116
  z51 := Tryz.sizeOf116
  v51 := Tryz.zeroValue116
  t53 := Tryz.underlying118
  a53 := Tryz.isAgg118
  z53 := Tryz.sizeOf118
  v53 := Tryz.zeroValue118
  t131 := Tryz.underlying113
  a131 := Tryz.isAgg113
  z131 := Tryz.sizeOf113
  v131 := Tryz.zeroValue113
  t182 := Tryz.underlying107
  a182 := Tryz.isAgg107
  z182 := Tryz.sizeOf107
  v182 := Tryz.zeroValue107
  t183 := Tryz.underlying108
  a183 := Tryz.isAgg108
  z183 := Tryz.sizeOf108
  v183 := Tryz.zeroValue108
  t218 := Tryz.underlying132
  a218 := Tryz.isAgg132
  z218 := Tryz.sizeOf132
  v218 := Tryz.zeroValue132
  t222 := Tryz.underlying136
  a222 := Tryz.isAgg136
  z222 := Tryz.sizeOf136
  v222 := Tryz.zeroValue136
  t228 := Tryz.underlying149
  a228 := Tryz.isAgg149
  z228 := Tryz.sizeOf149
  v228 := Tryz.zeroValue149
  t229 := Tryz.underlying150
  a229 := Tryz.isAgg150
  z229 := Tryz.sizeOf150
  v229 := Tryz.zeroValue150 }
open Go.Sort Go.RowKit in
theorem Tryz.slices_Sort_string (blk off cap : Nat) (ss : List (List UInt8)) (w : World) (hH : Holds encStr w blk off ss.toArray) (hblk : blk < w.heap.size) (hsz : ss.length < 4611686018427387904) :
    Calls Tryz.prog 31 #[.slice (some ⟨blk, off, none⟩) ss.length cap] w fun e w' =>
      e = .returned (.tuple #[]) ∧ ∃ n os, w' = grow (putRow encStr (Sort.ahead w n) blk off (ss.mergeSort fun x y => decide (x ≤ y)).toArray) os := Any.slices_Sort_string Tryz.lays190 blk off cap ss w hH hblk hsz
def Tryz.lays105_ren : Go.Shelf.Ren := ⟨fun | 105 => 130 | 212 => 153 | 99 => 154 | 165 => 155 | 166 => 151 | 170 => 156 | 169 => 152 | 263 => 174 | 264 => 175 | 206 => 176 | 240 => 171 | 241 => 177 | 276 => 197 | 277 => 202 | n => n, fun | 9 => 9 | 3 => 3 | 4 => 4 | 20 => 20 | 0 => 0 | 46 => 92 | 109 => 175 | 5 => 5 | 72 => 164 | 76 => 172 | 51 => 116 | 146 => 147 | 53 => 118 | 148 => 189 | 70 => 162 | 37 => 31 | 75 => 166 | 127 => 187 | 164 => 200 | 80 => 174 | n => n, fun | n => n⟩
theorem Tryz.lays105 : Go.Proofs.Lays.n105 Tryz.prog Tryz.lays105_ren := {
  mixed := by kernel_rfl
  f99 := Tryz.func154.trans (congrArg some (by kernel_rfl))
  f105 := Tryz.func130.trans (congrArg some (by kernel_rfl))
  f165 := Tryz.func155.trans (congrArg some (by kernel_rfl))
  f166 := Tryz.func151.trans (congrArg some (by kernel_rfl))
  f169 := Tryz.func152.trans (congrArg some (by kernel_rfl))
  f170 := Tryz.func156.trans (congrArg some (by kernel_rfl))
  f206 := Tryz.func176.trans (congrArg some (by kernel_rfl))
  f212 := Tryz.func153.trans (congrArg some (by kernel_rfl))
  f240 := Tryz.func171.trans (congrArg some (by kernel_rfl))
  f241 := Tryz.func177.trans (congrArg some (by kernel_rfl))
  f263 := Tryz.func174.trans (congrArg some (by kernel_rfl))
  f264 := Tryz.func175.trans (congrArg some (by kernel_rfl))
  f276 := Tryz.func197.trans (congrArg some (by kernel_rfl))
  f277 := Tryz.func202.trans (congrArg some (by kernel_rfl))
  t0 := Tryz.underlying0
  a0 := Tryz.isAgg0
  z0 := Tryz.sizeOf0
  v0 := Tryz.zeroValue0
  t3 := Tryz.underlying3
  a3 := Tryz.isAgg3
  z3 := Tryz.sizeOf3
  v3 := Tryz.zeroValue3
  t4 := Tryz.underlying4
  a4 := Tryz.isAgg4
  z4 := Tryz.sizeOf4
  v4 := Tryz.zeroValue4
  t5 := Tryz.underlying5
  a5 := Tryz.isAgg5
  z5 := Tryz.sizeOf5
  v5 := Tryz.zeroValue5
  t9 := Tryz.underlying9
  a9 := Tryz.isAgg9
  z9 := Tryz.sizeOf9
  v9 := Tryz.zeroValue9
  t20 := Tryz.underlying20
  a20 := Tryz.isAgg20
  z20 := Tryz.sizeOf20
  v20 := Tryz.zeroValue20
  t37 := Tryz.underlying31
  a37 := Tryz.isAgg31
  z37 := Tryz.sizeOf31
  v37 := Tryz.zeroValue31
  t46 := Tryz.underlying92
  a46 := Tryz.isAgg92
  z46 := Tryz.sizeOf92
  v46 := Tryz.zeroValue92
  t51 := Tryz.underlying116
  a51 := Tryz.isAgg116
  z51 := Tryz.sizeOf116
  v51 := Tryz.zeroValue116
  t53 := Tryz.underlying118
  a53 := Tryz.isAgg118
  z53 := Tryz.sizeOf118
  v53 := Tryz.zeroValue118
  t70 := Tryz.underlying162
  a70 := Tryz.isAgg162
  z70 := Tryz.sizeOf162
  v70 := Tryz.zeroValue162
  t72 := Tryz.underlying164
  a72 := Tryz.isAgg164
  z72 := Tryz.sizeOf164
  v72 := Tryz.zeroValue164
  t75 := Tryz.underlying166
  a75 := Tryz.isAgg166
  z75 := Tryz.sizeOf166
  v75 := Tryz.zeroValue166
  t76 := Tryz.underlying172
  a76 := Tryz.isAgg172
  z76 := Tryz.sizeOf172
  v76 := Tryz.zeroValue172
  t109 := Tryz.underlying175
  a109 := Tryz.isAgg175
  z109 := Tryz.sizeOf175
  v109 := Tryz.zeroValue175
  t127 := Tryz.underlying187
  a127 := Tryz.isAgg187
  z127 := Tryz.sizeOf187
  v127 := Tryz.zeroValue187
  t146 := Tryz.underlying147
  a146 := Tryz.isAgg147
  z146 := Tryz.sizeOf147
  v146 := Tryz.zeroValue147
  t148 := Tryz.underlying189
  a148 := Tryz.isAgg189
  z148 := Tryz.sizeOf189
  v148 := Tryz.zeroValue189
  t164 := Tryz.underlying200
  a164 := Tryz.isAgg200
  z164 := Tryz.sizeOf200
  v164 := Tryz.zeroValue200 }
theorem Tryz.Builder_Extra_105 : Builder.Extra Tryz.prog Tryz.lays105_ren := {
  sizeBuilder := by kernel_rfl
  liesBuilder := by kernel_rfl
  t5 := Tryz.underlying5
  a5 := Tryz.isAgg5
  z5 := Tryz.sizeOf5
  v5 := Tryz.zeroValue5
  infoByte := by kernel_rfl
  cellsByte := by kernel_rfl
  sizeByte := by kernel_rfl
  neB5 := by decide }
open Go.RowKit Go.Lib in
theorem Tryz.strings_Repeat_main (s : ByteArray) (c : Nat) (w : World) (hc2 : 2 ≤ c) (hc : c ≤ 9223372036854775807) (hlen : s.size * c ≤ 140737488355328) (h0 : 0 < s.size) :
    Calls Tryz.prog 130 #[.string s, .int .i64 c] w fun e w' => e = .returned (.string ⟨(Lib.repeatL s.data.toList c).toArray⟩) ∧ Below w.heap.size w w' := Any.strings_Repeat_main Tryz.lays105 Tryz.Builder_Extra_105 s c w hc2 hc hlen h0
open Go.RowKit Go.Lib in
theorem Tryz.strings_Repeat_zero (s : ByteArray) (w : World) :
    Calls Tryz.prog 130 #[.string s, .int .i64 0] w fun e w' => e = .returned (.string ⟨#[]⟩) ∧ w' = w := Any.strings_Repeat_zero Tryz.lays105 s w
open Go.RowKit Go.Lib in
theorem Tryz.strings_Repeat_one (s : ByteArray) (w : World) :
    Calls Tryz.prog 130 #[.string s, .int .i64 1] w fun e w' => e = .returned (.string s) ∧ w' = w := Any.strings_Repeat_one Tryz.lays105 s w
def Tryz.lays194_ren : Go.Shelf.Ren := ⟨fun | 194 => 32 | n => n, fun | 31 => 22 | 9 => 9 | 3 => 3 | 4 => 4 | 0 => 0 | n => n, fun | n => n⟩
theorem Tryz.lays194 : Go.Proofs.Lays.n194 Tryz.prog Tryz.lays194_ren := {
  mixed := by kernel_rfl
  f194 := Tryz.func32.trans (congrArg some (by kernel_rfl))
  t0 := Tryz.underlying0
  a0 := Tryz.isAgg0
  z0 := Tryz.sizeOf0
  v0 := Tryz.zeroValue0
  t3 := Tryz.underlying3
  a3 := Tryz.isAgg3
  z3 := Tryz.sizeOf3
  v3 := Tryz.zeroValue3
  t4 := Tryz.underlying4
  a4 := Tryz.isAgg4
  z4 := Tryz.sizeOf4
  v4 := Tryz.zeroValue4
  t9 := Tryz.underlying9
  a9 := Tryz.isAgg9
  z9 := Tryz.sizeOf9
  v9 := Tryz.zeroValue9
  t31 := Tryz.underlying22
  a31 := Tryz.isAgg22
  z31 := Tryz.sizeOf22
  v31 := Tryz.zeroValue22 }
open Go.RowKit Go.Lib Go.Sort in
theorem Tryz.slices_Compact_string (blk off cap : Nat) (zs : List (List UInt8)) (w : World) (hH : Holds encStr w blk off zs.toArray) (hsz : zs.length ≤ 9223372036854775807) (hcap : zs.length ≤ cap) :
    Calls Tryz.prog 32 #[.slice (some ⟨blk, off, none⟩) zs.length cap] w fun e w' => e = .returned (.slice (some ⟨blk, off, none⟩) (Lib.compact zs).length cap) ∧ ∃ q, w' = putRow encStr (Sort.ahead w q) blk off (Lib.compact zs ++ List.replicate (zs.length - (Lib.compact zs).length) []).toArray := Any.slices_Compact_string Tryz.lays194 blk off cap zs w hH hsz hcap
open Go.RowKit Go.Lib Go.Sort in
theorem Tryz.slices_Compact_string_empty (a : Option Addr) (cap : Nat) (w : World) :
    Calls Tryz.prog 32 #[.slice a 0 cap] w fun e w' => e = .returned (.slice a 0 cap) ∧ w' = w := Any.slices_Compact_string_empty Tryz.lays194 a cap w
open Go.RowKit Go.Sort in
theorem Tryz.slices_Sort_string_none (p : Option Addr) (cap : Nat) (w : World) :
    Calls Tryz.prog 31 #[.slice p 0 cap] w fun e w' => e = .returned (.tuple #[]) ∧ w' = w := Any.slices_Sort_string_none Tryz.lays190 p cap w
end Go.Proofs
end

section
namespace Go.Proofs
open Go.RowKit Go.Shelf Go.Sort Go.Lib
def Tryz.Pow10 (w : World) : Prop := ∀ i, i < 20 → w.cell? ⟨2, i, none⟩ = some (.int .u64 ((10 ^ i : Nat) : Int))
set_option maxHeartbeats 2000000 in
set_option maxRecDepth 100000 in
theorem Tryz.numDigits_c (u : Nat) (h1 : 1 ≤ u) (h2 : u < 18446744073709551616) (w : World) (hc : Tryz.Pow10 w) :
    Calls Tryz.prog 199 #[.int .u64 u] w fun e w' => e = .returned (.int .i64 (Lib.nDigits u)) ∧ w' = w := by
  obtain ⟨hnd, h19⟩ := Lib.numDigits_eq u h1 h2
  have hL : Lib.bitLen u ≤ 64 := Lib.bitLen_le u 64 (Nat.le_refl _) h2
  have hcell := hc (Lib.l10 (Lib.bitLen u)) (by omega)
  have hto : ((u : Int)).toNat = u := by omega
  generalize hq : Lib.l10 (Lib.bitLen u) = q at hnd h19 hcell
  generalize hT : 10 ^ q = T at hnd hcell
  have h20 : q < 20 := by omega
  have Hnd := Lib.hid hnd
  clear hnd hc
  go_enter Tryz.func199, Tryz.ntmps199
  go_wp2_with (first
    | (go_at_call 91; refine (Tryz.bits_Len64 _ _ (by omega) (by omega)).mono ?_; rintro e w' ⟨rfl, rfl⟩)
    | (go_at_call 209; refine (Tryz.internal_strconv_log10Pow2 _ (by first | exact hL | (rw [hto]; exact hL)) _).mono ?_; rintro e w' ⟨rfl, rfl⟩)
    | (go_at_call 210; refine (Tryz.internal_strconv_bool2_int _ _).mono ?_; rintro e w' ⟨rfl, rfl⟩))
  all_goals go_ret
  all_goals (
    refine ⟨?_, rfl⟩
    have hnd := Hnd.out
    congr 2
    split at hnd <;> simp_all <;> omega)
theorem Tryz.Pow10.alloc {w : World} (h : Tryz.Pow10 w) (o : Obj) : Tryz.Pow10 (w.alloc o) := fun i hi => by
  have h1 := h i hi
  have hb : 2 < w.heap.size := World.block_lt_of_cell? _ _ h1
  exact (World.cell?_of_block (a := ⟨2, i, none⟩) (Below.heap_alloc w o 2 hb)).trans h1
theorem Lib.fin_pos0 (w : World) (o : Obj) (dk : Array UInt8) (k : Nat) : ∃ os, (putRow (fun (b : UInt8) => Value.int .u8 (b.toNat : Int)) (w.alloc o) w.heap.size 0 dk).drewN k = grow (w.drewN k) os := by
  rw [alloc_eq_grow]
  obtain ⟨os', _, e⟩ := putRow_grow_new (fun (b : UInt8) => Value.int .u8 (b.toNat : Int)) w #[o] w.heap.size 0 dk (Nat.le_refl _)
  exact ⟨os', by rw [e]; rfl⟩
set_option maxHeartbeats 4000000 in
set_option maxRecDepth 100000 in
theorem Tryz.formatUint_c (u : Nat) (hu64 : u < 18446744073709551616) (w : World) (hc : Tryz.Pow10 w) :
    Calls Tryz.prog 173 #[.int .u64 u, .int .i64 10] w fun e w' => e = .returned (.string ⟨(Lib.decDigits u).toArray⟩) ∧ Below w.heap.size w w' := by
  by_cases hs : u < 100
  · go_enter Tryz.func173, Tryz.ntmps173
    go_wp2_with (go_at_call 198; refine (Tryz.internal_strconv_small u hs _).mono ?_; rintro e w' ⟨rfl, rfl⟩)
    go_ret
    exact ⟨rfl, Below.refl _ _⟩
  · have hu1 : 1 ≤ u := by omega
    have hnd20 : Lib.nDigits u ≤ 20 := by have := Lib.numDigits_eq u hu1 hu64; split at this <;> omega
    have hal : Tryz.prog.arrayLen 203 = 24 := by kernel_rfl
    have hsl : ∀ W, (Instr.sliceAt 203 (.pointer (some ⟨w.heap.size, 0, none⟩)) none (some (.int .i64 (Lib.nDigits u : Int))) none).run Tryz.prog W = .ok (.slice (some ⟨w.heap.size, 0, none⟩) (Lib.nDigits u) 24) W := fun W => by
      rw [run_sliceAt_array_h W 203 ⟨w.heap.size, 0, none⟩ (by kernel_rfl) .i64 (Lib.nDigits u : Int) (by omega) (by rw [hal]; omega)]
      go_simp
    have hH0 := Lib.holds_zero0 w 203 (Lib.nDigits u) (by omega)
    have hfmt := Tryz.internal_strconv_formatBase10 w.heap.size 0 24 u (Array.replicate (Lib.nDigits u) 0) (w.alloc (.cells Lib.zeros24 203)) hH0 (by rw [Array.size_replicate]; exact Lib.lt_pow_nDigits u) hu64 (by rw [Array.size_replicate]; omega)
    rw [Array.size_replicate] at hfmt
    have HH0 := Lib.hid hH0
    have hc2 := hc.alloc (.cells Lib.zeros24 203)
    clear hH0 hal
    go_enter Tryz.func173, Tryz.ntmps173
    go_wp2_with (first
      | (go_at_call 199; refine (Tryz.numDigits_c u hu1 hu64 _ hc2).mono ?_; rintro e w' ⟨rfl, rfl⟩))
    refine hfmt.mono ?_
    rintro e w' ⟨rfl, k, v', dk, rfl, hF⟩
    have hcv : (convert 31 9 (.slice (some ⟨w.heap.size, 0, none⟩) (Lib.nDigits u) 24)).run Tryz.prog ((putRow (fun (b : UInt8) => Value.int .u8 (b.toNat : Int)) (w.alloc (.cells Lib.zeros24 203)) w.heap.size 0 dk).drewN k) = .ok (.string ⟨(Lib.decDigits u).toArray⟩) ((putRow (fun (b : UInt8) => Value.int .u8 (b.toNat : Int)) (w.alloc (.cells Lib.zeros24 203)) w.heap.size 0 dk).drewN k) := by
      have h := run_convert_bytes_back (P := Tryz.prog) ((putRow (fun (b : UInt8) => Value.int .u8 (b.toNat : Int)) (w.alloc (.cells Lib.zeros24 203)) w.heap.size 0 dk).drewN k) 31 9 5 ⟨w.heap.size, 0, none⟩ 24 (Lib.decDigits u) Tryz.underlying31 Tryz.underlying5 Tryz.underlying9 (fun j hj => by
        rw [Lib.row_is_numeral hF j hj, Lib.add_plain, World.cell?_drewN]
        exact cell?_putRow (fun (b : UInt8) => Value.int .u8 (b.toNat : Int)) _ w.heap.size 0 _ dk HH0.out (by rw [hF.size, Array.size_replicate]) j (by rw [hF.size]; rw [Lib.decDigits_length] at hj; exact hj))
      rw [Lib.decDigits_length] at h
      exact h
    go_wp2
    go_ret
    obtain ⟨os, eo⟩ := Lib.fin_pos0 w (.cells Lib.zeros24 203) dk k
    refine ⟨rfl, ?_⟩
    rw [eo]
    exact Lib.below_grow _ w (Nat.le_refl _) k os
set_option maxRecDepth 100000 in
theorem Tryz.formatUint_any (u : Nat) (hu64 : u < 18446744073709551616) (w : World) (hc : Tryz.Pow10 w) :
    Calls Tryz.prog 150 #[.int .u64 u, .int .i64 10] w fun e w' => e = .returned (.string ⟨(Lib.decDigits u).toArray⟩) ∧ Below w.heap.size w w' := by
  go_enter Tryz.func150, Tryz.ntmps150
  go_wp2_with (go_at_call 173; refine (Tryz.formatUint_c u hu64 _ hc).mono ?_; rintro e w' ⟨rfl, hB⟩)
  go_ret
  exact ⟨rfl, hB⟩
end Go.Proofs
end

section
namespace Go.Proofs
open Go.RowKit Go.Shelf
attribute [local go_sem] Oper.semAt_some
def Tryz.upto {α : Type} (f : Nat → α) (k : Nat) : List α := (List.range k).map f
theorem Tryz.upto_succ {α : Type} (f : Nat → α) (k : Nat) : Tryz.upto f (k + 1) = Tryz.upto f k ++ [f k] := by simp [Tryz.upto, List.range_succ]
theorem Tryz.upto_length {α : Type} (f : Nat → α) (k : Nat) : (Tryz.upto f k).length = k := by simp [Tryz.upto]
def Tryz.bw (zs : List Int) (k : Nat) : Int × Int := ((zs.length : Int) - 1 - k, zs[zs.length - 1 - k]?.getD 0)
def Tryz.BK (n₀ Bs : Nat) (A B : World) : Prop := Below n₀ A B ∧ B.cell? ⟨Bs, 0, none⟩ = A.cell? ⟨Bs, 0, none⟩
theorem Tryz.BK.refl (n₀ Bs : Nat) (A : World) : Tryz.BK n₀ Bs A A := ⟨Below.refl _ _, rfl⟩
theorem Tryz.BK.trans {n₀ Bs : Nat} {A B C : World} (h : Tryz.BK n₀ Bs A B) (k : Tryz.BK n₀ Bs B C) : Tryz.BK n₀ Bs A C := ⟨h.1.trans k.1, k.2.trans h.2⟩
set_option maxRecDepth 100000 in
set_option maxHeartbeats 2000000 in
theorem Tryz.bw1_in (F : Fence) (n : Nat) (h8 : F.fn 172) (hro : F.round = none) (hn : 1 ≤ n) (l Bs n₀ b off cap : Nat) (zs : List Int) (hreach : zs.length * 8 ≤ 140737488351232) (hb : b < n₀) (J Jx : List (Int × Int) → World → Prop)
    (hY : ∀ pre x W, J pre W → pre.length < zs.length → YieldAt F (n - 1) Tryz.prog l #[.int .i64 x.1, .int .u32 x.2] W fun e W' =>
      (e = .returned (.bool true) ∧ J (pre ++ [x]) W' ∧ Tryz.BK n₀ Bs W W') ∨ (e = .returned (.bool false) ∧ Jx (pre ++ [x]) W'))
    (W : World) (hBs0 : W.cell? ⟨Bs, 0, none⟩ = some (.slice (some ⟨b, off, none⟩) zs.length cap)) (hc : ∀ j, j < zs.length → W.cell? ⟨b, off + j, none⟩ = some (.int .u32 (zs[j]?.getD 0))) (h0 : J [] W) :
    CallsIn F n Tryz.prog 172 #[.func (.yield l) #[] #[], .pointer (some ⟨Bs, 0, none⟩)] W fun e W' => (∃ v, e = .returned v) ∧
      ((∃ ys, ys = Tryz.upto (Tryz.bw zs) zs.length ∧ J ys W') ∨ (∃ pre, (∃ k, k ≤ zs.length ∧ pre = Tryz.upto (Tryz.bw zs) k) ∧ Jx pre W')) := by
  refine callsIn_of_wp Tryz.func172 rfl h8 ?_ hro
  simp only [Tryz.ntmps172, List.size_toArray, List.length_cons, List.length_nil, Nat.reduceAdd, Nat.reduceSub, Array.replicate_succ, Array.replicate_zero, List.push_toArray, List.append_toArray, List.nil_append, List.cons_append]
  gi_wp2
  gi_loopw [3] (fun i wr => ∃ k : Nat, k ≤ zs.length ∧ i = .int .i64 ((zs.length : Int) - 1 - k) ∧ J (Tryz.upto (Tryz.bw zs) k) wr ∧ Tryz.BK n₀ Bs W wr)
    (fun i _ => (intOf i + 1).toNat)
  case atStart => exact ⟨0, Nat.zero_le _, by simp, h0, Tryz.BK.refl _ _ _⟩
  case round =>
    obtain ⟨k, hk, rfl, hJs, hnx⟩ := hrel
    have hBk := hnx.2.trans hBs0
    have hcx : ∀ j, j < zs.length → wr.cell? ⟨b, off + j, none⟩ = some (.int .u32 (zs[j]?.getD 0)) := fun j h => (hnx.1.cell (p := ⟨b, off + j, none⟩) hb).trans (hc j h)
    by_cases hlt : k < zs.length
    · obtain ⟨q, hq⟩ : ∃ q, q = zs.length - 1 - k := ⟨_, rfl⟩
      have hqi : (zs.length : Int) - 1 - k = q := by omega
      have hql : q < zs.length := by omega
      have hbw : Hid (Tryz.bw zs k = ((q : Int), zs[q]?.getD 0)) := by show Tryz.bw zs k = _; rw [Tryz.bw, ← hq, hqi]
      have hqk : Hid (q + 1 + k = zs.length) := by show q + 1 + k = zs.length; omega
      clear hq
      have hcx' := hcx q hql
      generalize zs[q]?.getD 0 = zq at hbw hcx'
      obtain ⟨fn, tmps, assign, body, hy, hR⟩ := hY _ ((q : Int), zq) wr hJs (by rw [Tryz.upto_length]; exact hlt)
      dsimp only at hy
      rw [hqi]
      clear hqi hY h0 hc hcx
      gi_wp2
      refine hR.mono ?_
      rintro e W3 (⟨rfl, hJ3, hk3⟩ | ⟨rfl, hJx3⟩)
      · gi_wp2
        go_roundw
        case rel => exact ⟨k + 1, by omega, by have := hqk.out; congr 1; omega, by rw [Tryz.upto_succ, hbw.out]; exact hJ3, hnx.trans hk3⟩
        case measure => simp [intOf]
      · gi_wp2
        refine bodyPost_ret (results_none rfl _ _ _) rfl ?_
        exact ⟨⟨_, rfl⟩, .inr ⟨_, ⟨k + 1, by omega, by rw [Tryz.upto_succ, hbw.out]⟩, hJx3⟩⟩
    · obtain rfl : k = zs.length := by omega
      have hneg : (zs.length : Int) - 1 - zs.length = -1 := by omega
      rw [hneg]
      gi_wp2
      go_end0
      exact ⟨⟨_, rfl⟩, .inl ⟨_, rfl, hJs⟩⟩
def Tryz.U32s (n₀ : Nat) (W : World) (sv : Value) (zs : List Int) : Prop :=
  (∃ a cap, sv = .slice a 0 cap ∧ zs = []) ∨ ∃ b off cap, sv = .slice (some ⟨b, off, none⟩) zs.length cap ∧ b < n₀ ∧ ∀ j, j < zs.length → W.cell? ⟨b, off + j, none⟩ = some (.int .u32 (zs[j]?.getD 0))
theorem Tryz.U32s.below {n₀ : Nat} {A B : World} (h : Below n₀ A B) {sv : Value} {zs : List Int} : Tryz.U32s n₀ A sv zs → Tryz.U32s n₀ B sv zs
  | .inl e => .inl e
  | .inr ⟨b, off, cap, e, hb, hc⟩ => .inr ⟨b, off, cap, e, hb, fun j hj => (h.cell (p := ⟨b, off + j, none⟩) hb).trans (hc j hj)⟩
set_option maxRecDepth 100000 in
set_option maxHeartbeats 1000000 in
theorem Tryz.bw1_nil_in (F : Fence) (n : Nat) (h8 : F.fn 172) (hro : F.round = none) (l Bs : Nat) (a : Option Addr) (cap : Nat) (J : List (Int × Int) → World → Prop) (W : World) (hBs : W.cell? ⟨Bs, 0, none⟩ = some (.slice a 0 cap)) (h0 : J [] W) :
    CallsIn F n Tryz.prog 172 #[.func (.yield l) #[] #[], .pointer (some ⟨Bs, 0, none⟩)] W fun e W' => (∃ v, e = .returned v) ∧ J [] W' := by
  refine callsIn_of_wp Tryz.func172 rfl h8 ?_ hro
  simp only [Tryz.ntmps172, List.size_toArray, List.length_cons, List.length_nil, Nat.reduceAdd, Nat.reduceSub, Array.replicate_succ, Array.replicate_zero, List.push_toArray, List.append_toArray, List.nil_append, List.cons_append]
  gi_wp2
  gi_loopw [3] (fun i wr => i = .int .i64 (-1) ∧ J [] wr) (fun _ _ => 0)
  case atStart => exact ⟨rfl, h0⟩
  case round =>
    obtain ⟨rfl, hJs⟩ := hrel
    gi_wp2
    go_end0
    exact ⟨⟨_, rfl⟩, hJs⟩
set_option maxHeartbeats 1000000 in
theorem Tryz.backward_in (F : Fence) (n : Nat) (h5 : F.fn 149) (hro : F.round = none) (a : Option Addr) (len cap : Nat) (w : World) :
    CallsIn F n Tryz.prog 149 #[.slice a len cap] w fun e w' => e = .returned (.func (.func 172) #[] #[.pointer (some ⟨w.heap.size, 0, none⟩)]) ∧ w' = w.alloc (.cells #[.slice a len cap] 57) := by
  refine callsIn_of_wp Tryz.func149 rfl h5 ?_ hro
  simp only [Tryz.ntmps149, List.size_toArray, List.length_cons, List.length_nil, Nat.reduceAdd, Nat.reduceSub, Array.replicate_succ, Array.replicate_zero, List.push_toArray, List.append_toArray, List.nil_append, List.cons_append]
  gi_wp2
  go_ret
  exact ⟨rfl, rfl⟩
theorem Tryz.bw_stops (F : Fence) (n : Nat) (h8 : F.fn 172) (hro : F.round = none) (hn : 1 ≤ n) (Bs n₀ : Nat) (sv : Value) (zs : List Int) (hreach : zs.length * 8 ≤ 140737488351232) (w : World) (hBs : Bs < w.heap.size) (hn₀ : n₀ ≤ w.heap.size)
    (hc : w.cell? ⟨Bs, 0, none⟩ = some sv) (hI : Tryz.U32s n₀ w sv zs) :
    SeqStopsK F n Tryz.prog 172 #[.pointer (some ⟨Bs, 0, none⟩)] (fun x : Int × Int => #[Value.int .i64 x.1, Value.int .u32 x.2]) (Tryz.BK n₀ Bs) (fun ys => ys = Tryz.upto (Tryz.bw zs) zs.length)
      (fun pre => ∃ k, k ≤ zs.length ∧ pre = Tryz.upto (Tryz.bw zs) k) zs.length w := fun l J Jx W hW _ _ hY h0 => by
  have hc' := (hW.cell (p := ⟨Bs, 0, none⟩) hBs).trans hc
  rcases hI.below (hW.mono hn₀) with ⟨a, cap, rfl, rfl⟩ | ⟨b, off, cap, rfl, hb, hcs⟩
  · exact (Tryz.bw1_nil_in F n h8 hro l Bs a cap J W hc' h0).mono fun e W' ⟨he, hj⟩ => ⟨he, .inl ⟨_, rfl, hj⟩⟩
  · exact Tryz.bw1_in F n h8 hro hn l Bs n₀ b off cap zs hreach hb J Jx hY W hc' hcs h0
def Tryz.stepU (s v : Int) : Int := bits BinOp.or IntKind.u64 (IntKind.u64.wrap (s * 4294967296)) (IntKind.u64.wrap v)
def Tryz.toU (l : List (Int × Int)) : Int := l.foldl (fun s x => Tryz.stepU s x.2) 0
theorem Tryz.toU_snoc (pre : List (Int × Int)) (x : Int × Int) : Tryz.toU (pre ++ [x]) = Tryz.stepU (Tryz.toU pre) x.2 := by simp [Tryz.toU]
set_option maxRecDepth 100000 in
set_option maxHeartbeats 2000000 in
theorem Tryz.toUint_in (F : Fence) (n : Nat) (h3 : F.fn 165) (h6 : F.fn 149) (h8 : F.fn 172) (hro : F.round = none) (hn : 3 ≤ n) (a : Option Addr) (len cap : Nat) (zs : List Int) (hreach : zs.length * 8 ≤ 140737488351232) (w : World) (hI : Tryz.U32s w.heap.size w (.slice a len cap) zs) :
    CallsIn F n Tryz.prog 165 #[.slice a len cap] w fun e W' => e = .returned (.int .u64 (Tryz.toU (Tryz.upto (Tryz.bw zs) zs.length))) ∧ Below w.heap.size w W' := by
  have h1 : 1 ≤ n := by omega
  refine callsIn_of_wp_marks Tryz.func165 rfl h3 ?_ hro
  simp only [Tryz.ntmps165, List.size_toArray, List.length_cons, List.length_nil, Nat.reduceAdd, Nat.reduceSub, Array.replicate_succ, Array.replicate_zero, List.push_toArray, List.append_toArray, List.nil_append, List.cons_append]
  gi_wp2_with (gi_at_call 149; refine (Tryz.backward_in F (n - 1) h6 hro _ _ _ _).mono ?_; rintro e w' ⟨rfl, rfl⟩)
  have bS := Boxed.new w 118 (.int .u64 0)
  have bN := Boxed.new (w.alloc (.cells #[.int .u64 0] 118)) 57 (.slice a len cap)
  rw [World.size_alloc] at bN
  have hB0 : Below w.heap.size w ((w.alloc (.cells #[.int .u64 0] 118)).alloc (.cells #[.slice a len cap] 57)) := ((Below.refl _ w).alloc (Nat.le_refl _) _).alloc (by simp) _
  have hbox : ((w.alloc (.cells #[.int .u64 0] 118)).alloc (.cells #[.slice a len cap] 57)).heap.size = w.heap.size + 2 := by simp
  refine wpIn_rangeFunc_ownG hro h1 (gf := 172) (lb := #[.pointer (some ⟨w.heap.size + 1, 0, none⟩)]) rfl h8 (enters_of Tryz.func172 (by kernel_rfl) rfl)
    (Tryz.bw_stops F (n - 1) h8 hro (by omega) (w.heap.size + 1) w.heap.size _ zs hreach _ (by simp) (by simp; omega) bN.cell (hI.below hB0)) (fun h k => h.trans k)
    (fun W l o o' hl h h2 h3 => ⟨belowK_b (w := w) (Nat.le_refl _) W l o o' (by omega) h h2 h3, (belowK_b (w := (w.alloc (.cells #[.int .u64 0] 118)).alloc (.cells #[.slice a len cap] 57)) (Nat.le_refl _) W l o o' hl h h2 h3).cell (p := ⟨w.heap.size + 1, 0, none⟩) (by simp)⟩) (Below.refl _ _) (fun _ => rfl)
    (fun pre W => (W.cell? ⟨w.heap.size, 0, none⟩ = some (.int .u64 (Tryz.toU pre)) ∧ W.frozen? ⟨w.heap.size, 0, none⟩ = false) ∧ Below w.heap.size w W)
    (fun _ _ _ => False)
    (OwnFrom.and (Own.from (fun s A B row hs hg hr => ⟨cell_kept hs.1 hg hr, (frozen_kept hs.1 hg hr).trans hs.2⟩) _) (ownFrom_below (Nat.le_refl _) (by simp; omega)))
    (fun _ _ _ _ _ hs _ _ => hs)
    ⟨⟨(bS.alloc _).cell, (bS.alloc _).frozen⟩, hB0⟩
    (fun x => { tmps := #[.slice a len cap, undef, .int .u64 0, .pointer (some ⟨w.heap.size, 0, none⟩), undef, .int .u32 x.2, .slice a len cap, .func (.func 172) #[] #[.pointer (some ⟨w.heap.size + 1, 0, none⟩)], .int .i64 x.1, .int .u32 x.2, undef, undef, undef, undef, undef, undef], defers := [] }) ?assign ?body ?done ?stop
  case assign =>
    intro l x W K hK
    gi_wp2
    exact hK
  case body =>
    rintro l pre x W ⟨⟨hc, hf⟩, hB⟩ _
    gi_wp2
    exact ⟨(KeepsOthers.setCell _ _ _).from _, ⟨(Below.refl w.heap.size W).setCell (p := ⟨w.heap.size, 0, none⟩) (Nat.le_refl _) _, World.cell?_of_block (a := ⟨w.heap.size + 1, 0, none⟩) (Below.heap_setCell _ _ _ _ (by simp))⟩,
      ⟨by rw [Tryz.toU_snoc]; exact World.cell?_setCell_same' _ _ _ (by rw [hc]; rfl), by rw [World.frozen?_setCell]; exact hf⟩, hB.setCell (p := ⟨w.heap.size, 0, none⟩) (Nat.le_refl _) _⟩
  case done =>
    rintro D ys W hD rfl ⟨⟨hc, _⟩, hB⟩ hK
    gi_wp2
    refine ⟨by simp, .inl ⟨_, _, rfl, run_takeDeferred hK, ?_⟩⟩
    exact ⟨_, results_tmp rfl _ _ _, rfl, hB.trans (belowK_b (w := w) (Nat.le_refl _) W D _ _ (by simp at hD; omega) hK rfl rfl)⟩
  case stop =>
    rintro D c pre W _ _ h _
    exact h.elim
end Go.Proofs
end

section
namespace Go.VL
section
variable {P : Program} {G : Nat → Option (List AV)} {own : Nat → Prop} {E : Env} {w : World} {σ : Store}
theorem View.fn {σ : Store} {f : Fn} {a c a' c' : List AV} (ha : ViewL σ a a') (hc : ViewL σ c c') : View σ (.fn f a c) (.fn f a' c') := fun G own E w v hi hr => by
  simp only [Rep] at hr ⊢
  obtain ⟨xs, ys, e, h1, h2⟩ := hr
  exact ⟨xs, ys, e, ha.repL hi h1, hc.repL hi h2⟩
theorem View.ref {σ : Store} {id : Id} {bk : Blk} {e o : Nat} {el : AV} {cs : List AV} (hσ : σ id = some bk) (he : bk.els[e]? = some el) (h : ViewL σ el.cells cs) : View σ (.ref id e o) (.ep cs o) := fun G own E w v hi hr => by
  obtain ⟨g, N, cur, ty, hB⟩ := hi.blk id bk hσ
  simp only [Rep] at hr ⊢
  obtain ⟨g', k', N', hm, rfl⟩ := hr
  rw [hB.μ] at hm
  simp only [Option.some.injEq, Prod.mk.injEq] at hm
  obtain ⟨rfl, rfl, rfl⟩ := hm
  refine ⟨g, e * bk.k, rfl, .inr ⟨id, bk, bk.k, N, hσ, hB.μ⟩, ?_⟩
  refine repCells_iff.2 (h.repAt hi ?_)
  have hlt := (List.getElem?_eq_some_iff.1 he).1
  have := repAt_sub (l := e) (r := e + 1) hB.k hB.row (by omega) (by omega)
  rw [Nat.zero_add] at this
  have e2 : (bk.els.take (e + 1)).drop e = [el] := by
    rw [List.drop_take, show e + 1 - e = 1 from by omega, List.drop_eq_getElem_cons hlt]
    obtain ⟨_, he'⟩ := List.getElem?_eq_some_iff.1 he
    simp [he']
  rw [e2] at this
  simpa [flat] using this
def ViewM (F : List (Id × Blk)) (c d : AV) : Prop := ∀ G own E w v, Inv G own E w (Store.of F) → Rep E w c v → Rep ⟨E.μ, (E.froze (Store.of F)).ok⟩ w d v
def ViewML (F : List (Id × Blk)) : List AV → List AV → Prop
  | [], [] => True
  | c :: cs, d :: ds => ViewM F c d ∧ ViewML F cs ds
  | _, _ => False
theorem ViewM.same (F : List (Id × Blk)) (c : AV) : ViewM F c c := fun _ _ E w v _ hr =>
  Rep.keep (⟨fun _ _ h => h, fun _ h => .inl h, fun _ _ => rfl⟩ : Step E ⟨E.μ, (E.froze (Store.of F)).ok⟩ w w) _ v hr
theorem ViewM.top (F : List (Id × Blk)) (c : AV) : ViewM F c .top := fun _ _ _ _ _ _ _ => by simp [Rep]
theorem ViewML.same (F : List (Id × Blk)) : ∀ cs : List AV, ViewML F cs cs
  | [] => trivial
  | c :: cs => ⟨ViewM.same F c, ViewML.same F cs⟩
theorem ViewML.repL {F : List (Id × Blk)} (hi : Inv G own E w (Store.of F)) : ∀ {cs ds : List AV} {vs : List Value}, ViewML F cs ds → RepL E w cs vs → RepL ⟨E.μ, (E.froze (Store.of F)).ok⟩ w ds vs
  | [], [], _, _, h => by simpa [RepL] using h
  | c :: cs, d :: ds, vs, hf, h => by
    simp only [ViewML] at hf
    simp only [RepL] at h ⊢
    obtain ⟨v, rest, e, h1, h2⟩ := h
    exact ⟨v, rest, e, hf.1 _ _ _ _ _ hi h1, ViewML.repL hi hf.2 h2⟩
  | [], _ :: _, _, h, _ => by simp [ViewML] at h
  | _ :: _, [], _, h, _ => by simp [ViewML] at h
theorem ViewML.get {F : List (Id × Blk)} : ∀ {cs ds : List AV}, ViewML F cs ds → ∀ (j : Nat) (d : AV), ds[j]? = some d → ∃ c, cs[j]? = some c ∧ ViewM F c d
  | [], [], _, j, d, h => by simp at h
  | c :: cs, d :: ds, hf, 0, d', h => by simp at h; subst h; exact ⟨c, rfl, hf.1⟩
  | c :: cs, d :: ds, hf, j + 1, d', h => by simpa using ViewML.get hf.2 j d' (by simpa using h)
  | [], _ :: _, h, _, _, _ => by simp [ViewML] at h
  | _ :: _, [], h, _, _, _ => by simp [ViewML] at h
theorem ViewML.len {F : List (Id × Blk)} : ∀ {cs ds : List AV}, ViewML F cs ds → cs.length = ds.length
  | [], [], _ => rfl
  | _ :: cs, _ :: ds, h => by simp [ViewML.len h.2]
  | [], _ :: _, h => by simp [ViewML] at h
  | _ :: _, [], h => by simp [ViewML] at h
theorem ViewM.agg {F : List (Id × Blk)} {cs ds : List AV} (h : ViewML F cs ds) : ViewM F (.agg cs) (.agg ds) := fun _ _ E w v hi hr => by
  simp only [Rep] at hr ⊢; obtain ⟨xs, e, hr⟩ := hr; exact ⟨xs, e, h.repL hi hr⟩
theorem ViewM.tup {F : List (Id × Blk)} {cs ds : List AV} (h : ViewML F cs ds) : ViewM F (.tup cs) (.tup ds) := fun _ _ E w v hi hr => by
  simp only [Rep] at hr ⊢; obtain ⟨xs, e, hr⟩ := hr; exact ⟨xs, e, h.repL hi hr⟩
structure BlkF (F : List (Id × Blk)) (i : Id) (bk bk' : Blk) : Prop where
  k : bk'.k = bk.k
  fr : bk'.fr = bk.fr ∨ (bk'.fr = true ∧ (i, bk) ∈ F)
  no : bk'.fr = false → ∀ x ∈ F, x.1 ≠ i
  len : bk'.els.length = bk.els.length
  sz : ∀ e ∈ bk'.els, e.size = bk.k
  els : ViewML F (flat bk.els) (flat bk'.els)
theorem freeze_core {p : Id} {σ σ' : Store} (F : List (Id × Blk)) (hF : ∀ x ∈ F, σ x.1 = some x.2) (hs : ∀ i, σ' i = none ∨ ∃ bk bk', σ i = some bk ∧ σ' i = some bk' ∧ BlkF F i bk bk') (hi : Inv G own E w σ) :
    AdvP own p E ⟨E.μ, (E.froze (Store.of F)).ok⟩ w w ∧ Inv G own ⟨E.μ, (E.froze (Store.of F)).ok⟩ w σ' := by
  have hiF : Inv G own E w (Store.of F) := hi.sub (Store.of_sub hF)
  have hadv : Adv own E ⟨E.μ, (E.froze (Store.of F)).ok⟩ w w := by
    refine ⟨⟨fun _ _ h => h, fun b hb => .inl hb, fun b hb => rfl⟩, rfl, rfl, rfl, Nat.le_refl _, fun k hk _ => rfl, fun b hb => ?_⟩
    rcases hb with h1 | ⟨id, bk, k, N, hs, hm⟩
    · exact .inl h1
    · obtain ⟨g, N', cur, ty, hB⟩ := hi.blk id bk (hF _ (lookup_mem hs))
      rw [hB.μ] at hm
      simp only [Option.some.injEq, Prod.mk.injEq] at hm
      rw [← hm.1]; exact .inr hB.own
  refine ⟨⟨hadv, fun _ _ => rfl⟩, (hi.froze hF).okb, fun id bk' hb' => ?_, fun i j x y hi' hj' hne hx hy => ?_, fun g cs hg => ?_, hi.new⟩
  · rcases hs id with h | ⟨bk, bk2, h1, h2, hR⟩
    · rw [h] at hb'; simp at hb'
    · rw [h2] at hb'
      simp only [Option.some.injEq] at hb'; subst hb'
      obtain ⟨g, N, cur, ty, hB⟩ := hi.blk id bk h1
      refine ⟨g, N, cur, ty, by rw [hR.k]; exact hB.μ, hB.heap, by rw [hR.k]; exact hB.size, by rw [hR.len]; exact hB.len, hB.most, hB.own, fun hf => ?_, fun hf hok => ?_, by rw [hR.k]; exact hR.sz, ?_⟩
      · rcases hR.fr with h | ⟨_, h⟩
        · exact .inl (hB.ok (h ▸ hf))
        · exact .inr ⟨id, bk, bk.k, N, of_of_mem hF h, hB.μ⟩
      · have hbf : bk.fr = false := by
          rcases hR.fr with h | ⟨h, _⟩
          · rw [← h]; exact hf
          · rw [hf] at h; simp at h
        rcases hok with h | ⟨id2, bk2, k2, N2, hs2, hm2⟩
        · exact hB.no hbf h
        · have hm := lookup_mem hs2
          exact hi.inj id id2 _ _ (by simp [h1]) (by simp [hF _ hm]) (fun e => hR.no hf _ hm e.symm) hB.μ hm2 rfl
      · intro j d hd
        obtain ⟨c, hc, hv⟩ := hR.els.get j d hd
        obtain ⟨v, hv1, hv2⟩ := hB.row j c hc
        exact ⟨v, hv1, hv _ _ _ _ _ hiF hv2⟩
  · have keep : ∀ i, σ' i ≠ none → σ i ≠ none := by
      intro i hn he
      rcases hs i with h | ⟨bk, bk2, h1, _⟩
      · exact hn h
      · rw [he] at h1; simp at h1
    exact hi.inj i j x y (keep i hi') (keep j hj') hne hx hy
  · obtain ⟨h1, h2⟩ := hi.glob g cs hg
    exact ⟨.inl h1, RepCells.keep hadv.step.bare rfl cs 0 h2⟩
theorem Wk.frz {π : Id} {t t' : List AV} {σ σ' : Store} {n n' : Nat} (F : List (Id × Blk)) (hF : ∀ x ∈ F, σ x.1 = some x.2) (ht : ViewML F t t')
    (hs : ∀ i, σ' i = none ∨ ∃ bk bk', σ i = some bk ∧ σ' i = some bk' ∧ BlkF F i bk bk') (hn : n ≤ n') : Wk G π ⟨t, σ, n⟩ ⟨t', σ', n'⟩ := fun own E w a hm => by
  obtain ⟨h1, h2⟩ := freeze_core (p := π) F hF hs hm.inv
  exact ⟨_, h1, ht.repL (hm.inv.sub (Store.of_sub hF)) hm.frame, h2, hm.free.mono hn, hm.defers⟩
theorem Fin.frz {p : Id} {S : List (Id × Blk)} {σ' : Store} {r0 : AV} {r : Res} (F : List (Id × Blk)) (hF : ∀ x ∈ F, σ' x.1 = some x.2) (hv : ViewM F r0 r.val)
    (hs : ∀ i, (Store.of S).app r.up i = none ∨ ∃ bk bk', σ' i = some bk ∧ (Store.of S).app r.up i = some bk' ∧ BlkF F i bk bk') : Fin G p S σ' r0 r :=
  fun own E w v hi hr _ => by
    obtain ⟨h1, h2⟩ := freeze_core (p := p) F hF hs hi
    exact ⟨_, h1, h2, hv _ _ _ _ _ (hi.sub (Store.of_sub hF)) hr⟩
end
end Go.VL
end

section
namespace Go.VL
section
variable {P : Program} {G : Nat → Option (List AV)}
theorem app_append {σ : Store} : ∀ (a b : List (Id × Option Blk)), σ.app (a ++ b) = (σ.app a).app b := by
  intro a
  induction a generalizing σ with
  | nil => intro b; rfl
  | cons x a ih => intro b; simp only [List.cons_append, Store.app]; exact ih b
end
theorem elemsOf_sl {σ : Store} {k : Nat} {es : List AV} : elemsOf σ k (.sl k es) = some (es, []) := by simp [elemsOf]
theorem elemsOf_osl {σ : Store} {k : Nat} {id : Id} {off len : Nat} {t : Bool} {bk : Blk} (h : σ id = some bk) (hk : bk.k = k) (hl : off + len ≤ bk.els.length) : elemsOf σ k (.osl id k off len t) = some ((bk.els.drop off).take len, [id]) := by
  simp [elemsOf, h, hk, hl]
theorem vappend_full {σ : Store} {p id : Id} {k bytes len : Nat} {x : AV} {els ys : List AV} {rd : List Id} (hx : elemsOf σ k x = some (ys, rd)) (hy : ys ≠ []) (h : σ id = some ⟨els, k, false⟩) (hl : len = els.length)
    (hb : (len + ys.length) * bytes ≤ 140737488355328) (hm : len + ys.length ≤ maxLen) (h1 : (ys.all fun e => e.cells.all AV.one) = true) (h2 : (els.all fun e => e.cells.all AV.one) = true) :
    vappend σ p k bytes (.osl id k 0 len false) x = some { val := .osl p k 0 (len + ys.length) false, rd := id :: rd, up := [(id, none), (p, some ⟨els ++ ys, k, false⟩)] } := by
  have hne : ys.isEmpty = false := by cases ys <;> simp at hy ⊢
  unfold vappend
  rw [hx]
  simp only [hne, h, h1, h2, hl, Bool.false_eq_true, if_false]
  rw [if_pos ⟨trivial, trivial, trivial, Nat.le_refl _, by rw [← hl]; exact hb, by rw [← hl]; exact hm, trivial⟩]
  simp
theorem vappend_nils {σ : Store} {p : Id} {k bytes : Nat} {x : AV} {ys : List AV} {rd : List Id} (hx : elemsOf σ k x = some (ys, rd)) (hy : ys ≠ []) (hb : ys.length * bytes ≤ 140737488355328) (hm : ys.length ≤ maxLen) (h1 : (ys.all fun e => e.cells.all AV.one) = true) :
    vappend σ p k bytes .nils x = some { val := .osl p k 0 ys.length false, rd, up := [(p, some ⟨ys, k, false⟩)] } := by
  have hne : ys.isEmpty = false := by cases ys <;> simp at hy ⊢
  unfold vappend
  rw [hx]
  simp only [hne, h1, Bool.false_eq_true, if_false]
  rw [if_pos ⟨hb, hm, trivial⟩]
theorem vappend_tsl {σ : Store} {p : Id} {k bytes : Nat} {x : AV} {es ys : List AV} {rd : List Id} (hx : elemsOf σ k x = some (ys, rd)) (hy : ys ≠ []) (hb : (es.length + ys.length) * bytes ≤ 140737488355328) (hm : es.length + ys.length ≤ maxLen) (h1 : ((es ++ ys).all fun e => e.cells.all AV.one) = true) :
    vappend σ p k bytes (.tsl k es) x = some { val := .osl p k 0 (es.length + ys.length) false, rd, up := [(p, some ⟨es ++ ys, k, false⟩)] } := by
  have hne : ys.isEmpty = false := by cases ys <;> simp at hy ⊢
  unfold vappend
  rw [hx]
  simp only [hne, h1, Bool.false_eq_true, if_false]
  rw [if_pos ⟨trivial, hb, hm, trivial⟩]
theorem vappend_none_t {σ : Store} {p : Id} {k k' bytes : Nat} {es : List AV} {x : AV} {rd : List Id} (hx : elemsOf σ k x = some ([], rd)) : vappend σ p k bytes (.tsl k' es) x = some { val := .tsl k' es, rd } := by
  unfold vappend; rw [hx]; rfl
theorem le_maxLen {n : Nat} (h : n ≤ 140737488355328) : n ≤ maxLen := Nat.le_trans h (by decide)
theorem bs0 {σ : Store} {p : Id} {k : Nat} {z : AV} (hz : z.size = k) (hz1 : z.cells.all AV.one = true) : vop σ p (.buildSl k 0 z []) = some { val := .tsl k [] } := by
  rw [vop_buildSl]; simp only [vfillEls, List.replicate_zero]; rw [if_pos ⟨hz, hz1⟩, if_pos trivial]
theorem bs1 {σ : Store} {p : Id} {k : Nat} {z x : AV} (hx : x.size = k) (hx1 : x.cells.all AV.one = true) (hz : z.size = k) (hz1 : z.cells.all AV.one = true) :
    vop σ p (.buildSl k 1 z [(0, x)]) = some { val := .osl p k 0 1 false, up := [(p, some ⟨[x], k, false⟩)] } := by
  rw [vop_buildSl]
  have e : vfillEls k (List.replicate 1 z) [(0, x)] = some [x] := by simp only [vfillEls, List.replicate_succ, List.replicate_zero]; rw [if_pos ⟨hx, by simp, hx1⟩]; rfl
  rw [e]; simp only []; rw [if_pos ⟨hz, hz1⟩, if_neg (by decide)]
theorem bs2 {σ : Store} {p : Id} {k : Nat} {z x y : AV} (hx : x.size = k) (hx1 : x.cells.all AV.one = true) (hy : y.size = k) (hy1 : y.cells.all AV.one = true) (hz : z.size = k) (hz1 : z.cells.all AV.one = true) :
    vop σ p (.buildSl k 2 z [(0, x), (1, y)]) = some { val := .osl p k 0 2 false, up := [(p, some ⟨[x, y], k, false⟩)] } := by
  rw [vop_buildSl]
  have e : vfillEls k (List.replicate 2 z) [(0, x), (1, y)] = some [x, y] := by
    simp only [vfillEls, List.replicate_succ, List.replicate_zero]
    rw [if_pos ⟨hx, by simp, hx1⟩, if_pos ⟨hy, by simp, hy1⟩]; rfl
  rw [e]; simp only []; rw [if_pos ⟨hz, hz1⟩, if_neg (by decide)]
section
variable {P : Program} {G : Nat → Option (List AV)}
theorem endQ_ret {p : Id} {S : List (Id × Blk)} {rs : List VRes} {r : Res} {s : VS} : EndQ G p S rs r .ret s = ∃ r0, outAV rs s = some r0 ∧ Fin G p S s.σ r0 r := by simp [EndQ]
theorem endQ_normal {p : Id} {S : List (Id × Blk)} {rs : List VRes} {r : Res} {s : VS} : EndQ G p S rs r .normal s = ∃ r0, outAV rs s = some r0 ∧ Fin G p S s.σ r0 r := by simp [EndQ]
theorem endQ_of_same {p : Id} {S : List (Id × Blk)} {rs : List VRes} {r : Res} {s : VS} (h : outAV rs s = some r.val) (hs : ∀ i, (Store.of S).app r.up i = none ∨ (Store.of S).app r.up i = s.σ i) : ∃ r0, outAV rs s = some r0 ∧ Fin G p S s.σ r0 r := ⟨_, h, Fin.same rfl hs⟩
end
theorem load_put {σ : Store} {id : Id} {x : AV} {k : Nat} {b agg : Bool} {n o : Nat} : vload (σ.put id (some ⟨[x], k, b⟩)) agg n (.ref id 0 o) = (part agg x.cells o n).map fun v => { val := v, rd := [id] } :=
  vload_ref (Store.put_same _ _ _) rfl
theorem load_skip {σ : Store} {id id' : Id} {b : Option Blk} {agg : Bool} {n e o : Nat} (h : id' ≠ id) : vload (σ.put id b) agg n (.ref id' e o) = vload σ agg n (.ref id' e o) := by
  unfold vload; simp only [Store.put_other _ _ _ h]
theorem vstore_at {σ : Store} {id : Id} {els : List AV} {k n e o : Nat} {el v : AV} (h : σ id = some ⟨els, k, false⟩) (he : els[e]? = some el) (hn : v.cells.length = n) (ho : o + n ≤ el.size) (h1 : v.cells.all AV.one = true) :
    vstore σ n (.ref id e o) v = some { val := .tup [], rd := [id], up := [(id, some ⟨els.set e (el.upd o v.cells), k, false⟩)] } := by
  simp only [vstore, h, he]
  rw [if_pos ⟨trivial, hn, ho, h1⟩]
section
variable {P : Program} {G : Nat → Option (List AV)} {π : Id} {Q : VExit → VS → Prop} {s : VS}
end
end Go.VL
end

section
set_option linter.unusedSimpArgs false
namespace Go.VL
def isLetterB (c : UInt8) : Bool := (decide ((97 : Int) ≤ c.toNat) && decide ((c.toNat : Int) ≤ 122)) || (decide ((65 : Int) ≤ c.toNat) && decide ((c.toNat : Int) ≤ 90))
def isDigitB (c : UInt8) : Bool := decide ((48 : Int) ≤ c.toNat) && decide ((c.toNat : Int) ≤ 57)
def isWordB (c : UInt8) : Bool := isLetterB c || isDigitB c || decide ((c.toNat : Int) = 95)
def byteAV (c : UInt8) : AV := .int .u8 c.toNat
theorem byteAV_pure (c : UInt8) : PureAV (byteAV c) := PureAV.int _ _
section
variable {P : Program} {G : Nat → Option (List AV)}
theorem isLetter_ok {f : FuncId} (h : Has P f w_lexer_isLetter) (c : UInt8) : VP P G f [byteAV c] (.bool (isLetterB c)) := by
  refine VP.has h ?_
  unfold isLetterB
  by_cases h1 : (97 : Int) ≤ c.toNat <;> by_cases h2 : (c.toNat : Int) ≤ 122 <;> by_cases h3 : (65 : Int) ≤ c.toNat <;> by_cases h4 : (c.toNat : Int) ≤ 90 <;>
    (simp only [w_lexer_isLetter, byteAV, SS, Nat.reduceAdd, reduceIte, h1, h2, h3, h4, decide_true, decide_false, Bool.and_self, Bool.and_true, Bool.and_false, Bool.or_false, Bool.or_true, Bool.or_self, Bool.false_and, Bool.true_and]
     exact retQ_ret ▸ retQ_of_pure rfl (PureAV.bool _))
theorem isDigit_ok {f : FuncId} (h : Has P f w_lexer_isDigit) (c : UInt8) : VP P G f [byteAV c] (.bool (isDigitB c)) := by
  refine VP.has h ?_
  unfold isDigitB
  by_cases h1 : (48 : Int) ≤ c.toNat <;> by_cases h2 : (c.toNat : Int) ≤ 57 <;>
    (simp only [w_lexer_isDigit, byteAV, SS, Nat.reduceAdd, reduceIte, h1, h2, decide_true, decide_false, Bool.and_self, Bool.and_true, Bool.and_false, Bool.or_false, Bool.or_true, Bool.or_self, Bool.false_and, Bool.true_and]
     exact retQ_ret ▸ retQ_of_pure rfl (PureAV.bool _))
theorem isWord_ok {f fl fd : FuncId} (h : Has P f (w_lexer_isWord fl fd)) (hl : ∀ c, VP P G fl [byteAV c] (.bool (isLetterB c))) (hd : ∀ c, VP P G fd [byteAV c] (.bool (isDigitB c))) (c : UInt8) :
    VP P G f [byteAV c] (.bool (isWordB c)) := by
  refine VP.has h ?_
  simp only [w_lexer_isWord, SS, Nat.reduceAdd, reduceIte]
  refine vsCall_VP (hl c) (by simp [byteAV_pure]) ?_
  unfold isWordB
  cases h1 : isLetterB c
  · simp only [SS, Nat.reduceAdd, reduceIte]
    refine vsCall_VP (hd c) (by simp [byteAV_pure]) ?_
    cases h2 : isDigitB c
    · by_cases h3 : (c.toNat : Int) = 95 <;>
      (simp only [SS, Nat.reduceAdd, reduceIte, byteAV, h3, decide_true, decide_false, Bool.or_false, Bool.or_true, Bool.or_self]
       exact retQ_ret ▸ retQ_of_pure rfl (PureAV.bool _))
    · simp only [SS, Nat.reduceAdd, reduceIte, Bool.or_true, Bool.true_or]
      exact retQ_ret ▸ retQ_of_pure rfl (PureAV.bool _)
  · simp only [SS, Nat.reduceAdd, reduceIte, Bool.true_or]
    exact retQ_ret ▸ retQ_of_pure rfl (PureAV.bool _)
def spanN (p : UInt8 → Bool) (s : List UInt8) : Nat := (s.takeWhile p).length
theorem spanN_le (p : UInt8 → Bool) : ∀ s : List UInt8, spanN p s ≤ s.length
  | [] => Nat.le_refl _
  | c :: s => by unfold spanN; simp only [List.takeWhile_cons]; split <;> simp; exact spanN_le p s
theorem spanN_at (p : UInt8 → Bool) : ∀ (s : List UInt8) (k : Nat), k < spanN p s → ∃ c, s[k]? = some c ∧ p c = true
  | [], k, h => by simp [spanN] at h
  | c :: s, k, h => by
    unfold spanN at h; simp only [List.takeWhile_cons] at h
    split at h
    · rename_i hc
      cases k with
      | zero => exact ⟨c, rfl, hc⟩
      | succ k => simpa using spanN_at p s k (by simpa [spanN] using h)
    · simp at h
theorem spanN_stop (p : UInt8 → Bool) : ∀ (s : List UInt8), s[spanN p s]? = none ∨ ∃ c, s[spanN p s]? = some c ∧ p c = false
  | [] => .inl rfl
  | c :: s => by
    unfold spanN; simp only [List.takeWhile_cons]
    split
    · simpa [spanN] using spanN_stop p s
    · rename_i hc; exact .inr ⟨c, rfl, by simpa using hc⟩
theorem indexS_at {s : List UInt8} {k : Nat} {c : UInt8} (h : s[k]? = some c) : (if (0 : Int) ≤ (k : Int) then noIds ((s[(k : Int).toNat]?).map fun b => AV.int .u8 b.toNat) else none) = noIds (some (byteAV c)) := by
  rw [if_pos (by omega), Int.toNat_natCast, h]; rfl
theorem wrap_succ_i64 (k : Nat) (h : k < 9223372036854775807) : IntKind.i64.wrap ((k : Int) + 1) = ((k + 1 : Nat) : Int) := by rw [IntKind.wrap_i64]; omega
theorem span_ok {f fw : FuncId} (h : Has P f w_lexer_span) {p : UInt8 → Bool} (hw : ∀ c, VP P G fw [byteAV c] (.bool (p c))) (s : List UInt8) (hs : s.length < 9223372036854775807) :
    VP P G f [.str s, .fn (.func fw) [] []] (.int .i64 (spanN p s)) := by
  refine VP.has h ?_
  simp only [w_lexer_span, SS, Nat.reduceAdd, reduceIte, vwp_loop]
  refine VW.loopQ (α := Nat × Nat) (fun x => ⟨[.str s, .fn (.func fw) [] [], .top, .top, .top, .int .i64 x.1] ++ List.replicate 14 .top, fun _ => none, x.2⟩) (fun x => x.1 ≤ spanN p s) (fun x => spanN p s - x.1) (0, 2) ?_ (Nat.zero_le _) ?_
  · exact Wk.slots (by simp [Fg, List.replicate]) (Nat.le_refl _)
  rintro ⟨k, n⟩ hk
  simp only [] at hk
  have hkl := spanN_le p s
  simp only [SS, Nat.reduceAdd, reduceIte]
  by_cases hlt : k < spanN p s
  · obtain ⟨c, hc, hpc⟩ := spanN_at p s k hlt
    have h1 : (k : Int) < (s.length : Int) := by omega
    simp only [SS, Nat.reduceAdd, reduceIte, h1, decide_true, indexS_at hc]
    refine vsCall_VP (hw c) (by simp [byteAV_pure]) ?_
    rw [hpc]
    simp only [SS, Nat.reduceAdd, reduceIte, wrap_succ_i64 k (by omega)]
    exact ⟨(k + 1, _), by simp only []; omega, by simp only []; omega, Wk.slots (by simp [Fg, List.replicate]) (Nat.le_refl _)⟩
  · have hke : k = spanN p s := by omega
    rcases spanN_stop p s with h0 | ⟨c, hc, hpc⟩
    · have h1 : ¬ (k : Int) < (s.length : Int) := by have := List.getElem?_eq_none_iff.1 h0; omega
      simp only [SS, Nat.reduceAdd, reduceIte, h1, decide_false]
      rw [hke]
      exact retQ_ret ▸ retQ_of_pure rfl (PureAV.int _ _)
    · have h1 : (k : Int) < (s.length : Int) := by have := (List.getElem?_eq_some_iff.1 hc).1; omega
      rw [← hke] at hc
      simp only [SS, Nat.reduceAdd, reduceIte, h1, decide_true, indexS_at hc]
      refine vsCall_VP (hw c) (by simp [byteAV_pure]) ?_
      rw [hpc]
      simp only [SS, Nat.reduceAdd, reduceIte]
      rw [hke]
      exact retQ_ret ▸ retQ_of_pure rfl (PureAV.int _ _)
def isNameB (s : List UInt8) : Bool := match s with
  | [] => false
  | c :: _ => decide (s.length ≤ 24) && isLetterB c && decide (spanN isWordB s = s.length)
theorem isName_ok {f fl fs fw : FuncId} (h : Has P f (w_lexer_IsName fl fs fw)) (hl : ∀ c, VP P G fl [byteAV c] (.bool (isLetterB c)))
    (hs : ∀ s : List UInt8, s.length < 9223372036854775807 → VP P G fs [.str s, .fn (.func fw) [] []] (.int .i64 (spanN isWordB s))) (s : List UInt8) : VP P G f [.str s] (.bool (isNameB s)) := by
  refine VP.has h ?_
  cases s with
  | nil =>
    simp only [w_lexer_IsName, SS, Nat.reduceAdd, reduceIte, Bool.not_eq_eq_eq_not]
    exact retQ_ret ▸ retQ_of_pure rfl (PureAV.bool _)
  | cons c s =>
    have e0 : (!((c :: s) == ([] : List UInt8))) = true := rfl
    by_cases h1 : (((s.length + 1 : Nat)) : Int) ≤ 24
    · have e1 : (if (0 : Int) ≤ 0 then noIds (Option.map (fun b => AV.int IntKind.u8 ↑b.toNat) (c :: s)[Int.toNat 0]?) else none) = noIds (some (byteAV c)) := rfl
      simp only [w_lexer_IsName, SS, Nat.reduceAdd, reduceIte, e0, h1, decide_true, e1]
      refine vsCall_VP (hl c) (by simp [byteAV_pure]) ?_
      cases h2 : isLetterB c
      · simp only [SS, Nat.reduceAdd, reduceIte]
        have : isNameB (c :: s) = false := by unfold isNameB; simp [h2]
        rw [this]
        exact retQ_ret ▸ retQ_of_pure rfl (PureAV.bool _)
      · simp only [SS, Nat.reduceAdd, reduceIte]
        refine vsCall_VP (hs (c :: s) (by simp only [List.length_cons]; omega)) (by simp; exact ⟨PureAV.str _, PureAV.fn (by simp) (by simp)⟩) ?_
        by_cases h3 : spanN isWordB (c :: s) = (s.length + 1)
        · have h4 : (spanN isWordB (c :: s) : Int) = ((s.length + 1 : Nat) : Int) := by omega
          simp only [SS, Nat.reduceAdd, reduceIte, h4, decide_true]
          have : isNameB (c :: s) = true := by unfold isNameB; simp [h2, h3]; omega
          rw [this]
          exact retQ_ret ▸ retQ_of_pure rfl (PureAV.bool _)
        · have h4 : ¬ (spanN isWordB (c :: s) : Int) = ((s.length + 1 : Nat) : Int) := by omega
          simp only [SS, Nat.reduceAdd, reduceIte, h4, decide_false]
          have : isNameB (c :: s) = false := by unfold isNameB; simp [h3]
          rw [this]
          exact retQ_ret ▸ retQ_of_pure rfl (PureAV.bool _)
    · simp only [w_lexer_IsName, SS, Nat.reduceAdd, reduceIte, e0, h1, decide_false]
      have : isNameB (c :: s) = false := by unfold isNameB; simp only [List.length_cons]; simp; intro h; omega
      rw [this]
      exact retQ_ret ▸ retQ_of_pure rfl (PureAV.bool _)
end
end Go.VL
end

section
set_option linter.unusedSimpArgs false
namespace Go.VL
theorem iaddrS_sl {k kk : Nat} {es : List AV} {e : AV} {ik : IntKind} {i : Nat} (hk : kk = k) (h : es[i]? = some e) : viaddrS k (.sl kk es) (.int ik (i : Int)) = some (.ep e.cells 0) := by
  subst hk
  simp [viaddrS, h]
def idxI : Option Nat → Int
  | some i => i
  | none => -1
theorem findIdx_none {α : Type} {p : α → Bool} {l : List α} (h : ∀ (j : Nat) x, l[j]? = some x → p x = false) : l.findIdx? p = none := by
  rw [List.findIdx?_eq_none_iff]
  intro x hx
  obtain ⟨j, hj⟩ := List.getElem?_of_mem hx
  exact h j x hj
theorem findIdx_some {α : Type} {p : α → Bool} {l : List α} {i : Nat} {x : α} (hi : l[i]? = some x) (hx : p x = true) (h : ∀ (j : Nat) x, j < i → l[j]? = some x → p x = false) : l.findIdx? p = some i := by
  rw [List.findIdx?_eq_some_iff_getElem]
  obtain ⟨hlt, he⟩ := List.getElem?_eq_some_iff.1 hi
  refine ⟨hlt, by rw [he]; exact hx, fun j hji => ?_⟩
  have := h j _ hji (List.getElem?_eq_getElem (by omega))
  simp [this]
section
variable {P : Program} {G : Nat → Option (List AV)}
end
end Go.VL
end

section
namespace Go.VL
def B32 : Nat := 4294967296
theorem B32_gt : 1 < B32 := by decide
theorem B32_pos : 0 < B32 := by decide
def val : List Nat → Nat
  | [] => 0
  | w :: r => w + B32 * val r
def Wd (ws : List Nat) : Prop := ∀ w ∈ ws, w < B32
def digits (n : Nat) : List Nat := if _h : n = 0 then [] else n % B32 :: digits (n / B32)
termination_by n
decreasing_by exact Nat.div_lt_self (Nat.pos_of_ne_zero _h) B32_gt
theorem digits_zero : digits 0 = [] := by rw [digits]; simp
theorem digits_pos {n : Nat} (h : n ≠ 0) : digits n = n % B32 :: digits (n / B32) := by rw [digits]; simp [h]
theorem val_digits (n : Nat) : val (digits n) = n := by
  induction n using Nat.strongRecOn with
  | _ n ih =>
    by_cases h : n = 0
    · subst h; rw [digits_zero]; rfl
    · rw [digits_pos h, val, ih _ (Nat.div_lt_self (Nat.pos_of_ne_zero h) B32_gt)]
      exact Nat.mod_add_div n B32
theorem digits_wd (n : Nat) : Wd (digits n) := by
  induction n using Nat.strongRecOn with
  | _ n ih =>
    by_cases h : n = 0
    · subst h; rw [digits_zero]; intro w hw; simp at hw
    · rw [digits_pos h]
      intro w hw
      rcases List.mem_cons.1 hw with rfl | hw
      · exact Nat.mod_lt _ (by decide)
      · exact ih _ (Nat.div_lt_self (Nat.pos_of_ne_zero h) B32_gt) w hw
theorem digits_eq_nil {n : Nat} : digits n = [] ↔ n = 0 := by
  constructor
  · intro h
    have := val_digits n
    rw [h] at this
    exact this.symm
  · rintro rfl; exact digits_zero
theorem val_append (a b : List Nat) : val (a ++ b) = val a + B32 ^ a.length * val b := by
  induction a with
  | nil => simp [val]
  | cons x a ih =>
    simp only [List.cons_append, val, ih, List.length_cons, Nat.pow_succ]
    rw [Nat.mul_add, ← Nat.add_assoc]
    congr 1
    rw [← Nat.mul_assoc, Nat.mul_comm (B32 ^ a.length) B32]
theorem val_lt {ws : List Nat} (h : Wd ws) : val ws < B32 ^ ws.length := by
  induction ws with
  | nil => simp [val]
  | cons w ws ih =>
    have h1 := ih (fun x hx => h x (List.mem_cons_of_mem _ hx))
    have h2 := h w (by simp)
    simp only [val, List.length_cons, Nat.pow_succ]
    have h3 : B32 * (val ws + 1) ≤ B32 * B32 ^ ws.length := Nat.mul_le_mul_left _ h1
    rw [Nat.mul_comm (B32 ^ ws.length) B32]
    rw [Nat.mul_add] at h3
    omega
theorem val_zeros {ws : List Nat} (h : ∀ w ∈ ws, w = 0) : val ws = 0 := by
  induction ws with
  | nil => rfl
  | cons w ws ih => simp only [val]; rw [ih (fun x hx => h x (List.mem_cons_of_mem _ hx)), h w (by simp)]; rfl
theorem digits_val {ws : List Nat} (h : Wd ws) (h0 : ws = [] ∨ ∃ w, ws.getLast? = some w ∧ w ≠ 0) : digits (val ws) = ws := by
  induction ws with
  | nil => simp [val, digits_zero]
  | cons w ws ih =>
    have hw := h w (by simp)
    have hws : Wd ws := fun x hx => h x (List.mem_cons_of_mem _ hx)
    cases ws with
    | nil =>
      rcases h0 with h0 | ⟨x, hx, hne⟩
      · simp at h0
      · simp at hx; subst hx
        simp only [val, Nat.mul_zero, Nat.add_zero]
        rw [digits_pos hne, Nat.mod_eq_of_lt hw, Nat.div_eq_of_lt hw, digits_zero]
    | cons y ws =>
      have hl : ∃ x, (y :: ws).getLast? = some x ∧ x ≠ 0 := by
        rcases h0 with h0 | ⟨x, hx, hne⟩
        · simp at h0
        · exact ⟨x, by simpa [List.getLast?_cons_cons] using hx, hne⟩
      have hih := ih hws (.inr hl)
      have hv : val (y :: ws) ≠ 0 := by
        intro e
        have : digits (val (y :: ws)) = [] := by rw [e, digits_zero]
        rw [hih] at this; simp at this
      have hne : val (w :: y :: ws) ≠ 0 := by
        simp only [val] at hv ⊢
        have : 0 < B32 * (y + B32 * val ws) := Nat.mul_pos (by decide) (Nat.pos_of_ne_zero hv)
        omega
      rw [digits_pos hne]
      have e1 : val (w :: y :: ws) % B32 = w := by
        show (w + B32 * val (y :: ws)) % B32 = w
        rw [Nat.add_mul_mod_self_left]; exact Nat.mod_eq_of_lt hw
      have e2 : val (w :: y :: ws) / B32 = val (y :: ws) := by
        show (w + B32 * val (y :: ws)) / B32 = _
        rw [Nat.add_mul_div_left _ _ (by decide), Nat.div_eq_of_lt hw, Nat.zero_add]
      rw [e1, e2, hih]
theorem digits_last {n : Nat} : digits n = [] ∨ ∃ w, (digits n).getLast? = some w ∧ w ≠ 0 := by
  induction n using Nat.strongRecOn with
  | _ n ih =>
    by_cases h : n = 0
    · left; subst h; exact digits_zero
    · right
      rw [digits_pos h]
      rcases ih _ (Nat.div_lt_self (Nat.pos_of_ne_zero h) B32_gt) with h1 | ⟨w, h1, h2⟩
      · have hd := digits_eq_nil.1 h1
        rw [h1]
        refine ⟨n % B32, rfl, ?_⟩
        rw [Nat.mod_eq_of_lt]
        · exact h
        · rcases Nat.div_eq_zero_iff.1 hd with h3 | h3
          · exact absurd h3 (by decide)
          · exact h3
      · cases hd : digits (n / B32) with
        | nil => rw [hd] at h1; simp at h1
        | cons x xs => rw [hd] at h1; exact ⟨w, by simpa [List.getLast?_cons_cons] using h1, h2⟩
theorem val_snoc_zero (ws : List Nat) : val (ws ++ [0]) = val ws := by rw [val_append]; simp [val]
theorem wd_take {ws : List Nat} (h : Wd ws) (k : Nat) : Wd (ws.take k) := fun w hw => h w (List.mem_of_mem_take hw)
theorem wd_append {a b : List Nat} (ha : Wd a) (hb : Wd b) : Wd (a ++ b) := fun w hw => (List.mem_append.1 hw).elim (ha w) (hb w)
def wlen (n : Nat) : Nat := (digits n).length
theorem lt_pow_wlen (n : Nat) : n < B32 ^ wlen n := by have := val_lt (digits_wd n); rwa [val_digits] at this
theorem wlen_le {n k : Nat} (h : n < B32 ^ k) : wlen n ≤ k := by
  induction k generalizing n with
  | zero => simp at h; subst h; simp [wlen, digits_zero]
  | succ k ih =>
    by_cases h0 : n = 0
    · subst h0; simp [wlen, digits_zero]
    · unfold wlen
      rw [digits_pos h0]
      have : n / B32 < B32 ^ k := by rw [Nat.pow_succ] at h; exact Nat.div_lt_of_lt_mul (by rwa [Nat.mul_comm])
      have := ih this
      simp only [List.length_cons]
      unfold wlen at this
      omega
theorem wlen_mono {m n : Nat} (h : m ≤ n) : wlen m ≤ wlen n := wlen_le (Nat.lt_of_le_of_lt h (lt_pow_wlen n))
theorem pow_wlen_le {n : Nat} (h : n ≠ 0) : B32 ^ (wlen n - 1) ≤ n := by
  rcases Nat.lt_or_ge n (B32 ^ (wlen n - 1)) with h1 | h1
  · have := wlen_le h1
    have h2 : 0 < wlen n := by
      unfold wlen
      cases hd : digits n with
      | nil => exact absurd (digits_eq_nil.1 hd) h
      | cons _ _ => simp
    omega
  · exact h1
theorem wlen_mul (m n : Nat) : wlen (m * n) ≤ wlen m + wlen n := by
  refine wlen_le ?_
  rw [Nat.pow_add]
  exact Nat.mul_lt_mul'' (lt_pow_wlen m) (lt_pow_wlen n)
end Go.VL
end

section
set_option linter.unusedSimpArgs false
namespace Go.VL
def us (ws : List Nat) : List AV := ws.map fun w : Nat => .int .u32 (w : Int)
def W (n : Nat) : AV := .sl 1 (us (digits n))
theorem us_len (ws : List Nat) : (us ws).length = ws.length := by simp [us]
theorem us_get {ws : List Nat} {i w : Nat} (h : ws[i]? = some w) : (us ws)[i]? = some (.int .u32 (w : Int)) := by simp [us, h]
theorem us_take (ws : List Nat) (k : Nat) : (us ws).take k = us (ws.take k) := by simp [us, List.map_take]
theorem us_append (a b : List Nat) : us (a ++ b) = us a ++ us b := by simp [us]
theorem us_flat (ws : List Nat) : flat (us ws) = us ws := by
  induction ws with
  | nil => rfl
  | cons w ws ih => simp only [us, List.map_cons, flat, List.flatMap_cons, AV.cells] at ih ⊢; rw [ih]; rfl
theorem us_pure (ws : List Nat) : PureAV (.sl 1 (us ws)) := PureAV.sl (by rw [us_flat]; intro c hc; simp only [us, List.mem_map] at hc; obtain ⟨w, _, rfl⟩ := hc; exact PureAV.int _ _)
theorem us_pures (ws : List Nat) : ∀ c ∈ flat (us ws), PureAV c := by rw [us_flat]; intro c hc; simp only [us, List.mem_map] at hc; obtain ⟨w, _, rfl⟩ := hc; exact PureAV.int _ _
theorem us_size (ws : List Nat) : ∀ e ∈ us ws, e.size = 1 := by intro e he; simp only [us, List.mem_map] at he; obtain ⟨w, _, rfl⟩ := he; rfl
theorem us_one (ws : List Nat) : ((us ws).all fun e => e.cells.all AV.one) = true := by rw [List.all_eq_true]; intro e he; simp only [us, List.mem_map] at he; obtain ⟨w, _, rfl⟩ := he; rfl
theorem W_pure (n : Nat) : PureAV (W n) := us_pure _
theorem part_int {k : IntKind} {n : Int} : part false (AV.int k n).cells 0 1 = some (.int k n) := rfl
theorem wrap_pred_i64 (k : Nat) (h : 0 < k) (h2 : k ≤ 9223372036854775807) : IntKind.i64.wrap ((k : Int) - 1) = ((k - 1 : Nat) : Int) := by rw [IntKind.wrap_i64]; omega
theorem dec_true {p : Prop} [Decidable p] (h : p) : decide p = true := decide_eq_true h
theorem dec_false {p : Prop} [Decidable p] (h : ¬ p) : decide p = false := decide_eq_false h
theorem slice_to {k kk : Nat} {es : List AV} {h : Nat} (hk : kk = k) (hh : h ≤ es.length) : vslice k (.sl kk es) none (some (.int .i64 (h : Int))) none = some (.sl k (es.take h)) := by
  subst hk
  simp [vslice, vbounds, vbound, hh]
section
variable {P : Program} {G : Nat → Option (List AV)}
theorem trim_ok {f : FuncId} (h : Has P f w_integer_trim) {ws : List Nat} (hw : Wd ws) (hl : ws.length ≤ 9223372036854775807) : VP P G f [.sl 1 (us ws)] (W (val ws)) := by
  refine VP.has h ?_
  simp only [w_integer_trim, SS, Nat.reduceAdd, reduceIte, vwp_loop]
  refine VW.loopQ (α := Nat × Nat) (fun x => ⟨[.sl 1 (us (ws.take x.1))] ++ List.replicate 20 .top, fun _ => none, x.2⟩) (fun x => x.1 ≤ ws.length ∧ val (ws.take x.1) = val ws) (fun x => x.1) (ws.length, 1) ?_ ⟨Nat.le_refl _, by rw [List.take_length]⟩ ?_
  · exact Wk.slots (by simp [Fg, List.replicate]) (Nat.le_refl _)
  rintro ⟨k, n⟩ ⟨hk, hv⟩
  simp only [] at hk hv
  have hlk : (us (ws.take k)).length = k := by rw [us_len, List.length_take]; omega
  simp only [SS, Nat.reduceAdd, reduceIte, hlk]
  by_cases h0 : k = 0
  · subst h0
    have d0 : decide ((0 : Int) < ((0 : Nat) : Int)) = false := by decide
    simp only [SS, Nat.reduceAdd, reduceIte, d0]
    refine retQ_ret ▸ retQ_of_pure (r := W (val ws)) ?_ (W_pure _)
    have : digits (val ws) = [] := by rw [← hv]; simp [val, digits_zero]
    simp [outAV, resAV, W, us, this]
  · have hpos : 0 < k := Nat.pos_of_ne_zero h0
    have d0 : decide ((0 : Int) < (k : Int)) = true := dec_true (by omega)
    have hw1 := wrap_pred_i64 k hpos (by omega)
    obtain ⟨w, hwk⟩ : ∃ w, ws[k - 1]? = some w := ⟨ws[k - 1], by rw [List.getElem?_eq_getElem]⟩
    have hwk' : (ws.take k)[k - 1]? = some w := by rw [List.getElem?_take_of_lt (by omega)]; exact hwk
    have htk : ws.take k = ws.take (k - 1) ++ [w] := by
      have := List.take_add_one (l := ws) (i := k - 1)
      rw [hwk, show k - 1 + 1 = k from by omega] at this
      simpa using this
    have hkl : k - 1 ≤ (us (ws.take k)).length := by rw [hlk]; omega
    by_cases hz : w = 0
    · have d1 : decide ((w : Int) = 0) = true := dec_true (by omega)
      simp only [SS, Nat.reduceAdd, reduceIte, d0, hw1, iaddrS_sl rfl (us_get hwk'), vload_ep, part_int, d1, hlk, slice_to rfl hkl]
      have hm : min (k - 1) k = k - 1 := Nat.min_eq_left (Nat.sub_le _ _)
      refine ⟨(k - 1, _), ⟨by simp only []; omega, ?_⟩, by simp only []; omega, Wk.slots (by simp [Fg, List.replicate, us_take, List.take_take, hm]) (Nat.le_refl _)⟩
      simp only []
      rw [← hv, htk, hz, val_snoc_zero]
    · have d1 : decide ((w : Int) = 0) = false := dec_false (by omega)
      simp only [SS, Nat.reduceAdd, reduceIte, d0, hw1, iaddrS_sl rfl (us_get hwk'), vload_ep, part_int, d1, hlk]
      refine retQ_ret ▸ retQ_of_pure (r := W (val ws)) ?_ (W_pure _)
      have e : digits (val ws) = ws.take k := by
        rw [← hv]
        exact digits_val (wd_take hw k) (.inr ⟨w, by rw [htk]; simp, hz⟩)
      simp [outAV, resAV, W, e]
end
end Go.VL
end

section
set_option linter.unusedSimpArgs false
namespace Go.VL
def cmpI (a b : Int) : Int := if a < b then -1 else if b < a then 1 else 0
def cmpN (m n : Nat) : Int := cmpI m n
def IV (z : Int) : AV := .agg [.bool (decide (z < 0)), W z.natAbs]
def sgn (neg : Bool) (n : Nat) : Int := if neg then -(n : Int) else n
theorem IV_pure (z : Int) : PureAV (IV z) := PureAV.agg (by intro c hc; simp at hc; rcases hc with rfl | rfl; exact PureAV.bool _; exact W_pure _)
theorem IV_one (z : Int) : ((IV z).cells.all AV.one = true) = True := by simp [IV, AV.cells, AV.one, W]
theorem IV_p0 (z : Int) : part false (IV z).cells 0 1 = some (.bool (decide (z < 0))) := rfl
theorem IV_p1 (z : Int) : part false (IV z).cells 1 1 = some (W z.natAbs) := rfl
theorem IV_all (z : Int) : part true (IV z).cells 0 2 = some (IV z) := rfl
theorem view_us {id : Id} {ws : List Nat} {b t : Bool} {n : Nat} (hn : n = ws.length) : View (Store.of [(id, ⟨us ws, 1, b⟩)]) (.osl id 1 0 n t) (.sl 1 (us ws)) := by
  subst hn
  refine View.osl (bk := ⟨us ws, 1, b⟩) (by simp [Store.of]) rfl (by rw [us_len]; omega) ?_ (by rw [us_len]) (us_size ws)
  rw [List.drop_zero, List.take_of_length_le (by rw [us_len]; exact Nat.le_refl _)]
  exact ViewL.pure (us_pures ws)
theorem val_cmp {a b : List Nat} (ha : Wd a) (_hb : Wd b) (hl : a.length = b.length) {i x y : Nat} (hx : a[i]? = some x) (hy : b[i]? = some y) (hd : a.drop (i + 1) = b.drop (i + 1)) (hxy : x < y) : val a < val b := by
  have hia := (List.getElem?_eq_some_iff.1 hx).1
  have hib := (List.getElem?_eq_some_iff.1 hy).1
  have ea : a = a.take i ++ x :: a.drop (i + 1) := by
    have := List.take_append_drop i a
    rw [List.drop_eq_getElem_cons hia] at this
    obtain ⟨_, h2⟩ := List.getElem?_eq_some_iff.1 hx
    rw [h2] at this; exact this.symm
  have eb : b = b.take i ++ y :: b.drop (i + 1) := by
    have := List.take_append_drop i b
    rw [List.drop_eq_getElem_cons hib] at this
    obtain ⟨_, h2⟩ := List.getElem?_eq_some_iff.1 hy
    rw [h2] at this; exact this.symm
  rw [ea, eb, val_append, val_append, ← hd]
  have hta : (a.take i).length = i := by rw [List.length_take]; omega
  have htb : (b.take i).length = i := by rw [List.length_take]; omega
  have h1 := val_lt (wd_take ha i)
  rw [hta] at h1 ⊢
  rw [htb]
  simp only [val]
  have h2 : B32 ^ i * (x + 1) ≤ B32 ^ i * y := Nat.mul_le_mul_left _ hxy
  rw [Nat.mul_add, Nat.mul_one] at h2
  rw [Nat.mul_add, Nat.mul_add]
  omega
section
variable {P : Program} {G : Nat → Option (List AV)}
theorem nan_int_ok {f : FuncId} (h : Has P f w_cmp_isNaN_int) (a : Int) : VP P G f [.int .i64 a] (.bool false) := by
  refine VP.has h ?_
  have e : decide (a ≠ a) = false := by simp
  simp only [w_cmp_isNaN_int, SS, Nat.reduceAdd, reduceIte, e]
  exact retQ_ret ▸ retQ_of_pure rfl (PureAV.bool _)
theorem cmp_int_ok {f fn : FuncId} (h : Has P f (w_cmp_Compare_int fn)) (hn : ∀ a, VP P G fn [.int .i64 a] (.bool false)) (a b : Int) : VP P G f [.int .i64 a, .int .i64 b] (.int .i64 (cmpI a b)) := by
  refine VP.has h ?_
  simp only [w_cmp_Compare_int, SS, Nat.reduceAdd, reduceIte]
  refine vsCall_VP (hn a) (by simp [PureAV.int]) ?_
  simp only [SS, Nat.reduceAdd, reduceIte]
  refine vsCall_VP (hn b) (by simp [PureAV.int]) ?_
  unfold cmpI
  by_cases h1 : a < b
  · simp only [SS, Nat.reduceAdd, reduceIte, h1, decide_true]
    exact retQ_ret ▸ retQ_of_pure rfl (PureAV.int _ _)
  · by_cases h2 : b < a
    · simp only [SS, Nat.reduceAdd, reduceIte, h1, h2, decide_true, decide_false]
      exact retQ_ret ▸ retQ_of_pure rfl (PureAV.int _ _)
    · simp only [SS, Nat.reduceAdd, reduceIte, h1, h2, decide_false]
      exact retQ_ret ▸ retQ_of_pure rfl (PureAV.int _ _)
theorem nan_uint32_ok {f : FuncId} (h : Has P f w_cmp_isNaN_uint32) (a : Int) : VP P G f [.int .u32 a] (.bool false) := by
  refine VP.has h ?_
  have e : decide (a ≠ a) = false := by simp
  simp only [w_cmp_isNaN_uint32, SS, Nat.reduceAdd, reduceIte, e]
  exact retQ_ret ▸ retQ_of_pure rfl (PureAV.bool _)
theorem cmp_uint32_ok {f fn : FuncId} (h : Has P f (w_cmp_Compare_uint32 fn)) (hn : ∀ a, VP P G fn [.int .u32 a] (.bool false)) (a b : Int) : VP P G f [.int .u32 a, .int .u32 b] (.int .i64 (cmpI a b)) := by
  refine VP.has h ?_
  simp only [w_cmp_Compare_uint32, SS, Nat.reduceAdd, reduceIte]
  refine vsCall_VP (hn a) (by simp [PureAV.int]) ?_
  simp only [SS, Nat.reduceAdd, reduceIte]
  refine vsCall_VP (hn b) (by simp [PureAV.int]) ?_
  unfold cmpI
  by_cases h1 : a < b
  · simp only [SS, Nat.reduceAdd, reduceIte, h1, decide_true]
    exact retQ_ret ▸ retQ_of_pure rfl (PureAV.int _ _)
  · by_cases h2 : b < a
    · simp only [SS, Nat.reduceAdd, reduceIte, h1, h2, decide_true, decide_false]
      exact retQ_ret ▸ retQ_of_pure rfl (PureAV.int _ _)
    · simp only [SS, Nat.reduceAdd, reduceIte, h1, h2, decide_false]
      exact retQ_ret ▸ retQ_of_pure rfl (PureAV.int _ _)
def TrimC (P : Program) (G : Nat → Option (List AV)) (f : FuncId) : Prop := ∀ ws : List Nat, Wd ws → ws.length ≤ 9223372036854775807 → VP P G f [.sl 1 (us ws)] (W (val ws))
theorem fromUint_ok {f ft : FuncId} (h : Has P f (w_integer_fromUint ft)) (ht : TrimC P G ft) (n : Nat) (hn : n < 18446744073709551616) : VP P G f [.int .u64 (n : Int)] (W n) := by
  refine VP.has h ?_
  have e1 : IntKind.u32.wrap (n : Int) = ((n % B32 : Nat) : Int) := by rw [IntKind.wrap_u32]; unfold B32; omega
  have e2 : vbinq .shr .int (.int .u64 (n : Int)) (.int .u64 32) = some (.int .u64 ((n / B32 : Nat) : Int)) := by
    rw [bin_shr (by decide)]
    have : (n : Int).fdiv (2 ^ (min (32 : Int).toNat IntKind.u64.bits)) = ((n / B32 : Nat) : Int) := by
      show (n : Int).fdiv (2 ^ 32) = _
      rw [Int.fdiv_eq_ediv_of_nonneg _ (by decide)]; unfold B32; omega
    rw [this]
  have e3 : IntKind.u32.wrap ((n / B32 : Nat) : Int) = ((n / B32 : Nat) : Int) := by rw [IntKind.wrap_u32]; unfold B32; omega
  have hb : ∀ (σ : Store) (q : Id), vop σ q (.buildSl 1 2 (.int .u32 0) [(0, .int .u32 ((n % B32 : Nat) : Int)), (1, .int .u32 ((n / B32 : Nat) : Int))]) = some { val := .osl q 1 0 2 false, up := [(q, some ⟨us [n % B32, n / B32], 1, false⟩)] } := fun σ q => bs2 rfl rfl rfl rfl rfl rfl
  have hw : Wd [n % B32, n / B32] := by intro w hw; simp at hw; rcases hw with rfl | rfl <;> unfold B32 <;> omega
  have hv : val [n % B32, n / B32] = n := by simp [val, Nat.mod_add_div]
  have ht' := ht [n % B32, n / B32] hw (by simp)
  rw [hv] at ht'
  simp only [w_integer_fromUint, SS, Nat.reduceAdd, reduceIte, e1, e2, e3, hb]
  refine vsCall_view [([6], ⟨us [n % B32, n / B32], 1, false⟩)] ht' (ViewL.cons (view_us rfl) ViewL.nil) (by simp [Store.put]) ?_
  simp only [SS, Nat.reduceAdd, reduceIte]
  exact retQ_ret ▸ retQ_of_pure rfl (W_pure _)
theorem signed_ok {f ft : FuncId} (h : Has P f (w_integer_signed ft)) (ht : TrimC P G ft) (neg : Bool) {ws : List Nat} (hw : Wd ws) (hl : ws.length ≤ 9223372036854775807) : VP P G f [.bool neg, .sl 1 (us ws)] (IV (sgn neg (val ws))) := by
  refine VP.has h ?_
  have z1 : (AV.cells (.agg [(.bool false), .nils])).all AV.one = true := rfl
  have hlen : ∀ m, vlen false (W m) = some (.int .i64 (digits m).length) := fun m => by simp [W, vlen, us_len]
  simp only [w_integer_signed, SS, Nat.reduceAdd, reduceIte, z1]
  refine vsCall_VP (ht ws hw hl) (by simp [us_pure]) ?_
  simp only [SS, Nat.reduceAdd, reduceIte, hlen]
  by_cases h0 : val ws = 0
  · have d0 : decide (((digits (val ws)).length : Int) = 0) = true := dec_true (by rw [h0, digits_zero]; rfl)
    have e : vfill [.bool false, .nils] [] = some [.bool false, .nils] := rfl
    have e2 : ∀ (σ : Store) (id : Id) (k : Nat), vstore (σ.put id (some ⟨[.agg [.bool false, .nils]], k, false⟩)) 2 (.ref id 0 0) (.agg [.bool false, .nils]) = some { val := .tup [], rd := [id], up := [(id, some ⟨[.agg [.bool false, .nils]], k, false⟩)] } := by
      intro σ id k
      rw [vstore_at (n := 2) (v := .agg [.bool false, .nils]) (els := [.agg [.bool false, .nils]]) (k := k) (Store.put_same _ _ _) rfl rfl (by simp [AV.size, AV.cells]) rfl]
      rfl
    simp only [SS, Nat.reduceAdd, reduceIte, d0, e, e2]
    refine retQ_ret ▸ ⟨.agg [.bool false, .nils], ?_, ?_⟩
    · simp only [RS, outAV, resAV, load_put]; rfl
    · have : IV (sgn neg (val ws)) = .agg [.bool false, .sl 1 []] := by rw [h0]; cases neg <;> simp [IV, sgn, W, digits_zero, us]
      rw [this]
      exact View.agg (ViewL.cons (View.pure (PureAV.bool _)) (ViewL.cons (View.nils 1) ViewL.nil))
  · have hne : (digits (val ws)).length ≠ 0 := by intro e; exact h0 (digits_eq_nil.1 (List.length_eq_zero_iff.1 e))
    have d0 : decide (((digits (val ws)).length : Int) = 0) = false := dec_false (by omega)
    have e : vfill [.bool false, .nils] [(0, (1, .bool neg)), (1, (1, W (val ws)))] = some [.bool neg, W (val ws)] := rfl
    have e2 : ∀ (σ : Store) (id : Id) (k : Nat), vstore (σ.put id (some ⟨[.agg [.bool false, .nils]], k, false⟩)) 2 (.ref id 0 0) (.agg [.bool neg, W (val ws)]) = some { val := .tup [], rd := [id], up := [(id, some ⟨[.agg [.bool neg, W (val ws)]], k, false⟩)] } := by
      intro σ id k
      rw [vstore_at (n := 2) (v := .agg [.bool neg, W (val ws)]) (els := [.agg [.bool false, .nils]]) (k := k) (Store.put_same _ _ _) rfl rfl (by simp [AV.size, AV.cells]) rfl]
      rfl
    simp only [SS, Nat.reduceAdd, reduceIte, d0, e, e2]
    have ei : IV (sgn neg (val ws)) = .agg [.bool neg, W (val ws)] := by
      cases neg
      · simp only [IV, sgn]; simp <;> omega
      · simp only [IV, sgn]; simp <;> omega
    rw [ei]
    refine retQ_ret ▸ retQ_of_pure (r := .agg [.bool neg, W (val ws)]) ?_ (PureAV.agg (by intro c hc; simp at hc; rcases hc with rfl | rfl; exact PureAV.bool _; exact W_pure _))
    simp only [RS, outAV, resAV, load_put]; rfl
end
end Go.VL
end

section
set_option linter.unusedSimpArgs false
namespace Go.VL
theorem cmpI_lt {a b : Int} (h : a < b) : cmpI a b = -1 := by simp [cmpI, h]
theorem cmpI_gt {a b : Int} (h : b < a) : cmpI a b = 1 := by simp [cmpI, h]; omega
theorem cmpI_eq {a b : Int} (h : a = b) : cmpI a b = 0 := by simp [cmpI, h]
theorem W_len (m : Nat) : vlen false (W m) = some (.int .i64 (wlen m)) := by simp [W, vlen, us_len, wlen]
theorem lt_of_wlen {m n : Nat} (h : wlen m < wlen n) : m < n := by
  rcases Nat.lt_or_ge m n with h1 | h1
  · exact h1
  · have := wlen_mono h1; omega
theorem W_get {m i w : Nat} (h : (digits m)[i]? = some w) : viaddrS 1 (W m) (.int .i64 (i : Int)) = some (.ep (AV.int .u32 (w : Int)).cells 0) := iaddrS_sl rfl (us_get h)
section
variable {P : Program} {G : Nat → Option (List AV)}
theorem compare_ok {f fi fw : FuncId} (h : Has P f (w_integer_compare fi fw)) (hi : ∀ a b : Int, VP P G fi [.int .i64 a, .int .i64 b] (.int .i64 (cmpI a b))) (hw : ∀ a b : Int, VP P G fw [.int .u32 a, .int .u32 b] (.int .i64 (cmpI a b)))
    (m n : Nat) (hm : wlen m < 9223372036854775807) (hn : wlen n < 9223372036854775807) : VP P G f [W m, W n] (.int .i64 (cmpN m n)) := by
  refine VP.has h ?_
  simp only [w_integer_compare, SS, Nat.reduceAdd, reduceIte, W_len]
  by_cases hl : wlen m = wlen n
  case neg =>
    have d : decide ((wlen m : Int) ≠ (wlen n : Int)) = true := dec_true (by omega)
    simp only [SS, Nat.reduceAdd, reduceIte, W_len, d]
    refine vsCall_VP (hi _ _) (by simp [PureAV.int]) ?_
    simp only [SS, Nat.reduceAdd, reduceIte]
    have e : cmpI (wlen m : Int) (wlen n : Int) = cmpN m n := by
      rcases Nat.lt_or_ge (wlen m) (wlen n) with h1 | h1
      · have h2 := lt_of_wlen h1
        rw [cmpI_lt (by omega)]; unfold cmpN; rw [cmpI_lt (by omega)]
      · have h1' : wlen n < wlen m := by omega
        have h2 := lt_of_wlen h1'
        rw [cmpI_gt (by omega)]; unfold cmpN; rw [cmpI_gt (by omega)]
    rw [e]
    exact retQ_ret ▸ retQ_of_pure rfl (PureAV.int _ _)
  have d : decide ((wlen m : Int) ≠ (wlen n : Int)) = false := dec_false (by omega)
  have ew : IntKind.i64.wrap ((wlen m : Int) - 1) = (wlen m : Int) - 1 := by rw [IntKind.wrap_i64]; omega
  have hd0 : (digits m).drop (wlen m) = (digits n).drop (wlen m) := by
    have e1 : (digits m).drop (wlen m) = [] := List.drop_of_length_le (Nat.le_refl _)
    have e2 : (digits n).drop (wlen m) = [] := List.drop_of_length_le (by show wlen n ≤ wlen m; omega)
    rw [e1, e2]
  simp only [SS, Nat.reduceAdd, reduceIte, W_len, d, ew, vwp_loop]
  refine VW.loopQ (α := Nat × Nat) (fun x => ⟨[W m, W n, .top, .top, .top, .int .i64 ((x.1 : Int) - 1)] ++ List.replicate 35 .top, fun _ => none, x.2⟩) (fun x => x.1 ≤ wlen m ∧ (digits m).drop x.1 = (digits n).drop x.1) (fun x => x.1) (wlen m, 10) ?_
    ⟨Nat.le_refl _, hd0⟩ ?_
  · exact Wk.slots (by simp [Fg, List.replicate]) (Nat.le_refl _)
  rintro ⟨j, q⟩ ⟨hj, hd⟩
  simp only [] at hj hd
  simp only [SS, Nat.reduceAdd, reduceIte]
  by_cases h0 : j = 0
  · subst h0
    have d0 : decide ((0 : Int) ≤ ((0 : Nat) : Int) - 1) = false := by decide
    simp only [SS, Nat.reduceAdd, reduceIte, d0]
    have e : m = n := by
      simp only [List.drop_zero] at hd
      rw [← val_digits m, hd, val_digits]
    have e2 : cmpN m n = 0 := cmpI_eq (by omega)
    rw [e2]
    exact retQ_ret ▸ retQ_of_pure rfl (PureAV.int _ _)
  · have hpos : 0 < j := Nat.pos_of_ne_zero h0
    have d0 : decide ((0 : Int) ≤ ((j - 1 : Nat) : Int)) = true := dec_true (by omega)
    have ej : (j : Int) - 1 = ((j - 1 : Nat) : Int) := by omega
    have hjm : j - 1 < (digits m).length := by show j - 1 < wlen m; omega
    have hjn : j - 1 < (digits n).length := by show j - 1 < wlen n; omega
    have ew2 : IntKind.i64.wrap (((j - 1 : Nat) : Int) - 1) = ((j - 1 : Nat) : Int) - 1 := by rw [IntKind.wrap_i64]; omega
    obtain ⟨x, hx⟩ : ∃ x, (digits m)[j - 1]? = some x := ⟨_, List.getElem?_eq_getElem hjm⟩
    obtain ⟨y, hy⟩ : ∃ y, (digits n)[j - 1]? = some y := ⟨_, List.getElem?_eq_getElem hjn⟩
    have hd' : (digits m).drop (j - 1 + 1) = (digits n).drop (j - 1 + 1) := by rw [show j - 1 + 1 = j from by omega]; exact hd
    have hap : allApart (([] : List Res)) ([] : List (Nat × Nat)) := by simp [allApart]
    by_cases hxy : x = y
    · have d1 : decide ((x : Int) ≠ (y : Int)) = false := dec_false (by omega)
      simp only [SS, DD, Nat.reduceAdd, reduceIte, d0, ej, W_get hx, W_get hy, vload_ep, part_int, d1, ew2]
      refine ⟨by simp [allApart], (j - 1, _), ⟨by simp only []; omega, ?_⟩, by simp only []; omega, Wk.slots (by simp [Fg, List.replicate]) (Nat.le_refl _)⟩
      simp only []
      rw [List.drop_eq_getElem_cons hjm, List.drop_eq_getElem_cons hjn, hd']
      obtain ⟨_, h1⟩ := List.getElem?_eq_some_iff.1 hx
      obtain ⟨_, h2⟩ := List.getElem?_eq_some_iff.1 hy
      rw [h1, h2, hxy]
    · have d1 : decide ((x : Int) ≠ (y : Int)) = true := dec_true (by omega)
      have e : cmpI (x : Int) (y : Int) = cmpN m n := by
        rcases Nat.lt_or_ge x y with h1 | h1
        · have := val_cmp (digits_wd m) (digits_wd n) hl hx hy hd' h1
          rw [val_digits, val_digits] at this
          rw [cmpI_lt (by omega)]; unfold cmpN; rw [cmpI_lt (by omega)]
        · have := val_cmp (digits_wd n) (digits_wd m) hl.symm hy hx hd'.symm (by omega)
          rw [val_digits, val_digits] at this
          rw [cmpI_gt (by omega)]; unfold cmpN; rw [cmpI_gt (by omega)]
      simp only [SS, DD, Nat.reduceAdd, reduceIte, d0, ej, W_get hx, W_get hy, vload_ep, part_int, d1]
      refine ⟨by simp [allApart], ?_⟩
      refine vdCall_VP (hw _ _) (by simp [PureAV.int]) ?_
      simp only [SS, DD, Nat.reduceAdd, reduceIte, e]
      refine ⟨by simp [allApart], ?_⟩
      exact retQ_ret ▸ retQ_of_pure rfl (PureAV.int _ _)
end
end Go.VL
end

section
set_option linter.unusedSimpArgs false
namespace Go.VL
theorem digits_of_ge {o : List Nat} (h : Wd o) (hge : o = [] ∨ B32 ^ (o.length - 1) ≤ val o) : digits (val o) = o := by
  refine digits_val h ?_
  rcases hge with h0 | hge
  · exact .inl h0
  · by_cases h0 : o = []
    · exact .inl h0
    · right
      refine ⟨o.getLast h0, List.getLast?_eq_some_getLast h0, fun hz => ?_⟩
      have e := List.dropLast_concat_getLast h0
      rw [hz] at e
      have hv : val o = val o.dropLast := by rw [← e, val_snoc_zero, List.dropLast_concat]
      have hlt := val_lt (ws := o.dropLast) (fun w hw => h w ((List.dropLast_sublist _).subset hw))
      rw [List.length_dropLast] at hlt
      omega
theorem val_take_succ {a : List Nat} {i x : Nat} (h : a[i]? = some x) : val (a.take (i + 1)) = val (a.take i) + B32 ^ i * x := by
  have hlt := (List.getElem?_eq_some_iff.1 h).1
  have e : a.take (i + 1) = a.take i ++ [x] := by rw [List.take_add_one, h]; rfl
  rw [e, val_append]
  have : (a.take i).length = i := by rw [List.length_take]; omega
  rw [this]; simp [val]
theorem val_take_past {a : List Nat} {i : Nat} (h : a.length ≤ i) : val (a.take (i + 1)) = val (a.take i) := by
  rw [List.take_of_length_le h, List.take_of_length_le (by omega)]
theorem sum_step {o : List Nat} {i c va vb x y s : Nat} (ho : o.length = i) (hv : val o + B32 ^ i * c = va + vb) (hs : s = c + x + y) : val (o ++ [s % B32]) + B32 ^ (i + 1) * (s / B32) = (va + B32 ^ i * x) + (vb + B32 ^ i * y) := by
  have e2 := Nat.mod_add_div s B32
  rw [val_append, ho]
  simp only [val, Nat.mul_zero, Nat.add_zero, Nat.pow_succ]
  rw [Nat.mul_assoc, Nat.add_assoc, ← Nat.mul_add, e2, hs]
  rw [Nat.mul_add, Nat.mul_add]
  omega
theorem wd_snoc {o : List Nat} (h : Wd o) (s : Nat) : Wd (o ++ [s % B32]) := wd_append h (by intro w hw; simp at hw; subst hw; exact Nat.mod_lt _ B32_pos)
theorem w32 (s : Nat) : IntKind.u32.wrap (s : Int) = ((s % B32 : Nat) : Int) := by rw [IntKind.wrap_u32]; unfold B32; omega
theorem w64 (s : Nat) (h : s < 18446744073709551616) : IntKind.u64.wrap (s : Int) = (s : Int) := by rw [IntKind.wrap_u64]; omega
theorem shr32 (s : Nat) : vbinq .shr .int (.int .u64 (s : Int)) (.int .u64 32) = some (.int .u64 ((s / B32 : Nat) : Int)) := by
  rw [bin_shr (by decide)]
  have : (s : Int).fdiv (2 ^ (min (32 : Int).toNat IntKind.u64.bits)) = ((s / B32 : Nat) : Int) := by
    show (s : Int).fdiv (2 ^ 32) = _
    rw [Int.fdiv_eq_ediv_of_nonneg _ (by decide)]; unfold B32; omega
  rw [this]
theorem w64_word (x : Nat) (h : x < B32) : IntKind.u64.wrap (x : Int) = (x : Int) := w64 x (by unfold B32 at h; omega)
theorem add64 (a b : Nat) (h : a + b < 18446744073709551616) : IntKind.u64.wrap ((a : Int) + (b : Int)) = ((a + b : Nat) : Int) := by rw [IntKind.wrap_u64]; omega
theorem bs_us {σ : Store} {q : Id} {x : Nat} : vop σ q (.buildSl 1 1 (.int .u32 0) [(0, .int .u32 (x : Int))]) = some { val := .osl q 1 0 1 false, up := [(q, some ⟨us [x], 1, false⟩)] } := bs1 rfl rfl rfl rfl
theorem mk_us {p : Id} {c : Nat} (h : c * 4 ≤ 140737488355328) : vmksl p 1 4 (.int .u32 0) (.int .i64 0) (.int .i64 (c : Int)) = some { val := .osl p 1 0 0 false, up := [(p, some ⟨us [], 1, false⟩)] } := by
  have hm := le_maxLen (n := c) (by omega)
  show (if (0 : Int) ≤ 0 ∧ (0 : Int) ≤ (c : Int) ∧ (c : Int) * ((4 : Nat) : Int) ≤ 140737488355328 ∧ (c : Int) ≤ ((maxLen : Nat) : Int) ∧ (AV.int IntKind.u32 0).size = 1 ∧ (AV.int IntKind.u32 0).cells.all AV.one = true then _ else none) = _
  rw [if_pos ⟨by omega, by omega, by omega, by omega, rfl, rfl⟩]
  rfl
theorem app_us {σ : Store} {p id q : Id} {o : List Nat} {x len : Nat} (hq : q ≠ id) (hl : len = o.length) (hb : (len + 1) * 4 ≤ 140737488355328) (h : σ id = some ⟨us o, 1, false⟩) :
    vappend (σ.put q (some ⟨us [x], 1, false⟩)) p 1 4 (.osl id 1 0 len false) (.osl q 1 0 1 false) = some { val := .osl p 1 0 (len + 1) false, rd := [id, q], up := [(id, none), (p, some ⟨us (o ++ [x]), 1, false⟩)] } := by
  have := vappend_full (σ := σ.put q (some ⟨us [x], 1, false⟩)) (p := p) (id := id) (k := 1) (bytes := 4) (len := len) (els := us o) (x := .osl q 1 0 1 false) (ys := us [x]) (rd := [q])
    (elemsOf_osl (bk := ⟨us [x], 1, false⟩) (Store.put_same _ _ _) rfl (by simp [us_len])) (by simp [us]) (by rw [Store.put_other _ _ _ hq.symm]; exact h) (by rw [us_len]; exact hl) (by rw [us_len]; exact hb) (le_maxLen (by rw [us_len]; simp; omega)) (us_one _) (us_one _)
  rw [this, us_append]
  simp [us_len]
theorem ret_us {rs : List VRes} {s : VS} {id : Id} {n : Nat} {t b : Bool} {o : List Nat} (h1 : outAV rs s = some (.osl id 1 0 n t)) (h2 : s.σ id = some ⟨us o, 1, b⟩) (hn : n = o.length) : ∃ r0, outAV rs s = some r0 ∧ View s.σ r0 (.sl 1 (us o)) := by
  subst hn
  refine ⟨_, h1, View.osl (bk := ⟨us o, 1, b⟩) h2 rfl (by simp [us_len]) ?_ (by rw [us_len]) (us_size o)⟩
  rw [List.drop_zero, List.take_of_length_le (by rw [us_len]; exact Nat.le_refl _)]
  exact ViewL.pure (us_pures o)
section
variable {P : Program} {G : Nat → Option (List AV)}
theorem plus_ok {f : FuncId} (h : Has P f w_integer_plus) (m n : Nat) (hm : wlen m ≤ 1000000) (hn : wlen n ≤ 1000000) : VP P G f [W m, W n] (W (m + n)) := by
  refine VP.has h ?_
  simp only [w_integer_plus, SS, Nat.reduceAdd, reduceIte, W_len]
  by_cases hs : wlen m < wlen n
  · have hle : wlen m ≤ wlen n := by omega
    have hlx : wlen n ≤ 1000000 := hn
    have hd : decide ((wlen m : Int) < (wlen n : Int)) = true := by first | exact dec_true (by omega) | exact dec_false (by omega)
    have ew : IntKind.i64.wrap ((wlen n : Int) + 1) = ((wlen n + 1 : Nat) : Int) := wrap_succ_i64 _ (by omega)
    have hmk : ∀ p : Id, vmksl p 1 4 (.int .u32 0) (.int .i64 0) (.int .i64 ((wlen n + 1 : Nat) : Int)) = some { val := .osl p 1 0 0 false, up := [(p, some ⟨us [], 1, false⟩)] } := fun p => mk_us (by omega)
    simp only [SS, Nat.reduceAdd, reduceIte, W_len, hd, ew, hmk, vwp_loop]
    refine VW.loopQ (α := Nat × Nat × Nat × List Nat × Nat) (fun x => ⟨[W n, W m, .top, .top, .top, .osl [x.2.2.1] 1 0 x.1 false, .int .u64 (x.2.2.2.2 : Int), .top, .top] ++ List.replicate 11 .top ++ [W n, .int .i64 (wlen n), .int .i64 x.1] ++ List.replicate 35 .top,
      Store.put (fun _ => none) [x.2.2.1] (some ⟨us x.2.2.2.1, 1, false⟩), x.2.1⟩)
      (fun x => x.1 ≤ wlen n ∧ x.2.2.1 < x.2.1 ∧ x.2.2.2.1.length = x.1 ∧ Wd x.2.2.2.1 ∧ x.2.2.2.2 ≤ 1 ∧ val x.2.2.2.1 + B32 ^ x.1 * x.2.2.2.2 = val ((digits n).take x.1) + val ((digits m).take x.1)) (fun x => wlen n - x.1) (0, 19, 13, [], 0) ?_ ?_ ?_
    · exact Wk.slots (by simp [Fg, List.replicate]) (Nat.le_refl _)
    · exact ⟨Nat.zero_le _, by decide, rfl, by intro w hw; simp at hw, by decide, by simp [val]⟩
    rintro ⟨i, nn, q, o, c⟩ ⟨hi, hq, ho, hwd, hc, hv⟩
    simp only [] at hi hq ho hwd hc hv
    have hd1 : i < wlen n → decide ((i : Int) < (wlen n : Int)) = true := fun h => dec_true (by omega)
    have hd2 : ¬ i < wlen n → decide ((i : Int) < (wlen n : Int)) = false := fun h => dec_false (by omega)
    have hb4 : (i + 1) * 4 ≤ 140737488355328 := by omega
    have hie : ¬ i < wlen n → i = wlen n := by omega
    have hwi := wrap_succ_i64 i (by omega)
    simp only [SS, Nat.reduceAdd, reduceIte]
    by_cases hlt : i < wlen n
    · have hs1 : i + 1 ≤ wlen n ∧ wlen n - (i + 1) < wlen n - i := by omega
      obtain ⟨a, ha⟩ : ∃ a, (digits n)[i]? = some a := ⟨_, List.getElem?_eq_getElem hlt⟩
      have haw := digits_wd n a (List.mem_of_getElem? ha)
      have f1 := w64_word a haw
      have f2 := add64 c a (by unfold B32 at haw; omega)
      by_cases hy : i < wlen m
      · obtain ⟨b, hb⟩ : ∃ b, (digits m)[i]? = some b := ⟨_, List.getElem?_eq_getElem hy⟩
        have hbw := digits_wd m b (List.mem_of_getElem? hb)
        have d3 : decide ((i : Int) < (wlen m : Int)) = true := dec_true (by omega)
        have f3 := w64_word b hbw
        have f4 := add64 (c + a) b (by unfold B32 at haw hbw; omega)
        have hc2 : (c + a + b) / B32 ≤ 1 := by unfold B32 at haw hbw ⊢; omega
        simp only [SS, Nat.reduceAdd, reduceIte, hd1 hlt, W_get ha, W_get hb, W_len, vload_ep, part_int, f1, f2, d3, f3, f4, w32, bs_us]
        rw [app_us (o := o)]
        · simp only [SS, Nat.reduceAdd, reduceIte, shr32, hwi]
          refine ⟨(i + 1, _, nn + 1 + 5 + 5 + 4 + 8 + 4, o ++ [(c + a + b) % B32], (c + a + b) / B32), ⟨hs1.1, ?_, by simp [ho], wd_snoc hwd _, hc2, ?_⟩, hs1.2, Wk.forget (by simp [Fg, List.replicate]) (fun j => ?_) (Nat.le_refl _)⟩
          · simp only []; omega
          · show val (o ++ [(c + a + b) % B32]) + B32 ^ (i + 1) * ((c + a + b) / B32) = _
            rw [val_take_succ ha, val_take_succ hb]
            exact sum_step ho hv rfl
          · simp only [Store.put]; split <;> simp
        · intro e; simp at e; omega
        · exact ho.symm
        · exact hb4
        · exact Store.put_same _ _ _
      · have d3 : decide ((i : Int) < (wlen m : Int)) = false := dec_false (by omega)
        have hc2 : (c + a) / B32 ≤ 1 := by unfold B32 at haw ⊢; omega
        simp only [SS, Nat.reduceAdd, reduceIte, hd1 hlt, W_get ha, W_len, vload_ep, part_int, f1, f2, d3, w32, bs_us]
        rw [app_us (o := o)]
        · simp only [SS, Nat.reduceAdd, reduceIte, shr32, hwi]
          refine ⟨(i + 1, _, nn + 1 + 5 + 5 + 4 + 4, o ++ [(c + a) % B32], (c + a) / B32), ⟨hs1.1, ?_, by simp [ho], wd_snoc hwd _, hc2, ?_⟩, hs1.2, Wk.forget (by simp [Fg, List.replicate]) (fun j => ?_) (Nat.le_refl _)⟩
          · simp only []; omega
          · show val (o ++ [(c + a) % B32]) + B32 ^ (i + 1) * ((c + a) / B32) = _
            rw [val_take_succ ha, val_take_past (by show wlen m ≤ i; omega)]
            have := sum_step (x := a) (y := 0) (s := c + a) ho hv (by omega)
            simpa using this
          · simp only [Store.put]; split <;> simp
        · intro e; simp at e; omega
        · exact ho.symm
        · exact hb4
        · exact Store.put_same _ _ _
    · have hiw := hie hlt
      have hsum : val o + B32 ^ i * c = m + n := by
        have e1 : (digits n).take (wlen n) = digits n := List.take_of_length_le (Nat.le_refl _)
        have e2 : (digits m).take (wlen n) = digits m := List.take_of_length_le hle
        rw [hv, hiw, e1, e2, val_digits, val_digits]
        all_goals omega
      by_cases h0 : c = 0
      · have d4 : decide ((0 : Int) < (c : Int)) = false := dec_false (by omega)
        have e : W (m + n) = .sl 1 (us o) := by
          rw [h0] at hsum
          simp only [Nat.mul_zero, Nat.add_zero] at hsum
          unfold W
          rw [← hsum, digits_of_ge hwd]
          rcases Nat.eq_zero_or_pos i with h1 | h1
          · left; rw [h1] at ho; exact List.length_eq_zero_iff.1 ho
          · right
            rw [hsum, ho, hiw]
            have hx0 : n ≠ 0 := by rintro e; rw [e] at hiw; simp [wlen, digits_zero] at hiw; omega
            have := pow_wlen_le hx0
            omega
        simp only [SS, Nat.reduceAdd, reduceIte, hd2 hlt, d4]
        rw [e]
        exact retQ_ret ▸ ret_us (b := false) rfl (by simp [Store.put]) ho.symm
      · have hc1 : c = 1 := by omega
        have d4 : decide ((0 : Int) < (c : Int)) = true := dec_true (by omega)
        have e1 : c % B32 = 1 := by rw [hc1]; rfl
        have e : W (m + n) = .sl 1 (us (o ++ [1])) := by
          have hv1 : val (o ++ [1]) = m + n := by rw [val_append, ho, ← hsum, hc1]; simp [val]
          unfold W
          rw [← hv1, digits_val (wd_append hwd (by intro w hw; simp at hw; subst hw; decide)) (.inr ⟨1, by simp, by decide⟩)]
        simp only [SS, Nat.reduceAdd, reduceIte, hd2 hlt, d4, w32, e1, bs_us]
        rw [app_us (o := o)]
        · simp only [SS, Nat.reduceAdd, reduceIte]
          rw [e]
          exact retQ_ret ▸ ret_us (b := false) rfl (by simp [Store.put]) (by simp [ho])
        · intro e; simp at e; omega
        · exact ho.symm
        · exact hb4
        · exact Store.put_same _ _ _
  · have hle : wlen n ≤ wlen m := by omega
    have hlx : wlen m ≤ 1000000 := hm
    have hd : decide ((wlen m : Int) < (wlen n : Int)) = false := by first | exact dec_true (by omega) | exact dec_false (by omega)
    have ew : IntKind.i64.wrap ((wlen m : Int) + 1) = ((wlen m + 1 : Nat) : Int) := wrap_succ_i64 _ (by omega)
    have hmk : ∀ p : Id, vmksl p 1 4 (.int .u32 0) (.int .i64 0) (.int .i64 ((wlen m + 1 : Nat) : Int)) = some { val := .osl p 1 0 0 false, up := [(p, some ⟨us [], 1, false⟩)] } := fun p => mk_us (by omega)
    simp only [SS, Nat.reduceAdd, reduceIte, W_len, hd, ew, hmk, vwp_loop]
    refine VW.loopQ (α := Nat × Nat × Nat × List Nat × Nat) (fun x => ⟨[W m, W n, .top, .top, .top, .osl [x.2.2.1] 1 0 x.1 false, .int .u64 (x.2.2.2.2 : Int), .top, .top] ++ List.replicate 11 .top ++ [W m, .int .i64 (wlen m), .int .i64 x.1] ++ List.replicate 35 .top,
      Store.put (fun _ => none) [x.2.2.1] (some ⟨us x.2.2.2.1, 1, false⟩), x.2.1⟩)
      (fun x => x.1 ≤ wlen m ∧ x.2.2.1 < x.2.1 ∧ x.2.2.2.1.length = x.1 ∧ Wd x.2.2.2.1 ∧ x.2.2.2.2 ≤ 1 ∧ val x.2.2.2.1 + B32 ^ x.1 * x.2.2.2.2 = val ((digits m).take x.1) + val ((digits n).take x.1)) (fun x => wlen m - x.1) (0, 15, 9, [], 0) ?_ ?_ ?_
    · exact Wk.slots (by simp [Fg, List.replicate]) (Nat.le_refl _)
    · exact ⟨Nat.zero_le _, by decide, rfl, by intro w hw; simp at hw, by decide, by simp [val]⟩
    rintro ⟨i, nn, q, o, c⟩ ⟨hi, hq, ho, hwd, hc, hv⟩
    simp only [] at hi hq ho hwd hc hv
    have hd1 : i < wlen m → decide ((i : Int) < (wlen m : Int)) = true := fun h => dec_true (by omega)
    have hd2 : ¬ i < wlen m → decide ((i : Int) < (wlen m : Int)) = false := fun h => dec_false (by omega)
    have hb4 : (i + 1) * 4 ≤ 140737488355328 := by omega
    have hie : ¬ i < wlen m → i = wlen m := by omega
    have hwi := wrap_succ_i64 i (by omega)
    simp only [SS, Nat.reduceAdd, reduceIte]
    by_cases hlt : i < wlen m
    · have hs1 : i + 1 ≤ wlen m ∧ wlen m - (i + 1) < wlen m - i := by omega
      obtain ⟨a, ha⟩ : ∃ a, (digits m)[i]? = some a := ⟨_, List.getElem?_eq_getElem hlt⟩
      have haw := digits_wd m a (List.mem_of_getElem? ha)
      have f1 := w64_word a haw
      have f2 := add64 c a (by unfold B32 at haw; omega)
      by_cases hy : i < wlen n
      · obtain ⟨b, hb⟩ : ∃ b, (digits n)[i]? = some b := ⟨_, List.getElem?_eq_getElem hy⟩
        have hbw := digits_wd n b (List.mem_of_getElem? hb)
        have d3 : decide ((i : Int) < (wlen n : Int)) = true := dec_true (by omega)
        have f3 := w64_word b hbw
        have f4 := add64 (c + a) b (by unfold B32 at haw hbw; omega)
        have hc2 : (c + a + b) / B32 ≤ 1 := by unfold B32 at haw hbw ⊢; omega
        simp only [SS, Nat.reduceAdd, reduceIte, hd1 hlt, W_get ha, W_get hb, W_len, vload_ep, part_int, f1, f2, d3, f3, f4, w32, bs_us]
        rw [app_us (o := o)]
        · simp only [SS, Nat.reduceAdd, reduceIte, shr32, hwi]
          refine ⟨(i + 1, _, nn + 1 + 5 + 5 + 4 + 8 + 4, o ++ [(c + a + b) % B32], (c + a + b) / B32), ⟨hs1.1, ?_, by simp [ho], wd_snoc hwd _, hc2, ?_⟩, hs1.2, Wk.forget (by simp [Fg, List.replicate]) (fun j => ?_) (Nat.le_refl _)⟩
          · simp only []; omega
          · show val (o ++ [(c + a + b) % B32]) + B32 ^ (i + 1) * ((c + a + b) / B32) = _
            rw [val_take_succ ha, val_take_succ hb]
            exact sum_step ho hv rfl
          · simp only [Store.put]; split <;> simp
        · intro e; simp at e; omega
        · exact ho.symm
        · exact hb4
        · exact Store.put_same _ _ _
      · have d3 : decide ((i : Int) < (wlen n : Int)) = false := dec_false (by omega)
        have hc2 : (c + a) / B32 ≤ 1 := by unfold B32 at haw ⊢; omega
        simp only [SS, Nat.reduceAdd, reduceIte, hd1 hlt, W_get ha, W_len, vload_ep, part_int, f1, f2, d3, w32, bs_us]
        rw [app_us (o := o)]
        · simp only [SS, Nat.reduceAdd, reduceIte, shr32, hwi]
          refine ⟨(i + 1, _, nn + 1 + 5 + 5 + 4 + 4, o ++ [(c + a) % B32], (c + a) / B32), ⟨hs1.1, ?_, by simp [ho], wd_snoc hwd _, hc2, ?_⟩, hs1.2, Wk.forget (by simp [Fg, List.replicate]) (fun j => ?_) (Nat.le_refl _)⟩
          · simp only []; omega
          · show val (o ++ [(c + a) % B32]) + B32 ^ (i + 1) * ((c + a) / B32) = _
            rw [val_take_succ ha, val_take_past (by show wlen n ≤ i; omega)]
            have := sum_step (x := a) (y := 0) (s := c + a) ho hv (by omega)
            simpa using this
          · simp only [Store.put]; split <;> simp
        · intro e; simp at e; omega
        · exact ho.symm
        · exact hb4
        · exact Store.put_same _ _ _
    · have hiw := hie hlt
      have hsum : val o + B32 ^ i * c = m + n := by
        have e1 : (digits m).take (wlen m) = digits m := List.take_of_length_le (Nat.le_refl _)
        have e2 : (digits n).take (wlen m) = digits n := List.take_of_length_le hle
        rw [hv, hiw, e1, e2, val_digits, val_digits]
        all_goals omega
      by_cases h0 : c = 0
      · have d4 : decide ((0 : Int) < (c : Int)) = false := dec_false (by omega)
        have e : W (m + n) = .sl 1 (us o) := by
          rw [h0] at hsum
          simp only [Nat.mul_zero, Nat.add_zero] at hsum
          unfold W
          rw [← hsum, digits_of_ge hwd]
          rcases Nat.eq_zero_or_pos i with h1 | h1
          · left; rw [h1] at ho; exact List.length_eq_zero_iff.1 ho
          · right
            rw [hsum, ho, hiw]
            have hx0 : m ≠ 0 := by rintro e; rw [e] at hiw; simp [wlen, digits_zero] at hiw; omega
            have := pow_wlen_le hx0
            omega
        simp only [SS, Nat.reduceAdd, reduceIte, hd2 hlt, d4]
        rw [e]
        exact retQ_ret ▸ ret_us (b := false) rfl (by simp [Store.put]) ho.symm
      · have hc1 : c = 1 := by omega
        have d4 : decide ((0 : Int) < (c : Int)) = true := dec_true (by omega)
        have e1 : c % B32 = 1 := by rw [hc1]; rfl
        have e : W (m + n) = .sl 1 (us (o ++ [1])) := by
          have hv1 : val (o ++ [1]) = m + n := by rw [val_append, ho, ← hsum, hc1]; simp [val]
          unfold W
          rw [← hv1, digits_val (wd_append hwd (by intro w hw; simp at hw; subst hw; decide)) (.inr ⟨1, by simp, by decide⟩)]
        simp only [SS, Nat.reduceAdd, reduceIte, hd2 hlt, d4, w32, e1, bs_us]
        rw [app_us (o := o)]
        · simp only [SS, Nat.reduceAdd, reduceIte]
          rw [e]
          exact retQ_ret ▸ ret_us (b := false) rfl (by simp [Store.put]) (by simp [ho])
        · intro e; simp at e; omega
        · exact ho.symm
        · exact hb4
        · exact Store.put_same _ _ _
end
end Go.VL
end
