/- For the claim of HistoryNeeds: parts YtcomlgfjnjpebaaGreatDoorFnA, YtcomlgfjnjpebaaGreatDoorFnTab, VL23, HX, YtcomlgfjnjpebaaGreatDoorKn, VL22, VL24, VL25, VL26. -/
import Derived.Test.YtcomlgfjnjpebaaGreatDoorC01
import Derived.Test.YtcomlgfjnjpebaaGreatDoorProg
import Derived.KernelRfl
import Derived.Test.YtcomlgfjnjpebaaGreatDoorC03

section
set_option maxRecDepth 100000
namespace Go.Proofs.YtcomlgfjnjpebaaGreatDoor
open Go.VL Go.Proofs
def v9 : VFunc := ⟨56, [(.tmp 0)], (.seq (.reg none [⟨(some 0), (.mv (.c (.bool false))), none⟩]) (.seq (.reg none [⟨(some 4), (.call (.f 13) []), none⟩, ⟨(some 1), (.mv (.t 4)), none⟩]) (.seq (.seq (.reg none [⟨(some 5), (.mv (.t 1)), none⟩, ⟨(some 6), (.bin .eql .ptr (.t 5) (.c .nilp)), none⟩]) (.cond (.t 6) (.seq (.reg none [⟨(some 0), (.mv (.c (.bool false))), none⟩]) .ret) .skip)) (.seq (.reg none [⟨(some 7), (.buildSl 1 1 (.str []) [(0, (.c (.str [97, 47, 115, 48])))]), none⟩, ⟨(some 8), (.build [(.str []), (.int .i64 (0)), .nils, .nils, (.bool false)] [(0, (1, (.c (.str [98])))), (1, (1, (.c (.int .i64 (5))))), (2, (1, (.t 7)))]), none⟩, ⟨(some 2), (.box (.c (.agg [(.str []), (.int .i64 (0)), .nils, .nils, (.bool false)]))), none⟩, ⟨none, (.store 5 (.t 2) (.t 8)), none⟩]) (.seq (.reg none [⟨(some 9), (.mv (.t 1)), none⟩, ⟨(some 10), (.call (.f 15) [(.c (.str [97]))]), none⟩, ⟨(some 11), (.call (.f 14) [(.t 9), (.t 10)]), none⟩, ⟨(some 12), (.bin .eql .int (.t 11) (.c (.int .i64 (0)))), none⟩, ⟨(some 13), (.mv (.t 12)), none⟩, ⟨(some 14), (.mv (.t 1)), (some (13, true))⟩, ⟨(some 15), (.load true 5 (.t 2)), (some (13, true))⟩, ⟨(some 16), (.call (.f 14) [(.t 14), (.t 15)]), (some (13, true))⟩, ⟨(some 17), (.bin .eql .int (.t 16) (.c (.int .i64 (0)))), (some (13, true))⟩, ⟨(some 18), (.pick (.t 13) (.t 17) (.c (.bool false))), none⟩, ⟨(some 19), (.mv (.t 18)), none⟩, ⟨(some 20), (.mv (.t 1)), (some (19, true))⟩, ⟨(some 21), (.call (.f 26) [(.t 20), (.c (.str [98])), (.c (.int .i64 (0)))]), (some (19, true))⟩, ⟨(some 22), (.bin .eql .int (.t 21) (.c (.int .i64 (14)))), (some (19, true))⟩, ⟨(some 23), (.pick (.t 19) (.t 22) (.c (.bool false))), none⟩, ⟨(some 24), (.mv (.t 23)), none⟩, ⟨(some 25), (.mv (.t 1)), (some (24, true))⟩, ⟨(some 26), (.call (.f 27) [(.t 25), (.c (.str [97]))]), (some (24, true))⟩, ⟨(some 27), (.bin .eql .int (.t 26) (.c (.int .i64 (14)))), (some (24, true))⟩, ⟨(some 28), (.pick (.t 24) (.t 27) (.c (.bool false))), none⟩, ⟨(some 29), (.mv (.t 28)), none⟩, ⟨(some 30), (.mv (.t 1)), (some (29, true))⟩, ⟨(some 31), (.call (.f 27) [(.t 30), (.c (.str [98]))]), (some (29, true))⟩, ⟨(some 32), (.bin .eql .int (.t 31) (.c (.int .i64 (0)))), (some (29, true))⟩, ⟨(some 33), (.pick (.t 29) (.t 32) (.c (.bool false))), none⟩, ⟨(some 34), (.mv (.t 33)), none⟩, ⟨(some 35), (.mv (.t 1)), (some (34, true))⟩, ⟨(some 36), (.call (.f 27) [(.t 35), (.c (.str [97]))]), (some (34, true))⟩, ⟨(some 37), (.bin .eql .int (.t 36) (.c (.int .i64 (0)))), (some (34, true))⟩, ⟨(some 38), (.pick (.t 34) (.t 37) (.c (.bool false))), none⟩, ⟨(some 3), (.mv (.t 38)), none⟩]) (.seq (.reg (some [(11, 13), (12, 13)]) [⟨(some 39), (.mv (.t 3)), none⟩, ⟨(some 40), (.mv (.t 39)), none⟩, ⟨(some 41), (.mv (.t 1)), (some (40, true))⟩, ⟨(some 42), (.call (.f 24) [(.t 41)]), (some (40, true))⟩, ⟨(some 43), (.pick (.t 40) (.t 42) (.c (.bool false))), none⟩, ⟨(some 44), (.mv (.t 43)), none⟩, ⟨(some 45), (.mv (.t 1)), (some (44, true))⟩, ⟨(some 46), (.call (.f 24) [(.t 45)]), (some (44, true))⟩, ⟨(some 47), (.pick (.t 44) (.t 46) (.c (.bool false))), none⟩, ⟨(some 48), (.mv (.t 47)), none⟩, ⟨(some 49), (.mv (.t 1)), (some (48, true))⟩, ⟨(some 50), (.call (.f 16) [(.t 49)]), (some (48, true))⟩, ⟨(some 51), (.call (.f 15) [(.c (.str [97]))]), (some (48, true))⟩, ⟨(some 52), (.load true 5 (.t 2)), (some (48, true))⟩, ⟨(some 53), (.buildSl 5 2 (.agg [(.str []), (.int .i64 (0)), .nils, .nils, (.bool false)]) [(0, (.t 51)), (1, (.t 52))]), (some (48, true))⟩, ⟨(some 54), (.call (.f 19) [(.t 50), (.t 53)]), (some (48, true))⟩, ⟨(some 55), (.pick (.t 48) (.t 54) (.c (.bool false))), none⟩, ⟨(some 0), (.mv (.t 55)), none⟩]) .ret))))))⟩
theorem c9 : cFunc Tryz.prog Tryz.f9 = some v9 := by kernel_rfl
def v11 : VFunc := ⟨34, [(.tmp 2)], (.seq (.reg none [⟨(some 1), (.box (.t 0)), none⟩, ⟨(some 2), (.mv (.c .nils)), none⟩]) (.seq (.seq (.reg none [⟨(some 9), (.load true 5 (.t 1)), none⟩, ⟨(some 10), (.call (.f 29) [(.t 9)]), none⟩, ⟨(some 11), (.un .not (.t 10)), none⟩]) (.cond (.t 11) (.seq (.reg none [⟨(some 2), (.mv (.c .nils)), none⟩]) .ret) .skip)) (.seq (.reg none [⟨(some 3), (.mv (.c .nils)), none⟩]) (.seq (.seq (.reg none [⟨(some 12), (.faddr 2 (.t 1)), none⟩, ⟨(some 13), (.load false 1 (.t 12)), none⟩, ⟨(some 14), (.len false (.t 13)), none⟩, ⟨(some 15), (.mv (.c (.int .i64 (0)))), none⟩]) (.block 0 (.loop (.seq (.reg none [⟨(some 16), (.bin .lss .int (.t 15) (.t 14)), none⟩]) (.seq (.cond (.t 16) .skip (.exit 0)) (.seq (.block 1 (.seq (.reg none [⟨(some 17), (.iaddrS 1 (.t 13) (.t 15)), none⟩, ⟨(some 18), (.load false 1 (.t 17)), none⟩, ⟨(some 5), (.mv (.t 18)), none⟩]) (.seq (.reg none [⟨(some 20), (.mv (.t 5)), none⟩, ⟨(some 21), (.call (.f 30) [(.t 20), (.c (.str [47]))]), none⟩, ⟨(some 19), (.mv (.t 21)), none⟩, ⟨(some 22), (.extract (.t 19) 0), none⟩, ⟨(some 23), (.extract (.t 19) 1), none⟩, ⟨(some 24), (.extract (.t 19) 2), none⟩, ⟨(some 6), (.mv (.t 22)), none⟩, ⟨(some 7), (.mv (.t 23)), none⟩, ⟨(some 8), (.mv (.t 24)), none⟩]) (.reg none [⟨(some 25), (.mv (.t 3)), none⟩, ⟨(some 26), (.mv (.t 6)), none⟩, ⟨(some 27), (.buildSl 1 1 (.str []) [(0, (.t 26))]), none⟩, ⟨(some 28), (.append 1 16 (.t 25) (.t 27)), none⟩, ⟨(some 3), (.mv (.t 28)), none⟩])))) (.reg none [⟨(some 29), (.bin .add .int (.t 15) (.c (.int .i64 (1)))), none⟩, ⟨(some 15), (.mv (.t 29)), none⟩]))))))) (.seq (.reg none [⟨(some 30), (.mv (.t 3)), none⟩, ⟨(some 31), (.call (.f 31) [(.t 30)]), none⟩]) (.seq (.reg none [⟨(some 32), (.mv (.t 3)), none⟩, ⟨(some 33), (.call (.f 32) [(.t 32)]), none⟩, ⟨(some 2), (.mv (.t 33)), none⟩]) .ret))))))⟩
theorem c11 : cFunc Tryz.prog Tryz.f11 = some v11 := by kernel_rfl
def v13 : VFunc := ⟨4, [(.tmp 0)], (.seq (.reg none [⟨(some 0), (.mv (.c .nilp)), none⟩]) (.seq (.reg none [⟨(some 1), (.buildSl 1 1 .nils [(0, (.c .nils))]), none⟩, ⟨(some 2), (.build [.nils, (.int .i64 (0))] [(0, (1, (.t 1)))]), none⟩, ⟨(some 3), (.box (.t 2)), none⟩, ⟨(some 0), (.mv (.t 3)), none⟩]) .ret))⟩
theorem c13 : cFunc Tryz.prog Tryz.f13 = some v13 := by kernel_rfl
def v14 : VFunc := ⟨35, [(.tmp 4)], (.seq (.reg none [⟨(some 3), (.box (.t 1)), none⟩, ⟨(some 4), (.mv (.c (.int .i64 (0)))), none⟩]) (.seq (.reg none [⟨(some 7), (.mv (.t 0)), none⟩, ⟨(some 8), (.call (.f 36) [(.t 7)]), none⟩, ⟨(some 5), (.mv (.t 8)), none⟩]) (.seq (.block 0 (.seq (.reg none [⟨(some 10), (.load true 5 (.t 3)), none⟩, ⟨(some 11), (.call (.f 29) [(.t 10)]), none⟩, ⟨(some 12), (.un .not (.t 11)), none⟩, ⟨(some 9), (.mv (.t 12)), none⟩]) (.cond (.t 9) (.seq (.reg none [⟨(some 4), (.mv (.c (.int .i64 (1)))), none⟩]) .ret) (.seq (.reg none [⟨(some 14), (.mv (.t 5)), none⟩, ⟨(some 15), (.len false (.t 14)), none⟩, ⟨(some 16), (.bin .eql .int (.t 15) (.c (.int .i64 (200)))), none⟩, ⟨(some 13), (.mv (.t 16)), none⟩]) (.cond (.t 13) (.seq (.reg none [⟨(some 4), (.mv (.c (.int .i64 (3)))), none⟩]) .ret) (.seq (.reg none [⟨(some 18), (.mv (.t 5)), none⟩, ⟨(some 19), (.faddr 0 (.t 3)), none⟩, ⟨(some 20), (.load false 1 (.t 19)), none⟩, ⟨(some 21), (.call (.f 37) [(.t 18), (.t 20)]), none⟩, ⟨(some 22), (.bin .geq .int (.t 21) (.c (.int .i64 (0)))), none⟩, ⟨(some 17), (.mv (.t 22)), none⟩]) (.cond (.t 17) (.seq (.reg none [⟨(some 4), (.mv (.c (.int .i64 (5)))), none⟩]) .ret) .skip))))))) (.seq (.reg (some [(1, 2)]) [⟨(some 23), (.mv (.t 5)), none⟩, ⟨(some 24), (.call (.f 38) [(.t 23)]), none⟩, ⟨(some 25), (.load true 5 (.t 3)), none⟩, ⟨(some 26), (.call (.f 39) [(.t 25)]), none⟩, ⟨(some 27), (.buildSl 5 1 (.agg [(.str []), (.int .i64 (0)), .nils, .nils, (.bool false)]) [(0, (.t 26))]), none⟩, ⟨(some 28), (.append 5 80 (.t 24) (.t 27)), none⟩, ⟨(some 6), (.mv (.t 28)), none⟩]) (.seq (.seq (.reg none [⟨(some 29), (.mv (.t 6)), none⟩, ⟨(some 30), (.call (.f 40) [(.t 29)]), none⟩, ⟨(some 31), (.un .not (.t 30)), none⟩]) (.cond (.t 31) (.seq (.reg none [⟨(some 4), (.mv (.c (.int .i64 (4)))), none⟩]) .ret) .skip)) (.seq (.reg none [⟨(some 32), (.mv (.t 0)), none⟩, ⟨(some 33), (.mv (.t 6)), none⟩, ⟨(some 34), (.call (.f 41) [(.t 32), (.t 33)]), none⟩, ⟨(some 4), (.mv (.t 34)), none⟩]) .ret))))))⟩
theorem c14 : cFunc Tryz.prog Tryz.f14 = some v14 := by kernel_rfl
def v15 : VFunc := ⟨5, [(.cell 2 true 5)], (.seq (.reg none [⟨(some 2), (.box (.c (.agg [(.str []), (.int .i64 (0)), .nils, .nils, (.bool false)]))), none⟩]) (.seq (.reg none [⟨(some 3), (.mv (.t 0)), none⟩, ⟨(some 4), (.build [(.str []), (.int .i64 (0)), .nils, .nils, (.bool false)] [(0, (1, (.t 3))), (1, (1, (.c (.int .i64 (1)))))]), none⟩, ⟨none, (.store 5 (.t 2) (.t 4)), none⟩]) .ret))⟩
theorem c15 : cFunc Tryz.prog Tryz.f15 = some v15 := by kernel_rfl
def v16 : VFunc := ⟨20, [(.tmp 2)], (.seq (.reg none [⟨(some 2), (.mv (.c .nils)), none⟩]) (.seq (.reg none [⟨(some 3), (.mv (.c .nils)), none⟩]) (.seq (.seq (.reg none [⟨(some 6), (.mv (.t 0)), none⟩, ⟨(some 7), (.call (.f 36) [(.t 6)]), none⟩, ⟨(some 8), (.len false (.t 7)), none⟩, ⟨(some 9), (.mv (.c (.int .i64 (0)))), none⟩]) (.block 0 (.loop (.seq (.reg none [⟨(some 10), (.bin .lss .int (.t 9) (.t 8)), none⟩]) (.seq (.cond (.t 10) .skip (.exit 0)) (.seq (.block 1 (.seq (.reg none [⟨(some 11), (.iaddrS 5 (.t 7) (.t 9)), none⟩, ⟨(some 12), (.load true 5 (.t 11)), none⟩, ⟨(some 5), (.box (.c (.agg [(.str []), (.int .i64 (0)), .nils, .nils, (.bool false)]))), none⟩, ⟨none, (.store 5 (.t 5) (.t 12)), none⟩]) (.reg none [⟨(some 13), (.mv (.t 3)), none⟩, ⟨(some 14), (.load true 5 (.t 5)), none⟩, ⟨(some 15), (.call (.f 39) [(.t 14)]), none⟩, ⟨(some 16), (.buildSl 5 1 (.agg [(.str []), (.int .i64 (0)), .nils, .nils, (.bool false)]) [(0, (.t 15))]), none⟩, ⟨(some 17), (.append 5 80 (.t 13) (.t 16)), none⟩, ⟨(some 3), (.mv (.t 17)), none⟩]))) (.reg none [⟨(some 18), (.bin .add .int (.t 9) (.c (.int .i64 (1)))), none⟩, ⟨(some 9), (.mv (.t 18)), none⟩]))))))) (.seq (.reg none [⟨(some 19), (.mv (.t 3)), none⟩, ⟨(some 2), (.mv (.t 19)), none⟩]) .ret))))⟩
theorem c16 : cFunc Tryz.prog Tryz.f16 = some v16 := by kernel_rfl
def v19 : VFunc := ⟨27, [(.tmp 4)], (.seq (.reg none [⟨(some 4), (.mv (.c (.bool false))), none⟩]) (.seq (.seq (.reg none [⟨(some 6), (.mv (.t 0)), none⟩, ⟨(some 7), (.len false (.t 6)), none⟩, ⟨(some 8), (.mv (.t 1)), none⟩, ⟨(some 9), (.len false (.t 8)), none⟩, ⟨(some 10), (.bin .neq .int (.t 7) (.t 9)), none⟩]) (.cond (.t 10) (.seq (.reg none [⟨(some 4), (.mv (.c (.bool false))), none⟩]) .ret) .skip)) (.seq (.seq (.reg none [⟨(some 5), (.mv (.c (.int .i64 (0)))), none⟩]) (.block 0 (.loop (.seq (.seq (.reg none [⟨(some 11), (.mv (.t 5)), none⟩, ⟨(some 12), (.mv (.t 0)), none⟩, ⟨(some 13), (.len false (.t 12)), none⟩, ⟨(some 14), (.bin .lss .int (.t 11) (.t 13)), none⟩]) (.cond (.t 14) .skip (.exit 0))) (.seq (.block 1 (.seq (.reg (some []) [⟨(some 17), (.mv (.t 0)), none⟩, ⟨(some 18), (.mv (.t 5)), none⟩, ⟨(some 19), (.iaddrS 5 (.t 17) (.t 18)), none⟩, ⟨(some 20), (.load true 5 (.t 19)), none⟩, ⟨(some 21), (.mv (.t 1)), none⟩, ⟨(some 22), (.mv (.t 5)), none⟩, ⟨(some 23), (.iaddrS 5 (.t 21) (.t 22)), none⟩, ⟨(some 24), (.load true 5 (.t 23)), none⟩, ⟨(some 25), (.call (.f 42) [(.t 20), (.t 24)]), none⟩, ⟨(some 26), (.un .not (.t 25)), none⟩]) (.cond (.t 26) (.seq (.reg none [⟨(some 4), (.mv (.c (.bool false))), none⟩]) .ret) .skip))) (.reg none [⟨(some 15), (.mv (.t 5)), none⟩, ⟨(some 16), (.bin .add .int (.t 15) (.c (.int .i64 (1)))), none⟩, ⟨(some 5), (.mv (.t 16)), none⟩])))))) (.seq (.reg none [⟨(some 4), (.mv (.c (.bool true))), none⟩]) .ret))))⟩
theorem c19 : cFunc Tryz.prog Tryz.f19 = some v19 := by kernel_rfl
def v24 : VFunc := ⟨15, [(.tmp 2)], (.seq (.reg none [⟨(some 2), (.mv (.c (.bool false))), none⟩]) (.seq (.seq (.reg none [⟨(some 3), (.mv (.t 0)), none⟩, ⟨(some 4), (.nilck (.t 3)), none⟩, ⟨(some 5), (.faddr 1 (.t 4)), none⟩, ⟨(some 6), (.load false 1 (.t 5)), none⟩, ⟨(some 7), (.bin .eql .int (.t 6) (.c (.int .i64 (0)))), none⟩]) (.cond (.t 7) (.seq (.reg none [⟨(some 2), (.mv (.c (.bool false))), none⟩]) .ret) .skip)) (.seq (.reg none [⟨(some 8), (.mv (.t 0)), none⟩, ⟨(some 9), (.nilck (.t 8)), none⟩, ⟨(some 10), (.faddr 1 (.t 9)), none⟩, ⟨(some 11), (.load false 1 (.t 10)), none⟩, ⟨(some 12), (.bin .sub .int (.t 11) (.c (.int .i64 (1)))), none⟩, ⟨(some 13), (.nilck (.t 8)), none⟩, ⟨(some 14), (.faddr 1 (.t 13)), none⟩, ⟨none, (.store 1 (.t 14) (.t 12)), none⟩]) (.seq (.reg none [⟨(some 2), (.mv (.c (.bool true))), none⟩]) .ret))))⟩
theorem c24 : cFunc Tryz.prog Tryz.f24 = some v24 := by kernel_rfl
def v26 : VFunc := ⟨45, [(.tmp 6)], (.seq (.reg none [⟨(some 6), (.mv (.c (.int .i64 (0)))), none⟩]) (.seq (.reg none [⟨(some 10), (.mv (.t 0)), none⟩, ⟨(some 11), (.call (.f 36) [(.t 10)]), none⟩, ⟨(some 12), (.call (.f 38) [(.t 11)]), none⟩, ⟨(some 7), (.mv (.t 12)), none⟩]) (.seq (.seq (.reg none [⟨(some 13), (.mv (.t 2)), none⟩, ⟨(some 14), (.bin .lss .int (.t 13) (.c (.int .i64 (0)))), none⟩, ⟨(some 15), (.mv (.t 14)), none⟩, ⟨(some 16), (.mv (.t 2)), (some (15, false))⟩, ⟨(some 17), (.mv (.t 7)), (some (15, false))⟩, ⟨(some 18), (.len false (.t 17)), (some (15, false))⟩, ⟨(some 19), (.bin .geq .int (.t 16) (.t 18)), (some (15, false))⟩, ⟨(some 20), (.pick (.t 15) (.c (.bool true)) (.t 19)), none⟩]) (.cond (.t 20) (.seq (.reg none [⟨(some 6), (.mv (.c (.int .i64 (1)))), none⟩]) .ret) .skip)) (.seq (.reg none [⟨(some 21), (.mv (.t 7)), none⟩, ⟨(some 22), (.mv (.t 1)), none⟩, ⟨(some 23), (.call (.f 37) [(.t 21), (.t 22)]), none⟩, ⟨(some 8), (.mv (.t 23)), none⟩]) (.seq (.seq (.reg none [⟨(some 24), (.mv (.t 8)), none⟩, ⟨(some 25), (.bin .lss .int (.t 24) (.c (.int .i64 (0)))), none⟩]) (.cond (.t 25) (.seq (.reg none [⟨(some 6), (.mv (.c (.int .i64 (4)))), none⟩]) .ret) .skip)) (.seq (.reg none [⟨(some 26), (.mv (.t 7)), none⟩, ⟨(some 27), (.mv (.t 8)), none⟩, ⟨(some 28), (.iaddrS 5 (.t 26) (.t 27)), none⟩, ⟨(some 29), (.load true 5 (.t 28)), none⟩, ⟨(some 9), (.box (.c (.agg [(.str []), (.int .i64 (0)), .nils, .nils, (.bool false)]))), none⟩, ⟨none, (.store 5 (.t 9) (.t 29)), none⟩]) (.seq (.reg (some [(4, 6), (4, 7)]) [⟨(some 30), (.mv (.t 7)), none⟩, ⟨(some 31), (.mv (.t 8)), none⟩, ⟨(some 32), (.mv (.t 8)), none⟩, ⟨(some 33), (.bin .add .int (.t 32) (.c (.int .i64 (1)))), none⟩, ⟨(some 34), (.call (.f 47) [(.t 30), (.t 31), (.t 33)]), none⟩, ⟨(some 35), (.mv (.t 2)), none⟩, ⟨(some 36), (.load true 5 (.t 9)), none⟩, ⟨(some 37), (.buildSl 5 1 (.agg [(.str []), (.int .i64 (0)), .nils, .nils, (.bool false)]) [(0, (.t 36))]), none⟩, ⟨(some 38), (.call (.f 46) [(.t 34), (.t 35), (.t 37)]), none⟩, ⟨(some 7), (.mv (.t 38)), none⟩]) (.seq (.seq (.reg none [⟨(some 39), (.mv (.t 7)), none⟩, ⟨(some 40), (.call (.f 40) [(.t 39)]), none⟩, ⟨(some 41), (.un .not (.t 40)), none⟩]) (.cond (.t 41) (.seq (.reg none [⟨(some 6), (.mv (.c (.int .i64 (14)))), none⟩]) .ret) .skip)) (.seq (.reg none [⟨(some 42), (.mv (.t 0)), none⟩, ⟨(some 43), (.mv (.t 7)), none⟩, ⟨(some 44), (.call (.f 41) [(.t 42), (.t 43)]), none⟩, ⟨(some 6), (.mv (.t 44)), none⟩]) .ret)))))))))⟩
theorem c26 : cFunc Tryz.prog Tryz.f26 = some v26 := by kernel_rfl
def v27 : VFunc := ⟨26, [(.tmp 4)], (.seq (.reg none [⟨(some 4), (.mv (.c (.int .i64 (0)))), none⟩]) (.seq (.reg none [⟨(some 7), (.mv (.t 0)), none⟩, ⟨(some 8), (.call (.f 36) [(.t 7)]), none⟩, ⟨(some 9), (.call (.f 38) [(.t 8)]), none⟩, ⟨(some 5), (.mv (.t 9)), none⟩]) (.seq (.reg none [⟨(some 10), (.mv (.t 5)), none⟩, ⟨(some 11), (.mv (.t 1)), none⟩, ⟨(some 12), (.call (.f 37) [(.t 10), (.t 11)]), none⟩, ⟨(some 6), (.mv (.t 12)), none⟩]) (.seq (.seq (.reg none [⟨(some 13), (.mv (.t 6)), none⟩, ⟨(some 14), (.bin .lss .int (.t 13) (.c (.int .i64 (0)))), none⟩]) (.cond (.t 14) (.seq (.reg none [⟨(some 4), (.mv (.c (.int .i64 (4)))), none⟩]) .ret) .skip)) (.seq (.reg none [⟨(some 15), (.mv (.t 5)), none⟩, ⟨(some 16), (.mv (.t 6)), none⟩, ⟨(some 17), (.mv (.t 6)), none⟩, ⟨(some 18), (.bin .add .int (.t 17) (.c (.int .i64 (1)))), none⟩, ⟨(some 19), (.call (.f 47) [(.t 15), (.t 16), (.t 18)]), none⟩, ⟨(some 5), (.mv (.t 19)), none⟩]) (.seq (.seq (.reg none [⟨(some 20), (.mv (.t 5)), none⟩, ⟨(some 21), (.call (.f 40) [(.t 20)]), none⟩, ⟨(some 22), (.un .not (.t 21)), none⟩]) (.cond (.t 22) (.seq (.reg none [⟨(some 4), (.mv (.c (.int .i64 (14)))), none⟩]) .ret) .skip)) (.seq (.reg none [⟨(some 23), (.mv (.t 0)), none⟩, ⟨(some 24), (.mv (.t 5)), none⟩, ⟨(some 25), (.call (.f 41) [(.t 23), (.t 24)]), none⟩, ⟨(some 4), (.mv (.t 25)), none⟩]) .ret)))))))⟩
theorem c27 : cFunc Tryz.prog Tryz.f27 = some v27 := by kernel_rfl
def v29 : VFunc := ⟨40, [(.tmp 2)], (.seq (.reg none [⟨(some 1), (.box (.t 0)), none⟩, ⟨(some 2), (.mv (.c (.bool false))), none⟩]) (.seq (.reg none [⟨(some 3), (.faddr 0 (.t 1)), none⟩, ⟨(some 4), (.load false 1 (.t 3)), none⟩, ⟨(some 5), (.call (.f 50) [(.t 4)]), none⟩, ⟨(some 6), (.mv (.t 5)), none⟩, ⟨(some 7), (.faddr 1 (.t 1)), (some (6, true))⟩, ⟨(some 8), (.load false 1 (.t 7)), (some (6, true))⟩, ⟨(some 9), (.bin .geq .int (.t 8) (.c (.int .i64 (1)))), (some (6, true))⟩, ⟨(some 10), (.pick (.t 6) (.t 9) (.c (.bool false))), none⟩, ⟨(some 11), (.mv (.t 10)), none⟩, ⟨(some 12), (.faddr 1 (.t 1)), (some (11, true))⟩, ⟨(some 13), (.load false 1 (.t 12)), (some (11, true))⟩, ⟨(some 14), (.bin .leq .int (.t 13) (.c (.int .i64 (6)))), (some (11, true))⟩, ⟨(some 15), (.pick (.t 11) (.t 14) (.c (.bool false))), none⟩, ⟨(some 16), (.mv (.t 15)), none⟩, ⟨(some 17), (.faddr 2 (.t 1)), (some (16, true))⟩, ⟨(some 18), (.load false 1 (.t 17)), (some (16, true))⟩, ⟨(some 19), (.len false (.t 18)), (some (16, true))⟩, ⟨(some 20), (.bin .leq .int (.t 19) (.c (.int .i64 (50)))), (some (16, true))⟩, ⟨(some 21), (.pick (.t 16) (.t 20) (.c (.bool false))), none⟩, ⟨(some 22), (.mv (.t 21)), none⟩, ⟨(some 23), (.faddr 3 (.t 1)), (some (22, true))⟩, ⟨(some 24), (.load false 1 (.t 23)), (some (22, true))⟩, ⟨(some 25), (.len false (.t 24)), (some (22, true))⟩, ⟨(some 26), (.bin .leq .int (.t 25) (.c (.int .i64 (10)))), (some (22, true))⟩, ⟨(some 27), (.pick (.t 22) (.t 26) (.c (.bool false))), none⟩, ⟨(some 28), (.mv (.t 27)), none⟩, ⟨(some 29), (.faddr 2 (.t 1)), (some (28, true))⟩, ⟨(some 30), (.load false 1 (.t 29)), (some (28, true))⟩, ⟨(some 31), (.call (.f 51) [(.t 30), (.f 52)]), (some (28, true))⟩, ⟨(some 32), (.un .not (.t 31)), (some (28, true))⟩, ⟨(some 33), (.pick (.t 28) (.t 32) (.c (.bool false))), none⟩, ⟨(some 34), (.mv (.t 33)), none⟩, ⟨(some 35), (.faddr 3 (.t 1)), (some (34, true))⟩, ⟨(some 36), (.load false 1 (.t 35)), (some (34, true))⟩, ⟨(some 37), (.call (.f 54) [(.t 36), (.f 55)]), (some (34, true))⟩, ⟨(some 38), (.un .not (.t 37)), (some (34, true))⟩, ⟨(some 39), (.pick (.t 34) (.t 38) (.c (.bool false))), none⟩, ⟨(some 2), (.mv (.t 39)), none⟩]) .ret))⟩
theorem c29 : cFunc Tryz.prog Tryz.f29 = some v29 := by kernel_rfl
def v30 : VFunc := ⟨13, [(.tmp 4), (.tmp 5), (.tmp 6)], (.seq (.reg none [⟨(some 4), (.mv (.c (.str []))), none⟩, ⟨(some 5), (.mv (.c (.str []))), none⟩, ⟨(some 6), (.mv (.c (.bool false))), none⟩]) (.seq (.reg none [⟨(some 7), (.mv (.t 0)), none⟩, ⟨(some 8), (.mv (.t 1)), none⟩, ⟨(some 9), (.call (.f 57) [(.t 7), (.t 8)]), none⟩, ⟨(some 10), (.extract (.t 9) 0), none⟩, ⟨(some 11), (.extract (.t 9) 1), none⟩, ⟨(some 12), (.extract (.t 9) 2), none⟩, ⟨(some 4), (.mv (.t 10)), none⟩, ⟨(some 5), (.mv (.t 11)), none⟩, ⟨(some 6), (.mv (.t 12)), none⟩]) .ret))⟩
theorem c30 : cFunc Tryz.prog Tryz.f30 = some v30 := by kernel_rfl
def v31 : VFunc := ⟨11, [], (.seq (.reg none [⟨(some 3), (.mv (.t 0)), none⟩, ⟨(some 4), (.len false (.t 3)), none⟩, ⟨(some 2), (.mv (.t 4)), none⟩]) (.reg none [⟨(some 5), (.mv (.t 0)), none⟩, ⟨(some 6), (.mv (.t 2)), none⟩, ⟨(some 7), (.mv (.t 2)), none⟩, ⟨(some 8), (.toInt .u64 (.t 7)), none⟩, ⟨(some 9), (.call (.f 59) [(.t 8)]), none⟩, ⟨(some 10), (.call (.f 58) [(.t 5), (.c (.int .i64 (0))), (.t 6), (.t 9)]), none⟩]))⟩
theorem c31 : cFunc Tryz.prog Tryz.f31 = some v31 := by kernel_rfl
def v32 : VFunc := ⟨61, [(.tmp 2)], (.seq (.reg none [⟨(some 2), (.mv (.c .nils)), none⟩]) (.seq (.seq (.reg none [⟨(some 6), (.mv (.t 0)), none⟩, ⟨(some 7), (.len false (.t 6)), none⟩, ⟨(some 8), (.bin .lss .int (.t 7) (.c (.int .i64 (2)))), none⟩]) (.cond (.t 8) (.seq (.reg none [⟨(some 9), (.mv (.t 0)), none⟩, ⟨(some 2), (.mv (.t 9)), none⟩]) .ret) .skip)) (.seq (.seq (.reg none [⟨(some 3), (.mv (.c (.int .i64 (1)))), none⟩]) (.block 0 (.loop (.seq (.seq (.reg none [⟨(some 10), (.mv (.t 3)), none⟩, ⟨(some 11), (.mv (.t 0)), none⟩, ⟨(some 12), (.len false (.t 11)), none⟩, ⟨(some 13), (.bin .lss .int (.t 10) (.t 12)), none⟩]) (.cond (.t 13) .skip (.exit 0))) (.seq (.block 1 (.seq (.reg (some []) [⟨(some 16), (.mv (.t 0)), none⟩, ⟨(some 17), (.mv (.t 3)), none⟩, ⟨(some 18), (.iaddrS 1 (.t 16) (.t 17)), none⟩, ⟨(some 19), (.load false 1 (.t 18)), none⟩, ⟨(some 20), (.mv (.t 0)), none⟩, ⟨(some 21), (.mv (.t 3)), none⟩, ⟨(some 22), (.bin .sub .int (.t 21) (.c (.int .i64 (1)))), none⟩, ⟨(some 23), (.iaddrS 1 (.t 20) (.t 22)), none⟩, ⟨(some 24), (.load false 1 (.t 23)), none⟩, ⟨(some 25), (.bin .eql .str (.t 19) (.t 24)), none⟩]) (.cond (.t 25) (.seq (.reg none [⟨(some 26), (.mv (.t 0)), none⟩, ⟨(some 27), (.mv (.t 3)), none⟩, ⟨(some 28), (.slice 1 (.t 26) (some (.t 27)) none none), none⟩, ⟨(some 4), (.mv (.t 28)), none⟩]) (.seq (.seq (.reg none [⟨(some 5), (.mv (.c (.int .i64 (1)))), none⟩]) (.block 2 (.loop (.seq (.seq (.reg none [⟨(some 29), (.mv (.t 5)), none⟩, ⟨(some 30), (.mv (.t 4)), none⟩, ⟨(some 31), (.len false (.t 30)), none⟩, ⟨(some 32), (.bin .lss .int (.t 29) (.t 31)), none⟩]) (.cond (.t 32) .skip (.exit 2))) (.seq (.block 3 (.seq (.reg (some []) [⟨(some 35), (.mv (.t 4)), none⟩, ⟨(some 36), (.mv (.t 5)), none⟩, ⟨(some 37), (.iaddrS 1 (.t 35) (.t 36)), none⟩, ⟨(some 38), (.load false 1 (.t 37)), none⟩, ⟨(some 39), (.mv (.t 4)), none⟩, ⟨(some 40), (.mv (.t 5)), none⟩, ⟨(some 41), (.bin .sub .int (.t 40) (.c (.int .i64 (1)))), none⟩, ⟨(some 42), (.iaddrS 1 (.t 39) (.t 41)), none⟩, ⟨(some 43), (.load false 1 (.t 42)), none⟩, ⟨(some 44), (.bin .neq .str (.t 38) (.t 43)), none⟩]) (.cond (.t 44) (.seq (.reg none [⟨(some 45), (.mv (.t 0)), none⟩, ⟨(some 46), (.mv (.t 3)), none⟩, ⟨(some 47), (.mv (.t 4)), none⟩, ⟨(some 48), (.mv (.t 5)), none⟩, ⟨(some 49), (.iaddrS 1 (.t 47) (.t 48)), none⟩, ⟨(some 50), (.load false 1 (.t 49)), none⟩, ⟨(some 51), (.iaddrS 1 (.t 45) (.t 46)), none⟩, ⟨none, (.store 1 (.t 51) (.t 50)), none⟩]) (.reg none [⟨(some 52), (.mv (.t 3)), none⟩, ⟨(some 53), (.bin .add .int (.t 52) (.c (.int .i64 (1)))), none⟩, ⟨(some 3), (.mv (.t 53)), none⟩])) .skip))) (.reg none [⟨(some 33), (.mv (.t 5)), none⟩, ⟨(some 34), (.bin .add .int (.t 33) (.c (.int .i64 (1)))), none⟩, ⟨(some 5), (.mv (.t 34)), none⟩])))))) (.seq (.reg none [⟨(some 54), (.mv (.t 0)), none⟩, ⟨(some 55), (.mv (.t 3)), none⟩, ⟨(some 56), (.slice 1 (.t 54) (some (.t 55)) none none), none⟩, ⟨none, (.clear 1 (.str []) (.t 56)), none⟩]) (.seq (.reg none [⟨(some 57), (.mv (.t 0)), none⟩, ⟨(some 58), (.mv (.t 3)), none⟩, ⟨(some 59), (.slice 1 (.t 57) none (some (.t 58)) none), none⟩, ⟨(some 2), (.mv (.t 59)), none⟩]) .ret)))) .skip))) (.reg none [⟨(some 14), (.mv (.t 3)), none⟩, ⟨(some 15), (.bin .add .int (.t 14) (.c (.int .i64 (1)))), none⟩, ⟨(some 3), (.mv (.t 15)), none⟩])))))) (.seq (.reg none [⟨(some 60), (.mv (.t 0)), none⟩, ⟨(some 2), (.mv (.t 60)), none⟩]) .ret))))⟩
theorem c32 : cFunc Tryz.prog Tryz.f32 = some v32 := by kernel_rfl
def v36 : VFunc := ⟨13, [(.tmp 2)], (.seq (.reg none [⟨(some 2), (.mv (.c .nils)), none⟩]) (.seq (.reg (some []) [⟨(some 3), (.mv (.t 0)), none⟩, ⟨(some 4), (.nilck (.t 3)), none⟩, ⟨(some 5), (.faddr 0 (.t 4)), none⟩, ⟨(some 6), (.load false 1 (.t 5)), none⟩, ⟨(some 7), (.mv (.t 0)), none⟩, ⟨(some 8), (.nilck (.t 7)), none⟩, ⟨(some 9), (.faddr 1 (.t 8)), none⟩, ⟨(some 10), (.load false 1 (.t 9)), none⟩, ⟨(some 11), (.iaddrS 1 (.t 6) (.t 10)), none⟩, ⟨(some 12), (.load false 1 (.t 11)), none⟩, ⟨(some 2), (.mv (.t 12)), none⟩]) .ret))⟩
theorem c36 : cFunc Tryz.prog Tryz.f36 = some v36 := by kernel_rfl
def v37 : VFunc := ⟨8, [(.tmp 4)], (.seq (.reg none [⟨(some 3), (.box (.t 1)), none⟩, ⟨(some 4), (.mv (.c (.int .i64 (0)))), none⟩]) (.seq (.reg none [⟨(some 5), (.mv (.t 0)), none⟩, ⟨(some 6), (.mkfn (.func 63) [] [(.t 3)]), none⟩, ⟨(some 7), (.call (.f 62) [(.t 5), (.t 6)]), none⟩, ⟨(some 4), (.mv (.t 7)), none⟩]) .ret))⟩
theorem c37 : cFunc Tryz.prog Tryz.f37 = some v37 := by kernel_rfl
def v38 : VFunc := ⟨8, [(.tmp 2)], (.seq (.reg none [⟨(some 2), (.mv (.c .nils)), none⟩]) (.seq (.seq (.reg none [⟨(some 3), (.mv (.t 0)), none⟩, ⟨(some 4), (.bin .eql .slice (.t 3) (.c .nils)), none⟩]) (.cond (.t 4) (.seq (.reg none [⟨(some 2), (.mv (.c .nils)), none⟩]) .ret) .skip)) (.seq (.reg none [⟨(some 5), (.buildSl 5 0 (.agg [(.str []), (.int .i64 (0)), .nils, .nils, (.bool false)]) []), none⟩, ⟨(some 6), (.mv (.t 0)), none⟩, ⟨(some 7), (.append 5 80 (.t 5) (.t 6)), none⟩, ⟨(some 2), (.mv (.t 7)), none⟩]) .ret)))⟩
theorem c38 : cFunc Tryz.prog Tryz.f38 = some v38 := by kernel_rfl
def v39 : VFunc := ⟨30, [(.cell 2 true 5)], (.seq (.reg none [⟨(some 1), (.box (.t 0)), none⟩, ⟨(some 2), (.box (.c (.agg [(.str []), (.int .i64 (0)), .nils, .nils, (.bool false)]))), none⟩]) (.seq (.reg (some [(2, 4)]) [⟨(some 4), (.faddr 2 (.t 1)), none⟩, ⟨(some 5), (.load false 1 (.t 4)), none⟩, ⟨(some 6), (.call (.f 64) [(.t 5)]), none⟩, ⟨(some 7), (.faddr 3 (.t 1)), none⟩, ⟨(some 8), (.load false 1 (.t 7)), none⟩, ⟨(some 9), (.call (.f 65) [(.t 8)]), none⟩, ⟨(some 10), (.faddr 2 (.t 1)), none⟩, ⟨none, (.store 1 (.t 10) (.t 6)), none⟩, ⟨(some 11), (.faddr 3 (.t 1)), none⟩, ⟨none, (.store 1 (.t 11) (.t 9)), none⟩]) (.seq (.seq (.reg none [⟨(some 12), (.faddr 3 (.t 1)), none⟩, ⟨(some 13), (.load false 1 (.t 12)), none⟩, ⟨(some 14), (.len false (.t 13)), none⟩, ⟨(some 15), (.mv (.c (.int .i64 (0)))), none⟩]) (.block 0 (.loop (.seq (.reg none [⟨(some 16), (.bin .lss .int (.t 15) (.t 14)), none⟩]) (.seq (.cond (.t 16) .skip (.exit 0)) (.seq (.block 1 (.seq (.reg none [⟨(some 17), (.mv (.t 15)), none⟩, ⟨(some 3), (.mv (.t 17)), none⟩]) (.reg (some [(1, 8)]) [⟨(some 18), (.faddr 3 (.t 1)), none⟩, ⟨(some 19), (.load false 1 (.t 18)), none⟩, ⟨(some 20), (.mv (.t 3)), none⟩, ⟨(some 21), (.faddr 3 (.t 1)), none⟩, ⟨(some 22), (.load false 1 (.t 21)), none⟩, ⟨(some 23), (.mv (.t 3)), none⟩, ⟨(some 24), (.iaddrS 7 (.t 22) (.t 23)), none⟩, ⟨(some 25), (.load true 7 (.t 24)), none⟩, ⟨(some 26), (.call (.f 66) [(.t 25)]), none⟩, ⟨(some 27), (.iaddrS 7 (.t 19) (.t 20)), none⟩, ⟨none, (.store 7 (.t 27) (.t 26)), none⟩]))) (.reg none [⟨(some 28), (.bin .add .int (.t 15) (.c (.int .i64 (1)))), none⟩, ⟨(some 15), (.mv (.t 28)), none⟩]))))))) (.seq (.reg none [⟨(some 29), (.load true 5 (.t 1)), none⟩, ⟨none, (.store 5 (.t 2) (.t 29)), none⟩]) .ret))))⟩
theorem c39 : cFunc Tryz.prog Tryz.f39 = some v39 := by kernel_rfl
def v40 : VFunc := ⟨29, [(.tmp 2)], (.seq (.reg none [⟨(some 2), (.mv (.c (.bool false))), none⟩]) (.seq (.seq (.reg none [⟨(some 7), (.mv (.t 0)), none⟩, ⟨(some 8), (.len false (.t 7)), none⟩, ⟨(some 9), (.mv (.c (.int .i64 (0)))), none⟩]) (.block 0 (.loop (.seq (.reg none [⟨(some 10), (.bin .lss .int (.t 9) (.t 8)), none⟩]) (.seq (.cond (.t 10) .skip (.exit 0)) (.seq (.block 1 (.seq (.reg none [⟨(some 11), (.mv (.t 9)), none⟩, ⟨(some 12), (.iaddrS 5 (.t 7) (.t 9)), none⟩, ⟨(some 13), (.load true 5 (.t 12)), none⟩, ⟨(some 4), (.box (.c (.agg [(.str []), (.int .i64 (0)), .nils, .nils, (.bool false)]))), none⟩, ⟨(some 3), (.mv (.t 11)), none⟩, ⟨none, (.store 5 (.t 4) (.t 13)), none⟩]) (.seq (.reg none [⟨(some 14), (.load true 5 (.t 4)), none⟩, ⟨(some 15), (.call (.f 11) [(.t 14)]), none⟩, ⟨(some 16), (.len false (.t 15)), none⟩, ⟨(some 17), (.mv (.c (.int .i64 (0)))), none⟩]) (.block 2 (.loop (.seq (.reg none [⟨(some 18), (.bin .lss .int (.t 17) (.t 16)), none⟩]) (.seq (.cond (.t 18) .skip (.exit 2)) (.seq (.block 3 (.seq (.reg none [⟨(some 19), (.iaddrS 1 (.t 15) (.t 17)), none⟩, ⟨(some 20), (.load false 1 (.t 19)), none⟩, ⟨(some 6), (.mv (.t 20)), none⟩]) (.seq (.reg none [⟨(some 21), (.mv (.t 0)), none⟩, ⟨(some 22), (.mv (.t 3)), none⟩, ⟨(some 23), (.slice 5 (.t 21) none (some (.t 22)) none), none⟩, ⟨(some 24), (.mv (.t 6)), none⟩, ⟨(some 25), (.call (.f 37) [(.t 23), (.t 24)]), none⟩, ⟨(some 26), (.bin .lss .int (.t 25) (.c (.int .i64 (0)))), none⟩]) (.cond (.t 26) (.seq (.reg none [⟨(some 2), (.mv (.c (.bool false))), none⟩]) .ret) .skip)))) (.reg none [⟨(some 27), (.bin .add .int (.t 17) (.c (.int .i64 (1)))), none⟩, ⟨(some 17), (.mv (.t 27)), none⟩]))))))))) (.reg none [⟨(some 28), (.bin .add .int (.t 9) (.c (.int .i64 (1)))), none⟩, ⟨(some 9), (.mv (.t 28)), none⟩]))))))) (.seq (.reg none [⟨(some 2), (.mv (.c (.bool true))), none⟩]) .ret)))⟩
theorem c40 : cFunc Tryz.prog Tryz.f40 = some v40 := by kernel_rfl
def v41 : VFunc := ⟨38, [(.tmp 4)], (.seq (.reg none [⟨(some 4), (.mv (.c (.int .i64 (0)))), none⟩]) (.seq (.seq (.reg none [⟨(some 5), (.mv (.t 1)), none⟩, ⟨(some 6), (.mv (.t 0)), none⟩, ⟨(some 7), (.call (.f 36) [(.t 6)]), none⟩, ⟨(some 8), (.call (.f 67) [(.t 5), (.t 7), (.f 68)]), none⟩, ⟨(some 9), (.un .not (.t 8)), none⟩]) (.cond (.t 9) (.seq (.reg (some [(4, 17), (8, 17), (13, 17), (15, 17)]) [⟨(some 10), (.mv (.t 0)), none⟩, ⟨(some 11), (.mv (.t 0)), none⟩, ⟨(some 12), (.nilck (.t 11)), none⟩, ⟨(some 13), (.faddr 0 (.t 12)), none⟩, ⟨(some 14), (.load false 1 (.t 13)), none⟩, ⟨(some 15), (.mv (.t 0)), none⟩, ⟨(some 16), (.nilck (.t 15)), none⟩, ⟨(some 17), (.faddr 1 (.t 16)), none⟩, ⟨(some 18), (.load false 1 (.t 17)), none⟩, ⟨(some 19), (.bin .add .int (.t 18) (.c (.int .i64 (1)))), none⟩, ⟨(some 20), (.mv (.t 0)), none⟩, ⟨(some 21), (.nilck (.t 20)), none⟩, ⟨(some 22), (.faddr 1 (.t 21)), none⟩, ⟨(some 23), (.load false 1 (.t 22)), none⟩, ⟨(some 24), (.bin .add .int (.t 23) (.c (.int .i64 (1)))), none⟩, ⟨(some 25), (.slice 1 (.t 14) none (some (.t 19)) (some (.t 24))), none⟩, ⟨(some 26), (.mv (.t 1)), none⟩, ⟨(some 27), (.buildSl 1 1 .nils [(0, (.t 26))]), none⟩, ⟨(some 28), (.append 1 24 (.t 25) (.t 27)), none⟩, ⟨(some 29), (.nilck (.t 10)), none⟩, ⟨(some 30), (.faddr 0 (.t 29)), none⟩, ⟨none, (.store 1 (.t 30) (.t 28)), none⟩]) (.reg none [⟨(some 31), (.mv (.t 0)), none⟩, ⟨(some 32), (.nilck (.t 31)), none⟩, ⟨(some 33), (.faddr 1 (.t 32)), none⟩, ⟨(some 34), (.load false 1 (.t 33)), none⟩, ⟨(some 35), (.bin .add .int (.t 34) (.c (.int .i64 (1)))), none⟩, ⟨(some 36), (.nilck (.t 31)), none⟩, ⟨(some 37), (.faddr 1 (.t 36)), none⟩, ⟨none, (.store 1 (.t 37) (.t 35)), none⟩])) .skip)) (.seq (.reg none [⟨(some 4), (.mv (.c (.int .i64 (0)))), none⟩]) .ret)))⟩
theorem c41 : cFunc Tryz.prog Tryz.f41 = some v41 := by kernel_rfl
def v42 : VFunc := ⟨81, [(.tmp 4)], (.seq (.reg none [⟨(some 2), (.box (.t 0)), none⟩, ⟨(some 3), (.box (.t 1)), none⟩, ⟨(some 4), (.mv (.c (.bool false))), none⟩]) (.seq (.seq (.reg none [⟨(some 7), (.faddr 0 (.t 2)), none⟩, ⟨(some 8), (.load false 1 (.t 7)), none⟩, ⟨(some 9), (.faddr 0 (.t 3)), none⟩, ⟨(some 10), (.load false 1 (.t 9)), none⟩, ⟨(some 11), (.bin .neq .str (.t 8) (.t 10)), none⟩, ⟨(some 12), (.mv (.t 11)), none⟩, ⟨(some 13), (.faddr 1 (.t 2)), (some (12, false))⟩, ⟨(some 14), (.load false 1 (.t 13)), (some (12, false))⟩, ⟨(some 15), (.faddr 1 (.t 3)), (some (12, false))⟩, ⟨(some 16), (.load false 1 (.t 15)), (some (12, false))⟩, ⟨(some 17), (.bin .neq .int (.t 14) (.t 16)), (some (12, false))⟩, ⟨(some 18), (.pick (.t 12) (.c (.bool true)) (.t 17)), none⟩, ⟨(some 19), (.mv (.t 18)), none⟩, ⟨(some 20), (.faddr 4 (.t 2)), (some (19, false))⟩, ⟨(some 21), (.load false 1 (.t 20)), (some (19, false))⟩, ⟨(some 22), (.faddr 4 (.t 3)), (some (19, false))⟩, ⟨(some 23), (.load false 1 (.t 22)), (some (19, false))⟩, ⟨(some 24), (.bin .neq .bool (.t 21) (.t 23)), (some (19, false))⟩, ⟨(some 25), (.pick (.t 19) (.c (.bool true)) (.t 24)), none⟩, ⟨(some 26), (.mv (.t 25)), none⟩, ⟨(some 27), (.faddr 2 (.t 2)), (some (26, false))⟩, ⟨(some 28), (.load false 1 (.t 27)), (some (26, false))⟩, ⟨(some 29), (.len false (.t 28)), (some (26, false))⟩, ⟨(some 30), (.faddr 2 (.t 3)), (some (26, false))⟩, ⟨(some 31), (.load false 1 (.t 30)), (some (26, false))⟩, ⟨(some 32), (.len false (.t 31)), (some (26, false))⟩, ⟨(some 33), (.bin .neq .int (.t 29) (.t 32)), (some (26, false))⟩, ⟨(some 34), (.pick (.t 26) (.c (.bool true)) (.t 33)), none⟩, ⟨(some 35), (.mv (.t 34)), none⟩, ⟨(some 36), (.faddr 3 (.t 2)), (some (35, false))⟩, ⟨(some 37), (.load false 1 (.t 36)), (some (35, false))⟩, ⟨(some 38), (.len false (.t 37)), (some (35, false))⟩, ⟨(some 39), (.faddr 3 (.t 3)), (some (35, false))⟩, ⟨(some 40), (.load false 1 (.t 39)), (some (35, false))⟩, ⟨(some 41), (.len false (.t 40)), (some (35, false))⟩, ⟨(some 42), (.bin .neq .int (.t 38) (.t 41)), (some (35, false))⟩, ⟨(some 43), (.pick (.t 35) (.c (.bool true)) (.t 42)), none⟩]) (.cond (.t 43) (.seq (.reg none [⟨(some 4), (.mv (.c (.bool false))), none⟩]) .ret) .skip)) (.seq (.seq (.reg none [⟨(some 5), (.mv (.c (.int .i64 (0)))), none⟩]) (.block 0 (.loop (.seq (.seq (.reg none [⟨(some 44), (.mv (.t 5)), none⟩, ⟨(some 45), (.faddr 2 (.t 2)), none⟩, ⟨(some 46), (.load false 1 (.t 45)), none⟩, ⟨(some 47), (.len false (.t 46)), none⟩, ⟨(some 48), (.bin .lss .int (.t 44) (.t 47)), none⟩]) (.cond (.t 48) .skip (.exit 0))) (.seq (.block 1 (.seq (.reg (some []) [⟨(some 51), (.faddr 2 (.t 2)), none⟩, ⟨(some 52), (.load false 1 (.t 51)), none⟩, ⟨(some 53), (.mv (.t 5)), none⟩, ⟨(some 54), (.iaddrS 1 (.t 52) (.t 53)), none⟩, ⟨(some 55), (.load false 1 (.t 54)), none⟩, ⟨(some 56), (.faddr 2 (.t 3)), none⟩, ⟨(some 57), (.load false 1 (.t 56)), none⟩, ⟨(some 58), (.mv (.t 5)), none⟩, ⟨(some 59), (.iaddrS 1 (.t 57) (.t 58)), none⟩, ⟨(some 60), (.load false 1 (.t 59)), none⟩, ⟨(some 61), (.bin .neq .str (.t 55) (.t 60)), none⟩]) (.cond (.t 61) (.seq (.reg none [⟨(some 4), (.mv (.c (.bool false))), none⟩]) .ret) .skip))) (.reg none [⟨(some 49), (.mv (.t 5)), none⟩, ⟨(some 50), (.bin .add .int (.t 49) (.c (.int .i64 (1)))), none⟩, ⟨(some 5), (.mv (.t 50)), none⟩])))))) (.seq (.seq (.reg none [⟨(some 6), (.mv (.c (.int .i64 (0)))), none⟩]) (.block 2 (.loop (.seq (.seq (.reg none [⟨(some 62), (.mv (.t 6)), none⟩, ⟨(some 63), (.faddr 3 (.t 2)), none⟩, ⟨(some 64), (.load false 1 (.t 63)), none⟩, ⟨(some 65), (.len false (.t 64)), none⟩, ⟨(some 66), (.bin .lss .int (.t 62) (.t 65)), none⟩]) (.cond (.t 66) .skip (.exit 2))) (.seq (.block 3 (.seq (.reg (some []) [⟨(some 69), (.faddr 3 (.t 2)), none⟩, ⟨(some 70), (.load false 1 (.t 69)), none⟩, ⟨(some 71), (.mv (.t 6)), none⟩, ⟨(some 72), (.iaddrS 7 (.t 70) (.t 71)), none⟩, ⟨(some 73), (.load true 7 (.t 72)), none⟩, ⟨(some 74), (.faddr 3 (.t 3)), none⟩, ⟨(some 75), (.load false 1 (.t 74)), none⟩, ⟨(some 76), (.mv (.t 6)), none⟩, ⟨(some 77), (.iaddrS 7 (.t 75) (.t 76)), none⟩, ⟨(some 78), (.load true 7 (.t 77)), none⟩, ⟨(some 79), (.call (.f 69) [(.t 73), (.t 78)]), none⟩, ⟨(some 80), (.un .not (.t 79)), none⟩]) (.cond (.t 80) (.seq (.reg none [⟨(some 4), (.mv (.c (.bool false))), none⟩]) .ret) .skip))) (.reg none [⟨(some 67), (.mv (.t 6)), none⟩, ⟨(some 68), (.bin .add .int (.t 67) (.c (.int .i64 (1)))), none⟩, ⟨(some 6), (.mv (.t 68)), none⟩])))))) (.seq (.reg none [⟨(some 4), (.mv (.c (.bool true))), none⟩]) .ret)))))⟩
theorem c42 : cFunc Tryz.prog Tryz.f42 = some v42 := by kernel_rfl
def v46 : VFunc := ⟨95, [(.tmp 6)], (.seq (.reg none [⟨(some 6), (.mv (.c .nils)), none⟩]) (.seq (.reg none [⟨(some 10), (.mv (.t 0)), none⟩, ⟨(some 11), (.mv (.t 1)), none⟩, ⟨(some 12), (.slice 5 (.t 10) (some (.t 11)) none none), none⟩]) (.seq (.reg none [⟨(some 13), (.mv (.t 2)), none⟩, ⟨(some 14), (.len false (.t 13)), none⟩, ⟨(some 7), (.mv (.t 14)), none⟩]) (.seq (.seq (.reg none [⟨(some 15), (.mv (.t 7)), none⟩, ⟨(some 16), (.bin .eql .int (.t 15) (.c (.int .i64 (0)))), none⟩]) (.cond (.t 16) (.seq (.reg none [⟨(some 17), (.mv (.t 0)), none⟩, ⟨(some 6), (.mv (.t 17)), none⟩]) .ret) .skip)) (.seq (.reg none [⟨(some 18), (.mv (.t 0)), none⟩, ⟨(some 19), (.len false (.t 18)), none⟩, ⟨(some 8), (.mv (.t 19)), none⟩]) (.seq (.seq (.reg none [⟨(some 20), (.mv (.t 1)), none⟩, ⟨(some 21), (.mv (.t 8)), none⟩, ⟨(some 22), (.bin .eql .int (.t 20) (.t 21)), none⟩]) (.cond (.t 22) (.seq (.reg none [⟨(some 23), (.mv (.t 0)), none⟩, ⟨(some 24), (.mv (.t 2)), none⟩, ⟨(some 25), .bad, none⟩, ⟨(some 6), (.mv (.t 25)), none⟩]) .ret) .skip)) (.seq (.seq (.reg none [⟨(some 26), (.mv (.t 8)), none⟩, ⟨(some 27), (.mv (.t 7)), none⟩, ⟨(some 28), (.bin .add .int (.t 26) (.t 27)), none⟩, ⟨(some 29), (.mv (.t 0)), none⟩, ⟨(some 30), (.cap (.t 29)), none⟩, ⟨(some 31), (.bin .gtr .int (.t 28) (.t 30)), none⟩]) (.cond (.t 31) (.seq (.reg none [⟨(some 32), (.mv (.t 0)), none⟩, ⟨(some 33), (.mv (.t 1)), none⟩, ⟨(some 34), (.slice 5 (.t 32) none (some (.t 33)) none), none⟩, ⟨(some 35), (.mv (.t 8)), none⟩, ⟨(some 36), (.mv (.t 7)), none⟩, ⟨(some 37), (.bin .add .int (.t 35) (.t 36)), none⟩, ⟨(some 38), (.mv (.t 1)), none⟩, ⟨(some 39), (.bin .sub .int (.t 37) (.t 38)), none⟩, ⟨(some 40), (.appz 5 80 (.agg [(.str []), (.int .i64 (0)), .nils, .nils, (.bool false)]) (.t 34) (.t 39)), none⟩, ⟨(some 9), (.mv (.t 40)), none⟩]) (.seq (.reg none [⟨(some 41), (.mv (.t 9)), none⟩, ⟨(some 42), (.mv (.t 1)), none⟩, ⟨(some 43), (.slice 5 (.t 41) (some (.t 42)) none none), none⟩, ⟨(some 44), (.mv (.t 2)), none⟩, ⟨(some 45), (.copy 5 (.t 43) (.t 44)), none⟩]) (.seq (.reg (some []) [⟨(some 46), (.mv (.t 9)), none⟩, ⟨(some 47), (.mv (.t 1)), none⟩, ⟨(some 48), (.mv (.t 7)), none⟩, ⟨(some 49), (.bin .add .int (.t 47) (.t 48)), none⟩, ⟨(some 50), (.slice 5 (.t 46) (some (.t 49)) none none), none⟩, ⟨(some 51), (.mv (.t 0)), none⟩, ⟨(some 52), (.mv (.t 1)), none⟩, ⟨(some 53), (.slice 5 (.t 51) (some (.t 52)) none none), none⟩, ⟨(some 54), (.copy 5 (.t 50) (.t 53)), none⟩]) (.seq (.reg none [⟨(some 55), (.mv (.t 9)), none⟩, ⟨(some 6), (.mv (.t 55)), none⟩]) .ret)))) .skip)) (.seq (.reg none [⟨(some 56), (.mv (.t 0)), none⟩, ⟨(some 57), (.mv (.t 8)), none⟩, ⟨(some 58), (.mv (.t 7)), none⟩, ⟨(some 59), (.bin .add .int (.t 57) (.t 58)), none⟩, ⟨(some 60), (.slice 5 (.t 56) none (some (.t 59)) none), none⟩, ⟨(some 0), (.mv (.t 60)), none⟩]) (.seq (.seq (.reg none [⟨(some 61), (.mv (.t 2)), none⟩, ⟨(some 62), (.mv (.t 0)), none⟩, ⟨(some 63), (.mv (.t 1)), none⟩, ⟨(some 64), (.mv (.t 7)), none⟩, ⟨(some 65), (.bin .add .int (.t 63) (.t 64)), none⟩, ⟨(some 66), (.slice 5 (.t 62) (some (.t 65)) none none), none⟩, ⟨(some 67), (.ovl (.t 61) (.t 66)), none⟩, ⟨(some 68), (.un .not (.t 67)), none⟩]) (.cond (.t 68) (.seq (.reg (some []) [⟨(some 69), (.mv (.t 0)), none⟩, ⟨(some 70), (.mv (.t 1)), none⟩, ⟨(some 71), (.mv (.t 7)), none⟩, ⟨(some 72), (.bin .add .int (.t 70) (.t 71)), none⟩, ⟨(some 73), (.slice 5 (.t 69) (some (.t 72)) none none), none⟩, ⟨(some 74), (.mv (.t 0)), none⟩, ⟨(some 75), (.mv (.t 1)), none⟩, ⟨(some 76), (.slice 5 (.t 74) (some (.t 75)) none none), none⟩, ⟨(some 77), (.copy 5 (.t 73) (.t 76)), none⟩]) (.seq (.reg none [⟨(some 78), (.mv (.t 0)), none⟩, ⟨(some 79), (.mv (.t 1)), none⟩, ⟨(some 80), (.slice 5 (.t 78) (some (.t 79)) none none), none⟩, ⟨(some 81), (.mv (.t 2)), none⟩, ⟨(some 82), (.copy 5 (.t 80) (.t 81)), none⟩]) (.seq (.reg none [⟨(some 83), (.mv (.t 0)), none⟩, ⟨(some 6), (.mv (.t 83)), none⟩]) .ret))) .skip)) (.seq (.reg none [⟨(some 84), (.mv (.t 0)), none⟩, ⟨(some 85), (.mv (.t 8)), none⟩, ⟨(some 86), (.slice 5 (.t 84) (some (.t 85)) none none), none⟩, ⟨(some 87), (.mv (.t 2)), none⟩, ⟨(some 88), (.copy 5 (.t 86) (.t 87)), none⟩]) (.seq (.reg none [⟨(some 89), (.mv (.t 0)), none⟩, ⟨(some 90), (.mv (.t 1)), none⟩, ⟨(some 91), (.slice 5 (.t 89) (some (.t 90)) none none), none⟩, ⟨(some 92), (.mv (.t 7)), none⟩, ⟨(some 93), (.call (.f 72) [(.t 91), (.t 92)]), none⟩]) (.seq (.reg none [⟨(some 94), (.mv (.t 0)), none⟩, ⟨(some 6), (.mv (.t 94)), none⟩]) .ret))))))))))))⟩
theorem c46 : cFunc Tryz.prog Tryz.f46 = some v46 := by kernel_rfl
def v47 : VFunc := ⟨33, [(.tmp 6)], (.seq (.reg none [⟨(some 6), (.mv (.c .nils)), none⟩]) (.seq (.reg none [⟨(some 8), (.mv (.t 0)), none⟩, ⟨(some 9), (.mv (.t 1)), none⟩, ⟨(some 10), (.mv (.t 2)), none⟩, ⟨(some 11), (.mv (.t 0)), none⟩, ⟨(some 12), (.len false (.t 11)), none⟩, ⟨(some 13), (.slice 5 (.t 8) (some (.t 9)) (some (.t 10)) (some (.t 12))), none⟩]) (.seq (.seq (.reg none [⟨(some 14), (.mv (.t 1)), none⟩, ⟨(some 15), (.mv (.t 2)), none⟩, ⟨(some 16), (.bin .eql .int (.t 14) (.t 15)), none⟩]) (.cond (.t 16) (.seq (.reg none [⟨(some 17), (.mv (.t 0)), none⟩, ⟨(some 6), (.mv (.t 17)), none⟩]) .ret) .skip)) (.seq (.reg none [⟨(some 18), (.mv (.t 0)), none⟩, ⟨(some 19), (.len false (.t 18)), none⟩, ⟨(some 7), (.mv (.t 19)), none⟩]) (.seq (.reg (some []) [⟨(some 20), (.mv (.t 0)), none⟩, ⟨(some 21), (.mv (.t 1)), none⟩, ⟨(some 22), (.slice 5 (.t 20) none (some (.t 21)) none), none⟩, ⟨(some 23), (.mv (.t 0)), none⟩, ⟨(some 24), (.mv (.t 2)), none⟩, ⟨(some 25), (.slice 5 (.t 23) (some (.t 24)) none none), none⟩, ⟨(some 26), (.append 5 80 (.t 22) (.t 25)), none⟩, ⟨(some 0), (.mv (.t 26)), none⟩]) (.seq (.reg none [⟨(some 27), (.mv (.t 0)), none⟩, ⟨(some 28), (.mv (.t 0)), none⟩, ⟨(some 29), (.len false (.t 28)), none⟩, ⟨(some 30), (.mv (.t 7)), none⟩, ⟨(some 31), (.slice 5 (.t 27) (some (.t 29)) (some (.t 30)) none), none⟩, ⟨none, (.clear 5 (.agg [(.str []), (.int .i64 (0)), .nils, .nils, (.bool false)]) (.t 31)), none⟩]) (.seq (.reg none [⟨(some 32), (.mv (.t 0)), none⟩, ⟨(some 6), (.mv (.t 32)), none⟩]) .ret)))))))⟩
theorem c47 : cFunc Tryz.prog Tryz.f47 = some v47 := by kernel_rfl
def v50 : VFunc := ⟨22, [(.tmp 2)], (.seq (.reg none [⟨(some 2), (.mv (.c (.bool false))), none⟩]) (.seq (.reg none [⟨(some 3), (.mv (.t 0)), none⟩, ⟨(some 4), (.bin .neq .str (.t 3) (.c (.str []))), none⟩, ⟨(some 5), (.mv (.t 4)), none⟩, ⟨(some 6), (.mv (.t 0)), (some (5, true))⟩, ⟨(some 7), (.len true (.t 6)), (some (5, true))⟩, ⟨(some 8), (.bin .leq .int (.t 7) (.c (.int .i64 (24)))), (some (5, true))⟩, ⟨(some 9), (.pick (.t 5) (.t 8) (.c (.bool false))), none⟩, ⟨(some 10), (.mv (.t 9)), none⟩, ⟨(some 11), (.mv (.t 0)), (some (10, true))⟩, ⟨(some 12), (.indexS (.t 11) (.c (.int .i64 (0)))), (some (10, true))⟩, ⟨(some 13), (.call (.f 73) [(.t 12)]), (some (10, true))⟩, ⟨(some 14), (.pick (.t 10) (.t 13) (.c (.bool false))), none⟩, ⟨(some 15), (.mv (.t 14)), none⟩, ⟨(some 16), (.mv (.t 0)), (some (15, true))⟩, ⟨(some 17), (.call (.f 74) [(.t 16), (.f 75)]), (some (15, true))⟩, ⟨(some 18), (.mv (.t 0)), (some (15, true))⟩, ⟨(some 19), (.len true (.t 18)), (some (15, true))⟩, ⟨(some 20), (.bin .eql .int (.t 17) (.t 19)), (some (15, true))⟩, ⟨(some 21), (.pick (.t 15) (.t 20) (.c (.bool false))), none⟩, ⟨(some 2), (.mv (.t 21)), none⟩]) .ret))⟩
theorem c50 : cFunc Tryz.prog Tryz.f50 = some v50 := by kernel_rfl
def v51 : VFunc := ⟨9, [(.tmp 4)], (.seq (.reg none [⟨(some 4), (.mv (.c (.bool false))), none⟩]) (.seq (.reg none [⟨(some 5), (.mv (.t 0)), none⟩, ⟨(some 6), (.mv (.t 1)), none⟩, ⟨(some 7), (.call (.f 76) [(.t 5), (.t 6)]), none⟩, ⟨(some 8), (.bin .geq .int (.t 7) (.c (.int .i64 (0)))), none⟩, ⟨(some 4), (.mv (.t 8)), none⟩]) .ret))⟩
theorem c51 : cFunc Tryz.prog Tryz.f51 = some v51 := by kernel_rfl
def v52 : VFunc := ⟨6, [(.tmp 2)], (.seq (.reg none [⟨(some 2), (.mv (.c (.bool false))), none⟩]) (.seq (.reg none [⟨(some 3), (.mv (.t 0)), none⟩, ⟨(some 4), (.call (.f 53) [(.t 3)]), none⟩, ⟨(some 5), (.un .not (.t 4)), none⟩, ⟨(some 2), (.mv (.t 5)), none⟩]) .ret))⟩
theorem c52 : cFunc Tryz.prog Tryz.f52 = some v52 := by kernel_rfl
def v53 : VFunc := ⟨45, [(.tmp 2)], (.seq (.reg none [⟨(some 2), (.mv (.c (.bool false))), none⟩]) (.seq (.reg none [⟨(some 8), (.mv (.t 0)), none⟩, ⟨(some 9), (.call (.f 30) [(.t 8), (.c (.str [47]))]), none⟩, ⟨(some 7), (.mv (.t 9)), none⟩, ⟨(some 10), (.extract (.t 7) 0), none⟩, ⟨(some 11), (.extract (.t 7) 1), none⟩, ⟨(some 12), (.extract (.t 7) 2), none⟩, ⟨(some 3), (.mv (.t 10)), none⟩, ⟨(some 4), (.mv (.t 11)), none⟩, ⟨(some 5), (.mv (.t 12)), none⟩]) (.seq (.seq (.reg none [⟨(some 13), (.mv (.t 5)), none⟩, ⟨(some 14), (.un .not (.t 13)), none⟩, ⟨(some 15), (.mv (.t 14)), none⟩, ⟨(some 16), (.mv (.t 4)), (some (15, false))⟩, ⟨(some 17), (.bin .eql .str (.t 16) (.c (.str []))), (some (15, false))⟩, ⟨(some 18), (.pick (.t 15) (.c (.bool true)) (.t 17)), none⟩, ⟨(some 19), (.mv (.t 18)), none⟩, ⟨(some 20), (.mv (.t 0)), (some (19, false))⟩, ⟨(some 21), (.len true (.t 20)), (some (19, false))⟩, ⟨(some 22), (.bin .gtr .int (.t 21) (.c (.int .i64 (200)))), (some (19, false))⟩, ⟨(some 23), (.pick (.t 19) (.c (.bool true)) (.t 22)), none⟩, ⟨(some 24), (.mv (.t 23)), none⟩, ⟨(some 25), (.mv (.t 3)), (some (24, false))⟩, ⟨(some 26), (.call (.f 50) [(.t 25)]), (some (24, false))⟩, ⟨(some 27), (.un .not (.t 26)), (some (24, false))⟩, ⟨(some 28), (.pick (.t 24) (.c (.bool true)) (.t 27)), none⟩]) (.cond (.t 28) (.seq (.reg none [⟨(some 2), (.mv (.c (.bool false))), none⟩]) .ret) .skip)) (.seq (.seq (.reg none [⟨(some 29), (.mv (.t 0)), none⟩, ⟨(some 30), (.len true (.t 29)), none⟩, ⟨(some 31), (.mv (.c (.int .i64 (0)))), none⟩]) (.block 0 (.loop (.seq (.reg none [⟨(some 32), (.bin .lss .int (.t 31) (.t 30)), none⟩]) (.seq (.cond (.t 32) .skip (.exit 0)) (.seq (.block 1 (.seq (.reg none [⟨(some 33), (.mv (.t 31)), none⟩, ⟨(some 6), (.mv (.t 33)), none⟩]) (.seq (.reg none [⟨(some 34), (.mv (.t 0)), none⟩, ⟨(some 35), (.mv (.t 6)), none⟩, ⟨(some 36), (.indexS (.t 34) (.t 35)), none⟩, ⟨(some 37), (.bin .lss .int (.t 36) (.c (.int .u8 (33)))), none⟩, ⟨(some 38), (.mv (.t 37)), none⟩, ⟨(some 39), (.mv (.t 0)), (some (38, false))⟩, ⟨(some 40), (.mv (.t 6)), (some (38, false))⟩, ⟨(some 41), (.indexS (.t 39) (.t 40)), (some (38, false))⟩, ⟨(some 42), (.bin .gtr .int (.t 41) (.c (.int .u8 (126)))), (some (38, false))⟩, ⟨(some 43), (.pick (.t 38) (.c (.bool true)) (.t 42)), none⟩]) (.cond (.t 43) (.seq (.reg none [⟨(some 2), (.mv (.c (.bool false))), none⟩]) .ret) .skip)))) (.reg none [⟨(some 44), (.bin .add .int (.t 31) (.c (.int .i64 (1)))), none⟩, ⟨(some 31), (.mv (.t 44)), none⟩]))))))) (.seq (.reg none [⟨(some 2), (.mv (.c (.bool true))), none⟩]) .ret)))))⟩
theorem c53 : cFunc Tryz.prog Tryz.f53 = some v53 := by kernel_rfl
def v54 : VFunc := ⟨9, [(.tmp 4)], (.seq (.reg none [⟨(some 4), (.mv (.c (.bool false))), none⟩]) (.seq (.reg none [⟨(some 5), (.mv (.t 0)), none⟩, ⟨(some 6), (.mv (.t 1)), none⟩, ⟨(some 7), (.call (.f 77) [(.t 5), (.t 6)]), none⟩, ⟨(some 8), (.bin .geq .int (.t 7) (.c (.int .i64 (0)))), none⟩, ⟨(some 4), (.mv (.t 8)), none⟩]) .ret))⟩
theorem c54 : cFunc Tryz.prog Tryz.f54 = some v54 := by kernel_rfl
def v57 : VFunc := ⟨23, [(.tmp 4), (.tmp 5), (.tmp 6)], (.seq (.reg none [⟨(some 4), (.mv (.c (.str []))), none⟩, ⟨(some 5), (.mv (.c (.str []))), none⟩, ⟨(some 6), (.mv (.c (.bool false))), none⟩]) (.seq (.seq (.reg none [⟨(some 8), (.mv (.t 0)), none⟩, ⟨(some 9), (.mv (.t 1)), none⟩, ⟨(some 10), (.call (.f 80) [(.t 8), (.t 9)]), none⟩, ⟨(some 7), (.mv (.t 10)), none⟩]) (.seq (.reg none [⟨(some 11), (.mv (.t 7)), none⟩, ⟨(some 12), (.bin .geq .int (.t 11) (.c (.int .i64 (0)))), none⟩]) (.cond (.t 12) (.seq (.reg (some []) [⟨(some 13), (.mv (.t 0)), none⟩, ⟨(some 14), (.mv (.t 7)), none⟩, ⟨(some 15), (.sliceS (.t 13) none (some (.t 14))), none⟩, ⟨(some 16), (.mv (.t 0)), none⟩, ⟨(some 17), (.mv (.t 7)), none⟩, ⟨(some 18), (.mv (.t 1)), none⟩, ⟨(some 19), (.len true (.t 18)), none⟩, ⟨(some 20), (.bin .add .int (.t 17) (.t 19)), none⟩, ⟨(some 21), (.sliceS (.t 16) (some (.t 20)) none), none⟩, ⟨(some 4), (.mv (.t 15)), none⟩, ⟨(some 5), (.mv (.t 21)), none⟩, ⟨(some 6), (.mv (.c (.bool true))), none⟩]) .ret) .skip))) (.seq (.reg none [⟨(some 22), (.mv (.t 0)), none⟩, ⟨(some 4), (.mv (.t 22)), none⟩, ⟨(some 5), (.mv (.c (.str []))), none⟩, ⟨(some 6), (.mv (.c (.bool false))), none⟩]) .ret)))⟩
theorem c57 : cFunc Tryz.prog Tryz.f57 = some v57 := by kernel_rfl
def v58 : VFunc := ⟨134, [], (.seq (.reg none [⟨(some 8), (.mv (.c (.bool true))), none⟩]) (.seq (.reg none [⟨(some 9), (.mv (.c (.bool true))), none⟩]) (.block 0 (.loop (.block 1 (.seq (.reg none [⟨(some 19), (.mv (.t 2)), none⟩, ⟨(some 20), (.mv (.t 1)), none⟩, ⟨(some 21), (.bin .sub .int (.t 19) (.t 20)), none⟩, ⟨(some 10), (.mv (.t 21)), none⟩]) (.seq (.seq (.reg none [⟨(some 22), (.mv (.t 10)), none⟩, ⟨(some 23), (.bin .leq .int (.t 22) (.c (.int .i64 (12)))), none⟩]) (.cond (.t 23) (.seq (.reg none [⟨(some 24), (.mv (.t 0)), none⟩, ⟨(some 25), (.mv (.t 1)), none⟩, ⟨(some 26), (.mv (.t 2)), none⟩, ⟨(some 27), (.call (.f 81) [(.t 24), (.t 25), (.t 26)]), none⟩]) .ret) .skip)) (.seq (.seq (.reg none [⟨(some 28), (.mv (.t 3)), none⟩, ⟨(some 29), (.bin .eql .int (.t 28) (.c (.int .i64 (0)))), none⟩]) (.cond (.t 29) (.seq (.reg none [⟨(some 30), (.mv (.t 0)), none⟩, ⟨(some 31), (.mv (.t 1)), none⟩, ⟨(some 32), (.mv (.t 2)), none⟩, ⟨(some 33), (.call (.f 82) [(.t 30), (.t 31), (.t 32)]), none⟩]) .ret) .skip)) (.seq (.seq (.reg none [⟨(some 34), (.mv (.t 8)), none⟩, ⟨(some 35), (.un .not (.t 34)), none⟩]) (.cond (.t 35) (.seq (.reg none [⟨(some 36), (.mv (.t 0)), none⟩, ⟨(some 37), (.mv (.t 1)), none⟩, ⟨(some 38), (.mv (.t 2)), none⟩, ⟨(some 39), (.call (.f 83) [(.t 36), (.t 37), (.t 38)]), none⟩]) (.reg none [⟨(some 40), (.mv (.t 3)), none⟩, ⟨(some 41), (.bin .sub .int (.t 40) (.c (.int .i64 (1)))), none⟩, ⟨(some 3), (.mv (.t 41)), none⟩])) .skip)) (.seq (.reg none [⟨(some 43), (.mv (.t 0)), none⟩, ⟨(some 44), (.mv (.t 1)), none⟩, ⟨(some 45), (.mv (.t 2)), none⟩, ⟨(some 46), (.call (.f 84) [(.t 43), (.t 44), (.t 45)]), none⟩, ⟨(some 42), (.mv (.t 46)), none⟩, ⟨(some 47), (.extract (.t 42) 0), none⟩, ⟨(some 48), (.extract (.t 42) 1), none⟩, ⟨(some 11), (.mv (.t 47)), none⟩, ⟨(some 12), (.mv (.t 48)), none⟩]) (.seq (.seq (.reg none [⟨(some 49), (.mv (.t 12)), none⟩, ⟨(some 50), (.bin .eql .int (.t 49) (.c (.int .i64 (2)))), none⟩]) (.cond (.t 50) (.seq (.reg none [⟨(some 51), (.mv (.t 0)), none⟩, ⟨(some 52), (.mv (.t 1)), none⟩, ⟨(some 53), (.mv (.t 2)), none⟩, ⟨(some 54), (.call (.f 85) [(.t 51), (.t 52), (.t 53)]), none⟩]) (.seq (.reg none [⟨(some 55), (.mv (.t 2)), none⟩, ⟨(some 56), (.bin .sub .int (.t 55) (.c (.int .i64 (1)))), none⟩, ⟨(some 57), (.mv (.t 11)), none⟩, ⟨(some 58), (.mv (.t 1)), none⟩, ⟨(some 59), (.bin .sub .int (.t 57) (.t 58)), none⟩, ⟨(some 60), (.bin .sub .int (.t 56) (.t 59)), none⟩, ⟨(some 11), (.mv (.t 60)), none⟩]) (.reg none [⟨(some 12), (.mv (.c (.int .i64 (1)))), none⟩]))) .skip)) (.seq (.seq (.reg none [⟨(some 61), (.mv (.t 8)), none⟩, ⟨(some 62), (.mv (.t 61)), none⟩, ⟨(some 63), (.mv (.t 9)), (some (62, true))⟩, ⟨(some 64), (.pick (.t 62) (.t 63) (.c (.bool false))), none⟩, ⟨(some 65), (.mv (.t 64)), none⟩, ⟨(some 66), (.mv (.t 12)), (some (65, true))⟩, ⟨(some 67), (.bin .eql .int (.t 66) (.c (.int .i64 (1)))), (some (65, true))⟩, ⟨(some 68), (.pick (.t 65) (.t 67) (.c (.bool false))), none⟩]) (.cond (.t 68) (.seq (.reg none [⟨(some 69), (.mv (.t 0)), none⟩, ⟨(some 70), (.mv (.t 1)), none⟩, ⟨(some 71), (.mv (.t 2)), none⟩, ⟨(some 72), (.call (.f 86) [(.t 69), (.t 70), (.t 71)]), none⟩]) (.cond (.t 72) .ret .skip)) .skip)) (.seq (.seq (.reg (some []) [⟨(some 73), (.mv (.t 1)), none⟩, ⟨(some 74), (.bin .gtr .int (.t 73) (.c (.int .i64 (0)))), none⟩, ⟨(some 75), (.mv (.t 74)), none⟩, ⟨(some 76), (.mv (.t 0)), (some (75, true))⟩, ⟨(some 77), (.mv (.t 1)), (some (75, true))⟩, ⟨(some 78), (.bin .sub .int (.t 77) (.c (.int .i64 (1)))), (some (75, true))⟩, ⟨(some 79), (.iaddrS 1 (.t 76) (.t 78)), (some (75, true))⟩, ⟨(some 80), (.load false 1 (.t 79)), (some (75, true))⟩, ⟨(some 81), (.mv (.t 0)), (some (75, true))⟩, ⟨(some 82), (.mv (.t 11)), (some (75, true))⟩, ⟨(some 83), (.iaddrS 1 (.t 81) (.t 82)), (some (75, true))⟩, ⟨(some 84), (.load false 1 (.t 83)), (some (75, true))⟩, ⟨(some 85), (.call (.f 87) [(.t 80), (.t 84)]), (some (75, true))⟩, ⟨(some 86), (.un .not (.t 85)), (some (75, true))⟩, ⟨(some 87), (.pick (.t 75) (.t 86) (.c (.bool false))), none⟩]) (.cond (.t 87) (.seq (.reg none [⟨(some 88), (.mv (.t 0)), none⟩, ⟨(some 89), (.mv (.t 1)), none⟩, ⟨(some 90), (.mv (.t 2)), none⟩, ⟨(some 91), (.mv (.t 11)), none⟩, ⟨(some 92), (.call (.f 88) [(.t 88), (.t 89), (.t 90), (.t 91)]), none⟩, ⟨(some 13), (.mv (.t 92)), none⟩]) (.seq (.reg none [⟨(some 93), (.mv (.t 13)), none⟩, ⟨(some 1), (.mv (.t 93)), none⟩]) (.exit 1))) .skip)) (.seq (.reg none [⟨(some 95), (.mv (.t 0)), none⟩, ⟨(some 96), (.mv (.t 1)), none⟩, ⟨(some 97), (.mv (.t 2)), none⟩, ⟨(some 98), (.mv (.t 11)), none⟩, ⟨(some 99), (.call (.f 89) [(.t 95), (.t 96), (.t 97), (.t 98)]), none⟩, ⟨(some 94), (.mv (.t 99)), none⟩, ⟨(some 100), (.extract (.t 94) 0), none⟩, ⟨(some 101), (.extract (.t 94) 1), none⟩, ⟨(some 14), (.mv (.t 100)), none⟩, ⟨(some 15), (.mv (.t 101)), none⟩]) (.seq (.reg none [⟨(some 102), (.mv (.t 15)), none⟩, ⟨(some 9), (.mv (.t 102)), none⟩]) (.seq (.reg none [⟨(some 103), (.mv (.t 14)), none⟩, ⟨(some 104), (.mv (.t 1)), none⟩, ⟨(some 105), (.bin .sub .int (.t 103) (.t 104)), none⟩, ⟨(some 106), (.mv (.t 2)), none⟩, ⟨(some 107), (.mv (.t 14)), none⟩, ⟨(some 108), (.bin .sub .int (.t 106) (.t 107)), none⟩, ⟨(some 16), (.mv (.t 105)), none⟩, ⟨(some 17), (.mv (.t 108)), none⟩]) (.seq (.reg none [⟨(some 109), (.mv (.t 10)), none⟩, ⟨(some 110), (.bin .quo .int (.t 109) (.c (.int .i64 (8)))), none⟩, ⟨(some 18), (.mv (.t 110)), none⟩]) (.seq (.reg none [⟨(some 111), (.mv (.t 16)), none⟩, ⟨(some 112), (.mv (.t 17)), none⟩, ⟨(some 113), (.bin .lss .int (.t 111) (.t 112)), none⟩]) (.cond (.t 113) (.seq (.reg none [⟨(some 114), (.mv (.t 16)), none⟩, ⟨(some 115), (.mv (.t 18)), none⟩, ⟨(some 116), (.bin .geq .int (.t 114) (.t 115)), none⟩, ⟨(some 8), (.mv (.t 116)), none⟩]) (.seq (.reg none [⟨(some 117), (.mv (.t 0)), none⟩, ⟨(some 118), (.mv (.t 1)), none⟩, ⟨(some 119), (.mv (.t 14)), none⟩, ⟨(some 120), (.mv (.t 3)), none⟩, ⟨(some 121), (.call (.f 58) [(.t 117), (.t 118), (.t 119), (.t 120)]), none⟩]) (.reg none [⟨(some 122), (.mv (.t 14)), none⟩, ⟨(some 123), (.bin .add .int (.t 122) (.c (.int .i64 (1)))), none⟩, ⟨(some 1), (.mv (.t 123)), none⟩]))) (.seq (.reg none [⟨(some 124), (.mv (.t 17)), none⟩, ⟨(some 125), (.mv (.t 18)), none⟩, ⟨(some 126), (.bin .geq .int (.t 124) (.t 125)), none⟩, ⟨(some 8), (.mv (.t 126)), none⟩]) (.seq (.reg none [⟨(some 127), (.mv (.t 0)), none⟩, ⟨(some 128), (.mv (.t 14)), none⟩, ⟨(some 129), (.bin .add .int (.t 128) (.c (.int .i64 (1)))), none⟩, ⟨(some 130), (.mv (.t 2)), none⟩, ⟨(some 131), (.mv (.t 3)), none⟩, ⟨(some 132), (.call (.f 58) [(.t 127), (.t 129), (.t 130), (.t 131)]), none⟩]) (.reg none [⟨(some 133), (.mv (.t 14)), none⟩, ⟨(some 2), (.mv (.t 133)), none⟩]))))))))))))))))))))))⟩
theorem c58 : cFunc Tryz.prog Tryz.f58 = some v58 := by kernel_rfl
def v59 : VFunc := ⟨8, [(.tmp 2)], (.seq (.reg none [⟨(some 2), (.mv (.c (.int .i64 (0)))), none⟩]) (.seq (.cond (.c (.bool false)) (.seq (.reg none [⟨(some 3), (.mv (.t 0)), none⟩, ⟨(some 4), (.toInt .u32 (.t 3)), none⟩, ⟨(some 5), (.call (.f 90) [(.t 4)]), none⟩, ⟨(some 2), (.mv (.t 5)), none⟩]) .ret) .skip) (.seq (.reg none [⟨(some 6), (.mv (.t 0)), none⟩, ⟨(some 7), (.call (.f 91) [(.t 6)]), none⟩, ⟨(some 2), (.mv (.t 7)), none⟩]) .ret)))⟩
theorem c59 : cFunc Tryz.prog Tryz.f59 = some v59 := by kernel_rfl
def v62 : VFunc := ⟨19, [(.tmp 4)], (.seq (.reg none [⟨(some 4), (.mv (.c (.int .i64 (0)))), none⟩]) (.seq (.seq (.reg none [⟨(some 6), (.mv (.t 0)), none⟩, ⟨(some 7), (.len false (.t 6)), none⟩, ⟨(some 8), (.mv (.c (.int .i64 (0)))), none⟩]) (.block 0 (.loop (.seq (.reg none [⟨(some 9), (.bin .lss .int (.t 8) (.t 7)), none⟩]) (.seq (.cond (.t 9) .skip (.exit 0)) (.seq (.block 1 (.seq (.reg none [⟨(some 10), (.mv (.t 8)), none⟩, ⟨(some 5), (.mv (.t 10)), none⟩]) (.seq (.reg none [⟨(some 11), (.mv (.t 1)), none⟩, ⟨(some 12), (.mv (.t 0)), none⟩, ⟨(some 13), (.mv (.t 5)), none⟩, ⟨(some 14), (.iaddrS 5 (.t 12) (.t 13)), none⟩, ⟨(some 15), (.load true 5 (.t 14)), none⟩, ⟨(some 16), (.call (.t 11) [(.t 15)]), none⟩]) (.cond (.t 16) (.seq (.reg none [⟨(some 17), (.mv (.t 5)), none⟩, ⟨(some 4), (.mv (.t 17)), none⟩]) .ret) .skip)))) (.reg none [⟨(some 18), (.bin .add .int (.t 8) (.c (.int .i64 (1)))), none⟩, ⟨(some 8), (.mv (.t 18)), none⟩]))))))) (.seq (.reg none [⟨(some 4), (.mv (.c (.int .i64 (-1 - 0)))), none⟩]) .ret)))⟩
theorem c62 : cFunc Tryz.prog Tryz.f62 = some v62 := by kernel_rfl
def v63 : VFunc := ⟨8, [(.tmp 3)], (.seq (.reg none [⟨(some 2), (.box (.t 0)), none⟩, ⟨(some 3), (.mv (.c (.bool false))), none⟩]) (.seq (.reg none [⟨(some 4), (.faddr 0 (.t 2)), none⟩, ⟨(some 5), (.load false 1 (.t 4)), none⟩, ⟨(some 6), (.load false 1 (.t 1)), none⟩, ⟨(some 7), (.bin .eql .str (.t 5) (.t 6)), none⟩, ⟨(some 3), (.mv (.t 7)), none⟩]) .ret))⟩
theorem c63 : cFunc Tryz.prog Tryz.f63 = some v63 := by kernel_rfl
def v64 : VFunc := ⟨8, [(.tmp 2)], (.seq (.reg none [⟨(some 2), (.mv (.c .nils)), none⟩]) (.seq (.seq (.reg none [⟨(some 3), (.mv (.t 0)), none⟩, ⟨(some 4), (.bin .eql .slice (.t 3) (.c .nils)), none⟩]) (.cond (.t 4) (.seq (.reg none [⟨(some 2), (.mv (.c .nils)), none⟩]) .ret) .skip)) (.seq (.reg none [⟨(some 5), (.buildSl 1 0 (.str []) []), none⟩, ⟨(some 6), (.mv (.t 0)), none⟩, ⟨(some 7), (.append 1 16 (.t 5) (.t 6)), none⟩, ⟨(some 2), (.mv (.t 7)), none⟩]) .ret)))⟩
theorem c64 : cFunc Tryz.prog Tryz.f64 = some v64 := by kernel_rfl
def v65 : VFunc := ⟨8, [(.tmp 2)], (.seq (.reg none [⟨(some 2), (.mv (.c .nils)), none⟩]) (.seq (.seq (.reg none [⟨(some 3), (.mv (.t 0)), none⟩, ⟨(some 4), (.bin .eql .slice (.t 3) (.c .nils)), none⟩]) (.cond (.t 4) (.seq (.reg none [⟨(some 2), (.mv (.c .nils)), none⟩]) .ret) .skip)) (.seq (.reg none [⟨(some 5), (.buildSl 7 0 (.agg [(.int .i64 (0)), (.bool false), .nils, (.bool false), .nils, (.str []), .nils]) []), none⟩, ⟨(some 6), (.mv (.t 0)), none⟩, ⟨(some 7), (.append 7 112 (.t 5) (.t 6)), none⟩, ⟨(some 2), (.mv (.t 7)), none⟩]) .ret)))⟩
theorem c65 : cFunc Tryz.prog Tryz.f65 = some v65 := by kernel_rfl
def v67 : VFunc := ⟨32, [(.tmp 6)], (.seq (.reg none [⟨(some 6), (.mv (.c (.bool false))), none⟩]) (.seq (.seq (.reg none [⟨(some 10), (.mv (.t 0)), none⟩, ⟨(some 11), (.len false (.t 10)), none⟩, ⟨(some 12), (.mv (.t 1)), none⟩, ⟨(some 13), (.len false (.t 12)), none⟩, ⟨(some 14), (.bin .neq .int (.t 11) (.t 13)), none⟩]) (.cond (.t 14) (.seq (.reg none [⟨(some 6), (.mv (.c (.bool false))), none⟩]) .ret) .skip)) (.seq (.seq (.reg none [⟨(some 15), (.mv (.t 0)), none⟩, ⟨(some 16), (.len false (.t 15)), none⟩, ⟨(some 17), (.mv (.c (.int .i64 (0)))), none⟩]) (.block 0 (.loop (.seq (.reg none [⟨(some 18), (.bin .lss .int (.t 17) (.t 16)), none⟩]) (.seq (.cond (.t 18) .skip (.exit 0)) (.seq (.block 1 (.seq (.reg none [⟨(some 19), (.mv (.t 17)), none⟩, ⟨(some 20), (.iaddrS 5 (.t 15) (.t 17)), none⟩, ⟨(some 21), (.load true 5 (.t 20)), none⟩, ⟨(some 8), (.box (.c (.agg [(.str []), (.int .i64 (0)), .nils, .nils, (.bool false)]))), none⟩, ⟨(some 7), (.mv (.t 19)), none⟩, ⟨none, (.store 5 (.t 8) (.t 21)), none⟩]) (.seq (.reg none [⟨(some 22), (.mv (.t 1)), none⟩, ⟨(some 23), (.mv (.t 7)), none⟩, ⟨(some 24), (.iaddrS 5 (.t 22) (.t 23)), none⟩, ⟨(some 25), (.load true 5 (.t 24)), none⟩, ⟨(some 9), (.box (.c (.agg [(.str []), (.int .i64 (0)), .nils, .nils, (.bool false)]))), none⟩, ⟨none, (.store 5 (.t 9) (.t 25)), none⟩]) (.seq (.reg none [⟨(some 26), (.mv (.t 2)), none⟩, ⟨(some 27), (.load true 5 (.t 8)), none⟩, ⟨(some 28), (.load true 5 (.t 9)), none⟩, ⟨(some 29), (.call (.t 26) [(.t 27), (.t 28)]), none⟩, ⟨(some 30), (.un .not (.t 29)), none⟩]) (.cond (.t 30) (.seq (.reg none [⟨(some 6), (.mv (.c (.bool false))), none⟩]) .ret) .skip))))) (.reg none [⟨(some 31), (.bin .add .int (.t 17) (.c (.int .i64 (1)))), none⟩, ⟨(some 17), (.mv (.t 31)), none⟩]))))))) (.seq (.reg none [⟨(some 6), (.mv (.c (.bool true))), none⟩]) .ret))))⟩
theorem c67 : cFunc Tryz.prog Tryz.f67 = some v67 := by kernel_rfl
def v73 : VFunc := ⟨17, [(.tmp 2)], (.seq (.reg none [⟨(some 2), (.mv (.c (.bool false))), none⟩]) (.seq (.reg none [⟨(some 3), (.mv (.t 0)), none⟩, ⟨(some 4), (.bin .geq .int (.t 3) (.c (.int .u8 (97)))), none⟩, ⟨(some 5), (.mv (.t 4)), none⟩, ⟨(some 6), (.mv (.t 0)), (some (5, true))⟩, ⟨(some 7), (.bin .leq .int (.t 6) (.c (.int .u8 (122)))), (some (5, true))⟩, ⟨(some 8), (.pick (.t 5) (.t 7) (.c (.bool false))), none⟩, ⟨(some 9), (.mv (.t 8)), none⟩, ⟨(some 10), (.mv (.t 0)), (some (9, false))⟩, ⟨(some 11), (.bin .geq .int (.t 10) (.c (.int .u8 (65)))), (some (9, false))⟩, ⟨(some 12), (.mv (.t 11)), (some (9, false))⟩, ⟨(some 13), (.mv (.t 0)), (some (12, true))⟩, ⟨(some 14), (.bin .leq .int (.t 13) (.c (.int .u8 (90)))), (some (12, true))⟩, ⟨(some 15), (.pick (.t 12) (.t 14) (.c (.bool false))), (some (9, false))⟩, ⟨(some 16), (.pick (.t 9) (.c (.bool true)) (.t 15)), none⟩, ⟨(some 2), (.mv (.t 16)), none⟩]) .ret))⟩
theorem c73 : cFunc Tryz.prog Tryz.f73 = some v73 := by kernel_rfl
def v74 : VFunc := ⟨20, [(.tmp 4)], (.seq (.reg none [⟨(some 4), (.mv (.c (.int .i64 (0)))), none⟩]) (.seq (.reg none [⟨(some 5), (.mv (.c (.int .i64 (0)))), none⟩]) (.seq (.block 0 (.loop (.seq (.seq (.reg none [⟨(some 6), (.mv (.t 5)), none⟩, ⟨(some 7), (.mv (.t 0)), none⟩, ⟨(some 8), (.len true (.t 7)), none⟩, ⟨(some 9), (.bin .lss .int (.t 6) (.t 8)), none⟩, ⟨(some 10), (.mv (.t 9)), none⟩, ⟨(some 11), (.mv (.t 1)), (some (10, true))⟩, ⟨(some 12), (.mv (.t 0)), (some (10, true))⟩, ⟨(some 13), (.mv (.t 5)), (some (10, true))⟩, ⟨(some 14), (.indexS (.t 12) (.t 13)), (some (10, true))⟩, ⟨(some 15), (.call (.t 11) [(.t 14)]), (some (10, true))⟩, ⟨(some 16), (.pick (.t 10) (.t 15) (.c (.bool false))), none⟩]) (.cond (.t 16) .skip (.exit 0))) (.block 1 (.reg none [⟨(some 17), (.mv (.t 5)), none⟩, ⟨(some 18), (.bin .add .int (.t 17) (.c (.int .i64 (1)))), none⟩, ⟨(some 5), (.mv (.t 18)), none⟩]))))) (.seq (.reg none [⟨(some 19), (.mv (.t 5)), none⟩, ⟨(some 4), (.mv (.t 19)), none⟩]) .ret))))⟩
theorem c74 : cFunc Tryz.prog Tryz.f74 = some v74 := by kernel_rfl
def v75 : VFunc := ⟨13, [(.tmp 2)], (.seq (.reg none [⟨(some 2), (.mv (.c (.bool false))), none⟩]) (.seq (.reg none [⟨(some 3), (.mv (.t 0)), none⟩, ⟨(some 4), (.call (.f 73) [(.t 3)]), none⟩, ⟨(some 5), (.mv (.t 4)), none⟩, ⟨(some 6), (.mv (.t 0)), (some (5, false))⟩, ⟨(some 7), (.call (.f 103) [(.t 6)]), (some (5, false))⟩, ⟨(some 8), (.pick (.t 5) (.c (.bool true)) (.t 7)), none⟩, ⟨(some 9), (.mv (.t 8)), none⟩, ⟨(some 10), (.mv (.t 0)), (some (9, false))⟩, ⟨(some 11), (.bin .eql .int (.t 10) (.c (.int .u8 (95)))), (some (9, false))⟩, ⟨(some 12), (.pick (.t 9) (.c (.bool true)) (.t 11)), none⟩, ⟨(some 2), (.mv (.t 12)), none⟩]) .ret))⟩
theorem c75 : cFunc Tryz.prog Tryz.f75 = some v75 := by kernel_rfl
def v76 : VFunc := ⟨19, [(.tmp 4)], (.seq (.reg none [⟨(some 4), (.mv (.c (.int .i64 (0)))), none⟩]) (.seq (.seq (.reg none [⟨(some 6), (.mv (.t 0)), none⟩, ⟨(some 7), (.len false (.t 6)), none⟩, ⟨(some 8), (.mv (.c (.int .i64 (0)))), none⟩]) (.block 0 (.loop (.seq (.reg none [⟨(some 9), (.bin .lss .int (.t 8) (.t 7)), none⟩]) (.seq (.cond (.t 9) .skip (.exit 0)) (.seq (.block 1 (.seq (.reg none [⟨(some 10), (.mv (.t 8)), none⟩, ⟨(some 5), (.mv (.t 10)), none⟩]) (.seq (.reg none [⟨(some 11), (.mv (.t 1)), none⟩, ⟨(some 12), (.mv (.t 0)), none⟩, ⟨(some 13), (.mv (.t 5)), none⟩, ⟨(some 14), (.iaddrS 1 (.t 12) (.t 13)), none⟩, ⟨(some 15), (.load false 1 (.t 14)), none⟩, ⟨(some 16), (.call (.t 11) [(.t 15)]), none⟩]) (.cond (.t 16) (.seq (.reg none [⟨(some 17), (.mv (.t 5)), none⟩, ⟨(some 4), (.mv (.t 17)), none⟩]) .ret) .skip)))) (.reg none [⟨(some 18), (.bin .add .int (.t 8) (.c (.int .i64 (1)))), none⟩, ⟨(some 8), (.mv (.t 18)), none⟩]))))))) (.seq (.reg none [⟨(some 4), (.mv (.c (.int .i64 (-1 - 0)))), none⟩]) .ret)))⟩
theorem c76 : cFunc Tryz.prog Tryz.f76 = some v76 := by kernel_rfl
def v77 : VFunc := ⟨19, [(.tmp 4)], (.seq (.reg none [⟨(some 4), (.mv (.c (.int .i64 (0)))), none⟩]) (.seq (.seq (.reg none [⟨(some 6), (.mv (.t 0)), none⟩, ⟨(some 7), (.len false (.t 6)), none⟩, ⟨(some 8), (.mv (.c (.int .i64 (0)))), none⟩]) (.block 0 (.loop (.seq (.reg none [⟨(some 9), (.bin .lss .int (.t 8) (.t 7)), none⟩]) (.seq (.cond (.t 9) .skip (.exit 0)) (.seq (.block 1 (.seq (.reg none [⟨(some 10), (.mv (.t 8)), none⟩, ⟨(some 5), (.mv (.t 10)), none⟩]) (.seq (.reg none [⟨(some 11), (.mv (.t 1)), none⟩, ⟨(some 12), (.mv (.t 0)), none⟩, ⟨(some 13), (.mv (.t 5)), none⟩, ⟨(some 14), (.iaddrS 7 (.t 12) (.t 13)), none⟩, ⟨(some 15), (.load true 7 (.t 14)), none⟩, ⟨(some 16), (.call (.t 11) [(.t 15)]), none⟩]) (.cond (.t 16) (.seq (.reg none [⟨(some 17), (.mv (.t 5)), none⟩, ⟨(some 4), (.mv (.t 17)), none⟩]) .ret) .skip)))) (.reg none [⟨(some 18), (.bin .add .int (.t 8) (.c (.int .i64 (1)))), none⟩, ⟨(some 8), (.mv (.t 18)), none⟩]))))))) (.seq (.reg none [⟨(some 4), (.mv (.c (.int .i64 (-1 - 0)))), none⟩]) .ret)))⟩
theorem c77 : cFunc Tryz.prog Tryz.f77 = some v77 := by kernel_rfl
def v80 : VFunc := ⟨143, [(.tmp 4)], (.seq (.reg none [⟨(some 4), (.mv (.c (.int .i64 (0)))), none⟩]) (.seq (.reg none [⟨(some 14), (.mv (.t 1)), none⟩, ⟨(some 15), (.len true (.t 14)), none⟩, ⟨(some 5), (.mv (.t 15)), none⟩]) (.seq (.block 0 (.seq (.reg none [⟨(some 17), (.mv (.t 5)), none⟩, ⟨(some 18), (.bin .eql .int (.t 17) (.c (.int .i64 (0)))), none⟩, ⟨(some 19), (.mv (.t 18)), none⟩, ⟨(some 20), (.mv (.t 1)), (some (19, false))⟩, ⟨(some 21), (.mv (.t 0)), (some (19, false))⟩, ⟨(some 22), (.bin .eql .str (.t 20) (.t 21)), (some (19, false))⟩, ⟨(some 23), (.pick (.t 19) (.c (.bool true)) (.t 22)), none⟩, ⟨(some 16), (.mv (.t 23)), none⟩]) (.cond (.t 16) (.seq (.reg none [⟨(some 4), (.mv (.c (.int .i64 (0)))), none⟩]) .ret) (.seq (.reg none [⟨(some 25), (.mv (.t 5)), none⟩, ⟨(some 26), (.bin .eql .int (.t 25) (.c (.int .i64 (1)))), none⟩, ⟨(some 24), (.mv (.t 26)), none⟩]) (.cond (.t 24) (.seq (.reg none [⟨(some 27), (.mv (.t 0)), none⟩, ⟨(some 28), (.mv (.t 1)), none⟩, ⟨(some 29), (.indexS (.t 28) (.c (.int .i64 (0)))), none⟩, ⟨(some 30), (.call (.f 107) [(.t 27), (.t 29)]), none⟩, ⟨(some 4), (.mv (.t 30)), none⟩]) .ret) (.seq (.reg none [⟨(some 32), (.mv (.t 5)), none⟩, ⟨(some 33), (.mv (.t 0)), none⟩, ⟨(some 34), (.len true (.t 33)), none⟩, ⟨(some 35), (.bin .geq .int (.t 32) (.t 34)), none⟩, ⟨(some 31), (.mv (.t 35)), none⟩]) (.cond (.t 31) (.seq (.reg none [⟨(some 4), (.mv (.c (.int .i64 (-1 - 0)))), none⟩]) .ret) (.seq (.reg none [⟨(some 37), (.mv (.t 5)), none⟩, ⟨(some 38), (.load false 1 (.g 1)), none⟩, ⟨(some 39), (.bin .leq .int (.t 37) (.t 38)), none⟩, ⟨(some 40), (.mv (.t 39)), none⟩, ⟨(some 41), (.mv (.t 0)), (some (40, true))⟩, ⟨(some 42), (.len true (.t 41)), (some (40, true))⟩, ⟨(some 43), (.bin .leq .int (.t 42) (.c (.int .i64 (64)))), (some (40, true))⟩, ⟨(some 44), (.pick (.t 40) (.t 43) (.c (.bool false))), none⟩, ⟨(some 36), (.mv (.t 44)), none⟩]) (.cond (.t 36) (.seq (.reg none [⟨(some 45), (.mv (.t 0)), none⟩, ⟨(some 46), (.mv (.t 1)), none⟩, ⟨(some 47), (.call (.f 108) [(.t 45), (.t 46)]), none⟩, ⟨(some 4), (.mv (.t 47)), none⟩]) .ret) .skip))))))))) (.seq (.reg none [⟨(some 48), (.mv (.t 1)), none⟩, ⟨(some 49), (.indexS (.t 48) (.c (.int .i64 (0)))), none⟩, ⟨(some 6), (.mv (.t 49)), none⟩]) (.seq (.reg none [⟨(some 50), (.mv (.t 1)), none⟩, ⟨(some 51), (.indexS (.t 50) (.c (.int .i64 (1)))), none⟩, ⟨(some 7), (.mv (.t 51)), none⟩]) (.seq (.reg none [⟨(some 8), (.mv (.c (.int .i64 (0)))), none⟩]) (.seq (.reg none [⟨(some 52), (.mv (.t 0)), none⟩, ⟨(some 53), (.len true (.t 52)), none⟩, ⟨(some 54), (.mv (.t 5)), none⟩, ⟨(some 55), (.bin .sub .int (.t 53) (.t 54)), none⟩, ⟨(some 56), (.bin .add .int (.t 55) (.c (.int .i64 (1)))), none⟩, ⟨(some 9), (.mv (.t 56)), none⟩]) (.seq (.reg none [⟨(some 10), (.mv (.c (.int .i64 (0)))), none⟩]) (.seq (.block 1 (.loop (.seq (.seq (.reg none [⟨(some 57), (.mv (.t 8)), none⟩, ⟨(some 58), (.mv (.t 9)), none⟩, ⟨(some 59), (.bin .lss .int (.t 57) (.t 58)), none⟩]) (.cond (.t 59) .skip (.exit 1))) (.block 2 (.seq (.seq (.reg none [⟨(some 60), (.mv (.t 0)), none⟩, ⟨(some 61), (.mv (.t 8)), none⟩, ⟨(some 62), (.indexS (.t 60) (.t 61)), none⟩, ⟨(some 63), (.mv (.t 6)), none⟩, ⟨(some 64), (.bin .neq .int (.t 62) (.t 63)), none⟩]) (.cond (.t 64) (.seq (.reg none [⟨(some 65), (.mv (.t 0)), none⟩, ⟨(some 66), (.mv (.t 8)), none⟩, ⟨(some 67), (.bin .add .int (.t 66) (.c (.int .i64 (1)))), none⟩, ⟨(some 68), (.mv (.t 9)), none⟩, ⟨(some 69), (.sliceS (.t 65) (some (.t 67)) (some (.t 68))), none⟩, ⟨(some 70), (.mv (.t 6)), none⟩, ⟨(some 71), (.call (.f 107) [(.t 69), (.t 70)]), none⟩, ⟨(some 11), (.mv (.t 71)), none⟩]) (.seq (.seq (.reg none [⟨(some 72), (.mv (.t 11)), none⟩, ⟨(some 73), (.bin .lss .int (.t 72) (.c (.int .i64 (0)))), none⟩]) (.cond (.t 73) (.seq (.reg none [⟨(some 4), (.mv (.c (.int .i64 (-1 - 0)))), none⟩]) .ret) .skip)) (.reg none [⟨(some 74), (.mv (.t 8)), none⟩, ⟨(some 75), (.mv (.t 11)), none⟩, ⟨(some 76), (.bin .add .int (.t 75) (.c (.int .i64 (1)))), none⟩, ⟨(some 77), (.bin .add .int (.t 74) (.t 76)), none⟩, ⟨(some 8), (.mv (.t 77)), none⟩]))) .skip)) (.seq (.seq (.reg none [⟨(some 78), (.mv (.t 0)), none⟩, ⟨(some 79), (.mv (.t 8)), none⟩, ⟨(some 80), (.bin .add .int (.t 79) (.c (.int .i64 (1)))), none⟩, ⟨(some 81), (.indexS (.t 78) (.t 80)), none⟩, ⟨(some 82), (.mv (.t 7)), none⟩, ⟨(some 83), (.bin .eql .int (.t 81) (.t 82)), none⟩, ⟨(some 84), (.mv (.t 83)), none⟩, ⟨(some 85), (.mv (.t 0)), (some (84, true))⟩, ⟨(some 86), (.mv (.t 8)), (some (84, true))⟩, ⟨(some 87), (.mv (.t 8)), (some (84, true))⟩, ⟨(some 88), (.mv (.t 5)), (some (84, true))⟩, ⟨(some 89), (.bin .add .int (.t 87) (.t 88)), (some (84, true))⟩, ⟨(some 90), (.sliceS (.t 85) (some (.t 86)) (some (.t 89))), (some (84, true))⟩, ⟨(some 91), (.mv (.t 1)), (some (84, true))⟩, ⟨(some 92), (.bin .eql .str (.t 90) (.t 91)), (some (84, true))⟩, ⟨(some 93), (.pick (.t 84) (.t 92) (.c (.bool false))), none⟩]) (.cond (.t 93) (.seq (.reg none [⟨(some 94), (.mv (.t 8)), none⟩, ⟨(some 4), (.mv (.t 94)), none⟩]) .ret) .skip)) (.seq (.reg none [⟨(some 95), (.mv (.t 8)), none⟩, ⟨(some 96), (.bin .add .int (.t 95) (.c (.int .i64 (1)))), none⟩, ⟨(some 8), (.mv (.t 96)), none⟩]) (.seq (.reg none [⟨(some 97), (.mv (.t 10)), none⟩, ⟨(some 98), (.bin .add .int (.t 97) (.c (.int .i64 (1)))), none⟩, ⟨(some 10), (.mv (.t 98)), none⟩]) (.seq (.reg none [⟨(some 99), (.mv (.t 5)), none⟩, ⟨(some 100), (.load false 1 (.g 1)), none⟩, ⟨(some 101), (.bin .leq .int (.t 99) (.t 100)), none⟩, ⟨(some 102), (.mv (.t 101)), none⟩, ⟨(some 103), (.mv (.t 10)), (some (102, true))⟩, ⟨(some 104), (.mv (.t 8)), (some (102, true))⟩, ⟨(some 105), (.call (.f 109) [(.t 104)]), (some (102, true))⟩, ⟨(some 106), (.bin .gtr .int (.t 103) (.t 105)), (some (102, true))⟩, ⟨(some 107), (.pick (.t 102) (.t 106) (.c (.bool false))), none⟩]) (.cond (.t 107) (.seq (.reg none [⟨(some 108), (.mv (.t 0)), none⟩, ⟨(some 109), (.mv (.t 8)), none⟩, ⟨(some 110), (.sliceS (.t 108) (some (.t 109)) none), none⟩, ⟨(some 111), (.mv (.t 1)), none⟩, ⟨(some 112), (.call (.f 108) [(.t 110), (.t 111)]), none⟩, ⟨(some 12), (.mv (.t 112)), none⟩]) (.seq (.seq (.reg none [⟨(some 113), (.mv (.t 12)), none⟩, ⟨(some 114), (.bin .geq .int (.t 113) (.c (.int .i64 (0)))), none⟩]) (.cond (.t 114) (.seq (.reg none [⟨(some 115), (.mv (.t 12)), none⟩, ⟨(some 116), (.mv (.t 8)), none⟩, ⟨(some 117), (.bin .add .int (.t 115) (.t 116)), none⟩, ⟨(some 4), (.mv (.t 117)), none⟩]) .ret) .skip)) (.seq (.reg none [⟨(some 4), (.mv (.c (.int .i64 (-1 - 0)))), none⟩]) .ret))) (.seq (.reg none [⟨(some 118), (.mv (.t 5)), none⟩, ⟨(some 119), (.load false 1 (.g 1)), none⟩, ⟨(some 120), (.bin .gtr .int (.t 118) (.t 119)), none⟩, ⟨(some 121), (.mv (.t 120)), none⟩, ⟨(some 122), (.mv (.t 10)), (some (121, true))⟩, ⟨(some 123), (.mv (.t 8)), (some (121, true))⟩, ⟨(some 124), (.bin .shr .int (.t 123) (.c (.int .u64 (4)))), (some (121, true))⟩, ⟨(some 125), (.bin .add .int (.c (.int .i64 (4))) (.t 124)), (some (121, true))⟩, ⟨(some 126), (.bin .geq .int (.t 122) (.t 125)), (some (121, true))⟩, ⟨(some 127), (.pick (.t 121) (.t 126) (.c (.bool false))), none⟩, ⟨(some 128), (.mv (.t 127)), none⟩, ⟨(some 129), (.mv (.t 8)), (some (128, true))⟩, ⟨(some 130), (.mv (.t 9)), (some (128, true))⟩, ⟨(some 131), (.bin .lss .int (.t 129) (.t 130)), (some (128, true))⟩, ⟨(some 132), (.pick (.t 128) (.t 131) (.c (.bool false))), none⟩]) (.cond (.t 132) (.seq (.reg none [⟨(some 133), (.mv (.t 0)), none⟩, ⟨(some 134), (.mv (.t 8)), none⟩, ⟨(some 135), (.sliceS (.t 133) (some (.t 134)) none), none⟩, ⟨(some 136), (.mv (.t 1)), none⟩, ⟨(some 137), (.call (.f 110) [(.t 135), (.t 136)]), none⟩, ⟨(some 13), (.mv (.t 137)), none⟩]) (.seq (.seq (.reg none [⟨(some 138), (.mv (.t 13)), none⟩, ⟨(some 139), (.bin .lss .int (.t 138) (.c (.int .i64 (0)))), none⟩]) (.cond (.t 139) (.seq (.reg none [⟨(some 4), (.mv (.c (.int .i64 (-1 - 0)))), none⟩]) .ret) .skip)) (.seq (.reg none [⟨(some 140), (.mv (.t 8)), none⟩, ⟨(some 141), (.mv (.t 13)), none⟩, ⟨(some 142), (.bin .add .int (.t 140) (.t 141)), none⟩, ⟨(some 4), (.mv (.t 142)), none⟩]) .ret))) .skip)))))))))))) (.seq (.reg none [⟨(some 4), (.mv (.c (.int .i64 (-1 - 0)))), none⟩]) .ret))))))))))⟩
theorem c80 : cFunc Tryz.prog Tryz.f80 = some v80 := by kernel_rfl
def v81 : VFunc := ⟨49, [], (.seq (.reg none [⟨(some 8), (.mv (.t 1)), none⟩, ⟨(some 9), (.bin .add .int (.t 8) (.c (.int .i64 (1)))), none⟩, ⟨(some 6), (.mv (.t 9)), none⟩]) (.block 0 (.loop (.seq (.seq (.reg none [⟨(some 10), (.mv (.t 6)), none⟩, ⟨(some 11), (.mv (.t 2)), none⟩, ⟨(some 12), (.bin .lss .int (.t 10) (.t 11)), none⟩]) (.cond (.t 12) .skip (.exit 0))) (.seq (.block 1 (.seq (.reg none [⟨(some 15), (.mv (.t 6)), none⟩, ⟨(some 7), (.mv (.t 15)), none⟩]) (.block 2 (.loop (.seq (.seq (.reg (some []) [⟨(some 16), (.mv (.t 7)), none⟩, ⟨(some 17), (.mv (.t 1)), none⟩, ⟨(some 18), (.bin .gtr .int (.t 16) (.t 17)), none⟩, ⟨(some 19), (.mv (.t 18)), none⟩, ⟨(some 20), (.mv (.t 0)), (some (19, true))⟩, ⟨(some 21), (.mv (.t 7)), (some (19, true))⟩, ⟨(some 22), (.iaddrS 1 (.t 20) (.t 21)), (some (19, true))⟩, ⟨(some 23), (.load false 1 (.t 22)), (some (19, true))⟩, ⟨(some 24), (.mv (.t 0)), (some (19, true))⟩, ⟨(some 25), (.mv (.t 7)), (some (19, true))⟩, ⟨(some 26), (.bin .sub .int (.t 25) (.c (.int .i64 (1)))), (some (19, true))⟩, ⟨(some 27), (.iaddrS 1 (.t 24) (.t 26)), (some (19, true))⟩, ⟨(some 28), (.load false 1 (.t 27)), (some (19, true))⟩, ⟨(some 29), (.call (.f 87) [(.t 23), (.t 28)]), (some (19, true))⟩, ⟨(some 30), (.pick (.t 19) (.t 29) (.c (.bool false))), none⟩]) (.cond (.t 30) .skip (.exit 2))) (.seq (.block 3 (.reg (some []) [⟨(some 33), (.mv (.t 0)), none⟩, ⟨(some 34), (.mv (.t 7)), none⟩, ⟨(some 35), (.mv (.t 0)), none⟩, ⟨(some 36), (.mv (.t 7)), none⟩, ⟨(some 37), (.bin .sub .int (.t 36) (.c (.int .i64 (1)))), none⟩, ⟨(some 38), (.mv (.t 0)), none⟩, ⟨(some 39), (.mv (.t 7)), none⟩, ⟨(some 40), (.bin .sub .int (.t 39) (.c (.int .i64 (1)))), none⟩, ⟨(some 41), (.iaddrS 1 (.t 38) (.t 40)), none⟩, ⟨(some 42), (.load false 1 (.t 41)), none⟩, ⟨(some 43), (.mv (.t 0)), none⟩, ⟨(some 44), (.mv (.t 7)), none⟩, ⟨(some 45), (.iaddrS 1 (.t 43) (.t 44)), none⟩, ⟨(some 46), (.load false 1 (.t 45)), none⟩, ⟨(some 47), (.iaddrS 1 (.t 33) (.t 34)), none⟩, ⟨none, (.store 1 (.t 47) (.t 42)), none⟩, ⟨(some 48), (.iaddrS 1 (.t 35) (.t 37)), none⟩, ⟨none, (.store 1 (.t 48) (.t 46)), none⟩])) (.reg none [⟨(some 31), (.mv (.t 7)), none⟩, ⟨(some 32), (.bin .sub .int (.t 31) (.c (.int .i64 (1)))), none⟩, ⟨(some 7), (.mv (.t 32)), none⟩]))))))) (.reg none [⟨(some 13), (.mv (.t 6)), none⟩, ⟨(some 14), (.bin .add .int (.t 13) (.c (.int .i64 (1)))), none⟩, ⟨(some 6), (.mv (.t 14)), none⟩]))))))⟩
theorem c81 : cFunc Tryz.prog Tryz.f81 = some v81 := by kernel_rfl
def v91 : VFunc := ⟨25, [(.tmp 2)], (.seq (.reg none [⟨(some 2), (.mv (.c (.int .i64 (0)))), none⟩]) (.seq (.seq (.reg none [⟨(some 3), (.mv (.t 0)), none⟩, ⟨(some 4), (.bin .geq .int (.t 3) (.c (.int .u64 (4294967296)))), none⟩]) (.cond (.t 4) (.seq (.reg none [⟨(some 5), (.mv (.t 0)), none⟩, ⟨(some 6), (.bin .shr .int (.t 5) (.c (.int .u64 (32)))), none⟩, ⟨(some 0), (.mv (.t 6)), none⟩]) (.reg none [⟨(some 2), (.mv (.c (.int .i64 (32)))), none⟩])) .skip)) (.seq (.seq (.reg none [⟨(some 7), (.mv (.t 0)), none⟩, ⟨(some 8), (.bin .geq .int (.t 7) (.c (.int .u64 (65536)))), none⟩]) (.cond (.t 8) (.seq (.reg none [⟨(some 9), (.mv (.t 0)), none⟩, ⟨(some 10), (.bin .shr .int (.t 9) (.c (.int .u64 (16)))), none⟩, ⟨(some 0), (.mv (.t 10)), none⟩]) (.reg none [⟨(some 11), (.mv (.t 2)), none⟩, ⟨(some 12), (.bin .add .int (.t 11) (.c (.int .i64 (16)))), none⟩, ⟨(some 2), (.mv (.t 12)), none⟩])) .skip)) (.seq (.seq (.reg none [⟨(some 13), (.mv (.t 0)), none⟩, ⟨(some 14), (.bin .geq .int (.t 13) (.c (.int .u64 (256)))), none⟩]) (.cond (.t 14) (.seq (.reg none [⟨(some 15), (.mv (.t 0)), none⟩, ⟨(some 16), (.bin .shr .int (.t 15) (.c (.int .u64 (8)))), none⟩, ⟨(some 0), (.mv (.t 16)), none⟩]) (.reg none [⟨(some 17), (.mv (.t 2)), none⟩, ⟨(some 18), (.bin .add .int (.t 17) (.c (.int .i64 (8)))), none⟩, ⟨(some 2), (.mv (.t 18)), none⟩])) .skip)) (.seq (.reg none [⟨(some 19), (.mv (.t 2)), none⟩, ⟨(some 20), (.mv (.t 0)), none⟩, ⟨(some 21), (.toInt .u8 (.t 20)), none⟩, ⟨(some 22), (.indexS (.c (.str [0, 1, 2, 2, 3, 3, 3, 3, 4, 4, 4, 4, 4, 4, 4, 4, 5, 5, 5, 5, 5, 5, 5, 5, 5, 5, 5, 5, 5, 5, 5, 5, 6, 6, 6, 6, 6, 6, 6, 6, 6, 6, 6, 6, 6, 6, 6, 6, 6, 6, 6, 6, 6, 6, 6, 6, 6, 6, 6, 6, 6, 6, 6, 6, 7, 7, 7, 7, 7, 7, 7, 7, 7, 7, 7, 7, 7, 7, 7, 7, 7, 7, 7, 7, 7, 7, 7, 7, 7, 7, 7, 7, 7, 7, 7, 7, 7, 7, 7, 7, 7, 7, 7, 7, 7, 7, 7, 7, 7, 7, 7, 7, 7, 7, 7, 7, 7, 7, 7, 7, 7, 7, 7, 7, 7, 7, 7, 7, 8, 8, 8, 8, 8, 8, 8, 8, 8, 8, 8, 8, 8, 8, 8, 8, 8, 8, 8, 8, 8, 8, 8, 8, 8, 8, 8, 8, 8, 8, 8, 8, 8, 8, 8, 8, 8, 8, 8, 8, 8, 8, 8, 8, 8, 8, 8, 8, 8, 8, 8, 8, 8, 8, 8, 8, 8, 8, 8, 8, 8, 8, 8, 8, 8, 8, 8, 8, 8, 8, 8, 8, 8, 8, 8, 8, 8, 8, 8, 8, 8, 8, 8, 8, 8, 8, 8, 8, 8, 8, 8, 8, 8, 8, 8, 8, 8, 8, 8, 8, 8, 8, 8, 8, 8, 8, 8, 8, 8, 8, 8, 8, 8, 8, 8, 8, 8, 8, 8, 8, 8, 8, 8, 8, 8, 8, 8, 8])) (.t 21)), none⟩, ⟨(some 23), (.toInt .i64 (.t 22)), none⟩, ⟨(some 24), (.bin .add .int (.t 19) (.t 23)), none⟩, ⟨(some 2), (.mv (.t 24)), none⟩]) .ret)))))⟩
theorem c91 : cFunc Tryz.prog Tryz.f91 = some v91 := by kernel_rfl
def v107 : VFunc := ⟨8, [(.tmp 4)], (.seq (.reg none [⟨(some 4), (.mv (.c (.int .i64 (0)))), none⟩]) (.seq (.reg none [⟨(some 5), (.mv (.t 0)), none⟩, ⟨(some 6), (.mv (.t 1)), none⟩, ⟨(some 7), (.idx (.t 5) (.t 6)), none⟩, ⟨(some 4), (.mv (.t 7)), none⟩]) .ret))⟩
theorem c107 : cFunc Tryz.prog Tryz.f107 = some v107 := by kernel_rfl
end Go.Proofs.YtcomlgfjnjpebaaGreatDoor
end

section
set_option maxRecDepth 100000
namespace Go.Proofs.YtcomlgfjnjpebaaGreatDoor
open Go.VL Go.Proofs
def tab : Tab := (.node 47 v47 (.node 30 v30 (.node 16 v16 (.node 13 v13 (.node 11 v11 (.node 9 v9 .leaf .leaf) .leaf) (.node 15 v15 (.node 14 v14 .leaf .leaf) .leaf)) (.node 26 v26 (.node 24 v24 (.node 19 v19 .leaf .leaf) .leaf) (.node 29 v29 (.node 27 v27 .leaf .leaf) .leaf))) (.node 39 v39 (.node 36 v36 (.node 32 v32 (.node 31 v31 .leaf .leaf) .leaf) (.node 38 v38 (.node 37 v37 .leaf .leaf) .leaf)) (.node 42 v42 (.node 41 v41 (.node 40 v40 .leaf .leaf) .leaf) (.node 46 v46 .leaf .leaf)))) (.node 65 v65 (.node 57 v57 (.node 52 v52 (.node 51 v51 (.node 50 v50 .leaf .leaf) .leaf) (.node 54 v54 (.node 53 v53 .leaf .leaf) .leaf)) (.node 62 v62 (.node 59 v59 (.node 58 v58 .leaf .leaf) .leaf) (.node 64 v64 (.node 63 v63 .leaf .leaf) .leaf))) (.node 77 v77 (.node 74 v74 (.node 73 v73 (.node 67 v67 .leaf .leaf) .leaf) (.node 76 v76 (.node 75 v75 .leaf .leaf) .leaf)) (.node 91 v91 (.node 81 v81 (.node 80 v80 .leaf .leaf) .leaf) (.node 107 v107 .leaf .leaf)))))
theorem tab_of : tab.Of Tryz.prog := ⟨⟨_, Tryz.func47, c47⟩, ⟨⟨_, Tryz.func30, c30⟩, ⟨⟨_, Tryz.func16, c16⟩, ⟨⟨_, Tryz.func13, c13⟩, ⟨⟨_, Tryz.func11, c11⟩, ⟨⟨_, Tryz.func9, c9⟩, trivial, trivial⟩, trivial⟩, ⟨⟨_, Tryz.func15, c15⟩, ⟨⟨_, Tryz.func14, c14⟩, trivial, trivial⟩, trivial⟩⟩, ⟨⟨_, Tryz.func26, c26⟩, ⟨⟨_, Tryz.func24, c24⟩, ⟨⟨_, Tryz.func19, c19⟩, trivial, trivial⟩, trivial⟩, ⟨⟨_, Tryz.func29, c29⟩, ⟨⟨_, Tryz.func27, c27⟩, trivial, trivial⟩, trivial⟩⟩⟩, ⟨⟨_, Tryz.func39, c39⟩, ⟨⟨_, Tryz.func36, c36⟩, ⟨⟨_, Tryz.func32, c32⟩, ⟨⟨_, Tryz.func31, c31⟩, trivial, trivial⟩, trivial⟩, ⟨⟨_, Tryz.func38, c38⟩, ⟨⟨_, Tryz.func37, c37⟩, trivial, trivial⟩, trivial⟩⟩, ⟨⟨_, Tryz.func42, c42⟩, ⟨⟨_, Tryz.func41, c41⟩, ⟨⟨_, Tryz.func40, c40⟩, trivial, trivial⟩, trivial⟩, ⟨⟨_, Tryz.func46, c46⟩, trivial, trivial⟩⟩⟩⟩, ⟨⟨_, Tryz.func65, c65⟩, ⟨⟨_, Tryz.func57, c57⟩, ⟨⟨_, Tryz.func52, c52⟩, ⟨⟨_, Tryz.func51, c51⟩, ⟨⟨_, Tryz.func50, c50⟩, trivial, trivial⟩, trivial⟩, ⟨⟨_, Tryz.func54, c54⟩, ⟨⟨_, Tryz.func53, c53⟩, trivial, trivial⟩, trivial⟩⟩, ⟨⟨_, Tryz.func62, c62⟩, ⟨⟨_, Tryz.func59, c59⟩, ⟨⟨_, Tryz.func58, c58⟩, trivial, trivial⟩, trivial⟩, ⟨⟨_, Tryz.func64, c64⟩, ⟨⟨_, Tryz.func63, c63⟩, trivial, trivial⟩, trivial⟩⟩⟩, ⟨⟨_, Tryz.func77, c77⟩, ⟨⟨_, Tryz.func74, c74⟩, ⟨⟨_, Tryz.func73, c73⟩, ⟨⟨_, Tryz.func67, c67⟩, trivial, trivial⟩, trivial⟩, ⟨⟨_, Tryz.func76, c76⟩, ⟨⟨_, Tryz.func75, c75⟩, trivial, trivial⟩, trivial⟩⟩, ⟨⟨_, Tryz.func91, c91⟩, ⟨⟨_, Tryz.func81, c81⟩, ⟨⟨_, Tryz.func80, c80⟩, trivial, trivial⟩, trivial⟩, ⟨⟨_, Tryz.func107, c107⟩, trivial, trivial⟩⟩⟩⟩⟩
end Go.Proofs.YtcomlgfjnjpebaaGreatDoor
end

section
namespace Go.VL
def fnB : Fn → Fn → Bool
  | .func a, .func b => a == b
  | _, _ => false
theorem fnB_eq : ∀ {a b : Fn}, fnB a b = true → a = b := by
  intro a b h
  cases a <;> cases b <;> simp [fnB] at h
  subst h; rfl
mutual
def avB : AV → AV → Bool
  | .bool a, .bool b => a == b
  | .int k n, .int k' n' => decide (k = k') && n == n'
  | .str a, .str b => a == b
  | .nilp, .nilp => true
  | .nilf, .nilf => true
  | .fn f a c, .fn f' a' c' => fnB f f' && avBL a a' && avBL c c'
  | .agg a, .agg b => avBL a b
  | .tup a, .tup b => avBL a b
  | .sl k a, .sl k' b => k == k' && avBL a b
  | .tsl k a, .tsl k' b => k == k' && avBL a b
  | .nils, .nils => true
  | .osl i k o l t, .osl i' k' o' l' t' => i == i' && k == k' && o == o' && l == l' && t == t'
  | .ref i e o, .ref i' e' o' => i == i' && e == e' && o == o'
  | .ep a o, .ep b o' => avBL a b && o == o'
  | .top, .top => true
  | .anyb, .anyb => true
  | .ige n, .ige m => n == m
  | _, _ => false
def avBL : List AV → List AV → Bool
  | [], [] => true
  | a :: as, b :: bs => avB a b && avBL as bs
  | _, _ => false
end
mutual
theorem avB_eq : ∀ {a b : AV}, avB a b = true → a = b
  | .bool a, b, h => by cases b <;> simp [avB] at h; subst h; rfl
  | .int k n, b, h => by cases b <;> simp [avB] at h; obtain ⟨rfl, rfl⟩ := h; rfl
  | .str a, b, h => by cases b <;> simp [avB] at h; subst h; rfl
  | .nilp, b, h => by cases b <;> simp [avB] at h; rfl
  | .nilf, b, h => by cases b <;> simp [avB] at h; rfl
  | .fn f a c, b, h => by
    cases b <;> simp [avB] at h
    obtain ⟨⟨h1, h2⟩, h3⟩ := h
    rw [fnB_eq h1, avBL_eq h2, avBL_eq h3]
  | .agg a, b, h => by cases b <;> simp [avB] at h; rw [avBL_eq h]
  | .tup a, b, h => by cases b <;> simp [avB] at h; rw [avBL_eq h]
  | .sl k a, b, h => by cases b <;> simp [avB] at h; obtain ⟨rfl, h⟩ := h; rw [avBL_eq h]
  | .tsl k a, b, h => by cases b <;> simp [avB] at h; obtain ⟨rfl, h⟩ := h; rw [avBL_eq h]
  | .nils, b, h => by cases b <;> simp [avB] at h; rfl
  | .osl i k o l t, b, h => by cases b <;> simp [avB] at h; obtain ⟨⟨⟨⟨rfl, rfl⟩, rfl⟩, rfl⟩, rfl⟩ := h; rfl
  | .ref i e o, b, h => by cases b <;> simp [avB] at h; obtain ⟨⟨rfl, rfl⟩, rfl⟩ := h; rfl
  | .ep a o, b, h => by cases b <;> simp [avB] at h; obtain ⟨h, rfl⟩ := h; rw [avBL_eq h]
  | .top, b, h => by cases b <;> simp [avB] at h; rfl
  | .anyb, b, h => by cases b <;> simp [avB] at h; rfl
  | .ige n, b, h => by cases b <;> simp [avB] at h; subst h; rfl
theorem avBL_eq : ∀ {a b : List AV}, avBL a b = true → a = b
  | [], [], _ => rfl
  | x :: xs, y :: ys, h => by simp only [avBL, Bool.and_eq_true] at h; rw [avB_eq h.1, avBL_eq h.2]
  | [], _ :: _, h => by simp [avBL] at h
  | _ :: _, [], h => by simp [avBL] at h
end
def blkB (a b : Blk) : Bool := avBL a.els b.els && a.k == b.k && a.fr == b.fr
theorem blkB_eq {a b : Blk} (h : blkB a b = true) : a = b := by
  obtain ⟨x, y, z⟩ := a; obtain ⟨x', y', z'⟩ := b
  simp only [blkB, Bool.and_eq_true, beq_iff_eq] at h
  obtain ⟨⟨h1, rfl⟩, rfl⟩ := h
  rw [avBL_eq h1]
def stB : List (Id × Blk) → List (Id × Blk) → Bool
  | [], [] => true
  | (i, a) :: as, (j, b) :: bs => i == j && blkB a b && stB as bs
  | _, _ => false
theorem stB_eq : ∀ {a b : List (Id × Blk)}, stB a b = true → a = b
  | [], [], _ => rfl
  | (i, x) :: xs, (j, y) :: ys, h => by
    simp only [stB, Bool.and_eq_true, beq_iff_eq] at h
    obtain ⟨⟨rfl, h1⟩, h2⟩ := h
    rw [blkB_eq h1, stB_eq h2]
  | [], _ :: _, h => by simp [stB] at h
  | _ :: _, [], h => by simp [stB] at h
structure Memo where
  f : FuncId
  p : Id
  args : List AV
  S : List (Id × Blk)
  r : Res
def askMemo (ms : List Memo) (f : FuncId) (args : List AV) (p : Id) (L : LStore) : Option Res :=
  match ms with
  | [] => none
  | m :: ms => if m.f = f ∧ m.p = p ∧ avBL m.args args = true ∧ stB m.S (reach 1000 L (idsL args) []) = true then some m.r else askMemo ms f args p L
def MemoOk (P : Program) (G : Nat → Option (List AV)) (m : Memo) : Prop := ∃ S, CallRel P G m.f m.args m.p S m.r ∧ (∀ x ∈ S, Store.of m.S x.1 = some x.2) ∧ ∀ x ∈ S, x.1 ∈ m.r.rd
theorem askMemo_ok {P : Program} {G : Nat → Option (List AV)} : ∀ {ms : List Memo}, (∀ m ∈ ms, MemoOk P G m) → CallOk P G (askMemo ms)
  | [], _, _, _, _, _, _, h => by simp [askMemo] at h
  | m :: ms, hm, f, args, p, L, r, h => by
    simp only [askMemo] at h
    split at h
    · rename_i hh
      obtain ⟨rfl, rfl, h1, h2⟩ := hh
      simp only [Option.some.injEq] at h; subst h
      have e1 := avBL_eq h1; subst e1
      have e2 := stB_eq h2
      obtain ⟨S, h3, h4, h5⟩ := hm m (by simp)
      exact ⟨S, h3, fun x hx => by have := lookup_mem (h4 x hx); rw [e2] at this; exact reach_sub 1000 _ _ (by simp) _ this, h5⟩
    · exact askMemo_ok (fun x hx => hm x (List.mem_cons_of_mem _ hx)) f args p L r h
def upB : List (Id × Option Blk) → List (Id × Option Blk) → Bool
  | [], [] => true
  | (i, some a) :: as, (j, some b) :: bs => i == j && blkB a b && upB as bs
  | (i, none) :: as, (j, none) :: bs => i == j && upB as bs
  | _, _ => false
theorem upB_eq : ∀ {a b : List (Id × Option Blk)}, upB a b = true → a = b
  | [], [], _ => rfl
  | (i, some x) :: xs, (j, some y) :: ys, h => by
    simp only [upB, Bool.and_eq_true, beq_iff_eq] at h
    obtain ⟨⟨rfl, h1⟩, h2⟩ := h
    rw [blkB_eq h1, upB_eq h2]
  | (i, none) :: xs, (j, none) :: ys, h => by
    simp only [upB, Bool.and_eq_true, beq_iff_eq] at h
    obtain ⟨rfl, h2⟩ := h
    rw [upB_eq h2]
  | (_, some _) :: _, (_, none) :: _, h => by simp [upB] at h
  | (_, none) :: _, (_, some _) :: _, h => by simp [upB] at h
  | [], _ :: _, h => by simp [upB] at h
  | (_, some _) :: _, [], h => by simp [upB] at h
  | (_, none) :: _, [], h => by simp [upB] at h
def resB (o : Option Res) (r : Res) : Bool := match o with
  | some x => avB x.val r.val && x.rd == r.rd && upB x.up r.up
  | none => false
theorem resB_eq {o : Option Res} {r : Res} (h : resB o r = true) : o = some r := by
  unfold resB at h
  split at h
  · rename_i x
    obtain ⟨a, b, c⟩ := x; obtain ⟨a', b', c'⟩ := r
    simp only [Bool.and_eq_true, beq_iff_eq] at h
    obtain ⟨⟨h1, rfl⟩, h3⟩ := h
    rw [avB_eq h1, upB_eq h3]
  · simp at h
theorem MemoOk.run {P : Program} {G : Nat → Option (List AV)} {X : FuncId → List AV → Id → LStore → Option Res} (hX : CallOk P G X) {T : Tab} (hT : T.Of P) (n : Nat) (m : Memo)
    (h : resB (evFunc X (run G X T n) T m.f m.args m.p (m.S.map fun x => (x.1, x.2, false))) m.r = true) : MemoOk P G m := by
  obtain ⟨S, h1, h2, h3⟩ := call_run hX hT n (resB_eq h)
  exact ⟨S, h1, fun x hx => by have := h2 x hx; rwa [show LStore.to (m.S.map fun x => (x.1, x.2, false)) = Store.of m.S from funext fun i => find_init m.S i] at this, h3⟩
theorem CallOk.or {P : Program} {G : Nat → Option (List AV)} {A B : FuncId → List AV → Id → LStore → Option Res} (ha : CallOk P G A) (hb : CallOk P G B) :
    CallOk P G fun f args p L => match A f args p L with | some r => some r | none => B f args p L := by
  intro f args p L r h
  simp only [] at h
  split at h
  · rename_i r' hr; simp only [Option.some.injEq] at h; subst h; exact ha _ _ _ _ _ hr
  · exact hb _ _ _ _ _ h
end Go.VL
end

section
namespace Go.Proofs
open Go.VL
def Tryz.X : FuncId → List AV → Go.VL.Id → LStore → Option Res := fun _ _ _ _ => none
theorem Tryz.X_ok (G : Nat → Option (List AV)) : CallOk Tryz.prog G Tryz.X := fun _ _ _ _ _ h => by simp [Tryz.X] at h
end Go.Proofs
end

section
set_option maxRecDepth 1000000
namespace Go.Proofs.YtcomlgfjnjpebaaGreatDoor
open Go.VL Go.Proofs
def known (ms : List Memo) (f : FuncId) (args : List AV) (p : Go.VL.Id) (L : LStore) : Option Res := match askMemo ms f args p L with | some r => some r | none => Tryz.X f args p L
theorem known_ok (G : Nat → Option (List AV)) {ms : List Memo} (h : ∀ m ∈ ms, MemoOk Tryz.prog G m) : CallOk Tryz.prog G (known ms) := CallOk.or (askMemo_ok h) (Tryz.X_ok G)
def m0 : Memo := ⟨40, [27, 16], [(.osl [24, 16] 5 0 2 false)], [([5, 4, 22, 16], ⟨[(.str [97, 47, 115, 48])], 1, false⟩), ([24, 16], ⟨[(.agg [(.str [97]), (.int .i64 (1)), .nils, .nils, (.bool false)]), (.agg [(.str [98]), (.int .i64 (5)), (.osl [5, 4, 22, 16] 1 0 1 false), .nils, (.bool false)])], 5, false⟩)], { val := (.bool true), rd := [[5, 4, 22, 16], [24, 16]], up := [] }⟩
theorem m0_run : resB (evFunc (known []) (run (fun _ => none) (known []) tab 3000) tab m0.f m0.args m0.p (m0.S.map fun x => (x.1, x.2, false))) m0.r = true := by kernel_rfl
theorem m0_ok : MemoOk Tryz.prog (fun _ => none) m0 := MemoOk.run (known_ok (fun _ => none) (fun m hm => by simp at hm)) tab_of 3000 m0 m0_run
def m1 : Memo := ⟨14, [16], [(.ref [3, 1] 0 0), (.agg [(.str [98]), (.int .i64 (5)), (.osl [5] 1 0 1 false), .nils, (.bool false)])], [([5], ⟨[(.str [97, 47, 115, 48])], 1, false⟩), ([24, 11], ⟨[(.agg [(.str [97]), (.int .i64 (1)), .nils, .nils, (.bool false)])], 5, false⟩), ([24, 31, 11], ⟨[.nils, (.osl [24, 11] 5 0 1 false)], 1, false⟩), ([3, 1], ⟨[(.agg [(.osl [24, 31, 11] 1 0 2 false), (.int .i64 (1))])], 2, false⟩)], { val := (.int .i64 (0)), rd := [[5], [24, 11], [24, 31, 11], [3, 1]], up := [([24, 31, 16], some ⟨[.nils, (.osl [24, 11] 5 0 1 false), (.osl [24, 16] 5 0 2 false)], 1, false⟩), ([3, 1], some ⟨[(.agg [(.osl [24, 31, 16] 1 0 3 false), (.int .i64 (2))])], 2, false⟩), ([24, 16], some ⟨[(.agg [(.str [97]), (.int .i64 (1)), .nils, .nils, (.bool false)]), (.agg [(.str [98]), (.int .i64 (5)), (.osl [5, 4, 22, 16] 1 0 1 false), .nils, (.bool false)])], 5, false⟩), ([5, 4, 22, 16], some ⟨[(.str [97, 47, 115, 48])], 1, false⟩)] }⟩
theorem m1_run : resB (evFunc (known [m0]) (run (fun _ => none) (known [m0]) tab 3000) tab m1.f m1.args m1.p (m1.S.map fun x => (x.1, x.2, false))) m1.r = true := by kernel_rfl
theorem m1_ok : MemoOk Tryz.prog (fun _ => none) m1 := MemoOk.run (known_ok (fun _ => none) (fun m hm => by have := m0_ok; simp only [List.mem_cons, List.not_mem_nil, or_false] at hm; rcases hm with rfl <;> assumption)) tab_of 3000 m1 m1_run
def m2 : Memo := ⟨26, [21], [(.ref [3, 1] 0 0), (.str [98]), (.int .i64 (0))], [([5, 4, 22, 16], ⟨[(.str [97, 47, 115, 48])], 1, false⟩), ([24, 16], ⟨[(.agg [(.str [97]), (.int .i64 (1)), .nils, .nils, (.bool false)]), (.agg [(.str [98]), (.int .i64 (5)), (.osl [5, 4, 22, 16] 1 0 1 false), .nils, (.bool false)])], 5, false⟩), ([24, 11], ⟨[(.agg [(.str [97]), (.int .i64 (1)), .nils, .nils, (.bool false)])], 5, false⟩), ([24, 31, 16], ⟨[.nils, (.osl [24, 11] 5 0 1 false), (.osl [24, 16] 5 0 2 false)], 1, false⟩), ([3, 1], ⟨[(.agg [(.osl [24, 31, 16] 1 0 3 false), (.int .i64 (2))])], 2, false⟩)], { val := (.int .i64 (14)), rd := [[5, 4, 22, 16], [24, 16], [24, 11], [24, 31, 16], [3, 1]], up := [] }⟩
theorem m2_run : resB (evFunc (known []) (run (fun _ => none) (known []) tab 3000) tab m2.f m2.args m2.p (m2.S.map fun x => (x.1, x.2, false))) m2.r = true := by kernel_rfl
theorem m2_ok : MemoOk Tryz.prog (fun _ => none) m2 := MemoOk.run (known_ok (fun _ => none) (fun m hm => by simp at hm)) tab_of 3000 m2 m2_run
def m3 : Memo := ⟨27, [26], [(.ref [3, 1] 0 0), (.str [97])], [([5, 4, 22, 16], ⟨[(.str [97, 47, 115, 48])], 1, false⟩), ([24, 16], ⟨[(.agg [(.str [97]), (.int .i64 (1)), .nils, .nils, (.bool false)]), (.agg [(.str [98]), (.int .i64 (5)), (.osl [5, 4, 22, 16] 1 0 1 false), .nils, (.bool false)])], 5, false⟩), ([24, 11], ⟨[(.agg [(.str [97]), (.int .i64 (1)), .nils, .nils, (.bool false)])], 5, false⟩), ([24, 31, 16], ⟨[.nils, (.osl [24, 11] 5 0 1 false), (.osl [24, 16] 5 0 2 false)], 1, false⟩), ([3, 1], ⟨[(.agg [(.osl [24, 31, 16] 1 0 3 false), (.int .i64 (2))])], 2, false⟩)], { val := (.int .i64 (14)), rd := [[5, 4, 22, 16], [24, 16], [24, 11], [24, 31, 16], [3, 1]], up := [] }⟩
theorem m3_run : resB (evFunc (known []) (run (fun _ => none) (known []) tab 3000) tab m3.f m3.args m3.p (m3.S.map fun x => (x.1, x.2, false))) m3.r = true := by kernel_rfl
theorem m3_ok : MemoOk Tryz.prog (fun _ => none) m3 := MemoOk.run (known_ok (fun _ => none) (fun m hm => by simp at hm)) tab_of 3000 m3 m3_run
def m4 : Memo := ⟨9, [], [], [], { val := (.bool true), rd := [], up := [] }⟩
theorem m4_run : resB (evFunc (known [m1, m2, m3]) (run (fun _ => none) (known [m1, m2, m3]) tab 3000) tab m4.f m4.args m4.p (m4.S.map fun x => (x.1, x.2, false))) m4.r = true := by kernel_rfl
theorem m4_ok : MemoOk Tryz.prog (fun _ => none) m4 := MemoOk.run (known_ok (fun _ => none) (fun m hm => by have := m1_ok; have := m2_ok; have := m3_ok; simp only [List.mem_cons, List.not_mem_nil, or_false] at hm; rcases hm with rfl | rfl | rfl <;> assumption)) tab_of 3000 m4 m4_run
end Go.Proofs.YtcomlgfjnjpebaaGreatDoor
end

section
namespace Go.VL
open Go.RowKit
theorem CallRel.of_below {P : Program} {G : Nat → Option (List AV)} {f : FuncId} {fn : Func} (hf : P.funcs[f]? = some fn) (hname : (fn.name == "runtime.NumGoroutine") = false) (hb : fn.body.isSome = true) {args : List AV} {p : Id} {S : List (Id × Blk)} {val : AV} {rd : List Id}
    (h : ∀ own E w σ vs, (∀ x ∈ S, σ x.1 = some x.2) → Inv G own E w σ → RepL E w args vs → Calls P f vs.toArray w fun e w' => ∃ v, e = .returned v ∧ Below w.heap.size w w' ∧ FlatAV0 val v) :
    CallRel P G f args p S { val, rd } := by
  refine ⟨⟨fn, hf, hname, hb⟩, fun own E w σ vs hS hi hr _ => (h own E w σ vs hS hi hr).mono fun e w' he => ?_⟩
  obtain ⟨v, rfl, hB, hv⟩ := he
  have hadv : Adv own E E w w' := ⟨⟨fun _ _ h => h, fun _ h => h, fun b hb => hB.block b (hi.okb b hb)⟩, hB.os, hB.tape, hB.output, hB.size, fun k hk _ => hB.block k hk, fun _ h => .inl h⟩
  refine ⟨v, E, rfl, hadv, ?_, hv E w', fun _ _ => rfl⟩
  refine hi.keep hadv rfl (fun b hb => Nat.lt_of_lt_of_le (hi.okb b hb) hB.size) fun id bk g N hs hm => ?_
  obtain ⟨g', N', cur, ty, hB2⟩ := hi.blk id bk hs
  rw [hB2.μ] at hm
  simp only [Option.some.injEq, Prod.mk.injEq] at hm
  obtain ⟨rfl, _, rfl⟩ := hm
  exact ⟨hB.block _ (cells_lt hB2.heap), hB2.no⟩
theorem ints_row {G : Nat → Option (List AV)} {own : Nat → Prop} {E : Env} {w : World} {σ : Store} (hi : Inv G own E w σ) {x : AV} {v : Value} (hx : Rep E w x v) {k : IntKind} {zs : List Int} {rd : List Id} (h : elemsOf σ 1 x = some (zs.map (AV.int k), rd)) :
    ∃ a cap, v = .slice a zs.length cap ∧ zs.length ≤ cap ∧ (zs = [] ∨ ∃ b o, a = some ⟨b, o, none⟩ ∧ b < w.heap.size ∧ ∀ j, j < zs.length → w.cell? ⟨b, o + j, none⟩ = some (.int k (zs[j]?.getD 0))) := by
  obtain ⟨_, a, cap, rfl, hle, hr⟩ := elems_rep hi hx h
  refine ⟨a, cap, by simp, by simpa using hle, ?_⟩
  rcases hr with hr | ⟨b, o, rfl, hr⟩
  · left; simpa using hr
  · cases zs with
    | nil => exact .inl rfl
    | cons z zs =>
      right
      have hfl : flat ((z :: zs).map (AV.int k)) = (z :: zs).map (AV.int k) := by
        generalize z :: zs = l
        induction l with
        | nil => rfl
        | cons y l ih => simp only [List.map_cons, flat, List.flatMap_cons, AV.cells] at ih ⊢; rw [ih]; rfl
      rw [hfl] at hr
      have hc : ∀ j, j < (z :: zs).length → w.cell? ⟨b, o + j, none⟩ = some (.int k ((z :: zs)[j]?.getD 0)) := by
        intro j hj
        obtain ⟨v, h1, h2⟩ := hr j (.int k (z :: zs)[j]) (by rw [List.getElem?_map, List.getElem?_eq_getElem hj]; rfl)
        simp only [Rep] at h2
        subst h2
        rw [h1, List.getElem?_eq_getElem hj]; rfl
      refine ⟨b, o, rfl, ?_, hc⟩
      have := hc 0 (by simp)
      cases hh : w.heap[b]? with
      | none => simp [World.cell?, hh] at this
      | some ob => exact (Array.getElem?_eq_some_iff.1 hh).1
end Go.VL
end

section
namespace Go.VL
def Blk.fz (b : Blk) : Blk := { b with fr := true }
def frz (S : List (Id × Blk)) : List (Id × Option Blk) := S.map fun x => (x.1, some x.2.fz)
open Classical in
theorem app_frz {σ : Store} (i : Id) : ∀ (S : List (Id × Blk)) (σ0 : Store), (∀ x ∈ S, σ x.1 = some x.2) → σ0.app (frz S) i = if ∃ x ∈ S, x.1 = i then (σ i).map Blk.fz else σ0 i
  | [], σ0, _ => by simp [frz, Store.app]
  | x :: S, σ0, h => by
    show Store.app (σ0.put x.1 (some x.2.fz)) (frz S) i = _
    rw [app_frz i S _ fun y hy => h y (List.mem_cons_of_mem _ hy)]
    by_cases h1 : ∃ y ∈ S, y.1 = i
    · rw [if_pos h1, if_pos]
      obtain ⟨y, hy, e⟩ := h1
      exact ⟨y, List.mem_cons_of_mem _ hy, e⟩
    · rw [if_neg h1]
      by_cases h2 : i = x.1
      · subst h2
        rw [if_pos ⟨x, by simp, rfl⟩, h x (by simp), Store.put_same]; rfl
      · rw [if_neg, Store.put_other _ _ _ h2]
        rintro ⟨y, hy, e⟩
        rcases List.mem_cons.1 hy with rfl | hy
        · exact h2 e.symm
        · exact h1 ⟨y, hy, e⟩
theorem of_of_mem {S : List (Id × Blk)} {σ : Store} (hS : ∀ x ∈ S, σ x.1 = some x.2) {x : Id × Blk} (hx : x ∈ S) : Store.of S x.1 = some x.2 := by
  cases hl : S.lookup x.1 with
  | none =>
    rw [List.lookup_eq_none_iff] at hl
    have := hl x hx
    simp at this
  | some b =>
    have := hS _ (lookup_mem hl)
    rw [hS x hx] at this
    show S.lookup x.1 = _
    rw [hl]; exact this.symm
section
variable {P : Program} {G : Nat → Option (List AV)}
theorem Inv.froze {own : Nat → Prop} {E : Env} {w : World} {σ : Store} {S : List (Id × Blk)} (hi : Inv G own E w σ) (hS : ∀ x ∈ S, σ x.1 = some x.2) :
    Inv G (fun k => w.heap.size ≤ k) (E.froze (Store.of S)) w (fun _ => none) where
  okb := by
    rintro b (hb | ⟨id, bk, k, N, hs, hm⟩)
    · exact hi.okb b hb
    · obtain ⟨g, N', cur, ty, hB⟩ := hi.blk id bk (hS _ (lookup_mem hs))
      rw [hB.μ] at hm
      simp only [Option.some.injEq, Prod.mk.injEq] at hm
      rw [← hm.1]; exact cells_lt hB.heap
  blk := fun id bk h => by simp at h
  inj := fun i j x y h => absurd rfl h
  glob := fun g cs hg => by
    obtain ⟨h1, h2⟩ := hi.glob g cs hg
    exact ⟨.inl h1, RepCells.keep (⟨fun _ _ h => h, fun _ h => .inl h, fun _ _ => rfl⟩ : Step E.bare (E.froze (Store.of S)).bare w w) rfl cs 0 h2⟩
  new := fun k hk => hk
theorem CallRel.of_view {f : FuncId} {args args' : List AV} {r : AV} {p : Id} {S : List (Id × Blk)} (h : VP P G f args' r) (hv : ViewL (Store.of S) args args') :
    CallRel P G f args p S { val := r, rd := S.map (·.1), up := frz S } := by
  refine ⟨h.1, fun own E w σ vs hS hi hr hμ => ?_⟩
  have hr' := hv.repL (hi.sub (Store.of_sub hS)) hr
  refine (h.2 w vs _ (hi.froze hS) hr').mono fun e w' he => ?_
  obtain ⟨v, ok', rfl, had, hok, hv'⟩ := he
  have hadv : Adv own E ⟨E.μ, ok'⟩ w w' := by
    refine ⟨⟨fun _ _ h => h, fun b hb => had.step.ok b (.inl hb), fun b hb => had.step.same b (.inl hb)⟩, had.os, had.tape, had.output, had.size, fun k hk _ => had.block k hk (by omega), fun b hb => ?_⟩
    rcases had.okn b hb with (h1 | ⟨id, bk, k, N, hs, hm⟩) | h1
    · exact .inl h1
    · obtain ⟨g, N', cur, ty, hB⟩ := hi.blk id bk (hS _ (lookup_mem hs))
      rw [hB.μ] at hm
      simp only [Option.some.injEq, Prod.mk.injEq] at hm
      rw [← hm.1]; exact .inr hB.own
    · exact .inr (hi.new b h1)
  refine ⟨v, ⟨E.μ, ok'⟩, rfl, hadv, ?_, Rep.keep (⟨fun _ _ h => by simp at h, fun _ h => h, fun _ _ => rfl⟩ : Step ⟨fun _ => none, ok'⟩ ⟨E.μ, ok'⟩ w' w') r v hv', fun _ _ => rfl⟩
  have happ := fun i => app_frz (σ := σ) i S σ hS
  refine ⟨hok, fun id bk hs => ?_, fun i j x y hi' hj' hne hx hy => ?_, fun g cs hg => ?_, fun k hk => hi.new k (Nat.le_trans had.size hk)⟩
  · have hs' : σ.app (frz S) id = some bk := hs
    rw [happ id] at hs'
    split at hs'
    · rename_i hin
      obtain ⟨x, hx, rfl⟩ := hin
      rw [hS x hx] at hs'
      simp only [Option.map_some, Option.some.injEq] at hs'
      subst hs'
      obtain ⟨g, N, cur, ty, hB⟩ := hi.blk _ _ (hS x hx)
      have hb := had.block g (cells_lt hB.heap) (by have := cells_lt hB.heap; omega)
      exact ⟨g, N, cur, ty, hB.μ, hb.trans hB.heap, hB.size, hB.len, hB.most, hB.own, fun _ => had.step.ok g (.inr ⟨x.1, x.2, x.2.k, N, of_of_mem hS hx, hB.μ⟩), fun hf => by simp [Blk.fz] at hf, hB.k, RepAt.keep hadv.step hb hB.row⟩
    · rename_i hnin
      obtain ⟨g, N, cur, ty, hB⟩ := hi.blk _ _ hs'
      have hg := cells_lt hB.heap
      refine ⟨g, N, cur, ty, hB.keep hadv.step (had.block g hg (by omega)) fun hf hb => ?_⟩
      rcases had.okn g hb with (h1 | ⟨id2, bk2, k2, N2, hs2, hm2⟩) | h1
      · exact hB.no hf h1
      · have hm := lookup_mem hs2
        refine hi.inj id id2 _ _ (by simp [hs']) (by simp [hS _ hm]) ?_ hB.μ hm2 rfl
        rintro rfl
        exact hnin ⟨_, hm, rfl⟩
      · omega
  · have keep : ∀ i, σ.app (frz S) i ≠ none → σ i ≠ none := by
      intro i hn he
      apply hn
      rw [happ i, he]
      split <;> rfl
    exact hi.inj i j x y (keep i hi') (keep j hj') hne hx hy
  · obtain ⟨h1, h2⟩ := hi.glob g cs hg
    exact ⟨hadv.step.ok g h1, RepCells.keep hadv.step.bare (hadv.step.same g h1) cs 0 h2⟩
theorem CallRel.of_flat {f : FuncId} {args args' : List AV} {r : AV} {p : Id} {S : List (Id × Blk)} (h : VP P G f args' r) (hv : ViewL (Store.of S) args args') (hf : FlatAV r) :
    CallRel P G f args p S { val := r, rd := S.map (·.1) } := by
  refine ⟨h.1, fun own E w σ vs hS hi hr hμ => ?_⟩
  have hr' := hv.repL (hi.sub (Store.of_sub hS)) hr
  refine (h.2 w vs _ (hi.froze hS) hr').mono fun e w' he => ?_
  obtain ⟨v, ok', rfl, had, hok, hv'⟩ := he
  have hadv : Adv own E E w w' := ⟨⟨fun _ _ h => h, fun b hb => hb, fun b hb => had.step.same b (.inl hb)⟩, had.os, had.tape, had.output, had.size, fun k hk _ => had.block k hk (by omega), fun b hb => .inl hb⟩
  refine ⟨v, E, rfl, hadv, ?_, hf _ _ _ _ _ hv', fun _ _ => rfl⟩
  refine hi.keep hadv rfl (fun b hb => Nat.lt_of_lt_of_le (hi.okb b hb) had.size) fun id bk g N hs hm => ?_
  obtain ⟨g', N', cur, ty, hB2⟩ := hi.blk id bk hs
  rw [hB2.μ] at hm
  simp only [Option.some.injEq, Prod.mk.injEq] at hm
  obtain ⟨rfl, _, rfl⟩ := hm
  have hg := cells_lt hB2.heap
  exact ⟨had.block _ hg (by omega), hB2.no⟩
def FgV (S : List (Id × Blk)) : List AV → List AV → Prop
  | [], [] => True
  | c :: cs, d :: ds => (d = .top ∨ d = c ∨ View (Store.of S) c d) ∧ FgV S cs ds
  | _, _ => False
theorem FgV.rep {own : Nat → Prop} {E : Env} {w : World} {S : List (Id × Blk)} (hi : Inv G own E w (Store.of S)) : ∀ {cs ds : List AV} {vs : List Value}, FgV S cs ds → RepL E w cs vs → RepL ⟨E.μ, (E.froze (Store.of S)).ok⟩ w ds vs
  | [], [], _, _, h => by simpa [RepL] using h
  | c :: cs, d :: ds, vs, hf, h => by
    simp only [FgV] at hf
    simp only [RepL] at h ⊢
    obtain ⟨v, rest, e, h1, h2⟩ := h
    refine ⟨v, rest, e, ?_, FgV.rep hi hf.2 h2⟩
    rcases hf.1 with rfl | rfl | hv
    · simp [Rep]
    · exact Rep.keep (⟨fun _ _ h => h, fun _ h => .inl h, fun _ _ => rfl⟩ : Step E ⟨E.μ, (E.froze (Store.of S)).ok⟩ w w) _ v h1
    · exact Rep.keep (⟨fun _ _ h => by simp [Env.froze] at h, fun _ h => h, fun _ _ => rfl⟩ : Step (E.froze (Store.of S)) ⟨E.μ, (E.froze (Store.of S)).ok⟩ w w) _ v (hv _ _ _ _ _ hi h1)
  | [], _ :: _, _, h, _ => by simp [FgV] at h
  | _ :: _, [], _, h, _ => by simp [FgV] at h
theorem Wk.freeze {π : Id} {t t' : List AV} {σ σ' : Store} {n n' : Nat} (S : List (Id × Blk)) (hS : ∀ x ∈ S, σ x.1 = some x.2) (ht : FgV S t t')
    (hs : ∀ id, σ' id = none ∨ σ' id = σ.app (frz S) id) (hn : n ≤ n') : Wk G π ⟨t, σ, n⟩ ⟨t', σ', n'⟩ := fun own E w a hm => by
  have hi := hm.inv
  let E' : Env := ⟨E.μ, (E.froze (Store.of S)).ok⟩
  have hadv : Adv own E E' w w := by
    refine ⟨⟨fun _ _ h => h, fun b hb => .inl hb, fun b hb => rfl⟩, rfl, rfl, rfl, Nat.le_refl _, fun k hk _ => rfl, fun b hb => ?_⟩
    rcases hb with h1 | ⟨id, bk, k, N, hs, hm⟩
    · exact .inl h1
    · obtain ⟨g, N', cur, ty, hB⟩ := hi.blk id bk (hS _ (lookup_mem hs))
      rw [hB.μ] at hm
      simp only [Option.some.injEq, Prod.mk.injEq] at hm
      rw [← hm.1]; exact .inr hB.own
  refine ⟨E', ⟨hadv, fun _ _ => rfl⟩, ht.rep (hi.sub (Store.of_sub hS)) hm.frame, ?_, hm.free.mono hn, hm.defers⟩
  refine Inv.sub (σ := σ.app (frz S)) ?_ hs
  have happ := fun i => app_frz (σ := σ) i S σ hS
  refine ⟨(hi.froze hS).okb, fun id bk hs => ?_, fun i j x y hi' hj' hne hx hy => ?_, fun g cs hg => ?_, hi.new⟩
  · have hs' : σ.app (frz S) id = some bk := hs
    rw [happ id] at hs'
    split at hs'
    · rename_i hin
      obtain ⟨x, hx, rfl⟩ := hin
      rw [hS x hx] at hs'
      simp only [Option.map_some, Option.some.injEq] at hs'
      subst hs'
      obtain ⟨g, N, cur, ty, hB⟩ := hi.blk _ _ (hS x hx)
      exact ⟨g, N, cur, ty, hB.μ, hB.heap, hB.size, hB.len, hB.most, hB.own, fun _ => .inr ⟨x.1, x.2, x.2.k, N, of_of_mem hS hx, hB.μ⟩, fun hf => by simp [Blk.fz] at hf, hB.k, RepAt.keep hadv.step rfl hB.row⟩
    · rename_i hnin
      obtain ⟨g, N, cur, ty, hB⟩ := hi.blk _ _ hs'
      have hg := cells_lt hB.heap
      refine ⟨g, N, cur, ty, hB.keep hadv.step rfl fun hf hb => ?_⟩
      rcases hb with h1 | ⟨id2, bk2, k2, N2, hs2, hm2⟩
      · exact hB.no hf h1
      · have hm := lookup_mem hs2
        refine hi.inj id id2 _ _ (by simp [hs']) (by simp [hS _ hm]) ?_ hB.μ hm2 rfl
        rintro rfl
        exact hnin ⟨_, hm, rfl⟩
  · have keep : ∀ i, σ.app (frz S) i ≠ none → σ i ≠ none := by
      intro i hn he
      apply hn
      rw [happ i, he]
      split <;> rfl
    exact hi.inj i j x y (keep i hi') (keep j hj') hne hx hy
  · obtain ⟨h1, h2⟩ := hi.glob g cs hg
    exact ⟨hadv.step.ok g h1, RepCells.keep hadv.step.bare (hadv.step.same g h1) cs 0 h2⟩
end
end Go.VL
end

section
namespace Go.VL
section
variable {P : Program} {G : Nat → Option (List AV)}
theorem VP.of_call {f : FuncId} {args : List AV} {r : Res} (h : CallRel P G f args [] [] r) (hf : FlatAV r.val) : VP P G f args r.val := by
  refine ⟨h.1, fun w vs ok hi hr => ?_⟩
  refine (h.2 _ _ w _ vs (by simp) hi hr (fun _ _ => rfl)).mono fun e w' he => ?_
  obtain ⟨v, E', rfl, hp⟩ := he
  refine ⟨v, ok, rfl, ⟨⟨fun _ _ h => h, fun _ h => h, hp.adv.step.same⟩, hp.adv.os, hp.adv.tape, hp.adv.output, hp.adv.size, hp.adv.block, fun _ h => .inl h⟩, fun b hb => ?_, hf _ _ _ _ _ hp.rep⟩
  exact Nat.lt_of_lt_of_le (hi.okb b hb) hp.adv.size
theorem VP.of_memo {m : Memo} (h : MemoOk P G m) (hS : m.S = []) (hp : m.p = []) (hf : FlatAV m.r.val) : VP P G m.f m.args m.r.val := by
  obtain ⟨S, h1, h2, _⟩ := h
  have : S = [] := by
    cases S with
    | nil => rfl
    | cons x S => have := h2 x (by simp); rw [hS] at this; simp [Store.of] at this
  subst this
  rw [hp] at h1
  exact VP.of_call h1 hf
end
end Go.VL
end

section
namespace Go.VL
def vw : AV → Bool → Option Bool
  | .bool b, want => some (b == want)
  | .top, _ => none
  | .anyb, _ => none
  | _, _ => some false
theorem vw_bool {b want : Bool} : vw (.bool b) want = some (b == want) := (rfl)
theorem vw_tup {l : List AV} {want : Bool} : vw (.tup l) want = some false := (rfl)
section
variable (P : Program) (G : Nat → Option (List AV)) (π : Id)
def vsR (base : Nat) (Q : VExit → VS → Prop) (n : Nat) (d : Option Nat) (os : List VOper) (i : Nat) (t : List AV) (σ : Store) : Option Res → Prop
  | some r => vs P G π base Q n os (i + 1) (putT t d r.val) (σ.app r.up)
  | none => False
def vsV (base : Nat) (Q : VExit → VS → Prop) (n : Nat) (d : Option Nat) (os : List VOper) (i : Nat) (t : List AV) (σ : Store) : Option AV → Prop
  | some v => vs P G π base Q n os (i + 1) (putT t d v) σ
  | none => False
def vsG (base : Nat) (Q : VExit → VS → Prop) (n : Nat) (o : VOper) (os : List VOper) (i : Nat) (t : List AV) (σ : Store) : Option Bool → Prop
  | some true => vs P G π base Q n (⟨o.dst, o.op, none⟩ :: os) i t σ
  | some false => vs P G π base Q n os (i + 1) (putT t o.dst (.tup [])) σ
  | none => False
def vdR (base : Nat) (Q : VExit → VS → Prop) (n : Nat) (ps : List (Nat × Nat)) (d : Option Nat) (os : List VOper) (i : Nat) (acc : List Res) (t : List AV) (σ : Store) : Option Res → Prop
  | some r => vd P G π base Q n ps os (i + 1) (r :: acc) (putT t d r.val) (σ.app r.up)
  | none => False
def vdV (base : Nat) (Q : VExit → VS → Prop) (n : Nat) (ps : List (Nat × Nat)) (d : Option Nat) (os : List VOper) (i : Nat) (acc : List Res) (t : List AV) (σ : Store) : Option AV → Prop
  | some v => vd P G π base Q n ps os (i + 1) ({ val := v } :: acc) (putT t d v) σ
  | none => False
def vdG (base : Nat) (Q : VExit → VS → Prop) (n : Nat) (ps : List (Nat × Nat)) (o : VOper) (os : List VOper) (i : Nat) (acc : List Res) (t : List AV) (σ : Store) : Option Bool → Prop
  | some true => vd P G π base Q n ps (⟨o.dst, o.op, none⟩ :: os) i acc t σ
  | some false => vd P G π base Q n ps os (i + 1) ({ val := .tup [] } :: acc) (putT t o.dst (.tup [])) σ
  | none => False
variable {P} {G} {π}
variable {base : Nat} {Q : VExit → VS → Prop} {n : Nat} {ps : List (Nat × Nat)} {d : Option Nat} {os : List VOper} {i : Nat} {acc : List Res} {t : List AV} {σ : Store}
theorem vsR_some {r : Res} : vsR P G π base Q n d os i t σ (some r) = vs P G π base Q n os (i + 1) (putT t d r.val) (σ.app r.up) := (rfl)
theorem vsV_some {v : AV} : vsV P G π base Q n d os i t σ (some v) = vs P G π base Q n os (i + 1) (putT t d v) σ := (rfl)
theorem vdR_some {r : Res} : vdR P G π base Q n ps d os i acc t σ (some r) = vd P G π base Q n ps os (i + 1) (r :: acc) (putT t d r.val) (σ.app r.up) := (rfl)
theorem vdV_some {v : AV} : vdV P G π base Q n ps d os i acc t σ (some v) = vd P G π base Q n ps os (i + 1) ({ val := v } :: acc) (putT t d v) σ := (rfl)
theorem vsR_noIds {o : Option AV} : vsR P G π base Q n d os i t σ (noIds o) = vsV P G π base Q n d os i t σ o := by cases o <;> rfl
theorem vdR_noIds {o : Option AV} : vdR P G π base Q n ps d os i acc t σ (noIds o) = vdV P G π base Q n ps d os i acc t σ o := by cases o <;> rfl
theorem vsG_true {o : VOper} : vsG P G π base Q n o os i t σ (some true) = vs P G π base Q n (⟨o.dst, o.op, none⟩ :: os) i t σ := (rfl)
theorem vsG_false {o : VOper} : vsG P G π base Q n o os i t σ (some false) = vs P G π base Q n os (i + 1) (putT t o.dst (.tup [])) σ := (rfl)
theorem vdG_true {o : VOper} : vdG P G π base Q n ps o os i acc t σ (some true) = vd P G π base Q n ps (⟨o.dst, o.op, none⟩ :: os) i acc t σ := (rfl)
theorem vdG_false {o : VOper} : vdG P G π base Q n ps o os i acc t σ (some false) = vd P G π base Q n ps os (i + 1) ({ val := .tup [] } :: acc) (putT t o.dst (.tup [])) σ := (rfl)
theorem vwanted_vw {j : Nat} {want : Bool} : vwanted t (some (j, want)) = vw (t.getD j (.tup [])) want := by
  rw [List.getD_eq_getElem?_getD]
  show (match t[j]? with | some (.bool b) => some (b == want) | some .top | some .anyb => none | _ => some false) = _
  cases t[j]? with
  | none => rfl
  | some c => cases c <;> rfl
theorem putT_some {d : Nat} {v : AV} : putT t (some d) v = t.set d v := (rfl)
theorem putT_none {v : AV} : putT t none v = t := (rfl)
theorem ev_t {j : Nat} : (VArg.t j).ev G t = t.getD j (.tup []) := (rfl)
theorem ev_c {a : AV} : (VArg.c a).ev G t = a := (rfl)
theorem ev_f {f : Nat} : (VArg.f f).ev G t = .fn (.func f) [] [] := (rfl)
theorem app_nil : σ.app [] = σ := (rfl)
theorem app_cons {x : Id × Option Blk} {l : List (Id × Option Blk)} : σ.app (x :: l) = (σ.put x.1 x.2).app l := (rfl)
theorem sg {op : VOp VArg} {j : Nat} {want : Bool} : vs P G π base Q n (⟨d, op, some (j, want)⟩ :: os) i t σ = vsG P G π base Q n ⟨d, op, none⟩ os i t σ (vw (t.getD j (.tup [])) want) := by
  rw [← vwanted_vw]
  unfold vs vsG
  simp only [vseq]
  cases vwanted t (some (j, want)) with
  | none => rfl
  | some b => cases b <;> rfl
theorem dg {op : VOp VArg} {j : Nat} {want : Bool} : vd P G π base Q n ps (⟨d, op, some (j, want)⟩ :: os) i acc t σ = vdG P G π base Q n ps ⟨d, op, none⟩ os i acc t σ (vw (t.getD j (.tup [])) want) := by
  rw [← vwanted_vw]
  unfold vd vdG
  simp only [vpar]
  cases vwanted t (some (j, want)) with
  | none => rfl
  | some b => cases b <;> rfl
theorem vs_opR {op : VOp VArg} (h : op.isCall = false) : vs P G π base Q n (⟨d, op, none⟩ :: os) i t σ = vsR P G π base Q n d os i t σ (vop σ ((base + i) :: π) (op.map (VArg.ev G t))) := by
  rw [vs_op h]; unfold vexec; simp only [vwanted]; cases vop σ ((base + i) :: π) (op.map (VArg.ev G t)) <;> rfl
theorem vd_opR {op : VOp VArg} (h : op.isCall = false) : vd P G π base Q n ps (⟨d, op, none⟩ :: os) i acc t σ = vdR P G π base Q n ps d os i acc t σ (vop σ ((base + i) :: π) (op.map (VArg.ev G t))) := by
  rw [vd_op h]; unfold vexec; simp only [vwanted]; cases vop σ ((base + i) :: π) (op.map (VArg.ev G t)) <;> rfl
theorem s_mv {x : VArg} : vs P G π base Q n (⟨d, .mv x, none⟩ :: os) i t σ = vsR P G π base Q n d os i t σ (vop σ ((base + i) :: π) (.mv (x.ev G t))) := vs_opR rfl
theorem d_mv {x : VArg} : vd P G π base Q n ps (⟨d, .mv x, none⟩ :: os) i acc t σ = vdR P G π base Q n ps d os i acc t σ (vop σ ((base + i) :: π) (.mv (x.ev G t))) := vd_opR rfl
theorem s_pick {c a b : VArg} : vs P G π base Q n (⟨d, .pick c a b, none⟩ :: os) i t σ = vsR P G π base Q n d os i t σ (vop σ ((base + i) :: π) (.pick (c.ev G t) (a.ev G t) (b.ev G t))) := vs_opR rfl
theorem d_pick {c a b : VArg} : vd P G π base Q n ps (⟨d, .pick c a b, none⟩ :: os) i acc t σ = vdR P G π base Q n ps d os i acc t σ (vop σ ((base + i) :: π) (.pick (c.ev G t) (a.ev G t) (b.ev G t))) := vd_opR rfl
theorem s_box {x : VArg} : vs P G π base Q n (⟨d, .box x, none⟩ :: os) i t σ = vsR P G π base Q n d os i t σ (vop σ ((base + i) :: π) (.box (x.ev G t))) := vs_opR rfl
theorem d_box {x : VArg} : vd P G π base Q n ps (⟨d, .box x, none⟩ :: os) i acc t σ = vdR P G π base Q n ps d os i acc t σ (vop σ ((base + i) :: π) (.box (x.ev G t))) := vd_opR rfl
theorem s_build {z : List AV} {l : List (Nat × Nat × VArg)} : vs P G π base Q n (⟨d, .build z l, none⟩ :: os) i t σ = vsR P G π base Q n d os i t σ (vop σ ((base + i) :: π) (.build z (l.map fun p => (p.1, p.2.1, p.2.2.ev G t)))) := vs_opR rfl
theorem d_build {z : List AV} {l : List (Nat × Nat × VArg)} : vd P G π base Q n ps (⟨d, .build z l, none⟩ :: os) i acc t σ = vdR P G π base Q n ps d os i acc t σ (vop σ ((base + i) :: π) (.build z (l.map fun p => (p.1, p.2.1, p.2.2.ev G t)))) := vd_opR rfl
theorem s_buildSl {k m : Nat} {z : AV} {l : List (Nat × VArg)} : vs P G π base Q n (⟨d, .buildSl k m z l, none⟩ :: os) i t σ = vsR P G π base Q n d os i t σ (vop σ ((base + i) :: π) (.buildSl k m z (l.map fun p => (p.1, p.2.ev G t)))) := vs_opR rfl
theorem d_buildSl {k m : Nat} {z : AV} {l : List (Nat × VArg)} : vd P G π base Q n ps (⟨d, .buildSl k m z l, none⟩ :: os) i acc t σ = vdR P G π base Q n ps d os i acc t σ (vop σ ((base + i) :: π) (.buildSl k m z (l.map fun p => (p.1, p.2.ev G t)))) := vd_opR rfl
theorem s_load {a : Bool} {m : Nat} {x : VArg} : vs P G π base Q n (⟨d, .load a m x, none⟩ :: os) i t σ = vsR P G π base Q n d os i t σ (vop σ ((base + i) :: π) (.load a m (x.ev G t))) := vs_opR rfl
theorem d_load {a : Bool} {m : Nat} {x : VArg} : vd P G π base Q n ps (⟨d, .load a m x, none⟩ :: os) i acc t σ = vdR P G π base Q n ps d os i acc t σ (vop σ ((base + i) :: π) (.load a m (x.ev G t))) := vd_opR rfl
theorem s_store {m : Nat} {x v : VArg} : vs P G π base Q n (⟨d, .store m x v, none⟩ :: os) i t σ = vsR P G π base Q n d os i t σ (vop σ ((base + i) :: π) (.store m (x.ev G t) (v.ev G t))) := vs_opR rfl
theorem d_store {m : Nat} {x v : VArg} : vd P G π base Q n ps (⟨d, .store m x v, none⟩ :: os) i acc t σ = vdR P G π base Q n ps d os i acc t σ (vop σ ((base + i) :: π) (.store m (x.ev G t) (v.ev G t))) := vd_opR rfl
theorem s_nilck {x : VArg} : vs P G π base Q n (⟨d, .nilck x, none⟩ :: os) i t σ = vsR P G π base Q n d os i t σ (vop σ ((base + i) :: π) (.nilck (x.ev G t))) := vs_opR rfl
theorem d_nilck {x : VArg} : vd P G π base Q n ps (⟨d, .nilck x, none⟩ :: os) i acc t σ = vdR P G π base Q n ps d os i acc t σ (vop σ ((base + i) :: π) (.nilck (x.ev G t))) := vd_opR rfl
theorem s_bin {o : BinOp} {sh : Sh} {x y : VArg} : vs P G π base Q n (⟨d, .bin o sh x y, none⟩ :: os) i t σ = vsR P G π base Q n d os i t σ (vop σ ((base + i) :: π) (.bin o sh (x.ev G t) (y.ev G t))) := vs_opR rfl
theorem d_bin {o : BinOp} {sh : Sh} {x y : VArg} : vd P G π base Q n ps (⟨d, .bin o sh x y, none⟩ :: os) i acc t σ = vdR P G π base Q n ps d os i acc t σ (vop σ ((base + i) :: π) (.bin o sh (x.ev G t) (y.ev G t))) := vd_opR rfl
theorem s_un {o : UnOp} {x : VArg} : vs P G π base Q n (⟨d, .un o x, none⟩ :: os) i t σ = vsR P G π base Q n d os i t σ (vop σ ((base + i) :: π) (.un o (x.ev G t))) := vs_opR rfl
theorem d_un {o : UnOp} {x : VArg} : vd P G π base Q n ps (⟨d, .un o x, none⟩ :: os) i acc t σ = vdR P G π base Q n ps d os i acc t σ (vop σ ((base + i) :: π) (.un o (x.ev G t))) := vd_opR rfl
theorem s_toInt {k : IntKind} {x : VArg} : vs P G π base Q n (⟨d, .toInt k x, none⟩ :: os) i t σ = vsR P G π base Q n d os i t σ (vop σ ((base + i) :: π) (.toInt k (x.ev G t))) := vs_opR rfl
theorem d_toInt {k : IntKind} {x : VArg} : vd P G π base Q n ps (⟨d, .toInt k x, none⟩ :: os) i acc t σ = vdR P G π base Q n ps d os i acc t σ (vop σ ((base + i) :: π) (.toInt k (x.ev G t))) := vd_opR rfl
theorem s_idStr {x : VArg} : vs P G π base Q n (⟨d, .idStr x, none⟩ :: os) i t σ = vsR P G π base Q n d os i t σ (vop σ ((base + i) :: π) (.idStr (x.ev G t))) := vs_opR rfl
theorem d_idStr {x : VArg} : vd P G π base Q n ps (⟨d, .idStr x, none⟩ :: os) i acc t σ = vdR P G π base Q n ps d os i acc t σ (vop σ ((base + i) :: π) (.idStr (x.ev G t))) := vd_opR rfl
theorem s_bytesStr {x : VArg} : vs P G π base Q n (⟨d, .bytesStr x, none⟩ :: os) i t σ = vsR P G π base Q n d os i t σ (vop σ ((base + i) :: π) (.bytesStr (x.ev G t))) := vs_opR rfl
theorem d_bytesStr {x : VArg} : vd P G π base Q n ps (⟨d, .bytesStr x, none⟩ :: os) i acc t σ = vdR P G π base Q n ps d os i acc t σ (vop σ ((base + i) :: π) (.bytesStr (x.ev G t))) := vd_opR rfl
theorem s_idx {x c : VArg} : vs P G π base Q n (⟨d, .idx x c, none⟩ :: os) i t σ = vsR P G π base Q n d os i t σ (vop σ ((base + i) :: π) (.idx (x.ev G t) (c.ev G t))) := vs_opR rfl
theorem d_idx {x c : VArg} : vd P G π base Q n ps (⟨d, .idx x c, none⟩ :: os) i acc t σ = vdR P G π base Q n ps d os i acc t σ (vop σ ((base + i) :: π) (.idx (x.ev G t) (c.ev G t))) := vd_opR rfl
theorem s_ovl {x y : VArg} : vs P G π base Q n (⟨d, .ovl x y, none⟩ :: os) i t σ = vsR P G π base Q n d os i t σ (vop σ ((base + i) :: π) (.ovl (x.ev G t) (y.ev G t))) := vs_opR rfl
theorem d_ovl {x y : VArg} : vd P G π base Q n ps (⟨d, .ovl x y, none⟩ :: os) i acc t σ = vdR P G π base Q n ps d os i acc t σ (vop σ ((base + i) :: π) (.ovl (x.ev G t) (y.ev G t))) := vd_opR rfl
theorem s_mkfn {fn : Fn} {a c : List VArg} : vs P G π base Q n (⟨d, .mkfn fn a c, none⟩ :: os) i t σ = vsR P G π base Q n d os i t σ (vop σ ((base + i) :: π) (.mkfn fn (a.map (VArg.ev G t)) (c.map (VArg.ev G t)))) := vs_opR rfl
theorem d_mkfn {fn : Fn} {a c : List VArg} : vd P G π base Q n ps (⟨d, .mkfn fn a c, none⟩ :: os) i acc t σ = vdR P G π base Q n ps d os i acc t σ (vop σ ((base + i) :: π) (.mkfn fn (a.map (VArg.ev G t)) (c.map (VArg.ev G t)))) := vd_opR rfl
theorem s_mksl {k b : Nat} {z : AV} {l c : VArg} : vs P G π base Q n (⟨d, .mksl k b z l c, none⟩ :: os) i t σ = vsR P G π base Q n d os i t σ (vop σ ((base + i) :: π) (.mksl k b z (l.ev G t) (c.ev G t))) := vs_opR rfl
theorem d_mksl {k b : Nat} {z : AV} {l c : VArg} : vd P G π base Q n ps (⟨d, .mksl k b z l c, none⟩ :: os) i acc t σ = vdR P G π base Q n ps d os i acc t σ (vop σ ((base + i) :: π) (.mksl k b z (l.ev G t) (c.ev G t))) := vd_opR rfl
theorem s_slice {k : Nat} {x : VArg} {lo hi mx : Option VArg} : vs P G π base Q n (⟨d, .slice k x lo hi mx, none⟩ :: os) i t σ = vsR P G π base Q n d os i t σ (vop σ ((base + i) :: π) (.slice k (x.ev G t) (lo.map (VArg.ev G t)) (hi.map (VArg.ev G t)) (mx.map (VArg.ev G t)))) := vs_opR rfl
theorem d_slice {k : Nat} {x : VArg} {lo hi mx : Option VArg} : vd P G π base Q n ps (⟨d, .slice k x lo hi mx, none⟩ :: os) i acc t σ = vdR P G π base Q n ps d os i acc t σ (vop σ ((base + i) :: π) (.slice k (x.ev G t) (lo.map (VArg.ev G t)) (hi.map (VArg.ev G t)) (mx.map (VArg.ev G t)))) := vd_opR rfl
theorem s_sliceS {x : VArg} {lo hi : Option VArg} : vs P G π base Q n (⟨d, .sliceS x lo hi, none⟩ :: os) i t σ = vsR P G π base Q n d os i t σ (vop σ ((base + i) :: π) (.sliceS (x.ev G t) (lo.map (VArg.ev G t)) (hi.map (VArg.ev G t)))) := vs_opR rfl
theorem d_sliceS {x : VArg} {lo hi : Option VArg} : vd P G π base Q n ps (⟨d, .sliceS x lo hi, none⟩ :: os) i acc t σ = vdR P G π base Q n ps d os i acc t σ (vop σ ((base + i) :: π) (.sliceS (x.ev G t) (lo.map (VArg.ev G t)) (hi.map (VArg.ev G t)))) := vd_opR rfl
theorem s_faddr {o : Nat} {x : VArg} : vs P G π base Q n (⟨d, .faddr o x, none⟩ :: os) i t σ = vsR P G π base Q n d os i t σ (vop σ ((base + i) :: π) (.faddr o (x.ev G t))) := vs_opR rfl
theorem d_faddr {o : Nat} {x : VArg} : vd P G π base Q n ps (⟨d, .faddr o x, none⟩ :: os) i acc t σ = vdR P G π base Q n ps d os i acc t σ (vop σ ((base + i) :: π) (.faddr o (x.ev G t))) := vd_opR rfl
theorem s_field {a : Bool} {o m : Nat} {x : VArg} : vs P G π base Q n (⟨d, .field a o m x, none⟩ :: os) i t σ = vsR P G π base Q n d os i t σ (vop σ ((base + i) :: π) (.field a o m (x.ev G t))) := vs_opR rfl
theorem d_field {a : Bool} {o m : Nat} {x : VArg} : vd P G π base Q n ps (⟨d, .field a o m x, none⟩ :: os) i acc t σ = vdR P G π base Q n ps d os i acc t σ (vop σ ((base + i) :: π) (.field a o m (x.ev G t))) := vd_opR rfl
theorem s_iaddrS {k : Nat} {x j : VArg} : vs P G π base Q n (⟨d, .iaddrS k x j, none⟩ :: os) i t σ = vsR P G π base Q n d os i t σ (vop σ ((base + i) :: π) (.iaddrS k (x.ev G t) (j.ev G t))) := vs_opR rfl
theorem d_iaddrS {k : Nat} {x j : VArg} : vd P G π base Q n ps (⟨d, .iaddrS k x j, none⟩ :: os) i acc t σ = vdR P G π base Q n ps d os i acc t σ (vop σ ((base + i) :: π) (.iaddrS k (x.ev G t) (j.ev G t))) := vd_opR rfl
theorem s_iaddrA {m k : Nat} {x j : VArg} : vs P G π base Q n (⟨d, .iaddrA m k x j, none⟩ :: os) i t σ = vsR P G π base Q n d os i t σ (vop σ ((base + i) :: π) (.iaddrA m k (x.ev G t) (j.ev G t))) := vs_opR rfl
theorem d_iaddrA {m k : Nat} {x j : VArg} : vd P G π base Q n ps (⟨d, .iaddrA m k x j, none⟩ :: os) i acc t σ = vdR P G π base Q n ps d os i acc t σ (vop σ ((base + i) :: π) (.iaddrA m k (x.ev G t) (j.ev G t))) := vd_opR rfl
theorem s_indexS {x j : VArg} : vs P G π base Q n (⟨d, .indexS x j, none⟩ :: os) i t σ = vsR P G π base Q n d os i t σ (vop σ ((base + i) :: π) (.indexS (x.ev G t) (j.ev G t))) := vs_opR rfl
theorem d_indexS {x j : VArg} : vd P G π base Q n ps (⟨d, .indexS x j, none⟩ :: os) i acc t σ = vdR P G π base Q n ps d os i acc t σ (vop σ ((base + i) :: π) (.indexS (x.ev G t) (j.ev G t))) := vd_opR rfl
theorem s_indexA {a : Bool} {m k : Nat} {x j : VArg} : vs P G π base Q n (⟨d, .indexA a m k x j, none⟩ :: os) i t σ = vsR P G π base Q n d os i t σ (vop σ ((base + i) :: π) (.indexA a m k (x.ev G t) (j.ev G t))) := vs_opR rfl
theorem d_indexA {a : Bool} {m k : Nat} {x j : VArg} : vd P G π base Q n ps (⟨d, .indexA a m k x j, none⟩ :: os) i acc t σ = vdR P G π base Q n ps d os i acc t σ (vop σ ((base + i) :: π) (.indexA a m k (x.ev G t) (j.ev G t))) := vd_opR rfl
theorem s_extract {x : VArg} {j : Nat} : vs P G π base Q n (⟨d, .extract x j, none⟩ :: os) i t σ = vsR P G π base Q n d os i t σ (vop σ ((base + i) :: π) (.extract (x.ev G t) j)) := vs_opR rfl
theorem d_extract {x : VArg} {j : Nat} : vd P G π base Q n ps (⟨d, .extract x j, none⟩ :: os) i acc t σ = vdR P G π base Q n ps d os i acc t σ (vop σ ((base + i) :: π) (.extract (x.ev G t) j)) := vd_opR rfl
theorem s_len {b : Bool} {x : VArg} : vs P G π base Q n (⟨d, .len b x, none⟩ :: os) i t σ = vsR P G π base Q n d os i t σ (vop σ ((base + i) :: π) (.len b (x.ev G t))) := vs_opR rfl
theorem d_len {b : Bool} {x : VArg} : vd P G π base Q n ps (⟨d, .len b x, none⟩ :: os) i acc t σ = vdR P G π base Q n ps d os i acc t σ (vop σ ((base + i) :: π) (.len b (x.ev G t))) := vd_opR rfl
theorem s_lenN {m : Nat} {x : VArg} : vs P G π base Q n (⟨d, .lenN m x, none⟩ :: os) i t σ = vsR P G π base Q n d os i t σ (vop σ ((base + i) :: π) (.lenN m (x.ev G t))) := vs_opR rfl
theorem d_lenN {m : Nat} {x : VArg} : vd P G π base Q n ps (⟨d, .lenN m x, none⟩ :: os) i acc t σ = vdR P G π base Q n ps d os i acc t σ (vop σ ((base + i) :: π) (.lenN m (x.ev G t))) := vd_opR rfl
theorem s_append {k b : Nat} {s x : VArg} : vs P G π base Q n (⟨d, .append k b s x, none⟩ :: os) i t σ = vsR P G π base Q n d os i t σ (vop σ ((base + i) :: π) (.append k b (s.ev G t) (x.ev G t))) := vs_opR rfl
theorem d_append {k b : Nat} {s x : VArg} : vd P G π base Q n ps (⟨d, .append k b s x, none⟩ :: os) i acc t σ = vdR P G π base Q n ps d os i acc t σ (vop σ ((base + i) :: π) (.append k b (s.ev G t) (x.ev G t))) := vd_opR rfl
theorem s_min {x y : VArg} : vs P G π base Q n (⟨d, .min x y, none⟩ :: os) i t σ = vsR P G π base Q n d os i t σ (vop σ ((base + i) :: π) (.min (x.ev G t) (y.ev G t))) := vs_opR rfl
theorem d_min {x y : VArg} : vd P G π base Q n ps (⟨d, .min x y, none⟩ :: os) i acc t σ = vdR P G π base Q n ps d os i acc t σ (vop σ ((base + i) :: π) (.min (x.ev G t) (y.ev G t))) := vd_opR rfl
theorem s_max {x y : VArg} : vs P G π base Q n (⟨d, .max x y, none⟩ :: os) i t σ = vsR P G π base Q n d os i t σ (vop σ ((base + i) :: π) (.max (x.ev G t) (y.ev G t))) := vs_opR rfl
theorem d_max {x y : VArg} : vd P G π base Q n ps (⟨d, .max x y, none⟩ :: os) i acc t σ = vdR P G π base Q n ps d os i acc t σ (vop σ ((base + i) :: π) (.max (x.ev G t) (y.ev G t))) := vd_opR rfl
theorem s_cap {x : VArg} : vs P G π base Q n (⟨d, .cap x, none⟩ :: os) i t σ = vsR P G π base Q n d os i t σ (vop σ ((base + i) :: π) (.cap (x.ev G t))) := vs_opR rfl
theorem d_cap {x : VArg} : vd P G π base Q n ps (⟨d, .cap x, none⟩ :: os) i acc t σ = vdR P G π base Q n ps d os i acc t σ (vop σ ((base + i) :: π) (.cap (x.ev G t))) := vd_opR rfl
theorem s_clear {k : Nat} {z : AV} {x : VArg} : vs P G π base Q n (⟨d, .clear k z x, none⟩ :: os) i t σ = vsR P G π base Q n d os i t σ (vop σ ((base + i) :: π) (.clear k z (x.ev G t))) := vs_opR rfl
theorem d_clear {k : Nat} {z : AV} {x : VArg} : vd P G π base Q n ps (⟨d, .clear k z x, none⟩ :: os) i acc t σ = vdR P G π base Q n ps d os i acc t σ (vop σ ((base + i) :: π) (.clear k z (x.ev G t))) := vd_opR rfl
theorem s_copy {k : Nat} {e x : VArg} : vs P G π base Q n (⟨d, .copy k e x, none⟩ :: os) i t σ = vsR P G π base Q n d os i t σ (vop σ ((base + i) :: π) (.copy k (e.ev G t) (x.ev G t))) := vs_opR rfl
theorem d_copy {k : Nat} {e x : VArg} : vd P G π base Q n ps (⟨d, .copy k e x, none⟩ :: os) i acc t σ = vdR P G π base Q n ps d os i acc t σ (vop σ ((base + i) :: π) (.copy k (e.ev G t) (x.ev G t))) := vd_opR rfl
theorem s_appz {k b : Nat} {z : AV} {s m : VArg} : vs P G π base Q n (⟨d, .appz k b z s m, none⟩ :: os) i t σ = vsR P G π base Q n d os i t σ (vop σ ((base + i) :: π) (.appz k b z (s.ev G t) (m.ev G t))) := vs_opR rfl
theorem d_appz {k b : Nat} {z : AV} {s m : VArg} : vd P G π base Q n ps (⟨d, .appz k b z s m, none⟩ :: os) i acc t σ = vdR P G π base Q n ps d os i acc t σ (vop σ ((base + i) :: π) (.appz k b z (s.ev G t) (m.ev G t))) := vd_opR rfl
theorem s_call {f : VArg} {l : List VArg} : vs P G π base Q n (⟨d, .call f l, none⟩ :: os) i t σ = vsAsk P G π base Q n d os i t σ (some true) (f.ev G t) (l.map (VArg.ev G t)) := vs_call
theorem d_call {f : VArg} {l : List VArg} : vd P G π base Q n ps (⟨d, .call f l, none⟩ :: os) i acc t σ = vdAsk P G π base Q n ps d os i acc t σ (some true) (f.ev G t) (l.map (VArg.ev G t)) := vd_call
end
section
variable {σ : Store} {p : Id}
theorem vop_mv {x : AV} : vop σ p (.mv x) = noIds (some x) := (rfl)
theorem vop_pick {b : Bool} {x y : AV} : vop σ p (.pick (.bool b) x y) = noIds (some (if b then x else y)) := (rfl)
theorem vop_box {x : AV} : vop σ p (.box x) = if x.cells.all AV.one = true then some { val := .ref p 0 0, up := [(p, some ⟨[x], x.size, false⟩)] } else none := (rfl)
theorem vop_build {z : List AV} {l : List (Nat × Nat × AV)} : vop σ p (.build z l) = noIds ((vfill z l).map .agg) := (rfl)
theorem vop_buildSl {k n : Nat} {z : AV} {ps : List (Nat × AV)} : vop σ p (.buildSl k n z ps) = (match vfillEls k (List.replicate n z) ps with
    | some es => if z.size = k ∧ z.cells.all AV.one = true then some { val := .osl p k 0 n false, up := [(p, some ⟨es, k, false⟩)] } else none
    | none => none) := rfl
theorem vop_load {a : Bool} {n : Nat} {x : AV} : vop σ p (.load a n x) = vload σ a n x := (rfl)
theorem vop_store {n : Nat} {x v : AV} : vop σ p (.store n x v) = vstore σ n x v := (rfl)
theorem vop_bin {o : BinOp} {sh : Sh} {x y : AV} : vop σ p (.bin o sh x y) = noIds (vbinq o sh x y) := (rfl)
theorem vop_un {o : UnOp} {x : AV} : vop σ p (.un o x) = noIds (vun o x) := (rfl)
theorem vop_toInt {k k' : IntKind} {n : Int} : vop σ p (.toInt k (.int k' n)) = noIds (some (.int k (k.wrap n))) := (rfl)
theorem vop_idStr {s : List UInt8} : vop σ p (.idStr (.str s)) = noIds (some (.str s)) := (rfl)
theorem vop_bytesStr {x : AV} : vop σ p (.bytesStr x) = vbytesStr σ x := (rfl)
theorem vop_mkfn {fn : Fn} {a c : List AV} : vop σ p (.mkfn fn a c) = noIds (some (.fn fn a c)) := (rfl)
theorem vop_mksl {k b : Nat} {z l c : AV} : vop σ p (.mksl k b z l c) = vmksl p k b z l c := (rfl)
theorem vop_slice {k : Nat} {x : AV} {lo hi mx : Option AV} : vop σ p (.slice k x lo hi mx) = vsliceR σ k x lo hi mx (vslice k x lo hi mx) := (rfl)
theorem vsliceR_some {k : Nat} {x : AV} {lo hi mx : Option AV} {v : AV} : vsliceR σ k x lo hi mx (some v) = noIds (some v) := (rfl)
theorem vop_sliceS {x : AV} {lo hi : Option AV} : vop σ p (.sliceS x lo hi) = noIds (vsliceS x lo hi) := (rfl)
theorem vop_faddr_ref {o : Nat} {id : Id} {e q : Nat} : vop σ p (.faddr o (.ref id e q)) = noIds (some (.ref id e (q + o))) := (rfl)
theorem vop_faddr_ep {o : Nat} {cs : List AV} {q : Nat} : vop σ p (.faddr o (.ep cs q)) = noIds (some (.ep cs (q + o))) := (rfl)
theorem vop_field {a : Bool} {o n : Nat} {cs : List AV} : vop σ p (.field a o n (.agg cs)) = noIds (part a cs o n) := (rfl)
theorem vop_iaddrS {k : Nat} {x i : AV} : vop σ p (.iaddrS k x i) = noIds (viaddrS k x i) := (rfl)
theorem vop_iaddrA {n k : Nat} {x i : AV} : vop σ p (.iaddrA n k x i) = noIds (viaddrA n k x i) := (rfl)
theorem vop_indexS {s : List UInt8} {k : IntKind} {i : Int} : vop σ p (.indexS (.str s) (.int k i)) = if 0 ≤ i then noIds ((s[i.toNat]?).map fun b => .int .u8 b.toNat) else none := (rfl)
theorem vop_indexA {a : Bool} {n k : Nat} {cs : List AV} {k' : IntKind} {i : Int} : vop σ p (.indexA a n k (.agg cs) (.int k' i)) = if 0 ≤ i ∧ i < n then noIds (part a cs (i.toNat * k) k) else none := (rfl)
theorem vop_extract {l : List AV} {i : Nat} : vop σ p (.extract (.tup l) i) = noIds l[i]? := (rfl)
theorem vop_len {b : Bool} {x : AV} : vop σ p (.len b x) = noIds (vlen b x) := (rfl)
theorem vop_lenN {n : Nat} {x : AV} : vop σ p (.lenN n x) = noIds (some (.int .i64 n)) := (rfl)
theorem vop_append {k b : Nat} {s x : AV} : vop σ p (.append k b s x) = vappend σ p k b s x := (rfl)
theorem vop_min {k k' : IntKind} {a b : Int} : vop σ p (.min (.int k a) (.int k' b)) = noIds (some (.int k (if b < a then b else a))) := (rfl)
theorem vop_max {k k' : IntKind} {a b : Int} : vop σ p (.max (.int k a) (.int k' b)) = noIds (some (.int k (if b > a then b else a))) := (rfl)
theorem vop_cap {x : AV} : vop σ p (.cap x) = vcapR σ x (vcap x) := (rfl)
theorem vcapR_some {x v : AV} : vcapR σ x (some v) = noIds (some v) := (rfl)
theorem vop_idx {x c : AV} : vop σ p (.idx x c) = noIds (vidx x c) := (rfl)
theorem vidx_str {s : List UInt8} {c : Int} : vidx (.str s) (.int .u8 c) = some (.int .i64 (idxByte s c.toNat.toUInt8)) := (rfl)
theorem vop_ovl {x y : AV} : vop σ p (.ovl x y) = vovl σ x y := (rfl)
theorem vop_clear {k : Nat} {z x : AV} : vop σ p (.clear k z x) = vclear σ k z x := (rfl)
theorem vop_copy {k : Nat} {d x : AV} : vop σ p (.copy k d x) = vcopy σ k d x := (rfl)
theorem vop_appz {k b : Nat} {z s n : AV} : vop σ p (.appz k b z s n) = vappz p k b z s n := (rfl)
theorem vop_nilck_ref {id : Id} {e o : Nat} : vop σ p (.nilck (.ref id e o)) = noIds (some (.ref id e o)) := (rfl)
theorem vop_nilck_ep {cs : List AV} {o : Nat} : vop σ p (.nilck (.ep cs o)) = noIds (some (.ep cs o)) := (rfl)
theorem vop_nilck_fn {f : FuncId} {a c : List AV} : vop σ p (.nilck (.fn (.func f) a c)) = noIds (some (.fn (.func f) a c)) := (rfl)
theorem bin_add {k : IntKind} {a b : Int} : vbinq .add .int (.int k a) (.int k b) = some (.int k (k.wrap (a + b))) := by simp only [vbinq]; rw [show vbin .add .int (.int k a) (.int k b) = some (.int k (k.wrap (a + b))) from by simp [vbin, vint]]
theorem bin_sub {k : IntKind} {a b : Int} : vbinq .sub .int (.int k a) (.int k b) = some (.int k (k.wrap (a - b))) := by simp only [vbinq]; rw [show vbin .sub .int (.int k a) (.int k b) = some (.int k (k.wrap (a - b))) from by simp [vbin, vint]]
theorem bin_mul {k : IntKind} {a b : Int} : vbinq .mul .int (.int k a) (.int k b) = some (.int k (k.wrap (a * b))) := by simp only [vbinq]; rw [show vbin .mul .int (.int k a) (.int k b) = some (.int k (k.wrap (a * b))) from by simp [vbin, vint]]
theorem bin_quo {k : IntKind} {a b : Int} (h : b ≠ 0) : vbinq .quo .int (.int k a) (.int k b) = some (.int k (k.wrap (a.tdiv b))) := by simp only [vbinq]; rw [show vbin .quo .int (.int k a) (.int k b) = some (.int k (k.wrap (a.tdiv b))) from by simp [vbin, vint, h]]
theorem bin_rem {k : IntKind} {a b : Int} (h : b ≠ 0) : vbinq .rem .int (.int k a) (.int k b) = some (.int k (a.tmod b)) := by simp only [vbinq]; rw [show vbin .rem .int (.int k a) (.int k b) = some (.int k (a.tmod b)) from by simp [vbin, vint, h]]
theorem bin_eql {k : IntKind} {a b : Int} : vbinq .eql .int (.int k a) (.int k b) = some (.bool (decide (a = b))) := by simp only [vbinq]; rw [show vbin .eql .int (.int k a) (.int k b) = some (.bool (decide (a = b))) from by simp only [vbin, vint, or_true, if_true]; rfl]
theorem bin_neq {k : IntKind} {a b : Int} : vbinq .neq .int (.int k a) (.int k b) = some (.bool (decide (a ≠ b))) := by simp only [vbinq]; rw [show vbin .neq .int (.int k a) (.int k b) = some (.bool (decide (a ≠ b))) from by simp [vbin, vint, bne, Int.instDecidableEq]; rfl]
theorem bin_lss {k : IntKind} {a b : Int} : vbinq .lss .int (.int k a) (.int k b) = some (.bool (decide (a < b))) := by simp only [vbinq]; rw [show vbin .lss .int (.int k a) (.int k b) = some (.bool (decide (a < b))) from by simp [vbin, vint]]
theorem bin_leq {k : IntKind} {a b : Int} : vbinq .leq .int (.int k a) (.int k b) = some (.bool (decide (a ≤ b))) := by simp only [vbinq]; rw [show vbin .leq .int (.int k a) (.int k b) = some (.bool (decide (a ≤ b))) from by simp [vbin, vint]]
theorem bin_gtr {k : IntKind} {a b : Int} : vbinq .gtr .int (.int k a) (.int k b) = some (.bool (decide (b < a))) := by simp only [vbinq]; rw [show vbin .gtr .int (.int k a) (.int k b) = some (.bool (decide (b < a))) from by simp [vbin, vint]]
theorem bin_geq {k : IntKind} {a b : Int} : vbinq .geq .int (.int k a) (.int k b) = some (.bool (decide (b ≤ a))) := by simp only [vbinq]; rw [show vbin .geq .int (.int k a) (.int k b) = some (.bool (decide (b ≤ a))) from by simp [vbin, vint]]
theorem bin_shl {k k' : IntKind} {a b : Int} (h : 0 ≤ b) : vbinq .shl .int (.int k a) (.int k' b) = some (.int k (k.wrap (a * 2 ^ (min b.toNat k.bits)))) := by simp only [vbinq]; rw [show vbin .shl .int (.int k a) (.int k' b) = some (.int k (k.wrap (a * 2 ^ (min b.toNat k.bits)))) from by simp [vbin, vint, Int.not_lt.2 h]]
theorem bin_shr {k k' : IntKind} {a b : Int} (h : 0 ≤ b) : vbinq .shr .int (.int k a) (.int k' b) = some (.int k (a.fdiv (2 ^ (min b.toNat k.bits)))) := by simp only [vbinq]; rw [show vbin .shr .int (.int k a) (.int k' b) = some (.int k (a.fdiv (2 ^ (min b.toNat k.bits)))) from by simp [vbin, vint, Int.not_lt.2 h]]
theorem bin_str_eql {a b : List UInt8} : vbinq .eql .str (.str a) (.str b) = some (.bool (a == b)) := (rfl)
theorem bin_str_neq {a b : List UInt8} : vbinq .neq .str (.str a) (.str b) = some (.bool !(a == b)) := (rfl)
theorem bin_bool_eql {a b : Bool} : vbinq .eql .bool (.bool a) (.bool b) = some (.bool (a == b)) := (rfl)
theorem bin_bool_neq {a b : Bool} : vbinq .neq .bool (.bool a) (.bool b) = some (.bool !(a == b)) := (rfl)
theorem bin_nil0 {k : Nat} : vbinq .eql .slice (.sl k []) .nils = some .anyb := (rfl)
theorem bin_nil1 {k : Nat} {e : AV} {es : List AV} : vbinq .eql .slice (.sl k (e :: es)) .nils = some (.bool false) := (rfl)
theorem bin_nil2 {id : Id} {k o l : Nat} {t : Bool} : vbinq .eql .slice (.osl id k o l t) .nils = some (.bool false) := (rfl)
theorem bin_nil3 : vbinq .eql .slice .nils .nils = some (.bool true) := (rfl)
theorem bin_ptr1 {id : Id} {e o : Nat} : vbinq .eql .ptr (.ref id e o) .nilp = some (.bool false) := (rfl)
theorem un_not {a : Bool} : vun .not (.bool a) = some (.bool !a) := (rfl)
theorem un_neg {k : IntKind} {a : Int} : vun .neg (.int k a) = some (.int k (k.wrap (0 - a))) := (rfl)
theorem len_nils : vlen false .nils = some (.int .i64 0) := (rfl)
theorem len_sl {k : Nat} {es : List AV} : vlen false (.sl k es) = some (.int .i64 es.length) := (rfl)
theorem len_tsl {k : Nat} {es : List AV} : vlen false (.tsl k es) = some (.int .i64 es.length) := (rfl)
theorem len_osl {id : Id} {k o l : Nat} {b : Bool} : vlen false (.osl id k o l b) = some (.int .i64 l) := (rfl)
theorem len_str {s : List UInt8} : vlen true (.str s) = some (.int .i64 s.length) := (rfl)
end
end Go.VL
end
