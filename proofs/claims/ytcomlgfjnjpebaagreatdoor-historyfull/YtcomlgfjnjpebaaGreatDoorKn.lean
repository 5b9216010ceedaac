/- Calls whose run is known, each run in the kernel from those before. Written by program. -/
import Derived.Test.YtcomlgfjnjpebaaGreatDoorFnTab
import Derived.Test.YtcomlgfjnjpebaaGreatDoorHX
import Derived.KernelRfl
set_option maxRecDepth 1000000
namespace Go.Proofs.YtcomlgfjnjpebaaGreatDoor
open Go.VL Go.Proofs

def known (ms : List Memo) (f : FuncId) (args : List AV) (p : Go.VL.Id) (L : LStore) : Option Res := match askMemo ms f args p L with | some r => some r | none => Tryz.X f args p L
theorem known_ok (G : Nat → Option (List AV)) {ms : List Memo} (h : ∀ m ∈ ms, MemoOk Tryz.prog G m) : CallOk Tryz.prog G (known ms) := CallOk.or (askMemo_ok h) (Tryz.X_ok G)


/- 861 operations -/
def m0 : Memo := ⟨40, [27, 16], [(.osl [24, 16] 5 0 2 false)], [([5, 4, 22, 16], ⟨[(.str [97, 47, 115, 48])], 1, false⟩), ([24, 16], ⟨[(.agg [(.str [97]), (.int .i64 (1)), .nils, .nils, (.bool false)]), (.agg [(.str [98]), (.int .i64 (5)), (.osl [5, 4, 22, 16] 1 0 1 false), .nils, (.bool false)])], 5, false⟩)], { val := (.bool true), rd := [[5, 4, 22, 16], [24, 16]], up := [] }⟩
theorem m0_run : resB (evFunc (known []) (run (fun _ => none) (known []) tab 3000) tab m0.f m0.args m0.p (m0.S.map fun x => (x.1, x.2, false))) m0.r = true := by kernel_rfl
theorem m0_ok : MemoOk Tryz.prog (fun _ => none) m0 := MemoOk.run (known_ok (fun _ => none) (fun m hm => by simp at hm)) tab_of 3000 m0 m0_run

/- 605 operations -/
def m1 : Memo := ⟨14, [16], [(.ref [3, 1] 0 0), (.agg [(.str [98]), (.int .i64 (5)), (.osl [5] 1 0 1 false), .nils, (.bool false)])], [([5], ⟨[(.str [97, 47, 115, 48])], 1, false⟩), ([24, 11], ⟨[(.agg [(.str [97]), (.int .i64 (1)), .nils, .nils, (.bool false)])], 5, false⟩), ([24, 31, 11], ⟨[.nils, (.osl [24, 11] 5 0 1 false)], 1, false⟩), ([3, 1], ⟨[(.agg [(.osl [24, 31, 11] 1 0 2 false), (.int .i64 (1))])], 2, false⟩)], { val := (.int .i64 (0)), rd := [[5], [24, 11], [24, 31, 11], [3, 1]], up := [([24, 31, 16], some ⟨[.nils, (.osl [24, 11] 5 0 1 false), (.osl [24, 16] 5 0 2 false)], 1, false⟩), ([3, 1], some ⟨[(.agg [(.osl [24, 31, 16] 1 0 3 false), (.int .i64 (2))])], 2, false⟩), ([24, 16], some ⟨[(.agg [(.str [97]), (.int .i64 (1)), .nils, .nils, (.bool false)]), (.agg [(.str [98]), (.int .i64 (5)), (.osl [5, 4, 22, 16] 1 0 1 false), .nils, (.bool false)])], 5, false⟩), ([5, 4, 22, 16], some ⟨[(.str [97, 47, 115, 48])], 1, false⟩)] }⟩
theorem m1_run : resB (evFunc (known [m0]) (run (fun _ => none) (known [m0]) tab 3000) tab m1.f m1.args m1.p (m1.S.map fun x => (x.1, x.2, false))) m1.r = true := by kernel_rfl
theorem m1_ok : MemoOk Tryz.prog (fun _ => none) m1 := MemoOk.run (known_ok (fun _ => none) (fun m hm => by have := m0_ok; simp only [List.mem_cons, List.not_mem_nil, or_false] at hm; rcases hm with rfl <;> assumption)) tab_of 3000 m1 m1_run

/- 784 operations -/
def m2 : Memo := ⟨26, [21], [(.ref [3, 1] 0 0), (.str [98]), (.int .i64 (0))], [([5, 4, 22, 16], ⟨[(.str [97, 47, 115, 48])], 1, false⟩), ([24, 16], ⟨[(.agg [(.str [97]), (.int .i64 (1)), .nils, .nils, (.bool false)]), (.agg [(.str [98]), (.int .i64 (5)), (.osl [5, 4, 22, 16] 1 0 1 false), .nils, (.bool false)])], 5, false⟩), ([24, 11], ⟨[(.agg [(.str [97]), (.int .i64 (1)), .nils, .nils, (.bool false)])], 5, false⟩), ([24, 31, 16], ⟨[.nils, (.osl [24, 11] 5 0 1 false), (.osl [24, 16] 5 0 2 false)], 1, false⟩), ([3, 1], ⟨[(.agg [(.osl [24, 31, 16] 1 0 3 false), (.int .i64 (2))])], 2, false⟩)], { val := (.int .i64 (14)), rd := [[5, 4, 22, 16], [24, 16], [24, 11], [24, 31, 16], [3, 1]], up := [] }⟩
theorem m2_run : resB (evFunc (known []) (run (fun _ => none) (known []) tab 3000) tab m2.f m2.args m2.p (m2.S.map fun x => (x.1, x.2, false))) m2.r = true := by kernel_rfl
theorem m2_ok : MemoOk Tryz.prog (fun _ => none) m2 := MemoOk.run (known_ok (fun _ => none) (fun m hm => by simp at hm)) tab_of 3000 m2 m2_run

/- 697 operations -/
def m3 : Memo := ⟨27, [26], [(.ref [3, 1] 0 0), (.str [97])], [([5, 4, 22, 16], ⟨[(.str [97, 47, 115, 48])], 1, false⟩), ([24, 16], ⟨[(.agg [(.str [97]), (.int .i64 (1)), .nils, .nils, (.bool false)]), (.agg [(.str [98]), (.int .i64 (5)), (.osl [5, 4, 22, 16] 1 0 1 false), .nils, (.bool false)])], 5, false⟩), ([24, 11], ⟨[(.agg [(.str [97]), (.int .i64 (1)), .nils, .nils, (.bool false)])], 5, false⟩), ([24, 31, 16], ⟨[.nils, (.osl [24, 11] 5 0 1 false), (.osl [24, 16] 5 0 2 false)], 1, false⟩), ([3, 1], ⟨[(.agg [(.osl [24, 31, 16] 1 0 3 false), (.int .i64 (2))])], 2, false⟩)], { val := (.int .i64 (14)), rd := [[5, 4, 22, 16], [24, 16], [24, 11], [24, 31, 16], [3, 1]], up := [] }⟩
theorem m3_run : resB (evFunc (known []) (run (fun _ => none) (known []) tab 3000) tab m3.f m3.args m3.p (m3.S.map fun x => (x.1, x.2, false))) m3.r = true := by kernel_rfl
theorem m3_ok : MemoOk Tryz.prog (fun _ => none) m3 := MemoOk.run (known_ok (fun _ => none) (fun m hm => by simp at hm)) tab_of 3000 m3 m3_run

/- 1564 operations -/
def m4 : Memo := ⟨9, [], [], [], { val := (.bool true), rd := [], up := [] }⟩
theorem m4_run : resB (evFunc (known [m1, m2, m3]) (run (fun _ => none) (known [m1, m2, m3]) tab 3000) tab m4.f m4.args m4.p (m4.S.map fun x => (x.1, x.2, false))) m4.r = true := by kernel_rfl
theorem m4_ok : MemoOk Tryz.prog (fun _ => none) m4 := MemoOk.run (known_ok (fun _ => none) (fun m hm => by have := m1_ok; have := m2_ok; have := m3_ok; simp only [List.mem_cons, List.not_mem_nil, or_false] at hm; rcases hm with rfl | rfl | rfl <;> assumption)) tab_of 3000 m4 m4_run

end Go.Proofs.YtcomlgfjnjpebaaGreatDoor
