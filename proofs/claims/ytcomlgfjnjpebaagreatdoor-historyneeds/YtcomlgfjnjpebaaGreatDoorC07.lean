/- For the claim of HistoryNeeds: parts TryzShelf, FUH, TUH, VL28, VL29, CLex, CB, WN, CI1, CI2, CI3, CI4, CI5, CI6, CI7. -/
import Derived.Shelf.Strings.Builder1
import Derived.Shelf.Strings.Builder2
import Derived.Shelf.Small.Bits
import Derived.Shelf.Strings.BuilderF
import Derived.Shelf.Strings.BuilderK
import Derived.Shelf.Strconv.Itoa0
import Derived.Shelf.Strconv.Itoa1
import Derived.Shelf.LaysM
import Derived.Shelf.Strconv.Itoa2
import Derived.Shelf.Strings.Search1
import Derived.Shelf.Strings.Search2
import Derived.Shelf.Strings.Cut
import Derived.Shelf.Strings.Shaped
import Derived.Shelf.Sort.Plain
import Derived.Shelf.Strings.Prefix
import Derived.Shelf.Bits.Mul64
import Derived.Shelf.Strings.Repeat
import Derived.Shelf.Slices.Equal
import Derived.Ground.Names2Prog
import Derived.Shelf.Slices.Clone
import Derived.Shelf.Slices.CompactS
import Derived.Shelf.Slices.SearchI
import Derived.Shelf.Slices.Cells
import Derived.Shelf.Slices.In.SortNone
import Derived.Shelf.Slices.Empties2
import Derived.Ground.SlgnProg
import Derived.Shelf.SlicesE.Clone
import Derived.Test.YtcomlgfjnjpebaaGreatDoorProg
import Derived.WalkKit
import Derived.Lib.Walk
import Derived.Lib.ItoaMem
import Derived.Lib.AppendIntMem
import Derived.BigCall
import Derived.BigGuard
import Derived.RangeFuncBox
import Derived.RangeFuncLeaves
import Derived.Shelf.Abstract
import Derived.OwnWalkIn
import Derived.TacticsInMore
import Derived.LoopNIn
import Derived.LoopIn
import Derived.Test.YtcomlgfjnjpebaaGreatDoorC05
import Derived.Laws.Bits64

section
namespace Go.Proofs
open Go.Shelf
def Tryz.lays169_ren : Go.Shelf.Ren := ⟨fun | 169 => 152 | n => n, fun | 70 => 162 | 9 => 9 | 0 => 0 | 72 => 164 | 37 => 31 | 127 => 187 | 3 => 3 | 5 => 5 | n => n, fun | n => n⟩
theorem Tryz.lays169 : Go.Proofs.Lays.n169 Tryz.prog Tryz.lays169_ren := {
  mixed := by kernel_rfl
  f169 := Tryz.func152.trans (congrArg some (by kernel_rfl))
  t0 := Tryz.underlying0
  a0 := Tryz.isAgg0
  z0 := Tryz.sizeOf0
  v0 := Tryz.zeroValue0
  t3 := Tryz.underlying3
  a3 := Tryz.isAgg3
  z3 := Tryz.sizeOf3
  v3 := Tryz.zeroValue3
  t9 := Tryz.underlying9
  a9 := Tryz.isAgg9
  z9 := Tryz.sizeOf9
  v9 := Tryz.zeroValue9
  t37 := Tryz.underlying31
  a37 := Tryz.isAgg31
  z37 := Tryz.sizeOf31
  v37 := Tryz.zeroValue31
  t70 := Tryz.underlying162
  a70 := Tryz.isAgg162
  z70 := Tryz.sizeOf162
  v70 := Tryz.zeroValue162
  t72 := Tryz.underlying164
  a72 := Tryz.isAgg164
  z72 := Tryz.sizeOf164
  v72 := Tryz.zeroValue164
  t127 := Tryz.underlying187
  a127 := Tryz.isAgg187
  z127 := Tryz.sizeOf187
  v127 := Tryz.zeroValue187 }
theorem Tryz.Builder_Extra_169 : Builder.Extra Tryz.prog Tryz.lays169_ren := {
  sizeBuilder := by kernel_rfl
  liesBuilder := by kernel_rfl
  t5 := Tryz.underlying5
  a5 := Tryz.isAgg5
  z5 := Tryz.sizeOf5
  v5 := Tryz.zeroValue5
  infoByte := by kernel_rfl
  cellsByte := by kernel_rfl
  sizeByte := by kernel_rfl
  neB5 := by decide }
open Go.RowKit in
theorem Tryz.Builder_String_any_k (B b : Nat) (l : List UInt8) (w : World) (h : Lib.IsBuilderF 164 5 B b (Lib.byteCells l) w) (hBw : B ≤ w.heap.size) :
    Calls Tryz.prog 152 #[.pointer (some ⟨b, 0, none⟩)] w fun e w' => e = .returned (.string ⟨l.toArray⟩) ∧ (Lib.IsBuilderF 164 5 B b (Lib.byteCells l) w' ∧ Below B w w' ∧ Lib.OthersKept 5 (some b) w w') := Any.Builder_String_any_k Tryz.lays169 Tryz.Builder_Extra_169 B b l w h hBw
def Tryz.lays129_ren : Go.Shelf.Ren := ⟨fun | 129 => 91 | n => n, fun | 53 => 118 | 3 => 3 | 4 => 4 | 46 => 92 | 5 => 5 | 9 => 9 | n => n, fun | n => n⟩
theorem Tryz.lays129 : Go.Proofs.Lays.n129 Tryz.prog Tryz.lays129_ren := {
  mixed := by kernel_rfl
  f129 := Tryz.func91.trans (congrArg some (by kernel_rfl))
  t3 := Tryz.underlying3
  a3 := Tryz.isAgg3
  z3 := Tryz.sizeOf3
  v3 := Tryz.zeroValue3
  t4 := Tryz.underlying4
  a4 := Tryz.isAgg4
  z4 := Tryz.sizeOf4
  v4 := Tryz.zeroValue4
  t5 := Tryz.underlying5
  a5 := Tryz.isAgg5
  z5 := Tryz.sizeOf5
  v5 := Tryz.zeroValue5
  t9 := Tryz.underlying9
  a9 := Tryz.isAgg9
  z9 := Tryz.sizeOf9
  v9 := Tryz.zeroValue9
  t46 := Tryz.underlying92
  a46 := Tryz.isAgg92
  z46 := Tryz.sizeOf92
  v46 := Tryz.zeroValue92
  t53 := Tryz.underlying118
  a53 := Tryz.isAgg118
  z53 := Tryz.sizeOf118
  v53 := Tryz.zeroValue118 }
theorem Tryz.bits_Len64 (x : Int) (w : World) (h0 : 0 ≤ x) (h1 : x ≤ 18446744073709551615) :
    Calls Tryz.prog 91 #[.int .u64 x] w fun e w' => e = .returned (.int .i64 (Lib.bitLen x.toNat)) ∧ w' = w := Any.bits_Len64 Tryz.lays129 x w h0 h1
def Tryz.lays317_ren : Go.Shelf.Ren := ⟨fun | 317 => 209 | n => n, fun | 3 => 3 | 46 => 92 | n => n, fun | n => n⟩
theorem Tryz.lays317 : Go.Proofs.Lays.n317 Tryz.prog Tryz.lays317_ren := {
  mixed := by kernel_rfl
  f317 := Tryz.func209.trans (congrArg some (by kernel_rfl))
  t3 := Tryz.underlying3
  a3 := Tryz.isAgg3
  z3 := Tryz.sizeOf3
  v3 := Tryz.zeroValue3
  t46 := Tryz.underlying92
  a46 := Tryz.isAgg92
  z46 := Tryz.sizeOf92
  v46 := Tryz.zeroValue92 }
open Go.Lib in
theorem Tryz.internal_strconv_log10Pow2 (x : Nat) (h : x ≤ 64) (w : World) :
    Calls Tryz.prog 209 #[.int .i64 x] w fun e w' => e = .returned (.int .i64 (Lib.l10 x)) ∧ w' = w := Any.internal_strconv_log10Pow2 Tryz.lays317 x h w
def Tryz.lays318_ren : Go.Shelf.Ren := ⟨fun | 318 => 210 | n => n, fun | 3 => 3 | 4 => 4 | n => n, fun | n => n⟩
theorem Tryz.lays318 : Go.Proofs.Lays.n318 Tryz.prog Tryz.lays318_ren := {
  mixed := by kernel_rfl
  f318 := Tryz.func210.trans (congrArg some (by kernel_rfl))
  t3 := Tryz.underlying3
  a3 := Tryz.isAgg3
  z3 := Tryz.sizeOf3
  v3 := Tryz.zeroValue3
  t4 := Tryz.underlying4
  a4 := Tryz.isAgg4
  z4 := Tryz.sizeOf4
  v4 := Tryz.zeroValue4 }
open Go.Lib in
theorem Tryz.internal_strconv_bool2_int (b : Bool) (w : World) :
    Calls Tryz.prog 210 #[.bool b] w fun e w' => e = .returned (.int .i64 (if b then 1 else 0)) ∧ w' = w := Any.internal_strconv_bool2_int Tryz.lays318 b w
def Tryz.lays283_ren : Go.Shelf.Ren := ⟨fun | 283 => 198 | n => n, fun | 3 => 3 | 9 => 9 | 4 => 4 | n => n, fun | n => n⟩
theorem Tryz.lays283 : Go.Proofs.Lays.n283 Tryz.prog Tryz.lays283_ren := {
  mixed := by kernel_rfl
  f283 := Tryz.func198.trans (congrArg some (by kernel_rfl))
  t3 := Tryz.underlying3
  a3 := Tryz.isAgg3
  z3 := Tryz.sizeOf3
  v3 := Tryz.zeroValue3
  t4 := Tryz.underlying4
  a4 := Tryz.isAgg4
  z4 := Tryz.sizeOf4
  v4 := Tryz.zeroValue4
  t9 := Tryz.underlying9
  a9 := Tryz.isAgg9
  z9 := Tryz.sizeOf9
  v9 := Tryz.zeroValue9 }
open Go.Lib in
theorem Tryz.internal_strconv_small (i : Nat) (h : i < 100) (w : World) :
    Calls Tryz.prog 198 #[.int .i64 i] w fun e w' => e = .returned (.string ⟨(Lib.decDigits i).toArray⟩) ∧ w' = w := Any.internal_strconv_small Tryz.lays283 i h w
def Tryz.lays285_ren : Go.Shelf.Ren := ⟨fun | 285 => 200 | n => n, fun | 37 => 31 | 53 => 118 | 3 => 3 | 4 => 4 | 51 => 116 | 9 => 9 | 5 => 5 | 0 => 0 | n => n, fun | n => n⟩
theorem Tryz.lays285 : Go.Proofs.Lays.n285 Tryz.prog Tryz.lays285_ren := {
  mixed := by kernel_rfl
  f285 := Tryz.func200.trans (congrArg some (by kernel_rfl))
  t0 := Tryz.underlying0
  a0 := Tryz.isAgg0
  z0 := Tryz.sizeOf0
  v0 := Tryz.zeroValue0
  t3 := Tryz.underlying3
  a3 := Tryz.isAgg3
  z3 := Tryz.sizeOf3
  v3 := Tryz.zeroValue3
  t4 := Tryz.underlying4
  a4 := Tryz.isAgg4
  z4 := Tryz.sizeOf4
  v4 := Tryz.zeroValue4
  t5 := Tryz.underlying5
  a5 := Tryz.isAgg5
  z5 := Tryz.sizeOf5
  v5 := Tryz.zeroValue5
  t9 := Tryz.underlying9
  a9 := Tryz.isAgg9
  z9 := Tryz.sizeOf9
  v9 := Tryz.zeroValue9
  t37 := Tryz.underlying31
  a37 := Tryz.isAgg31
  z37 := Tryz.sizeOf31
  v37 := Tryz.zeroValue31
  t51 := Tryz.underlying116
  a51 := Tryz.isAgg116
  z51 := Tryz.sizeOf116
  v51 := Tryz.zeroValue116
  t53 := Tryz.underlying118
  a53 := Tryz.isAgg118
  z53 := Tryz.sizeOf118
  v53 := Tryz.zeroValue118 }
open Go.RowKit Go.Sort Go.Lib in
theorem Tryz.internal_strconv_formatBase10 (blk off cap : Nat) (u : Nat) (d : Array UInt8) (w : World) (hH : Holds (fun (b : UInt8) => Value.int .u8 (b.toNat : Int)) w blk off d) (hu : u < 10 ^ d.size) (hu64 : u < 18446744073709551616) (hsz : d.size < 4611686018427387904) :
    Calls Tryz.prog 200 #[.slice (some ⟨blk, off, none⟩) d.size cap, .int .u64 u] w fun e w' =>
      e = .returned (.tuple #[]) ∧ ∃ (n v' : Nat) (dk : Array UInt8), w' = (putRow (fun (b : UInt8) => Value.int .u8 (b.toNat : Int)) w blk off dk).drewN n ∧ FmtInv d.size u 0 v' dk := Any.internal_strconv_formatBase10 Tryz.lays285 blk off cap u d w hH hu hu64 hsz
def Tryz.lays145_ren : Go.Shelf.Ren := ⟨fun | 145 => 30 | 220 => 57 | 219 => 80 | 217 => 107 | 225 => 108 | 224 => 109 | 267 => 110 | 266 => 131 | 314 => 132 | n => n, fun | 9 => 9 | 4 => 4 | 59 => 64 | 3 => 3 | 5 => 5 | 46 => 92 | 146 => 147 | 51 => 116 | n => n, fun | 1 => 1 | n => n⟩
theorem Tryz.lays145 : Go.Proofs.Lays.n145 Tryz.prog Tryz.lays145_ren := {
  mixed := by kernel_rfl
  f145 := Tryz.func30.trans (congrArg some (by kernel_rfl))
  f217 := Tryz.func107.trans (congrArg some (by kernel_rfl))
  f219 := Tryz.func80.trans (congrArg some (by kernel_rfl))
  f220 := Tryz.func57.trans (congrArg some (by kernel_rfl))
  f224 := Tryz.func109.trans (congrArg some (by kernel_rfl))
  f225 := Tryz.func108.trans (congrArg some (by kernel_rfl))
  f266 := Tryz.func131.trans (congrArg some (by kernel_rfl))
  f267 := Tryz.func110.trans (congrArg some (by kernel_rfl))
  f314 := Tryz.func132.trans (congrArg some (by kernel_rfl))
  t3 := Tryz.underlying3
  a3 := Tryz.isAgg3
  z3 := Tryz.sizeOf3
  v3 := Tryz.zeroValue3
  t4 := Tryz.underlying4
  a4 := Tryz.isAgg4
  z4 := Tryz.sizeOf4
  v4 := Tryz.zeroValue4
  t5 := Tryz.underlying5
  a5 := Tryz.isAgg5
  z5 := Tryz.sizeOf5
  v5 := Tryz.zeroValue5
  t9 := Tryz.underlying9
  a9 := Tryz.isAgg9
  z9 := Tryz.sizeOf9
  v9 := Tryz.zeroValue9
  t46 := Tryz.underlying92
  a46 := Tryz.isAgg92
  z46 := Tryz.sizeOf92
  v46 := Tryz.zeroValue92
  t51 := Tryz.underlying116
  a51 := Tryz.isAgg116
  z51 := Tryz.sizeOf116
  v51 := Tryz.zeroValue116
  t59 := Tryz.underlying64
  a59 := Tryz.isAgg64
  z59 := Tryz.sizeOf64
  v59 := Tryz.zeroValue64
  t146 := Tryz.underlying147
  a146 := Tryz.isAgg147
  z146 := Tryz.sizeOf147
  v146 := Tryz.zeroValue147
  g1 := by kernel_rfl }
open Go.RowKit Go.Lib in
theorem Tryz.strings_Cut (s sep : ByteArray) (m : Int) (w : World) (hs : s.size < 4294967281) (hm : w.cell? ⟨1, 0, none⟩ = some (.int .i64 m)) :
    Calls Tryz.prog 30 #[.string s, .string sep] w fun e w' => e = .returned (.tuple #[.string ⟨(Lib.cut s.data.toList sep.data.toList).1.toArray⟩, .string ⟨(Lib.cut s.data.toList sep.data.toList).2.1.toArray⟩, .bool (Lib.cut s.data.toList sep.data.toList).2.2]) ∧ ∃ n, w' = w.drewN n := Any.strings_Cut Tryz.lays145 s sep m w hs hm
def Tryz.laysM145_ren : Go.Shelf.Ren := ⟨fun | 145 => 30 | 220 => 57 | 219 => 80 | 217 => 107 | 225 => 108 | 224 => 109 | 267 => 110 | 266 => 131 | 314 => 132 | n => n, fun | 9 => 9 | 4 => 4 | 59 => 64 | 3 => 3 | 5 => 5 | 46 => 92 | 146 => 147 | 51 => 116 | n => n, fun | 1 => 1 | n => n⟩
theorem Tryz.laysM145 : Go.Proofs.LaysM.n145 Tryz.prog Tryz.laysM145_ren := {
  mixed := by kernel_rfl
  f145 := Tryz.func30.trans (congrArg some (by kernel_rfl))
  f217 := Tryz.func107.trans (congrArg some (by kernel_rfl))
  f219 := Tryz.func80.trans (congrArg some (by kernel_rfl))
  f220 := Tryz.func57.trans (congrArg some (by kernel_rfl))
  f224 := Tryz.func109.trans (congrArg some (by kernel_rfl))
  f225 := Tryz.func108.trans (congrArg some (by kernel_rfl))
  f266 := Tryz.func131.trans (congrArg some (by kernel_rfl))
  f267 := Tryz.func110.trans (congrArg some (by kernel_rfl))
  f314 := Tryz.func132.trans (congrArg some (by kernel_rfl))
  t3 := Tryz.underlying3
  a3 := Tryz.isAgg3
  z3 := Tryz.sizeOf3
  v3 := Tryz.zeroValue3
  t4 := Tryz.underlying4
  a4 := Tryz.isAgg4
  z4 := Tryz.sizeOf4
  v4 := Tryz.zeroValue4
  t5 := Tryz.underlying5
  a5 := Tryz.isAgg5
  z5 := Tryz.sizeOf5
  v5 := Tryz.zeroValue5
  t9 := Tryz.underlying9
  a9 := Tryz.isAgg9
  z9 := Tryz.sizeOf9
  v9 := Tryz.zeroValue9
  t46 := Tryz.underlying92
  a46 := Tryz.isAgg92
  z46 := Tryz.sizeOf92
  v46 := Tryz.zeroValue92
  t51 := Tryz.underlying116
  a51 := Tryz.isAgg116
  z51 := Tryz.sizeOf116
  v51 := Tryz.zeroValue116
  t59 := Tryz.underlying64
  a59 := Tryz.isAgg64
  z59 := Tryz.sizeOf64
  v59 := Tryz.zeroValue64
  t146 := Tryz.underlying147
  a146 := Tryz.isAgg147
  z146 := Tryz.sizeOf147
  v146 := Tryz.zeroValue147
  g1 := by kernel_rfl
  i3 := by kernel_rfl
  i4 := by kernel_rfl
  i5 := by kernel_rfl
  i9 := by kernel_rfl
  i46 := by kernel_rfl
  i51 := by kernel_rfl
  i59 := by kernel_rfl
  i146 := by kernel_rfl
  m1 := by kernel_rfl
  s1_3 := fun w h => Go.Proofs.cell_of_shapedOpen_int (zero := #[.int .i64 0]) (t := 3) h (of_decide_eq_true (by kernel_rfl)) (by kernel_rfl) rfl (by kernel_rfl) (by kernel_rfl) Tryz.underlying3 }
def Tryz.lays190_ren : Go.Shelf.Ren := ⟨fun | 190 => 31 | 125 => 59 | 258 => 58 | 128 => 90 | 129 => 91 | 302 => 81 | 303 => 82 | 304 => 83 | 305 => 84 | 306 => 85 | 307 => 86 | 308 => 87 | 309 => 88 | 310 => 89 | 333 => 111 | 329 => 112 | 330 => 113 | 334 => 114 | 335 => 115 | 336 => 116 | 344 => 133 | n => n, fun | 31 => 22 | 9 => 9 | 3 => 3 | 46 => 92 | 0 => 0 | 51 => 116 | 53 => 118 | 4 => 4 | 183 => 108 | 182 => 107 | 131 => 113 | 5 => 5 | 218 => 132 | 222 => 136 | 228 => 149 | 229 => 150 | n => n, fun | n => n⟩
theorem Tryz.lays190 : Go.Proofs.Lays.n190 Tryz.prog Tryz.lays190_ren := {
  mixed := by kernel_rfl
  f125 := Tryz.func59.trans (congrArg some (by kernel_rfl))
  f128 := Tryz.func90.trans (congrArg some (by kernel_rfl))
  f129 := Tryz.func91.trans (congrArg some (by kernel_rfl))
  f190 := Tryz.func31.trans (congrArg some (by kernel_rfl))
  f258 := Tryz.func58.trans (congrArg some (by kernel_rfl))
  f302 := Tryz.func81.trans (congrArg some (by kernel_rfl))
  f303 := Tryz.func82.trans (congrArg some (by kernel_rfl))
  f304 := Tryz.func83.trans (congrArg some (by kernel_rfl))
  f305 := Tryz.func84.trans (congrArg some (by kernel_rfl))
  f306 := Tryz.func85.trans (congrArg some (by kernel_rfl))
  f307 := Tryz.func86.trans (congrArg some (by kernel_rfl))
  f308 := Tryz.func87.trans (congrArg some (by kernel_rfl))
  f309 := Tryz.func88.trans (congrArg some (by kernel_rfl))
  f310 := Tryz.func89.trans (congrArg some (by kernel_rfl))
  f329 := Tryz.func112.trans (congrArg some (by kernel_rfl))
  f330 := Tryz.func113.trans (congrArg some (by kernel_rfl))
  f333 := Tryz.func111.trans (congrArg some (by kernel_rfl))
  f334 := Tryz.func114.trans (congrArg some (by kernel_rfl))
  f335 := Tryz.func115.trans (congrArg some (by kernel_rfl))
  f336 := Tryz.func116.trans (congrArg some (by kernel_rfl))
  f344 := Tryz.func133.trans (congrArg some (by kernel_rfl))
  t0 := Tryz.underlying0
  a0 := Tryz.isAgg0
  z0 := Tryz.sizeOf0
  v0 := Tryz.zeroValue0
  t3 := Tryz.underlying3
  a3 := Tryz.isAgg3
  z3 := Tryz.sizeOf3
  v3 := Tryz.zeroValue3
  t4 := Tryz.underlying4
  a4 := Tryz.isAgg4
  z4 := Tryz.sizeOf4
  v4 := Tryz.zeroValue4
  t5 := Tryz.underlying5
  a5 := Tryz.isAgg5
  z5 := Tryz.sizeOf5
  v5 := Tryz.zeroValue5
  t9 := Tryz.underlying9
  a9 := Tryz.isAgg9
  z9 := Tryz.sizeOf9
  v9 := Tryz.zeroValue9
  t31 := Tryz.underlying22
  a31 := Tryz.isAgg22
  z31 := Tryz.sizeOf22
  v31 := Tryz.zeroValue22
  t46 := Tryz.underlying92
  a46 := Tryz.isAgg92
  z46 := Tryz.sizeOf92
  v46 := Tryz.zeroValue92
  t51 := Tryz.underlying116
  a51 := Tryz.isAgg116
  z51 := Tryz.sizeOf116
  v51 := Tryz.zeroValue116
  t53 := Tryz.underlying118
  a53 := Tryz.isAgg118
  z53 := Tryz.sizeOf118
  v53 := Tryz.zeroValue118
  t131 := Tryz.underlying113
  a131 := Tryz.isAgg113
  z131 := Tryz.sizeOf113
  v131 := Tryz.zeroValue113
  t182 := Tryz.underlying107
  a182 := Tryz.isAgg107
  z182 := Tryz.sizeOf107
  v182 := Tryz.zeroValue107
  t183 := Tryz.underlying108
  a183 := Tryz.isAgg108
  z183 := Tryz.sizeOf108
  v183 := Tryz.zeroValue108
  t218 := Tryz.underlying132
  a218 := Tryz.isAgg132
  z218 := Tryz.sizeOf132
  v218 := Tryz.zeroValue132
  t222 := Tryz.underlying136
  a222 := Tryz.isAgg136
  z222 := Tryz.sizeOf136
  v222 := Tryz.zeroValue136
  t228 := Tryz.underlying149
  a228 := Tryz.isAgg149
  z228 := Tryz.sizeOf149
  v228 := Tryz.zeroValue149
  t229 := Tryz.underlying150
  a229 := Tryz.isAgg150
  z229 := Tryz.sizeOf150
  v229 := Tryz.zeroValue150 }
open Go.Sort Go.RowKit in
theorem Tryz.slices_Sort_string (blk off cap : Nat) (ss : List (List UInt8)) (w : World) (hH : Holds encStr w blk off ss.toArray) (hblk : blk < w.heap.size) (hsz : ss.length < 4611686018427387904) :
    Calls Tryz.prog 31 #[.slice (some ⟨blk, off, none⟩) ss.length cap] w fun e w' =>
      e = .returned (.tuple #[]) ∧ ∃ n os, w' = grow (putRow encStr (Sort.ahead w n) blk off (ss.mergeSort fun x y => decide (x ≤ y)).toArray) os := Any.slices_Sort_string Tryz.lays190 blk off cap ss w hH hblk hsz
def Tryz.lays105_ren : Go.Shelf.Ren := ⟨fun | 105 => 130 | 212 => 153 | 99 => 154 | 165 => 155 | 166 => 151 | 170 => 156 | 169 => 152 | 263 => 174 | 264 => 175 | 206 => 176 | 240 => 171 | 241 => 177 | 276 => 197 | 277 => 202 | n => n, fun | 9 => 9 | 3 => 3 | 4 => 4 | 20 => 20 | 0 => 0 | 46 => 92 | 109 => 175 | 5 => 5 | 72 => 164 | 76 => 172 | 51 => 116 | 146 => 147 | 53 => 118 | 148 => 189 | 70 => 162 | 37 => 31 | 75 => 166 | 127 => 187 | 164 => 200 | 80 => 174 | n => n, fun | n => n⟩
theorem Tryz.lays105 : Go.Proofs.Lays.n105 Tryz.prog Tryz.lays105_ren := {
  mixed := by kernel_rfl
  f99 := Tryz.func154.trans (congrArg some (by kernel_rfl))
  f105 := Tryz.func130.trans (congrArg some (by kernel_rfl))
  f165 := Tryz.func155.trans (congrArg some (by kernel_rfl))
  f166 := Tryz.func151.trans (congrArg some (by kernel_rfl))
  f169 := Tryz.func152.trans (congrArg some (by kernel_rfl))
  f170 := Tryz.func156.trans (congrArg some (by kernel_rfl))
  f206 := Tryz.func176.trans (congrArg some (by kernel_rfl))
  f212 := Tryz.func153.trans (congrArg some (by kernel_rfl))
  f240 := Tryz.func171.trans (congrArg some (by kernel_rfl))
  f241 := Tryz.func177.trans (congrArg some (by kernel_rfl))
  f263 := Tryz.func174.trans (congrArg some (by kernel_rfl))
  f264 := Tryz.func175.trans (congrArg some (by kernel_rfl))
  f276 := Tryz.func197.trans (congrArg some (by kernel_rfl))
  f277 := Tryz.func202.trans (congrArg some (by kernel_rfl))
  t0 := Tryz.underlying0
  a0 := Tryz.isAgg0
  z0 := Tryz.sizeOf0
  v0 := Tryz.zeroValue0
  t3 := Tryz.underlying3
  a3 := Tryz.isAgg3
  z3 := Tryz.sizeOf3
  v3 := Tryz.zeroValue3
  t4 := Tryz.underlying4
  a4 := Tryz.isAgg4
  z4 := Tryz.sizeOf4
  v4 := Tryz.zeroValue4
  t5 := Tryz.underlying5
  a5 := Tryz.isAgg5
  z5 := Tryz.sizeOf5
  v5 := Tryz.zeroValue5
  t9 := Tryz.underlying9
  a9 := Tryz.isAgg9
  z9 := Tryz.sizeOf9
  v9 := Tryz.zeroValue9
  t20 := Tryz.underlying20
  a20 := Tryz.isAgg20
  z20 := Tryz.sizeOf20
  v20 := Tryz.zeroValue20
  t37 := Tryz.underlying31
  a37 := Tryz.isAgg31
  z37 := Tryz.sizeOf31
  v37 := Tryz.zeroValue31
  t46 := Tryz.underlying92
  a46 := Tryz.isAgg92
  z46 := Tryz.sizeOf92
  v46 := Tryz.zeroValue92
  t51 := Tryz.underlying116
  a51 := Tryz.isAgg116
  z51 := Tryz.sizeOf116
  v51 := Tryz.zeroValue116
  t53 := Tryz.underlying118
  a53 := Tryz.isAgg118
  z53 := Tryz.sizeOf118
  v53 := Tryz.zeroValue118
  t70 := Tryz.underlying162
  a70 := Tryz.isAgg162
  z70 := Tryz.sizeOf162
  v70 := Tryz.zeroValue162
  t72 := Tryz.underlying164
  a72 := Tryz.isAgg164
  z72 := Tryz.sizeOf164
  v72 := Tryz.zeroValue164
  t75 := Tryz.underlying166
  a75 := Tryz.isAgg166
  z75 := Tryz.sizeOf166
  v75 := Tryz.zeroValue166
  t76 := Tryz.underlying172
  a76 := Tryz.isAgg172
  z76 := Tryz.sizeOf172
  v76 := Tryz.zeroValue172
  t109 := Tryz.underlying175
  a109 := Tryz.isAgg175
  z109 := Tryz.sizeOf175
  v109 := Tryz.zeroValue175
  t127 := Tryz.underlying187
  a127 := Tryz.isAgg187
  z127 := Tryz.sizeOf187
  v127 := Tryz.zeroValue187
  t146 := Tryz.underlying147
  a146 := Tryz.isAgg147
  z146 := Tryz.sizeOf147
  v146 := Tryz.zeroValue147
  t148 := Tryz.underlying189
  a148 := Tryz.isAgg189
  z148 := Tryz.sizeOf189
  v148 := Tryz.zeroValue189
  t164 := Tryz.underlying200
  a164 := Tryz.isAgg200
  z164 := Tryz.sizeOf200
  v164 := Tryz.zeroValue200 }
theorem Tryz.Builder_Extra_105 : Builder.Extra Tryz.prog Tryz.lays105_ren := {
  sizeBuilder := by kernel_rfl
  liesBuilder := by kernel_rfl
  t5 := Tryz.underlying5
  a5 := Tryz.isAgg5
  z5 := Tryz.sizeOf5
  v5 := Tryz.zeroValue5
  infoByte := by kernel_rfl
  cellsByte := by kernel_rfl
  sizeByte := by kernel_rfl
  neB5 := by decide }
open Go.RowKit Go.Lib in
theorem Tryz.strings_Repeat_main (s : ByteArray) (c : Nat) (w : World) (hc2 : 2 ≤ c) (hc : c ≤ 9223372036854775807) (hlen : s.size * c ≤ 140737488355328) (h0 : 0 < s.size) :
    Calls Tryz.prog 130 #[.string s, .int .i64 c] w fun e w' => e = .returned (.string ⟨(Lib.repeatL s.data.toList c).toArray⟩) ∧ Below w.heap.size w w' := Any.strings_Repeat_main Tryz.lays105 Tryz.Builder_Extra_105 s c w hc2 hc hlen h0
open Go.RowKit Go.Lib in
theorem Tryz.strings_Repeat_zero (s : ByteArray) (w : World) :
    Calls Tryz.prog 130 #[.string s, .int .i64 0] w fun e w' => e = .returned (.string ⟨#[]⟩) ∧ w' = w := Any.strings_Repeat_zero Tryz.lays105 s w
open Go.RowKit Go.Lib in
theorem Tryz.strings_Repeat_one (s : ByteArray) (w : World) :
    Calls Tryz.prog 130 #[.string s, .int .i64 1] w fun e w' => e = .returned (.string s) ∧ w' = w := Any.strings_Repeat_one Tryz.lays105 s w
def Tryz.lays194_ren : Go.Shelf.Ren := ⟨fun | 194 => 32 | n => n, fun | 31 => 22 | 9 => 9 | 3 => 3 | 4 => 4 | 0 => 0 | n => n, fun | n => n⟩
theorem Tryz.lays194 : Go.Proofs.Lays.n194 Tryz.prog Tryz.lays194_ren := {
  mixed := by kernel_rfl
  f194 := Tryz.func32.trans (congrArg some (by kernel_rfl))
  t0 := Tryz.underlying0
  a0 := Tryz.isAgg0
  z0 := Tryz.sizeOf0
  v0 := Tryz.zeroValue0
  t3 := Tryz.underlying3
  a3 := Tryz.isAgg3
  z3 := Tryz.sizeOf3
  v3 := Tryz.zeroValue3
  t4 := Tryz.underlying4
  a4 := Tryz.isAgg4
  z4 := Tryz.sizeOf4
  v4 := Tryz.zeroValue4
  t9 := Tryz.underlying9
  a9 := Tryz.isAgg9
  z9 := Tryz.sizeOf9
  v9 := Tryz.zeroValue9
  t31 := Tryz.underlying22
  a31 := Tryz.isAgg22
  z31 := Tryz.sizeOf22
  v31 := Tryz.zeroValue22 }
open Go.RowKit Go.Lib Go.Sort in
theorem Tryz.slices_Compact_string (blk off cap : Nat) (zs : List (List UInt8)) (w : World) (hH : Holds encStr w blk off zs.toArray) (hsz : zs.length ≤ 9223372036854775807) (hcap : zs.length ≤ cap) :
    Calls Tryz.prog 32 #[.slice (some ⟨blk, off, none⟩) zs.length cap] w fun e w' => e = .returned (.slice (some ⟨blk, off, none⟩) (Lib.compact zs).length cap) ∧ ∃ q, w' = putRow encStr (Sort.ahead w q) blk off (Lib.compact zs ++ List.replicate (zs.length - (Lib.compact zs).length) []).toArray := Any.slices_Compact_string Tryz.lays194 blk off cap zs w hH hsz hcap
open Go.RowKit Go.Lib Go.Sort in
theorem Tryz.slices_Compact_string_empty (a : Option Addr) (cap : Nat) (w : World) :
    Calls Tryz.prog 32 #[.slice a 0 cap] w fun e w' => e = .returned (.slice a 0 cap) ∧ w' = w := Any.slices_Compact_string_empty Tryz.lays194 a cap w
open Go.RowKit Go.Sort in
theorem Tryz.slices_Sort_string_none (p : Option Addr) (cap : Nat) (w : World) :
    Calls Tryz.prog 31 #[.slice p 0 cap] w fun e w' => e = .returned (.tuple #[]) ∧ w' = w := Any.slices_Sort_string_none Tryz.lays190 p cap w
end Go.Proofs
end

section
namespace Go.Proofs
open Go.RowKit Go.Shelf Go.Sort Go.Lib
def Tryz.Pow10 (w : World) : Prop := ∀ i, i < 20 → w.cell? ⟨2, i, none⟩ = some (.int .u64 ((10 ^ i : Nat) : Int))
set_option maxHeartbeats 2000000 in
set_option maxRecDepth 100000 in
theorem Tryz.numDigits_c (u : Nat) (h1 : 1 ≤ u) (h2 : u < 18446744073709551616) (w : World) (hc : Tryz.Pow10 w) :
    Calls Tryz.prog 199 #[.int .u64 u] w fun e w' => e = .returned (.int .i64 (Lib.nDigits u)) ∧ w' = w := by
  obtain ⟨hnd, h19⟩ := Lib.numDigits_eq u h1 h2
  have hL : Lib.bitLen u ≤ 64 := Lib.bitLen_le u 64 (Nat.le_refl _) h2
  have hcell := hc (Lib.l10 (Lib.bitLen u)) (by omega)
  have hto : ((u : Int)).toNat = u := by omega
  generalize hq : Lib.l10 (Lib.bitLen u) = q at hnd h19 hcell
  generalize hT : 10 ^ q = T at hnd hcell
  have h20 : q < 20 := by omega
  have Hnd := Lib.hid hnd
  clear hnd hc
  go_enter Tryz.func199, Tryz.ntmps199
  go_wp2_with (first
    | (go_at_call 91; refine (Tryz.bits_Len64 _ _ (by omega) (by omega)).mono ?_; rintro e w' ⟨rfl, rfl⟩)
    | (go_at_call 209; refine (Tryz.internal_strconv_log10Pow2 _ (by first | exact hL | (rw [hto]; exact hL)) _).mono ?_; rintro e w' ⟨rfl, rfl⟩)
    | (go_at_call 210; refine (Tryz.internal_strconv_bool2_int _ _).mono ?_; rintro e w' ⟨rfl, rfl⟩))
  all_goals go_ret
  all_goals (
    refine ⟨?_, rfl⟩
    have hnd := Hnd.out
    congr 2
    split at hnd <;> simp_all <;> omega)
theorem Tryz.Pow10.alloc {w : World} (h : Tryz.Pow10 w) (o : Obj) : Tryz.Pow10 (w.alloc o) := fun i hi => by
  have h1 := h i hi
  have hb : 2 < w.heap.size := World.block_lt_of_cell? _ _ h1
  exact (World.cell?_of_block (a := ⟨2, i, none⟩) (Below.heap_alloc w o 2 hb)).trans h1
theorem Lib.fin_pos0 (w : World) (o : Obj) (dk : Array UInt8) (k : Nat) : ∃ os, (putRow (fun (b : UInt8) => Value.int .u8 (b.toNat : Int)) (w.alloc o) w.heap.size 0 dk).drewN k = grow (w.drewN k) os := by
  rw [alloc_eq_grow]
  obtain ⟨os', _, e⟩ := putRow_grow_new (fun (b : UInt8) => Value.int .u8 (b.toNat : Int)) w #[o] w.heap.size 0 dk (Nat.le_refl _)
  exact ⟨os', by rw [e]; rfl⟩
set_option maxHeartbeats 4000000 in
set_option maxRecDepth 100000 in
theorem Tryz.formatUint_c (u : Nat) (hu64 : u < 18446744073709551616) (w : World) (hc : Tryz.Pow10 w) :
    Calls Tryz.prog 173 #[.int .u64 u, .int .i64 10] w fun e w' => e = .returned (.string ⟨(Lib.decDigits u).toArray⟩) ∧ Below w.heap.size w w' := by
  by_cases hs : u < 100
  · go_enter Tryz.func173, Tryz.ntmps173
    go_wp2_with (go_at_call 198; refine (Tryz.internal_strconv_small u hs _).mono ?_; rintro e w' ⟨rfl, rfl⟩)
    go_ret
    exact ⟨rfl, Below.refl _ _⟩
  · have hu1 : 1 ≤ u := by omega
    have hnd20 : Lib.nDigits u ≤ 20 := by have := Lib.numDigits_eq u hu1 hu64; split at this <;> omega
    have hal : Tryz.prog.arrayLen 203 = 24 := by kernel_rfl
    have hsl : ∀ W, (Instr.sliceAt 203 (.pointer (some ⟨w.heap.size, 0, none⟩)) none (some (.int .i64 (Lib.nDigits u : Int))) none).run Tryz.prog W = .ok (.slice (some ⟨w.heap.size, 0, none⟩) (Lib.nDigits u) 24) W := fun W => by
      rw [run_sliceAt_array_h W 203 ⟨w.heap.size, 0, none⟩ (by kernel_rfl) .i64 (Lib.nDigits u : Int) (by omega) (by rw [hal]; omega)]
      go_simp
    have hH0 := Lib.holds_zero0 w 203 (Lib.nDigits u) (by omega)
    have hfmt := Tryz.internal_strconv_formatBase10 w.heap.size 0 24 u (Array.replicate (Lib.nDigits u) 0) (w.alloc (.cells Lib.zeros24 203)) hH0 (by rw [Array.size_replicate]; exact Lib.lt_pow_nDigits u) hu64 (by rw [Array.size_replicate]; omega)
    rw [Array.size_replicate] at hfmt
    have HH0 := Lib.hid hH0
    have hc2 := hc.alloc (.cells Lib.zeros24 203)
    clear hH0 hal
    go_enter Tryz.func173, Tryz.ntmps173
    go_wp2_with (first
      | (go_at_call 199; refine (Tryz.numDigits_c u hu1 hu64 _ hc2).mono ?_; rintro e w' ⟨rfl, rfl⟩))
    refine hfmt.mono ?_
    rintro e w' ⟨rfl, k, v', dk, rfl, hF⟩
    have hcv : (convert 31 9 (.slice (some ⟨w.heap.size, 0, none⟩) (Lib.nDigits u) 24)).run Tryz.prog ((putRow (fun (b : UInt8) => Value.int .u8 (b.toNat : Int)) (w.alloc (.cells Lib.zeros24 203)) w.heap.size 0 dk).drewN k) = .ok (.string ⟨(Lib.decDigits u).toArray⟩) ((putRow (fun (b : UInt8) => Value.int .u8 (b.toNat : Int)) (w.alloc (.cells Lib.zeros24 203)) w.heap.size 0 dk).drewN k) := by
      have h := run_convert_bytes_back (P := Tryz.prog) ((putRow (fun (b : UInt8) => Value.int .u8 (b.toNat : Int)) (w.alloc (.cells Lib.zeros24 203)) w.heap.size 0 dk).drewN k) 31 9 5 ⟨w.heap.size, 0, none⟩ 24 (Lib.decDigits u) Tryz.underlying31 Tryz.underlying5 Tryz.underlying9 (fun j hj => by
        rw [Lib.row_is_numeral hF j hj, Lib.add_plain, World.cell?_drewN]
        exact cell?_putRow (fun (b : UInt8) => Value.int .u8 (b.toNat : Int)) _ w.heap.size 0 _ dk HH0.out (by rw [hF.size, Array.size_replicate]) j (by rw [hF.size]; rw [Lib.decDigits_length] at hj; exact hj))
      rw [Lib.decDigits_length] at h
      exact h
    go_wp2
    go_ret
    obtain ⟨os, eo⟩ := Lib.fin_pos0 w (.cells Lib.zeros24 203) dk k
    refine ⟨rfl, ?_⟩
    rw [eo]
    exact Lib.below_grow _ w (Nat.le_refl _) k os
set_option maxRecDepth 100000 in
theorem Tryz.formatUint_any (u : Nat) (hu64 : u < 18446744073709551616) (w : World) (hc : Tryz.Pow10 w) :
    Calls Tryz.prog 150 #[.int .u64 u, .int .i64 10] w fun e w' => e = .returned (.string ⟨(Lib.decDigits u).toArray⟩) ∧ Below w.heap.size w w' := by
  go_enter Tryz.func150, Tryz.ntmps150
  go_wp2_with (go_at_call 173; refine (Tryz.formatUint_c u hu64 _ hc).mono ?_; rintro e w' ⟨rfl, hB⟩)
  go_ret
  exact ⟨rfl, hB⟩
end Go.Proofs
end

section
namespace Go.Proofs
open Go.RowKit Go.Shelf
attribute [local go_sem] Oper.semAt_some
def Tryz.upto {α : Type} (f : Nat → α) (k : Nat) : List α := (List.range k).map f
theorem Tryz.upto_succ {α : Type} (f : Nat → α) (k : Nat) : Tryz.upto f (k + 1) = Tryz.upto f k ++ [f k] := by simp [Tryz.upto, List.range_succ]
theorem Tryz.upto_length {α : Type} (f : Nat → α) (k : Nat) : (Tryz.upto f k).length = k := by simp [Tryz.upto]
def Tryz.bw (zs : List Int) (k : Nat) : Int × Int := ((zs.length : Int) - 1 - k, zs[zs.length - 1 - k]?.getD 0)
def Tryz.BK (n₀ Bs : Nat) (A B : World) : Prop := Below n₀ A B ∧ B.cell? ⟨Bs, 0, none⟩ = A.cell? ⟨Bs, 0, none⟩
theorem Tryz.BK.refl (n₀ Bs : Nat) (A : World) : Tryz.BK n₀ Bs A A := ⟨Below.refl _ _, rfl⟩
theorem Tryz.BK.trans {n₀ Bs : Nat} {A B C : World} (h : Tryz.BK n₀ Bs A B) (k : Tryz.BK n₀ Bs B C) : Tryz.BK n₀ Bs A C := ⟨h.1.trans k.1, k.2.trans h.2⟩
set_option maxRecDepth 100000 in
set_option maxHeartbeats 2000000 in
theorem Tryz.bw1_in (F : Fence) (n : Nat) (h8 : F.fn 172) (hro : F.round = none) (hn : 1 ≤ n) (l Bs n₀ b off cap : Nat) (zs : List Int) (hreach : zs.length * 8 ≤ 140737488351232) (hb : b < n₀) (J Jx : List (Int × Int) → World → Prop)
    (hY : ∀ pre x W, J pre W → pre.length < zs.length → YieldAt F (n - 1) Tryz.prog l #[.int .i64 x.1, .int .u32 x.2] W fun e W' =>
      (e = .returned (.bool true) ∧ J (pre ++ [x]) W' ∧ Tryz.BK n₀ Bs W W') ∨ (e = .returned (.bool false) ∧ Jx (pre ++ [x]) W'))
    (W : World) (hBs0 : W.cell? ⟨Bs, 0, none⟩ = some (.slice (some ⟨b, off, none⟩) zs.length cap)) (hc : ∀ j, j < zs.length → W.cell? ⟨b, off + j, none⟩ = some (.int .u32 (zs[j]?.getD 0))) (h0 : J [] W) :
    CallsIn F n Tryz.prog 172 #[.func (.yield l) #[] #[], .pointer (some ⟨Bs, 0, none⟩)] W fun e W' => (∃ v, e = .returned v) ∧
      ((∃ ys, ys = Tryz.upto (Tryz.bw zs) zs.length ∧ J ys W') ∨ (∃ pre, (∃ k, k ≤ zs.length ∧ pre = Tryz.upto (Tryz.bw zs) k) ∧ Jx pre W')) := by
  refine callsIn_of_wp Tryz.func172 rfl h8 ?_ hro
  simp only [Tryz.ntmps172, List.size_toArray, List.length_cons, List.length_nil, Nat.reduceAdd, Nat.reduceSub, Array.replicate_succ, Array.replicate_zero, List.push_toArray, List.append_toArray, List.nil_append, List.cons_append]
  gi_wp2
  gi_loopw [3] (fun i wr => ∃ k : Nat, k ≤ zs.length ∧ i = .int .i64 ((zs.length : Int) - 1 - k) ∧ J (Tryz.upto (Tryz.bw zs) k) wr ∧ Tryz.BK n₀ Bs W wr)
    (fun i _ => (intOf i + 1).toNat)
  case atStart => exact ⟨0, Nat.zero_le _, by simp, h0, Tryz.BK.refl _ _ _⟩
  case round =>
    obtain ⟨k, hk, rfl, hJs, hnx⟩ := hrel
    have hBk := hnx.2.trans hBs0
    have hcx : ∀ j, j < zs.length → wr.cell? ⟨b, off + j, none⟩ = some (.int .u32 (zs[j]?.getD 0)) := fun j h => (hnx.1.cell (p := ⟨b, off + j, none⟩) hb).trans (hc j h)
    by_cases hlt : k < zs.length
    · obtain ⟨q, hq⟩ : ∃ q, q = zs.length - 1 - k := ⟨_, rfl⟩
      have hqi : (zs.length : Int) - 1 - k = q := by omega
      have hql : q < zs.length := by omega
      have hbw : Hid (Tryz.bw zs k = ((q : Int), zs[q]?.getD 0)) := by show Tryz.bw zs k = _; rw [Tryz.bw, ← hq, hqi]
      have hqk : Hid (q + 1 + k = zs.length) := by show q + 1 + k = zs.length; omega
      clear hq
      have hcx' := hcx q hql
      generalize zs[q]?.getD 0 = zq at hbw hcx'
      obtain ⟨fn, tmps, assign, body, hy, hR⟩ := hY _ ((q : Int), zq) wr hJs (by rw [Tryz.upto_length]; exact hlt)
      dsimp only at hy
      rw [hqi]
      clear hqi hY h0 hc hcx
      gi_wp2
      refine hR.mono ?_
      rintro e W3 (⟨rfl, hJ3, hk3⟩ | ⟨rfl, hJx3⟩)
      · gi_wp2
        go_roundw
        case rel => exact ⟨k + 1, by omega, by have := hqk.out; congr 1; omega, by rw [Tryz.upto_succ, hbw.out]; exact hJ3, hnx.trans hk3⟩
        case measure => simp [intOf]
      · gi_wp2
        refine bodyPost_ret (results_none rfl _ _ _) rfl ?_
        exact ⟨⟨_, rfl⟩, .inr ⟨_, ⟨k + 1, by omega, by rw [Tryz.upto_succ, hbw.out]⟩, hJx3⟩⟩
    · obtain rfl : k = zs.length := by omega
      have hneg : (zs.length : Int) - 1 - zs.length = -1 := by omega
      rw [hneg]
      gi_wp2
      go_end0
      exact ⟨⟨_, rfl⟩, .inl ⟨_, rfl, hJs⟩⟩
def Tryz.U32s (n₀ : Nat) (W : World) (sv : Value) (zs : List Int) : Prop :=
  (∃ a cap, sv = .slice a 0 cap ∧ zs = []) ∨ ∃ b off cap, sv = .slice (some ⟨b, off, none⟩) zs.length cap ∧ b < n₀ ∧ ∀ j, j < zs.length → W.cell? ⟨b, off + j, none⟩ = some (.int .u32 (zs[j]?.getD 0))
theorem Tryz.U32s.below {n₀ : Nat} {A B : World} (h : Below n₀ A B) {sv : Value} {zs : List Int} : Tryz.U32s n₀ A sv zs → Tryz.U32s n₀ B sv zs
  | .inl e => .inl e
  | .inr ⟨b, off, cap, e, hb, hc⟩ => .inr ⟨b, off, cap, e, hb, fun j hj => (h.cell (p := ⟨b, off + j, none⟩) hb).trans (hc j hj)⟩
set_option maxRecDepth 100000 in
set_option maxHeartbeats 1000000 in
theorem Tryz.bw1_nil_in (F : Fence) (n : Nat) (h8 : F.fn 172) (hro : F.round = none) (l Bs : Nat) (a : Option Addr) (cap : Nat) (J : List (Int × Int) → World → Prop) (W : World) (hBs : W.cell? ⟨Bs, 0, none⟩ = some (.slice a 0 cap)) (h0 : J [] W) :
    CallsIn F n Tryz.prog 172 #[.func (.yield l) #[] #[], .pointer (some ⟨Bs, 0, none⟩)] W fun e W' => (∃ v, e = .returned v) ∧ J [] W' := by
  refine callsIn_of_wp Tryz.func172 rfl h8 ?_ hro
  simp only [Tryz.ntmps172, List.size_toArray, List.length_cons, List.length_nil, Nat.reduceAdd, Nat.reduceSub, Array.replicate_succ, Array.replicate_zero, List.push_toArray, List.append_toArray, List.nil_append, List.cons_append]
  gi_wp2
  gi_loopw [3] (fun i wr => i = .int .i64 (-1) ∧ J [] wr) (fun _ _ => 0)
  case atStart => exact ⟨rfl, h0⟩
  case round =>
    obtain ⟨rfl, hJs⟩ := hrel
    gi_wp2
    go_end0
    exact ⟨⟨_, rfl⟩, hJs⟩
set_option maxHeartbeats 1000000 in
theorem Tryz.backward_in (F : Fence) (n : Nat) (h5 : F.fn 149) (hro : F.round = none) (a : Option Addr) (len cap : Nat) (w : World) :
    CallsIn F n Tryz.prog 149 #[.slice a len cap] w fun e w' => e = .returned (.func (.func 172) #[] #[.pointer (some ⟨w.heap.size, 0, none⟩)]) ∧ w' = w.alloc (.cells #[.slice a len cap] 57) := by
  refine callsIn_of_wp Tryz.func149 rfl h5 ?_ hro
  simp only [Tryz.ntmps149, List.size_toArray, List.length_cons, List.length_nil, Nat.reduceAdd, Nat.reduceSub, Array.replicate_succ, Array.replicate_zero, List.push_toArray, List.append_toArray, List.nil_append, List.cons_append]
  gi_wp2
  go_ret
  exact ⟨rfl, rfl⟩
theorem Tryz.bw_stops (F : Fence) (n : Nat) (h8 : F.fn 172) (hro : F.round = none) (hn : 1 ≤ n) (Bs n₀ : Nat) (sv : Value) (zs : List Int) (hreach : zs.length * 8 ≤ 140737488351232) (w : World) (hBs : Bs < w.heap.size) (hn₀ : n₀ ≤ w.heap.size)
    (hc : w.cell? ⟨Bs, 0, none⟩ = some sv) (hI : Tryz.U32s n₀ w sv zs) :
    SeqStopsK F n Tryz.prog 172 #[.pointer (some ⟨Bs, 0, none⟩)] (fun x : Int × Int => #[Value.int .i64 x.1, Value.int .u32 x.2]) (Tryz.BK n₀ Bs) (fun ys => ys = Tryz.upto (Tryz.bw zs) zs.length)
      (fun pre => ∃ k, k ≤ zs.length ∧ pre = Tryz.upto (Tryz.bw zs) k) zs.length w := fun l J Jx W hW _ _ hY h0 => by
  have hc' := (hW.cell (p := ⟨Bs, 0, none⟩) hBs).trans hc
  rcases hI.below (hW.mono hn₀) with ⟨a, cap, rfl, rfl⟩ | ⟨b, off, cap, rfl, hb, hcs⟩
  · exact (Tryz.bw1_nil_in F n h8 hro l Bs a cap J W hc' h0).mono fun e W' ⟨he, hj⟩ => ⟨he, .inl ⟨_, rfl, hj⟩⟩
  · exact Tryz.bw1_in F n h8 hro hn l Bs n₀ b off cap zs hreach hb J Jx hY W hc' hcs h0
def Tryz.stepU (s v : Int) : Int := bits BinOp.or IntKind.u64 (IntKind.u64.wrap (s * 4294967296)) (IntKind.u64.wrap v)
def Tryz.toU (l : List (Int × Int)) : Int := l.foldl (fun s x => Tryz.stepU s x.2) 0
theorem Tryz.toU_snoc (pre : List (Int × Int)) (x : Int × Int) : Tryz.toU (pre ++ [x]) = Tryz.stepU (Tryz.toU pre) x.2 := by simp [Tryz.toU]
set_option maxRecDepth 100000 in
set_option maxHeartbeats 2000000 in
theorem Tryz.toUint_in (F : Fence) (n : Nat) (h3 : F.fn 165) (h6 : F.fn 149) (h8 : F.fn 172) (hro : F.round = none) (hn : 3 ≤ n) (a : Option Addr) (len cap : Nat) (zs : List Int) (hreach : zs.length * 8 ≤ 140737488351232) (w : World) (hI : Tryz.U32s w.heap.size w (.slice a len cap) zs) :
    CallsIn F n Tryz.prog 165 #[.slice a len cap] w fun e W' => e = .returned (.int .u64 (Tryz.toU (Tryz.upto (Tryz.bw zs) zs.length))) ∧ Below w.heap.size w W' := by
  have h1 : 1 ≤ n := by omega
  refine callsIn_of_wp_marks Tryz.func165 rfl h3 ?_ hro
  simp only [Tryz.ntmps165, List.size_toArray, List.length_cons, List.length_nil, Nat.reduceAdd, Nat.reduceSub, Array.replicate_succ, Array.replicate_zero, List.push_toArray, List.append_toArray, List.nil_append, List.cons_append]
  gi_wp2_with (gi_at_call 149; refine (Tryz.backward_in F (n - 1) h6 hro _ _ _ _).mono ?_; rintro e w' ⟨rfl, rfl⟩)
  have bS := Boxed.new w 118 (.int .u64 0)
  have bN := Boxed.new (w.alloc (.cells #[.int .u64 0] 118)) 57 (.slice a len cap)
  rw [World.size_alloc] at bN
  have hB0 : Below w.heap.size w ((w.alloc (.cells #[.int .u64 0] 118)).alloc (.cells #[.slice a len cap] 57)) := ((Below.refl _ w).alloc (Nat.le_refl _) _).alloc (by simp) _
  have hbox : ((w.alloc (.cells #[.int .u64 0] 118)).alloc (.cells #[.slice a len cap] 57)).heap.size = w.heap.size + 2 := by simp
  refine wpIn_rangeFunc_ownG hro h1 (gf := 172) (lb := #[.pointer (some ⟨w.heap.size + 1, 0, none⟩)]) rfl h8 (enters_of Tryz.func172 (by kernel_rfl) rfl)
    (Tryz.bw_stops F (n - 1) h8 hro (by omega) (w.heap.size + 1) w.heap.size _ zs hreach _ (by simp) (by simp; omega) bN.cell (hI.below hB0)) (fun h k => h.trans k)
    (fun W l o o' hl h h2 h3 => ⟨belowK_b (w := w) (Nat.le_refl _) W l o o' (by omega) h h2 h3, (belowK_b (w := (w.alloc (.cells #[.int .u64 0] 118)).alloc (.cells #[.slice a len cap] 57)) (Nat.le_refl _) W l o o' hl h h2 h3).cell (p := ⟨w.heap.size + 1, 0, none⟩) (by simp)⟩) (Below.refl _ _) (fun _ => rfl)
    (fun pre W => (W.cell? ⟨w.heap.size, 0, none⟩ = some (.int .u64 (Tryz.toU pre)) ∧ W.frozen? ⟨w.heap.size, 0, none⟩ = false) ∧ Below w.heap.size w W)
    (fun _ _ _ => False)
    (OwnFrom.and (Own.from (fun s A B row hs hg hr => ⟨cell_kept hs.1 hg hr, (frozen_kept hs.1 hg hr).trans hs.2⟩) _) (ownFrom_below (Nat.le_refl _) (by simp; omega)))
    (fun _ _ _ _ _ hs _ _ => hs)
    ⟨⟨(bS.alloc _).cell, (bS.alloc _).frozen⟩, hB0⟩
    (fun x => { tmps := #[.slice a len cap, undef, .int .u64 0, .pointer (some ⟨w.heap.size, 0, none⟩), undef, .int .u32 x.2, .slice a len cap, .func (.func 172) #[] #[.pointer (some ⟨w.heap.size + 1, 0, none⟩)], .int .i64 x.1, .int .u32 x.2, undef, undef, undef, undef, undef, undef], defers := [] }) ?assign ?body ?done ?stop
  case assign =>
    intro l x W K hK
    gi_wp2
    exact hK
  case body =>
    rintro l pre x W ⟨⟨hc, hf⟩, hB⟩ _
    gi_wp2
    exact ⟨(KeepsOthers.setCell _ _ _).from _, ⟨(Below.refl w.heap.size W).setCell (p := ⟨w.heap.size, 0, none⟩) (Nat.le_refl _) _, World.cell?_of_block (a := ⟨w.heap.size + 1, 0, none⟩) (Below.heap_setCell _ _ _ _ (by simp))⟩,
      ⟨by rw [Tryz.toU_snoc]; exact World.cell?_setCell_same' _ _ _ (by rw [hc]; rfl), by rw [World.frozen?_setCell]; exact hf⟩, hB.setCell (p := ⟨w.heap.size, 0, none⟩) (Nat.le_refl _) _⟩
  case done =>
    rintro D ys W hD rfl ⟨⟨hc, _⟩, hB⟩ hK
    gi_wp2
    refine ⟨by simp, .inl ⟨_, _, rfl, run_takeDeferred hK, ?_⟩⟩
    exact ⟨_, results_tmp rfl _ _ _, rfl, hB.trans (belowK_b (w := w) (Nat.le_refl _) W D _ _ (by simp at hD; omega) hK rfl rfl)⟩
  case stop =>
    rintro D c pre W _ _ h _
    exact h.elim
end Go.Proofs
end

section
namespace Go.VL
section
variable {P : Program} {G : Nat → Option (List AV)} {own : Nat → Prop} {E : Env} {w : World} {σ : Store}
theorem View.fn {σ : Store} {f : Fn} {a c a' c' : List AV} (ha : ViewL σ a a') (hc : ViewL σ c c') : View σ (.fn f a c) (.fn f a' c') := fun G own E w v hi hr => by
  simp only [Rep] at hr ⊢
  obtain ⟨xs, ys, e, h1, h2⟩ := hr
  exact ⟨xs, ys, e, ha.repL hi h1, hc.repL hi h2⟩
theorem View.ref {σ : Store} {id : Id} {bk : Blk} {e o : Nat} {el : AV} {cs : List AV} (hσ : σ id = some bk) (he : bk.els[e]? = some el) (h : ViewL σ el.cells cs) : View σ (.ref id e o) (.ep cs o) := fun G own E w v hi hr => by
  obtain ⟨g, N, cur, ty, hB⟩ := hi.blk id bk hσ
  simp only [Rep] at hr ⊢
  obtain ⟨g', k', N', hm, rfl⟩ := hr
  rw [hB.μ] at hm
  simp only [Option.some.injEq, Prod.mk.injEq] at hm
  obtain ⟨rfl, rfl, rfl⟩ := hm
  refine ⟨g, e * bk.k, rfl, .inr ⟨id, bk, bk.k, N, hσ, hB.μ⟩, ?_⟩
  refine repCells_iff.2 (h.repAt hi ?_)
  have hlt := (List.getElem?_eq_some_iff.1 he).1
  have := repAt_sub (l := e) (r := e + 1) hB.k hB.row (by omega) (by omega)
  rw [Nat.zero_add] at this
  have e2 : (bk.els.take (e + 1)).drop e = [el] := by
    rw [List.drop_take, show e + 1 - e = 1 from by omega, List.drop_eq_getElem_cons hlt]
    obtain ⟨_, he'⟩ := List.getElem?_eq_some_iff.1 he
    simp [he']
  rw [e2] at this
  simpa [flat] using this
def ViewM (F : List (Id × Blk)) (c d : AV) : Prop := ∀ G own E w v, Inv G own E w (Store.of F) → Rep E w c v → Rep ⟨E.μ, (E.froze (Store.of F)).ok⟩ w d v
def ViewML (F : List (Id × Blk)) : List AV → List AV → Prop
  | [], [] => True
  | c :: cs, d :: ds => ViewM F c d ∧ ViewML F cs ds
  | _, _ => False
theorem ViewM.same (F : List (Id × Blk)) (c : AV) : ViewM F c c := fun _ _ E w v _ hr =>
  Rep.keep (⟨fun _ _ h => h, fun _ h => .inl h, fun _ _ => rfl⟩ : Step E ⟨E.μ, (E.froze (Store.of F)).ok⟩ w w) _ v hr
theorem ViewM.top (F : List (Id × Blk)) (c : AV) : ViewM F c .top := fun _ _ _ _ _ _ _ => by simp [Rep]
theorem ViewML.same (F : List (Id × Blk)) : ∀ cs : List AV, ViewML F cs cs
  | [] => trivial
  | c :: cs => ⟨ViewM.same F c, ViewML.same F cs⟩
theorem ViewML.repL {F : List (Id × Blk)} (hi : Inv G own E w (Store.of F)) : ∀ {cs ds : List AV} {vs : List Value}, ViewML F cs ds → RepL E w cs vs → RepL ⟨E.μ, (E.froze (Store.of F)).ok⟩ w ds vs
  | [], [], _, _, h => by simpa [RepL] using h
  | c :: cs, d :: ds, vs, hf, h => by
    simp only [ViewML] at hf
    simp only [RepL] at h ⊢
    obtain ⟨v, rest, e, h1, h2⟩ := h
    exact ⟨v, rest, e, hf.1 _ _ _ _ _ hi h1, ViewML.repL hi hf.2 h2⟩
  | [], _ :: _, _, h, _ => by simp [ViewML] at h
  | _ :: _, [], _, h, _ => by simp [ViewML] at h
theorem ViewML.get {F : List (Id × Blk)} : ∀ {cs ds : List AV}, ViewML F cs ds → ∀ (j : Nat) (d : AV), ds[j]? = some d → ∃ c, cs[j]? = some c ∧ ViewM F c d
  | [], [], _, j, d, h => by simp at h
  | c :: cs, d :: ds, hf, 0, d', h => by simp at h; subst h; exact ⟨c, rfl, hf.1⟩
  | c :: cs, d :: ds, hf, j + 1, d', h => by simpa using ViewML.get hf.2 j d' (by simpa using h)
  | [], _ :: _, h, _, _, _ => by simp [ViewML] at h
  | _ :: _, [], h, _, _, _ => by simp [ViewML] at h
theorem ViewML.len {F : List (Id × Blk)} : ∀ {cs ds : List AV}, ViewML F cs ds → cs.length = ds.length
  | [], [], _ => rfl
  | _ :: cs, _ :: ds, h => by simp [ViewML.len h.2]
  | [], _ :: _, h => by simp [ViewML] at h
  | _ :: _, [], h => by simp [ViewML] at h
theorem ViewM.agg {F : List (Id × Blk)} {cs ds : List AV} (h : ViewML F cs ds) : ViewM F (.agg cs) (.agg ds) := fun _ _ E w v hi hr => by
  simp only [Rep] at hr ⊢; obtain ⟨xs, e, hr⟩ := hr; exact ⟨xs, e, h.repL hi hr⟩
theorem ViewM.tup {F : List (Id × Blk)} {cs ds : List AV} (h : ViewML F cs ds) : ViewM F (.tup cs) (.tup ds) := fun _ _ E w v hi hr => by
  simp only [Rep] at hr ⊢; obtain ⟨xs, e, hr⟩ := hr; exact ⟨xs, e, h.repL hi hr⟩
structure BlkF (F : List (Id × Blk)) (i : Id) (bk bk' : Blk) : Prop where
  k : bk'.k = bk.k
  fr : bk'.fr = bk.fr ∨ (bk'.fr = true ∧ (i, bk) ∈ F)
  no : bk'.fr = false → ∀ x ∈ F, x.1 ≠ i
  len : bk'.els.length = bk.els.length
  sz : ∀ e ∈ bk'.els, e.size = bk.k
  els : ViewML F (flat bk.els) (flat bk'.els)
theorem freeze_core {p : Id} {σ σ' : Store} (F : List (Id × Blk)) (hF : ∀ x ∈ F, σ x.1 = some x.2) (hs : ∀ i, σ' i = none ∨ ∃ bk bk', σ i = some bk ∧ σ' i = some bk' ∧ BlkF F i bk bk') (hi : Inv G own E w σ) :
    AdvP own p E ⟨E.μ, (E.froze (Store.of F)).ok⟩ w w ∧ Inv G own ⟨E.μ, (E.froze (Store.of F)).ok⟩ w σ' := by
  have hiF : Inv G own E w (Store.of F) := hi.sub (Store.of_sub hF)
  have hadv : Adv own E ⟨E.μ, (E.froze (Store.of F)).ok⟩ w w := by
    refine ⟨⟨fun _ _ h => h, fun b hb => .inl hb, fun b hb => rfl⟩, rfl, rfl, rfl, Nat.le_refl _, fun k hk _ => rfl, fun b hb => ?_⟩
    rcases hb with h1 | ⟨id, bk, k, N, hs, hm⟩
    · exact .inl h1
    · obtain ⟨g, N', cur, ty, hB⟩ := hi.blk id bk (hF _ (lookup_mem hs))
      rw [hB.μ] at hm
      simp only [Option.some.injEq, Prod.mk.injEq] at hm
      rw [← hm.1]; exact .inr hB.own
  refine ⟨⟨hadv, fun _ _ => rfl⟩, (hi.froze hF).okb, fun id bk' hb' => ?_, fun i j x y hi' hj' hne hx hy => ?_, fun g cs hg => ?_, hi.new⟩
  · rcases hs id with h | ⟨bk, bk2, h1, h2, hR⟩
    · rw [h] at hb'; simp at hb'
    · rw [h2] at hb'
      simp only [Option.some.injEq] at hb'; subst hb'
      obtain ⟨g, N, cur, ty, hB⟩ := hi.blk id bk h1
      refine ⟨g, N, cur, ty, by rw [hR.k]; exact hB.μ, hB.heap, by rw [hR.k]; exact hB.size, by rw [hR.len]; exact hB.len, hB.most, hB.own, fun hf => ?_, fun hf hok => ?_, by rw [hR.k]; exact hR.sz, ?_⟩
      · rcases hR.fr with h | ⟨_, h⟩
        · exact .inl (hB.ok (h ▸ hf))
        · exact .inr ⟨id, bk, bk.k, N, of_of_mem hF h, hB.μ⟩
      · have hbf : bk.fr = false := by
          rcases hR.fr with h | ⟨h, _⟩
          · rw [← h]; exact hf
          · rw [hf] at h; simp at h
        rcases hok with h | ⟨id2, bk2, k2, N2, hs2, hm2⟩
        · exact hB.no hbf h
        · have hm := lookup_mem hs2
          exact hi.inj id id2 _ _ (by simp [h1]) (by simp [hF _ hm]) (fun e => hR.no hf _ hm e.symm) hB.μ hm2 rfl
      · intro j d hd
        obtain ⟨c, hc, hv⟩ := hR.els.get j d hd
        obtain ⟨v, hv1, hv2⟩ := hB.row j c hc
        exact ⟨v, hv1, hv _ _ _ _ _ hiF hv2⟩
  · have keep : ∀ i, σ' i ≠ none → σ i ≠ none := by
      intro i hn he
      rcases hs i with h | ⟨bk, bk2, h1, _⟩
      · exact hn h
      · rw [he] at h1; simp at h1
    exact hi.inj i j x y (keep i hi') (keep j hj') hne hx hy
  · obtain ⟨h1, h2⟩ := hi.glob g cs hg
    exact ⟨.inl h1, RepCells.keep hadv.step.bare rfl cs 0 h2⟩
theorem Wk.frz {π : Id} {t t' : List AV} {σ σ' : Store} {n n' : Nat} (F : List (Id × Blk)) (hF : ∀ x ∈ F, σ x.1 = some x.2) (ht : ViewML F t t')
    (hs : ∀ i, σ' i = none ∨ ∃ bk bk', σ i = some bk ∧ σ' i = some bk' ∧ BlkF F i bk bk') (hn : n ≤ n') : Wk G π ⟨t, σ, n⟩ ⟨t', σ', n'⟩ := fun own E w a hm => by
  obtain ⟨h1, h2⟩ := freeze_core (p := π) F hF hs hm.inv
  exact ⟨_, h1, ht.repL (hm.inv.sub (Store.of_sub hF)) hm.frame, h2, hm.free.mono hn, hm.defers⟩
theorem Fin.frz {p : Id} {S : List (Id × Blk)} {σ' : Store} {r0 : AV} {r : Res} (F : List (Id × Blk)) (hF : ∀ x ∈ F, σ' x.1 = some x.2) (hv : ViewM F r0 r.val)
    (hs : ∀ i, (Store.of S).app r.up i = none ∨ ∃ bk bk', σ' i = some bk ∧ (Store.of S).app r.up i = some bk' ∧ BlkF F i bk bk') : Fin G p S σ' r0 r :=
  fun own E w v hi hr _ => by
    obtain ⟨h1, h2⟩ := freeze_core (p := p) F hF hs hi
    exact ⟨_, h1, h2, hv _ _ _ _ _ (hi.sub (Store.of_sub hF)) hr⟩
end
end Go.VL
end

section
namespace Go.VL
section
variable {P : Program} {G : Nat → Option (List AV)}
theorem app_append {σ : Store} : ∀ (a b : List (Id × Option Blk)), σ.app (a ++ b) = (σ.app a).app b := by
  intro a
  induction a generalizing σ with
  | nil => intro b; rfl
  | cons x a ih => intro b; simp only [List.cons_append, Store.app]; exact ih b
end
theorem elemsOf_sl {σ : Store} {k : Nat} {es : List AV} : elemsOf σ k (.sl k es) = some (es, []) := by simp [elemsOf]
theorem elemsOf_osl {σ : Store} {k : Nat} {id : Id} {off len : Nat} {t : Bool} {bk : Blk} (h : σ id = some bk) (hk : bk.k = k) (hl : off + len ≤ bk.els.length) : elemsOf σ k (.osl id k off len t) = some ((bk.els.drop off).take len, [id]) := by
  simp [elemsOf, h, hk, hl]
theorem vappend_full {σ : Store} {p id : Id} {k bytes len : Nat} {x : AV} {els ys : List AV} {rd : List Id} (hx : elemsOf σ k x = some (ys, rd)) (hy : ys ≠ []) (h : σ id = some ⟨els, k, false⟩) (hl : len = els.length)
    (hb : (len + ys.length) * bytes ≤ 140737488355328) (hm : len + ys.length ≤ maxLen) (h1 : (ys.all fun e => e.cells.all AV.one) = true) (h2 : (els.all fun e => e.cells.all AV.one) = true) :
    vappend σ p k bytes (.osl id k 0 len false) x = some { val := .osl p k 0 (len + ys.length) false, rd := id :: rd, up := [(id, none), (p, some ⟨els ++ ys, k, false⟩)] } := by
  have hne : ys.isEmpty = false := by cases ys <;> simp at hy ⊢
  unfold vappend
  rw [hx]
  simp only [hne, h, h1, h2, hl, Bool.false_eq_true, if_false]
  rw [if_pos ⟨trivial, trivial, trivial, Nat.le_refl _, by rw [← hl]; exact hb, by rw [← hl]; exact hm, trivial⟩]
  simp
theorem vappend_nils {σ : Store} {p : Id} {k bytes : Nat} {x : AV} {ys : List AV} {rd : List Id} (hx : elemsOf σ k x = some (ys, rd)) (hy : ys ≠ []) (hb : ys.length * bytes ≤ 140737488355328) (hm : ys.length ≤ maxLen) (h1 : (ys.all fun e => e.cells.all AV.one) = true) :
    vappend σ p k bytes .nils x = some { val := .osl p k 0 ys.length false, rd, up := [(p, some ⟨ys, k, false⟩)] } := by
  have hne : ys.isEmpty = false := by cases ys <;> simp at hy ⊢
  unfold vappend
  rw [hx]
  simp only [hne, h1, Bool.false_eq_true, if_false]
  rw [if_pos ⟨hb, hm, trivial⟩]
theorem vappend_none {σ : Store} {p id : Id} {k bytes off len : Nat} {t : Bool} {x : AV} {rd : List Id} (hx : elemsOf σ k x = some ([], rd)) : vappend σ p k bytes (.osl id k off len t) x = some { val := .osl id k off len t, rd } := by
  unfold vappend; rw [hx]; rfl
theorem le_maxLen {n : Nat} (h : n ≤ 140737488355328) : n ≤ maxLen := Nat.le_trans h (by decide)
theorem bs0 {σ : Store} {p : Id} {k : Nat} {z : AV} (hz : z.size = k) (hz1 : z.cells.all AV.one = true) : vop σ p (.buildSl k 0 z []) = some { val := .osl p k 0 0 false, up := [(p, some ⟨[], k, false⟩)] } := by
  rw [vop_buildSl]; simp only [vfillEls, List.replicate_zero]; rw [if_pos ⟨hz, hz1⟩]
theorem bs1 {σ : Store} {p : Id} {k : Nat} {z x : AV} (hx : x.size = k) (hx1 : x.cells.all AV.one = true) (hz : z.size = k) (hz1 : z.cells.all AV.one = true) :
    vop σ p (.buildSl k 1 z [(0, x)]) = some { val := .osl p k 0 1 false, up := [(p, some ⟨[x], k, false⟩)] } := by
  rw [vop_buildSl]
  have e : vfillEls k (List.replicate 1 z) [(0, x)] = some [x] := by simp only [vfillEls, List.replicate_succ, List.replicate_zero]; rw [if_pos ⟨hx, by simp, hx1⟩]; rfl
  rw [e]; simp only []; rw [if_pos ⟨hz, hz1⟩]
theorem bs2 {σ : Store} {p : Id} {k : Nat} {z x y : AV} (hx : x.size = k) (hx1 : x.cells.all AV.one = true) (hy : y.size = k) (hy1 : y.cells.all AV.one = true) (hz : z.size = k) (hz1 : z.cells.all AV.one = true) :
    vop σ p (.buildSl k 2 z [(0, x), (1, y)]) = some { val := .osl p k 0 2 false, up := [(p, some ⟨[x, y], k, false⟩)] } := by
  rw [vop_buildSl]
  have e : vfillEls k (List.replicate 2 z) [(0, x), (1, y)] = some [x, y] := by
    simp only [vfillEls, List.replicate_succ, List.replicate_zero]
    rw [if_pos ⟨hx, by simp, hx1⟩, if_pos ⟨hy, by simp, hy1⟩]; rfl
  rw [e]; simp only []; rw [if_pos ⟨hz, hz1⟩]
section
variable {P : Program} {G : Nat → Option (List AV)}
theorem endQ_ret {p : Id} {S : List (Id × Blk)} {rs : List VRes} {r : Res} {s : VS} : EndQ G p S rs r .ret s = ∃ r0, outAV rs s = some r0 ∧ Fin G p S s.σ r0 r := by simp [EndQ]
theorem endQ_normal {p : Id} {S : List (Id × Blk)} {rs : List VRes} {r : Res} {s : VS} : EndQ G p S rs r .normal s = ∃ r0, outAV rs s = some r0 ∧ Fin G p S s.σ r0 r := by simp [EndQ]
theorem endQ_of_same {p : Id} {S : List (Id × Blk)} {rs : List VRes} {r : Res} {s : VS} (h : outAV rs s = some r.val) (hs : ∀ i, (Store.of S).app r.up i = none ∨ (Store.of S).app r.up i = s.σ i) : ∃ r0, outAV rs s = some r0 ∧ Fin G p S s.σ r0 r := ⟨_, h, Fin.same rfl hs⟩
end
theorem load_put {σ : Store} {id : Id} {x : AV} {k : Nat} {b agg : Bool} {n o : Nat} : vload (σ.put id (some ⟨[x], k, b⟩)) agg n (.ref id 0 o) = (part agg x.cells o n).map fun v => { val := v, rd := [id] } :=
  vload_ref (Store.put_same _ _ _) rfl
theorem load_skip {σ : Store} {id id' : Id} {b : Option Blk} {agg : Bool} {n e o : Nat} (h : id' ≠ id) : vload (σ.put id b) agg n (.ref id' e o) = vload σ agg n (.ref id' e o) := by
  unfold vload; simp only [Store.put_other _ _ _ h]
theorem vstore_at {σ : Store} {id : Id} {els : List AV} {k n e o : Nat} {el v : AV} (h : σ id = some ⟨els, k, false⟩) (he : els[e]? = some el) (hn : v.cells.length = n) (ho : o + n ≤ el.size) (h1 : v.cells.all AV.one = true) :
    vstore σ n (.ref id e o) v = some { val := .tup [], rd := [id], up := [(id, some ⟨els.set e (el.upd o v.cells), k, false⟩)] } := by
  simp only [vstore, h, he]
  rw [if_pos ⟨trivial, hn, ho, h1⟩]
section
variable {P : Program} {G : Nat → Option (List AV)} {π : Id} {Q : VExit → VS → Prop} {s : VS}
end
end Go.VL
end

section
set_option linter.unusedSimpArgs false
namespace Go.VL
def isLetterB (c : UInt8) : Bool := (decide ((97 : Int) ≤ c.toNat) && decide ((c.toNat : Int) ≤ 122)) || (decide ((65 : Int) ≤ c.toNat) && decide ((c.toNat : Int) ≤ 90))
def isDigitB (c : UInt8) : Bool := decide ((48 : Int) ≤ c.toNat) && decide ((c.toNat : Int) ≤ 57)
def isWordB (c : UInt8) : Bool := isLetterB c || isDigitB c || decide ((c.toNat : Int) = 95)
def byteAV (c : UInt8) : AV := .int .u8 c.toNat
theorem byteAV_pure (c : UInt8) : PureAV (byteAV c) := PureAV.int _ _
section
variable {P : Program} {G : Nat → Option (List AV)}
theorem isLetter_ok {f : FuncId} (h : Has P f w_lexer_isLetter) (c : UInt8) : VP P G f [byteAV c] (.bool (isLetterB c)) := by
  refine VP.has h ?_
  unfold isLetterB
  by_cases h1 : (97 : Int) ≤ c.toNat <;> by_cases h2 : (c.toNat : Int) ≤ 122 <;> by_cases h3 : (65 : Int) ≤ c.toNat <;> by_cases h4 : (c.toNat : Int) ≤ 90 <;>
    (simp only [w_lexer_isLetter, byteAV, SS, Nat.reduceAdd, Nat.reduceSub, Nat.reduceMul, Nat.reduceEqDiff, reduceIte, h1, h2, h3, h4, decide_true, decide_false, Bool.and_self, Bool.and_true, Bool.and_false, Bool.or_false, Bool.or_true, Bool.or_self, Bool.false_and, Bool.true_and]
     exact retQ_ret ▸ retQ_of_pure rfl (PureAV.bool _))
theorem isDigit_ok {f : FuncId} (h : Has P f w_lexer_isDigit) (c : UInt8) : VP P G f [byteAV c] (.bool (isDigitB c)) := by
  refine VP.has h ?_
  unfold isDigitB
  by_cases h1 : (48 : Int) ≤ c.toNat <;> by_cases h2 : (c.toNat : Int) ≤ 57 <;>
    (simp only [w_lexer_isDigit, byteAV, SS, Nat.reduceAdd, Nat.reduceSub, Nat.reduceMul, Nat.reduceEqDiff, reduceIte, h1, h2, decide_true, decide_false, Bool.and_self, Bool.and_true, Bool.and_false, Bool.or_false, Bool.or_true, Bool.or_self, Bool.false_and, Bool.true_and]
     exact retQ_ret ▸ retQ_of_pure rfl (PureAV.bool _))
theorem isWord_ok {f fl fd : FuncId} (h : Has P f (w_lexer_isWord fl fd)) (hl : ∀ c, VP P G fl [byteAV c] (.bool (isLetterB c))) (hd : ∀ c, VP P G fd [byteAV c] (.bool (isDigitB c))) (c : UInt8) :
    VP P G f [byteAV c] (.bool (isWordB c)) := by
  refine VP.has h ?_
  simp only [w_lexer_isWord, SS, Nat.reduceAdd, Nat.reduceSub, Nat.reduceMul, Nat.reduceEqDiff, reduceIte]
  refine vsCall_VP (hl c) (by simp [byteAV_pure]) ?_
  unfold isWordB
  cases h1 : isLetterB c
  · simp only [SS, Nat.reduceAdd, Nat.reduceSub, Nat.reduceMul, Nat.reduceEqDiff, reduceIte]
    refine vsCall_VP (hd c) (by simp [byteAV_pure]) ?_
    cases h2 : isDigitB c
    · by_cases h3 : (c.toNat : Int) = 95 <;>
      (simp only [SS, Nat.reduceAdd, Nat.reduceSub, Nat.reduceMul, Nat.reduceEqDiff, reduceIte, byteAV, h3, decide_true, decide_false, Bool.or_false, Bool.or_true, Bool.or_self]
       exact retQ_ret ▸ retQ_of_pure rfl (PureAV.bool _))
    · simp only [SS, Nat.reduceAdd, Nat.reduceSub, Nat.reduceMul, Nat.reduceEqDiff, reduceIte, Bool.or_true, Bool.true_or]
      exact retQ_ret ▸ retQ_of_pure rfl (PureAV.bool _)
  · simp only [SS, Nat.reduceAdd, Nat.reduceSub, Nat.reduceMul, Nat.reduceEqDiff, reduceIte, Bool.true_or]
    exact retQ_ret ▸ retQ_of_pure rfl (PureAV.bool _)
def spanN (p : UInt8 → Bool) (s : List UInt8) : Nat := (s.takeWhile p).length
theorem spanN_le (p : UInt8 → Bool) : ∀ s : List UInt8, spanN p s ≤ s.length
  | [] => Nat.le_refl _
  | c :: s => by unfold spanN; simp only [List.takeWhile_cons]; split <;> simp; exact spanN_le p s
theorem spanN_at (p : UInt8 → Bool) : ∀ (s : List UInt8) (k : Nat), k < spanN p s → ∃ c, s[k]? = some c ∧ p c = true
  | [], k, h => by simp [spanN] at h
  | c :: s, k, h => by
    unfold spanN at h; simp only [List.takeWhile_cons] at h
    split at h
    · rename_i hc
      cases k with
      | zero => exact ⟨c, rfl, hc⟩
      | succ k => simpa using spanN_at p s k (by simpa [spanN] using h)
    · simp at h
theorem spanN_stop (p : UInt8 → Bool) : ∀ (s : List UInt8), s[spanN p s]? = none ∨ ∃ c, s[spanN p s]? = some c ∧ p c = false
  | [] => .inl rfl
  | c :: s => by
    unfold spanN; simp only [List.takeWhile_cons]
    split
    · simpa [spanN] using spanN_stop p s
    · rename_i hc; exact .inr ⟨c, rfl, by simpa using hc⟩
theorem indexS_at {s : List UInt8} {k : Nat} {c : UInt8} (h : s[k]? = some c) : (if (0 : Int) ≤ (k : Int) then noIds ((s[(k : Int).toNat]?).map fun b => AV.int .u8 b.toNat) else none) = noIds (some (byteAV c)) := by
  rw [if_pos (by omega), Int.toNat_natCast, h]; rfl
theorem wrap_succ_i64 (k : Nat) (h : k < 9223372036854775807) : IntKind.i64.wrap ((k : Int) + 1) = ((k + 1 : Nat) : Int) := by rw [IntKind.wrap_i64]; omega
theorem span_ok {f fw : FuncId} (h : Has P f w_lexer_span) {p : UInt8 → Bool} (hw : ∀ c, VP P G fw [byteAV c] (.bool (p c))) (s : List UInt8) (hs : s.length < 9223372036854775807) :
    VP P G f [.str s, .fn (.func fw) [] []] (.int .i64 (spanN p s)) := by
  refine VP.has h ?_
  simp only [w_lexer_span, SS, Nat.reduceAdd, Nat.reduceSub, Nat.reduceMul, Nat.reduceEqDiff, reduceIte, vwp_loop]
  refine VW.loopQ (α := Nat × Nat) (fun x => ⟨[.str s, .fn (.func fw) [] [], .top, .top, .top, .int .i64 x.1] ++ List.replicate 14 .top, fun _ => none, x.2⟩) (fun x => x.1 ≤ spanN p s) (fun x => spanN p s - x.1) (0, 2) ?_ (Nat.zero_le _) ?_
  · exact Wk.slots (by simp [Fg, List.replicate]) (Nat.le_refl _)
  rintro ⟨k, n⟩ hk
  simp only [] at hk
  have hkl := spanN_le p s
  simp only [SS, Nat.reduceAdd, Nat.reduceSub, Nat.reduceMul, Nat.reduceEqDiff, reduceIte]
  by_cases hlt : k < spanN p s
  · obtain ⟨c, hc, hpc⟩ := spanN_at p s k hlt
    have h1 : (k : Int) < (s.length : Int) := by omega
    simp only [SS, Nat.reduceAdd, Nat.reduceSub, Nat.reduceMul, Nat.reduceEqDiff, reduceIte, h1, decide_true, indexS_at hc]
    refine vsCall_VP (hw c) (by simp [byteAV_pure]) ?_
    rw [hpc]
    simp only [SS, Nat.reduceAdd, Nat.reduceSub, Nat.reduceMul, Nat.reduceEqDiff, reduceIte, wrap_succ_i64 k (by omega)]
    exact ⟨(k + 1, _), by simp only []; omega, by simp only []; omega, Wk.slots (by simp [Fg, List.replicate]) (Nat.le_refl _)⟩
  · have hke : k = spanN p s := by omega
    rcases spanN_stop p s with h0 | ⟨c, hc, hpc⟩
    · have h1 : ¬ (k : Int) < (s.length : Int) := by have := List.getElem?_eq_none_iff.1 h0; omega
      simp only [SS, Nat.reduceAdd, Nat.reduceSub, Nat.reduceMul, Nat.reduceEqDiff, reduceIte, h1, decide_false]
      rw [hke]
      exact retQ_ret ▸ retQ_of_pure rfl (PureAV.int _ _)
    · have h1 : (k : Int) < (s.length : Int) := by have := (List.getElem?_eq_some_iff.1 hc).1; omega
      rw [← hke] at hc
      simp only [SS, Nat.reduceAdd, Nat.reduceSub, Nat.reduceMul, Nat.reduceEqDiff, reduceIte, h1, decide_true, indexS_at hc]
      refine vsCall_VP (hw c) (by simp [byteAV_pure]) ?_
      rw [hpc]
      simp only [SS, Nat.reduceAdd, Nat.reduceSub, Nat.reduceMul, Nat.reduceEqDiff, reduceIte]
      rw [hke]
      exact retQ_ret ▸ retQ_of_pure rfl (PureAV.int _ _)
def isNameB (s : List UInt8) : Bool := match s with
  | [] => false
  | c :: _ => decide (s.length ≤ 24) && isLetterB c && decide (spanN isWordB s = s.length)
theorem isName_ok {f fl fs fw : FuncId} (h : Has P f (w_lexer_IsName fl fs fw)) (hl : ∀ c, VP P G fl [byteAV c] (.bool (isLetterB c)))
    (hs : ∀ s : List UInt8, s.length < 9223372036854775807 → VP P G fs [.str s, .fn (.func fw) [] []] (.int .i64 (spanN isWordB s))) (s : List UInt8) : VP P G f [.str s] (.bool (isNameB s)) := by
  refine VP.has h ?_
  cases s with
  | nil =>
    simp only [w_lexer_IsName, SS, Nat.reduceAdd, Nat.reduceSub, Nat.reduceMul, Nat.reduceEqDiff, reduceIte, Bool.not_eq_eq_eq_not]
    exact retQ_ret ▸ retQ_of_pure rfl (PureAV.bool _)
  | cons c s =>
    have e0 : (!((c :: s) == ([] : List UInt8))) = true := rfl
    by_cases h1 : (((s.length + 1 : Nat)) : Int) ≤ 24
    · have e1 : (if (0 : Int) ≤ 0 then noIds (Option.map (fun b => AV.int IntKind.u8 ↑b.toNat) (c :: s)[Int.toNat 0]?) else none) = noIds (some (byteAV c)) := rfl
      simp only [w_lexer_IsName, SS, Nat.reduceAdd, Nat.reduceSub, Nat.reduceMul, Nat.reduceEqDiff, reduceIte, e0, h1, decide_true, e1]
      refine vsCall_VP (hl c) (by simp [byteAV_pure]) ?_
      cases h2 : isLetterB c
      · simp only [SS, Nat.reduceAdd, Nat.reduceSub, Nat.reduceMul, Nat.reduceEqDiff, reduceIte]
        have : isNameB (c :: s) = false := by unfold isNameB; simp [h2]
        rw [this]
        exact retQ_ret ▸ retQ_of_pure rfl (PureAV.bool _)
      · simp only [SS, Nat.reduceAdd, Nat.reduceSub, Nat.reduceMul, Nat.reduceEqDiff, reduceIte]
        refine vsCall_VP (hs (c :: s) (by simp only [List.length_cons]; omega)) (by simp; exact ⟨PureAV.str _, PureAV.fn (by simp) (by simp)⟩) ?_
        by_cases h3 : spanN isWordB (c :: s) = (s.length + 1)
        · have h4 : (spanN isWordB (c :: s) : Int) = ((s.length + 1 : Nat) : Int) := by omega
          simp only [SS, Nat.reduceAdd, Nat.reduceSub, Nat.reduceMul, Nat.reduceEqDiff, reduceIte, h4, decide_true]
          have : isNameB (c :: s) = true := by unfold isNameB; simp [h2, h3]; omega
          rw [this]
          exact retQ_ret ▸ retQ_of_pure rfl (PureAV.bool _)
        · have h4 : ¬ (spanN isWordB (c :: s) : Int) = ((s.length + 1 : Nat) : Int) := by omega
          simp only [SS, Nat.reduceAdd, Nat.reduceSub, Nat.reduceMul, Nat.reduceEqDiff, reduceIte, h4, decide_false]
          have : isNameB (c :: s) = false := by unfold isNameB; simp [h3]
          rw [this]
          exact retQ_ret ▸ retQ_of_pure rfl (PureAV.bool _)
    · simp only [w_lexer_IsName, SS, Nat.reduceAdd, Nat.reduceSub, Nat.reduceMul, Nat.reduceEqDiff, reduceIte, e0, h1, decide_false]
      have : isNameB (c :: s) = false := by unfold isNameB; simp only [List.length_cons]; simp; intro h; omega
      rw [this]
      exact retQ_ret ▸ retQ_of_pure rfl (PureAV.bool _)
end
end Go.VL
end

section
set_option linter.unusedSimpArgs false
namespace Go.VL
theorem iaddrS_sl {k kk : Nat} {es : List AV} {e : AV} {ik : IntKind} {i : Nat} (hk : kk = k) (h : es[i]? = some e) : viaddrS k (.sl kk es) (.int ik (i : Int)) = some (.ep e.cells 0) := by
  subst hk
  simp [viaddrS, h]
def idxI : Option Nat → Int
  | some i => i
  | none => -1
theorem findIdx_none {α : Type} {p : α → Bool} {l : List α} (h : ∀ (j : Nat) x, l[j]? = some x → p x = false) : l.findIdx? p = none := by
  rw [List.findIdx?_eq_none_iff]
  intro x hx
  obtain ⟨j, hj⟩ := List.getElem?_of_mem hx
  exact h j x hj
theorem findIdx_some {α : Type} {p : α → Bool} {l : List α} {i : Nat} {x : α} (hi : l[i]? = some x) (hx : p x = true) (h : ∀ (j : Nat) x, j < i → l[j]? = some x → p x = false) : l.findIdx? p = some i := by
  rw [List.findIdx?_eq_some_iff_getElem]
  obtain ⟨hlt, he⟩ := List.getElem?_eq_some_iff.1 hi
  refine ⟨hlt, by rw [he]; exact hx, fun j hji => ?_⟩
  have := h j _ hji (List.getElem?_eq_getElem (by omega))
  simp [this]
section
variable {P : Program} {G : Nat → Option (List AV)}
end
end Go.VL
end

section
namespace Go.VL
def B32 : Nat := 4294967296
theorem B32_gt : 1 < B32 := by decide
theorem B32_pos : 0 < B32 := by decide
def val : List Nat → Nat
  | [] => 0
  | w :: r => w + B32 * val r
def Wd (ws : List Nat) : Prop := ∀ w ∈ ws, w < B32
def digits (n : Nat) : List Nat := if _h : n = 0 then [] else n % B32 :: digits (n / B32)
termination_by n
decreasing_by exact Nat.div_lt_self (Nat.pos_of_ne_zero _h) B32_gt
theorem digits_zero : digits 0 = [] := by rw [digits]; simp
theorem digits_pos {n : Nat} (h : n ≠ 0) : digits n = n % B32 :: digits (n / B32) := by rw [digits]; simp [h]
theorem val_digits (n : Nat) : val (digits n) = n := by
  induction n using Nat.strongRecOn with
  | _ n ih =>
    by_cases h : n = 0
    · subst h; rw [digits_zero]; rfl
    · rw [digits_pos h, val, ih _ (Nat.div_lt_self (Nat.pos_of_ne_zero h) B32_gt)]
      exact Nat.mod_add_div n B32
theorem digits_wd (n : Nat) : Wd (digits n) := by
  induction n using Nat.strongRecOn with
  | _ n ih =>
    by_cases h : n = 0
    · subst h; rw [digits_zero]; intro w hw; simp at hw
    · rw [digits_pos h]
      intro w hw
      rcases List.mem_cons.1 hw with rfl | hw
      · exact Nat.mod_lt _ (by decide)
      · exact ih _ (Nat.div_lt_self (Nat.pos_of_ne_zero h) B32_gt) w hw
theorem digits_eq_nil {n : Nat} : digits n = [] ↔ n = 0 := by
  constructor
  · intro h
    have := val_digits n
    rw [h] at this
    exact this.symm
  · rintro rfl; exact digits_zero
theorem val_append (a b : List Nat) : val (a ++ b) = val a + B32 ^ a.length * val b := by
  induction a with
  | nil => simp [val]
  | cons x a ih =>
    simp only [List.cons_append, val, ih, List.length_cons, Nat.pow_succ]
    rw [Nat.mul_add, ← Nat.add_assoc]
    congr 1
    rw [← Nat.mul_assoc, Nat.mul_comm (B32 ^ a.length) B32]
theorem val_lt {ws : List Nat} (h : Wd ws) : val ws < B32 ^ ws.length := by
  induction ws with
  | nil => simp [val]
  | cons w ws ih =>
    have h1 := ih (fun x hx => h x (List.mem_cons_of_mem _ hx))
    have h2 := h w (by simp)
    simp only [val, List.length_cons, Nat.pow_succ]
    have h3 : B32 * (val ws + 1) ≤ B32 * B32 ^ ws.length := Nat.mul_le_mul_left _ h1
    rw [Nat.mul_comm (B32 ^ ws.length) B32]
    rw [Nat.mul_add] at h3
    omega
theorem val_zeros {ws : List Nat} (h : ∀ w ∈ ws, w = 0) : val ws = 0 := by
  induction ws with
  | nil => rfl
  | cons w ws ih => simp only [val]; rw [ih (fun x hx => h x (List.mem_cons_of_mem _ hx)), h w (by simp)]; rfl
theorem digits_val {ws : List Nat} (h : Wd ws) (h0 : ws = [] ∨ ∃ w, ws.getLast? = some w ∧ w ≠ 0) : digits (val ws) = ws := by
  induction ws with
  | nil => simp [val, digits_zero]
  | cons w ws ih =>
    have hw := h w (by simp)
    have hws : Wd ws := fun x hx => h x (List.mem_cons_of_mem _ hx)
    cases ws with
    | nil =>
      rcases h0 with h0 | ⟨x, hx, hne⟩
      · simp at h0
      · simp at hx; subst hx
        simp only [val, Nat.mul_zero, Nat.add_zero]
        rw [digits_pos hne, Nat.mod_eq_of_lt hw, Nat.div_eq_of_lt hw, digits_zero]
    | cons y ws =>
      have hl : ∃ x, (y :: ws).getLast? = some x ∧ x ≠ 0 := by
        rcases h0 with h0 | ⟨x, hx, hne⟩
        · simp at h0
        · exact ⟨x, by simpa [List.getLast?_cons_cons] using hx, hne⟩
      have hih := ih hws (.inr hl)
      have hv : val (y :: ws) ≠ 0 := by
        intro e
        have : digits (val (y :: ws)) = [] := by rw [e, digits_zero]
        rw [hih] at this; simp at this
      have hne : val (w :: y :: ws) ≠ 0 := by
        simp only [val] at hv ⊢
        have : 0 < B32 * (y + B32 * val ws) := Nat.mul_pos (by decide) (Nat.pos_of_ne_zero hv)
        omega
      rw [digits_pos hne]
      have e1 : val (w :: y :: ws) % B32 = w := by
        show (w + B32 * val (y :: ws)) % B32 = w
        rw [Nat.add_mul_mod_self_left]; exact Nat.mod_eq_of_lt hw
      have e2 : val (w :: y :: ws) / B32 = val (y :: ws) := by
        show (w + B32 * val (y :: ws)) / B32 = _
        rw [Nat.add_mul_div_left _ _ (by decide), Nat.div_eq_of_lt hw, Nat.zero_add]
      rw [e1, e2, hih]
theorem digits_last {n : Nat} : digits n = [] ∨ ∃ w, (digits n).getLast? = some w ∧ w ≠ 0 := by
  induction n using Nat.strongRecOn with
  | _ n ih =>
    by_cases h : n = 0
    · left; subst h; exact digits_zero
    · right
      rw [digits_pos h]
      rcases ih _ (Nat.div_lt_self (Nat.pos_of_ne_zero h) B32_gt) with h1 | ⟨w, h1, h2⟩
      · have hd := digits_eq_nil.1 h1
        rw [h1]
        refine ⟨n % B32, rfl, ?_⟩
        rw [Nat.mod_eq_of_lt]
        · exact h
        · rcases Nat.div_eq_zero_iff.1 hd with h3 | h3
          · exact absurd h3 (by decide)
          · exact h3
      · cases hd : digits (n / B32) with
        | nil => rw [hd] at h1; simp at h1
        | cons x xs => rw [hd] at h1; exact ⟨w, by simpa [List.getLast?_cons_cons] using h1, h2⟩
theorem val_snoc_zero (ws : List Nat) : val (ws ++ [0]) = val ws := by rw [val_append]; simp [val]
theorem wd_take {ws : List Nat} (h : Wd ws) (k : Nat) : Wd (ws.take k) := fun w hw => h w (List.mem_of_mem_take hw)
theorem wd_append {a b : List Nat} (ha : Wd a) (hb : Wd b) : Wd (a ++ b) := fun w hw => (List.mem_append.1 hw).elim (ha w) (hb w)
def wlen (n : Nat) : Nat := (digits n).length
theorem lt_pow_wlen (n : Nat) : n < B32 ^ wlen n := by have := val_lt (digits_wd n); rwa [val_digits] at this
theorem wlen_le {n k : Nat} (h : n < B32 ^ k) : wlen n ≤ k := by
  induction k generalizing n with
  | zero => simp at h; subst h; simp [wlen, digits_zero]
  | succ k ih =>
    by_cases h0 : n = 0
    · subst h0; simp [wlen, digits_zero]
    · unfold wlen
      rw [digits_pos h0]
      have : n / B32 < B32 ^ k := by rw [Nat.pow_succ] at h; exact Nat.div_lt_of_lt_mul (by rwa [Nat.mul_comm])
      have := ih this
      simp only [List.length_cons]
      unfold wlen at this
      omega
theorem wlen_mono {m n : Nat} (h : m ≤ n) : wlen m ≤ wlen n := wlen_le (Nat.lt_of_le_of_lt h (lt_pow_wlen n))
theorem pow_wlen_le {n : Nat} (h : n ≠ 0) : B32 ^ (wlen n - 1) ≤ n := by
  rcases Nat.lt_or_ge n (B32 ^ (wlen n - 1)) with h1 | h1
  · have := wlen_le h1
    have h2 : 0 < wlen n := by
      unfold wlen
      cases hd : digits n with
      | nil => exact absurd (digits_eq_nil.1 hd) h
      | cons _ _ => simp
    omega
  · exact h1
theorem wlen_mul (m n : Nat) : wlen (m * n) ≤ wlen m + wlen n := by
  refine wlen_le ?_
  rw [Nat.pow_add]
  exact Nat.mul_lt_mul'' (lt_pow_wlen m) (lt_pow_wlen n)
end Go.VL
end

section
set_option linter.unusedSimpArgs false
namespace Go.VL
def us (ws : List Nat) : List AV := ws.map fun w : Nat => .int .u32 (w : Int)
def W (n : Nat) : AV := .sl 1 (us (digits n))
theorem us_len (ws : List Nat) : (us ws).length = ws.length := by simp [us]
theorem us_get {ws : List Nat} {i w : Nat} (h : ws[i]? = some w) : (us ws)[i]? = some (.int .u32 (w : Int)) := by simp [us, h]
theorem us_take (ws : List Nat) (k : Nat) : (us ws).take k = us (ws.take k) := by simp [us, List.map_take]
theorem us_append (a b : List Nat) : us (a ++ b) = us a ++ us b := by simp [us]
theorem us_flat (ws : List Nat) : flat (us ws) = us ws := by
  induction ws with
  | nil => rfl
  | cons w ws ih => simp only [us, List.map_cons, flat, List.flatMap_cons, AV.cells] at ih ⊢; rw [ih]; rfl
theorem us_pure (ws : List Nat) : PureAV (.sl 1 (us ws)) := PureAV.sl (by rw [us_flat]; intro c hc; simp only [us, List.mem_map] at hc; obtain ⟨w, _, rfl⟩ := hc; exact PureAV.int _ _)
theorem us_pures (ws : List Nat) : ∀ c ∈ flat (us ws), PureAV c := by rw [us_flat]; intro c hc; simp only [us, List.mem_map] at hc; obtain ⟨w, _, rfl⟩ := hc; exact PureAV.int _ _
theorem us_size (ws : List Nat) : ∀ e ∈ us ws, e.size = 1 := by intro e he; simp only [us, List.mem_map] at he; obtain ⟨w, _, rfl⟩ := he; rfl
theorem us_one (ws : List Nat) : ((us ws).all fun e => e.cells.all AV.one) = true := by rw [List.all_eq_true]; intro e he; simp only [us, List.mem_map] at he; obtain ⟨w, _, rfl⟩ := he; rfl
theorem W_pure (n : Nat) : PureAV (W n) := us_pure _
theorem part_int {k : IntKind} {n : Int} : part false (AV.int k n).cells 0 1 = some (.int k n) := rfl
theorem wrap_pred_i64 (k : Nat) (h : 0 < k) (h2 : k ≤ 9223372036854775807) : IntKind.i64.wrap ((k : Int) - 1) = ((k - 1 : Nat) : Int) := by rw [IntKind.wrap_i64]; omega
theorem dec_true {p : Prop} [Decidable p] (h : p) : decide p = true := decide_eq_true h
theorem dec_false {p : Prop} [Decidable p] (h : ¬ p) : decide p = false := decide_eq_false h
theorem slice_to {k kk : Nat} {es : List AV} {h : Nat} (hk : kk = k) (hh : h ≤ es.length) : vslice k (.sl kk es) none (some (.int .i64 (h : Int))) none = some (.sl k (es.take h)) := by
  subst hk
  simp [vslice, vbounds, vbound, hh]
section
variable {P : Program} {G : Nat → Option (List AV)}
theorem trim_ok {f : FuncId} (h : Has P f w_integer_trim) {ws : List Nat} (hw : Wd ws) (hl : ws.length ≤ 9223372036854775807) : VP P G f [.sl 1 (us ws)] (W (val ws)) := by
  refine VP.has h ?_
  simp only [w_integer_trim, SS, Nat.reduceAdd, Nat.reduceSub, Nat.reduceMul, Nat.reduceEqDiff, reduceIte, vwp_loop]
  refine VW.loopQ (α := Nat × Nat) (fun x => ⟨[.sl 1 (us (ws.take x.1))] ++ List.replicate 20 .top, fun _ => none, x.2⟩) (fun x => x.1 ≤ ws.length ∧ val (ws.take x.1) = val ws) (fun x => x.1) (ws.length, 1) ?_ ⟨Nat.le_refl _, by rw [List.take_length]⟩ ?_
  · exact Wk.slots (by simp [Fg, List.replicate]) (Nat.le_refl _)
  rintro ⟨k, n⟩ ⟨hk, hv⟩
  simp only [] at hk hv
  have hlk : (us (ws.take k)).length = k := by rw [us_len, List.length_take]; omega
  simp only [SS, Nat.reduceAdd, Nat.reduceSub, Nat.reduceMul, Nat.reduceEqDiff, reduceIte, hlk]
  by_cases h0 : k = 0
  · subst h0
    have d0 : decide ((0 : Int) < ((0 : Nat) : Int)) = false := by decide
    simp only [SS, Nat.reduceAdd, Nat.reduceSub, Nat.reduceMul, Nat.reduceEqDiff, reduceIte, d0]
    refine retQ_ret ▸ retQ_of_pure (r := W (val ws)) ?_ (W_pure _)
    have : digits (val ws) = [] := by rw [← hv]; simp [val, digits_zero]
    simp [outAV, resAV, W, us, this]
  · have hpos : 0 < k := Nat.pos_of_ne_zero h0
    have d0 : decide ((0 : Int) < (k : Int)) = true := dec_true (by omega)
    have hw1 := wrap_pred_i64 k hpos (by omega)
    obtain ⟨w, hwk⟩ : ∃ w, ws[k - 1]? = some w := ⟨ws[k - 1], by rw [List.getElem?_eq_getElem]⟩
    have hwk' : (ws.take k)[k - 1]? = some w := by rw [List.getElem?_take_of_lt (by omega)]; exact hwk
    have htk : ws.take k = ws.take (k - 1) ++ [w] := by
      have := List.take_add_one (l := ws) (i := k - 1)
      rw [hwk, show k - 1 + 1 = k from by omega] at this
      simpa using this
    have hkl : k - 1 ≤ (us (ws.take k)).length := by rw [hlk]; omega
    by_cases hz : w = 0
    · have d1 : decide ((w : Int) = 0) = true := dec_true (by omega)
      simp only [SS, Nat.reduceAdd, Nat.reduceSub, Nat.reduceMul, Nat.reduceEqDiff, reduceIte, d0, hw1, iaddrS_sl rfl (us_get hwk'), vload_ep, part_int, d1, hlk, slice_to rfl hkl]
      have hm : min (k - 1) k = k - 1 := Nat.min_eq_left (Nat.sub_le _ _)
      refine ⟨(k - 1, _), ⟨by simp only []; omega, ?_⟩, by simp only []; omega, Wk.slots (by simp [Fg, List.replicate, us_take, List.take_take, hm]) (Nat.le_refl _)⟩
      simp only []
      rw [← hv, htk, hz, val_snoc_zero]
    · have d1 : decide ((w : Int) = 0) = false := dec_false (by omega)
      simp only [SS, Nat.reduceAdd, Nat.reduceSub, Nat.reduceMul, Nat.reduceEqDiff, reduceIte, d0, hw1, iaddrS_sl rfl (us_get hwk'), vload_ep, part_int, d1, hlk]
      refine retQ_ret ▸ retQ_of_pure (r := W (val ws)) ?_ (W_pure _)
      have e : digits (val ws) = ws.take k := by
        rw [← hv]
        exact digits_val (wd_take hw k) (.inr ⟨w, by rw [htk]; simp, hz⟩)
      simp [outAV, resAV, W, e]
end
end Go.VL
end

section
set_option linter.unusedSimpArgs false
namespace Go.VL
def cmpI (a b : Int) : Int := if a < b then -1 else if b < a then 1 else 0
def cmpN (m n : Nat) : Int := cmpI m n
def IV (z : Int) : AV := .agg [.bool (decide (z < 0)), W z.natAbs]
def sgn (neg : Bool) (n : Nat) : Int := if neg then -(n : Int) else n
theorem IV_pure (z : Int) : PureAV (IV z) := PureAV.agg (by intro c hc; simp at hc; rcases hc with rfl | rfl; exact PureAV.bool _; exact W_pure _)
theorem IV_one (z : Int) : ((IV z).cells.all AV.one = true) = True := by simp [IV, AV.cells, AV.one, W]
theorem IV_p0 (z : Int) : part false (IV z).cells 0 1 = some (.bool (decide (z < 0))) := rfl
theorem IV_p1 (z : Int) : part false (IV z).cells 1 1 = some (W z.natAbs) := rfl
theorem IV_all (z : Int) : part true (IV z).cells 0 2 = some (IV z) := rfl
theorem view_us {id : Id} {ws : List Nat} {b t : Bool} {n : Nat} (hn : n = ws.length) : View (Store.of [(id, ⟨us ws, 1, b⟩)]) (.osl id 1 0 n t) (.sl 1 (us ws)) := by
  subst hn
  refine View.osl (bk := ⟨us ws, 1, b⟩) (by simp [Store.of]) rfl (by rw [us_len]; omega) ?_ (by rw [us_len]) (us_size ws)
  rw [List.drop_zero, List.take_of_length_le (by rw [us_len]; exact Nat.le_refl _)]
  exact ViewL.pure (us_pures ws)
theorem val_cmp {a b : List Nat} (ha : Wd a) (_hb : Wd b) (hl : a.length = b.length) {i x y : Nat} (hx : a[i]? = some x) (hy : b[i]? = some y) (hd : a.drop (i + 1) = b.drop (i + 1)) (hxy : x < y) : val a < val b := by
  have hia := (List.getElem?_eq_some_iff.1 hx).1
  have hib := (List.getElem?_eq_some_iff.1 hy).1
  have ea : a = a.take i ++ x :: a.drop (i + 1) := by
    have := List.take_append_drop i a
    rw [List.drop_eq_getElem_cons hia] at this
    obtain ⟨_, h2⟩ := List.getElem?_eq_some_iff.1 hx
    rw [h2] at this; exact this.symm
  have eb : b = b.take i ++ y :: b.drop (i + 1) := by
    have := List.take_append_drop i b
    rw [List.drop_eq_getElem_cons hib] at this
    obtain ⟨_, h2⟩ := List.getElem?_eq_some_iff.1 hy
    rw [h2] at this; exact this.symm
  rw [ea, eb, val_append, val_append, ← hd]
  have hta : (a.take i).length = i := by rw [List.length_take]; omega
  have htb : (b.take i).length = i := by rw [List.length_take]; omega
  have h1 := val_lt (wd_take ha i)
  rw [hta] at h1 ⊢
  rw [htb]
  simp only [val]
  have h2 : B32 ^ i * (x + 1) ≤ B32 ^ i * y := Nat.mul_le_mul_left _ hxy
  rw [Nat.mul_add, Nat.mul_one] at h2
  rw [Nat.mul_add, Nat.mul_add]
  omega
section
variable {P : Program} {G : Nat → Option (List AV)}
theorem nan_int_ok {f : FuncId} (h : Has P f w_cmp_isNaN_int) (a : Int) : VP P G f [.int .i64 a] (.bool false) := by
  refine VP.has h ?_
  have e : decide (a ≠ a) = false := by simp
  simp only [w_cmp_isNaN_int, SS, Nat.reduceAdd, Nat.reduceSub, Nat.reduceMul, Nat.reduceEqDiff, reduceIte, e]
  exact retQ_ret ▸ retQ_of_pure rfl (PureAV.bool _)
theorem cmp_int_ok {f fn : FuncId} (h : Has P f (w_cmp_Compare_int fn)) (hn : ∀ a, VP P G fn [.int .i64 a] (.bool false)) (a b : Int) : VP P G f [.int .i64 a, .int .i64 b] (.int .i64 (cmpI a b)) := by
  refine VP.has h ?_
  simp only [w_cmp_Compare_int, SS, Nat.reduceAdd, Nat.reduceSub, Nat.reduceMul, Nat.reduceEqDiff, reduceIte]
  refine vsCall_VP (hn a) (by simp [PureAV.int]) ?_
  simp only [SS, Nat.reduceAdd, Nat.reduceSub, Nat.reduceMul, Nat.reduceEqDiff, reduceIte]
  refine vsCall_VP (hn b) (by simp [PureAV.int]) ?_
  unfold cmpI
  by_cases h1 : a < b
  · simp only [SS, Nat.reduceAdd, Nat.reduceSub, Nat.reduceMul, Nat.reduceEqDiff, reduceIte, h1, decide_true]
    exact retQ_ret ▸ retQ_of_pure rfl (PureAV.int _ _)
  · by_cases h2 : b < a
    · simp only [SS, Nat.reduceAdd, Nat.reduceSub, Nat.reduceMul, Nat.reduceEqDiff, reduceIte, h1, h2, decide_true, decide_false]
      exact retQ_ret ▸ retQ_of_pure rfl (PureAV.int _ _)
    · simp only [SS, Nat.reduceAdd, Nat.reduceSub, Nat.reduceMul, Nat.reduceEqDiff, reduceIte, h1, h2, decide_false]
      exact retQ_ret ▸ retQ_of_pure rfl (PureAV.int _ _)
theorem nan_uint32_ok {f : FuncId} (h : Has P f w_cmp_isNaN_uint32) (a : Int) : VP P G f [.int .u32 a] (.bool false) := by
  refine VP.has h ?_
  have e : decide (a ≠ a) = false := by simp
  simp only [w_cmp_isNaN_uint32, SS, Nat.reduceAdd, Nat.reduceSub, Nat.reduceMul, Nat.reduceEqDiff, reduceIte, e]
  exact retQ_ret ▸ retQ_of_pure rfl (PureAV.bool _)
theorem cmp_uint32_ok {f fn : FuncId} (h : Has P f (w_cmp_Compare_uint32 fn)) (hn : ∀ a, VP P G fn [.int .u32 a] (.bool false)) (a b : Int) : VP P G f [.int .u32 a, .int .u32 b] (.int .i64 (cmpI a b)) := by
  refine VP.has h ?_
  simp only [w_cmp_Compare_uint32, SS, Nat.reduceAdd, Nat.reduceSub, Nat.reduceMul, Nat.reduceEqDiff, reduceIte]
  refine vsCall_VP (hn a) (by simp [PureAV.int]) ?_
  simp only [SS, Nat.reduceAdd, Nat.reduceSub, Nat.reduceMul, Nat.reduceEqDiff, reduceIte]
  refine vsCall_VP (hn b) (by simp [PureAV.int]) ?_
  unfold cmpI
  by_cases h1 : a < b
  · simp only [SS, Nat.reduceAdd, Nat.reduceSub, Nat.reduceMul, Nat.reduceEqDiff, reduceIte, h1, decide_true]
    exact retQ_ret ▸ retQ_of_pure rfl (PureAV.int _ _)
  · by_cases h2 : b < a
    · simp only [SS, Nat.reduceAdd, Nat.reduceSub, Nat.reduceMul, Nat.reduceEqDiff, reduceIte, h1, h2, decide_true, decide_false]
      exact retQ_ret ▸ retQ_of_pure rfl (PureAV.int _ _)
    · simp only [SS, Nat.reduceAdd, Nat.reduceSub, Nat.reduceMul, Nat.reduceEqDiff, reduceIte, h1, h2, decide_false]
      exact retQ_ret ▸ retQ_of_pure rfl (PureAV.int _ _)
def TrimC (P : Program) (G : Nat → Option (List AV)) (f : FuncId) : Prop := ∀ ws : List Nat, Wd ws → ws.length ≤ 9223372036854775807 → VP P G f [.sl 1 (us ws)] (W (val ws))
theorem fromUint_ok {f ft : FuncId} (h : Has P f (w_integer_fromUint ft)) (ht : TrimC P G ft) (n : Nat) (hn : n < 18446744073709551616) : VP P G f [.int .u64 (n : Int)] (W n) := by
  refine VP.has h ?_
  have e1 : IntKind.u32.wrap (n : Int) = ((n % B32 : Nat) : Int) := by rw [IntKind.wrap_u32]; unfold B32; omega
  have e2 : vbinq .shr .int (.int .u64 (n : Int)) (.int .u64 32) = some (.int .u64 ((n / B32 : Nat) : Int)) := by
    rw [bin_shr (by decide)]
    have : (n : Int).fdiv (2 ^ (min (32 : Int).toNat IntKind.u64.bits)) = ((n / B32 : Nat) : Int) := by
      show (n : Int).fdiv (2 ^ 32) = _
      rw [Int.fdiv_eq_ediv_of_nonneg _ (by decide)]; unfold B32; omega
    rw [this]
  have e3 : IntKind.u32.wrap ((n / B32 : Nat) : Int) = ((n / B32 : Nat) : Int) := by rw [IntKind.wrap_u32]; unfold B32; omega
  have hb : ∀ (σ : Store) (q : Id), vop σ q (.buildSl 1 2 (.int .u32 0) [(0, .int .u32 ((n % B32 : Nat) : Int)), (1, .int .u32 ((n / B32 : Nat) : Int))]) = some { val := .osl q 1 0 2 false, up := [(q, some ⟨us [n % B32, n / B32], 1, false⟩)] } := fun σ q => bs2 rfl rfl rfl rfl rfl rfl
  have hw : Wd [n % B32, n / B32] := by intro w hw; simp at hw; rcases hw with rfl | rfl <;> unfold B32 <;> omega
  have hv : val [n % B32, n / B32] = n := by simp [val, Nat.mod_add_div]
  have ht' := ht [n % B32, n / B32] hw (by simp)
  rw [hv] at ht'
  simp only [w_integer_fromUint, SS, Nat.reduceAdd, Nat.reduceSub, Nat.reduceMul, Nat.reduceEqDiff, reduceIte, e1, e2, e3, hb]
  refine vsCall_view [([6], ⟨us [n % B32, n / B32], 1, false⟩)] ht' (ViewL.cons (view_us rfl) ViewL.nil) (by simp [Store.put]) ?_
  simp only [SS, Nat.reduceAdd, Nat.reduceSub, Nat.reduceMul, Nat.reduceEqDiff, reduceIte]
  exact retQ_ret ▸ retQ_of_pure rfl (W_pure _)
theorem signed_ok {f ft : FuncId} (h : Has P f (w_integer_signed ft)) (ht : TrimC P G ft) (neg : Bool) {ws : List Nat} (hw : Wd ws) (hl : ws.length ≤ 9223372036854775807) : VP P G f [.bool neg, .sl 1 (us ws)] (IV (sgn neg (val ws))) := by
  refine VP.has h ?_
  have z1 : (AV.cells (.agg [(.bool false), .nils])).all AV.one = true := rfl
  have hlen : ∀ m, vlen false (W m) = some (.int .i64 (digits m).length) := fun m => by simp [W, vlen, us_len]
  simp only [w_integer_signed, SS, Nat.reduceAdd, Nat.reduceSub, Nat.reduceMul, Nat.reduceEqDiff, reduceIte, z1]
  refine vsCall_VP (ht ws hw hl) (by simp [us_pure]) ?_
  simp only [SS, Nat.reduceAdd, Nat.reduceSub, Nat.reduceMul, Nat.reduceEqDiff, reduceIte, hlen]
  by_cases h0 : val ws = 0
  · have d0 : decide (((digits (val ws)).length : Int) = 0) = true := dec_true (by rw [h0, digits_zero]; rfl)
    have e : vfill [.bool false, .nils] [] = some [.bool false, .nils] := rfl
    have e2 : ∀ (σ : Store) (id : Id) (k : Nat), vstore (σ.put id (some ⟨[.agg [.bool false, .nils]], k, false⟩)) 2 (.ref id 0 0) (.agg [.bool false, .nils]) = some { val := .tup [], rd := [id], up := [(id, some ⟨[.agg [.bool false, .nils]], k, false⟩)] } := by
      intro σ id k
      rw [vstore_at (n := 2) (v := .agg [.bool false, .nils]) (els := [.agg [.bool false, .nils]]) (k := k) (Store.put_same _ _ _) rfl rfl (by simp [AV.size, AV.cells]) rfl]
      rfl
    simp only [SS, Nat.reduceAdd, Nat.reduceSub, Nat.reduceMul, Nat.reduceEqDiff, reduceIte, d0, e, e2]
    refine retQ_ret ▸ ⟨.agg [.bool false, .nils], ?_, ?_⟩
    · simp only [retQ_ret, retQ_normal, outAV, resAV, List.mapM_cons, List.mapM_nil, List.getD_cons_zero, List.getD_cons_succ, Option.pure_def, Option.bind_eq_bind, Option.bind_some, Option.map_some, load_put]; rfl
    · have : IV (sgn neg (val ws)) = .agg [.bool false, .sl 1 []] := by rw [h0]; cases neg <;> simp [IV, sgn, W, digits_zero, us]
      rw [this]
      exact View.agg (ViewL.cons (View.pure (PureAV.bool _)) (ViewL.cons (View.nils 1) ViewL.nil))
  · have hne : (digits (val ws)).length ≠ 0 := by intro e; exact h0 (digits_eq_nil.1 (List.length_eq_zero_iff.1 e))
    have d0 : decide (((digits (val ws)).length : Int) = 0) = false := dec_false (by omega)
    have e : vfill [.bool false, .nils] [(0, (1, .bool neg)), (1, (1, W (val ws)))] = some [.bool neg, W (val ws)] := rfl
    have e2 : ∀ (σ : Store) (id : Id) (k : Nat), vstore (σ.put id (some ⟨[.agg [.bool false, .nils]], k, false⟩)) 2 (.ref id 0 0) (.agg [.bool neg, W (val ws)]) = some { val := .tup [], rd := [id], up := [(id, some ⟨[.agg [.bool neg, W (val ws)]], k, false⟩)] } := by
      intro σ id k
      rw [vstore_at (n := 2) (v := .agg [.bool neg, W (val ws)]) (els := [.agg [.bool false, .nils]]) (k := k) (Store.put_same _ _ _) rfl rfl (by simp [AV.size, AV.cells]) rfl]
      rfl
    simp only [SS, Nat.reduceAdd, Nat.reduceSub, Nat.reduceMul, Nat.reduceEqDiff, reduceIte, d0, e, e2]
    have ei : IV (sgn neg (val ws)) = .agg [.bool neg, W (val ws)] := by
      cases neg
      · simp only [IV, sgn]; simp <;> omega
      · simp only [IV, sgn]; simp <;> omega
    rw [ei]
    refine retQ_ret ▸ retQ_of_pure (r := .agg [.bool neg, W (val ws)]) ?_ (PureAV.agg (by intro c hc; simp at hc; rcases hc with rfl | rfl; exact PureAV.bool _; exact W_pure _))
    simp only [retQ_ret, retQ_normal, outAV, resAV, List.mapM_cons, List.mapM_nil, List.getD_cons_zero, List.getD_cons_succ, Option.pure_def, Option.bind_eq_bind, Option.bind_some, Option.map_some, load_put]; rfl
end
end Go.VL
end

section
set_option linter.unusedSimpArgs false
namespace Go.VL
theorem cmpI_lt {a b : Int} (h : a < b) : cmpI a b = -1 := by simp [cmpI, h]
theorem cmpI_gt {a b : Int} (h : b < a) : cmpI a b = 1 := by simp [cmpI, h]; omega
theorem cmpI_eq {a b : Int} (h : a = b) : cmpI a b = 0 := by simp [cmpI, h]
theorem W_len (m : Nat) : vlen false (W m) = some (.int .i64 (wlen m)) := by simp [W, vlen, us_len, wlen]
theorem lt_of_wlen {m n : Nat} (h : wlen m < wlen n) : m < n := by
  rcases Nat.lt_or_ge m n with h1 | h1
  · exact h1
  · have := wlen_mono h1; omega
theorem W_get {m i w : Nat} (h : (digits m)[i]? = some w) : viaddrS 1 (W m) (.int .i64 (i : Int)) = some (.ep (AV.int .u32 (w : Int)).cells 0) := iaddrS_sl rfl (us_get h)
section
variable {P : Program} {G : Nat → Option (List AV)}
theorem compare_ok {f fi fw : FuncId} (h : Has P f (w_integer_compare fi fw)) (hi : ∀ a b : Int, VP P G fi [.int .i64 a, .int .i64 b] (.int .i64 (cmpI a b))) (hw : ∀ a b : Int, VP P G fw [.int .u32 a, .int .u32 b] (.int .i64 (cmpI a b)))
    (m n : Nat) (hm : wlen m < 9223372036854775807) (hn : wlen n < 9223372036854775807) : VP P G f [W m, W n] (.int .i64 (cmpN m n)) := by
  refine VP.has h ?_
  simp only [w_integer_compare, SS, Nat.reduceAdd, Nat.reduceSub, Nat.reduceMul, Nat.reduceEqDiff, reduceIte, W_len]
  by_cases hl : wlen m = wlen n
  case neg =>
    have d : decide ((wlen m : Int) ≠ (wlen n : Int)) = true := dec_true (by omega)
    simp only [SS, Nat.reduceAdd, Nat.reduceSub, Nat.reduceMul, Nat.reduceEqDiff, reduceIte, W_len, d]
    refine vsCall_VP (hi _ _) (by simp [PureAV.int]) ?_
    simp only [SS, Nat.reduceAdd, Nat.reduceSub, Nat.reduceMul, Nat.reduceEqDiff, reduceIte]
    have e : cmpI (wlen m : Int) (wlen n : Int) = cmpN m n := by
      rcases Nat.lt_or_ge (wlen m) (wlen n) with h1 | h1
      · have h2 := lt_of_wlen h1
        rw [cmpI_lt (by omega)]; unfold cmpN; rw [cmpI_lt (by omega)]
      · have h1' : wlen n < wlen m := by omega
        have h2 := lt_of_wlen h1'
        rw [cmpI_gt (by omega)]; unfold cmpN; rw [cmpI_gt (by omega)]
    rw [e]
    exact retQ_ret ▸ retQ_of_pure rfl (PureAV.int _ _)
  have d : decide ((wlen m : Int) ≠ (wlen n : Int)) = false := dec_false (by omega)
  have ew : IntKind.i64.wrap ((wlen m : Int) - 1) = (wlen m : Int) - 1 := by rw [IntKind.wrap_i64]; omega
  have hd0 : (digits m).drop (wlen m) = (digits n).drop (wlen m) := by
    have e1 : (digits m).drop (wlen m) = [] := List.drop_of_length_le (Nat.le_refl _)
    have e2 : (digits n).drop (wlen m) = [] := List.drop_of_length_le (by show wlen n ≤ wlen m; omega)
    rw [e1, e2]
  simp only [SS, Nat.reduceAdd, Nat.reduceSub, Nat.reduceMul, Nat.reduceEqDiff, reduceIte, W_len, d, ew, vwp_loop]
  refine VW.loopQ (α := Nat × Nat) (fun x => ⟨[W m, W n, .top, .top, .top, .int .i64 ((x.1 : Int) - 1)] ++ List.replicate 35 .top, fun _ => none, x.2⟩) (fun x => x.1 ≤ wlen m ∧ (digits m).drop x.1 = (digits n).drop x.1) (fun x => x.1) (wlen m, 10) ?_
    ⟨Nat.le_refl _, hd0⟩ ?_
  · exact Wk.slots (by simp [Fg, List.replicate]) (Nat.le_refl _)
  rintro ⟨j, q⟩ ⟨hj, hd⟩
  simp only [] at hj hd
  simp only [SS, Nat.reduceAdd, Nat.reduceSub, Nat.reduceMul, Nat.reduceEqDiff, reduceIte]
  by_cases h0 : j = 0
  · subst h0
    have d0 : decide ((0 : Int) ≤ ((0 : Nat) : Int) - 1) = false := by decide
    simp only [SS, Nat.reduceAdd, Nat.reduceSub, Nat.reduceMul, Nat.reduceEqDiff, reduceIte, d0]
    have e : m = n := by
      simp only [List.drop_zero] at hd
      rw [← val_digits m, hd, val_digits]
    have e2 : cmpN m n = 0 := cmpI_eq (by omega)
    rw [e2]
    exact retQ_ret ▸ retQ_of_pure rfl (PureAV.int _ _)
  · have hpos : 0 < j := Nat.pos_of_ne_zero h0
    have d0 : decide ((0 : Int) ≤ ((j - 1 : Nat) : Int)) = true := dec_true (by omega)
    have ej : (j : Int) - 1 = ((j - 1 : Nat) : Int) := by omega
    have hjm : j - 1 < (digits m).length := by show j - 1 < wlen m; omega
    have hjn : j - 1 < (digits n).length := by show j - 1 < wlen n; omega
    have ew2 : IntKind.i64.wrap (((j - 1 : Nat) : Int) - 1) = ((j - 1 : Nat) : Int) - 1 := by rw [IntKind.wrap_i64]; omega
    obtain ⟨x, hx⟩ : ∃ x, (digits m)[j - 1]? = some x := ⟨_, List.getElem?_eq_getElem hjm⟩
    obtain ⟨y, hy⟩ : ∃ y, (digits n)[j - 1]? = some y := ⟨_, List.getElem?_eq_getElem hjn⟩
    have hd' : (digits m).drop (j - 1 + 1) = (digits n).drop (j - 1 + 1) := by rw [show j - 1 + 1 = j from by omega]; exact hd
    have hap : allApart (([] : List Res)) ([] : List (Nat × Nat)) := by simp [allApart]
    by_cases hxy : x = y
    · have d1 : decide ((x : Int) ≠ (y : Int)) = false := dec_false (by omega)
      simp only [SS, DD, Nat.reduceAdd, Nat.reduceSub, Nat.reduceMul, Nat.reduceEqDiff, reduceIte, d0, ej, W_get hx, W_get hy, vload_ep, part_int, d1, ew2]
      refine ⟨by simp [allApart], (j - 1, _), ⟨by simp only []; omega, ?_⟩, by simp only []; omega, Wk.slots (by simp [Fg, List.replicate]) (Nat.le_refl _)⟩
      simp only []
      rw [List.drop_eq_getElem_cons hjm, List.drop_eq_getElem_cons hjn, hd']
      obtain ⟨_, h1⟩ := List.getElem?_eq_some_iff.1 hx
      obtain ⟨_, h2⟩ := List.getElem?_eq_some_iff.1 hy
      rw [h1, h2, hxy]
    · have d1 : decide ((x : Int) ≠ (y : Int)) = true := dec_true (by omega)
      have e : cmpI (x : Int) (y : Int) = cmpN m n := by
        rcases Nat.lt_or_ge x y with h1 | h1
        · have := val_cmp (digits_wd m) (digits_wd n) hl hx hy hd' h1
          rw [val_digits, val_digits] at this
          rw [cmpI_lt (by omega)]; unfold cmpN; rw [cmpI_lt (by omega)]
        · have := val_cmp (digits_wd n) (digits_wd m) hl.symm hy hx hd'.symm (by omega)
          rw [val_digits, val_digits] at this
          rw [cmpI_gt (by omega)]; unfold cmpN; rw [cmpI_gt (by omega)]
      simp only [SS, DD, Nat.reduceAdd, Nat.reduceSub, Nat.reduceMul, Nat.reduceEqDiff, reduceIte, d0, ej, W_get hx, W_get hy, vload_ep, part_int, d1]
      refine ⟨by simp [allApart], ?_⟩
      refine vdCall_VP (hw _ _) (by simp [PureAV.int]) ?_
      simp only [SS, DD, Nat.reduceAdd, Nat.reduceSub, Nat.reduceMul, Nat.reduceEqDiff, reduceIte, e]
      refine ⟨by simp [allApart], ?_⟩
      exact retQ_ret ▸ retQ_of_pure rfl (PureAV.int _ _)
end
end Go.VL
end

section
set_option linter.unusedSimpArgs false
namespace Go.VL
theorem digits_of_ge {o : List Nat} (h : Wd o) (hge : o = [] ∨ B32 ^ (o.length - 1) ≤ val o) : digits (val o) = o := by
  refine digits_val h ?_
  rcases hge with h0 | hge
  · exact .inl h0
  · by_cases h0 : o = []
    · exact .inl h0
    · right
      refine ⟨o.getLast h0, List.getLast?_eq_some_getLast h0, fun hz => ?_⟩
      have e := List.dropLast_concat_getLast h0
      rw [hz] at e
      have hv : val o = val o.dropLast := by rw [← e, val_snoc_zero, List.dropLast_concat]
      have hlt := val_lt (ws := o.dropLast) (fun w hw => h w ((List.dropLast_sublist _).subset hw))
      rw [List.length_dropLast] at hlt
      omega
theorem val_take_succ {a : List Nat} {i x : Nat} (h : a[i]? = some x) : val (a.take (i + 1)) = val (a.take i) + B32 ^ i * x := by
  have hlt := (List.getElem?_eq_some_iff.1 h).1
  have e : a.take (i + 1) = a.take i ++ [x] := by rw [List.take_add_one, h]; rfl
  rw [e, val_append]
  have : (a.take i).length = i := by rw [List.length_take]; omega
  rw [this]; simp [val]
theorem val_take_past {a : List Nat} {i : Nat} (h : a.length ≤ i) : val (a.take (i + 1)) = val (a.take i) := by
  rw [List.take_of_length_le h, List.take_of_length_le (by omega)]
theorem sum_step {o : List Nat} {i c va vb x y s : Nat} (ho : o.length = i) (hv : val o + B32 ^ i * c = va + vb) (hs : s = c + x + y) : val (o ++ [s % B32]) + B32 ^ (i + 1) * (s / B32) = (va + B32 ^ i * x) + (vb + B32 ^ i * y) := by
  have e2 := Nat.mod_add_div s B32
  rw [val_append, ho]
  simp only [val, Nat.mul_zero, Nat.add_zero, Nat.pow_succ]
  rw [Nat.mul_assoc, Nat.add_assoc, ← Nat.mul_add, e2, hs]
  rw [Nat.mul_add, Nat.mul_add]
  omega
theorem wd_snoc {o : List Nat} (h : Wd o) (s : Nat) : Wd (o ++ [s % B32]) := wd_append h (by intro w hw; simp at hw; subst hw; exact Nat.mod_lt _ B32_pos)
theorem w32 (s : Nat) : IntKind.u32.wrap (s : Int) = ((s % B32 : Nat) : Int) := by rw [IntKind.wrap_u32]; unfold B32; omega
theorem w64 (s : Nat) (h : s < 18446744073709551616) : IntKind.u64.wrap (s : Int) = (s : Int) := by rw [IntKind.wrap_u64]; omega
theorem shr32 (s : Nat) : vbinq .shr .int (.int .u64 (s : Int)) (.int .u64 32) = some (.int .u64 ((s / B32 : Nat) : Int)) := by
  rw [bin_shr (by decide)]
  have : (s : Int).fdiv (2 ^ (min (32 : Int).toNat IntKind.u64.bits)) = ((s / B32 : Nat) : Int) := by
    show (s : Int).fdiv (2 ^ 32) = _
    rw [Int.fdiv_eq_ediv_of_nonneg _ (by decide)]; unfold B32; omega
  rw [this]
theorem w64_word (x : Nat) (h : x < B32) : IntKind.u64.wrap (x : Int) = (x : Int) := w64 x (by unfold B32 at h; omega)
theorem add64 (a b : Nat) (h : a + b < 18446744073709551616) : IntKind.u64.wrap ((a : Int) + (b : Int)) = ((a + b : Nat) : Int) := by rw [IntKind.wrap_u64]; omega
theorem bs_us {σ : Store} {q : Id} {x : Nat} : vop σ q (.buildSl 1 1 (.int .u32 0) [(0, .int .u32 (x : Int))]) = some { val := .osl q 1 0 1 false, up := [(q, some ⟨us [x], 1, false⟩)] } := bs1 rfl rfl rfl rfl
theorem mk_us {p : Id} {c : Nat} (h : c * 4 ≤ 140737488355328) : vmksl p 1 4 (.int .u32 0) (.int .i64 0) (.int .i64 (c : Int)) = some { val := .osl p 1 0 0 false, up := [(p, some ⟨us [], 1, false⟩)] } := by
  have hm := le_maxLen (n := c) (by omega)
  show (if (0 : Int) ≤ 0 ∧ (0 : Int) ≤ (c : Int) ∧ (c : Int) * ((4 : Nat) : Int) ≤ 140737488355328 ∧ (c : Int) ≤ ((maxLen : Nat) : Int) ∧ (AV.int IntKind.u32 0).size = 1 ∧ (AV.int IntKind.u32 0).cells.all AV.one = true then _ else none) = _
  rw [if_pos ⟨by omega, by omega, by omega, by omega, rfl, rfl⟩]
  rfl
theorem app_us {σ : Store} {p id q : Id} {o : List Nat} {x len : Nat} (hq : q ≠ id) (hl : len = o.length) (hb : (len + 1) * 4 ≤ 140737488355328) (h : σ id = some ⟨us o, 1, false⟩) :
    vappend (σ.put q (some ⟨us [x], 1, false⟩)) p 1 4 (.osl id 1 0 len false) (.osl q 1 0 1 false) = some { val := .osl p 1 0 (len + 1) false, rd := [id, q], up := [(id, none), (p, some ⟨us (o ++ [x]), 1, false⟩)] } := by
  have := vappend_full (σ := σ.put q (some ⟨us [x], 1, false⟩)) (p := p) (id := id) (k := 1) (bytes := 4) (len := len) (els := us o) (x := .osl q 1 0 1 false) (ys := us [x]) (rd := [q])
    (elemsOf_osl (bk := ⟨us [x], 1, false⟩) (Store.put_same _ _ _) rfl (by simp [us_len])) (by simp [us]) (by rw [Store.put_other _ _ _ hq.symm]; exact h) (by rw [us_len]; exact hl) (by rw [us_len]; exact hb) (le_maxLen (by rw [us_len]; simp; omega)) (us_one _) (us_one _)
  rw [this, us_append]
  simp [us_len]
theorem ret_us {rs : List VRes} {s : VS} {id : Id} {n : Nat} {t b : Bool} {o : List Nat} (h1 : outAV rs s = some (.osl id 1 0 n t)) (h2 : s.σ id = some ⟨us o, 1, b⟩) (hn : n = o.length) : ∃ r0, outAV rs s = some r0 ∧ View s.σ r0 (.sl 1 (us o)) := by
  subst hn
  refine ⟨_, h1, View.osl (bk := ⟨us o, 1, b⟩) h2 rfl (by simp [us_len]) ?_ (by rw [us_len]) (us_size o)⟩
  rw [List.drop_zero, List.take_of_length_le (by rw [us_len]; exact Nat.le_refl _)]
  exact ViewL.pure (us_pures o)
section
variable {P : Program} {G : Nat → Option (List AV)}
theorem plus_ok {f : FuncId} (h : Has P f w_integer_plus) (m n : Nat) (hm : wlen m ≤ 1000000) (hn : wlen n ≤ 1000000) : VP P G f [W m, W n] (W (m + n)) := by
  refine VP.has h ?_
  simp only [w_integer_plus, SS, Nat.reduceAdd, Nat.reduceSub, Nat.reduceMul, Nat.reduceEqDiff, reduceIte, W_len]
  by_cases hs : wlen m < wlen n
  · have hle : wlen m ≤ wlen n := by omega
    have hlx : wlen n ≤ 1000000 := hn
    have hd : decide ((wlen m : Int) < (wlen n : Int)) = true := by first | exact dec_true (by omega) | exact dec_false (by omega)
    have ew : IntKind.i64.wrap ((wlen n : Int) + 1) = ((wlen n + 1 : Nat) : Int) := wrap_succ_i64 _ (by omega)
    have hmk : ∀ p : Id, vmksl p 1 4 (.int .u32 0) (.int .i64 0) (.int .i64 ((wlen n + 1 : Nat) : Int)) = some { val := .osl p 1 0 0 false, up := [(p, some ⟨us [], 1, false⟩)] } := fun p => mk_us (by omega)
    simp only [SS, Nat.reduceAdd, Nat.reduceSub, Nat.reduceMul, Nat.reduceEqDiff, reduceIte, W_len, hd, ew, hmk, vwp_loop]
    refine VW.loopQ (α := Nat × Nat × Nat × List Nat × Nat) (fun x => ⟨[W n, W m, .top, .top, .top, .osl [x.2.2.1] 1 0 x.1 false, .int .u64 (x.2.2.2.2 : Int), .top, .top] ++ List.replicate 11 .top ++ [W n, .int .i64 (wlen n), .int .i64 x.1] ++ List.replicate 35 .top,
      Store.put (fun _ => none) [x.2.2.1] (some ⟨us x.2.2.2.1, 1, false⟩), x.2.1⟩)
      (fun x => x.1 ≤ wlen n ∧ x.2.2.1 < x.2.1 ∧ x.2.2.2.1.length = x.1 ∧ Wd x.2.2.2.1 ∧ x.2.2.2.2 ≤ 1 ∧ val x.2.2.2.1 + B32 ^ x.1 * x.2.2.2.2 = val ((digits n).take x.1) + val ((digits m).take x.1)) (fun x => wlen n - x.1) (0, 19, 13, [], 0) ?_ ?_ ?_
    · exact Wk.slots (by simp [Fg, List.replicate]) (Nat.le_refl _)
    · exact ⟨Nat.zero_le _, by decide, rfl, by intro w hw; simp at hw, by decide, by simp [val]⟩
    rintro ⟨i, nn, q, o, c⟩ ⟨hi, hq, ho, hwd, hc, hv⟩
    simp only [] at hi hq ho hwd hc hv
    have hd1 : i < wlen n → decide ((i : Int) < (wlen n : Int)) = true := fun h => dec_true (by omega)
    have hd2 : ¬ i < wlen n → decide ((i : Int) < (wlen n : Int)) = false := fun h => dec_false (by omega)
    have hb4 : (i + 1) * 4 ≤ 140737488355328 := by omega
    have hie : ¬ i < wlen n → i = wlen n := by omega
    have hwi := wrap_succ_i64 i (by omega)
    simp only [SS, Nat.reduceAdd, Nat.reduceSub, Nat.reduceMul, Nat.reduceEqDiff, reduceIte]
    by_cases hlt : i < wlen n
    · have hs1 : i + 1 ≤ wlen n ∧ wlen n - (i + 1) < wlen n - i := by omega
      obtain ⟨a, ha⟩ : ∃ a, (digits n)[i]? = some a := ⟨_, List.getElem?_eq_getElem hlt⟩
      have haw := digits_wd n a (List.mem_of_getElem? ha)
      have f1 := w64_word a haw
      have f2 := add64 c a (by unfold B32 at haw; omega)
      by_cases hy : i < wlen m
      · obtain ⟨b, hb⟩ : ∃ b, (digits m)[i]? = some b := ⟨_, List.getElem?_eq_getElem hy⟩
        have hbw := digits_wd m b (List.mem_of_getElem? hb)
        have d3 : decide ((i : Int) < (wlen m : Int)) = true := dec_true (by omega)
        have f3 := w64_word b hbw
        have f4 := add64 (c + a) b (by unfold B32 at haw hbw; omega)
        have hc2 : (c + a + b) / B32 ≤ 1 := by unfold B32 at haw hbw ⊢; omega
        simp only [SS, Nat.reduceAdd, Nat.reduceSub, Nat.reduceMul, Nat.reduceEqDiff, reduceIte, hd1 hlt, W_get ha, W_get hb, W_len, vload_ep, part_int, f1, f2, d3, f3, f4, w32, bs_us]
        rw [app_us (o := o)]
        · simp only [SS, Nat.reduceAdd, Nat.reduceSub, Nat.reduceMul, Nat.reduceEqDiff, reduceIte, shr32, hwi]
          refine ⟨(i + 1, _, nn + 1 + 5 + 5 + 4 + 8 + 4, o ++ [(c + a + b) % B32], (c + a + b) / B32), ⟨hs1.1, ?_, by simp [ho], wd_snoc hwd _, hc2, ?_⟩, hs1.2, Wk.forget (by simp [Fg, List.replicate]) (fun j => ?_) (Nat.le_refl _)⟩
          · simp only []; omega
          · show val (o ++ [(c + a + b) % B32]) + B32 ^ (i + 1) * ((c + a + b) / B32) = _
            rw [val_take_succ ha, val_take_succ hb]
            exact sum_step ho hv rfl
          · simp only [Store.put]; split <;> simp
        · intro e; simp at e; omega
        · exact ho.symm
        · exact hb4
        · exact Store.put_same _ _ _
      · have d3 : decide ((i : Int) < (wlen m : Int)) = false := dec_false (by omega)
        have hc2 : (c + a) / B32 ≤ 1 := by unfold B32 at haw ⊢; omega
        simp only [SS, Nat.reduceAdd, Nat.reduceSub, Nat.reduceMul, Nat.reduceEqDiff, reduceIte, hd1 hlt, W_get ha, W_len, vload_ep, part_int, f1, f2, d3, w32, bs_us]
        rw [app_us (o := o)]
        · simp only [SS, Nat.reduceAdd, Nat.reduceSub, Nat.reduceMul, Nat.reduceEqDiff, reduceIte, shr32, hwi]
          refine ⟨(i + 1, _, nn + 1 + 5 + 5 + 4 + 4, o ++ [(c + a) % B32], (c + a) / B32), ⟨hs1.1, ?_, by simp [ho], wd_snoc hwd _, hc2, ?_⟩, hs1.2, Wk.forget (by simp [Fg, List.replicate]) (fun j => ?_) (Nat.le_refl _)⟩
          · simp only []; omega
          · show val (o ++ [(c + a) % B32]) + B32 ^ (i + 1) * ((c + a) / B32) = _
            rw [val_take_succ ha, val_take_past (by show wlen m ≤ i; omega)]
            have := sum_step (x := a) (y := 0) (s := c + a) ho hv (by omega)
            simpa using this
          · simp only [Store.put]; split <;> simp
        · intro e; simp at e; omega
        · exact ho.symm
        · exact hb4
        · exact Store.put_same _ _ _
    · have hiw := hie hlt
      have hsum : val o + B32 ^ i * c = m + n := by
        have e1 : (digits n).take (wlen n) = digits n := List.take_of_length_le (Nat.le_refl _)
        have e2 : (digits m).take (wlen n) = digits m := List.take_of_length_le hle
        rw [hv, hiw, e1, e2, val_digits, val_digits]
        all_goals omega
      by_cases h0 : c = 0
      · have d4 : decide ((0 : Int) < (c : Int)) = false := dec_false (by omega)
        have e : W (m + n) = .sl 1 (us o) := by
          rw [h0] at hsum
          simp only [Nat.mul_zero, Nat.add_zero] at hsum
          unfold W
          rw [← hsum, digits_of_ge hwd]
          rcases Nat.eq_zero_or_pos i with h1 | h1
          · left; rw [h1] at ho; exact List.length_eq_zero_iff.1 ho
          · right
            rw [hsum, ho, hiw]
            have hx0 : n ≠ 0 := by rintro e; rw [e] at hiw; simp [wlen, digits_zero] at hiw; omega
            have := pow_wlen_le hx0
            omega
        simp only [SS, Nat.reduceAdd, Nat.reduceSub, Nat.reduceMul, Nat.reduceEqDiff, reduceIte, hd2 hlt, d4]
        rw [e]
        exact retQ_ret ▸ ret_us (b := false) rfl (by simp [Store.put]) ho.symm
      · have hc1 : c = 1 := by omega
        have d4 : decide ((0 : Int) < (c : Int)) = true := dec_true (by omega)
        have e1 : c % B32 = 1 := by rw [hc1]; rfl
        have e : W (m + n) = .sl 1 (us (o ++ [1])) := by
          have hv1 : val (o ++ [1]) = m + n := by rw [val_append, ho, ← hsum, hc1]; simp [val]
          unfold W
          rw [← hv1, digits_val (wd_append hwd (by intro w hw; simp at hw; subst hw; decide)) (.inr ⟨1, by simp, by decide⟩)]
        simp only [SS, Nat.reduceAdd, Nat.reduceSub, Nat.reduceMul, Nat.reduceEqDiff, reduceIte, hd2 hlt, d4, w32, e1, bs_us]
        rw [app_us (o := o)]
        · simp only [SS, Nat.reduceAdd, Nat.reduceSub, Nat.reduceMul, Nat.reduceEqDiff, reduceIte]
          rw [e]
          exact retQ_ret ▸ ret_us (b := false) rfl (by simp [Store.put]) (by simp [ho])
        · intro e; simp at e; omega
        · exact ho.symm
        · exact hb4
        · exact Store.put_same _ _ _
  · have hle : wlen n ≤ wlen m := by omega
    have hlx : wlen m ≤ 1000000 := hm
    have hd : decide ((wlen m : Int) < (wlen n : Int)) = false := by first | exact dec_true (by omega) | exact dec_false (by omega)
    have ew : IntKind.i64.wrap ((wlen m : Int) + 1) = ((wlen m + 1 : Nat) : Int) := wrap_succ_i64 _ (by omega)
    have hmk : ∀ p : Id, vmksl p 1 4 (.int .u32 0) (.int .i64 0) (.int .i64 ((wlen m + 1 : Nat) : Int)) = some { val := .osl p 1 0 0 false, up := [(p, some ⟨us [], 1, false⟩)] } := fun p => mk_us (by omega)
    simp only [SS, Nat.reduceAdd, Nat.reduceSub, Nat.reduceMul, Nat.reduceEqDiff, reduceIte, W_len, hd, ew, hmk, vwp_loop]
    refine VW.loopQ (α := Nat × Nat × Nat × List Nat × Nat) (fun x => ⟨[W m, W n, .top, .top, .top, .osl [x.2.2.1] 1 0 x.1 false, .int .u64 (x.2.2.2.2 : Int), .top, .top] ++ List.replicate 11 .top ++ [W m, .int .i64 (wlen m), .int .i64 x.1] ++ List.replicate 35 .top,
      Store.put (fun _ => none) [x.2.2.1] (some ⟨us x.2.2.2.1, 1, false⟩), x.2.1⟩)
      (fun x => x.1 ≤ wlen m ∧ x.2.2.1 < x.2.1 ∧ x.2.2.2.1.length = x.1 ∧ Wd x.2.2.2.1 ∧ x.2.2.2.2 ≤ 1 ∧ val x.2.2.2.1 + B32 ^ x.1 * x.2.2.2.2 = val ((digits m).take x.1) + val ((digits n).take x.1)) (fun x => wlen m - x.1) (0, 15, 9, [], 0) ?_ ?_ ?_
    · exact Wk.slots (by simp [Fg, List.replicate]) (Nat.le_refl _)
    · exact ⟨Nat.zero_le _, by decide, rfl, by intro w hw; simp at hw, by decide, by simp [val]⟩
    rintro ⟨i, nn, q, o, c⟩ ⟨hi, hq, ho, hwd, hc, hv⟩
    simp only [] at hi hq ho hwd hc hv
    have hd1 : i < wlen m → decide ((i : Int) < (wlen m : Int)) = true := fun h => dec_true (by omega)
    have hd2 : ¬ i < wlen m → decide ((i : Int) < (wlen m : Int)) = false := fun h => dec_false (by omega)
    have hb4 : (i + 1) * 4 ≤ 140737488355328 := by omega
    have hie : ¬ i < wlen m → i = wlen m := by omega
    have hwi := wrap_succ_i64 i (by omega)
    simp only [SS, Nat.reduceAdd, Nat.reduceSub, Nat.reduceMul, Nat.reduceEqDiff, reduceIte]
    by_cases hlt : i < wlen m
    · have hs1 : i + 1 ≤ wlen m ∧ wlen m - (i + 1) < wlen m - i := by omega
      obtain ⟨a, ha⟩ : ∃ a, (digits m)[i]? = some a := ⟨_, List.getElem?_eq_getElem hlt⟩
      have haw := digits_wd m a (List.mem_of_getElem? ha)
      have f1 := w64_word a haw
      have f2 := add64 c a (by unfold B32 at haw; omega)
      by_cases hy : i < wlen n
      · obtain ⟨b, hb⟩ : ∃ b, (digits n)[i]? = some b := ⟨_, List.getElem?_eq_getElem hy⟩
        have hbw := digits_wd n b (List.mem_of_getElem? hb)
        have d3 : decide ((i : Int) < (wlen n : Int)) = true := dec_true (by omega)
        have f3 := w64_word b hbw
        have f4 := add64 (c + a) b (by unfold B32 at haw hbw; omega)
        have hc2 : (c + a + b) / B32 ≤ 1 := by unfold B32 at haw hbw ⊢; omega
        simp only [SS, Nat.reduceAdd, Nat.reduceSub, Nat.reduceMul, Nat.reduceEqDiff, reduceIte, hd1 hlt, W_get ha, W_get hb, W_len, vload_ep, part_int, f1, f2, d3, f3, f4, w32, bs_us]
        rw [app_us (o := o)]
        · simp only [SS, Nat.reduceAdd, Nat.reduceSub, Nat.reduceMul, Nat.reduceEqDiff, reduceIte, shr32, hwi]
          refine ⟨(i + 1, _, nn + 1 + 5 + 5 + 4 + 8 + 4, o ++ [(c + a + b) % B32], (c + a + b) / B32), ⟨hs1.1, ?_, by simp [ho], wd_snoc hwd _, hc2, ?_⟩, hs1.2, Wk.forget (by simp [Fg, List.replicate]) (fun j => ?_) (Nat.le_refl _)⟩
          · simp only []; omega
          · show val (o ++ [(c + a + b) % B32]) + B32 ^ (i + 1) * ((c + a + b) / B32) = _
            rw [val_take_succ ha, val_take_succ hb]
            exact sum_step ho hv rfl
          · simp only [Store.put]; split <;> simp
        · intro e; simp at e; omega
        · exact ho.symm
        · exact hb4
        · exact Store.put_same _ _ _
      · have d3 : decide ((i : Int) < (wlen n : Int)) = false := dec_false (by omega)
        have hc2 : (c + a) / B32 ≤ 1 := by unfold B32 at haw ⊢; omega
        simp only [SS, Nat.reduceAdd, Nat.reduceSub, Nat.reduceMul, Nat.reduceEqDiff, reduceIte, hd1 hlt, W_get ha, W_len, vload_ep, part_int, f1, f2, d3, w32, bs_us]
        rw [app_us (o := o)]
        · simp only [SS, Nat.reduceAdd, Nat.reduceSub, Nat.reduceMul, Nat.reduceEqDiff, reduceIte, shr32, hwi]
          refine ⟨(i + 1, _, nn + 1 + 5 + 5 + 4 + 4, o ++ [(c + a) % B32], (c + a) / B32), ⟨hs1.1, ?_, by simp [ho], wd_snoc hwd _, hc2, ?_⟩, hs1.2, Wk.forget (by simp [Fg, List.replicate]) (fun j => ?_) (Nat.le_refl _)⟩
          · simp only []; omega
          · show val (o ++ [(c + a) % B32]) + B32 ^ (i + 1) * ((c + a) / B32) = _
            rw [val_take_succ ha, val_take_past (by show wlen n ≤ i; omega)]
            have := sum_step (x := a) (y := 0) (s := c + a) ho hv (by omega)
            simpa using this
          · simp only [Store.put]; split <;> simp
        · intro e; simp at e; omega
        · exact ho.symm
        · exact hb4
        · exact Store.put_same _ _ _
    · have hiw := hie hlt
      have hsum : val o + B32 ^ i * c = m + n := by
        have e1 : (digits m).take (wlen m) = digits m := List.take_of_length_le (Nat.le_refl _)
        have e2 : (digits n).take (wlen m) = digits n := List.take_of_length_le hle
        rw [hv, hiw, e1, e2, val_digits, val_digits]
        all_goals omega
      by_cases h0 : c = 0
      · have d4 : decide ((0 : Int) < (c : Int)) = false := dec_false (by omega)
        have e : W (m + n) = .sl 1 (us o) := by
          rw [h0] at hsum
          simp only [Nat.mul_zero, Nat.add_zero] at hsum
          unfold W
          rw [← hsum, digits_of_ge hwd]
          rcases Nat.eq_zero_or_pos i with h1 | h1
          · left; rw [h1] at ho; exact List.length_eq_zero_iff.1 ho
          · right
            rw [hsum, ho, hiw]
            have hx0 : m ≠ 0 := by rintro e; rw [e] at hiw; simp [wlen, digits_zero] at hiw; omega
            have := pow_wlen_le hx0
            omega
        simp only [SS, Nat.reduceAdd, Nat.reduceSub, Nat.reduceMul, Nat.reduceEqDiff, reduceIte, hd2 hlt, d4]
        rw [e]
        exact retQ_ret ▸ ret_us (b := false) rfl (by simp [Store.put]) ho.symm
      · have hc1 : c = 1 := by omega
        have d4 : decide ((0 : Int) < (c : Int)) = true := dec_true (by omega)
        have e1 : c % B32 = 1 := by rw [hc1]; rfl
        have e : W (m + n) = .sl 1 (us (o ++ [1])) := by
          have hv1 : val (o ++ [1]) = m + n := by rw [val_append, ho, ← hsum, hc1]; simp [val]
          unfold W
          rw [← hv1, digits_val (wd_append hwd (by intro w hw; simp at hw; subst hw; decide)) (.inr ⟨1, by simp, by decide⟩)]
        simp only [SS, Nat.reduceAdd, Nat.reduceSub, Nat.reduceMul, Nat.reduceEqDiff, reduceIte, hd2 hlt, d4, w32, e1, bs_us]
        rw [app_us (o := o)]
        · simp only [SS, Nat.reduceAdd, Nat.reduceSub, Nat.reduceMul, Nat.reduceEqDiff, reduceIte]
          rw [e]
          exact retQ_ret ▸ ret_us (b := false) rfl (by simp [Store.put]) (by simp [ho])
        · intro e; simp at e; omega
        · exact ho.symm
        · exact hb4
        · exact Store.put_same _ _ _
end
end Go.VL
end

section
set_option linter.unusedSimpArgs false
namespace Go.VL
theorem us_replicate (c : Nat) : List.replicate c (AV.int .u32 0) = us (List.replicate c 0) := by simp [us]
theorem us_set (o : List Nat) (i x : Nat) : (us o).set i (.int .u32 (x : Int)) = us (o.set i x) := by simp [us, List.map_set]
theorem mkz_us {p : Id} {c : Nat} (h : c * 4 ≤ 140737488355328) : vmksl p 1 4 (.int .u32 0) (.int .i64 (c : Int)) (.int .i64 (c : Int)) = some { val := .osl p 1 0 c false, up := [(p, some ⟨us (List.replicate c 0), 1, false⟩)] } := by
  have hm := le_maxLen (n := c) (by omega)
  show (if (0 : Int) ≤ (c : Int) ∧ (c : Int) ≤ (c : Int) ∧ (c : Int) * ((4 : Nat) : Int) ≤ 140737488355328 ∧ (c : Int) ≤ ((maxLen : Nat) : Int) ∧ (AV.int IntKind.u32 0).size = 1 ∧ (AV.int IntKind.u32 0).cells.all AV.one = true then _ else none) = _
  rw [if_pos ⟨by omega, by omega, by omega, by omega, rfl, rfl⟩]
  simp only [Int.toNat_natCast, us_replicate]
theorem iaddr_own {q : Id} {len i : Nat} {t : Bool} (h : i < len) : viaddrS 1 (.osl q 1 0 len t) (.int .i64 (i : Int)) = some (.ref q i 0) := by
  simp only [viaddrS]
  rw [if_pos ⟨trivial, by omega, by omega⟩]
  simp
theorem store_us {σ : Store} {q : Id} {o : List Nat} {i x : Nat} (h : σ q = some ⟨us o, 1, false⟩) (hi : i < o.length) : vstore σ 1 (.ref q i 0) (.int .u32 (x : Int)) = some { val := .tup [], rd := [q], up := [(q, some ⟨us (o.set i x), 1, false⟩)] } := by
  obtain ⟨w, hw⟩ : ∃ w, o[i]? = some w := ⟨_, List.getElem?_eq_getElem hi⟩
  rw [vstore_at (n := 1) (v := .int .u32 (x : Int)) h (us_get hw) rfl (by simp [AV.size, AV.cells]) rfl, ← us_set]
  rfl
theorem load_us {σ : Store} {q : Id} {o : List Nat} {i x : Nat} {b : Bool} (h : σ q = some ⟨us o, 1, b⟩) (hi : o[i]? = some x) : vload σ false 1 (.ref q i 0) = some { val := .int .u32 (x : Int), rd := [q] } := by
  rw [vload_ref h (us_get hi)]; rfl
theorem set_pre (o : List Nat) (k x : Nat) : (o ++ List.replicate (k + 1) 0).set o.length x = (o ++ [x]) ++ List.replicate k 0 := by
  rw [List.set_append_right _ _ (Nat.le_refl _), Nat.sub_self, List.replicate_succ, List.set_cons_zero]
  simp
theorem val_set {o : List Nat} {i x y : Nat} (h : o[i]? = some y) : val (o.set i x) + B32 ^ i * y = val o + B32 ^ i * x := by
  have hi := (List.getElem?_eq_some_iff.1 h).1
  have ht : (o.take i).length = i := by rw [List.length_take]; omega
  have e1 : o = o.take i ++ y :: o.drop (i + 1) := by
    have := List.take_append_drop i o
    rw [List.drop_eq_getElem_cons hi] at this
    obtain ⟨_, h2⟩ := List.getElem?_eq_some_iff.1 h
    rw [h2] at this; exact this.symm
  have e2 : o.set i x = o.take i ++ x :: o.drop (i + 1) := by rw [List.set_eq_take_append_cons_drop, if_pos hi]
  rw [e2]
  have e3 : val o = val (o.take i ++ y :: o.drop (i + 1)) := congrArg val e1
  rw [e3, val_append, val_append, ht]
  simp only [val, Nat.mul_add]
  omega
theorem wd_set {o : List Nat} (h : Wd o) {i x : Nat} (hx : x < B32) : Wd (o.set i x) := fun w hw => by
  rcases List.mem_or_eq_of_mem_set hw with h1 | h1
  · exact h w h1
  · rw [h1]; exact hx
theorem wd_zeros (k : Nat) : Wd (List.replicate k 0) := fun w hw => by rw [List.eq_of_mem_replicate hw]; exact B32_pos
theorem val_pre (o : List Nat) (k : Nat) : val (o ++ List.replicate k 0) = val o := by
  rw [val_append, val_zeros (fun w hw => List.eq_of_mem_replicate hw)]; omega
theorem sub_step {x y c : Nat} (hx : x < B32) (hy : y < B32) (hc : c ≤ 1) : ∃ w c' : Nat, w < B32 ∧ c' ≤ 1 ∧ w + y + c = x + B32 * c' ∧ IntKind.u32.wrap (IntKind.u64.wrap (IntKind.u64.wrap ((x : Int) - (c : Int)) - (y : Int))) = (w : Int) ∧
    vbinq .shr .int (.int .u64 (IntKind.u64.wrap (IntKind.u64.wrap ((x : Int) - (c : Int)) - (y : Int)))) (.int .u64 63) = some (.int .u64 (c' : Int)) := by
  have hsh : ∀ a : Int, vbinq .shr .int (.int .u64 a) (.int .u64 63) = some (.int .u64 (a / 9223372036854775808)) := fun a => by
    rw [bin_shr (by decide)]
    show some (AV.int .u64 (a.fdiv (2 ^ 63))) = _
    rw [Int.fdiv_eq_ediv_of_nonneg _ (by decide)]; rfl
  rw [hsh]
  unfold B32 at *
  by_cases h : c + y ≤ x
  · refine ⟨x - c - y, 0, by omega, by omega, by omega, ?_, ?_⟩
    · rw [IntKind.wrap_u32, IntKind.wrap_u64, IntKind.wrap_u64]; omega
    · rw [IntKind.wrap_u64, IntKind.wrap_u64]; congr 2; omega
  · refine ⟨x + 4294967296 - c - y, 1, by omega, by omega, by omega, ?_, ?_⟩
    · rw [IntKind.wrap_u32, IntKind.wrap_u64, IntKind.wrap_u64]; omega
    · rw [IntKind.wrap_u64, IntKind.wrap_u64]; congr 2; omega
theorem sub_step0 {x c : Nat} (hx : x < B32) (hc : c ≤ 1) : ∃ w c' : Nat, w < B32 ∧ c' ≤ 1 ∧ w + 0 + c = x + B32 * c' ∧ IntKind.u32.wrap (IntKind.u64.wrap ((x : Int) - (c : Int))) = (w : Int) ∧
    vbinq .shr .int (.int .u64 (IntKind.u64.wrap ((x : Int) - (c : Int)))) (.int .u64 63) = some (.int .u64 (c' : Int)) := by
  obtain ⟨w, c', h1, h2, h3, h4, h5⟩ := sub_step (y := 0) hx B32_pos hc
  have e : IntKind.u64.wrap (IntKind.u64.wrap ((x : Int) - (c : Int)) - ((0 : Nat) : Int)) = IntKind.u64.wrap ((x : Int) - (c : Int)) := by rw [IntKind.wrap_u64, IntKind.wrap_u64]; omega
  rw [e] at h4 h5
  exact ⟨w, c', h1, h2, h3, h4, h5⟩
theorem diff_step {o : List Nat} {i c va vb x y w c' : Nat} (ho : o.length = i) (hv : val o + vb = va + B32 ^ i * c - B32 ^ i * c + B32 ^ i * c) (hw : w + y + c = x + B32 * c') : val (o ++ [w]) + (vb + B32 ^ i * y) = (va + B32 ^ i * x) + B32 ^ (i + 1) * c' := by
  have h : B32 ^ i * w + B32 ^ i * y + B32 ^ i * c = B32 ^ i * x + B32 ^ i * (B32 * c') := by rw [← Nat.mul_add, ← Nat.mul_add, ← Nat.mul_add, hw]
  rw [val_append, ho]
  simp only [val, Nat.mul_zero, Nat.add_zero, Nat.pow_succ]
  rw [Nat.mul_assoc]
  omega
section
variable {P : Program} {G : Nat → Option (List AV)}
theorem minus_ok {f ft : FuncId} (h : Has P f (w_integer_minus ft)) (ht : TrimC P G ft) (m n : Nat) (hnm : n ≤ m) (hm : wlen m ≤ 1000000) : VP P G f [W m, W n] (W (m - n)) := by
  refine VP.has h ?_
  have hle : wlen n ≤ wlen m := wlen_mono hnm
  have hmk : ∀ p : Id, vmksl p 1 4 (.int .u32 0) (.int .i64 (wlen m : Int)) (.int .i64 (wlen m : Int)) = some { val := .osl p 1 0 (wlen m) false, up := [(p, some ⟨us (List.replicate (wlen m) 0), 1, false⟩)] } := fun p => mkz_us (by omega)
  simp only [w_integer_minus, SS, Nat.reduceAdd, Nat.reduceSub, Nat.reduceMul, Nat.reduceEqDiff, reduceIte, W_len, hmk, vwp_loop]
  refine VW.loopQ (α := Nat × Nat × List Nat × Nat) (fun x => ⟨[W m, W n, .top, .top, .top, .osl [3] 1 0 (wlen m) false, .int .u64 (x.2.2.2 : Int)] ++ List.replicate 6 .top ++ [W m, .int .i64 (wlen m), .int .i64 x.1] ++ List.replicate 29 .top,
    Store.put (fun _ => none) [3] (some ⟨us (x.2.2.1 ++ List.replicate (wlen m - x.1) 0), 1, false⟩), x.2.1⟩)
    (fun x => x.1 ≤ wlen m ∧ x.2.2.1.length = x.1 ∧ Wd x.2.2.1 ∧ x.2.2.2 ≤ 1 ∧ val x.2.2.1 + val ((digits n).take x.1) = val ((digits m).take x.1) + B32 ^ x.1 * x.2.2.2) (fun x => wlen m - x.1) (0, 9, [], 0) ?_ ?_ ?_
  · exact Wk.slots (by simp [Fg, List.replicate]) (Nat.le_refl _)
  · exact ⟨Nat.zero_le _, rfl, by intro w hw; simp at hw, by decide, by simp [val]⟩
  rintro ⟨i, nn, o, c⟩ ⟨hi, ho, hwd, hc, hv⟩
  simp only [] at hi ho hwd hc hv
  have hd1 : i < wlen m → decide ((i : Int) < (wlen m : Int)) = true := fun h => dec_true (by omega)
  have hd2 : ¬ i < wlen m → decide ((i : Int) < (wlen m : Int)) = false := fun h => dec_false (by omega)
  have hie : ¬ i < wlen m → i = wlen m := by omega
  have hwi := wrap_succ_i64 i (by omega)
  have hol : i < wlen m → i < (o ++ List.replicate (wlen m - i) 0).length := fun h => by rw [List.length_append, List.length_replicate]; omega
  have hset : i < wlen m → ∀ x, (o ++ List.replicate (wlen m - i) 0).set i x = (o ++ [x]) ++ List.replicate (wlen m - (i + 1)) 0 := fun h x => by
    rw [show wlen m - i = (wlen m - (i + 1)) + 1 from by omega, ← ho]; exact set_pre _ _ _
  have hs1 : i < wlen m → i + 1 ≤ wlen m ∧ wlen m - (i + 1) < wlen m - i := fun h => by omega
  have hny : ¬ i < wlen n → wlen n ≤ i := by omega
  have d3t : i < wlen n → decide ((i : Int) < (wlen n : Int)) = true := fun h => dec_true (by omega)
  have d3f : ¬ i < wlen n → decide ((i : Int) < (wlen n : Int)) = false := fun h => dec_false (by omega)
  simp only [SS, Nat.reduceAdd, Nat.reduceSub, Nat.reduceMul, Nat.reduceEqDiff, reduceIte]
  by_cases hlt : i < wlen m
  · obtain ⟨a, ha⟩ : ∃ a, (digits m)[i]? = some a := ⟨_, List.getElem?_eq_getElem hlt⟩
    have haw := digits_wd m a (List.mem_of_getElem? ha)
    have f1 := w64_word a haw
    have hia := iaddr_own (q := [3]) (t := false) hlt
    by_cases hy : i < wlen n
    · obtain ⟨b, hb⟩ : ∃ b, (digits n)[i]? = some b := ⟨_, List.getElem?_eq_getElem hy⟩
      have hbw := digits_wd n b (List.mem_of_getElem? hb)
      have f3 := w64_word b hbw
      obtain ⟨w, c', h1, h2, h3, h4, h5⟩ := sub_step haw hbw hc
      have hv' := diff_step (va := val ((digits m).take i)) (vb := val ((digits n).take i)) ho (by rw [hv]; omega) h3
      simp only [SS, Nat.reduceAdd, Nat.reduceSub, Nat.reduceMul, Nat.reduceEqDiff, reduceIte, hd1 hlt, W_get ha, W_get hb, W_len, vload_ep, part_int, f1, f3, d3t hy, h4, hia]
      rw [store_us (o := o ++ List.replicate (wlen m - i) 0) (by simp [Store.put]) (hol hlt), hset hlt]
      simp only [SS, Nat.reduceAdd, Nat.reduceSub, Nat.reduceMul, Nat.reduceEqDiff, reduceIte, h5, hwi]
      refine ⟨(i + 1, _, o ++ [w], c'), ⟨(hs1 hlt).1, by simp [ho], wd_append hwd (by intro z hz; simp at hz; subst hz; exact h1), h2, ?_⟩, (hs1 hlt).2, Wk.forget (by simp [Fg, List.replicate]) (fun j => ?_) (Nat.le_refl _)⟩
      · show val (o ++ [w]) + val ((digits n).take (i + 1)) = _
        rw [val_take_succ ha, val_take_succ hb]; exact hv'
      · simp only [Store.put]; split <;> simp
    · obtain ⟨w, c', h1, h2, h3, h4, h5⟩ := sub_step0 haw hc
      have hv' := diff_step (va := val ((digits m).take i)) (vb := val ((digits n).take i)) ho (by rw [hv]; omega) h3
      simp only [SS, Nat.reduceAdd, Nat.reduceSub, Nat.reduceMul, Nat.reduceEqDiff, reduceIte, hd1 hlt, W_get ha, W_len, vload_ep, part_int, f1, d3f hy, h4, hia]
      rw [store_us (o := o ++ List.replicate (wlen m - i) 0) (by simp [Store.put]) (hol hlt), hset hlt]
      simp only [SS, Nat.reduceAdd, Nat.reduceSub, Nat.reduceMul, Nat.reduceEqDiff, reduceIte, h5, hwi]
      refine ⟨(i + 1, _, o ++ [w], c'), ⟨(hs1 hlt).1, by simp [ho], wd_append hwd (by intro z hz; simp at hz; subst hz; exact h1), h2, ?_⟩, (hs1 hlt).2, Wk.forget (by simp [Fg, List.replicate]) (fun j => ?_) (Nat.le_refl _)⟩
      · show val (o ++ [w]) + val ((digits n).take (i + 1)) = _
        rw [val_take_succ ha, val_take_past (hny hy)]
        simpa using hv'
      · simp only [Store.put]; split <;> simp
  · have hiw := hie hlt
    have e1 : (digits m).take (wlen m) = digits m := List.take_of_length_le (Nat.le_refl _)
    have e2 : (digits n).take (wlen m) = digits n := List.take_of_length_le hle
    have hsum : val o + n = m + B32 ^ wlen m * c := by rw [hiw, e1, e2, val_digits, val_digits] at hv; exact hv
    have hvo : val o = m - n := by
      have := val_lt hwd
      rw [ho, hiw] at this
      rcases Nat.le_one_iff_eq_zero_or_eq_one.1 hc with h0 | h0
      · rw [h0] at hsum; omega
      · rw [h0] at hsum; omega
    have e3 : o ++ List.replicate (wlen m - i) 0 = o := by rw [hiw, Nat.sub_self]; simp
    have ht' := ht o hwd (by rw [ho]; omega)
    rw [hvo] at ht'
    simp only [SS, Nat.reduceAdd, Nat.reduceSub, Nat.reduceMul, Nat.reduceEqDiff, reduceIte, hd2 hlt, e3]
    refine vsCall_view [([3], ⟨us o, 1, false⟩)] ht' (ViewL.cons (view_us (by rw [ho, hiw])) ViewL.nil) (by simp [Store.put]) ?_
    simp only [SS, Nat.reduceAdd, Nat.reduceSub, Nat.reduceMul, Nat.reduceEqDiff, reduceIte]
    exact retQ_ret ▸ retQ_of_pure rfl (W_pure _)
end
end Go.VL
end

section
set_option linter.unusedSimpArgs false
namespace Go.VL
theorem mul64 (a b : Nat) (ha : a < B32) (hb : b < B32) : IntKind.u64.wrap ((a : Int) * (b : Int)) = ((a * b : Nat) : Int) := by
  have : a * b ≤ 4294967295 * 4294967295 := Nat.mul_le_mul (by unfold B32 at ha; omega) (by unfold B32 at hb; omega)
  rw [← Int.natCast_mul, IntKind.wrap_u64]; omega
theorem mul_le {a b : Nat} (ha : a < B32) (hb : b < B32) : a * b ≤ 18446744065119617025 := by
  have : a * b ≤ 4294967295 * 4294967295 := Nat.mul_le_mul (by unfold B32 at ha; omega) (by unfold B32 at hb; omega)
  omega
theorem add_i64 (a b : Nat) (h : a + b ≤ 9223372036854775807) : IntKind.i64.wrap ((a : Int) + (b : Int)) = ((a + b : Nat) : Int) := by rw [IntKind.wrap_i64]; omega
theorem zero_above {o : List Nat} {k y : Nat} (h : val o < B32 ^ k) (hy : o[k]? = some y) : y = 0 := by
  have := val_set (x := 0) hy
  rcases Nat.eq_zero_or_pos y with h0 | h0
  · exact h0
  · have : B32 ^ k * 1 ≤ B32 ^ k * y := Nat.mul_le_mul_left _ h0
    omega
theorem prod_step {o o' : List Nat} {i j c x y z s v : Nat} (hz : o'[i + j]? = some z) (hv : val o' + B32 ^ (i + j) * c = val o + B32 ^ i * (x * v)) (hs : s = c + (x * y + z)) :
    val (o'.set (i + j) (s % B32)) + B32 ^ (i + (j + 1)) * (s / B32) = val o + B32 ^ i * (x * (v + B32 ^ j * y)) := by
  have e1 := val_set (x := s % B32) hz
  have e2 : B32 ^ (i + j) * (s % B32) + B32 ^ (i + j) * (B32 * (s / B32)) = B32 ^ (i + j) * c + B32 ^ (i + j) * (x * y) + B32 ^ (i + j) * z := by
    rw [← Nat.mul_add, Nat.mod_add_div, hs, Nat.mul_add, Nat.mul_add]; omega
  have e3 : B32 ^ (i + (j + 1)) * (s / B32) = B32 ^ (i + j) * (B32 * (s / B32)) := by rw [← Nat.add_assoc, Nat.pow_succ, Nat.mul_assoc]
  have e4 : B32 ^ i * (x * (v + B32 ^ j * y)) = B32 ^ i * (x * v) + B32 ^ (i + j) * (x * y) := by
    rw [Nat.mul_add, Nat.mul_add, Nat.pow_add]
    congr 1
    rw [Nat.mul_assoc, Nat.mul_left_comm x]
  rw [e3, e4]
  omega
theorem wlen_pos_iff {n : Nat} : wlen n = 0 ↔ n = 0 := by
  constructor
  · intro h; exact digits_eq_nil.1 (List.length_eq_zero_iff.1 h)
  · intro h; rw [h, wlen, digits_zero]; rfl
section
variable {P : Program} {G : Nat → Option (List AV)}
theorem times_ok {f ft : FuncId} (h : Has P f (w_integer_times ft)) (ht : TrimC P G ft) (m n : Nat) (hm : wlen m ≤ 1000000) (hn : wlen n ≤ 1000000) : VP P G f [W m, W n] (W (m * n)) := by
  refine VP.has h ?_
  have z1 : wlen m = 0 → decide ((wlen m : Int) = 0) = true := fun h => dec_true (by omega)
  have z2 : ¬ wlen m = 0 → decide ((wlen m : Int) = 0) = false := fun h => dec_false (by omega)
  have z3 : wlen n = 0 → decide ((wlen n : Int) = 0) = true := fun h => dec_true (by omega)
  have z4 : ¬ wlen n = 0 → decide ((wlen n : Int) = 0) = false := fun h => dec_false (by omega)
  have hnil : m * n = 0 → ∀ σ, View σ .nils (W (m * n)) := fun h σ => by rw [h]; simp only [W, digits_zero, us]; exact View.nils 1
  have hmk : ∀ p : Id, vmksl p 1 4 (.int .u32 0) (.int .i64 ((wlen m + wlen n : Nat) : Int)) (.int .i64 ((wlen m + wlen n : Nat) : Int)) = some { val := .osl p 1 0 (wlen m + wlen n) false, up := [(p, some ⟨us (List.replicate (wlen m + wlen n) 0), 1, false⟩)] } := fun p => mkz_us (by omega)
  have hL := add_i64 (wlen m) (wlen n) (by omega)
  simp only [w_integer_times, SS, Nat.reduceAdd, Nat.reduceSub, Nat.reduceMul, Nat.reduceEqDiff, reduceIte, W_len]
  by_cases h0 : wlen m = 0
  · simp only [SS, Nat.reduceAdd, Nat.reduceSub, Nat.reduceMul, Nat.reduceEqDiff, reduceIte, z1 h0]
    refine retQ_ret ▸ ⟨.nils, rfl, hnil (by rw [wlen_pos_iff.1 h0]; simp) _⟩
  by_cases h1 : wlen n = 0
  · simp only [SS, Nat.reduceAdd, Nat.reduceSub, Nat.reduceMul, Nat.reduceEqDiff, reduceIte, z2 h0, z3 h1, W_len]
    refine retQ_ret ▸ ⟨.nils, rfl, hnil (by rw [wlen_pos_iff.1 h1]; simp) _⟩
  simp only [SS, Nat.reduceAdd, Nat.reduceSub, Nat.reduceMul, Nat.reduceEqDiff, reduceIte, z2 h0, z4 h1, W_len, hL, hmk, vwp_loop]
  refine VW.loopQ (α := Nat × Nat × List Nat) (fun x => ⟨[W m, W n, .top, .top, .top, .osl [14] 1 0 (wlen m + wlen n) false] ++ List.replicate 19 .top ++ [W m, .int .i64 (wlen m), .int .i64 x.1] ++ List.replicate 47 .top,
    Store.put (fun _ => none) [14] (some ⟨us x.2.2, 1, false⟩), x.2.1⟩)
    (fun x => x.1 ≤ wlen m ∧ x.2.2.length = wlen m + wlen n ∧ Wd x.2.2 ∧ val x.2.2 = val ((digits m).take x.1) * n) (fun x => wlen m - x.1) (0, 19, List.replicate (wlen m + wlen n) 0) ?_ ?_ ?_
  · exact Wk.slots (by simp [Fg, List.replicate]) (Nat.le_refl _)
  · exact ⟨Nat.zero_le _, List.length_replicate .., wd_zeros _, by simp only []; rw [val_zeros (fun w hw => List.eq_of_mem_replicate hw)]; simp [val]⟩
  rintro ⟨i, nn, o⟩ ⟨hi, ho, hwd, hv⟩
  simp only [] at hi ho hwd hv
  have hd1 : i < wlen m → decide ((i : Int) < (wlen m : Int)) = true := fun h => dec_true (by omega)
  have hd2 : ¬ i < wlen m → decide ((i : Int) < (wlen m : Int)) = false := fun h => dec_false (by omega)
  have hie : ¬ i < wlen m → i = wlen m := by omega
  have hwi := wrap_succ_i64 i (by omega)
  have hs1 : i < wlen m → i + 1 ≤ wlen m ∧ wlen m - (i + 1) < wlen m - i := fun h => by omega
  have hin := add_i64 i (wlen n) (by omega)
  have hina : i < wlen m → i + wlen n < wlen m + wlen n := fun h => by omega
  simp only [SS, Nat.reduceAdd, Nat.reduceSub, Nat.reduceMul, Nat.reduceEqDiff, reduceIte]
  by_cases hlt : i < wlen m
  · obtain ⟨a, ha⟩ : ∃ a, (digits m)[i]? = some a := ⟨_, List.getElem?_eq_getElem hlt⟩
    have haw := digits_wd m a (List.mem_of_getElem? ha)
    have f1 := w64_word a haw
    have hz0 : o[i + wlen n]? = some 0 := by
      obtain ⟨y, hy⟩ : ∃ y, o[i + wlen n]? = some y := ⟨_, List.getElem?_eq_getElem (by rw [ho]; exact hina hlt)⟩
      have e := zero_above (k := i + wlen n) (by
        rw [hv, Nat.pow_add]
        have h2 : val ((digits m).take i) < B32 ^ i := by
          have := val_lt (wd_take (digits_wd m) i)
          rwa [List.length_take, Nat.min_eq_left (show i ≤ (digits m).length from Nat.le_of_lt hlt)] at this
        exact Nat.mul_lt_mul'' h2 (lt_pow_wlen n)) hy
      rw [e] at hy; exact hy
    simp only [SS, Nat.reduceAdd, Nat.reduceSub, Nat.reduceMul, Nat.reduceEqDiff, reduceIte, hd1 hlt, W_get ha, W_len, vload_ep, part_int, vwp_loop]
    refine VW.loopQ (α := Nat × Nat × List Nat × Nat) (fun x => ⟨[W m, W n, .top, .top, .top, .osl [14] 1 0 (wlen m + wlen n) false, .int .i64 i, .int .u32 a, .int .u64 (x.2.2.2 : Int)] ++ List.replicate 16 .top ++ [W m, .int .i64 (wlen m), .int .i64 i] ++ List.replicate 4 .top ++ [W n, .int .i64 (wlen n), .int .i64 x.1] ++ List.replicate 40 .top,
      Store.put (fun _ => none) [14] (some ⟨us x.2.2.1, 1, false⟩), x.2.1⟩)
      (fun x => x.1 ≤ wlen n ∧ x.2.2.1.length = wlen m + wlen n ∧ Wd x.2.2.1 ∧ x.2.2.2 < B32 ∧ x.2.2.1[i + wlen n]? = some 0 ∧ val x.2.2.1 + B32 ^ (i + x.1) * x.2.2.2 = val o + B32 ^ i * (a * val ((digits n).take x.1))) (fun x => wlen n - x.1) (0, nn + 10, o, 0) ?_ ?_ ?_
    · exact Wk.slots (by simp [Fg, List.replicate]) (by simp only []; omega)
    · exact ⟨Nat.zero_le _, ho, hwd, B32_pos, hz0, by simp [val]⟩
    rintro ⟨j, mm, o', c⟩ ⟨hj, ho', hwd', hc, hz, hv'⟩
    simp only [] at hj ho' hwd' hc hz hv'
    have hd3 : j < wlen n → decide ((j : Int) < (wlen n : Int)) = true := fun h => dec_true (by omega)
    have hd4 : ¬ j < wlen n → decide ((j : Int) < (wlen n : Int)) = false := fun h => dec_false (by omega)
    have hje : ¬ j < wlen n → j = wlen n := by omega
    have hwj := wrap_succ_i64 j (by omega)
    have hs2 : j < wlen n → j + 1 ≤ wlen n ∧ wlen n - (j + 1) < wlen n - j := fun h => by omega
    have hij := add_i64 i j (by omega)
    have hija : j < wlen n → i + j < wlen m + wlen n := fun h => by omega
    have hne : j < wlen n → i + j ≠ i + wlen n := fun h => by omega
    simp only [SS, Nat.reduceAdd, Nat.reduceSub, Nat.reduceMul, Nat.reduceEqDiff, reduceIte]
    by_cases hjt : j < wlen n
    · obtain ⟨b, hb⟩ : ∃ b, (digits n)[j]? = some b := ⟨_, List.getElem?_eq_getElem hjt⟩
      have hbw := digits_wd n b (List.mem_of_getElem? hb)
      have f2 := w64_word b hbw
      obtain ⟨z, hzz⟩ : ∃ z, o'[i + j]? = some z := ⟨_, List.getElem?_eq_getElem (by rw [ho']; exact hija hjt)⟩
      have hzw := hwd' z (List.mem_of_getElem? hzz)
      have f3 := w64_word z hzw
      have f4 := mul64 a b haw hbw
      have hle := mul_le haw hbw
      have f5 := add64 (a * b) z (by unfold B32 at hzw; omega)
      have f6 := add64 c (a * b + z) (by unfold B32 at hzw hc; omega)
      have hc' : (c + (a * b + z)) / B32 < B32 := by unfold B32 at hzw hc ⊢; omega
      have hia := iaddr_own (q := [14]) (t := false) (hija hjt)
      have hst := prod_step hzz hv' (rfl : c + (a * b + z) = c + (a * b + z))
      simp only [SS, Nat.reduceAdd, Nat.reduceSub, Nat.reduceMul, Nat.reduceEqDiff, reduceIte, hd3 hjt, W_get hb, W_len, vload_ep, part_int, f1, f2, f4, hij, hia]
      rw [load_us (o := o') (b := false) (by simp [Store.put]) hzz]
      simp only [SS, Nat.reduceAdd, Nat.reduceSub, Nat.reduceMul, Nat.reduceEqDiff, reduceIte, f3, f5, f6, w32, hij, hia]
      rw [store_us (o := o') (by simp [Store.put]) (by rw [ho']; exact hija hjt)]
      simp only [SS, Nat.reduceAdd, Nat.reduceSub, Nat.reduceMul, Nat.reduceEqDiff, reduceIte, shr32, hwj]
      refine ⟨(j + 1, _, o'.set (i + j) ((c + (a * b + z)) % B32), (c + (a * b + z)) / B32), ⟨(hs2 hjt).1, by simp [ho'], wd_set hwd' (Nat.mod_lt _ B32_pos), hc', ?_, ?_⟩, (hs2 hjt).2, Wk.forget (by simp [Fg, List.replicate]) (fun j => ?_) (Nat.le_refl _)⟩
      · rw [List.getElem?_set_ne (hne hjt)]; exact hz
      · show _ = val o + B32 ^ i * (a * val ((digits n).take (j + 1)))
        rw [val_take_succ hb]; exact hst
      · simp only [Store.put]; split <;> simp
    · have hjw := hje hjt
      have hia := iaddr_own (q := [14]) (t := false) (hina hlt)
      have f7 : IntKind.u32.wrap (c : Int) = (c : Int) := by rw [w32, Nat.mod_eq_of_lt hc]
      have hval : val (o'.set (i + wlen n) c) = val ((digits m).take (i + 1)) * n := by
        have e := val_set (x := c) hz
        have e2 : (digits n).take (wlen n) = digits n := List.take_of_length_le (Nat.le_refl _)
        rw [hjw, e2, val_digits, hv] at hv'
        rw [val_take_succ ha, Nat.add_mul]
        have e3 : B32 ^ i * a * n = B32 ^ i * (a * n) := Nat.mul_assoc _ _ _
        omega
      simp only [SS, Nat.reduceAdd, Nat.reduceSub, Nat.reduceMul, Nat.reduceEqDiff, reduceIte, hd4 hjt, W_len, hin, f7, hia]
      rw [store_us (o := o') (by simp [Store.put]) (by rw [ho']; exact hina hlt)]
      simp only [SS, Nat.reduceAdd, Nat.reduceSub, Nat.reduceMul, Nat.reduceEqDiff, reduceIte, hwi]
      refine ⟨(i + 1, _, o'.set (i + wlen n) c), ⟨(hs1 hlt).1, by simp [ho'], wd_set hwd' hc, hval⟩, (hs1 hlt).2, Wk.forget (by simp [Fg, List.replicate]) (fun j => ?_) (Nat.le_refl _)⟩
      simp only [Store.put]; split <;> simp
  · have hiw := hie hlt
    have e1 : (digits m).take (wlen m) = digits m := List.take_of_length_le (Nat.le_refl _)
    have hvo : val o = m * n := by rw [hv, hiw, e1, val_digits]
    have ht' := ht o hwd (by rw [ho]; omega)
    rw [hvo] at ht'
    simp only [SS, Nat.reduceAdd, Nat.reduceSub, Nat.reduceMul, Nat.reduceEqDiff, reduceIte, hd2 hlt]
    refine vsCall_view [([14], ⟨us o, 1, false⟩)] ht' (ViewL.cons (view_us ho.symm) ViewL.nil) (by simp [Store.put]) ?_
    simp only [SS, Nat.reduceAdd, Nat.reduceSub, Nat.reduceMul, Nat.reduceEqDiff, reduceIte]
    exact retQ_ret ▸ retQ_of_pure rfl (W_pure _)
end
end Go.VL
end

section
set_option linter.unusedSimpArgs false
namespace Go.VL
theorem bin_or {k : IntKind} {a b : Int} : vbinq .or .int (.int k a) (.int k b) = some (.int k (k.wrap (BitVec.ofInt k.bits a ||| BitVec.ofInt k.bits b).toNat)) := by
  simp only [vbinq]; rw [show vbin .or .int (.int k a) (.int k b) = some (.int k (k.wrap (BitVec.ofInt k.bits a ||| BitVec.ofInt k.bits b).toNat)) from by simp [vbin, vint, bitsOf]]
theorem or64 (a b : Nat) (ha : a < 18446744073709551616) (hb : b < 18446744073709551616) : vbinq .or .int (.int .u64 (a : Int)) (.int .u64 (b : Int)) = some (.int .u64 ((a ||| b : Nat) : Int)) := by
  have hx : a ||| b < 2 ^ 64 := Nat.or_lt_two_pow (by omega) (by omega)
  have h1 : (BitVec.ofInt 64 (a : Int)).toNat = a := by
    rw [BitVec.ofInt_natCast, BitVec.toNat_ofNat]; exact Nat.mod_eq_of_lt (by omega)
  have h2 : (BitVec.ofInt 64 (b : Int)).toNat = b := by
    rw [BitVec.ofInt_natCast, BitVec.toNat_ofNat]; exact Nat.mod_eq_of_lt (by omega)
  rw [bin_or]
  show some (AV.int .u64 (IntKind.u64.wrap ((BitVec.ofInt 64 (a : Int) ||| BitVec.ofInt 64 (b : Int)).toNat : Int))) = _
  rw [BitVec.toNat_or, h1, h2, w64 _ (by omega)]
theorem or32 (a b : Nat) (ha : a < B32) (hb : b < B32) : vbinq .or .int (.int .u32 (a : Int)) (.int .u32 (b : Int)) = some (.int .u32 ((a ||| b : Nat) : Int)) := by
  unfold B32 at ha hb
  have hx : a ||| b < 2 ^ 32 := Nat.or_lt_two_pow (by omega) (by omega)
  have h1 : (BitVec.ofInt 32 (a : Int)).toNat = a := by
    rw [BitVec.ofInt_natCast, BitVec.toNat_ofNat]; exact Nat.mod_eq_of_lt (by omega)
  have h2 : (BitVec.ofInt 32 (b : Int)).toNat = b := by
    rw [BitVec.ofInt_natCast, BitVec.toNat_ofNat]; exact Nat.mod_eq_of_lt (by omega)
  rw [bin_or]
  show some (AV.int .u32 (IntKind.u32.wrap ((BitVec.ofInt 32 (a : Int) ||| BitVec.ofInt 32 (b : Int)).toNat : Int))) = _
  rw [BitVec.toNat_or, h1, h2, w32, Nat.mod_eq_of_lt (by unfold B32; omega)]
theorem or_hi (a b : Nat) (ha : a < B32) (hb : b < B32) : vbinq .or .int (.int .u64 ((B32 * a : Nat) : Int)) (.int .u64 (b : Int)) = some (.int .u64 ((B32 * a + b : Nat) : Int)) := by
  rw [or64 _ _ (by unfold B32 at *; omega) (by unfold B32 at *; omega)]
  have := Nat.two_pow_add_eq_or_of_lt (i := 32) (b := b) (by unfold B32 at hb; omega) a
  rw [show B32 = 2 ^ 32 from rfl, this]
theorem shl_hi (a : Nat) (ha : a < B32) : vbinq .shl .int (.int .u64 (a : Int)) (.int .u64 32) = some (.int .u64 ((B32 * a : Nat) : Int)) := by
  rw [bin_shl (by decide)]
  have : IntKind.u64.wrap ((a : Int) * 2 ^ (min (32 : Int).toNat IntKind.u64.bits)) = ((B32 * a : Nat) : Int) := by
    show IntKind.u64.wrap ((a : Int) * 2 ^ 32) = _
    rw [IntKind.wrap_u64]; unfold B32 at *; omega
  rw [this]
theorem quo64 (a b : Nat) (ha : a < 18446744073709551616) (hb : b ≠ 0) : vbinq .quo .int (.int .u64 (a : Int)) (.int .u64 (b : Int)) = some (.int .u64 ((a / b : Nat) : Int)) := by
  rw [bin_quo (by omega)]
  show some (AV.int .u64 (IntKind.u64.wrap ((a / b : Nat) : Int))) = _
  rw [w64 _ (Nat.lt_of_le_of_lt (Nat.div_le_self _ _) ha)]
theorem rem64 (a b : Nat) (hb : b ≠ 0) : vbinq .rem .int (.int .u64 (a : Int)) (.int .u64 (b : Int)) = some (.int .u64 ((a % b : Nat) : Int)) := by
  rw [bin_rem (by omega)]; rfl
def zs (k : Nat) : List Nat := List.replicate k 0
theorem zs_zero : zs 0 = [] := rfl
theorem set_post (q : List Nat) (j x : Nat) : (zs (j + 1) ++ q).set j x = zs j ++ x :: q := by
  unfold zs
  rw [List.replicate_succ', List.append_assoc, List.set_append_right _ _ (by simp)]
  simp
section
variable {P : Program} {G : Nat → Option (List AV)}
theorem divideWord_ok {f ft fu : FuncId} (h : Has P f (w_integer_divideWord ft fu)) (ht : TrimC P G ft) (hu : ∀ n, n < 18446744073709551616 → VP P G fu [.int .u64 ((n : Nat) : Int)] (W n)) (m w : Nat) (hm : wlen m ≤ 1000000) (hw : w < B32) (hw0 : w ≠ 0) :
    VP P G f [W m, .int .u32 (w : Int)] (.tup [W (m / w), W (m % w)]) := by
  refine VP.has h ?_
  have hmk : ∀ p : Id, vmksl p 1 4 (.int .u32 0) (.int .i64 (wlen m : Int)) (.int .i64 (wlen m : Int)) = some { val := .osl p 1 0 (wlen m) false, up := [(p, some ⟨us (List.replicate (wlen m) 0), 1, false⟩)] } := fun p => mkz_us (by omega)
  have hwL : IntKind.i64.wrap ((wlen m : Int) - 1) = (wlen m : Int) - 1 := by rw [IntKind.wrap_i64]; omega
  have f0 := w64_word w hw
  have hwz : ((w : Nat) : Int) ≠ 0 := by omega
  simp only [w_integer_divideWord, SS, Nat.reduceAdd, Nat.reduceSub, Nat.reduceMul, Nat.reduceEqDiff, reduceIte, W_len, hmk, hwL, vwp_loop]
  refine VW.loopQ (α := Nat × Nat × List Nat × Nat) (fun x => ⟨[W m, .int .u32 (w : Int), .top, .top, .top, .top, .osl [4] 1 0 (wlen m) false, .int .u64 (x.2.2.2 : Int), .int .i64 ((x.1 : Int) - 1)] ++ List.replicate 34 .top,
    Store.put (fun _ => none) [4] (some ⟨us (zs x.1 ++ x.2.2.1), 1, false⟩), x.2.1⟩)
    (fun x => x.1 + x.2.2.1.length = wlen m ∧ Wd x.2.2.1 ∧ x.2.2.2 < w ∧ val ((digits m).drop x.1) = val x.2.2.1 * w + x.2.2.2) (fun x => x.1) (wlen m, 11, [], 0) ?_ ?_ ?_
  · rw [List.append_nil]; exact Wk.slots (by simp [Fg, List.replicate]) (Nat.le_refl _)
  · refine ⟨by simp, by intro w hw; simp at hw, Nat.pos_of_ne_zero hw0, ?_⟩
    show val ((digits m).drop (wlen m)) = _
    rw [List.drop_eq_nil_of_le (show (digits m).length ≤ wlen m from Nat.le_refl _)]; simp [val]
  rintro ⟨k, nn, q, r⟩ ⟨hk, hwd, hr, hv⟩
  simp only [] at hk hwd hr hv
  by_cases h0 : k = 0
  · subst h0
    have d0 : decide ((0 : Int) ≤ ((0 : Nat) : Int) - 1) = false := by decide
    have e : m / w = val q ∧ m % w = r := by
      rw [List.drop_zero, val_digits] at hv
      refine (Nat.div_mod_unique (Nat.pos_of_ne_zero hw0)).2 ⟨?_, hr⟩
      rw [hv, Nat.mul_comm w]; omega
    have ht' := ht q hwd (by omega)
    rw [← e.1] at ht'
    have hu' := hu r (by unfold B32 at hw; omega)
    have hq : wlen m = q.length := by omega
    simp only [SS, Nat.reduceAdd, Nat.reduceSub, Nat.reduceMul, Nat.reduceEqDiff, reduceIte, d0, zs_zero, List.nil_append]
    refine vsCall_view [([4], ⟨us q, 1, false⟩)] ht' (ViewL.cons (view_us hq) ViewL.nil) (by simp [Store.put]) ?_
    simp only [SS, Nat.reduceAdd, Nat.reduceSub, Nat.reduceMul, Nat.reduceEqDiff, reduceIte]
    refine vsCall_VP hu' (by simp [PureAV.int]) ?_
    simp only [SS, Nat.reduceAdd, Nat.reduceSub, Nat.reduceMul, Nat.reduceEqDiff, reduceIte]
    rw [e.2]
    exact retQ_ret ▸ retQ_of_pure rfl (PureAV.tup (by intro c hc; simp at hc; rcases hc with rfl | rfl <;> exact W_pure _))
  · obtain ⟨j, rfl⟩ : ∃ j, k = j + 1 := ⟨k - 1, by omega⟩
    have d0 : decide ((0 : Int) ≤ (j : Int)) = true := dec_true (by omega)
    have hj : ((j + 1 : Nat) : Int) - 1 = (j : Int) := by omega
    have hjl : j < wlen m := by omega
    have hwj : IntKind.i64.wrap ((j : Int) - 1) = (j : Int) - 1 := by rw [IntKind.wrap_i64]; omega
    obtain ⟨a, ha⟩ : ∃ a, (digits m)[j]? = some a := ⟨_, List.getElem?_eq_getElem hjl⟩
    have haw := digits_wd m a (List.mem_of_getElem? ha)
    have f1 := w64_word a haw
    have hrB : r < B32 := by omega
    have f2 := shl_hi r hrB
    have f3 := or_hi r a hrB haw
    have hlt : B32 * r + a < 18446744073709551616 := by unfold B32 at *; omega
    have f4 := quo64 (B32 * r + a) w hlt hw0
    have f5 := rem64 (B32 * r + a) w hw0
    have hqlt : (B32 * r + a) / w < B32 := by
      rw [Nat.div_lt_iff_lt_mul (Nat.pos_of_ne_zero hw0)]
      have : B32 * (r + 1) ≤ B32 * w := Nat.mul_le_mul_left _ hr
      rw [Nat.mul_add] at this
      omega
    have f6 : IntKind.u32.wrap (((B32 * r + a) / w : Nat) : Int) = (((B32 * r + a) / w : Nat) : Int) := by rw [w32, Nat.mod_eq_of_lt hqlt]
    have hia := iaddr_own (q := [4]) (t := false) hjl
    have hol : j < (zs (j + 1) ++ q).length := by simp [zs]; omega
    have hv' : val ((digits m).drop j) = val ((B32 * r + a) / w :: q) * w + (B32 * r + a) % w := by
      rw [List.drop_eq_getElem_cons (show j < (digits m).length from hjl)]
      obtain ⟨_, h2⟩ := List.getElem?_eq_some_iff.1 ha
      rw [h2]
      simp only [val]
      rw [hv, Nat.add_mul, Nat.mul_add, Nat.mul_assoc B32]
      have := Nat.div_add_mod (B32 * r + a) w
      rw [Nat.mul_comm] at this
      omega
    have hkl : j + ((B32 * r + a) / w :: q).length = wlen m := by simp; omega
    simp only [SS, Nat.reduceAdd, Nat.reduceSub, Nat.reduceMul, Nat.reduceEqDiff, reduceIte, d0, hj, W_get ha, vload_ep, part_int, f0, f1, f2, f3, f4, f5, f6, hia]
    rw [store_us (o := zs (j + 1) ++ q) (by simp [Store.put]) hol, set_post]
    simp only [SS, Nat.reduceAdd, Nat.reduceSub, Nat.reduceMul, Nat.reduceEqDiff, reduceIte, f0, f5, hwj]
    refine ⟨(j, _, (B32 * r + a) / w :: q, (B32 * r + a) % w), ⟨hkl, ?_, Nat.mod_lt _ (Nat.pos_of_ne_zero hw0), hv'⟩, Nat.lt_succ_self j, Wk.forget (by simp [Fg, List.replicate]) (fun j => ?_) (Nat.le_refl _)⟩
    · intro z hz
      rcases List.mem_cons.1 hz with rfl | hz
      · exact hqlt
      · exact hwd z hz
    · simp only [Store.put]; split <;> simp
end
end Go.VL
end
