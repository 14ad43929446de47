/- Part 3 of the proof: Shelf. -/
import Derived.Test.YtgbfaggnnfoamaaZg2
import Derived.Shelf.Small.Wraps
import Derived.Shelf.Strings.Search1
import Derived.Shelf.Strings.Search2
import Derived.Shelf.Strings.Cut
import Derived.Shelf.LaysM
import Derived.Shelf.Strings.Shaped
import Derived.Shelf.Strings.Prefix
import Derived.Shelf.Bits.Mul64
import Derived.Test.YtgbfaggnnfoamaaProg
set_option linter.unusedVariables false
set_option linter.unusedSimpArgs false
namespace Go.Proofs
open Go.Shelf
def Try.lays103_ren : Go.Shelf.Ren := ⟨fun | 103 => 37 | 210 => 55 | 206 => 67 | n => n, fun | 9 => 9 | 4 => 4 | 24 => 66 | 3 => 3 | n => n, fun | n => n⟩
theorem Try.lays103 : Go.Proofs.Lays.n103 Try.prog Try.lays103_ren := {
 mixed := by kernel_rfl
 f103 := Try.func37.trans (congrArg some (by kernel_rfl))
 f206 := Try.func67.trans (congrArg some (by kernel_rfl))
 f210 := Try.func55.trans (congrArg some (by kernel_rfl))
 t3 := Try.underlying3
 a3 := Try.isAgg3
 z3 := Try.sizeOf3
 v3 := Try.zeroValue3
 t4 := Try.underlying4
 a4 := Try.isAgg4
 z4 := Try.sizeOf4
 v4 := Try.zeroValue4
 t9 := Try.underlying9
 a9 := Try.isAgg9
 z9 := Try.sizeOf9
 v9 := Try.zeroValue9
 t24 := Try.underlying66
 a24 := Try.isAgg66
 z24 := Try.sizeOf66
 v24 := Try.zeroValue66 }
open Go.RowKit in
theorem Try.strings_CutPrefix (s p : ByteArray) (w : World) :
  Calls Try.prog 37 #[.string s, .string p] w fun e w' => e = .returned (.tuple #[.string ⟨(Lib.trimPrefix s.data.toList p.data.toList).toArray⟩, .bool (Lib.hasPrefix s.data.toList p.data.toList)]) ∧ w' = w := Any.strings_CutPrefix Try.lays103 s p w
def Try.lays145_ren : Go.Shelf.Ren := ⟨fun | 145 => 38 | 220 => 56 | 219 => 68 | 217 => 75 | 225 => 76 | 224 => 77 | 267 => 78 | 266 => 88 | 314 => 89 | n => n, fun | 9 => 9 | 4 => 4 | 59 => 68 | 3 => 3 | 5 => 5 | 46 => 98 | 146 => 114 | 51 => 113 | n => n, fun | 1 => 0 | n => n⟩
theorem Try.lays145 : Go.Proofs.Lays.n145 Try.prog Try.lays145_ren := {
 mixed := by kernel_rfl
 f145 := Try.func38.trans (congrArg some (by kernel_rfl))
 f217 := Try.func75.trans (congrArg some (by kernel_rfl))
 f219 := Try.func68.trans (congrArg some (by kernel_rfl))
 f220 := Try.func56.trans (congrArg some (by kernel_rfl))
 f224 := Try.func77.trans (congrArg some (by kernel_rfl))
 f225 := Try.func76.trans (congrArg some (by kernel_rfl))
 f266 := Try.func88.trans (congrArg some (by kernel_rfl))
 f267 := Try.func78.trans (congrArg some (by kernel_rfl))
 f314 := Try.func89.trans (congrArg some (by kernel_rfl))
 t3 := Try.underlying3
 a3 := Try.isAgg3
 z3 := Try.sizeOf3
 v3 := Try.zeroValue3
 t4 := Try.underlying4
 a4 := Try.isAgg4
 z4 := Try.sizeOf4
 v4 := Try.zeroValue4
 t5 := Try.underlying5
 a5 := Try.isAgg5
 z5 := Try.sizeOf5
 v5 := Try.zeroValue5
 t9 := Try.underlying9
 a9 := Try.isAgg9
 z9 := Try.sizeOf9
 v9 := Try.zeroValue9
 t46 := Try.underlying98
 a46 := Try.isAgg98
 z46 := Try.sizeOf98
 v46 := Try.zeroValue98
 t51 := Try.underlying113
 a51 := Try.isAgg113
 z51 := Try.sizeOf113
 v51 := Try.zeroValue113
 t59 := Try.underlying68
 a59 := Try.isAgg68
 z59 := Try.sizeOf68
 v59 := Try.zeroValue68
 t146 := Try.underlying114
 a146 := Try.isAgg114
 z146 := Try.sizeOf114
 v146 := Try.zeroValue114
 g1 := by kernel_rfl }
open Go.RowKit Go.Lib in
theorem Try.strings_Cut (s sep : ByteArray) (m : Int) (w : World) (hs : s.size < 4294967281) (hm : w.cell? ⟨0, 0, none⟩ = some (.int .i64 m)) :
  Calls Try.prog 38 #[.string s, .string sep] w fun e w' => e = .returned (.tuple #[.string ⟨(Lib.cut s.data.toList sep.data.toList).1.toArray⟩, .string ⟨(Lib.cut s.data.toList sep.data.toList).2.1.toArray⟩, .bool (Lib.cut s.data.toList sep.data.toList).2.2]) ∧ ∃ n, w' = w.drewN n := Any.strings_Cut Try.lays145 s sep m w hs hm
def Try.lays100_ren : Go.Shelf.Ren := ⟨fun | 100 => 39 | 207 => 57 | n => n, fun | 9 => 9 | 4 => 4 | 3 => 3 | n => n, fun | n => n⟩
theorem Try.lays100 : Go.Proofs.Lays.n100 Try.prog Try.lays100_ren := {
 mixed := by kernel_rfl
 f100 := Try.func39.trans (congrArg some (by kernel_rfl))
 f207 := Try.func57.trans (congrArg some (by kernel_rfl))
 t3 := Try.underlying3
 a3 := Try.isAgg3
 z3 := Try.sizeOf3
 v3 := Try.zeroValue3
 t4 := Try.underlying4
 a4 := Try.isAgg4
 z4 := Try.sizeOf4
 v4 := Try.zeroValue4
 t9 := Try.underlying9
 a9 := Try.isAgg9
 z9 := Try.sizeOf9
 v9 := Try.zeroValue9 }
open Go.RowKit Go.Lib in
theorem Try.strings_HasSuffix (s p : ByteArray) (w : World) (hs : s.size ≤ 9223372036854775807) :
  Calls Try.prog 39 #[.string s, .string p] w fun e w' => e = .returned (.bool (Lib.hasSuffix s.data.toList p.data.toList)) ∧ w' = w := Any.strings_HasSuffix Try.lays100 s p w hs
def Try.lays212_ren : Go.Shelf.Ren := ⟨fun | 212 => 73 | 263 => 86 | 264 => 87 | n => n, fun | 46 => 98 | 51 => 113 | 146 => 114 | 53 => 116 | 148 => 117 | n => n, fun | n => n⟩
theorem Try.lays212 : Go.Proofs.Lays.n212 Try.prog Try.lays212_ren := {
 mixed := by kernel_rfl
 f212 := Try.func73.trans (congrArg some (by kernel_rfl))
 f263 := Try.func86.trans (congrArg some (by kernel_rfl))
 f264 := Try.func87.trans (congrArg some (by kernel_rfl))
 t46 := Try.underlying98
 a46 := Try.isAgg98
 z46 := Try.sizeOf98
 v46 := Try.zeroValue98
 t51 := Try.underlying113
 a51 := Try.isAgg113
 z51 := Try.sizeOf113
 v51 := Try.zeroValue113
 t53 := Try.underlying116
 a53 := Try.isAgg116
 z53 := Try.sizeOf116
 v53 := Try.zeroValue116
 t146 := Try.underlying114
 a146 := Try.isAgg114
 z146 := Try.sizeOf114
 v146 := Try.zeroValue114
 t148 := Try.underlying117
 a148 := Try.isAgg117
 z148 := Try.sizeOf117
 v148 := Try.zeroValue117 }
open Go.RowKit Go.Lib in
theorem Try.bits_Mul (x y : Nat) (hx : x < 18446744073709551616) (hy : y < 18446744073709551616) (w : World) :
  Calls Try.prog 73 #[.int .u64 x, .int .u64 y] w fun e w' => e = .returned (.tuple #[.int .u64 ((x * y / 18446744073709551616 : Nat) : Int), .int .u64 ((x * y % 18446744073709551616 : Nat) : Int)]) ∧ w' = w := Any.bits_Mul Try.lays212 x y hx hy w
end Go.Proofs
