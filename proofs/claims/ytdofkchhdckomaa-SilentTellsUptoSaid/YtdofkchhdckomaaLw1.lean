import Derived.Shelf.Sort.Plain
import Derived.Ground.Names2Prog
import Derived.Shelf.Slices.Clone
import Derived.Shelf.Slices.CompactI
import Derived.Shelf.Slices.In.SortNone
import Derived.Test.YtdofkchhdckomaaProg
import Derived.Shelf.Spec.SlicesGrow
import Derived.Ground.Names8Prog
import Derived.Shelf.SlGeneric
import Derived.Test.YtdofkchhdckomaaFw6
import Derived.Test.YtdofkchhdckomaaFw7
/-
  DERIVED: THE SHELF's CONTRACTS AT THIS DUMP, IN PLAIN WORDS (tools/lay-plain.mjs out of 'TryShelf.lean', which tools/lay-shelf.mjs wrote): THE SAME DECLARATIONS UNDER THE SAME NAMES: 'import', 'namespace', 'open', 'def', 'theorem' AND NOTHING ELSE: no command of the shelf's: FOR A HAND-IN. Each laying: the table of numbers ('.._ren') and one theorem, a field a fact of the dump's own or the kernel's comparison; each contract: ONE APPLICATION.
-/
namespace Go.Proofs
open Go.Shelf
def Try.lays189_ren : Go.Shelf.Ren := ⟨fun | 189 => 21 | 125 => 32 | 257 => 31 | 128 => 61 | 129 => 62 | 294 => 52 | 295 => 53 | 296 => 54 | 297 => 55 | 298 => 56 | 299 => 57 | 216 => 58 | 300 => 59 | 301 => 60 | 328 => 76 | 329 => 77 | 330 => 78 | 331 => 79 | 332 => 80 | 215 => 81 | 343 => 99 | n => n, fun | 28 => 26 | 3 => 3 | 46 => 82 | 0 => 0 | 51 => 126 | 53 => 128 | 4 => 4 | 183 => 118 | 182 => 117 | 131 => 123 | 5 => 5 | 9 => 9 | 218 => 151 | 222 => 155 | 228 => 172 | 229 => 173 | n => n, fun | n => n⟩
theorem Try.lays189 : Go.Proofs.Lays.n189 Try.prog Try.lays189_ren := {
  mixed := by kernel_rfl
  f125 := Try.func32.trans (congrArg some (by kernel_rfl))
  f128 := Try.func61.trans (congrArg some (by kernel_rfl))
  f129 := Try.func62.trans (congrArg some (by kernel_rfl))
  f189 := Try.func21.trans (congrArg some (by kernel_rfl))
  f215 := Try.func81.trans (congrArg some (by kernel_rfl))
  f216 := Try.func58.trans (congrArg some (by kernel_rfl))
  f257 := Try.func31.trans (congrArg some (by kernel_rfl))
  f294 := Try.func52.trans (congrArg some (by kernel_rfl))
  f295 := Try.func53.trans (congrArg some (by kernel_rfl))
  f296 := Try.func54.trans (congrArg some (by kernel_rfl))
  f297 := Try.func55.trans (congrArg some (by kernel_rfl))
  f298 := Try.func56.trans (congrArg some (by kernel_rfl))
  f299 := Try.func57.trans (congrArg some (by kernel_rfl))
  f300 := Try.func59.trans (congrArg some (by kernel_rfl))
  f301 := Try.func60.trans (congrArg some (by kernel_rfl))
  f328 := Try.func76.trans (congrArg some (by kernel_rfl))
  f329 := Try.func77.trans (congrArg some (by kernel_rfl))
  f330 := Try.func78.trans (congrArg some (by kernel_rfl))
  f331 := Try.func79.trans (congrArg some (by kernel_rfl))
  f332 := Try.func80.trans (congrArg some (by kernel_rfl))
  f343 := Try.func99.trans (congrArg some (by kernel_rfl))
  t0 := Try.underlying0
  a0 := Try.isAgg0
  z0 := Try.sizeOf0
  v0 := Try.zeroValue0
  t3 := Try.underlying3
  a3 := Try.isAgg3
  z3 := Try.sizeOf3
  v3 := Try.zeroValue3
  t4 := Try.underlying4
  a4 := Try.isAgg4
  z4 := Try.sizeOf4
  v4 := Try.zeroValue4
  t5 := Try.underlying5
  a5 := Try.isAgg5
  z5 := Try.sizeOf5
  v5 := Try.zeroValue5
  t9 := Try.underlying9
  a9 := Try.isAgg9
  z9 := Try.sizeOf9
  v9 := Try.zeroValue9
  t28 := Try.underlying26
  a28 := Try.isAgg26
  z28 := Try.sizeOf26
  v28 := Try.zeroValue26
  t46 := Try.underlying82
  a46 := Try.isAgg82
  z46 := Try.sizeOf82
  v46 := Try.zeroValue82
  t51 := Try.underlying126
  a51 := Try.isAgg126
  z51 := Try.sizeOf126
  v51 := Try.zeroValue126
  t53 := Try.underlying128
  a53 := Try.isAgg128
  z53 := Try.sizeOf128
  v53 := Try.zeroValue128
  t131 := Try.underlying123
  a131 := Try.isAgg123
  z131 := Try.sizeOf123
  v131 := Try.zeroValue123
  t182 := Try.underlying117
  a182 := Try.isAgg117
  z182 := Try.sizeOf117
  v182 := Try.zeroValue117
  t183 := Try.underlying118
  a183 := Try.isAgg118
  z183 := Try.sizeOf118
  v183 := Try.zeroValue118
  t218 := Try.underlying151
  a218 := Try.isAgg151
  z218 := Try.sizeOf151
  v218 := Try.zeroValue151
  t222 := Try.underlying155
  a222 := Try.isAgg155
  z222 := Try.sizeOf155
  v222 := Try.zeroValue155
  t228 := Try.underlying172
  a228 := Try.isAgg172
  z228 := Try.sizeOf172
  v228 := Try.zeroValue172
  t229 := Try.underlying173
  a229 := Try.isAgg173
  z229 := Try.sizeOf173
  v229 := Try.zeroValue173 }
open Go.Sort Go.RowKit in
theorem Try.slices_Sort_int (blk off cap : Nat) (zs : List Int) (w : World) (hH : Holds (Value.int .i64) w blk off zs.toArray) (hblk : blk < w.heap.size) (hsz : zs.length < 4611686018427387904) :
    Calls Try.prog 21 #[.slice (some ⟨blk, off, none⟩) zs.length cap] w fun e w' =>
      e = .returned (.tuple #[]) ∧ ∃ n os, w' = grow (putRow (Value.int .i64) (Sort.ahead w n) blk off (zs.mergeSort fun x y => decide (x ≤ y)).toArray) os := Any.slices_Sort_int Try.lays189 blk off cap zs w hH hblk hsz
def Try.laysNm215_ren : Go.Shelf.Ren := ⟨fun | 15 => 34 | n => n, fun | 22 => 26 | 3 => 3 | 4 => 4 | n => n, fun | n => n⟩
theorem Try.laysNm215 : Go.Proofs.Lays2.n15 Try.prog Try.laysNm215_ren := {
  mixed := by kernel_rfl
  f15 := Try.func34.trans (congrArg some (by kernel_rfl))
  t3 := Try.underlying3
  a3 := Try.isAgg3
  z3 := Try.sizeOf3
  v3 := Try.zeroValue3
  t4 := Try.underlying4
  a4 := Try.isAgg4
  z4 := Try.sizeOf4
  v4 := Try.zeroValue4
  t22 := Try.underlying26
  a22 := Try.isAgg26
  z22 := Try.sizeOf26
  v22 := Try.zeroValue26
  i3 := by kernel_rfl }
open Go.RowKit Go.Lib in
theorem Try.slices_Clone_int (b off n c : Nat) (zs : List Int) (w : World) (hz : n ≤ zs.length) (hbig : n * 8 ≤ 140737488355328) (hc : ∀ j, j < zs.length → w.cell? ⟨b, off + j, none⟩ = some (.int .i64 (zs.getD j 0))) :
    Calls Try.prog 34 #[.slice (some ⟨b, off, none⟩) n c] w fun e w' => ∃ v', e = .returned v' ∧ w'.ownsRow w.heap.size 3 1 v' n ((zs.take n).map (Value.int .i64)) ∧ v' ≠ .slice none 0 0 ∧ Below w.heap.size w w' := Any.slices_Clone_int Try.laysNm215 b off n c zs w hz hbig hc
open Go.RowKit Go.Lib in
theorem Try.slices_Clone_int_nil (n c : Nat) (w : World) :
    Calls Try.prog 34 #[.slice none n c] w fun e w' => e = .returned (.slice none 0 0) ∧ w' = w := Any.slices_Clone_int_nil Try.laysNm215 n c w
open Go.RowKit Go.Lib in
theorem Try.slices_Clone_int_zero (a : Addr) (c : Nat) (w : World) :
    Calls Try.prog 34 #[.slice (some a) 0 c] w fun e w' => ∃ v', e = .returned v' ∧ w'.ownsRow w.heap.size 3 1 v' 0 [] ∧ v' ≠ .slice none 0 0 ∧ Below w.heap.size w w' := Any.slices_Clone_int_zero Try.laysNm215 a c w
def Try.laysNm220_ren : Go.Shelf.Ren := ⟨fun | 20 => 22 | n => n, fun | 22 => 26 | 3 => 3 | 4 => 4 | 0 => 0 | n => n, fun | n => n⟩
theorem Try.laysNm220 : Go.Proofs.Lays2.n20 Try.prog Try.laysNm220_ren := {
  mixed := by kernel_rfl
  f20 := Try.func22.trans (congrArg some (by kernel_rfl))
  t0 := Try.underlying0
  a0 := Try.isAgg0
  z0 := Try.sizeOf0
  v0 := Try.zeroValue0
  t3 := Try.underlying3
  a3 := Try.isAgg3
  z3 := Try.sizeOf3
  v3 := Try.zeroValue3
  t4 := Try.underlying4
  a4 := Try.isAgg4
  z4 := Try.sizeOf4
  v4 := Try.zeroValue4
  t22 := Try.underlying26
  a22 := Try.isAgg26
  z22 := Try.sizeOf26
  v22 := Try.zeroValue26
  i3 := by kernel_rfl }
open Go.RowKit Go.Lib Go.Sort in
theorem Try.slices_Compact_int_arr (blk off cap : Nat) (d : Array Int) (w : World) (hH : Holds encI w blk off d) (hsz : d.size ≤ 9223372036854775807) (hcap : d.size ≤ cap) :
    Calls Try.prog 22 #[.slice (some ⟨blk, off, none⟩) d.size cap] w fun e w' => e = .returned (.slice (some ⟨blk, off, none⟩) (compactUpTo d d.size).length cap) ∧ ∃ q, w' = putRow encI (Sort.ahead w q) blk off (compactUpTo d d.size ++ List.replicate (d.size - (compactUpTo d d.size).length) 0).toArray := Any.slices_Compact_int_arr Try.laysNm220 blk off cap d w hH hsz hcap
open Go.RowKit Go.Lib Go.Sort in
theorem Try.slices_Compact_int (blk off cap : Nat) (zs : List Int) (w : World) (hH : Holds (Value.int .i64) w blk off zs.toArray) (hsz : zs.length ≤ 9223372036854775807) (hcap : zs.length ≤ cap) :
    Calls Try.prog 22 #[.slice (some ⟨blk, off, none⟩) zs.length cap] w fun e w' => e = .returned (.slice (some ⟨blk, off, none⟩) (Lib.compact zs).length cap) ∧ ∃ q, w' = putRow (Value.int .i64) (Sort.ahead w q) blk off (Lib.compact zs ++ List.replicate (zs.length - (Lib.compact zs).length) 0).toArray := Any.slices_Compact_int Try.laysNm220 blk off cap zs w hH hsz hcap
open Go.RowKit Go.Lib Go.Sort in
theorem Try.slices_Compact_int_empty (a : Option Addr) (cap : Nat) (w : World) :
    Calls Try.prog 22 #[.slice a 0 cap] w fun e w' => e = .returned (.slice a 0 cap) ∧ w' = w := Any.slices_Compact_int_empty Try.laysNm220 a cap w
open Go.RowKit Go.Sort in
theorem Try.slices_Sort_int_none (p : Option Addr) (cap : Nat) (w : World) :
    Calls Try.prog 21 #[.slice p 0 cap] w fun e w' => e = .returned (.tuple #[]) ∧ w' = w := Any.slices_Sort_int_none Try.lays189 p cap w
end Go.Proofs

/-
  DERIVED: THE SHELF's CONTRACTS AT THIS DUMP, IN PLAIN WORDS (tools/lay-plain.mjs out of 'TryShelfB.lean', which tools/lay-shelf.mjs wrote): THE SAME DECLARATIONS UNDER THE SAME NAMES: 'import', 'namespace', 'open', 'def', 'theorem' AND NOTHING ELSE: no command of the shelf's: FOR A HAND-IN. Each laying: the table of numbers ('.._ren') and one theorem, a field a fact of the dump's own or the kernel's comparison; each contract: ONE APPLICATION.
-/
namespace Go.Proofs
open Go.Shelf
def Try.growI_ren : Go.Shelf.Ren := ⟨fun | 4 => 30 | n => n, fun | 22 => 26 | 25 => 3 | 3 => 3 | 4 => 4 | 9 => 9 | 20 => 20 | 0 => 0 | n => n, fun | n => n⟩
theorem Try.growI : Go.Proofs.Lays8.n4 Try.prog Try.growI_ren := {
  mixed := by kernel_rfl
  f4 := ⟨Try.f30.name, by decide, Try.func30.trans (congrArg some (by kernel_rfl))⟩
  t0 := Try.underlying0
  a0 := Try.isAgg0
  z0 := Try.sizeOf0
  v0 := Try.zeroValue0
  t3 := Try.underlying3
  a3 := Try.isAgg3
  z3 := Try.sizeOf3
  v3 := Try.zeroValue3
  t4 := Try.underlying4
  a4 := Try.isAgg4
  z4 := Try.sizeOf4
  v4 := Try.zeroValue4
  t9 := Try.underlying9
  a9 := Try.isAgg9
  z9 := Try.sizeOf9
  v9 := Try.zeroValue9
  t20 := Try.underlying20
  a20 := Try.isAgg20
  z20 := Try.sizeOf20
  v20 := Try.zeroValue20
  t22 := Try.underlying26
  a22 := Try.isAgg26
  z22 := Try.sizeOf26
  v22 := Try.zeroValue26 }
end Go.Proofs

/- The tables of the evaluator for the functions that interleavelaw07.SilentTells reach: which types, which functions, what is kept where. Written by gen.py. -/
set_option maxRecDepth 100000
set_option linter.unusedVariables false
set_option linter.unusedSimpArgs false
namespace Go.Proofs.YtdCfgT
open Go Go.Ilv
noncomputable def tyTab : List (Nat × Ty) := [
  (2, ⟨.int .i64, 1, 8, [.int .i64 0]⟩),
  (3, ⟨.int .i64, 1, 8, [.int .i64 0]⟩),
  (4, ⟨.bool, 1, 1, [.bool false]⟩),
  (26, ⟨.slice 3, 1, 24, [.nils]⟩),
  (33, ⟨.slice 60, 1, 24, [.nils]⟩),
  (35, ⟨.struct [(0, 3), (1, 33)], 2, 32, [.int .i64 0, .nils]⟩),
  (36, ⟨.slice 2, 1, 24, [.nils]⟩),
  (37, ⟨.slice 26, 1, 24, [.nils]⟩),
  (39, ⟨.struct [(0, 3), (1, 36), (2, 37), (3, 3)], 4, 64, [.int .i64 0, .nils, .nils, .int .i64 0]⟩),
  (60, ⟨.struct [(0, 3), (1, 3), (2, 3), (3, 3), (4, 2), (5, 3)], 6, 48, [.int .i64 0, .int .i64 0, .int .i64 0, .int .i64 0, .int .i64 0, .int .i64 0]⟩),
  (68, ⟨.ptr 39, 1, 8, [.pnil]⟩),
  (82, ⟨.int .u64, 1, 8, [.int .u64 0]⟩)]
/-- interleave/interleavelaw07.SilentTells -/
noncomputable def fi5 : FnI := ⟨Go.Proofs.Try.f5, true, false, [],
  [(0, [2, 3]), (1, [2, 3, 5, 6]), (2, [5, 6, 7, 8]), (3, [4])],
  []⟩
/-- interleave/silent.Union -/
noncomputable def fi11 : FnI := ⟨Go.Proofs.Try.f11, true, false, [8],
  [(0, [0, 1]), (1, [5]), (2, [5]), (3, [4])],
  []⟩
/-- interleave/silent.Settle -/
noncomputable def fi13 : FnI := ⟨Go.Proofs.Try.f13, true, false, [],
  [(0, [2, 3, 4]), (1, [2, 3, 4, 21]), (2, [4, 5]), (3, [2, 3, 4]), (4, [2, 3, 4, 6]), (5, [2, 3, 4, 6, 29]), (6, [2, 3, 4, 6]), (7, [2, 3, 4, 6, 42]), (8, [4, 5]), (9, [2, 3, 4, 6, 7]), (10, [2, 3, 4, 6, 7, 57]), (11, [4, 5]), (12, [2, 3, 4, 6, 68]), (13, [4, 5]), (14, [4, 5])],
  []⟩
/-- interleave/interleaveref07.Settle -/
noncomputable def fi14 : FnI := ⟨Go.Proofs.Try.f14, true, false, [],
  [(0, [2, 3, 4]), (1, [2, 3, 4, 23]), (2, [4, 5]), (3, [2, 3, 4]), (4, [2, 3, 4, 6]), (5, [2, 3, 4, 6, 31]), (6, [2, 3, 4, 6]), (7, [2, 3, 4, 6, 44]), (8, [4, 5]), (9, [2, 3, 4, 6, 7]), (10, [2, 3, 4, 6, 7, 55]), (11, [4, 5]), (12, [2, 3, 4, 6, 7, 61]), (13, [4, 5]), (14, [2, 3, 4, 6, 8, 9]), (15, [2, 3, 4, 6, 8, 70]), (16, [4, 5]), (17, [2, 3, 4, 6]), (18, [4, 5])],
  []⟩
/-- interleave/interleaveref07.SameThread -/
noncomputable def fi15 : FnI := ⟨Go.Proofs.Try.f15, true, false, [],
  [(0, [2, 3]), (1, [2, 3, 36]), (2, [4]), (3, [2, 3, 5]), (4, [2, 3, 5, 41]), (5, [2, 3, 5]), (6, [2, 3, 5, 54]), (7, [4]), (8, [2, 3, 6]), (9, [2, 3, 6, 59]), (10, [2, 3, 6]), (11, [2, 3, 6, 73]), (12, [4]), (13, [4])],
  []⟩
/-- interleave/interleavelaw07.awake -/
noncomputable def fi16 : FnI := ⟨Go.Proofs.Try.f16, true, false, [6, 8, 9, 10],
  [(0, []), (1, [1, 2]), (2, [0])],
  []⟩
/-- interleave/interleaveref07.SameInts -/
noncomputable def fi19 : FnI := ⟨Go.Proofs.Try.f19, true, false, [],
  [(0, [0, 1]), (1, [0, 1, 10]), (2, [4]), (3, [0, 1, 5]), (4, [0, 1, 5, 14]), (5, [0, 1, 5]), (6, [0, 1, 5, 25]), (7, [4]), (8, [4])],
  []⟩
/-- slices.Concat[[]int,int] -/
noncomputable def fi20 : FnI := ⟨Go.Proofs.Try.f20, false, false, [],
  [(0, [0]), (1, [0, 3]), (2, [0, 3, 9, 10, 11]), (3, [0, 3, 9, 10, 11, 12]), (4, [0, 3, 5, 9, 10, 11]), (5, [0, 3, 9, 10, 11]), (6, [0, 3, 9, 10, 11, 20]), (7, [0, 3, 9, 10, 11]), (8, [0, 3, 9, 10, 11]), (9, [0, 6]), (10, [6, 25, 26, 27]), (11, [6, 25, 26, 27, 28]), (12, [6, 8, 25, 26, 27]), (13, [6, 25, 26, 27]), (14, [6, 25, 26, 27]), (15, [2])],
  []⟩
/-- interleave/silent.clone -/
noncomputable def fi23 : FnI := ⟨Go.Proofs.Try.f23, false, false, [],
  [(0, [1, 2]), (1, [1, 2]), (2, [1, 2, 3]), (3, [1, 2, 3, 15, 16, 17]), (4, [1, 2, 3, 15, 16, 17, 18]), (5, [1, 2, 3, 4, 5, 15, 16, 17]), (6, [1, 2, 3, 15, 16, 17]), (7, [1, 2, 3, 15, 16, 17]), (8, [1, 2]), (9, [2])],
  []⟩
/-- interleave/silent.execute -/
noncomputable def fi24 : FnI := ⟨Go.Proofs.Try.f24, false, false, [],
  [(0, [2, 3]), (1, [2, 3, 5]), (2, [2, 3, 5, 6]), (3, [2, 3, 5, 6, 7]), (4, [2, 3, 5, 6, 7, 8]), (5, [2, 3, 5, 6, 7, 8, 11]), (6, [2, 3, 5, 6, 7, 8, 11, 12]), (7, []), (8, [4]), (9, [2, 3, 5, 6, 7, 8, 11, 19]), (10, [2, 3, 5, 6, 7, 8]), (11, [2, 3, 5, 6, 7, 8, 11, 23]), (12, [2, 3, 5, 6, 7, 8]), (13, [2, 3, 5, 6, 7, 8, 29]), (14, [2, 3, 5, 6, 7, 8]), (15, [2, 3, 5, 6, 7, 8, 11, 46]), (16, [2, 3, 5, 6, 7, 8]), (17, [2, 3, 5, 6, 7, 8, 52]), (18, [2, 3, 5, 6, 8]), (19, [2, 3, 5, 6, 7, 8]), (20, [2, 3, 5, 6, 7, 8, 75]), (21, [2, 3, 5, 6, 7, 8]), (22, [2, 3, 5, 6, 7, 8, 87]), (23, [2, 3, 5, 6, 8]), (24, [2, 3, 5, 6, 7, 8]), (25, [2, 3, 6, 7, 135]), (26, [4]), (27, [2]), (28, []), (29, [4])],
  [(27, [(11, 16)])]⟩
/-- interleave/interleaveref07.Copy -/
noncomputable def fi25 : FnI := ⟨Go.Proofs.Try.f25, false, false, [9, 23, 29, 30],
  [(0, [1, 2]), (1, [1, 2, 3]), (2, [1, 2, 3, 4]), (3, [1, 2, 3, 4, 18]), (4, [1, 2, 3, 4]), (5, [1, 2, 3, 4]), (6, [2])],
  [(1, [(1, 7), (1, 9), (3, 7), (3, 9), (4, 9), (6, 9), (7, 9)])]⟩
/-- interleave/interleaveref06.Silent -/
noncomputable def fi26 : FnI := ⟨Go.Proofs.Try.f26, true, false, [],
  [(0, [0]), (1, [2])],
  []⟩
/-- interleave/interleaveref07.step -/
noncomputable def fi27 : FnI := ⟨Go.Proofs.Try.f27, false, false, [123, 125],
  [(0, [2, 3, 4]), (1, [2, 3, 4, 6]), (2, [2, 3, 4, 6, 7]), (3, [2, 3, 4, 6, 7, 16]), (4, [2, 3, 4, 6, 7]), (5, [2, 3, 4, 6, 7, 33]), (6, [4, 5]), (7, [2, 3, 4, 9]), (8, [2, 3, 4, 9, 10]), (9, [2, 3, 4, 9, 10, 36]), (10, [2, 3, 4, 8, 9]), (11, [2, 3, 4, 8, 9, 10]), (12, [2, 3, 4, 9, 10, 36, 69]), (13, [3, 4]), (14, [4, 5]), (15, [2, 3, 4, 9, 10, 36, 75]), (16, [2, 3, 4, 8, 9, 10]), (17, [2, 3, 4, 9, 36, 79]), (18, [2, 3, 4, 8, 9, 10]), (19, [2, 3, 4, 93]), (20, [2, 3, 4, 8, 9]), (21, [2, 3, 4, 8, 9, 10]), (22, [3, 4, 9]), (23, [3, 4, 9]), (24, [4, 5])],
  [(22, [(5, 13), (7, 13)])]⟩
/-- interleave/silent.execute$1 -/
noncomputable def fi35 : FnI := ⟨Go.Proofs.Try.f35, false, false, [],
  [(0, [0, 1]), (1, [3])],
  []⟩
/-- interleave/eval.Unary -/
noncomputable def fi36 : FnI := ⟨Go.Proofs.Try.f36, true, false, [],
  [(0, [0, 1]), (1, [1, 6]), (2, [1, 6, 7]), (3, [4, 5]), (4, [1, 11]), (5, [4, 5]), (6, [4, 5])],
  []⟩
/-- interleave/eval.Binary -/
noncomputable def fi37 : FnI := ⟨Go.Proofs.Try.f37, true, false, [],
  [(0, [0, 1, 2]), (1, [0, 1, 2, 8]), (2, [0, 1, 2, 8, 9]), (3, [6, 7]), (4, [0, 1, 2, 8, 14]), (5, [6, 7]), (6, [0, 1, 2, 8, 19]), (7, [6, 7]), (8, [0, 1, 2, 8, 24]), (9, [0, 1, 2, 8, 24]), (10, [6, 7]), (11, [1, 2, 8, 31]), (12, [6, 7]), (13, [1, 2, 8, 37]), (14, [6, 7]), (15, [1, 2, 8, 43]), (16, [6, 7]), (17, [1, 2, 8, 49]), (18, [6, 7]), (19, [1, 2, 8, 55]), (20, [6, 7]), (21, [1, 2, 8, 61]), (22, [6, 7]), (23, [1, 2, 8, 67]), (24, [6, 7]), (25, [1, 2, 76]), (26, [6, 7]), (27, [6, 7])],
  []⟩
/-- interleave/interleaveref06.Registers -/
noncomputable def fi38 : FnI := ⟨Go.Proofs.Try.f38, true, false, [],
  [(0, [1]), (1, [1, 4]), (2, [1, 4, 5]), (3, [1, 4, 5]), (4, [1, 4, 5]), (5, [1, 4, 5]), (6, [2]), (7, [1, 4, 13]), (8, [1, 4, 13]), (9, [2]), (10, [1, 4, 21]), (11, [2]), (12, [1, 4, 30]), (13, [2]), (14, [1, 4, 37]), (15, [1, 4, 37]), (16, [2]), (17, [1, 43]), (18, [2]), (19, [2])],
  []⟩
/-- interleave/interleaveref05.Unary -/
noncomputable def fi39 : FnI := ⟨Go.Proofs.Try.f39, true, false, [],
  [(0, [0, 1]), (1, [1, 6]), (2, [1, 6, 7]), (3, [4, 5]), (4, [1, 11]), (5, [4, 5]), (6, [4, 5])],
  []⟩
/-- interleave/interleaveref07.operator -/
noncomputable def fi40 : FnI := ⟨Go.Proofs.Try.f40, true, false, [],
  [(0, [0]), (1, [0, 8]), (2, [2]), (3, [2])],
  []⟩
/-- interleave/interleaveref05.Binary -/
noncomputable def fi41 : FnI := ⟨Go.Proofs.Try.f41, true, false, [],
  [(0, [0, 1, 2]), (1, [1, 2, 8]), (2, [1, 2, 8, 9]), (3, [6, 7]), (4, [1, 2, 8, 14]), (5, [6, 7]), (6, [1, 2, 8, 19]), (7, [6, 7]), (8, [1, 2, 8, 24]), (9, [1, 2, 27]), (10, [6, 7]), (11, [6, 7]), (12, [1, 2, 8, 31]), (13, [1, 2, 34]), (14, [6, 7]), (15, [6, 7]), (16, [1, 2, 8, 38]), (17, [6, 7]), (18, [1, 2, 8, 44]), (19, [6, 7]), (20, [1, 2, 8, 50]), (21, [6, 7]), (22, [1, 2, 8, 56]), (23, [6, 7]), (24, [1, 2, 8, 62]), (25, [6, 7]), (26, [1, 2, 8, 68]), (27, [6, 7]), (28, [1, 2, 8, 74]), (29, [6, 7]), (30, [1, 2, 83]), (31, [6, 7]), (32, [6, 7])],
  []⟩
/-- interleave/interleaveref07.Union -/
noncomputable def fi42 : FnI := ⟨Go.Proofs.Try.f42, true, false, [],
  [(0, [0, 1]), (1, [0, 1, 5]), (2, [0, 1, 5, 6]), (3, [0, 1, 5, 6, 11]), (4, [0, 1, 5, 6]), (5, [0, 1, 5, 6]), (6, [1, 5, 7]), (7, [1, 5, 7, 23]), (8, [1, 5, 7]), (9, [1, 5, 7]), (10, [4])],
  []⟩
/-- interleave/eval.truth -/
noncomputable def fi63 : FnI := ⟨Go.Proofs.Try.f63, true, false, [],
  [(0, [0]), (1, [3]), (2, [2]), (3, [2])],
  []⟩
/-- interleave/eval.divide -/
noncomputable def fi64 : FnI := ⟨Go.Proofs.Try.f64, true, false, [],
  [(0, [0, 1, 2]), (1, [0, 1, 2, 7]), (2, [6]), (3, [1, 2, 10]), (4, [6]), (5, [6])],
  []⟩
/-- interleave/interleaveref05.truth -/
noncomputable def fi65 : FnI := ⟨Go.Proofs.Try.f65, true, false, [],
  [(0, [0]), (1, [3]), (2, [2]), (3, [2])],
  []⟩
/-- interleave/interleaveref07.Put -/
noncomputable def fi66 : FnI := ⟨Go.Proofs.Try.f66, true, false, [41],
  [(0, [0, 1]), (1, [0, 1, 5]), (2, [0, 1, 5, 18]), (3, [0, 1, 5]), (4, [0, 1, 5, 32]), (5, [4]), (6, [0, 1, 5, 6]), (7, [0, 5, 6]), (8, [4])],
  []⟩
/-- slices.Sort[[]int,int] -/
noncomputable def fi21 : FnI := ⟨Go.Proofs.Try.f21, false, true, [],
  [(0, [0, 2]), (1, [])],
  []⟩
/-- slices.Compact[[]int,int] -/
noncomputable def fi22 : FnI := ⟨Go.Proofs.Try.f22, false, true, [],
  [(0, [0]), (1, [0, 8]), (2, [2]), (3, [0, 3]), (4, [0, 3, 13]), (5, [0, 3]), (6, [0, 3, 25]), (7, [0, 3, 4]), (8, [0, 3, 4, 5]), (9, [0, 3, 4, 5, 32]), (10, [0, 3, 4, 5]), (11, [0, 3, 4, 5, 44]), (12, [0, 3, 4, 5]), (13, [0, 3, 4, 5]), (14, [0, 3]), (15, [2]), (16, [2])],
  []⟩
/-- slices.Grow[[]int,int] -/
noncomputable def fi30 : FnI := ⟨Go.Proofs.Try.f30, false, true, [],
  [(0, [0, 1]), (1, [0, 1, 6]), (2, [0, 1]), (3, [0, 1]), (4, [0, 1, 16]), (5, [0]), (6, [4])],
  []⟩
/-- slices.Clone[[]int64,int64] -/
noncomputable def fi33 : FnI := ⟨Go.Proofs.Try.f33, false, true, [],
  [(0, [0]), (1, [0, 4]), (2, [2]), (3, [2])],
  []⟩
/-- slices.Clone[[]int,int] -/
noncomputable def fi34 : FnI := ⟨Go.Proofs.Try.f34, true, true, [],
  [(0, [0]), (1, [0, 4]), (2, [2]), (3, [2])],
  []⟩
noncomputable def fnTab : List (Nat × FnI) := [(5, fi5), (11, fi11), (13, fi13), (14, fi14), (15, fi15), (16, fi16), (19, fi19), (20, fi20), (21, fi21), (22, fi22), (23, fi23), (24, fi24), (25, fi25), (26, fi26), (27, fi27), (30, fi30), (33, fi33), (34, fi34), (35, fi35), (36, fi36), (37, fi37), (38, fi38), (39, fi39), (40, fi40), (41, fi41), (42, fi42), (63, fi63), (64, fi64), (65, fi65), (66, fi66)]
noncomputable def intrTab : List (Nat × (List V → St → Option (V × St))) := [(21, intrSort), (22, (intrCompact Go.Lib.compact)), (30, (intrGrow 1 8)), (33, intrClone 1), (34, intrClone 1)]
noncomputable def cfg : Cfg := { ty := aget tyTab, fn := aget fnTab, glob := fun _ => none, eqs := fun t => [60].contains t, intr := aget intrTab }
theorem tysOk : (tyTab.all fun p => tyOkB Go.Proofs.Try.prog p.1 p.2) = true := by decide +kernel
theorem eqsOk : ([60].all fun t => eqOkB Go.Proofs.Try.prog t) = true := by decide +kernel
theorem codesOk : (fnTab.all fun p => fnOkB cfg p.2) = true := by decide +kernel
theorem fnsOk : FnsAt Go.Proofs.Try.prog fnTab := ⟨Go.Proofs.Try.func5, Go.Proofs.Try.func11, Go.Proofs.Try.func13, Go.Proofs.Try.func14, Go.Proofs.Try.func15, Go.Proofs.Try.func16, Go.Proofs.Try.func19, Go.Proofs.Try.func20, Go.Proofs.Try.func21, Go.Proofs.Try.func22, Go.Proofs.Try.func23, Go.Proofs.Try.func24, Go.Proofs.Try.func25, Go.Proofs.Try.func26, Go.Proofs.Try.func27, Go.Proofs.Try.func30, Go.Proofs.Try.func33, Go.Proofs.Try.func34, Go.Proofs.Try.func35, Go.Proofs.Try.func36, Go.Proofs.Try.func37, Go.Proofs.Try.func38, Go.Proofs.Try.func39, Go.Proofs.Try.func40, Go.Proofs.Try.func41, Go.Proofs.Try.func42, Go.Proofs.Try.func63, Go.Proofs.Try.func64, Go.Proofs.Try.func65, Go.Proofs.Try.func66, trivial⟩
theorem cfgOk : CfgOk cfg Go.Proofs.Try.prog := cfgOk_of tysOk eqsOk codesOk fnsOk (by decide +kernel)
theorem ty2 : cfg.ty 2 = some ⟨.int .i64, 1, 8, [.int .i64 0]⟩ := rfl
theorem ty3 : cfg.ty 3 = some ⟨.int .i64, 1, 8, [.int .i64 0]⟩ := rfl
theorem ty4 : cfg.ty 4 = some ⟨.bool, 1, 1, [.bool false]⟩ := rfl
theorem ty26 : cfg.ty 26 = some ⟨.slice 3, 1, 24, [.nils]⟩ := rfl
theorem ty33 : cfg.ty 33 = some ⟨.slice 60, 1, 24, [.nils]⟩ := rfl
theorem ty35 : cfg.ty 35 = some ⟨.struct [(0, 3), (1, 33)], 2, 32, [.int .i64 0, .nils]⟩ := rfl
theorem ty36 : cfg.ty 36 = some ⟨.slice 2, 1, 24, [.nils]⟩ := rfl
theorem ty37 : cfg.ty 37 = some ⟨.slice 26, 1, 24, [.nils]⟩ := rfl
theorem ty39 : cfg.ty 39 = some ⟨.struct [(0, 3), (1, 36), (2, 37), (3, 3)], 4, 64, [.int .i64 0, .nils, .nils, .int .i64 0]⟩ := rfl
theorem ty60 : cfg.ty 60 = some ⟨.struct [(0, 3), (1, 3), (2, 3), (3, 3), (4, 2), (5, 3)], 6, 48, [.int .i64 0, .int .i64 0, .int .i64 0, .int .i64 0, .int .i64 0, .int .i64 0]⟩ := rfl
theorem ty68 : cfg.ty 68 = some ⟨.ptr 39, 1, 8, [.pnil]⟩ := rfl
theorem ty82 : cfg.ty 82 = some ⟨.int .u64, 1, 8, [.int .u64 0]⟩ := rfl
theorem lenl26 (xs : List V) : lenOp cfg 26 (.lit xs) = some (.int .i64 xs.length) := rfl
theorem lenn26 : lenOp cfg 26 .nils = some (.int .i64 0) := rfl
theorem lenr26 (a b c d n : Nat) : lenOp cfg 26 (.ref a b c d n) = some (.int .i64 n) := rfl
theorem lenl33 (xs : List V) : lenOp cfg 33 (.lit xs) = some (.int .i64 xs.length) := rfl
theorem lenn33 : lenOp cfg 33 .nils = some (.int .i64 0) := rfl
theorem lenr33 (a b c d n : Nat) : lenOp cfg 33 (.ref a b c d n) = some (.int .i64 n) := rfl
theorem lenl36 (xs : List V) : lenOp cfg 36 (.lit xs) = some (.int .i64 xs.length) := rfl
theorem lenn36 : lenOp cfg 36 .nils = some (.int .i64 0) := rfl
theorem lenr36 (a b c d n : Nat) : lenOp cfg 36 (.ref a b c d n) = some (.int .i64 n) := rfl
theorem lenl37 (xs : List V) : lenOp cfg 37 (.lit xs) = some (.int .i64 xs.length) := rfl
theorem lenn37 : lenOp cfg 37 .nils = some (.int .i64 0) := rfl
theorem lenr37 (a b c d n : Nat) : lenOp cfg 37 (.ref a b c d n) = some (.int .i64 n) := rfl
theorem eqs60 : cfg.eqs 60 = true := rfl
theorem frz5 : fi5.frz = [] := rfl
theorem live5 : fi5.live = [(0, [2, 3]), (1, [2, 3, 5, 6]), (2, [5, 6, 7, 8]), (3, [4])] := rfl
theorem conf5 : fi5.conf = [] := rfl
theorem lv5_0 {e : Env} : liveE fi5 0 e = keepE [2, 3] e := rfl
theorem lv5_1 {e : Env} : liveE fi5 1 e = keepE [2, 3, 5, 6] e := rfl
theorem lv5_2 {e : Env} : liveE fi5 2 e = keepE [5, 6, 7, 8] e := rfl
theorem lv5_3 {e : Env} : liveE fi5 3 e = keepE [4] e := rfl
theorem keep5 : fi5.keep = false := rfl
/-- interleave/interleavelaw07.SilentTells: its code -/
noncomputable def code5 : Code := fi5.fn.body.getD .skip
theorem body5 : fi5.fn.body = some code5 := rfl
theorem res5 : fi5.fn.results = Go.Proofs.Try.f5.results := rfl
theorem frz11 : fi11.frz = [8] := rfl
theorem live11 : fi11.live = [(0, [0, 1]), (1, [5]), (2, [5]), (3, [4])] := rfl
theorem conf11 : fi11.conf = [] := rfl
theorem lv11_0 {e : Env} : liveE fi11 0 e = keepE [0, 1] e := rfl
theorem lv11_1 {e : Env} : liveE fi11 1 e = keepE [5] e := rfl
theorem lv11_2 {e : Env} : liveE fi11 2 e = keepE [5] e := rfl
theorem lv11_3 {e : Env} : liveE fi11 3 e = keepE [4] e := rfl
theorem keep11 : fi11.keep = false := rfl
/-- interleave/silent.Union: its code -/
noncomputable def code11 : Code := fi11.fn.body.getD .skip
theorem body11 : fi11.fn.body = some code11 := rfl
theorem res11 : fi11.fn.results = Go.Proofs.Try.f11.results := rfl
theorem frz13 : fi13.frz = [] := rfl
theorem live13 : fi13.live = [(0, [2, 3, 4]), (1, [2, 3, 4, 21]), (2, [4, 5]), (3, [2, 3, 4]), (4, [2, 3, 4, 6]), (5, [2, 3, 4, 6, 29]), (6, [2, 3, 4, 6]), (7, [2, 3, 4, 6, 42]), (8, [4, 5]), (9, [2, 3, 4, 6, 7]), (10, [2, 3, 4, 6, 7, 57]), (11, [4, 5]), (12, [2, 3, 4, 6, 68]), (13, [4, 5]), (14, [4, 5])] := rfl
theorem conf13 : fi13.conf = [] := rfl
theorem lv13_0 {e : Env} : liveE fi13 0 e = keepE [2, 3, 4] e := rfl
theorem lv13_1 {e : Env} : liveE fi13 1 e = keepE [2, 3, 4, 21] e := rfl
theorem lv13_2 {e : Env} : liveE fi13 2 e = keepE [4, 5] e := rfl
theorem lv13_3 {e : Env} : liveE fi13 3 e = keepE [2, 3, 4] e := rfl
theorem lv13_4 {e : Env} : liveE fi13 4 e = keepE [2, 3, 4, 6] e := rfl
theorem lv13_5 {e : Env} : liveE fi13 5 e = keepE [2, 3, 4, 6, 29] e := rfl
theorem lv13_7 {e : Env} : liveE fi13 7 e = keepE [2, 3, 4, 6, 42] e := rfl
theorem lv13_8 {e : Env} : liveE fi13 8 e = keepE [4, 5] e := rfl
theorem lv13_9 {e : Env} : liveE fi13 9 e = keepE [2, 3, 4, 6, 7] e := rfl
theorem lv13_10 {e : Env} : liveE fi13 10 e = keepE [2, 3, 4, 6, 7, 57] e := rfl
theorem lv13_11 {e : Env} : liveE fi13 11 e = keepE [4, 5] e := rfl
theorem lv13_12 {e : Env} : liveE fi13 12 e = keepE [2, 3, 4, 6, 68] e := rfl
theorem lv13_13 {e : Env} : liveE fi13 13 e = keepE [4, 5] e := rfl
theorem lv13_6 {e : Env} : liveE fi13 6 e = keepE [2, 3, 4, 6] e := rfl
theorem lv13_14 {e : Env} : liveE fi13 14 e = keepE [4, 5] e := rfl
theorem keep13 : fi13.keep = false := rfl
/-- interleave/silent.Settle: its code -/
noncomputable def code13 : Code := fi13.fn.body.getD .skip
theorem body13 : fi13.fn.body = some code13 := rfl
theorem res13 : fi13.fn.results = Go.Proofs.Try.f13.results := rfl
theorem frz14 : fi14.frz = [] := rfl
theorem live14 : fi14.live = [(0, [2, 3, 4]), (1, [2, 3, 4, 23]), (2, [4, 5]), (3, [2, 3, 4]), (4, [2, 3, 4, 6]), (5, [2, 3, 4, 6, 31]), (6, [2, 3, 4, 6]), (7, [2, 3, 4, 6, 44]), (8, [4, 5]), (9, [2, 3, 4, 6, 7]), (10, [2, 3, 4, 6, 7, 55]), (11, [4, 5]), (12, [2, 3, 4, 6, 7, 61]), (13, [4, 5]), (14, [2, 3, 4, 6, 8, 9]), (15, [2, 3, 4, 6, 8, 70]), (16, [4, 5]), (17, [2, 3, 4, 6]), (18, [4, 5])] := rfl
theorem conf14 : fi14.conf = [] := rfl
theorem lv14_0 {e : Env} : liveE fi14 0 e = keepE [2, 3, 4] e := rfl
theorem lv14_1 {e : Env} : liveE fi14 1 e = keepE [2, 3, 4, 23] e := rfl
theorem lv14_2 {e : Env} : liveE fi14 2 e = keepE [4, 5] e := rfl
theorem lv14_3 {e : Env} : liveE fi14 3 e = keepE [2, 3, 4] e := rfl
theorem lv14_4 {e : Env} : liveE fi14 4 e = keepE [2, 3, 4, 6] e := rfl
theorem lv14_5 {e : Env} : liveE fi14 5 e = keepE [2, 3, 4, 6, 31] e := rfl
theorem lv14_7 {e : Env} : liveE fi14 7 e = keepE [2, 3, 4, 6, 44] e := rfl
theorem lv14_8 {e : Env} : liveE fi14 8 e = keepE [4, 5] e := rfl
theorem lv14_9 {e : Env} : liveE fi14 9 e = keepE [2, 3, 4, 6, 7] e := rfl
theorem lv14_10 {e : Env} : liveE fi14 10 e = keepE [2, 3, 4, 6, 7, 55] e := rfl
theorem lv14_11 {e : Env} : liveE fi14 11 e = keepE [4, 5] e := rfl
theorem lv14_12 {e : Env} : liveE fi14 12 e = keepE [2, 3, 4, 6, 7, 61] e := rfl
theorem lv14_13 {e : Env} : liveE fi14 13 e = keepE [4, 5] e := rfl
theorem lv14_14 {e : Env} : liveE fi14 14 e = keepE [2, 3, 4, 6, 8, 9] e := rfl
theorem lv14_15 {e : Env} : liveE fi14 15 e = keepE [2, 3, 4, 6, 8, 70] e := rfl
theorem lv14_16 {e : Env} : liveE fi14 16 e = keepE [4, 5] e := rfl
theorem lv14_17 {e : Env} : liveE fi14 17 e = keepE [2, 3, 4, 6] e := rfl
theorem lv14_6 {e : Env} : liveE fi14 6 e = keepE [2, 3, 4, 6] e := rfl
theorem lv14_18 {e : Env} : liveE fi14 18 e = keepE [4, 5] e := rfl
theorem keep14 : fi14.keep = false := rfl
/-- interleave/interleaveref07.Settle: its code -/
noncomputable def code14 : Code := fi14.fn.body.getD .skip
theorem body14 : fi14.fn.body = some code14 := rfl
theorem res14 : fi14.fn.results = Go.Proofs.Try.f14.results := rfl
theorem frz15 : fi15.frz = [] := rfl
theorem live15 : fi15.live = [(0, [2, 3]), (1, [2, 3, 36]), (2, [4]), (3, [2, 3, 5]), (4, [2, 3, 5, 41]), (5, [2, 3, 5]), (6, [2, 3, 5, 54]), (7, [4]), (8, [2, 3, 6]), (9, [2, 3, 6, 59]), (10, [2, 3, 6]), (11, [2, 3, 6, 73]), (12, [4]), (13, [4])] := rfl
theorem conf15 : fi15.conf = [] := rfl
theorem lv15_0 {e : Env} : liveE fi15 0 e = keepE [2, 3] e := rfl
theorem lv15_1 {e : Env} : liveE fi15 1 e = keepE [2, 3, 36] e := rfl
theorem lv15_2 {e : Env} : liveE fi15 2 e = keepE [4] e := rfl
theorem lv15_3 {e : Env} : liveE fi15 3 e = keepE [2, 3, 5] e := rfl
theorem lv15_4 {e : Env} : liveE fi15 4 e = keepE [2, 3, 5, 41] e := rfl
theorem lv15_6 {e : Env} : liveE fi15 6 e = keepE [2, 3, 5, 54] e := rfl
theorem cf15_6 : aget fi15.conf 6 = none := rfl
theorem lv15_7 {e : Env} : liveE fi15 7 e = keepE [4] e := rfl
theorem lv15_5 {e : Env} : liveE fi15 5 e = keepE [2, 3, 5] e := rfl
theorem lv15_8 {e : Env} : liveE fi15 8 e = keepE [2, 3, 6] e := rfl
theorem lv15_9 {e : Env} : liveE fi15 9 e = keepE [2, 3, 6, 59] e := rfl
theorem lv15_11 {e : Env} : liveE fi15 11 e = keepE [2, 3, 6, 73] e := rfl
theorem cf15_11 : aget fi15.conf 11 = none := rfl
theorem lv15_12 {e : Env} : liveE fi15 12 e = keepE [4] e := rfl
theorem lv15_10 {e : Env} : liveE fi15 10 e = keepE [2, 3, 6] e := rfl
theorem lv15_13 {e : Env} : liveE fi15 13 e = keepE [4] e := rfl
theorem keep15 : fi15.keep = false := rfl
/-- interleave/interleaveref07.SameThread: its code -/
noncomputable def code15 : Code := fi15.fn.body.getD .skip
theorem body15 : fi15.fn.body = some code15 := rfl
theorem res15 : fi15.fn.results = Go.Proofs.Try.f15.results := rfl
theorem frz16 : fi16.frz = [6, 8, 9, 10] := rfl
theorem live16 : fi16.live = [(0, []), (1, [1, 2]), (2, [0])] := rfl
theorem conf16 : fi16.conf = [] := rfl
theorem lv16_0 {e : Env} : liveE fi16 0 e = keepE [] e := rfl
theorem lv16_1 {e : Env} : liveE fi16 1 e = keepE [1, 2] e := rfl
theorem lv16_2 {e : Env} : liveE fi16 2 e = keepE [0] e := rfl
theorem keep16 : fi16.keep = false := rfl
/-- interleave/interleavelaw07.awake: its code -/
noncomputable def code16 : Code := fi16.fn.body.getD .skip
theorem body16 : fi16.fn.body = some code16 := rfl
theorem res16 : fi16.fn.results = Go.Proofs.Try.f16.results := rfl
theorem frz19 : fi19.frz = [] := rfl
theorem live19 : fi19.live = [(0, [0, 1]), (1, [0, 1, 10]), (2, [4]), (3, [0, 1, 5]), (4, [0, 1, 5, 14]), (5, [0, 1, 5]), (6, [0, 1, 5, 25]), (7, [4]), (8, [4])] := rfl
theorem conf19 : fi19.conf = [] := rfl
theorem lv19_0 {e : Env} : liveE fi19 0 e = keepE [0, 1] e := rfl
theorem lv19_1 {e : Env} : liveE fi19 1 e = keepE [0, 1, 10] e := rfl
theorem lv19_2 {e : Env} : liveE fi19 2 e = keepE [4] e := rfl
theorem lv19_3 {e : Env} : liveE fi19 3 e = keepE [0, 1, 5] e := rfl
theorem lv19_4 {e : Env} : liveE fi19 4 e = keepE [0, 1, 5, 14] e := rfl
theorem lv19_6 {e : Env} : liveE fi19 6 e = keepE [0, 1, 5, 25] e := rfl
theorem cf19_6 : aget fi19.conf 6 = none := rfl
theorem lv19_7 {e : Env} : liveE fi19 7 e = keepE [4] e := rfl
theorem lv19_5 {e : Env} : liveE fi19 5 e = keepE [0, 1, 5] e := rfl
theorem lv19_8 {e : Env} : liveE fi19 8 e = keepE [4] e := rfl
theorem keep19 : fi19.keep = false := rfl
/-- interleave/interleaveref07.SameInts: its code -/
noncomputable def code19 : Code := fi19.fn.body.getD .skip
theorem body19 : fi19.fn.body = some code19 := rfl
theorem res19 : fi19.fn.results = Go.Proofs.Try.f19.results := rfl
theorem frz20 : fi20.frz = [] := rfl
theorem live20 : fi20.live = [(0, [0]), (1, [0, 3]), (2, [0, 3, 9, 10, 11]), (3, [0, 3, 9, 10, 11, 12]), (4, [0, 3, 5, 9, 10, 11]), (5, [0, 3, 9, 10, 11]), (6, [0, 3, 9, 10, 11, 20]), (7, [0, 3, 9, 10, 11]), (8, [0, 3, 9, 10, 11]), (9, [0, 6]), (10, [6, 25, 26, 27]), (11, [6, 25, 26, 27, 28]), (12, [6, 8, 25, 26, 27]), (13, [6, 25, 26, 27]), (14, [6, 25, 26, 27]), (15, [2])] := rfl
theorem conf20 : fi20.conf = [] := rfl
theorem lv20_0 {e : Env} : liveE fi20 0 e = keepE [0] e := rfl
theorem lv20_1 {e : Env} : liveE fi20 1 e = keepE [0, 3] e := rfl
theorem lv20_2 {e : Env} : liveE fi20 2 e = keepE [0, 3, 9, 10, 11] e := rfl
theorem lv20_3 {e : Env} : liveE fi20 3 e = keepE [0, 3, 9, 10, 11, 12] e := rfl
theorem lv20_4 {e : Env} : liveE fi20 4 e = keepE [0, 3, 5, 9, 10, 11] e := rfl
theorem lv20_5 {e : Env} : liveE fi20 5 e = keepE [0, 3, 9, 10, 11] e := rfl
theorem lv20_6 {e : Env} : liveE fi20 6 e = keepE [0, 3, 9, 10, 11, 20] e := rfl
theorem lv20_7 {e : Env} : liveE fi20 7 e = keepE [0, 3, 9, 10, 11] e := rfl
theorem lv20_8 {e : Env} : liveE fi20 8 e = keepE [0, 3, 9, 10, 11] e := rfl
theorem lv20_9 {e : Env} : liveE fi20 9 e = keepE [0, 6] e := rfl
theorem lv20_10 {e : Env} : liveE fi20 10 e = keepE [6, 25, 26, 27] e := rfl
theorem lv20_11 {e : Env} : liveE fi20 11 e = keepE [6, 25, 26, 27, 28] e := rfl
theorem lv20_12 {e : Env} : liveE fi20 12 e = keepE [6, 8, 25, 26, 27] e := rfl
theorem lv20_13 {e : Env} : liveE fi20 13 e = keepE [6, 25, 26, 27] e := rfl
theorem lv20_14 {e : Env} : liveE fi20 14 e = keepE [6, 25, 26, 27] e := rfl
theorem lv20_15 {e : Env} : liveE fi20 15 e = keepE [2] e := rfl
theorem keep20 : fi20.keep = false := rfl
/-- slices.Concat[[]int,int]: its code -/
noncomputable def code20 : Code := fi20.fn.body.getD .skip
theorem body20 : fi20.fn.body = some code20 := rfl
theorem res20 : fi20.fn.results = Go.Proofs.Try.f20.results := rfl
theorem frz21 : fi21.frz = [] := rfl
theorem live21 : fi21.live = [(0, [0, 2]), (1, [])] := rfl
theorem conf21 : fi21.conf = [] := rfl
theorem lv21_0 {e : Env} : liveE fi21 0 e = keepE [0, 2] e := rfl
theorem lv21_1 {e : Env} : liveE fi21 1 e = keepE [] e := rfl
theorem keep21 : fi21.keep = true := rfl
/-- slices.Sort[[]int,int]: its code -/
noncomputable def code21 : Code := fi21.fn.body.getD .skip
theorem body21 : fi21.fn.body = some code21 := rfl
theorem res21 : fi21.fn.results = Go.Proofs.Try.f21.results := rfl
theorem frz22 : fi22.frz = [] := rfl
theorem live22 : fi22.live = [(0, [0]), (1, [0, 8]), (2, [2]), (3, [0, 3]), (4, [0, 3, 13]), (5, [0, 3]), (6, [0, 3, 25]), (7, [0, 3, 4]), (8, [0, 3, 4, 5]), (9, [0, 3, 4, 5, 32]), (10, [0, 3, 4, 5]), (11, [0, 3, 4, 5, 44]), (12, [0, 3, 4, 5]), (13, [0, 3, 4, 5]), (14, [0, 3]), (15, [2]), (16, [2])] := rfl
theorem conf22 : fi22.conf = [] := rfl
theorem lv22_0 {e : Env} : liveE fi22 0 e = keepE [0] e := rfl
theorem lv22_1 {e : Env} : liveE fi22 1 e = keepE [0, 8] e := rfl
theorem lv22_2 {e : Env} : liveE fi22 2 e = keepE [2] e := rfl
theorem lv22_3 {e : Env} : liveE fi22 3 e = keepE [0, 3] e := rfl
theorem lv22_4 {e : Env} : liveE fi22 4 e = keepE [0, 3, 13] e := rfl
theorem lv22_6 {e : Env} : liveE fi22 6 e = keepE [0, 3, 25] e := rfl
theorem cf22_6 : aget fi22.conf 6 = none := rfl
theorem lv22_7 {e : Env} : liveE fi22 7 e = keepE [0, 3, 4] e := rfl
theorem lv22_8 {e : Env} : liveE fi22 8 e = keepE [0, 3, 4, 5] e := rfl
theorem lv22_9 {e : Env} : liveE fi22 9 e = keepE [0, 3, 4, 5, 32] e := rfl
theorem lv22_11 {e : Env} : liveE fi22 11 e = keepE [0, 3, 4, 5, 44] e := rfl
theorem cf22_11 : aget fi22.conf 11 = none := rfl
theorem lv22_12 {e : Env} : liveE fi22 12 e = keepE [0, 3, 4, 5] e := rfl
theorem lv22_13 {e : Env} : liveE fi22 13 e = keepE [0, 3, 4, 5] e := rfl
theorem lv22_10 {e : Env} : liveE fi22 10 e = keepE [0, 3, 4, 5] e := rfl
theorem lv22_14 {e : Env} : liveE fi22 14 e = keepE [0, 3] e := rfl
theorem lv22_15 {e : Env} : liveE fi22 15 e = keepE [2] e := rfl
theorem lv22_5 {e : Env} : liveE fi22 5 e = keepE [0, 3] e := rfl
theorem lv22_16 {e : Env} : liveE fi22 16 e = keepE [2] e := rfl
theorem keep22 : fi22.keep = true := rfl
/-- slices.Compact[[]int,int]: its code -/
noncomputable def code22 : Code := fi22.fn.body.getD .skip
theorem body22 : fi22.fn.body = some code22 := rfl
theorem res22 : fi22.fn.results = Go.Proofs.Try.f22.results := rfl
theorem frz23 : fi23.frz = [] := rfl
theorem live23 : fi23.live = [(0, [1, 2]), (1, [1, 2]), (2, [1, 2, 3]), (3, [1, 2, 3, 15, 16, 17]), (4, [1, 2, 3, 15, 16, 17, 18]), (5, [1, 2, 3, 4, 5, 15, 16, 17]), (6, [1, 2, 3, 15, 16, 17]), (7, [1, 2, 3, 15, 16, 17]), (8, [1, 2]), (9, [2])] := rfl
theorem conf23 : fi23.conf = [] := rfl
theorem lv23_0 {e : Env} : liveE fi23 0 e = keepE [1, 2] e := rfl
theorem lv23_1 {e : Env} : liveE fi23 1 e = keepE [1, 2] e := rfl
theorem lv23_2 {e : Env} : liveE fi23 2 e = keepE [1, 2, 3] e := rfl
theorem lv23_3 {e : Env} : liveE fi23 3 e = keepE [1, 2, 3, 15, 16, 17] e := rfl
theorem lv23_4 {e : Env} : liveE fi23 4 e = keepE [1, 2, 3, 15, 16, 17, 18] e := rfl
theorem lv23_5 {e : Env} : liveE fi23 5 e = keepE [1, 2, 3, 4, 5, 15, 16, 17] e := rfl
theorem lv23_6 {e : Env} : liveE fi23 6 e = keepE [1, 2, 3, 15, 16, 17] e := rfl
theorem lv23_7 {e : Env} : liveE fi23 7 e = keepE [1, 2, 3, 15, 16, 17] e := rfl
theorem lv23_8 {e : Env} : liveE fi23 8 e = keepE [1, 2] e := rfl
theorem lv23_9 {e : Env} : liveE fi23 9 e = keepE [2] e := rfl
theorem keep23 : fi23.keep = false := rfl
/-- interleave/silent.clone: its code -/
noncomputable def code23 : Code := fi23.fn.body.getD .skip
theorem body23 : fi23.fn.body = some code23 := rfl
theorem res23 : fi23.fn.results = Go.Proofs.Try.f23.results := rfl
theorem frz24 : fi24.frz = [] := rfl
theorem live24 : fi24.live = [(0, [2, 3]), (1, [2, 3, 5]), (2, [2, 3, 5, 6]), (3, [2, 3, 5, 6, 7]), (4, [2, 3, 5, 6, 7, 8]), (5, [2, 3, 5, 6, 7, 8, 11]), (6, [2, 3, 5, 6, 7, 8, 11, 12]), (7, []), (8, [4]), (9, [2, 3, 5, 6, 7, 8, 11, 19]), (10, [2, 3, 5, 6, 7, 8]), (11, [2, 3, 5, 6, 7, 8, 11, 23]), (12, [2, 3, 5, 6, 7, 8]), (13, [2, 3, 5, 6, 7, 8, 29]), (14, [2, 3, 5, 6, 7, 8]), (15, [2, 3, 5, 6, 7, 8, 11, 46]), (16, [2, 3, 5, 6, 7, 8]), (17, [2, 3, 5, 6, 7, 8, 52]), (18, [2, 3, 5, 6, 8]), (19, [2, 3, 5, 6, 7, 8]), (20, [2, 3, 5, 6, 7, 8, 75]), (21, [2, 3, 5, 6, 7, 8]), (22, [2, 3, 5, 6, 7, 8, 87]), (23, [2, 3, 5, 6, 8]), (24, [2, 3, 5, 6, 7, 8]), (25, [2, 3, 6, 7, 135]), (26, [4]), (27, [2]), (28, []), (29, [4])] := rfl
theorem conf24 : fi24.conf = [(27, [(11, 16)])] := rfl
theorem lv24_0 {e : Env} : liveE fi24 0 e = keepE [2, 3] e := rfl
theorem lv24_1 {e : Env} : liveE fi24 1 e = keepE [2, 3, 5] e := rfl
theorem lv24_2 {e : Env} : liveE fi24 2 e = keepE [2, 3, 5, 6] e := rfl
theorem lv24_3 {e : Env} : liveE fi24 3 e = keepE [2, 3, 5, 6, 7] e := rfl
theorem lv24_4 {e : Env} : liveE fi24 4 e = keepE [2, 3, 5, 6, 7, 8] e := rfl
theorem lv24_5 {e : Env} : liveE fi24 5 e = keepE [2, 3, 5, 6, 7, 8, 11] e := rfl
theorem lv24_6 {e : Env} : liveE fi24 6 e = keepE [2, 3, 5, 6, 7, 8, 11, 12] e := rfl
theorem lv24_7 {e : Env} : liveE fi24 7 e = keepE [] e := rfl
theorem lv24_8 {e : Env} : liveE fi24 8 e = keepE [4] e := rfl
theorem lv24_9 {e : Env} : liveE fi24 9 e = keepE [2, 3, 5, 6, 7, 8, 11, 19] e := rfl
theorem lv24_10 {e : Env} : liveE fi24 10 e = keepE [2, 3, 5, 6, 7, 8] e := rfl
theorem lv24_11 {e : Env} : liveE fi24 11 e = keepE [2, 3, 5, 6, 7, 8, 11, 23] e := rfl
theorem lv24_12 {e : Env} : liveE fi24 12 e = keepE [2, 3, 5, 6, 7, 8] e := rfl
theorem lv24_13 {e : Env} : liveE fi24 13 e = keepE [2, 3, 5, 6, 7, 8, 29] e := rfl
theorem lv24_14 {e : Env} : liveE fi24 14 e = keepE [2, 3, 5, 6, 7, 8] e := rfl
theorem cf24_14 : aget fi24.conf 14 = none := rfl
theorem lv24_15 {e : Env} : liveE fi24 15 e = keepE [2, 3, 5, 6, 7, 8, 11, 46] e := rfl
theorem lv24_16 {e : Env} : liveE fi24 16 e = keepE [2, 3, 5, 6, 7, 8] e := rfl
theorem lv24_17 {e : Env} : liveE fi24 17 e = keepE [2, 3, 5, 6, 7, 8, 52] e := rfl
theorem lv24_18 {e : Env} : liveE fi24 18 e = keepE [2, 3, 5, 6, 8] e := rfl
theorem cf24_18 : aget fi24.conf 18 = none := rfl
theorem lv24_19 {e : Env} : liveE fi24 19 e = keepE [2, 3, 5, 6, 7, 8] e := rfl
theorem cf24_19 : aget fi24.conf 19 = none := rfl
theorem lv24_20 {e : Env} : liveE fi24 20 e = keepE [2, 3, 5, 6, 7, 8, 75] e := rfl
theorem lv24_21 {e : Env} : liveE fi24 21 e = keepE [2, 3, 5, 6, 7, 8] e := rfl
theorem lv24_22 {e : Env} : liveE fi24 22 e = keepE [2, 3, 5, 6, 7, 8, 87] e := rfl
theorem lv24_23 {e : Env} : liveE fi24 23 e = keepE [2, 3, 5, 6, 8] e := rfl
theorem cf24_23 : aget fi24.conf 23 = none := rfl
theorem lv24_24 {e : Env} : liveE fi24 24 e = keepE [2, 3, 5, 6, 7, 8] e := rfl
theorem cf24_24 : aget fi24.conf 24 = none := rfl
theorem lv24_25 {e : Env} : liveE fi24 25 e = keepE [2, 3, 6, 7, 135] e := rfl
theorem lv24_26 {e : Env} : liveE fi24 26 e = keepE [4] e := rfl
theorem lv24_27 {e : Env} : liveE fi24 27 e = keepE [2] e := rfl
theorem cf24_27 : aget fi24.conf 27 = some [(11, 16)] := rfl
theorem lv24_28 {e : Env} : liveE fi24 28 e = keepE [] e := rfl
theorem lv24_29 {e : Env} : liveE fi24 29 e = keepE [4] e := rfl
theorem keep24 : fi24.keep = false := rfl
/-- interleave/silent.execute: its code -/
noncomputable def code24 : Code := fi24.fn.body.getD .skip
theorem body24 : fi24.fn.body = some code24 := rfl
theorem res24 : fi24.fn.results = Go.Proofs.Try.f24.results := rfl
theorem frz25 : fi25.frz = [9, 23, 29, 30] := rfl
theorem live25 : fi25.live = [(0, [1, 2]), (1, [1, 2, 3]), (2, [1, 2, 3, 4]), (3, [1, 2, 3, 4, 18]), (4, [1, 2, 3, 4]), (5, [1, 2, 3, 4]), (6, [2])] := rfl
theorem conf25 : fi25.conf = [(1, [(1, 7), (1, 9), (3, 7), (3, 9), (4, 9), (6, 9), (7, 9)])] := rfl
theorem lv25_0 {e : Env} : liveE fi25 0 e = keepE [1, 2] e := rfl
theorem lv25_1 {e : Env} : liveE fi25 1 e = keepE [1, 2, 3] e := rfl
theorem cf25_1 : aget fi25.conf 1 = some [(1, 7), (1, 9), (3, 7), (3, 9), (4, 9), (6, 9), (7, 9)] := rfl
theorem lv25_2 {e : Env} : liveE fi25 2 e = keepE [1, 2, 3, 4] e := rfl
theorem lv25_3 {e : Env} : liveE fi25 3 e = keepE [1, 2, 3, 4, 18] e := rfl
theorem lv25_5 {e : Env} : liveE fi25 5 e = keepE [1, 2, 3, 4] e := rfl
theorem cf25_5 : aget fi25.conf 5 = none := rfl
theorem lv25_4 {e : Env} : liveE fi25 4 e = keepE [1, 2, 3, 4] e := rfl
theorem lv25_6 {e : Env} : liveE fi25 6 e = keepE [2] e := rfl
theorem keep25 : fi25.keep = false := rfl
/-- interleave/interleaveref07.Copy: its code -/
noncomputable def code25 : Code := fi25.fn.body.getD .skip
theorem body25 : fi25.fn.body = some code25 := rfl
theorem res25 : fi25.fn.results = Go.Proofs.Try.f25.results := rfl
theorem frz26 : fi26.frz = [] := rfl
theorem live26 : fi26.live = [(0, [0]), (1, [2])] := rfl
theorem conf26 : fi26.conf = [] := rfl
theorem lv26_0 {e : Env} : liveE fi26 0 e = keepE [0] e := rfl
theorem lv26_1 {e : Env} : liveE fi26 1 e = keepE [2] e := rfl
theorem keep26 : fi26.keep = false := rfl
/-- interleave/interleaveref06.Silent: its code -/
noncomputable def code26 : Code := fi26.fn.body.getD .skip
theorem body26 : fi26.fn.body = some code26 := rfl
theorem res26 : fi26.fn.results = Go.Proofs.Try.f26.results := rfl
theorem frz27 : fi27.frz = [123, 125] := rfl
theorem live27 : fi27.live = [(0, [2, 3, 4]), (1, [2, 3, 4, 6]), (2, [2, 3, 4, 6, 7]), (3, [2, 3, 4, 6, 7, 16]), (4, [2, 3, 4, 6, 7]), (5, [2, 3, 4, 6, 7, 33]), (6, [4, 5]), (7, [2, 3, 4, 9]), (8, [2, 3, 4, 9, 10]), (9, [2, 3, 4, 9, 10, 36]), (10, [2, 3, 4, 8, 9]), (11, [2, 3, 4, 8, 9, 10]), (12, [2, 3, 4, 9, 10, 36, 69]), (13, [3, 4]), (14, [4, 5]), (15, [2, 3, 4, 9, 10, 36, 75]), (16, [2, 3, 4, 8, 9, 10]), (17, [2, 3, 4, 9, 36, 79]), (18, [2, 3, 4, 8, 9, 10]), (19, [2, 3, 4, 93]), (20, [2, 3, 4, 8, 9]), (21, [2, 3, 4, 8, 9, 10]), (22, [3, 4, 9]), (23, [3, 4, 9]), (24, [4, 5])] := rfl
theorem conf27 : fi27.conf = [(22, [(5, 13), (7, 13)])] := rfl
theorem lv27_0 {e : Env} : liveE fi27 0 e = keepE [2, 3, 4] e := rfl
theorem lv27_1 {e : Env} : liveE fi27 1 e = keepE [2, 3, 4, 6] e := rfl
theorem lv27_2 {e : Env} : liveE fi27 2 e = keepE [2, 3, 4, 6, 7] e := rfl
theorem lv27_3 {e : Env} : liveE fi27 3 e = keepE [2, 3, 4, 6, 7, 16] e := rfl
theorem lv27_5 {e : Env} : liveE fi27 5 e = keepE [2, 3, 4, 6, 7, 33] e := rfl
theorem cf27_5 : aget fi27.conf 5 = none := rfl
theorem lv27_6 {e : Env} : liveE fi27 6 e = keepE [4, 5] e := rfl
theorem lv27_4 {e : Env} : liveE fi27 4 e = keepE [2, 3, 4, 6, 7] e := rfl
theorem lv27_7 {e : Env} : liveE fi27 7 e = keepE [2, 3, 4, 9] e := rfl
theorem lv27_8 {e : Env} : liveE fi27 8 e = keepE [2, 3, 4, 9, 10] e := rfl
theorem lv27_9 {e : Env} : liveE fi27 9 e = keepE [2, 3, 4, 9, 10, 36] e := rfl
theorem lv27_12 {e : Env} : liveE fi27 12 e = keepE [2, 3, 4, 9, 10, 36, 69] e := rfl
theorem lv27_13 {e : Env} : liveE fi27 13 e = keepE [3, 4] e := rfl
theorem lv27_14 {e : Env} : liveE fi27 14 e = keepE [4, 5] e := rfl
theorem lv27_15 {e : Env} : liveE fi27 15 e = keepE [2, 3, 4, 9, 10, 36, 75] e := rfl
theorem lv27_16 {e : Env} : liveE fi27 16 e = keepE [2, 3, 4, 8, 9, 10] e := rfl
theorem lv27_17 {e : Env} : liveE fi27 17 e = keepE [2, 3, 4, 9, 36, 79] e := rfl
theorem lv27_18 {e : Env} : liveE fi27 18 e = keepE [2, 3, 4, 8, 9, 10] e := rfl
theorem cf27_18 : aget fi27.conf 18 = none := rfl
theorem lv27_19 {e : Env} : liveE fi27 19 e = keepE [2, 3, 4, 93] e := rfl
theorem lv27_20 {e : Env} : liveE fi27 20 e = keepE [2, 3, 4, 8, 9] e := rfl
theorem cf27_20 : aget fi27.conf 20 = none := rfl
theorem lv27_21 {e : Env} : liveE fi27 21 e = keepE [2, 3, 4, 8, 9, 10] e := rfl
theorem lv27_10 {e : Env} : liveE fi27 10 e = keepE [2, 3, 4, 8, 9] e := rfl
theorem cf27_10 : aget fi27.conf 10 = none := rfl
theorem lv27_11 {e : Env} : liveE fi27 11 e = keepE [2, 3, 4, 8, 9, 10] e := rfl
theorem cf27_11 : aget fi27.conf 11 = none := rfl
theorem lv27_22 {e : Env} : liveE fi27 22 e = keepE [3, 4, 9] e := rfl
theorem cf27_22 : aget fi27.conf 22 = some [(5, 13), (7, 13)] := rfl
theorem lv27_23 {e : Env} : liveE fi27 23 e = keepE [3, 4, 9] e := rfl
theorem lv27_24 {e : Env} : liveE fi27 24 e = keepE [4, 5] e := rfl
theorem keep27 : fi27.keep = false := rfl
/-- interleave/interleaveref07.step: its code -/
noncomputable def code27 : Code := fi27.fn.body.getD .skip
theorem body27 : fi27.fn.body = some code27 := rfl
theorem res27 : fi27.fn.results = Go.Proofs.Try.f27.results := rfl
theorem frz30 : fi30.frz = [] := rfl
theorem live30 : fi30.live = [(0, [0, 1]), (1, [0, 1, 6]), (2, [0, 1]), (3, [0, 1]), (4, [0, 1, 16]), (5, [0]), (6, [4])] := rfl
theorem conf30 : fi30.conf = [] := rfl
theorem lv30_0 {e : Env} : liveE fi30 0 e = keepE [0, 1] e := rfl
theorem lv30_1 {e : Env} : liveE fi30 1 e = keepE [0, 1, 6] e := rfl
theorem lv30_2 {e : Env} : liveE fi30 2 e = keepE [0, 1] e := rfl
theorem lv30_3 {e : Env} : liveE fi30 3 e = keepE [0, 1] e := rfl
theorem lv30_4 {e : Env} : liveE fi30 4 e = keepE [0, 1, 16] e := rfl
theorem lv30_5 {e : Env} : liveE fi30 5 e = keepE [0] e := rfl
theorem lv30_6 {e : Env} : liveE fi30 6 e = keepE [4] e := rfl
theorem keep30 : fi30.keep = true := rfl
/-- slices.Grow[[]int,int]: its code -/
noncomputable def code30 : Code := fi30.fn.body.getD .skip
theorem body30 : fi30.fn.body = some code30 := rfl
theorem res30 : fi30.fn.results = Go.Proofs.Try.f30.results := rfl
theorem frz33 : fi33.frz = [] := rfl
theorem live33 : fi33.live = [(0, [0]), (1, [0, 4]), (2, [2]), (3, [2])] := rfl
theorem conf33 : fi33.conf = [] := rfl
theorem lv33_0 {e : Env} : liveE fi33 0 e = keepE [0] e := rfl
theorem lv33_1 {e : Env} : liveE fi33 1 e = keepE [0, 4] e := rfl
theorem lv33_2 {e : Env} : liveE fi33 2 e = keepE [2] e := rfl
theorem lv33_3 {e : Env} : liveE fi33 3 e = keepE [2] e := rfl
theorem keep33 : fi33.keep = true := rfl
/-- slices.Clone[[]int64,int64]: its code -/
noncomputable def code33 : Code := fi33.fn.body.getD .skip
theorem body33 : fi33.fn.body = some code33 := rfl
theorem res33 : fi33.fn.results = Go.Proofs.Try.f33.results := rfl
theorem frz34 : fi34.frz = [] := rfl
theorem live34 : fi34.live = [(0, [0]), (1, [0, 4]), (2, [2]), (3, [2])] := rfl
theorem conf34 : fi34.conf = [] := rfl
theorem lv34_0 {e : Env} : liveE fi34 0 e = keepE [0] e := rfl
theorem lv34_1 {e : Env} : liveE fi34 1 e = keepE [0, 4] e := rfl
theorem lv34_2 {e : Env} : liveE fi34 2 e = keepE [2] e := rfl
theorem lv34_3 {e : Env} : liveE fi34 3 e = keepE [2] e := rfl
theorem keep34 : fi34.keep = true := rfl
/-- slices.Clone[[]int,int]: its code -/
noncomputable def code34 : Code := fi34.fn.body.getD .skip
theorem body34 : fi34.fn.body = some code34 := rfl
theorem res34 : fi34.fn.results = Go.Proofs.Try.f34.results := rfl
theorem frz35 : fi35.frz = [] := rfl
theorem live35 : fi35.live = [(0, [0, 1]), (1, [3])] := rfl
theorem conf35 : fi35.conf = [] := rfl
theorem lv35_0 {e : Env} : liveE fi35 0 e = keepE [0, 1] e := rfl
theorem lv35_1 {e : Env} : liveE fi35 1 e = keepE [3] e := rfl
theorem keep35 : fi35.keep = false := rfl
/-- interleave/silent.execute$1: its code -/
noncomputable def code35 : Code := fi35.fn.body.getD .skip
theorem body35 : fi35.fn.body = some code35 := rfl
theorem res35 : fi35.fn.results = Go.Proofs.Try.f35.results := rfl
theorem frz36 : fi36.frz = [] := rfl
theorem live36 : fi36.live = [(0, [0, 1]), (1, [1, 6]), (2, [1, 6, 7]), (3, [4, 5]), (4, [1, 11]), (5, [4, 5]), (6, [4, 5])] := rfl
theorem conf36 : fi36.conf = [] := rfl
theorem lv36_0 {e : Env} : liveE fi36 0 e = keepE [0, 1] e := rfl
theorem lv36_1 {e : Env} : liveE fi36 1 e = keepE [1, 6] e := rfl
theorem lv36_2 {e : Env} : liveE fi36 2 e = keepE [1, 6, 7] e := rfl
theorem lv36_3 {e : Env} : liveE fi36 3 e = keepE [4, 5] e := rfl
theorem lv36_4 {e : Env} : liveE fi36 4 e = keepE [1, 11] e := rfl
theorem lv36_5 {e : Env} : liveE fi36 5 e = keepE [4, 5] e := rfl
theorem lv36_6 {e : Env} : liveE fi36 6 e = keepE [4, 5] e := rfl
theorem keep36 : fi36.keep = false := rfl
/-- interleave/eval.Unary: its code -/
noncomputable def code36 : Code := fi36.fn.body.getD .skip
theorem body36 : fi36.fn.body = some code36 := rfl
theorem res36 : fi36.fn.results = Go.Proofs.Try.f36.results := rfl
theorem frz37 : fi37.frz = [] := rfl
theorem live37 : fi37.live = [(0, [0, 1, 2]), (1, [0, 1, 2, 8]), (2, [0, 1, 2, 8, 9]), (3, [6, 7]), (4, [0, 1, 2, 8, 14]), (5, [6, 7]), (6, [0, 1, 2, 8, 19]), (7, [6, 7]), (8, [0, 1, 2, 8, 24]), (9, [0, 1, 2, 8, 24]), (10, [6, 7]), (11, [1, 2, 8, 31]), (12, [6, 7]), (13, [1, 2, 8, 37]), (14, [6, 7]), (15, [1, 2, 8, 43]), (16, [6, 7]), (17, [1, 2, 8, 49]), (18, [6, 7]), (19, [1, 2, 8, 55]), (20, [6, 7]), (21, [1, 2, 8, 61]), (22, [6, 7]), (23, [1, 2, 8, 67]), (24, [6, 7]), (25, [1, 2, 76]), (26, [6, 7]), (27, [6, 7])] := rfl
theorem conf37 : fi37.conf = [] := rfl
theorem lv37_0 {e : Env} : liveE fi37 0 e = keepE [0, 1, 2] e := rfl
theorem lv37_1 {e : Env} : liveE fi37 1 e = keepE [0, 1, 2, 8] e := rfl
theorem lv37_2 {e : Env} : liveE fi37 2 e = keepE [0, 1, 2, 8, 9] e := rfl
theorem lv37_3 {e : Env} : liveE fi37 3 e = keepE [6, 7] e := rfl
theorem lv37_4 {e : Env} : liveE fi37 4 e = keepE [0, 1, 2, 8, 14] e := rfl
theorem lv37_5 {e : Env} : liveE fi37 5 e = keepE [6, 7] e := rfl
theorem lv37_6 {e : Env} : liveE fi37 6 e = keepE [0, 1, 2, 8, 19] e := rfl
theorem lv37_7 {e : Env} : liveE fi37 7 e = keepE [6, 7] e := rfl
theorem lv37_8 {e : Env} : liveE fi37 8 e = keepE [0, 1, 2, 8, 24] e := rfl
theorem lv37_9 {e : Env} : liveE fi37 9 e = keepE [0, 1, 2, 8, 24] e := rfl
theorem lv37_10 {e : Env} : liveE fi37 10 e = keepE [6, 7] e := rfl
theorem lv37_11 {e : Env} : liveE fi37 11 e = keepE [1, 2, 8, 31] e := rfl
theorem lv37_12 {e : Env} : liveE fi37 12 e = keepE [6, 7] e := rfl
theorem lv37_13 {e : Env} : liveE fi37 13 e = keepE [1, 2, 8, 37] e := rfl
theorem lv37_14 {e : Env} : liveE fi37 14 e = keepE [6, 7] e := rfl
theorem lv37_15 {e : Env} : liveE fi37 15 e = keepE [1, 2, 8, 43] e := rfl
theorem lv37_16 {e : Env} : liveE fi37 16 e = keepE [6, 7] e := rfl
theorem lv37_17 {e : Env} : liveE fi37 17 e = keepE [1, 2, 8, 49] e := rfl
theorem lv37_18 {e : Env} : liveE fi37 18 e = keepE [6, 7] e := rfl
theorem lv37_19 {e : Env} : liveE fi37 19 e = keepE [1, 2, 8, 55] e := rfl
theorem lv37_20 {e : Env} : liveE fi37 20 e = keepE [6, 7] e := rfl
theorem lv37_21 {e : Env} : liveE fi37 21 e = keepE [1, 2, 8, 61] e := rfl
theorem lv37_22 {e : Env} : liveE fi37 22 e = keepE [6, 7] e := rfl
theorem lv37_23 {e : Env} : liveE fi37 23 e = keepE [1, 2, 8, 67] e := rfl
theorem lv37_24 {e : Env} : liveE fi37 24 e = keepE [6, 7] e := rfl
theorem lv37_25 {e : Env} : liveE fi37 25 e = keepE [1, 2, 76] e := rfl
theorem lv37_26 {e : Env} : liveE fi37 26 e = keepE [6, 7] e := rfl
theorem lv37_27 {e : Env} : liveE fi37 27 e = keepE [6, 7] e := rfl
theorem keep37 : fi37.keep = false := rfl
/-- interleave/eval.Binary: its code -/
noncomputable def code37 : Code := fi37.fn.body.getD .skip
theorem body37 : fi37.fn.body = some code37 := rfl
theorem res37 : fi37.fn.results = Go.Proofs.Try.f37.results := rfl
theorem frz38 : fi38.frz = [] := rfl
theorem live38 : fi38.live = [(0, [1]), (1, [1, 4]), (2, [1, 4, 5]), (3, [1, 4, 5]), (4, [1, 4, 5]), (5, [1, 4, 5]), (6, [2]), (7, [1, 4, 13]), (8, [1, 4, 13]), (9, [2]), (10, [1, 4, 21]), (11, [2]), (12, [1, 4, 30]), (13, [2]), (14, [1, 4, 37]), (15, [1, 4, 37]), (16, [2]), (17, [1, 43]), (18, [2]), (19, [2])] := rfl
theorem conf38 : fi38.conf = [] := rfl
theorem lv38_0 {e : Env} : liveE fi38 0 e = keepE [1] e := rfl
theorem lv38_1 {e : Env} : liveE fi38 1 e = keepE [1, 4] e := rfl
theorem lv38_2 {e : Env} : liveE fi38 2 e = keepE [1, 4, 5] e := rfl
theorem lv38_3 {e : Env} : liveE fi38 3 e = keepE [1, 4, 5] e := rfl
theorem lv38_4 {e : Env} : liveE fi38 4 e = keepE [1, 4, 5] e := rfl
theorem lv38_5 {e : Env} : liveE fi38 5 e = keepE [1, 4, 5] e := rfl
theorem lv38_6 {e : Env} : liveE fi38 6 e = keepE [2] e := rfl
theorem lv38_7 {e : Env} : liveE fi38 7 e = keepE [1, 4, 13] e := rfl
theorem lv38_8 {e : Env} : liveE fi38 8 e = keepE [1, 4, 13] e := rfl
theorem lv38_9 {e : Env} : liveE fi38 9 e = keepE [2] e := rfl
theorem lv38_10 {e : Env} : liveE fi38 10 e = keepE [1, 4, 21] e := rfl
theorem lv38_11 {e : Env} : liveE fi38 11 e = keepE [2] e := rfl
theorem lv38_12 {e : Env} : liveE fi38 12 e = keepE [1, 4, 30] e := rfl
theorem lv38_13 {e : Env} : liveE fi38 13 e = keepE [2] e := rfl
theorem lv38_14 {e : Env} : liveE fi38 14 e = keepE [1, 4, 37] e := rfl
theorem lv38_15 {e : Env} : liveE fi38 15 e = keepE [1, 4, 37] e := rfl
theorem lv38_16 {e : Env} : liveE fi38 16 e = keepE [2] e := rfl
theorem lv38_17 {e : Env} : liveE fi38 17 e = keepE [1, 43] e := rfl
theorem lv38_18 {e : Env} : liveE fi38 18 e = keepE [2] e := rfl
theorem lv38_19 {e : Env} : liveE fi38 19 e = keepE [2] e := rfl
theorem keep38 : fi38.keep = false := rfl
/-- interleave/interleaveref06.Registers: its code -/
noncomputable def code38 : Code := fi38.fn.body.getD .skip
theorem body38 : fi38.fn.body = some code38 := rfl
theorem res38 : fi38.fn.results = Go.Proofs.Try.f38.results := rfl
theorem frz39 : fi39.frz = [] := rfl
theorem live39 : fi39.live = [(0, [0, 1]), (1, [1, 6]), (2, [1, 6, 7]), (3, [4, 5]), (4, [1, 11]), (5, [4, 5]), (6, [4, 5])] := rfl
theorem conf39 : fi39.conf = [] := rfl
theorem lv39_0 {e : Env} : liveE fi39 0 e = keepE [0, 1] e := rfl
theorem lv39_1 {e : Env} : liveE fi39 1 e = keepE [1, 6] e := rfl
theorem lv39_2 {e : Env} : liveE fi39 2 e = keepE [1, 6, 7] e := rfl
theorem lv39_3 {e : Env} : liveE fi39 3 e = keepE [4, 5] e := rfl
theorem lv39_4 {e : Env} : liveE fi39 4 e = keepE [1, 11] e := rfl
theorem lv39_5 {e : Env} : liveE fi39 5 e = keepE [4, 5] e := rfl
theorem lv39_6 {e : Env} : liveE fi39 6 e = keepE [4, 5] e := rfl
theorem keep39 : fi39.keep = false := rfl
/-- interleave/interleaveref05.Unary: its code -/
noncomputable def code39 : Code := fi39.fn.body.getD .skip
theorem body39 : fi39.fn.body = some code39 := rfl
theorem res39 : fi39.fn.results = Go.Proofs.Try.f39.results := rfl
theorem frz40 : fi40.frz = [] := rfl
theorem live40 : fi40.live = [(0, [0]), (1, [0, 8]), (2, [2]), (3, [2])] := rfl
theorem conf40 : fi40.conf = [] := rfl
theorem lv40_0 {e : Env} : liveE fi40 0 e = keepE [0] e := rfl
theorem lv40_1 {e : Env} : liveE fi40 1 e = keepE [0, 8] e := rfl
theorem lv40_2 {e : Env} : liveE fi40 2 e = keepE [2] e := rfl
theorem lv40_3 {e : Env} : liveE fi40 3 e = keepE [2] e := rfl
theorem keep40 : fi40.keep = false := rfl
/-- interleave/interleaveref07.operator: its code -/
noncomputable def code40 : Code := fi40.fn.body.getD .skip
theorem body40 : fi40.fn.body = some code40 := rfl
theorem res40 : fi40.fn.results = Go.Proofs.Try.f40.results := rfl
theorem frz41 : fi41.frz = [] := rfl
theorem live41 : fi41.live = [(0, [0, 1, 2]), (1, [1, 2, 8]), (2, [1, 2, 8, 9]), (3, [6, 7]), (4, [1, 2, 8, 14]), (5, [6, 7]), (6, [1, 2, 8, 19]), (7, [6, 7]), (8, [1, 2, 8, 24]), (9, [1, 2, 27]), (10, [6, 7]), (11, [6, 7]), (12, [1, 2, 8, 31]), (13, [1, 2, 34]), (14, [6, 7]), (15, [6, 7]), (16, [1, 2, 8, 38]), (17, [6, 7]), (18, [1, 2, 8, 44]), (19, [6, 7]), (20, [1, 2, 8, 50]), (21, [6, 7]), (22, [1, 2, 8, 56]), (23, [6, 7]), (24, [1, 2, 8, 62]), (25, [6, 7]), (26, [1, 2, 8, 68]), (27, [6, 7]), (28, [1, 2, 8, 74]), (29, [6, 7]), (30, [1, 2, 83]), (31, [6, 7]), (32, [6, 7])] := rfl
theorem conf41 : fi41.conf = [] := rfl
theorem lv41_0 {e : Env} : liveE fi41 0 e = keepE [0, 1, 2] e := rfl
theorem lv41_1 {e : Env} : liveE fi41 1 e = keepE [1, 2, 8] e := rfl
theorem lv41_2 {e : Env} : liveE fi41 2 e = keepE [1, 2, 8, 9] e := rfl
theorem lv41_3 {e : Env} : liveE fi41 3 e = keepE [6, 7] e := rfl
theorem lv41_4 {e : Env} : liveE fi41 4 e = keepE [1, 2, 8, 14] e := rfl
theorem lv41_5 {e : Env} : liveE fi41 5 e = keepE [6, 7] e := rfl
theorem lv41_6 {e : Env} : liveE fi41 6 e = keepE [1, 2, 8, 19] e := rfl
theorem lv41_7 {e : Env} : liveE fi41 7 e = keepE [6, 7] e := rfl
theorem lv41_8 {e : Env} : liveE fi41 8 e = keepE [1, 2, 8, 24] e := rfl
theorem lv41_9 {e : Env} : liveE fi41 9 e = keepE [1, 2, 27] e := rfl
theorem lv41_10 {e : Env} : liveE fi41 10 e = keepE [6, 7] e := rfl
theorem lv41_11 {e : Env} : liveE fi41 11 e = keepE [6, 7] e := rfl
theorem lv41_12 {e : Env} : liveE fi41 12 e = keepE [1, 2, 8, 31] e := rfl
theorem lv41_13 {e : Env} : liveE fi41 13 e = keepE [1, 2, 34] e := rfl
theorem lv41_14 {e : Env} : liveE fi41 14 e = keepE [6, 7] e := rfl
theorem lv41_15 {e : Env} : liveE fi41 15 e = keepE [6, 7] e := rfl
theorem lv41_16 {e : Env} : liveE fi41 16 e = keepE [1, 2, 8, 38] e := rfl
theorem lv41_17 {e : Env} : liveE fi41 17 e = keepE [6, 7] e := rfl
theorem lv41_18 {e : Env} : liveE fi41 18 e = keepE [1, 2, 8, 44] e := rfl
theorem lv41_19 {e : Env} : liveE fi41 19 e = keepE [6, 7] e := rfl
theorem lv41_20 {e : Env} : liveE fi41 20 e = keepE [1, 2, 8, 50] e := rfl
theorem lv41_21 {e : Env} : liveE fi41 21 e = keepE [6, 7] e := rfl
theorem lv41_22 {e : Env} : liveE fi41 22 e = keepE [1, 2, 8, 56] e := rfl
theorem lv41_23 {e : Env} : liveE fi41 23 e = keepE [6, 7] e := rfl
theorem lv41_24 {e : Env} : liveE fi41 24 e = keepE [1, 2, 8, 62] e := rfl
theorem lv41_25 {e : Env} : liveE fi41 25 e = keepE [6, 7] e := rfl
theorem lv41_26 {e : Env} : liveE fi41 26 e = keepE [1, 2, 8, 68] e := rfl
theorem lv41_27 {e : Env} : liveE fi41 27 e = keepE [6, 7] e := rfl
theorem lv41_28 {e : Env} : liveE fi41 28 e = keepE [1, 2, 8, 74] e := rfl
theorem lv41_29 {e : Env} : liveE fi41 29 e = keepE [6, 7] e := rfl
theorem lv41_30 {e : Env} : liveE fi41 30 e = keepE [1, 2, 83] e := rfl
theorem lv41_31 {e : Env} : liveE fi41 31 e = keepE [6, 7] e := rfl
theorem lv41_32 {e : Env} : liveE fi41 32 e = keepE [6, 7] e := rfl
theorem keep41 : fi41.keep = false := rfl
/-- interleave/interleaveref05.Binary: its code -/
noncomputable def code41 : Code := fi41.fn.body.getD .skip
theorem body41 : fi41.fn.body = some code41 := rfl
theorem res41 : fi41.fn.results = Go.Proofs.Try.f41.results := rfl
theorem frz42 : fi42.frz = [] := rfl
theorem live42 : fi42.live = [(0, [0, 1]), (1, [0, 1, 5]), (2, [0, 1, 5, 6]), (3, [0, 1, 5, 6, 11]), (4, [0, 1, 5, 6]), (5, [0, 1, 5, 6]), (6, [1, 5, 7]), (7, [1, 5, 7, 23]), (8, [1, 5, 7]), (9, [1, 5, 7]), (10, [4])] := rfl
theorem conf42 : fi42.conf = [] := rfl
theorem lv42_0 {e : Env} : liveE fi42 0 e = keepE [0, 1] e := rfl
theorem lv42_1 {e : Env} : liveE fi42 1 e = keepE [0, 1, 5] e := rfl
theorem lv42_2 {e : Env} : liveE fi42 2 e = keepE [0, 1, 5, 6] e := rfl
theorem lv42_3 {e : Env} : liveE fi42 3 e = keepE [0, 1, 5, 6, 11] e := rfl
theorem lv42_5 {e : Env} : liveE fi42 5 e = keepE [0, 1, 5, 6] e := rfl
theorem lv42_4 {e : Env} : liveE fi42 4 e = keepE [0, 1, 5, 6] e := rfl
theorem lv42_6 {e : Env} : liveE fi42 6 e = keepE [1, 5, 7] e := rfl
theorem lv42_7 {e : Env} : liveE fi42 7 e = keepE [1, 5, 7, 23] e := rfl
theorem lv42_9 {e : Env} : liveE fi42 9 e = keepE [1, 5, 7] e := rfl
theorem lv42_8 {e : Env} : liveE fi42 8 e = keepE [1, 5, 7] e := rfl
theorem lv42_10 {e : Env} : liveE fi42 10 e = keepE [4] e := rfl
theorem keep42 : fi42.keep = false := rfl
/-- interleave/interleaveref07.Union: its code -/
noncomputable def code42 : Code := fi42.fn.body.getD .skip
theorem body42 : fi42.fn.body = some code42 := rfl
theorem res42 : fi42.fn.results = Go.Proofs.Try.f42.results := rfl
theorem frz63 : fi63.frz = [] := rfl
theorem live63 : fi63.live = [(0, [0]), (1, [3]), (2, [2]), (3, [2])] := rfl
theorem conf63 : fi63.conf = [] := rfl
theorem lv63_0 {e : Env} : liveE fi63 0 e = keepE [0] e := rfl
theorem lv63_1 {e : Env} : liveE fi63 1 e = keepE [3] e := rfl
theorem lv63_2 {e : Env} : liveE fi63 2 e = keepE [2] e := rfl
theorem lv63_3 {e : Env} : liveE fi63 3 e = keepE [2] e := rfl
theorem keep63 : fi63.keep = false := rfl
/-- interleave/eval.truth: its code -/
noncomputable def code63 : Code := fi63.fn.body.getD .skip
theorem body63 : fi63.fn.body = some code63 := rfl
theorem res63 : fi63.fn.results = Go.Proofs.Try.f63.results := rfl
theorem frz64 : fi64.frz = [] := rfl
theorem live64 : fi64.live = [(0, [0, 1, 2]), (1, [0, 1, 2, 7]), (2, [6]), (3, [1, 2, 10]), (4, [6]), (5, [6])] := rfl
theorem conf64 : fi64.conf = [] := rfl
theorem lv64_0 {e : Env} : liveE fi64 0 e = keepE [0, 1, 2] e := rfl
theorem lv64_1 {e : Env} : liveE fi64 1 e = keepE [0, 1, 2, 7] e := rfl
theorem lv64_2 {e : Env} : liveE fi64 2 e = keepE [6] e := rfl
theorem lv64_3 {e : Env} : liveE fi64 3 e = keepE [1, 2, 10] e := rfl
theorem lv64_4 {e : Env} : liveE fi64 4 e = keepE [6] e := rfl
theorem lv64_5 {e : Env} : liveE fi64 5 e = keepE [6] e := rfl
theorem keep64 : fi64.keep = false := rfl
/-- interleave/eval.divide: its code -/
noncomputable def code64 : Code := fi64.fn.body.getD .skip
theorem body64 : fi64.fn.body = some code64 := rfl
theorem res64 : fi64.fn.results = Go.Proofs.Try.f64.results := rfl
theorem frz65 : fi65.frz = [] := rfl
theorem live65 : fi65.live = [(0, [0]), (1, [3]), (2, [2]), (3, [2])] := rfl
theorem conf65 : fi65.conf = [] := rfl
theorem lv65_0 {e : Env} : liveE fi65 0 e = keepE [0] e := rfl
theorem lv65_1 {e : Env} : liveE fi65 1 e = keepE [3] e := rfl
theorem lv65_2 {e : Env} : liveE fi65 2 e = keepE [2] e := rfl
theorem lv65_3 {e : Env} : liveE fi65 3 e = keepE [2] e := rfl
theorem keep65 : fi65.keep = false := rfl
/-- interleave/interleaveref05.truth: its code -/
noncomputable def code65 : Code := fi65.fn.body.getD .skip
theorem body65 : fi65.fn.body = some code65 := rfl
theorem res65 : fi65.fn.results = Go.Proofs.Try.f65.results := rfl
theorem frz66 : fi66.frz = [41] := rfl
theorem live66 : fi66.live = [(0, [0, 1]), (1, [0, 1, 5]), (2, [0, 1, 5, 18]), (3, [0, 1, 5]), (4, [0, 1, 5, 32]), (5, [4]), (6, [0, 1, 5, 6]), (7, [0, 5, 6]), (8, [4])] := rfl
theorem conf66 : fi66.conf = [] := rfl
theorem lv66_0 {e : Env} : liveE fi66 0 e = keepE [0, 1] e := rfl
theorem lv66_1 {e : Env} : liveE fi66 1 e = keepE [0, 1, 5] e := rfl
theorem lv66_2 {e : Env} : liveE fi66 2 e = keepE [0, 1, 5, 18] e := rfl
theorem lv66_3 {e : Env} : liveE fi66 3 e = keepE [0, 1, 5] e := rfl
theorem lv66_4 {e : Env} : liveE fi66 4 e = keepE [0, 1, 5, 32] e := rfl
theorem lv66_5 {e : Env} : liveE fi66 5 e = keepE [4] e := rfl
theorem lv66_6 {e : Env} : liveE fi66 6 e = keepE [0, 1, 5, 6] e := rfl
theorem lv66_7 {e : Env} : liveE fi66 7 e = keepE [0, 5, 6] e := rfl
theorem lv66_8 {e : Env} : liveE fi66 8 e = keepE [4] e := rfl
theorem keep66 : fi66.keep = false := rfl
/-- interleave/interleaveref07.Put: its code -/
noncomputable def code66 : Code := fi66.fn.body.getD .skip
theorem body66 : fi66.fn.body = some code66 := rfl
theorem res66 : fi66.fn.results = Go.Proofs.Try.f66.results := rfl
theorem fn5 : cfg.fn 5 = some fi5 := rfl
theorem pure5 : fi5.pure = true := rfl
theorem call5 (args : List V) (s : St) : callL cfg 5 args s = bnd (execL cfg fi5 code5 (enumE 0 args) s) (finK cfg fi5 s.nxt) := x_call rfl rfl rfl
theorem intr5 : cfg.intr 5 = none := rfl
theorem fn11 : cfg.fn 11 = some fi11 := rfl
theorem pure11 : fi11.pure = true := rfl
theorem call11 (args : List V) (s : St) : callL cfg 11 args s = bnd (execL cfg fi11 code11 (enumE 0 args) s) (finK cfg fi11 s.nxt) := x_call rfl rfl rfl
theorem intr11 : cfg.intr 11 = none := rfl
theorem fn13 : cfg.fn 13 = some fi13 := rfl
theorem pure13 : fi13.pure = true := rfl
theorem call13 (args : List V) (s : St) : callL cfg 13 args s = bnd (execL cfg fi13 code13 (enumE 0 args) s) (finK cfg fi13 s.nxt) := x_call rfl rfl rfl
theorem intr13 : cfg.intr 13 = none := rfl
theorem fn14 : cfg.fn 14 = some fi14 := rfl
theorem pure14 : fi14.pure = true := rfl
theorem call14 (args : List V) (s : St) : callL cfg 14 args s = bnd (execL cfg fi14 code14 (enumE 0 args) s) (finK cfg fi14 s.nxt) := x_call rfl rfl rfl
theorem intr14 : cfg.intr 14 = none := rfl
theorem fn15 : cfg.fn 15 = some fi15 := rfl
theorem pure15 : fi15.pure = true := rfl
theorem call15 (args : List V) (s : St) : callL cfg 15 args s = bnd (execL cfg fi15 code15 (enumE 0 args) s) (finK cfg fi15 s.nxt) := x_call rfl rfl rfl
theorem intr15 : cfg.intr 15 = none := rfl
theorem fn16 : cfg.fn 16 = some fi16 := rfl
theorem pure16 : fi16.pure = true := rfl
theorem call16 (args : List V) (s : St) : callL cfg 16 args s = bnd (execL cfg fi16 code16 (enumE 0 args) s) (finK cfg fi16 s.nxt) := x_call rfl rfl rfl
theorem intr16 : cfg.intr 16 = none := rfl
theorem fn19 : cfg.fn 19 = some fi19 := rfl
theorem pure19 : fi19.pure = true := rfl
theorem call19 (args : List V) (s : St) : callL cfg 19 args s = bnd (execL cfg fi19 code19 (enumE 0 args) s) (finK cfg fi19 s.nxt) := x_call rfl rfl rfl
theorem intr19 : cfg.intr 19 = none := rfl
theorem fn20 : cfg.fn 20 = some fi20 := rfl
theorem pure20 : fi20.pure = false := rfl
theorem call20 (args : List V) (s : St) : callL cfg 20 args s = bnd (execL cfg fi20 code20 (enumE 0 args) s) (finK cfg fi20 s.nxt) := x_call rfl rfl rfl
theorem intr20 : cfg.intr 20 = none := rfl
theorem fn21 : cfg.fn 21 = some fi21 := rfl
theorem pure21 : fi21.pure = false := rfl
theorem call21 (args : List V) (s : St) : callL cfg 21 args s = intrSort args s := callL_intr rfl
theorem fn22 : cfg.fn 22 = some fi22 := rfl
theorem pure22 : fi22.pure = false := rfl
theorem call22 (args : List V) (s : St) : callL cfg 22 args s = (intrCompact Go.Lib.compact) args s := callL_intr rfl
theorem fn23 : cfg.fn 23 = some fi23 := rfl
theorem pure23 : fi23.pure = false := rfl
theorem call23 (args : List V) (s : St) : callL cfg 23 args s = bnd (execL cfg fi23 code23 (enumE 0 args) s) (finK cfg fi23 s.nxt) := x_call rfl rfl rfl
theorem intr23 : cfg.intr 23 = none := rfl
theorem fn24 : cfg.fn 24 = some fi24 := rfl
theorem pure24 : fi24.pure = false := rfl
theorem call24 (args : List V) (s : St) : callL cfg 24 args s = bnd (execL cfg fi24 code24 (enumE 0 args) s) (finK cfg fi24 s.nxt) := x_call rfl rfl rfl
theorem intr24 : cfg.intr 24 = none := rfl
theorem fn25 : cfg.fn 25 = some fi25 := rfl
theorem pure25 : fi25.pure = false := rfl
theorem call25 (args : List V) (s : St) : callL cfg 25 args s = bnd (execL cfg fi25 code25 (enumE 0 args) s) (finK cfg fi25 s.nxt) := x_call rfl rfl rfl
theorem intr25 : cfg.intr 25 = none := rfl
theorem fn26 : cfg.fn 26 = some fi26 := rfl
theorem pure26 : fi26.pure = true := rfl
theorem call26 (args : List V) (s : St) : callL cfg 26 args s = bnd (execL cfg fi26 code26 (enumE 0 args) s) (finK cfg fi26 s.nxt) := x_call rfl rfl rfl
theorem intr26 : cfg.intr 26 = none := rfl
theorem fn27 : cfg.fn 27 = some fi27 := rfl
theorem pure27 : fi27.pure = false := rfl
theorem call27 (args : List V) (s : St) : callL cfg 27 args s = bnd (execL cfg fi27 code27 (enumE 0 args) s) (finK cfg fi27 s.nxt) := x_call rfl rfl rfl
theorem intr27 : cfg.intr 27 = none := rfl
theorem fn30 : cfg.fn 30 = some fi30 := rfl
theorem pure30 : fi30.pure = false := rfl
theorem call30 (args : List V) (s : St) : callL cfg 30 args s = (intrGrow 1 8) args s := callL_intr rfl
theorem fn33 : cfg.fn 33 = some fi33 := rfl
theorem pure33 : fi33.pure = false := rfl
theorem call33 (args : List V) (s : St) : callL cfg 33 args s = intrClone 1 args s := callL_intr rfl
theorem fn34 : cfg.fn 34 = some fi34 := rfl
theorem pure34 : fi34.pure = true := rfl
theorem call34 (args : List V) (s : St) : callL cfg 34 args s = intrClone 1 args s := callL_intr rfl
theorem fn35 : cfg.fn 35 = some fi35 := rfl
theorem pure35 : fi35.pure = false := rfl
theorem call35 (args : List V) (s : St) : callL cfg 35 args s = bnd (execL cfg fi35 code35 (enumE 0 args) s) (finK cfg fi35 s.nxt) := x_call rfl rfl rfl
theorem intr35 : cfg.intr 35 = none := rfl
theorem fn36 : cfg.fn 36 = some fi36 := rfl
theorem pure36 : fi36.pure = true := rfl
theorem call36 (args : List V) (s : St) : callL cfg 36 args s = bnd (execL cfg fi36 code36 (enumE 0 args) s) (finK cfg fi36 s.nxt) := x_call rfl rfl rfl
theorem intr36 : cfg.intr 36 = none := rfl
theorem fn37 : cfg.fn 37 = some fi37 := rfl
theorem pure37 : fi37.pure = true := rfl
theorem call37 (args : List V) (s : St) : callL cfg 37 args s = bnd (execL cfg fi37 code37 (enumE 0 args) s) (finK cfg fi37 s.nxt) := x_call rfl rfl rfl
theorem intr37 : cfg.intr 37 = none := rfl
theorem fn38 : cfg.fn 38 = some fi38 := rfl
theorem pure38 : fi38.pure = true := rfl
theorem call38 (args : List V) (s : St) : callL cfg 38 args s = bnd (execL cfg fi38 code38 (enumE 0 args) s) (finK cfg fi38 s.nxt) := x_call rfl rfl rfl
theorem intr38 : cfg.intr 38 = none := rfl
theorem fn39 : cfg.fn 39 = some fi39 := rfl
theorem pure39 : fi39.pure = true := rfl
theorem call39 (args : List V) (s : St) : callL cfg 39 args s = bnd (execL cfg fi39 code39 (enumE 0 args) s) (finK cfg fi39 s.nxt) := x_call rfl rfl rfl
theorem intr39 : cfg.intr 39 = none := rfl
theorem fn40 : cfg.fn 40 = some fi40 := rfl
theorem pure40 : fi40.pure = true := rfl
theorem call40 (args : List V) (s : St) : callL cfg 40 args s = bnd (execL cfg fi40 code40 (enumE 0 args) s) (finK cfg fi40 s.nxt) := x_call rfl rfl rfl
theorem intr40 : cfg.intr 40 = none := rfl
theorem fn41 : cfg.fn 41 = some fi41 := rfl
theorem pure41 : fi41.pure = true := rfl
theorem call41 (args : List V) (s : St) : callL cfg 41 args s = bnd (execL cfg fi41 code41 (enumE 0 args) s) (finK cfg fi41 s.nxt) := x_call rfl rfl rfl
theorem intr41 : cfg.intr 41 = none := rfl
theorem fn42 : cfg.fn 42 = some fi42 := rfl
theorem pure42 : fi42.pure = true := rfl
theorem call42 (args : List V) (s : St) : callL cfg 42 args s = bnd (execL cfg fi42 code42 (enumE 0 args) s) (finK cfg fi42 s.nxt) := x_call rfl rfl rfl
theorem intr42 : cfg.intr 42 = none := rfl
theorem fn63 : cfg.fn 63 = some fi63 := rfl
theorem pure63 : fi63.pure = true := rfl
theorem call63 (args : List V) (s : St) : callL cfg 63 args s = bnd (execL cfg fi63 code63 (enumE 0 args) s) (finK cfg fi63 s.nxt) := x_call rfl rfl rfl
theorem intr63 : cfg.intr 63 = none := rfl
theorem fn64 : cfg.fn 64 = some fi64 := rfl
theorem pure64 : fi64.pure = true := rfl
theorem call64 (args : List V) (s : St) : callL cfg 64 args s = bnd (execL cfg fi64 code64 (enumE 0 args) s) (finK cfg fi64 s.nxt) := x_call rfl rfl rfl
theorem intr64 : cfg.intr 64 = none := rfl
theorem fn65 : cfg.fn 65 = some fi65 := rfl
theorem pure65 : fi65.pure = true := rfl
theorem call65 (args : List V) (s : St) : callL cfg 65 args s = bnd (execL cfg fi65 code65 (enumE 0 args) s) (finK cfg fi65 s.nxt) := x_call rfl rfl rfl
theorem intr65 : cfg.intr 65 = none := rfl
theorem fn66 : cfg.fn 66 = some fi66 := rfl
theorem pure66 : fi66.pure = true := rfl
theorem call66 (args : List V) (s : St) : callL cfg 66 args s = bnd (execL cfg fi66 code66 (enumE 0 args) s) (finK cfg fi66 s.nxt) := x_call rfl rfl rfl
theorem intr66 : cfg.intr 66 = none := rfl
theorem noGlob (g : Nat) : cfg.glob g = none := rfl
noncomputable def cfg0 : Cfg := { cfg with intr := fun _ => none }
theorem cfgOk0 : CfgOk cfg0 Go.Proofs.Try.prog := cfgOk.told _
theorem intrOk0 : IntrOk cfg0 Go.Proofs.Try.prog := fun f g h => by cases h
theorem q33 (w : World) (a : Option Addr) (n c n' c' : Nat) : (binOp .eql 36 (.slice a n c) (.slice none n' c')).run Go.Proofs.Try.prog w = .ok (.bool a.isNone) w := Lib.run_eql_slice_nil w _ _ a n c n' c' Go.Proofs.Try.underlying36
set_option maxHeartbeats 2000000 in
theorem nil33 (n c : Nat) (w : World) : Calls Go.Proofs.Try.prog 33 #[.slice none n c] w fun e w' => e = .returned (.slice none 0 0) ∧ w' = w := by
  have q := q33
  go_enter Go.Proofs.Try.func33, Go.Proofs.Try.ntmps33
  go_wp2
  go_ret
  exact ⟨rfl, rfl⟩
set_option maxHeartbeats 2000000 in
theorem zero33 (a : Addr) (c : Nat) (w : World) : Calls Go.Proofs.Try.prog 33 #[.slice (some a) 0 c] w fun e w' => ∃ a', e = .returned (.slice a' 0 0) ∧ Go.RowKit.Below w.heap.size w w' := by
  have t22 := Go.Proofs.Try.underlying36
  obtain ⟨i0, d0, z0, hi, _⟩ := (cfgOk.ty 2 _ ty2).ex
  have q := q33
  have u22 : ∀ w, Sem.run Go.Proofs.Try.prog (underlying 36) w = .ok (TypeDesc.slice 2) w := run_underlying t22
  go_enter Go.Proofs.Try.func33, Go.Proofs.Try.ntmps33
  go_wp2_with (at_builtin; refine wpList_append_zero rfl _ _ 36 2 i0 rfl t22 hi _ (some a) c rfl rfl ?_)
  go_wp2
  go_ret
  have hb := (Go.RowKit.Below.refl w.heap.size w).alloc (Nat.le_refl _) (.cells #[] 2)
  first | exact ⟨_, rfl, hb⟩ | exact ⟨⟨_, rfl⟩, hb⟩
theorem empty33 : CloneEmpty Go.Proofs.Try.prog 33 := by
  intro a cap w
  cases a with
  | none => exact (nil33 0 cap w).mono fun e w' ⟨h1, h2⟩ => ⟨none, h1, by rw [h2]; exact Go.RowKit.Below.refl _ _⟩
  | some a => exact zero33 a cap w
theorem full33 (x : V) (s : St) (y : V) (ys : List V) (he : elems s x = some (y :: ys)) (hc : ((y :: ys).all fun v => v.storable && decide (v.cells.length = 1)) = true) (hl : (y :: ys).length ≤ 100000000) :
    callL cfg0 33 [x] s = some (.ref s.nxt 0 1 0 (y :: ys).length, { nxt := s.nxt + 1, objs := aset s.objs s.nxt ⟨1, 0, false, (y :: ys).map V.cells⟩ }) := by
  have hf := full_of_elems he
  obtain ⟨n, l⟩ := s
  have hs : code33 = .seq _ _ := rfl
  have hr : fi33.fn.results.toList = [_] := rfl
  have h1 : cfg0.fn 33 = some fi33 := rfl
  have h2 : cfg0.intr 33 = none := rfl
  have t1 : cfg0.ty 36 = some _ := ty36
  have t2 : cfg0.ty 2 = some _ := ty2
  have he1 : elemTy cfg0 36 = some 2 := rfl
  have hn := nilCmp_eql he1 hf
  have hroom : roomOk (([] : List (List V)).length + (y :: ys).length) 8 = true := by
    simp only [roomOk, Bool.and_eq_true, decide_eq_true_eq, List.length_nil, Nat.zero_add]
    omega
  have hap : appendOp cfg0 false ⟨n, l⟩ n 2 .nils x = some (.ref n 0 1 0 (y :: ys).length, .set n ⟨1, 0, false, (y :: ys).map V.cells⟩) := by
    have := append_eq (C := cfg0) (n := n) (id := n) (sz := 1) t2 rfl (by decide) (IsL.nil (l := l)) he (by simp) (fun z hz => by simpa using List.all_eq_true.1 hc z hz) hroom
    simpa only [appV, appI, appO, List.length_nil, Nat.zero_add, List.nil_append] using this
  rw [x_call h2 h1 body33, hs]
  simp only [↓x_seq, ↓x_reg, ↓x_cond, execL_skip, execL_ret, thn_normal, regK_mk, condK_ff, inss, ins, List.map_cons, List.map_nil, Option.map_none, Option.map_some, List.getElem?_toArray, runI_nil, i_move, i_assign, i_buildSlice, i_binOp, i_builtin, stepK_none, stepK_set, putE_some, frzD_some, bnd_some, yes_eq, liveE, keepE, List.filterMap_cons, List.filterMap_nil, List.contains_nil, prim_move, prim_assign, prim_binOp, prim_append, prim_buildSlice0, opnd_tmp, opnd_nils, nilS_nil, aget, aset, cond_true, ↓reduceIte, eq_self,
      reduceCtorEq, Nat.reduceEqDiff, Nat.reduceLT, Nat.one_ne_zero, V.cells, List.length_cons, elemTy, enumE, finK_ret, Ilv.results, resV, all_nil, all_cons, frz33, live33, t1, t2, hn, hap, keep33, hr]
theorem q34 (w : World) (a : Option Addr) (n c n' c' : Nat) : (binOp .eql 26 (.slice a n c) (.slice none n' c')).run Go.Proofs.Try.prog w = .ok (.bool a.isNone) w := Lib.run_eql_slice_nil w _ _ a n c n' c' Go.Proofs.Try.underlying26
set_option maxHeartbeats 2000000 in
theorem nil34 (n c : Nat) (w : World) : Calls Go.Proofs.Try.prog 34 #[.slice none n c] w fun e w' => e = .returned (.slice none 0 0) ∧ w' = w := by
  have q := q34
  go_enter Go.Proofs.Try.func34, Go.Proofs.Try.ntmps34
  go_wp2
  go_ret
  exact ⟨rfl, rfl⟩
set_option maxHeartbeats 2000000 in
theorem zero34 (a : Addr) (c : Nat) (w : World) : Calls Go.Proofs.Try.prog 34 #[.slice (some a) 0 c] w fun e w' => ∃ a', e = .returned (.slice a' 0 0) ∧ Go.RowKit.Below w.heap.size w w' := by
  have t22 := Go.Proofs.Try.underlying26
  obtain ⟨i0, d0, z0, hi, _⟩ := (cfgOk.ty 3 _ ty3).ex
  have q := q34
  have u22 : ∀ w, Sem.run Go.Proofs.Try.prog (underlying 26) w = .ok (TypeDesc.slice 3) w := run_underlying t22
  go_enter Go.Proofs.Try.func34, Go.Proofs.Try.ntmps34
  go_wp2_with (at_builtin; refine wpList_append_zero rfl _ _ 26 3 i0 rfl t22 hi _ (some a) c rfl rfl ?_)
  go_wp2
  go_ret
  have hb := (Go.RowKit.Below.refl w.heap.size w).alloc (Nat.le_refl _) (.cells #[] 3)
  first | exact ⟨_, rfl, hb⟩ | exact ⟨⟨_, rfl⟩, hb⟩
theorem empty34 : CloneEmpty Go.Proofs.Try.prog 34 := by
  intro a cap w
  cases a with
  | none => exact (nil34 0 cap w).mono fun e w' ⟨h1, h2⟩ => ⟨none, h1, by rw [h2]; exact Go.RowKit.Below.refl _ _⟩
  | some a => exact zero34 a cap w
theorem full34 (x : V) (s : St) (y : V) (ys : List V) (he : elems s x = some (y :: ys)) (hc : ((y :: ys).all fun v => v.storable && decide (v.cells.length = 1)) = true) (hl : (y :: ys).length ≤ 100000000) :
    callL cfg0 34 [x] s = some (.ref s.nxt 0 1 0 (y :: ys).length, { nxt := s.nxt + 1, objs := aset s.objs s.nxt ⟨1, 0, false, (y :: ys).map V.cells⟩ }) := by
  have hf := full_of_elems he
  obtain ⟨n, l⟩ := s
  have hs : code34 = .seq _ _ := rfl
  have hr : fi34.fn.results.toList = [_] := rfl
  have h1 : cfg0.fn 34 = some fi34 := rfl
  have h2 : cfg0.intr 34 = none := rfl
  have t1 : cfg0.ty 26 = some _ := ty26
  have t2 : cfg0.ty 3 = some _ := ty3
  have he1 : elemTy cfg0 26 = some 3 := rfl
  have hn := nilCmp_eql he1 hf
  have hroom : roomOk (([] : List (List V)).length + (y :: ys).length) 8 = true := by
    simp only [roomOk, Bool.and_eq_true, decide_eq_true_eq, List.length_nil, Nat.zero_add]
    omega
  have hap : appendOp cfg0 false ⟨n, l⟩ n 3 .nils x = some (.ref n 0 1 0 (y :: ys).length, .set n ⟨1, 0, false, (y :: ys).map V.cells⟩) := by
    have := append_eq (C := cfg0) (n := n) (id := n) (sz := 1) t2 rfl (by decide) (IsL.nil (l := l)) he (by simp) (fun z hz => by simpa using List.all_eq_true.1 hc z hz) hroom
    simpa only [appV, appI, appO, List.length_nil, Nat.zero_add, List.nil_append] using this
  rw [x_call h2 h1 body34, hs]
  simp only [↓x_seq, ↓x_reg, ↓x_cond, execL_skip, execL_ret, thn_normal, regK_mk, condK_ff, inss, ins, List.map_cons, List.map_nil, Option.map_none, Option.map_some, List.getElem?_toArray, runI_nil, i_move, i_assign, i_buildSlice, i_binOp, i_builtin, stepK_none, stepK_set, putE_some, frzD_some, bnd_some, yes_eq, liveE, keepE, List.filterMap_cons, List.filterMap_nil, List.contains_nil, prim_move, prim_assign, prim_binOp, prim_append, prim_buildSlice0, opnd_tmp, opnd_nils, nilS_nil, aget, aset, cond_true, ↓reduceIte, eq_self,
      reduceCtorEq, Nat.reduceEqDiff, Nat.reduceLT, Nat.one_ne_zero, V.cells, List.length_cons, elemTy, enumE, finK_ret, Ilv.results, resV, all_nil, all_cons, frz34, live34, t1, t2, hn, hap, keep34, hr]
theorem growOk30 : GrowOk Go.Proofs.Try.prog 1 8 30 := by
  intro a n w h1 h2 h3
  obtain ⟨i, z, q1, q2, q3, q4, q5, _⟩ := (cfgOk.ty 3 _ ty3).z
  have q2' : i.size = 1 := q2
  have q3' : i.bytes = 8 := q3
  have q5' : z.cells.size = 1 := q5
  refine (Any8.slices_Grow_grow Try.growI i z q1 q4 (by rw [q2']; decide) a 0 0 n [] w (by omega) (by omega) (by rw [q3']; omega) (by omega) (by simp) (fun _ => rfl) (fun a _ j v h => by simp at h)).mono ?_
  rintro e w' ⟨rfl, hw⟩
  refine ⟨_, _, _, rfl, hw, ?_⟩
  simp only [Array.size_append, List.size_toArray, List.length_nil, size_zeroCells, q5', Nat.zero_add, Nat.sub_zero]
  rw [← Nat.add_mul]
  exact Nat.mul_le_mul_right _ (by omega)
theorem growRoom30 : GrowRoom Go.Proofs.Try.prog 30 := fun a l c n w h1 h2 h3 h4 => Any8.slices_Grow_room Try.growI a l c n w h1 h2 h3 h4
theorem intrOk : IntrOk cfg Go.Proofs.Try.prog := by
  intro f g h
  simp only [cfg, intrTab, aget] at h
  split at h
  · rename_i hf; subst hf; obtain rfl := Option.some.inj h; exact intrSort_sound Try.slices_Sort_int Try.slices_Sort_int_none
  split at h
  · rename_i hf; subst hf; obtain rfl := Option.some.inj h; exact intrCompact_sound Try.slices_Compact_int Try.slices_Compact_int_empty
  split at h
  · rename_i hf; subst hf; obtain rfl := Option.some.inj h; exact intrGrow_sound growOk30 growRoom30
  split at h
  · rename_i hf; subst hf; obtain rfl := Option.some.inj h; exact intrClone_sound cfgOk0 intrOk0 rfl full33 empty33
  split at h
  · rename_i hf; subst hf; obtain rfl := Option.some.inj h; exact intrClone_sound cfgOk0 intrOk0 rfl full34 empty34
  cases h
end Go.Proofs.YtdCfgT
