/- The tables of the evaluator for the functions that interleavelaw07.SilentCycles reach: which types, which functions, what is kept where. Written by gen.py. -/
import Derived.Test.YtdofkchhdckomaaProg
import Derived.Test.YtdofkchhdckomaaIlvInt
import Derived.Shelf.Slices.Clone
set_option maxRecDepth 100000
set_option linter.unusedVariables false
set_option linter.unusedSimpArgs false
namespace Go.Proofs.YtdCfgA
open Go Go.Ilv
noncomputable def tyTab : List (Nat × Ty) := [
  (2, ⟨.int .i64, 1, 8, [.int .i64 0]⟩),
  (3, ⟨.int .i64, 1, 8, [.int .i64 0]⟩),
  (4, ⟨.bool, 1, 1, [.bool false]⟩),
  (5, ⟨.int .u8, 1, 1, [.int .u8 0]⟩),
  (9, ⟨.str, 1, 16, [.str ⟨#[]⟩]⟩),
  (26, ⟨.slice 3, 1, 24, [.nils]⟩),
  (33, ⟨.slice 60, 1, 24, [.nils]⟩),
  (35, ⟨.struct [(0, 3), (1, 33)], 2, 32, [.int .i64 0, .nils]⟩),
  (36, ⟨.slice 2, 1, 24, [.nils]⟩),
  (37, ⟨.slice 26, 1, 24, [.nils]⟩),
  (39, ⟨.struct [(0, 3), (1, 36), (2, 37), (3, 3)], 4, 64, [.int .i64 0, .nils, .nils, .int .i64 0]⟩),
  (60, ⟨.struct [(0, 3), (1, 3), (2, 3), (3, 3), (4, 2), (5, 3)], 6, 48, [.int .i64 0, .int .i64 0, .int .i64 0, .int .i64 0, .int .i64 0, .int .i64 0]⟩),
  (68, ⟨.ptr 39, 1, 8, [.pnil]⟩),
  (82, ⟨.int .u64, 1, 8, [.int .u64 0]⟩),
  (117, ⟨.int .i64, 1, 8, [.int .i64 0]⟩),
  (126, ⟨.int .u32, 1, 4, [.int .u32 0]⟩),
  (128, ⟨.int .u64, 1, 8, [.int .u64 0]⟩),
  (151, ⟨.int .u64, 1, 8, [.int .u64 0]⟩),
  (155, ⟨.ptr 3, 1, 8, [.pnil]⟩),
  (172, ⟨.ptr 151, 1, 8, [.pnil]⟩)]
/-- interleave/interleavelaw07.SilentCycles -/
noncomputable def fi7 : FnI := ⟨Go.Proofs.Try.f7, true, false, [9, 18, 27],
  [(0, []), (1, [2]), (2, [2, 4]), (3, [2, 4, 6]), (4, [0])],
  []⟩
/-- interleave/silent.Union -/
noncomputable def fi11 : FnI := ⟨Go.Proofs.Try.f11, true, false, [8],
  [(0, [0, 1]), (1, [5]), (2, [5]), (3, [4])],
  []⟩
/-- interleave/silent.Settle -/
noncomputable def fi13 : FnI := ⟨Go.Proofs.Try.f13, true, false, [],
  [(0, [2, 3, 4]), (1, [2, 3, 4, 21]), (2, [4, 5]), (3, [2, 3, 4]), (4, [2, 3, 4, 6]), (5, [2, 3, 4, 6, 29]), (6, [2, 3, 4, 6]), (7, [2, 3, 4, 6, 42]), (8, [4, 5]), (9, [2, 3, 4, 6, 7]), (10, [2, 3, 4, 6, 7, 57]), (11, [4, 5]), (12, [2, 3, 4, 6, 68]), (13, [4, 5]), (14, [4, 5])],
  []⟩
/-- interleave/interleavelaw07.awake -/
noncomputable def fi16 : FnI := ⟨Go.Proofs.Try.f16, true, false, [6, 8, 9, 10],
  [(0, []), (1, [1, 2]), (2, [0])],
  []⟩
/-- slices.Concat[[]int,int] -/
noncomputable def fi20 : FnI := ⟨Go.Proofs.Try.f20, true, false, [],
  [(0, [0]), (1, [0, 3]), (2, [0, 3, 9, 10, 11]), (3, [0, 3, 9, 10, 11, 12]), (4, [0, 3, 5, 9, 10, 11]), (5, [0, 3, 9, 10, 11]), (6, [0, 3, 9, 10, 11, 20]), (7, [0, 3, 9, 10, 11]), (8, [0, 3, 9, 10, 11]), (9, [0, 6]), (10, [6, 25, 26, 27]), (11, [6, 25, 26, 27, 28]), (12, [6, 8, 25, 26, 27]), (13, [6, 25, 26, 27]), (14, [6, 25, 26, 27]), (15, [2])],
  []⟩
/-- slices.Sort[[]int,int] -/
noncomputable def fi21 : FnI := ⟨Go.Proofs.Try.f21, true, false, [],
  [(0, [0, 2]), (1, [])],
  []⟩
/-- slices.Compact[[]int,int] -/
noncomputable def fi22 : FnI := ⟨Go.Proofs.Try.f22, true, false, [],
  [(0, [0]), (1, [0, 8]), (2, [2]), (3, [0, 3]), (4, [0, 3, 13]), (5, [0, 3]), (6, [0, 3, 25]), (7, [0, 3, 4]), (8, [0, 3, 4, 5]), (9, [0, 3, 4, 5, 32]), (10, [0, 3, 4, 5]), (11, [0, 3, 4, 5, 44]), (12, [0, 3, 4, 5]), (13, [0, 3, 4, 5]), (14, [0, 3]), (15, [2]), (16, [2])],
  []⟩
/-- interleave/silent.clone -/
noncomputable def fi23 : FnI := ⟨Go.Proofs.Try.f23, false, false, [],
  [(0, [1, 2]), (1, [1, 2]), (2, [1, 2, 3]), (3, [1, 2, 3, 15, 16, 17]), (4, [1, 2, 3, 15, 16, 17, 18]), (5, [1, 2, 3, 4, 5, 15, 16, 17]), (6, [1, 2, 3, 15, 16, 17]), (7, [1, 2, 3, 15, 16, 17]), (8, [1, 2]), (9, [2])],
  []⟩
/-- interleave/silent.execute -/
noncomputable def fi24 : FnI := ⟨Go.Proofs.Try.f24, false, false, [],
  [(0, [2, 3]), (1, [2, 3, 5]), (2, [2, 3, 5, 6]), (3, [2, 3, 5, 6, 7]), (4, [2, 3, 5, 6, 7, 8]), (5, [2, 3, 5, 6, 7, 8, 11]), (6, [2, 3, 5, 6, 7, 8, 11, 12]), (7, []), (8, [4]), (9, [2, 3, 5, 6, 7, 8, 11, 19]), (10, [2, 3, 5, 6, 7, 8]), (11, [2, 3, 5, 6, 7, 8, 11, 23]), (12, [2, 3, 5, 6, 7, 8]), (13, [2, 3, 5, 6, 7, 8, 29]), (14, [2, 3, 5, 6, 7, 8]), (15, [2, 3, 5, 6, 7, 8, 11, 46]), (16, [2, 3, 5, 6, 7, 8]), (17, [2, 3, 5, 6, 7, 8, 52]), (18, [2, 3, 5, 6, 8]), (19, [2, 3, 5, 6, 7, 8]), (20, [2, 3, 5, 6, 7, 8, 75]), (21, [2, 3, 5, 6, 7, 8]), (22, [2, 3, 5, 6, 7, 8, 87]), (23, [2, 3, 5, 6, 8]), (24, [2, 3, 5, 6, 7, 8]), (25, [2, 3, 6, 7, 135]), (26, [4]), (27, [2]), (28, []), (29, [4])],
  [(27, [(0, 14), (3, 14), (5, 14), (6, 14), (9, 14), (11, 14), (11, 16)])]⟩
/-- slices.Grow[[]int,int] -/
noncomputable def fi30 : FnI := ⟨Go.Proofs.Try.f30, true, false, [],
  [(0, [0, 1]), (1, [0, 1, 6]), (2, [0, 1]), (3, [0, 1]), (4, [0, 1, 16]), (5, [0]), (6, [4])],
  []⟩
/-- slices.pdqsortOrdered[int] -/
noncomputable def fi31 : FnI := ⟨Go.Proofs.Try.f31, true, false, [],
  [(0, [0, 1, 2, 3, 8]), (1, [0, 1, 2, 3, 8, 9]), (2, [0, 1, 2, 3, 8, 9, 10]), (3, [0, 1, 2, 3, 8, 9, 10, 23]), (4, []), (5, [0, 1, 2, 3, 8, 9, 10, 29]), (6, []), (7, [0, 1, 2, 3, 8, 9, 10, 35]), (8, [0, 1, 2, 3, 8, 9, 10]), (9, [0, 1, 2, 3, 8, 9, 10]), (10, [0, 1, 2, 3, 8, 9, 10, 11, 12]), (11, [0, 1, 2, 3, 8, 9, 10, 11, 12, 50]), (12, [0, 1, 2, 3, 8, 9, 10, 11]), (13, [0, 1, 2, 3, 8, 9, 10, 11]), (14, [0, 1, 2, 3, 8, 9, 10, 11, 12]), (15, [0, 1, 2, 3, 8, 9, 10, 11, 68]), (16, [0, 1, 2, 3, 8, 9, 10, 11, 72]), (17, [0, 1, 2, 3, 8, 9, 10, 11, 87]), (18, [0, 2, 3, 8, 9, 13]), (19, [0, 1, 2, 3, 8, 9]), (20, [0, 1, 2, 3, 10, 14, 15]), (21, [0, 1, 2, 3, 9, 10, 14]), (22, [0, 1, 2, 3, 9, 10, 14, 16, 17]), (23, [0, 1, 2, 3, 9, 14, 16, 17, 18]), (24, [0, 1, 2, 3, 9, 14, 16, 17, 18, 113]), (25, [0, 1, 2, 3, 8, 9, 14]), (26, [0, 2, 3, 8, 9, 14]), (27, [0, 1, 2, 3, 8, 9]), (28, [0, 1, 2, 3, 8, 9, 14]), (29, [0, 1, 3, 8, 9, 14]), (30, [0, 1, 2, 3, 8, 9])],
  []⟩
/-- math/bits.Len -/
noncomputable def fi32 : FnI := ⟨Go.Proofs.Try.f32, true, false, [],
  [(0, [0]), (1, [2]), (2, [2])],
  []⟩
/-- interleave/silent.execute$1 -/
noncomputable def fi35 : FnI := ⟨Go.Proofs.Try.f35, false, false, [],
  [(0, [0, 1]), (1, [3])],
  []⟩
/-- interleave/eval.Unary -/
noncomputable def fi36 : FnI := ⟨Go.Proofs.Try.f36, true, false, [],
  [(0, [0, 1]), (1, [1, 6]), (2, [1, 6, 7]), (3, [4, 5]), (4, [1, 11]), (5, [4, 5]), (6, [4, 5])],
  []⟩
/-- interleave/eval.Binary -/
noncomputable def fi37 : FnI := ⟨Go.Proofs.Try.f37, true, false, [],
  [(0, [0, 1, 2]), (1, [0, 1, 2, 8]), (2, [0, 1, 2, 8, 9]), (3, [6, 7]), (4, [0, 1, 2, 8, 14]), (5, [6, 7]), (6, [0, 1, 2, 8, 19]), (7, [6, 7]), (8, [0, 1, 2, 8, 24]), (9, [0, 1, 2, 8, 24]), (10, [6, 7]), (11, [1, 2, 8, 31]), (12, [6, 7]), (13, [1, 2, 8, 37]), (14, [6, 7]), (15, [1, 2, 8, 43]), (16, [6, 7]), (17, [1, 2, 8, 49]), (18, [6, 7]), (19, [1, 2, 8, 55]), (20, [6, 7]), (21, [1, 2, 8, 61]), (22, [6, 7]), (23, [1, 2, 8, 67]), (24, [6, 7]), (25, [1, 2, 76]), (26, [6, 7]), (27, [6, 7])],
  []⟩
/-- slices.insertionSortOrdered[int] -/
noncomputable def fi52 : FnI := ⟨Go.Proofs.Try.f52, true, false, [],
  [(0, [0, 1, 2, 6]), (1, [0, 1, 2, 6, 12]), (2, [0, 1, 2, 6]), (3, [0, 1, 2, 6, 7]), (4, [0, 1, 2, 6, 7, 30]), (5, [0, 1, 2, 6, 7]), (6, [0, 1, 2, 6, 7])],
  []⟩
/-- slices.heapSortOrdered[int] -/
noncomputable def fi53 : FnI := ⟨Go.Proofs.Try.f53, true, false, [],
  [(0, [0, 1, 2, 6]), (1, [0, 1, 2, 6, 7]), (2, [0, 6, 7, 8]), (3, [0, 6, 7, 8, 9]), (4, [0, 6, 7, 8, 9, 19]), (5, [0, 6, 7, 8, 9]), (6, [0, 6, 7, 8, 9]), (7, [0, 6, 7, 10]), (8, [0, 6, 7, 10, 30]), (9, [0, 6, 7, 10]), (10, [0, 6, 7, 10]), (11, [0, 6, 7, 10])],
  []⟩
/-- slices.breakPatternsOrdered[int] -/
noncomputable def fi54 : FnI := ⟨Go.Proofs.Try.f54, true, false, [],
  [(0, [0, 1, 6]), (1, [0, 1, 6, 15]), (2, [0, 1, 6, 7]), (3, [0, 1, 6, 7, 8]), (4, [0, 1, 6, 7, 8, 9]), (5, [0, 1, 6, 7, 8, 9, 33]), (6, [0, 1, 6, 7, 8, 9]), (7, [0, 1, 6, 7, 8, 9, 10]), (8, [0, 1, 6, 7, 8, 9, 10, 43]), (9, [0, 1, 6, 7, 8, 9, 10]), (10, [0, 1, 6, 7, 8, 9])],
  []⟩
/-- slices.choosePivotOrdered[int] -/
noncomputable def fi55 : FnI := ⟨Go.Proofs.Try.f55, true, false, [],
  [(0, [0, 1, 2]), (1, [0, 1, 8]), (2, [0, 1, 8, 9]), (3, [0, 1, 8, 9, 10]), (4, [0, 1, 8, 9, 10, 11]), (5, [0, 8, 9, 10, 11, 12]), (6, [0, 8, 9, 10, 11, 12, 32]), (7, [0, 9, 10, 11, 12, 34]), (8, [0, 9, 10, 11, 12]), (9, [0, 9, 10, 11, 12]), (10, [0, 9, 10, 11, 12]), (11, [9, 11]), (12, [11, 49]), (13, [6, 7]), (14, [11, 49, 51]), (15, [6, 7]), (16, [11, 54]), (17, [6, 7])],
  []⟩
/-- slices.reverseRangeOrdered[int] -/
noncomputable def fi56 : FnI := ⟨Go.Proofs.Try.f56, true, false, [],
  [(0, [0, 2, 6]), (1, [0, 6, 7]), (2, [0, 6, 7, 13]), (3, [0, 6, 7]), (4, [0, 6, 7]), (5, [0, 6, 7])],
  []⟩
/-- slices.partialInsertionSortOrdered[int] -/
noncomputable def fi57 : FnI := ⟨Go.Proofs.Try.f57, true, false, [],
  [(0, [0, 1, 2]), (1, [0, 1, 2, 7]), (2, [0, 1, 2, 7, 8]), (3, [0, 1, 2, 7, 8, 14]), (4, [0, 1, 2, 7, 8]), (5, [0, 1, 2, 7, 8, 32]), (6, [0, 1, 2, 7, 8]), (7, [0, 1, 2, 7, 8, 37]), (8, [6]), (9, [0, 1, 2, 7, 8, 41]), (10, [6]), (11, [0, 1, 2, 7, 8]), (12, [0, 1, 2, 7, 8, 61]), (13, [0, 1, 2, 7, 8, 9]), (14, [0, 1, 2, 7, 8, 9, 65]), (15, [0, 1, 2, 7, 8, 9]), (16, [0, 1, 2, 7, 8, 9, 78]), (17, [0, 1, 2, 7, 8, 9]), (18, [0, 1, 2, 7, 8, 98]), (19, [0, 1, 2, 7, 8, 10]), (20, [0, 1, 2, 7, 8, 10, 103]), (21, [0, 1, 2, 7, 8, 10]), (22, [0, 1, 2, 7, 8, 10, 116]), (23, [0, 1, 2, 7, 8, 10]), (24, [6])],
  []⟩
/-- cmp.Less[int] -/
noncomputable def fi58 : FnI := ⟨Go.Proofs.Try.f58, true, false, [],
  [(0, [0, 1]), (1, [4])],
  []⟩
/-- slices.partitionEqualOrdered[int] -/
noncomputable def fi59 : FnI := ⟨Go.Proofs.Try.f59, true, false, [],
  [(0, [0, 1, 2, 3]), (1, [0, 1, 2]), (2, [0, 1, 9, 10]), (3, [0, 1, 9, 10, 43]), (4, [0, 1, 9, 10]), (5, [0, 1, 9, 10, 59]), (6, [0, 1, 9, 10]), (7, [0, 1, 9, 10, 64]), (8, [0, 1, 9, 10]), (9, [0, 1, 9, 10]), (10, [0, 1, 9, 10]), (11, [8])],
  []⟩
/-- slices.partitionOrdered[int] -/
noncomputable def fi60 : FnI := ⟨Go.Proofs.Try.f60, true, false, [],
  [(0, [0, 1, 2, 3]), (1, [0, 1, 2]), (2, [0, 1, 10, 11]), (3, [0, 1, 10, 11, 43]), (4, [0, 1, 10, 11]), (5, [0, 1, 10, 11, 60]), (6, [0, 1, 10, 11]), (7, [0, 1, 10, 11, 65]), (8, [11]), (9, [8, 9]), (10, [0, 1, 10, 11]), (11, [0, 1, 10, 11]), (12, [0, 1, 10, 11]), (13, [0, 1, 10, 11, 112]), (14, [0, 1, 10, 11]), (15, [0, 1, 10, 11, 129]), (16, [0, 1, 10, 11]), (17, [0, 1, 10, 11, 134]), (18, [0, 1, 10, 11]), (19, [0, 1, 10, 11]), (20, [0, 1, 10, 11]), (21, [11]), (22, [8, 9])],
  []⟩
/-- math/bits.Len32 -/
noncomputable def fi61 : FnI := ⟨Go.Proofs.Try.f61, true, false, [],
  [(0, [0, 2]), (1, [0, 2, 4]), (2, [0]), (3, [0, 2]), (4, [0, 2, 8]), (5, [0, 2]), (6, [0, 2]), (7, [2])],
  []⟩
/-- math/bits.Len64 -/
noncomputable def fi62 : FnI := ⟨Go.Proofs.Try.f62, true, false, [],
  [(0, [0, 2]), (1, [0, 2, 4]), (2, [0]), (3, [0, 2]), (4, [0, 2, 8]), (5, [0, 2]), (6, [0, 2]), (7, [0, 2, 14]), (8, [0, 2]), (9, [0, 2]), (10, [2])],
  []⟩
/-- interleave/eval.truth -/
noncomputable def fi63 : FnI := ⟨Go.Proofs.Try.f63, true, false, [],
  [(0, [0]), (1, [3]), (2, [2]), (3, [2])],
  []⟩
/-- interleave/eval.divide -/
noncomputable def fi64 : FnI := ⟨Go.Proofs.Try.f64, true, false, [],
  [(0, [0, 1, 2]), (1, [0, 1, 2, 7]), (2, [6]), (3, [1, 2, 10]), (4, [6]), (5, [6])],
  []⟩
/-- slices.siftDownOrdered[int] -/
noncomputable def fi76 : FnI := ⟨Go.Proofs.Try.f76, true, false, [],
  [(0, [0, 2, 3, 8]), (1, [0, 2, 3, 8, 9]), (2, [0, 2, 3, 8, 9, 16]), (3, [0, 2, 3, 8, 9, 36]), (4, [0, 2, 3, 8, 9]), (5, [0, 2, 3, 8, 9, 52]), (6, [0, 2, 3, 9]), (7, [0, 2, 3, 8])],
  []⟩
/-- slices.nextPowerOfTwo -/
noncomputable def fi77 : FnI := ⟨Go.Proofs.Try.f77, true, false, [],
  [(0, [0]), (1, [2])],
  []⟩
/-- (*slices.xorshift).Next -/
noncomputable def fi78 : FnI := ⟨Go.Proofs.Try.f78, false, false, [],
  [(0, [0]), (1, [0]), (2, [0]), (3, [0]), (4, [2])],
  []⟩
/-- slices.medianAdjacentOrdered[int] -/
noncomputable def fi79 : FnI := ⟨Go.Proofs.Try.f79, false, false, [],
  [(0, [0, 1, 2]), (1, [6])],
  []⟩
/-- slices.medianOrdered[int] -/
noncomputable def fi80 : FnI := ⟨Go.Proofs.Try.f80, false, false, [],
  [(0, [0, 1, 2, 3, 4]), (1, [0, 1, 2, 3, 4]), (2, [0, 1, 2, 4]), (3, [2]), (4, [10])],
  []⟩
/-- cmp.isNaN[int] -/
noncomputable def fi81 : FnI := ⟨Go.Proofs.Try.f81, true, false, [],
  [(0, [0]), (1, [2])],
  []⟩
/-- slices.order2Ordered[int] -/
noncomputable def fi99 : FnI := ⟨Go.Proofs.Try.f99, false, false, [],
  [(0, [0, 1, 2, 3]), (1, [1, 2, 3, 18]), (2, [1, 2]), (3, [8, 9]), (4, [8, 9])],
  []⟩
/-- slices.Clone[[]int64,int64] -/
noncomputable def fi33 : FnI := ⟨Go.Proofs.Try.f33, false, true, [],
  [(0, [0]), (1, [0, 4]), (2, [2]), (3, [2])],
  []⟩
/-- slices.Clone[[]int,int] -/
noncomputable def fi34 : FnI := ⟨Go.Proofs.Try.f34, false, true, [],
  [(0, [0]), (1, [0, 4]), (2, [2]), (3, [2])],
  []⟩
noncomputable def fnTab : List (Nat × FnI) := [(7, fi7), (11, fi11), (13, fi13), (16, fi16), (20, fi20), (21, fi21), (22, fi22), (23, fi23), (24, fi24), (30, fi30), (31, fi31), (32, fi32), (33, fi33), (34, fi34), (35, fi35), (36, fi36), (37, fi37), (52, fi52), (53, fi53), (54, fi54), (55, fi55), (56, fi56), (57, fi57), (58, fi58), (59, fi59), (60, fi60), (61, fi61), (62, fi62), (63, fi63), (64, fi64), (76, fi76), (77, fi77), (78, fi78), (79, fi79), (80, fi80), (81, fi81), (99, fi99)]
noncomputable def intrTab : List (Nat × (List V → St → Option (V × St))) := [(33, intrClone 1), (34, intrClone 1)]
noncomputable def cfg : Cfg := { ty := aget tyTab, fn := aget fnTab, glob := fun _ => none, eqs := fun t => [60].contains t, intr := aget intrTab }
theorem tysOk : (tyTab.all fun p => tyOkB Go.Proofs.Try.prog p.1 p.2) = true := by decide +kernel
theorem eqsOk : ([60].all fun t => eqOkB Go.Proofs.Try.prog t) = true := by decide +kernel
theorem codesOk : (fnTab.all fun p => fnOkB cfg p.2) = true := by decide +kernel
theorem fnsOk : FnsAt Go.Proofs.Try.prog fnTab := ⟨Go.Proofs.Try.func7, Go.Proofs.Try.func11, Go.Proofs.Try.func13, Go.Proofs.Try.func16, Go.Proofs.Try.func20, Go.Proofs.Try.func21, Go.Proofs.Try.func22, Go.Proofs.Try.func23, Go.Proofs.Try.func24, Go.Proofs.Try.func30, Go.Proofs.Try.func31, Go.Proofs.Try.func32, Go.Proofs.Try.func33, Go.Proofs.Try.func34, Go.Proofs.Try.func35, Go.Proofs.Try.func36, Go.Proofs.Try.func37, Go.Proofs.Try.func52, Go.Proofs.Try.func53, Go.Proofs.Try.func54, Go.Proofs.Try.func55, Go.Proofs.Try.func56, Go.Proofs.Try.func57, Go.Proofs.Try.func58, Go.Proofs.Try.func59, Go.Proofs.Try.func60, Go.Proofs.Try.func61, Go.Proofs.Try.func62, Go.Proofs.Try.func63, Go.Proofs.Try.func64, Go.Proofs.Try.func76, Go.Proofs.Try.func77, Go.Proofs.Try.func78, Go.Proofs.Try.func79, Go.Proofs.Try.func80, Go.Proofs.Try.func81, Go.Proofs.Try.func99, trivial⟩
theorem cfgOk : CfgOk cfg Go.Proofs.Try.prog := cfgOk_of tysOk eqsOk codesOk fnsOk (by decide +kernel)
theorem ty2 : cfg.ty 2 = some ⟨.int .i64, 1, 8, [.int .i64 0]⟩ := rfl
theorem ty3 : cfg.ty 3 = some ⟨.int .i64, 1, 8, [.int .i64 0]⟩ := rfl
theorem ty4 : cfg.ty 4 = some ⟨.bool, 1, 1, [.bool false]⟩ := rfl
theorem ty5 : cfg.ty 5 = some ⟨.int .u8, 1, 1, [.int .u8 0]⟩ := rfl
theorem ty9 : cfg.ty 9 = some ⟨.str, 1, 16, [.str ⟨#[]⟩]⟩ := rfl
theorem ty26 : cfg.ty 26 = some ⟨.slice 3, 1, 24, [.nils]⟩ := rfl
theorem ty33 : cfg.ty 33 = some ⟨.slice 60, 1, 24, [.nils]⟩ := rfl
theorem ty35 : cfg.ty 35 = some ⟨.struct [(0, 3), (1, 33)], 2, 32, [.int .i64 0, .nils]⟩ := rfl
theorem ty36 : cfg.ty 36 = some ⟨.slice 2, 1, 24, [.nils]⟩ := rfl
theorem ty37 : cfg.ty 37 = some ⟨.slice 26, 1, 24, [.nils]⟩ := rfl
theorem ty39 : cfg.ty 39 = some ⟨.struct [(0, 3), (1, 36), (2, 37), (3, 3)], 4, 64, [.int .i64 0, .nils, .nils, .int .i64 0]⟩ := rfl
theorem ty60 : cfg.ty 60 = some ⟨.struct [(0, 3), (1, 3), (2, 3), (3, 3), (4, 2), (5, 3)], 6, 48, [.int .i64 0, .int .i64 0, .int .i64 0, .int .i64 0, .int .i64 0, .int .i64 0]⟩ := rfl
theorem ty68 : cfg.ty 68 = some ⟨.ptr 39, 1, 8, [.pnil]⟩ := rfl
theorem ty82 : cfg.ty 82 = some ⟨.int .u64, 1, 8, [.int .u64 0]⟩ := rfl
theorem ty117 : cfg.ty 117 = some ⟨.int .i64, 1, 8, [.int .i64 0]⟩ := rfl
theorem ty126 : cfg.ty 126 = some ⟨.int .u32, 1, 4, [.int .u32 0]⟩ := rfl
theorem ty128 : cfg.ty 128 = some ⟨.int .u64, 1, 8, [.int .u64 0]⟩ := rfl
theorem ty151 : cfg.ty 151 = some ⟨.int .u64, 1, 8, [.int .u64 0]⟩ := rfl
theorem ty155 : cfg.ty 155 = some ⟨.ptr 3, 1, 8, [.pnil]⟩ := rfl
theorem ty172 : cfg.ty 172 = some ⟨.ptr 151, 1, 8, [.pnil]⟩ := rfl
theorem eqs60 : cfg.eqs 60 = true := rfl
theorem frz7 : fi7.frz = [9, 18, 27] := rfl
theorem live7 : fi7.live = [(0, []), (1, [2]), (2, [2, 4]), (3, [2, 4, 6]), (4, [0])] := rfl
theorem conf7 : fi7.conf = [] := rfl
theorem keep7 : fi7.keep = false := rfl
/-- interleave/interleavelaw07.SilentCycles: its code -/
noncomputable def code7 : Code := fi7.fn.body.getD .skip
theorem body7 : fi7.fn.body = some code7 := rfl
theorem res7 : fi7.fn.results = Go.Proofs.Try.f7.results := rfl
theorem frz11 : fi11.frz = [8] := rfl
theorem live11 : fi11.live = [(0, [0, 1]), (1, [5]), (2, [5]), (3, [4])] := rfl
theorem conf11 : fi11.conf = [] := rfl
theorem keep11 : fi11.keep = false := rfl
/-- interleave/silent.Union: its code -/
noncomputable def code11 : Code := fi11.fn.body.getD .skip
theorem body11 : fi11.fn.body = some code11 := rfl
theorem res11 : fi11.fn.results = Go.Proofs.Try.f11.results := rfl
theorem frz13 : fi13.frz = [] := rfl
theorem live13 : fi13.live = [(0, [2, 3, 4]), (1, [2, 3, 4, 21]), (2, [4, 5]), (3, [2, 3, 4]), (4, [2, 3, 4, 6]), (5, [2, 3, 4, 6, 29]), (6, [2, 3, 4, 6]), (7, [2, 3, 4, 6, 42]), (8, [4, 5]), (9, [2, 3, 4, 6, 7]), (10, [2, 3, 4, 6, 7, 57]), (11, [4, 5]), (12, [2, 3, 4, 6, 68]), (13, [4, 5]), (14, [4, 5])] := rfl
theorem conf13 : fi13.conf = [] := rfl
theorem keep13 : fi13.keep = false := rfl
/-- interleave/silent.Settle: its code -/
noncomputable def code13 : Code := fi13.fn.body.getD .skip
theorem body13 : fi13.fn.body = some code13 := rfl
theorem res13 : fi13.fn.results = Go.Proofs.Try.f13.results := rfl
theorem frz16 : fi16.frz = [6, 8, 9, 10] := rfl
theorem live16 : fi16.live = [(0, []), (1, [1, 2]), (2, [0])] := rfl
theorem conf16 : fi16.conf = [] := rfl
theorem keep16 : fi16.keep = false := rfl
/-- interleave/interleavelaw07.awake: its code -/
noncomputable def code16 : Code := fi16.fn.body.getD .skip
theorem body16 : fi16.fn.body = some code16 := rfl
theorem res16 : fi16.fn.results = Go.Proofs.Try.f16.results := rfl
theorem frz20 : fi20.frz = [] := rfl
theorem live20 : fi20.live = [(0, [0]), (1, [0, 3]), (2, [0, 3, 9, 10, 11]), (3, [0, 3, 9, 10, 11, 12]), (4, [0, 3, 5, 9, 10, 11]), (5, [0, 3, 9, 10, 11]), (6, [0, 3, 9, 10, 11, 20]), (7, [0, 3, 9, 10, 11]), (8, [0, 3, 9, 10, 11]), (9, [0, 6]), (10, [6, 25, 26, 27]), (11, [6, 25, 26, 27, 28]), (12, [6, 8, 25, 26, 27]), (13, [6, 25, 26, 27]), (14, [6, 25, 26, 27]), (15, [2])] := rfl
theorem conf20 : fi20.conf = [] := rfl
theorem keep20 : fi20.keep = false := rfl
/-- slices.Concat[[]int,int]: its code -/
noncomputable def code20 : Code := fi20.fn.body.getD .skip
theorem body20 : fi20.fn.body = some code20 := rfl
theorem res20 : fi20.fn.results = Go.Proofs.Try.f20.results := rfl
theorem frz21 : fi21.frz = [] := rfl
theorem live21 : fi21.live = [(0, [0, 2]), (1, [])] := rfl
theorem conf21 : fi21.conf = [] := rfl
theorem keep21 : fi21.keep = false := rfl
/-- slices.Sort[[]int,int]: its code -/
noncomputable def code21 : Code := fi21.fn.body.getD .skip
theorem body21 : fi21.fn.body = some code21 := rfl
theorem res21 : fi21.fn.results = Go.Proofs.Try.f21.results := rfl
theorem frz22 : fi22.frz = [] := rfl
theorem live22 : fi22.live = [(0, [0]), (1, [0, 8]), (2, [2]), (3, [0, 3]), (4, [0, 3, 13]), (5, [0, 3]), (6, [0, 3, 25]), (7, [0, 3, 4]), (8, [0, 3, 4, 5]), (9, [0, 3, 4, 5, 32]), (10, [0, 3, 4, 5]), (11, [0, 3, 4, 5, 44]), (12, [0, 3, 4, 5]), (13, [0, 3, 4, 5]), (14, [0, 3]), (15, [2]), (16, [2])] := rfl
theorem conf22 : fi22.conf = [] := rfl
theorem keep22 : fi22.keep = false := rfl
/-- slices.Compact[[]int,int]: its code -/
noncomputable def code22 : Code := fi22.fn.body.getD .skip
theorem body22 : fi22.fn.body = some code22 := rfl
theorem res22 : fi22.fn.results = Go.Proofs.Try.f22.results := rfl
theorem frz23 : fi23.frz = [] := rfl
theorem live23 : fi23.live = [(0, [1, 2]), (1, [1, 2]), (2, [1, 2, 3]), (3, [1, 2, 3, 15, 16, 17]), (4, [1, 2, 3, 15, 16, 17, 18]), (5, [1, 2, 3, 4, 5, 15, 16, 17]), (6, [1, 2, 3, 15, 16, 17]), (7, [1, 2, 3, 15, 16, 17]), (8, [1, 2]), (9, [2])] := rfl
theorem conf23 : fi23.conf = [] := rfl
theorem keep23 : fi23.keep = false := rfl
/-- interleave/silent.clone: its code -/
noncomputable def code23 : Code := fi23.fn.body.getD .skip
theorem body23 : fi23.fn.body = some code23 := rfl
theorem res23 : fi23.fn.results = Go.Proofs.Try.f23.results := rfl
theorem frz24 : fi24.frz = [] := rfl
theorem live24 : fi24.live = [(0, [2, 3]), (1, [2, 3, 5]), (2, [2, 3, 5, 6]), (3, [2, 3, 5, 6, 7]), (4, [2, 3, 5, 6, 7, 8]), (5, [2, 3, 5, 6, 7, 8, 11]), (6, [2, 3, 5, 6, 7, 8, 11, 12]), (7, []), (8, [4]), (9, [2, 3, 5, 6, 7, 8, 11, 19]), (10, [2, 3, 5, 6, 7, 8]), (11, [2, 3, 5, 6, 7, 8, 11, 23]), (12, [2, 3, 5, 6, 7, 8]), (13, [2, 3, 5, 6, 7, 8, 29]), (14, [2, 3, 5, 6, 7, 8]), (15, [2, 3, 5, 6, 7, 8, 11, 46]), (16, [2, 3, 5, 6, 7, 8]), (17, [2, 3, 5, 6, 7, 8, 52]), (18, [2, 3, 5, 6, 8]), (19, [2, 3, 5, 6, 7, 8]), (20, [2, 3, 5, 6, 7, 8, 75]), (21, [2, 3, 5, 6, 7, 8]), (22, [2, 3, 5, 6, 7, 8, 87]), (23, [2, 3, 5, 6, 8]), (24, [2, 3, 5, 6, 7, 8]), (25, [2, 3, 6, 7, 135]), (26, [4]), (27, [2]), (28, []), (29, [4])] := rfl
theorem conf24 : fi24.conf = [(27, [(0, 14), (3, 14), (5, 14), (6, 14), (9, 14), (11, 14), (11, 16)])] := rfl
theorem keep24 : fi24.keep = false := rfl
/-- interleave/silent.execute: its code -/
noncomputable def code24 : Code := fi24.fn.body.getD .skip
theorem body24 : fi24.fn.body = some code24 := rfl
theorem res24 : fi24.fn.results = Go.Proofs.Try.f24.results := rfl
theorem frz30 : fi30.frz = [] := rfl
theorem live30 : fi30.live = [(0, [0, 1]), (1, [0, 1, 6]), (2, [0, 1]), (3, [0, 1]), (4, [0, 1, 16]), (5, [0]), (6, [4])] := rfl
theorem conf30 : fi30.conf = [] := rfl
theorem keep30 : fi30.keep = false := rfl
/-- slices.Grow[[]int,int]: its code -/
noncomputable def code30 : Code := fi30.fn.body.getD .skip
theorem body30 : fi30.fn.body = some code30 := rfl
theorem res30 : fi30.fn.results = Go.Proofs.Try.f30.results := rfl
theorem frz31 : fi31.frz = [] := rfl
theorem live31 : fi31.live = [(0, [0, 1, 2, 3, 8]), (1, [0, 1, 2, 3, 8, 9]), (2, [0, 1, 2, 3, 8, 9, 10]), (3, [0, 1, 2, 3, 8, 9, 10, 23]), (4, []), (5, [0, 1, 2, 3, 8, 9, 10, 29]), (6, []), (7, [0, 1, 2, 3, 8, 9, 10, 35]), (8, [0, 1, 2, 3, 8, 9, 10]), (9, [0, 1, 2, 3, 8, 9, 10]), (10, [0, 1, 2, 3, 8, 9, 10, 11, 12]), (11, [0, 1, 2, 3, 8, 9, 10, 11, 12, 50]), (12, [0, 1, 2, 3, 8, 9, 10, 11]), (13, [0, 1, 2, 3, 8, 9, 10, 11]), (14, [0, 1, 2, 3, 8, 9, 10, 11, 12]), (15, [0, 1, 2, 3, 8, 9, 10, 11, 68]), (16, [0, 1, 2, 3, 8, 9, 10, 11, 72]), (17, [0, 1, 2, 3, 8, 9, 10, 11, 87]), (18, [0, 2, 3, 8, 9, 13]), (19, [0, 1, 2, 3, 8, 9]), (20, [0, 1, 2, 3, 10, 14, 15]), (21, [0, 1, 2, 3, 9, 10, 14]), (22, [0, 1, 2, 3, 9, 10, 14, 16, 17]), (23, [0, 1, 2, 3, 9, 14, 16, 17, 18]), (24, [0, 1, 2, 3, 9, 14, 16, 17, 18, 113]), (25, [0, 1, 2, 3, 8, 9, 14]), (26, [0, 2, 3, 8, 9, 14]), (27, [0, 1, 2, 3, 8, 9]), (28, [0, 1, 2, 3, 8, 9, 14]), (29, [0, 1, 3, 8, 9, 14]), (30, [0, 1, 2, 3, 8, 9])] := rfl
theorem conf31 : fi31.conf = [] := rfl
theorem keep31 : fi31.keep = false := rfl
/-- slices.pdqsortOrdered[int]: its code -/
noncomputable def code31 : Code := fi31.fn.body.getD .skip
theorem body31 : fi31.fn.body = some code31 := rfl
theorem res31 : fi31.fn.results = Go.Proofs.Try.f31.results := rfl
theorem frz32 : fi32.frz = [] := rfl
theorem live32 : fi32.live = [(0, [0]), (1, [2]), (2, [2])] := rfl
theorem conf32 : fi32.conf = [] := rfl
theorem keep32 : fi32.keep = false := rfl
/-- math/bits.Len: its code -/
noncomputable def code32 : Code := fi32.fn.body.getD .skip
theorem body32 : fi32.fn.body = some code32 := rfl
theorem res32 : fi32.fn.results = Go.Proofs.Try.f32.results := rfl
theorem frz33 : fi33.frz = [] := rfl
theorem live33 : fi33.live = [(0, [0]), (1, [0, 4]), (2, [2]), (3, [2])] := rfl
theorem conf33 : fi33.conf = [] := rfl
theorem keep33 : fi33.keep = true := rfl
/-- slices.Clone[[]int64,int64]: its code -/
noncomputable def code33 : Code := fi33.fn.body.getD .skip
theorem body33 : fi33.fn.body = some code33 := rfl
theorem res33 : fi33.fn.results = Go.Proofs.Try.f33.results := rfl
theorem frz34 : fi34.frz = [] := rfl
theorem live34 : fi34.live = [(0, [0]), (1, [0, 4]), (2, [2]), (3, [2])] := rfl
theorem conf34 : fi34.conf = [] := rfl
theorem keep34 : fi34.keep = true := rfl
/-- slices.Clone[[]int,int]: its code -/
noncomputable def code34 : Code := fi34.fn.body.getD .skip
theorem body34 : fi34.fn.body = some code34 := rfl
theorem res34 : fi34.fn.results = Go.Proofs.Try.f34.results := rfl
theorem frz35 : fi35.frz = [] := rfl
theorem live35 : fi35.live = [(0, [0, 1]), (1, [3])] := rfl
theorem conf35 : fi35.conf = [] := rfl
theorem keep35 : fi35.keep = false := rfl
/-- interleave/silent.execute$1: its code -/
noncomputable def code35 : Code := fi35.fn.body.getD .skip
theorem body35 : fi35.fn.body = some code35 := rfl
theorem res35 : fi35.fn.results = Go.Proofs.Try.f35.results := rfl
theorem frz36 : fi36.frz = [] := rfl
theorem live36 : fi36.live = [(0, [0, 1]), (1, [1, 6]), (2, [1, 6, 7]), (3, [4, 5]), (4, [1, 11]), (5, [4, 5]), (6, [4, 5])] := rfl
theorem conf36 : fi36.conf = [] := rfl
theorem keep36 : fi36.keep = false := rfl
/-- interleave/eval.Unary: its code -/
noncomputable def code36 : Code := fi36.fn.body.getD .skip
theorem body36 : fi36.fn.body = some code36 := rfl
theorem res36 : fi36.fn.results = Go.Proofs.Try.f36.results := rfl
theorem frz37 : fi37.frz = [] := rfl
theorem live37 : fi37.live = [(0, [0, 1, 2]), (1, [0, 1, 2, 8]), (2, [0, 1, 2, 8, 9]), (3, [6, 7]), (4, [0, 1, 2, 8, 14]), (5, [6, 7]), (6, [0, 1, 2, 8, 19]), (7, [6, 7]), (8, [0, 1, 2, 8, 24]), (9, [0, 1, 2, 8, 24]), (10, [6, 7]), (11, [1, 2, 8, 31]), (12, [6, 7]), (13, [1, 2, 8, 37]), (14, [6, 7]), (15, [1, 2, 8, 43]), (16, [6, 7]), (17, [1, 2, 8, 49]), (18, [6, 7]), (19, [1, 2, 8, 55]), (20, [6, 7]), (21, [1, 2, 8, 61]), (22, [6, 7]), (23, [1, 2, 8, 67]), (24, [6, 7]), (25, [1, 2, 76]), (26, [6, 7]), (27, [6, 7])] := rfl
theorem conf37 : fi37.conf = [] := rfl
theorem keep37 : fi37.keep = false := rfl
/-- interleave/eval.Binary: its code -/
noncomputable def code37 : Code := fi37.fn.body.getD .skip
theorem body37 : fi37.fn.body = some code37 := rfl
theorem res37 : fi37.fn.results = Go.Proofs.Try.f37.results := rfl
theorem frz52 : fi52.frz = [] := rfl
theorem live52 : fi52.live = [(0, [0, 1, 2, 6]), (1, [0, 1, 2, 6, 12]), (2, [0, 1, 2, 6]), (3, [0, 1, 2, 6, 7]), (4, [0, 1, 2, 6, 7, 30]), (5, [0, 1, 2, 6, 7]), (6, [0, 1, 2, 6, 7])] := rfl
theorem conf52 : fi52.conf = [] := rfl
theorem keep52 : fi52.keep = false := rfl
/-- slices.insertionSortOrdered[int]: its code -/
noncomputable def code52 : Code := fi52.fn.body.getD .skip
theorem body52 : fi52.fn.body = some code52 := rfl
theorem res52 : fi52.fn.results = Go.Proofs.Try.f52.results := rfl
theorem frz53 : fi53.frz = [] := rfl
theorem live53 : fi53.live = [(0, [0, 1, 2, 6]), (1, [0, 1, 2, 6, 7]), (2, [0, 6, 7, 8]), (3, [0, 6, 7, 8, 9]), (4, [0, 6, 7, 8, 9, 19]), (5, [0, 6, 7, 8, 9]), (6, [0, 6, 7, 8, 9]), (7, [0, 6, 7, 10]), (8, [0, 6, 7, 10, 30]), (9, [0, 6, 7, 10]), (10, [0, 6, 7, 10]), (11, [0, 6, 7, 10])] := rfl
theorem conf53 : fi53.conf = [] := rfl
theorem keep53 : fi53.keep = false := rfl
/-- slices.heapSortOrdered[int]: its code -/
noncomputable def code53 : Code := fi53.fn.body.getD .skip
theorem body53 : fi53.fn.body = some code53 := rfl
theorem res53 : fi53.fn.results = Go.Proofs.Try.f53.results := rfl
theorem frz54 : fi54.frz = [] := rfl
theorem live54 : fi54.live = [(0, [0, 1, 6]), (1, [0, 1, 6, 15]), (2, [0, 1, 6, 7]), (3, [0, 1, 6, 7, 8]), (4, [0, 1, 6, 7, 8, 9]), (5, [0, 1, 6, 7, 8, 9, 33]), (6, [0, 1, 6, 7, 8, 9]), (7, [0, 1, 6, 7, 8, 9, 10]), (8, [0, 1, 6, 7, 8, 9, 10, 43]), (9, [0, 1, 6, 7, 8, 9, 10]), (10, [0, 1, 6, 7, 8, 9])] := rfl
theorem conf54 : fi54.conf = [] := rfl
theorem keep54 : fi54.keep = false := rfl
/-- slices.breakPatternsOrdered[int]: its code -/
noncomputable def code54 : Code := fi54.fn.body.getD .skip
theorem body54 : fi54.fn.body = some code54 := rfl
theorem res54 : fi54.fn.results = Go.Proofs.Try.f54.results := rfl
theorem frz55 : fi55.frz = [] := rfl
theorem live55 : fi55.live = [(0, [0, 1, 2]), (1, [0, 1, 8]), (2, [0, 1, 8, 9]), (3, [0, 1, 8, 9, 10]), (4, [0, 1, 8, 9, 10, 11]), (5, [0, 8, 9, 10, 11, 12]), (6, [0, 8, 9, 10, 11, 12, 32]), (7, [0, 9, 10, 11, 12, 34]), (8, [0, 9, 10, 11, 12]), (9, [0, 9, 10, 11, 12]), (10, [0, 9, 10, 11, 12]), (11, [9, 11]), (12, [11, 49]), (13, [6, 7]), (14, [11, 49, 51]), (15, [6, 7]), (16, [11, 54]), (17, [6, 7])] := rfl
theorem conf55 : fi55.conf = [] := rfl
theorem keep55 : fi55.keep = false := rfl
/-- slices.choosePivotOrdered[int]: its code -/
noncomputable def code55 : Code := fi55.fn.body.getD .skip
theorem body55 : fi55.fn.body = some code55 := rfl
theorem res55 : fi55.fn.results = Go.Proofs.Try.f55.results := rfl
theorem frz56 : fi56.frz = [] := rfl
theorem live56 : fi56.live = [(0, [0, 2, 6]), (1, [0, 6, 7]), (2, [0, 6, 7, 13]), (3, [0, 6, 7]), (4, [0, 6, 7]), (5, [0, 6, 7])] := rfl
theorem conf56 : fi56.conf = [] := rfl
theorem keep56 : fi56.keep = false := rfl
/-- slices.reverseRangeOrdered[int]: its code -/
noncomputable def code56 : Code := fi56.fn.body.getD .skip
theorem body56 : fi56.fn.body = some code56 := rfl
theorem res56 : fi56.fn.results = Go.Proofs.Try.f56.results := rfl
theorem frz57 : fi57.frz = [] := rfl
theorem live57 : fi57.live = [(0, [0, 1, 2]), (1, [0, 1, 2, 7]), (2, [0, 1, 2, 7, 8]), (3, [0, 1, 2, 7, 8, 14]), (4, [0, 1, 2, 7, 8]), (5, [0, 1, 2, 7, 8, 32]), (6, [0, 1, 2, 7, 8]), (7, [0, 1, 2, 7, 8, 37]), (8, [6]), (9, [0, 1, 2, 7, 8, 41]), (10, [6]), (11, [0, 1, 2, 7, 8]), (12, [0, 1, 2, 7, 8, 61]), (13, [0, 1, 2, 7, 8, 9]), (14, [0, 1, 2, 7, 8, 9, 65]), (15, [0, 1, 2, 7, 8, 9]), (16, [0, 1, 2, 7, 8, 9, 78]), (17, [0, 1, 2, 7, 8, 9]), (18, [0, 1, 2, 7, 8, 98]), (19, [0, 1, 2, 7, 8, 10]), (20, [0, 1, 2, 7, 8, 10, 103]), (21, [0, 1, 2, 7, 8, 10]), (22, [0, 1, 2, 7, 8, 10, 116]), (23, [0, 1, 2, 7, 8, 10]), (24, [6])] := rfl
theorem conf57 : fi57.conf = [] := rfl
theorem keep57 : fi57.keep = false := rfl
/-- slices.partialInsertionSortOrdered[int]: its code -/
noncomputable def code57 : Code := fi57.fn.body.getD .skip
theorem body57 : fi57.fn.body = some code57 := rfl
theorem res57 : fi57.fn.results = Go.Proofs.Try.f57.results := rfl
theorem frz58 : fi58.frz = [] := rfl
theorem live58 : fi58.live = [(0, [0, 1]), (1, [4])] := rfl
theorem conf58 : fi58.conf = [] := rfl
theorem keep58 : fi58.keep = false := rfl
/-- cmp.Less[int]: its code -/
noncomputable def code58 : Code := fi58.fn.body.getD .skip
theorem body58 : fi58.fn.body = some code58 := rfl
theorem res58 : fi58.fn.results = Go.Proofs.Try.f58.results := rfl
theorem frz59 : fi59.frz = [] := rfl
theorem live59 : fi59.live = [(0, [0, 1, 2, 3]), (1, [0, 1, 2]), (2, [0, 1, 9, 10]), (3, [0, 1, 9, 10, 43]), (4, [0, 1, 9, 10]), (5, [0, 1, 9, 10, 59]), (6, [0, 1, 9, 10]), (7, [0, 1, 9, 10, 64]), (8, [0, 1, 9, 10]), (9, [0, 1, 9, 10]), (10, [0, 1, 9, 10]), (11, [8])] := rfl
theorem conf59 : fi59.conf = [] := rfl
theorem keep59 : fi59.keep = false := rfl
/-- slices.partitionEqualOrdered[int]: its code -/
noncomputable def code59 : Code := fi59.fn.body.getD .skip
theorem body59 : fi59.fn.body = some code59 := rfl
theorem res59 : fi59.fn.results = Go.Proofs.Try.f59.results := rfl
theorem frz60 : fi60.frz = [] := rfl
theorem live60 : fi60.live = [(0, [0, 1, 2, 3]), (1, [0, 1, 2]), (2, [0, 1, 10, 11]), (3, [0, 1, 10, 11, 43]), (4, [0, 1, 10, 11]), (5, [0, 1, 10, 11, 60]), (6, [0, 1, 10, 11]), (7, [0, 1, 10, 11, 65]), (8, [11]), (9, [8, 9]), (10, [0, 1, 10, 11]), (11, [0, 1, 10, 11]), (12, [0, 1, 10, 11]), (13, [0, 1, 10, 11, 112]), (14, [0, 1, 10, 11]), (15, [0, 1, 10, 11, 129]), (16, [0, 1, 10, 11]), (17, [0, 1, 10, 11, 134]), (18, [0, 1, 10, 11]), (19, [0, 1, 10, 11]), (20, [0, 1, 10, 11]), (21, [11]), (22, [8, 9])] := rfl
theorem conf60 : fi60.conf = [] := rfl
theorem keep60 : fi60.keep = false := rfl
/-- slices.partitionOrdered[int]: its code -/
noncomputable def code60 : Code := fi60.fn.body.getD .skip
theorem body60 : fi60.fn.body = some code60 := rfl
theorem res60 : fi60.fn.results = Go.Proofs.Try.f60.results := rfl
theorem frz61 : fi61.frz = [] := rfl
theorem live61 : fi61.live = [(0, [0, 2]), (1, [0, 2, 4]), (2, [0]), (3, [0, 2]), (4, [0, 2, 8]), (5, [0, 2]), (6, [0, 2]), (7, [2])] := rfl
theorem conf61 : fi61.conf = [] := rfl
theorem keep61 : fi61.keep = false := rfl
/-- math/bits.Len32: its code -/
noncomputable def code61 : Code := fi61.fn.body.getD .skip
theorem body61 : fi61.fn.body = some code61 := rfl
theorem res61 : fi61.fn.results = Go.Proofs.Try.f61.results := rfl
theorem frz62 : fi62.frz = [] := rfl
theorem live62 : fi62.live = [(0, [0, 2]), (1, [0, 2, 4]), (2, [0]), (3, [0, 2]), (4, [0, 2, 8]), (5, [0, 2]), (6, [0, 2]), (7, [0, 2, 14]), (8, [0, 2]), (9, [0, 2]), (10, [2])] := rfl
theorem conf62 : fi62.conf = [] := rfl
theorem keep62 : fi62.keep = false := rfl
/-- math/bits.Len64: its code -/
noncomputable def code62 : Code := fi62.fn.body.getD .skip
theorem body62 : fi62.fn.body = some code62 := rfl
theorem res62 : fi62.fn.results = Go.Proofs.Try.f62.results := rfl
theorem frz63 : fi63.frz = [] := rfl
theorem live63 : fi63.live = [(0, [0]), (1, [3]), (2, [2]), (3, [2])] := rfl
theorem conf63 : fi63.conf = [] := rfl
theorem keep63 : fi63.keep = false := rfl
/-- interleave/eval.truth: its code -/
noncomputable def code63 : Code := fi63.fn.body.getD .skip
theorem body63 : fi63.fn.body = some code63 := rfl
theorem res63 : fi63.fn.results = Go.Proofs.Try.f63.results := rfl
theorem frz64 : fi64.frz = [] := rfl
theorem live64 : fi64.live = [(0, [0, 1, 2]), (1, [0, 1, 2, 7]), (2, [6]), (3, [1, 2, 10]), (4, [6]), (5, [6])] := rfl
theorem conf64 : fi64.conf = [] := rfl
theorem keep64 : fi64.keep = false := rfl
/-- interleave/eval.divide: its code -/
noncomputable def code64 : Code := fi64.fn.body.getD .skip
theorem body64 : fi64.fn.body = some code64 := rfl
theorem res64 : fi64.fn.results = Go.Proofs.Try.f64.results := rfl
theorem frz76 : fi76.frz = [] := rfl
theorem live76 : fi76.live = [(0, [0, 2, 3, 8]), (1, [0, 2, 3, 8, 9]), (2, [0, 2, 3, 8, 9, 16]), (3, [0, 2, 3, 8, 9, 36]), (4, [0, 2, 3, 8, 9]), (5, [0, 2, 3, 8, 9, 52]), (6, [0, 2, 3, 9]), (7, [0, 2, 3, 8])] := rfl
theorem conf76 : fi76.conf = [] := rfl
theorem keep76 : fi76.keep = false := rfl
/-- slices.siftDownOrdered[int]: its code -/
noncomputable def code76 : Code := fi76.fn.body.getD .skip
theorem body76 : fi76.fn.body = some code76 := rfl
theorem res76 : fi76.fn.results = Go.Proofs.Try.f76.results := rfl
theorem frz77 : fi77.frz = [] := rfl
theorem live77 : fi77.live = [(0, [0]), (1, [2])] := rfl
theorem conf77 : fi77.conf = [] := rfl
theorem keep77 : fi77.keep = false := rfl
/-- slices.nextPowerOfTwo: its code -/
noncomputable def code77 : Code := fi77.fn.body.getD .skip
theorem body77 : fi77.fn.body = some code77 := rfl
theorem res77 : fi77.fn.results = Go.Proofs.Try.f77.results := rfl
theorem frz78 : fi78.frz = [] := rfl
theorem live78 : fi78.live = [(0, [0]), (1, [0]), (2, [0]), (3, [0]), (4, [2])] := rfl
theorem conf78 : fi78.conf = [] := rfl
theorem keep78 : fi78.keep = false := rfl
/-- (*slices.xorshift).Next: its code -/
noncomputable def code78 : Code := fi78.fn.body.getD .skip
theorem body78 : fi78.fn.body = some code78 := rfl
theorem res78 : fi78.fn.results = Go.Proofs.Try.f78.results := rfl
theorem frz79 : fi79.frz = [] := rfl
theorem live79 : fi79.live = [(0, [0, 1, 2]), (1, [6])] := rfl
theorem conf79 : fi79.conf = [] := rfl
theorem keep79 : fi79.keep = false := rfl
/-- slices.medianAdjacentOrdered[int]: its code -/
noncomputable def code79 : Code := fi79.fn.body.getD .skip
theorem body79 : fi79.fn.body = some code79 := rfl
theorem res79 : fi79.fn.results = Go.Proofs.Try.f79.results := rfl
theorem frz80 : fi80.frz = [] := rfl
theorem live80 : fi80.live = [(0, [0, 1, 2, 3, 4]), (1, [0, 1, 2, 3, 4]), (2, [0, 1, 2, 4]), (3, [2]), (4, [10])] := rfl
theorem conf80 : fi80.conf = [] := rfl
theorem keep80 : fi80.keep = false := rfl
/-- slices.medianOrdered[int]: its code -/
noncomputable def code80 : Code := fi80.fn.body.getD .skip
theorem body80 : fi80.fn.body = some code80 := rfl
theorem res80 : fi80.fn.results = Go.Proofs.Try.f80.results := rfl
theorem frz81 : fi81.frz = [] := rfl
theorem live81 : fi81.live = [(0, [0]), (1, [2])] := rfl
theorem conf81 : fi81.conf = [] := rfl
theorem keep81 : fi81.keep = false := rfl
/-- cmp.isNaN[int]: its code -/
noncomputable def code81 : Code := fi81.fn.body.getD .skip
theorem body81 : fi81.fn.body = some code81 := rfl
theorem res81 : fi81.fn.results = Go.Proofs.Try.f81.results := rfl
theorem frz99 : fi99.frz = [] := rfl
theorem live99 : fi99.live = [(0, [0, 1, 2, 3]), (1, [1, 2, 3, 18]), (2, [1, 2]), (3, [8, 9]), (4, [8, 9])] := rfl
theorem conf99 : fi99.conf = [] := rfl
theorem keep99 : fi99.keep = false := rfl
/-- slices.order2Ordered[int]: its code -/
noncomputable def code99 : Code := fi99.fn.body.getD .skip
theorem body99 : fi99.fn.body = some code99 := rfl
theorem res99 : fi99.fn.results = Go.Proofs.Try.f99.results := rfl
theorem fn7 : cfg.fn 7 = some fi7 := rfl
theorem pure7 : fi7.pure = true := rfl
theorem call7 (args : List V) (s : St) : callL cfg 7 args s = bnd (execL cfg fi7 code7 (enumE 0 args) s) (finK cfg fi7 s.nxt) := x_call rfl rfl rfl
theorem intr7 : cfg.intr 7 = none := rfl
theorem fn11 : cfg.fn 11 = some fi11 := rfl
theorem pure11 : fi11.pure = true := rfl
theorem call11 (args : List V) (s : St) : callL cfg 11 args s = bnd (execL cfg fi11 code11 (enumE 0 args) s) (finK cfg fi11 s.nxt) := x_call rfl rfl rfl
theorem intr11 : cfg.intr 11 = none := rfl
theorem fn13 : cfg.fn 13 = some fi13 := rfl
theorem pure13 : fi13.pure = true := rfl
theorem call13 (args : List V) (s : St) : callL cfg 13 args s = bnd (execL cfg fi13 code13 (enumE 0 args) s) (finK cfg fi13 s.nxt) := x_call rfl rfl rfl
theorem intr13 : cfg.intr 13 = none := rfl
theorem fn16 : cfg.fn 16 = some fi16 := rfl
theorem pure16 : fi16.pure = true := rfl
theorem call16 (args : List V) (s : St) : callL cfg 16 args s = bnd (execL cfg fi16 code16 (enumE 0 args) s) (finK cfg fi16 s.nxt) := x_call rfl rfl rfl
theorem intr16 : cfg.intr 16 = none := rfl
theorem fn20 : cfg.fn 20 = some fi20 := rfl
theorem pure20 : fi20.pure = true := rfl
theorem call20 (args : List V) (s : St) : callL cfg 20 args s = bnd (execL cfg fi20 code20 (enumE 0 args) s) (finK cfg fi20 s.nxt) := x_call rfl rfl rfl
theorem intr20 : cfg.intr 20 = none := rfl
theorem fn21 : cfg.fn 21 = some fi21 := rfl
theorem pure21 : fi21.pure = true := rfl
theorem call21 (args : List V) (s : St) : callL cfg 21 args s = bnd (execL cfg fi21 code21 (enumE 0 args) s) (finK cfg fi21 s.nxt) := x_call rfl rfl rfl
theorem intr21 : cfg.intr 21 = none := rfl
theorem fn22 : cfg.fn 22 = some fi22 := rfl
theorem pure22 : fi22.pure = true := rfl
theorem call22 (args : List V) (s : St) : callL cfg 22 args s = bnd (execL cfg fi22 code22 (enumE 0 args) s) (finK cfg fi22 s.nxt) := x_call rfl rfl rfl
theorem intr22 : cfg.intr 22 = none := rfl
theorem fn23 : cfg.fn 23 = some fi23 := rfl
theorem pure23 : fi23.pure = false := rfl
theorem call23 (args : List V) (s : St) : callL cfg 23 args s = bnd (execL cfg fi23 code23 (enumE 0 args) s) (finK cfg fi23 s.nxt) := x_call rfl rfl rfl
theorem intr23 : cfg.intr 23 = none := rfl
theorem fn24 : cfg.fn 24 = some fi24 := rfl
theorem pure24 : fi24.pure = false := rfl
theorem call24 (args : List V) (s : St) : callL cfg 24 args s = bnd (execL cfg fi24 code24 (enumE 0 args) s) (finK cfg fi24 s.nxt) := x_call rfl rfl rfl
theorem intr24 : cfg.intr 24 = none := rfl
theorem fn30 : cfg.fn 30 = some fi30 := rfl
theorem pure30 : fi30.pure = true := rfl
theorem call30 (args : List V) (s : St) : callL cfg 30 args s = bnd (execL cfg fi30 code30 (enumE 0 args) s) (finK cfg fi30 s.nxt) := x_call rfl rfl rfl
theorem intr30 : cfg.intr 30 = none := rfl
theorem fn31 : cfg.fn 31 = some fi31 := rfl
theorem pure31 : fi31.pure = true := rfl
theorem call31 (args : List V) (s : St) : callL cfg 31 args s = bnd (execL cfg fi31 code31 (enumE 0 args) s) (finK cfg fi31 s.nxt) := x_call rfl rfl rfl
theorem intr31 : cfg.intr 31 = none := rfl
theorem fn32 : cfg.fn 32 = some fi32 := rfl
theorem pure32 : fi32.pure = true := rfl
theorem call32 (args : List V) (s : St) : callL cfg 32 args s = bnd (execL cfg fi32 code32 (enumE 0 args) s) (finK cfg fi32 s.nxt) := x_call rfl rfl rfl
theorem intr32 : cfg.intr 32 = none := rfl
theorem fn33 : cfg.fn 33 = some fi33 := rfl
theorem pure33 : fi33.pure = false := rfl
theorem call33 (args : List V) (s : St) : callL cfg 33 args s = intrClone 1 args s := callL_intr rfl
theorem fn34 : cfg.fn 34 = some fi34 := rfl
theorem pure34 : fi34.pure = false := rfl
theorem call34 (args : List V) (s : St) : callL cfg 34 args s = intrClone 1 args s := callL_intr rfl
theorem fn35 : cfg.fn 35 = some fi35 := rfl
theorem pure35 : fi35.pure = false := rfl
theorem call35 (args : List V) (s : St) : callL cfg 35 args s = bnd (execL cfg fi35 code35 (enumE 0 args) s) (finK cfg fi35 s.nxt) := x_call rfl rfl rfl
theorem intr35 : cfg.intr 35 = none := rfl
theorem fn36 : cfg.fn 36 = some fi36 := rfl
theorem pure36 : fi36.pure = true := rfl
theorem call36 (args : List V) (s : St) : callL cfg 36 args s = bnd (execL cfg fi36 code36 (enumE 0 args) s) (finK cfg fi36 s.nxt) := x_call rfl rfl rfl
theorem intr36 : cfg.intr 36 = none := rfl
theorem fn37 : cfg.fn 37 = some fi37 := rfl
theorem pure37 : fi37.pure = true := rfl
theorem call37 (args : List V) (s : St) : callL cfg 37 args s = bnd (execL cfg fi37 code37 (enumE 0 args) s) (finK cfg fi37 s.nxt) := x_call rfl rfl rfl
theorem intr37 : cfg.intr 37 = none := rfl
theorem fn52 : cfg.fn 52 = some fi52 := rfl
theorem pure52 : fi52.pure = true := rfl
theorem call52 (args : List V) (s : St) : callL cfg 52 args s = bnd (execL cfg fi52 code52 (enumE 0 args) s) (finK cfg fi52 s.nxt) := x_call rfl rfl rfl
theorem intr52 : cfg.intr 52 = none := rfl
theorem fn53 : cfg.fn 53 = some fi53 := rfl
theorem pure53 : fi53.pure = true := rfl
theorem call53 (args : List V) (s : St) : callL cfg 53 args s = bnd (execL cfg fi53 code53 (enumE 0 args) s) (finK cfg fi53 s.nxt) := x_call rfl rfl rfl
theorem intr53 : cfg.intr 53 = none := rfl
theorem fn54 : cfg.fn 54 = some fi54 := rfl
theorem pure54 : fi54.pure = true := rfl
theorem call54 (args : List V) (s : St) : callL cfg 54 args s = bnd (execL cfg fi54 code54 (enumE 0 args) s) (finK cfg fi54 s.nxt) := x_call rfl rfl rfl
theorem intr54 : cfg.intr 54 = none := rfl
theorem fn55 : cfg.fn 55 = some fi55 := rfl
theorem pure55 : fi55.pure = true := rfl
theorem call55 (args : List V) (s : St) : callL cfg 55 args s = bnd (execL cfg fi55 code55 (enumE 0 args) s) (finK cfg fi55 s.nxt) := x_call rfl rfl rfl
theorem intr55 : cfg.intr 55 = none := rfl
theorem fn56 : cfg.fn 56 = some fi56 := rfl
theorem pure56 : fi56.pure = true := rfl
theorem call56 (args : List V) (s : St) : callL cfg 56 args s = bnd (execL cfg fi56 code56 (enumE 0 args) s) (finK cfg fi56 s.nxt) := x_call rfl rfl rfl
theorem intr56 : cfg.intr 56 = none := rfl
theorem fn57 : cfg.fn 57 = some fi57 := rfl
theorem pure57 : fi57.pure = true := rfl
theorem call57 (args : List V) (s : St) : callL cfg 57 args s = bnd (execL cfg fi57 code57 (enumE 0 args) s) (finK cfg fi57 s.nxt) := x_call rfl rfl rfl
theorem intr57 : cfg.intr 57 = none := rfl
theorem fn58 : cfg.fn 58 = some fi58 := rfl
theorem pure58 : fi58.pure = true := rfl
theorem call58 (args : List V) (s : St) : callL cfg 58 args s = bnd (execL cfg fi58 code58 (enumE 0 args) s) (finK cfg fi58 s.nxt) := x_call rfl rfl rfl
theorem intr58 : cfg.intr 58 = none := rfl
theorem fn59 : cfg.fn 59 = some fi59 := rfl
theorem pure59 : fi59.pure = true := rfl
theorem call59 (args : List V) (s : St) : callL cfg 59 args s = bnd (execL cfg fi59 code59 (enumE 0 args) s) (finK cfg fi59 s.nxt) := x_call rfl rfl rfl
theorem intr59 : cfg.intr 59 = none := rfl
theorem fn60 : cfg.fn 60 = some fi60 := rfl
theorem pure60 : fi60.pure = true := rfl
theorem call60 (args : List V) (s : St) : callL cfg 60 args s = bnd (execL cfg fi60 code60 (enumE 0 args) s) (finK cfg fi60 s.nxt) := x_call rfl rfl rfl
theorem intr60 : cfg.intr 60 = none := rfl
theorem fn61 : cfg.fn 61 = some fi61 := rfl
theorem pure61 : fi61.pure = true := rfl
theorem call61 (args : List V) (s : St) : callL cfg 61 args s = bnd (execL cfg fi61 code61 (enumE 0 args) s) (finK cfg fi61 s.nxt) := x_call rfl rfl rfl
theorem intr61 : cfg.intr 61 = none := rfl
theorem fn62 : cfg.fn 62 = some fi62 := rfl
theorem pure62 : fi62.pure = true := rfl
theorem call62 (args : List V) (s : St) : callL cfg 62 args s = bnd (execL cfg fi62 code62 (enumE 0 args) s) (finK cfg fi62 s.nxt) := x_call rfl rfl rfl
theorem intr62 : cfg.intr 62 = none := rfl
theorem fn63 : cfg.fn 63 = some fi63 := rfl
theorem pure63 : fi63.pure = true := rfl
theorem call63 (args : List V) (s : St) : callL cfg 63 args s = bnd (execL cfg fi63 code63 (enumE 0 args) s) (finK cfg fi63 s.nxt) := x_call rfl rfl rfl
theorem intr63 : cfg.intr 63 = none := rfl
theorem fn64 : cfg.fn 64 = some fi64 := rfl
theorem pure64 : fi64.pure = true := rfl
theorem call64 (args : List V) (s : St) : callL cfg 64 args s = bnd (execL cfg fi64 code64 (enumE 0 args) s) (finK cfg fi64 s.nxt) := x_call rfl rfl rfl
theorem intr64 : cfg.intr 64 = none := rfl
theorem fn76 : cfg.fn 76 = some fi76 := rfl
theorem pure76 : fi76.pure = true := rfl
theorem call76 (args : List V) (s : St) : callL cfg 76 args s = bnd (execL cfg fi76 code76 (enumE 0 args) s) (finK cfg fi76 s.nxt) := x_call rfl rfl rfl
theorem intr76 : cfg.intr 76 = none := rfl
theorem fn77 : cfg.fn 77 = some fi77 := rfl
theorem pure77 : fi77.pure = true := rfl
theorem call77 (args : List V) (s : St) : callL cfg 77 args s = bnd (execL cfg fi77 code77 (enumE 0 args) s) (finK cfg fi77 s.nxt) := x_call rfl rfl rfl
theorem intr77 : cfg.intr 77 = none := rfl
theorem fn78 : cfg.fn 78 = some fi78 := rfl
theorem pure78 : fi78.pure = false := rfl
theorem call78 (args : List V) (s : St) : callL cfg 78 args s = bnd (execL cfg fi78 code78 (enumE 0 args) s) (finK cfg fi78 s.nxt) := x_call rfl rfl rfl
theorem intr78 : cfg.intr 78 = none := rfl
theorem fn79 : cfg.fn 79 = some fi79 := rfl
theorem pure79 : fi79.pure = false := rfl
theorem call79 (args : List V) (s : St) : callL cfg 79 args s = bnd (execL cfg fi79 code79 (enumE 0 args) s) (finK cfg fi79 s.nxt) := x_call rfl rfl rfl
theorem intr79 : cfg.intr 79 = none := rfl
theorem fn80 : cfg.fn 80 = some fi80 := rfl
theorem pure80 : fi80.pure = false := rfl
theorem call80 (args : List V) (s : St) : callL cfg 80 args s = bnd (execL cfg fi80 code80 (enumE 0 args) s) (finK cfg fi80 s.nxt) := x_call rfl rfl rfl
theorem intr80 : cfg.intr 80 = none := rfl
theorem fn81 : cfg.fn 81 = some fi81 := rfl
theorem pure81 : fi81.pure = true := rfl
theorem call81 (args : List V) (s : St) : callL cfg 81 args s = bnd (execL cfg fi81 code81 (enumE 0 args) s) (finK cfg fi81 s.nxt) := x_call rfl rfl rfl
theorem intr81 : cfg.intr 81 = none := rfl
theorem fn99 : cfg.fn 99 = some fi99 := rfl
theorem pure99 : fi99.pure = false := rfl
theorem call99 (args : List V) (s : St) : callL cfg 99 args s = bnd (execL cfg fi99 code99 (enumE 0 args) s) (finK cfg fi99 s.nxt) := x_call rfl rfl rfl
theorem intr99 : cfg.intr 99 = none := rfl
theorem noGlob (g : Nat) : cfg.glob g = none := rfl
noncomputable def cfg0 : Cfg := { cfg with intr := fun _ => none }
theorem cfgOk0 : CfgOk cfg0 Go.Proofs.Try.prog := cfgOk.told _
theorem intrOk0 : IntrOk cfg0 Go.Proofs.Try.prog := fun f g h => by cases h
theorem q33 (w : World) (a : Option Addr) (n c n' c' : Nat) : (binOp .eql 36 (.slice a n c) (.slice none n' c')).run Go.Proofs.Try.prog w = .ok (.bool a.isNone) w := Lib.run_eql_slice_nil w _ _ a n c n' c' Go.Proofs.Try.underlying36
set_option maxHeartbeats 2000000 in
theorem nil33 (n c : Nat) (w : World) : Calls Go.Proofs.Try.prog 33 #[.slice none n c] w fun e w' => e = .returned (.slice none 0 0) ∧ w' = w := by
  have q := q33
  go_enter Go.Proofs.Try.func33, Go.Proofs.Try.ntmps33
  go_wp2
  go_ret
  exact ⟨rfl, rfl⟩
set_option maxHeartbeats 2000000 in
theorem zero33 (a : Addr) (c : Nat) (w : World) : Calls Go.Proofs.Try.prog 33 #[.slice (some a) 0 c] w fun e w' => ∃ a', e = .returned (.slice a' 0 0) ∧ Go.RowKit.Below w.heap.size w w' := by
  have t22 := Go.Proofs.Try.underlying36
  obtain ⟨i0, d0, z0, hi, _⟩ := (cfgOk.ty 2 _ ty2).ex
  have q := q33
  have u22 : ∀ w, Sem.run Go.Proofs.Try.prog (underlying 36) w = .ok (TypeDesc.slice 2) w := run_underlying t22
  go_enter Go.Proofs.Try.func33, Go.Proofs.Try.ntmps33
  go_wp2_with (at_builtin; refine wpList_append_zero rfl _ _ 36 2 i0 rfl t22 hi _ (some a) c rfl rfl ?_)
  go_wp2
  go_ret
  have hb := (Go.RowKit.Below.refl w.heap.size w).alloc (Nat.le_refl _) (.cells #[] 2)
  first | exact ⟨_, rfl, hb⟩ | exact ⟨⟨_, rfl⟩, hb⟩
theorem empty33 : CloneEmpty Go.Proofs.Try.prog 33 := by
  intro a cap w
  cases a with
  | none => exact (nil33 0 cap w).mono fun e w' ⟨h1, h2⟩ => ⟨none, h1, by rw [h2]; exact Go.RowKit.Below.refl _ _⟩
  | some a => exact zero33 a cap w
theorem full33 (x : V) (s : St) (y : V) (ys : List V) (he : elems s x = some (y :: ys)) (hc : ((y :: ys).all fun v => v.storable && decide (v.cells.length = 1)) = true) (hl : (y :: ys).length ≤ 1000000) :
    callL cfg0 33 [x] s = some (.ref s.nxt 0 1 0 (y :: ys).length, { nxt := s.nxt + 1, objs := aset s.objs s.nxt ⟨1, 0, false, (y :: ys).map V.cells⟩ }) := by
  have hf := full_of_elems he
  obtain ⟨n, l⟩ := s
  have hs : code33 = .seq _ _ := rfl
  have hr : fi33.fn.results.toList = [_] := rfl
  have h1 : cfg0.fn 33 = some fi33 := rfl
  have h2 : cfg0.intr 33 = none := rfl
  have t1 : cfg0.ty 36 = some _ := ty36
  have t2 : cfg0.ty 2 = some _ := ty2
  have he1 : elemTy cfg0 36 = some 2 := rfl
  have hn := nilCmp_eql he1 hf
  have hroom : roomOk (([] : List (List V)).length + (y :: ys).length) 8 = true := by
    simp only [roomOk, Bool.and_eq_true, decide_eq_true_eq, List.length_nil, Nat.zero_add]
    omega
  have hap : appendOp cfg0 false ⟨n, l⟩ n 2 .nils x = some (.ref n 0 1 0 (y :: ys).length, .set n ⟨1, 0, false, (y :: ys).map V.cells⟩) := by
    have := append_eq (C := cfg0) (n := n) (id := n) (sz := 1) t2 rfl (by decide) (IsL.nil (l := l)) he (by simp) (fun z hz => by simpa using List.all_eq_true.1 hc z hz) hroom
    simpa only [appV, appI, appO, List.length_nil, Nat.zero_add, List.nil_append] using this
  rw [x_call h2 h1 body33, hs]
  simp only [↓x_seq, ↓x_reg, ↓x_drawK, drawK_t, drawK_f, bumps, makes, goCall, writes, frzOf, List.any_cons, List.any_nil, List.size_toArray, ↓x_cond, ↓x_block, execL_skip, execL_exit, execL_ret, thn_normal, thn_exit, thn_ret, regK_mk, condK_tt, condK_ff, outB_normal, outB_ret, outB_exit, inss, ins, List.toList_toArray, List.map_cons, List.map_nil, Option.map_none, Option.map_some, Option.bind_some, List.getElem?_toArray, List.getElem?_cons_zero, List.getElem?_cons_succ,
      runI_nil, i_move, i_assign, i_pick, i_alloc, i_box, i_build, i_buildSlice, i_load, i_store, i_nilCheck, i_binOp, i_unOp, i_convert, i_makeFunc, i_makeSlice, i_slice, i_fieldAddr, i_field, i_indexAddr, i_index, i_extract, i_builtin, runI_call, runI_guard, guardK_tt, guardK_ff, guardK_tf, guardK_ft, guardK_undef, stepK_none, stepK_set, callK_mk,
      runDI_nil, d_move, d_assign, d_pick, d_alloc, d_box, d_build, d_buildSlice, d_load, d_store, d_nilCheck, d_binOp, d_unOp, d_convert, d_makeFunc, d_makeSlice, d_slice, d_fieldAddr, d_field, d_indexAddr, d_index, d_extract, d_builtin, runDI_call, runDI_guard, guardD_tt, guardD_ff, guardD_tf, guardD_ft, guardD_undef, stepD_none, stepD_set, callD_mk,
      putE_some, putE_none, frzD_some, frzD_none, bnd_some, bnd_none, yes_eq, liveE, keepE, List.filterMap_cons, List.filterMap_nil, List.contains_cons, List.contains_nil, Bool.or_false, Bool.or_true, Bool.false_or,
      prim_move, prim_assign, prim_alloc, prim_box, prim_build, prim_load, prim_store, prim_nilCheck, prim_binOp, prim_unOp, prim_slice, prim_fieldAddr, prim_field, prim_indexAddr, prim_index, prim_extract, prim_len, prim_append, prim_pick, prim_buildSlice, prim_buildSlice0, prim_makeSlice, mkS, roomOk, List.replicate_succ, List.replicate_zero, Nat.zero_mul, Nat.zero_le, true_and, and_true,
      opnd_tmp, opnd_int, opnd_bool, opnd_str, opnd_nils, opnd_pnil, opnd_func, opnds_nil, opnds_cons, popnds_nil, popnds_cons, oopnd_none, oopnd_some, nilS_tmp, nilS_int, nilS_bool, nilS_str, nilS_nil, nilS_pnil, bin_eql, bin_neq, bin_lss, bin_leq, bin_gtr, bin_geq, bin_add, bin_sub, bin_mul, bin_quo, bin_rem, bin_seq, un_not, un_neg, aget, aset, aget_aset, aset_aset, cond_true, cond_false, decide_true, decide_false, if_true, if_false, ↓reduceIte, ne_eq, not_false_eq_true, eq_self,
      reduceCtorEq, Nat.reduceEqDiff, Nat.reduceLT, Nat.reduceLeDiff, Nat.reduceBEq, Nat.reduceBNe, Nat.reduceAdd, Nat.reduceMul, Nat.left_eq_add, Nat.add_eq_left, Nat.add_assoc, Nat.add_left_cancel_iff, Nat.one_ne_zero, Nat.add_right_cancel_iff, indexAddr, fieldAddr, rd, Int.natCast_nonneg, Int.toNat_natCast, V.cells, List.length_cons, List.length_nil, List.length_append, List.length_drop, List.length_take, List.length_set, List.take_succ_cons, List.take_zero, List.drop_succ_cons, List.drop_zero, List.drop_nil, List.take_nil, List.set_cons_zero, List.set_cons_succ, List.nil_append, List.cons_append, List.append_nil, Nat.zero_add, Nat.add_zero, Nat.le_refl, ofCells, K.agg, put1, splice, build, buildFill, V.storable, Bool.true_and, Bool.and_true, Bool.and_false, Bool.false_and, Bool.not_true, Bool.not_false, beq_self_eq_true, St_get, partsIn, eqV, eqCells, eqCell, sliceOfRows, List.all_cons, List.all_nil, V.flat, V.norm, V.norm1, elemTy, elems, lenOp, enumE, callI_func, callI_tmp, callF_fn, prim_makeFunc, finK_ret, finK_normal, Ilv.results, resV, all_nil, all_cons, rf_int, rf_bool, rf_str, rf_lit, rf_nils, rf_pnil, rf_agg, rf_tup, rf_ref, V.scalar, V.scalar1, V.bare, Bool.true_or, Bool.or_false, frz33, live33, conf33, t1, t2, hn, hap, keep33, hr]
theorem q34 (w : World) (a : Option Addr) (n c n' c' : Nat) : (binOp .eql 26 (.slice a n c) (.slice none n' c')).run Go.Proofs.Try.prog w = .ok (.bool a.isNone) w := Lib.run_eql_slice_nil w _ _ a n c n' c' Go.Proofs.Try.underlying26
set_option maxHeartbeats 2000000 in
theorem nil34 (n c : Nat) (w : World) : Calls Go.Proofs.Try.prog 34 #[.slice none n c] w fun e w' => e = .returned (.slice none 0 0) ∧ w' = w := by
  have q := q34
  go_enter Go.Proofs.Try.func34, Go.Proofs.Try.ntmps34
  go_wp2
  go_ret
  exact ⟨rfl, rfl⟩
set_option maxHeartbeats 2000000 in
theorem zero34 (a : Addr) (c : Nat) (w : World) : Calls Go.Proofs.Try.prog 34 #[.slice (some a) 0 c] w fun e w' => ∃ a', e = .returned (.slice a' 0 0) ∧ Go.RowKit.Below w.heap.size w w' := by
  have t22 := Go.Proofs.Try.underlying26
  obtain ⟨i0, d0, z0, hi, _⟩ := (cfgOk.ty 3 _ ty3).ex
  have q := q34
  have u22 : ∀ w, Sem.run Go.Proofs.Try.prog (underlying 26) w = .ok (TypeDesc.slice 3) w := run_underlying t22
  go_enter Go.Proofs.Try.func34, Go.Proofs.Try.ntmps34
  go_wp2_with (at_builtin; refine wpList_append_zero rfl _ _ 26 3 i0 rfl t22 hi _ (some a) c rfl rfl ?_)
  go_wp2
  go_ret
  have hb := (Go.RowKit.Below.refl w.heap.size w).alloc (Nat.le_refl _) (.cells #[] 3)
  first | exact ⟨_, rfl, hb⟩ | exact ⟨⟨_, rfl⟩, hb⟩
theorem empty34 : CloneEmpty Go.Proofs.Try.prog 34 := by
  intro a cap w
  cases a with
  | none => exact (nil34 0 cap w).mono fun e w' ⟨h1, h2⟩ => ⟨none, h1, by rw [h2]; exact Go.RowKit.Below.refl _ _⟩
  | some a => exact zero34 a cap w
theorem full34 (x : V) (s : St) (y : V) (ys : List V) (he : elems s x = some (y :: ys)) (hc : ((y :: ys).all fun v => v.storable && decide (v.cells.length = 1)) = true) (hl : (y :: ys).length ≤ 1000000) :
    callL cfg0 34 [x] s = some (.ref s.nxt 0 1 0 (y :: ys).length, { nxt := s.nxt + 1, objs := aset s.objs s.nxt ⟨1, 0, false, (y :: ys).map V.cells⟩ }) := by
  have hf := full_of_elems he
  obtain ⟨n, l⟩ := s
  have hs : code34 = .seq _ _ := rfl
  have hr : fi34.fn.results.toList = [_] := rfl
  have h1 : cfg0.fn 34 = some fi34 := rfl
  have h2 : cfg0.intr 34 = none := rfl
  have t1 : cfg0.ty 26 = some _ := ty26
  have t2 : cfg0.ty 3 = some _ := ty3
  have he1 : elemTy cfg0 26 = some 3 := rfl
  have hn := nilCmp_eql he1 hf
  have hroom : roomOk (([] : List (List V)).length + (y :: ys).length) 8 = true := by
    simp only [roomOk, Bool.and_eq_true, decide_eq_true_eq, List.length_nil, Nat.zero_add]
    omega
  have hap : appendOp cfg0 false ⟨n, l⟩ n 3 .nils x = some (.ref n 0 1 0 (y :: ys).length, .set n ⟨1, 0, false, (y :: ys).map V.cells⟩) := by
    have := append_eq (C := cfg0) (n := n) (id := n) (sz := 1) t2 rfl (by decide) (IsL.nil (l := l)) he (by simp) (fun z hz => by simpa using List.all_eq_true.1 hc z hz) hroom
    simpa only [appV, appI, appO, List.length_nil, Nat.zero_add, List.nil_append] using this
  rw [x_call h2 h1 body34, hs]
  simp only [↓x_seq, ↓x_reg, ↓x_drawK, drawK_t, drawK_f, bumps, makes, goCall, writes, frzOf, List.any_cons, List.any_nil, List.size_toArray, ↓x_cond, ↓x_block, execL_skip, execL_exit, execL_ret, thn_normal, thn_exit, thn_ret, regK_mk, condK_tt, condK_ff, outB_normal, outB_ret, outB_exit, inss, ins, List.toList_toArray, List.map_cons, List.map_nil, Option.map_none, Option.map_some, Option.bind_some, List.getElem?_toArray, List.getElem?_cons_zero, List.getElem?_cons_succ,
      runI_nil, i_move, i_assign, i_pick, i_alloc, i_box, i_build, i_buildSlice, i_load, i_store, i_nilCheck, i_binOp, i_unOp, i_convert, i_makeFunc, i_makeSlice, i_slice, i_fieldAddr, i_field, i_indexAddr, i_index, i_extract, i_builtin, runI_call, runI_guard, guardK_tt, guardK_ff, guardK_tf, guardK_ft, guardK_undef, stepK_none, stepK_set, callK_mk,
      runDI_nil, d_move, d_assign, d_pick, d_alloc, d_box, d_build, d_buildSlice, d_load, d_store, d_nilCheck, d_binOp, d_unOp, d_convert, d_makeFunc, d_makeSlice, d_slice, d_fieldAddr, d_field, d_indexAddr, d_index, d_extract, d_builtin, runDI_call, runDI_guard, guardD_tt, guardD_ff, guardD_tf, guardD_ft, guardD_undef, stepD_none, stepD_set, callD_mk,
      putE_some, putE_none, frzD_some, frzD_none, bnd_some, bnd_none, yes_eq, liveE, keepE, List.filterMap_cons, List.filterMap_nil, List.contains_cons, List.contains_nil, Bool.or_false, Bool.or_true, Bool.false_or,
      prim_move, prim_assign, prim_alloc, prim_box, prim_build, prim_load, prim_store, prim_nilCheck, prim_binOp, prim_unOp, prim_slice, prim_fieldAddr, prim_field, prim_indexAddr, prim_index, prim_extract, prim_len, prim_append, prim_pick, prim_buildSlice, prim_buildSlice0, prim_makeSlice, mkS, roomOk, List.replicate_succ, List.replicate_zero, Nat.zero_mul, Nat.zero_le, true_and, and_true,
      opnd_tmp, opnd_int, opnd_bool, opnd_str, opnd_nils, opnd_pnil, opnd_func, opnds_nil, opnds_cons, popnds_nil, popnds_cons, oopnd_none, oopnd_some, nilS_tmp, nilS_int, nilS_bool, nilS_str, nilS_nil, nilS_pnil, bin_eql, bin_neq, bin_lss, bin_leq, bin_gtr, bin_geq, bin_add, bin_sub, bin_mul, bin_quo, bin_rem, bin_seq, un_not, un_neg, aget, aset, aget_aset, aset_aset, cond_true, cond_false, decide_true, decide_false, if_true, if_false, ↓reduceIte, ne_eq, not_false_eq_true, eq_self,
      reduceCtorEq, Nat.reduceEqDiff, Nat.reduceLT, Nat.reduceLeDiff, Nat.reduceBEq, Nat.reduceBNe, Nat.reduceAdd, Nat.reduceMul, Nat.left_eq_add, Nat.add_eq_left, Nat.add_assoc, Nat.add_left_cancel_iff, Nat.one_ne_zero, Nat.add_right_cancel_iff, indexAddr, fieldAddr, rd, Int.natCast_nonneg, Int.toNat_natCast, V.cells, List.length_cons, List.length_nil, List.length_append, List.length_drop, List.length_take, List.length_set, List.take_succ_cons, List.take_zero, List.drop_succ_cons, List.drop_zero, List.drop_nil, List.take_nil, List.set_cons_zero, List.set_cons_succ, List.nil_append, List.cons_append, List.append_nil, Nat.zero_add, Nat.add_zero, Nat.le_refl, ofCells, K.agg, put1, splice, build, buildFill, V.storable, Bool.true_and, Bool.and_true, Bool.and_false, Bool.false_and, Bool.not_true, Bool.not_false, beq_self_eq_true, St_get, partsIn, eqV, eqCells, eqCell, sliceOfRows, List.all_cons, List.all_nil, V.flat, V.norm, V.norm1, elemTy, elems, lenOp, enumE, callI_func, callI_tmp, callF_fn, prim_makeFunc, finK_ret, finK_normal, Ilv.results, resV, all_nil, all_cons, rf_int, rf_bool, rf_str, rf_lit, rf_nils, rf_pnil, rf_agg, rf_tup, rf_ref, V.scalar, V.scalar1, V.bare, Bool.true_or, Bool.or_false, frz34, live34, conf34, t1, t2, hn, hap, keep34, hr]
theorem intrOk : IntrOk cfg Go.Proofs.Try.prog := by
  intro f g h
  simp only [cfg, intrTab, aget] at h
  split at h
  · rename_i hf; subst hf; obtain rfl := Option.some.inj h; exact intrClone_sound cfgOk0 intrOk0 rfl full33 empty33
  split at h
  · rename_i hf; subst hf; obtain rfl := Option.some.inj h; exact intrClone_sound cfgOk0 intrOk0 rfl full34 empty34
  cases h
end Go.Proofs.YtdCfgA
