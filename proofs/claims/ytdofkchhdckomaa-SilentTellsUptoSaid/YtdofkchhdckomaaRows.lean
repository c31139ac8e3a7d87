/-
  No cell of these rows narrows 'for every input' (looked for: loops, veiled, ifaces, maps, wideKeys, modest, calm, conditions, laid).
  DERIVED. THE GIVEN ROWS OF THIS SEAT. 5 by the template 'for every input the law returns true; each argument reads behind the call as it read before'; 0 by the template 'total and deterministic' (their statements: YtdofkchhdckomaaTotals.lean).
  GIVEN WITH THE SEED: the statements are not yours to turn. If you find one false, say at which input.
  Laid BY PROGRAM, IN A SANDBOX (cutbox-rows.mjs): the forced cells as the released guide's own fill.sh prints them over the translation fb3b28ae70843587… (all of the seat's roots in one cut). By AI agents, Wed Nov 11 2026. No macro, syntax, notation, axiom, sorry.
-/
import Derived.Test.YtdofkchhdckomaaChecked
import GoSem.Claim
import GoSem.ClaimJoined
import GoSem.ClaimMapViews
import Derived.JoinedTies
import Derived.KernelRfl
namespace Go.Proofs.Ytdofkchhdckomaa
/- THE CELL 'sum', in the pinned program and in every row, IS THE sha256 OF THE DUMP (.gsa) THAT YtdofkchhdckomaaProg.lean LOADS. Nothing in Lean hashes anything: it is a label: what it is worth is what the hold of that sum in a sandbox is worth. -/
noncomputable def Try.pinned : Pinned := { name := "ytdofkchhdckomaa", sum := "fb3b28ae708435872fbe2bc2dd30eb8b102ff84d103d5123e09348642dbff670", checked := Try.checked }
namespace Rows
def none {H : Type} : Left H := { results := [], args := [] }

/-- 'interleavelaw09.RunChoices': WHATEVER THE INPUT: true; the input reads as it did. -/
def runChoicesSpec : ChangeSpec := { name := "runChoices", fn := fun _ => fun
  | [d] => { results := [.lit (.bool true)], args := [d] }
  | _ => none }
def runChoicesRow : OpenClaim := { program := "ytdofkchhdckomaa", sum := "fb3b28ae708435872fbe2bc2dd30eb8b102ff84d103d5123e09348642dbff670", func := "interleave/interleavelaw09.RunChoices", spec := "runChoices", apart := false }
def RunChoicesSaid : Prop := runChoicesRow.holds Try.pinned (OpenSpec.ofChange runChoicesSpec)

/-- ITS FALSE NEIGHBOUR: 'it returns false'. Refute it at one input. -/
def runChoicesWrong : ChangeSpec := { name := "runChoices", fn := fun _ => fun
  | [d] => { results := [.lit (.bool false)], args := [d] }
  | _ => none }
def RunChoicesWrongFalsely : Prop := runChoicesRow.holds Try.pinned (OpenSpec.ofChange runChoicesWrong)

/-- 'interleavelaw07.SilentUnions': WHATEVER THE INPUT: true; the input reads as it did. -/
def silentUnionsSpec : ChangeSpec := { name := "silentUnions", fn := fun _ => fun
  | [d1, d2] => { results := [.lit (.bool true)], args := [d1, d2] }
  | _ => none }
def silentUnionsRow : OpenClaim := { program := "ytdofkchhdckomaa", sum := "fb3b28ae708435872fbe2bc2dd30eb8b102ff84d103d5123e09348642dbff670", func := "interleave/interleavelaw07.SilentUnions", spec := "silentUnions", recurses := true, apart := false }
def SilentUnionsSaid : Prop := silentUnionsRow.holds Try.pinned (OpenSpec.ofChange silentUnionsSpec)

/-- ITS FALSE NEIGHBOUR: 'it returns false'. Refute it at one input. -/
def silentUnionsWrong : ChangeSpec := { name := "silentUnions", fn := fun _ => fun
  | [d1, d2] => { results := [.lit (.bool false)], args := [d1, d2] }
  | _ => none }
def SilentUnionsWrongFalsely : Prop := silentUnionsRow.holds Try.pinned (OpenSpec.ofChange silentUnionsWrong)

/-- 'interleavelaw07.SilentTells': WHATEVER THE INPUT: true; the input reads as it did. -/
def silentTellsSpec : ChangeSpec := { name := "silentTells", fn := fun _ => fun
  | [d1, d2] => { results := [.lit (.bool true)], args := [d1, d2] }
  | _ => none }
def silentTellsRow : OpenClaim := { program := "ytdofkchhdckomaa", sum := "fb3b28ae708435872fbe2bc2dd30eb8b102ff84d103d5123e09348642dbff670", func := "interleave/interleavelaw07.SilentTells", spec := "silentTells", unfollowed := true, recurses := true, apart := false }
def SilentTellsSaid : Prop := silentTellsRow.holds Try.pinned (OpenSpec.ofChange silentTellsSpec)

/-- ITS FALSE NEIGHBOUR: 'it returns false'. Refute it at one input. -/
def silentTellsWrong : ChangeSpec := { name := "silentTells", fn := fun _ => fun
  | [d1, d2] => { results := [.lit (.bool false)], args := [d1, d2] }
  | _ => none }
def SilentTellsWrongFalsely : Prop := silentTellsRow.holds Try.pinned (OpenSpec.ofChange silentTellsWrong)

/-- 'interleavelaw07.SilentDepends': WHATEVER THE INPUT: true; the input reads as it did. -/
def silentDependsSpec : ChangeSpec := { name := "silentDepends", fn := fun _ => fun
  | [d1, d2, d3, d4, d5, d6] => { results := [.lit (.bool true)], args := [d1, d2, d3, d4, d5, d6] }
  | _ => none }
def silentDependsRow : OpenClaim := { program := "ytdofkchhdckomaa", sum := "fb3b28ae708435872fbe2bc2dd30eb8b102ff84d103d5123e09348642dbff670", func := "interleave/interleavelaw07.SilentDepends", spec := "silentDepends", unfollowed := true, recurses := true, apart := false }
def SilentDependsSaid : Prop := silentDependsRow.holds Try.pinned (OpenSpec.ofChange silentDependsSpec)

/-- ITS FALSE NEIGHBOUR: 'it returns false'. Refute it at one input. -/
def silentDependsWrong : ChangeSpec := { name := "silentDepends", fn := fun _ => fun
  | [d1, d2, d3, d4, d5, d6] => { results := [.lit (.bool false)], args := [d1, d2, d3, d4, d5, d6] }
  | _ => none }
def SilentDependsWrongFalsely : Prop := silentDependsRow.holds Try.pinned (OpenSpec.ofChange silentDependsWrong)

/-- 'interleavelaw07.SilentCycles': WHATEVER THE INPUT: true; the input reads as it did. -/
def silentCyclesSpec : ChangeSpec := { name := "silentCycles", fn := fun _ => fun
  | [] => { results := [.lit (.bool true)], args := [] }
  | _ => none }
def silentCyclesRow : OpenClaim := { program := "ytdofkchhdckomaa", sum := "fb3b28ae708435872fbe2bc2dd30eb8b102ff84d103d5123e09348642dbff670", func := "interleave/interleavelaw07.SilentCycles", spec := "silentCycles", unfollowed := true, recurses := true, apart := false }
def SilentCyclesSaid : Prop := silentCyclesRow.holds Try.pinned (OpenSpec.ofChange silentCyclesSpec)

/-- ITS FALSE NEIGHBOUR: 'it returns false'. Refute it at one input. -/
def silentCyclesWrong : ChangeSpec := { name := "silentCycles", fn := fun _ => fun
  | [] => { results := [.lit (.bool false)], args := [] }
  | _ => none }
def SilentCyclesWrongFalsely : Prop := silentCyclesRow.holds Try.pinned (OpenSpec.ofChange silentCyclesWrong)

/- THE SECOND FORM. 'bulk': how many values and letters a reading holds, each counted each time it is reached (what is shared counts as often as it is met; a slice's spare places count too). A statement '..UptoSaid' is the law's where the arguments, and the package variables that the reading takes, are together of bulk at most 1048576: NARROWER than '..Said'. Prove '..Said' where nothing that the law and all that it calls make is longer than what came in: it says more and counts as full. Else prove '..UptoSaid'. A law counts once. -/
mutual
def uptoBulk {H : Type} : DataW H → Nat
  | .lit (.string bytes) => bytes.length + 1
  | .lit _ => 1
  | .nil => 1
  | .ptr d => uptoBulk d + 1
  | .slice elems spare => uptoBulkAll elems + uptoBulkAll spare + 1
  | .agg parts => uptoBulkAll parts + 1
  | .iface _ d => uptoBulk d + 1
  | .map entries => uptoBulkEntries entries + 1
  | .held _ => 1
def uptoBulkAll {H : Type} : List (DataW H) → Nat
  | [] => 0
  | d :: r => uptoBulk d + uptoBulkAll r
def uptoBulkEntries {H : Type} : List (Lit × DataW H) → Nat
  | [] => 0
  | x :: r => uptoBulkEntry x + uptoBulkEntries r
def uptoBulkEntry {H : Type} : Lit × DataW H → Nat
  | (.string bytes, d) => bytes.length + uptoBulk d + 1
  | (_, d) => uptoBulk d + 1
 end
def uptoSmall : (H : Type) → List (DataW H) → Bool := fun _ ds => decide (uptoBulkAll ds ≤ 1048576)
def OpenSpec.upto (s : _root_.Go.ChangeSpec) : _root_.Go.OpenSpec := { _root_.Go.OpenSpec.ofChange s with cond := some uptoSmall }

/-- 'interleavelaw09.RunChoices', WHERE WHAT IT READS IS OF BULK AT MOST 1048576: true; the input reads as it did. -/
def runChoicesUptoRow : OpenClaim := { program := "ytdofkchhdckomaa", sum := "fb3b28ae708435872fbe2bc2dd30eb8b102ff84d103d5123e09348642dbff670", func := "interleave/interleavelaw09.RunChoices", spec := "runChoices", apart := false, narrowed := true }
def RunChoicesUptoSaid : Prop := runChoicesUptoRow.holds Try.pinned (OpenSpec.upto runChoicesSpec)

/-- 'interleavelaw07.SilentUnions', WHERE WHAT IT READS IS OF BULK AT MOST 1048576: true; the input reads as it did. -/
def silentUnionsUptoRow : OpenClaim := { program := "ytdofkchhdckomaa", sum := "fb3b28ae708435872fbe2bc2dd30eb8b102ff84d103d5123e09348642dbff670", func := "interleave/interleavelaw07.SilentUnions", spec := "silentUnions", recurses := true, apart := false, narrowed := true }
def SilentUnionsUptoSaid : Prop := silentUnionsUptoRow.holds Try.pinned (OpenSpec.upto silentUnionsSpec)

/-- 'interleavelaw07.SilentTells', WHERE WHAT IT READS IS OF BULK AT MOST 1048576: true; the input reads as it did. -/
def silentTellsUptoRow : OpenClaim := { program := "ytdofkchhdckomaa", sum := "fb3b28ae708435872fbe2bc2dd30eb8b102ff84d103d5123e09348642dbff670", func := "interleave/interleavelaw07.SilentTells", spec := "silentTells", unfollowed := true, recurses := true, apart := false, narrowed := true }
def SilentTellsUptoSaid : Prop := silentTellsUptoRow.holds Try.pinned (OpenSpec.upto silentTellsSpec)

/-- 'interleavelaw07.SilentDepends', WHERE WHAT IT READS IS OF BULK AT MOST 1048576: true; the input reads as it did. -/
def silentDependsUptoRow : OpenClaim := { program := "ytdofkchhdckomaa", sum := "fb3b28ae708435872fbe2bc2dd30eb8b102ff84d103d5123e09348642dbff670", func := "interleave/interleavelaw07.SilentDepends", spec := "silentDepends", unfollowed := true, recurses := true, apart := false, narrowed := true }
def SilentDependsUptoSaid : Prop := silentDependsUptoRow.holds Try.pinned (OpenSpec.upto silentDependsSpec)

/-- 'interleavelaw07.SilentCycles', WHERE WHAT IT READS IS OF BULK AT MOST 1048576: true; the input reads as it did. -/
def silentCyclesUptoRow : OpenClaim := { program := "ytdofkchhdckomaa", sum := "fb3b28ae708435872fbe2bc2dd30eb8b102ff84d103d5123e09348642dbff670", func := "interleave/interleavelaw07.SilentCycles", spec := "silentCycles", unfollowed := true, recurses := true, apart := false, narrowed := true }
def SilentCyclesUptoSaid : Prop := silentCyclesUptoRow.holds Try.pinned (OpenSpec.upto silentCyclesSpec)

end Rows
end Go.Proofs.Ytdofkchhdckomaa
