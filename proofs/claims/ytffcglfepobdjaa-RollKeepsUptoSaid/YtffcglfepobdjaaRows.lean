/-
  No cell of these rows narrows 'for every input' (looked for: loops, veiled, ifaces, maps, wideKeys, modest, calm, conditions, laid).
  DERIVED. THE GIVEN ROWS OF THIS SEAT. 12 by the template 'for every input the law returns true; each argument reads behind the call as it read before'; 0 by the template 'total and deterministic' (their statements: YtffcglfepobdjaaTotals.lean).
  GIVEN WITH THE SEED: the statements are not yours to turn. If you find one false, say at which input.
  Laid BY PROGRAM, IN A SANDBOX (cutbox-rows.mjs): the forced cells as the released guide's own fill.sh prints them over the translation e1dbf9253f4fe184… (all of the seat's roots in one cut). By AI agents, Wed Nov 11 2026. No macro, syntax, notation, axiom, sorry.
-/
import Derived.Test.YtffcglfepobdjaaChecked
import GoSem.Claim
import GoSem.ClaimJoined
import GoSem.ClaimMapViews
import Derived.JoinedTies
import Derived.KernelRfl
namespace Go.Proofs.Ytffcglfepobdjaa
/- THE CELL 'sum', in the pinned program and in every row, IS THE sha256 OF THE DUMP (.gsa) THAT YtffcglfepobdjaaProg.lean LOADS. Nothing in Lean hashes anything: it is a label: what it is worth is what the hold of that sum in a sandbox is worth. -/
noncomputable def Try.pinned : Pinned := { name := "ytffcglfepobdjaa", sum := "e1dbf9253f4fe18409a886a9bf865c3a96cef11369b8123abd0370e52478b491", checked := Try.checked }
namespace Rows
def none {H : Type} : Left H := { results := [], args := [] }

/-- 'quiltworklaw10.BlockAll': WHATEVER THE INPUT: true; the input reads as it did. -/
def blockAllSpec : ChangeSpec := { name := "blockAll", fn := fun _ => fun
  | [d1, d2] => { results := [.lit (.bool true)], args := [d1, d2] }
  | _ => none }
def blockAllRow : OpenClaim := { program := "ytffcglfepobdjaa", sum := "e1dbf9253f4fe18409a886a9bf865c3a96cef11369b8123abd0370e52478b491", func := "quiltwork/quiltworklaw10.BlockAll", spec := "blockAll", inPlace := ["internal/bytealg.MakeNoZero"], apart := false }
def BlockAllSaid : Prop := blockAllRow.holds Try.pinned (OpenSpec.ofChange blockAllSpec)

/-- ITS FALSE NEIGHBOUR: 'it returns false'. Refute it at one input. -/
def blockAllWrong : ChangeSpec := { name := "blockAll", fn := fun _ => fun
  | [d1, d2] => { results := [.lit (.bool false)], args := [d1, d2] }
  | _ => none }
def BlockAllWrongFalsely : Prop := blockAllRow.holds Try.pinned (OpenSpec.ofChange blockAllWrong)

/-- 'quiltworklaw10.BlockFlushed': WHATEVER THE INPUT: true; the input reads as it did. -/
def blockFlushedSpec : ChangeSpec := { name := "blockFlushed", fn := fun _ => fun
  | [d1, d2, d3] => { results := [.lit (.bool true)], args := [d1, d2, d3] }
  | _ => none }
def blockFlushedRow : OpenClaim := { program := "ytffcglfepobdjaa", sum := "e1dbf9253f4fe18409a886a9bf865c3a96cef11369b8123abd0370e52478b491", func := "quiltwork/quiltworklaw10.BlockFlushed", spec := "blockFlushed", inPlace := ["internal/bytealg.MakeNoZero"], apart := false }
def BlockFlushedSaid : Prop := blockFlushedRow.holds Try.pinned (OpenSpec.ofChange blockFlushedSpec)

/-- ITS FALSE NEIGHBOUR: 'it returns false'. Refute it at one input. -/
def blockFlushedWrong : ChangeSpec := { name := "blockFlushed", fn := fun _ => fun
  | [d1, d2, d3] => { results := [.lit (.bool false)], args := [d1, d2, d3] }
  | _ => none }
def BlockFlushedWrongFalsely : Prop := blockFlushedRow.holds Try.pinned (OpenSpec.ofChange blockFlushedWrong)

/-- 'quiltworklaw10.BlockHalves': WHATEVER THE INPUT: true; the input reads as it did. -/
def blockHalvesSpec : ChangeSpec := { name := "blockHalves", fn := fun _ => fun
  | [d1, d2, d3] => { results := [.lit (.bool true)], args := [d1, d2, d3] }
  | _ => none }
def blockHalvesRow : OpenClaim := { program := "ytffcglfepobdjaa", sum := "e1dbf9253f4fe18409a886a9bf865c3a96cef11369b8123abd0370e52478b491", func := "quiltwork/quiltworklaw10.BlockHalves", spec := "blockHalves", inPlace := ["internal/bytealg.MakeNoZero"], apart := false }
def BlockHalvesSaid : Prop := blockHalvesRow.holds Try.pinned (OpenSpec.ofChange blockHalvesSpec)

/-- ITS FALSE NEIGHBOUR: 'it returns false'. Refute it at one input. -/
def blockHalvesWrong : ChangeSpec := { name := "blockHalves", fn := fun _ => fun
  | [d1, d2, d3] => { results := [.lit (.bool false)], args := [d1, d2, d3] }
  | _ => none }
def BlockHalvesWrongFalsely : Prop := blockHalvesRow.holds Try.pinned (OpenSpec.ofChange blockHalvesWrong)

/-- 'quiltworklaw10.BlockDown': WHATEVER THE INPUT: true; the input reads as it did. -/
def blockDownSpec : ChangeSpec := { name := "blockDown", fn := fun _ => fun
  | [d1, d2, d3] => { results := [.lit (.bool true)], args := [d1, d2, d3] }
  | _ => none }
def blockDownRow : OpenClaim := { program := "ytffcglfepobdjaa", sum := "e1dbf9253f4fe18409a886a9bf865c3a96cef11369b8123abd0370e52478b491", func := "quiltwork/quiltworklaw10.BlockDown", spec := "blockDown", inPlace := ["internal/bytealg.MakeNoZero"], apart := false }
def BlockDownSaid : Prop := blockDownRow.holds Try.pinned (OpenSpec.ofChange blockDownSpec)

/-- ITS FALSE NEIGHBOUR: 'it returns false'. Refute it at one input. -/
def blockDownWrong : ChangeSpec := { name := "blockDown", fn := fun _ => fun
  | [d1, d2, d3] => { results := [.lit (.bool false)], args := [d1, d2, d3] }
  | _ => none }
def BlockDownWrongFalsely : Prop := blockDownRow.holds Try.pinned (OpenSpec.ofChange blockDownWrong)

/-- 'quiltworklaw10.BlockLost': WHATEVER THE INPUT: true; the input reads as it did. -/
def blockLostSpec : ChangeSpec := { name := "blockLost", fn := fun _ => fun
  | [d1, d2] => { results := [.lit (.bool true)], args := [d1, d2] }
  | _ => none }
def blockLostRow : OpenClaim := { program := "ytffcglfepobdjaa", sum := "e1dbf9253f4fe18409a886a9bf865c3a96cef11369b8123abd0370e52478b491", func := "quiltwork/quiltworklaw10.BlockLost", spec := "blockLost", inPlace := ["internal/bytealg.MakeNoZero"], apart := false }
def BlockLostSaid : Prop := blockLostRow.holds Try.pinned (OpenSpec.ofChange blockLostSpec)

/-- ITS FALSE NEIGHBOUR: 'it returns false'. Refute it at one input. -/
def blockLostWrong : ChangeSpec := { name := "blockLost", fn := fun _ => fun
  | [d1, d2] => { results := [.lit (.bool false)], args := [d1, d2] }
  | _ => none }
def BlockLostWrongFalsely : Prop := blockLostRow.holds Try.pinned (OpenSpec.ofChange blockLostWrong)

/-- 'quiltworklaw10.BlockImages': WHATEVER THE INPUT: true; the input reads as it did. -/
def blockImagesSpec : ChangeSpec := { name := "blockImages", fn := fun _ => fun
  | [d] => { results := [.lit (.bool true)], args := [d] }
  | _ => none }
def blockImagesRow : OpenClaim := { program := "ytffcglfepobdjaa", sum := "e1dbf9253f4fe18409a886a9bf865c3a96cef11369b8123abd0370e52478b491", func := "quiltwork/quiltworklaw10.BlockImages", spec := "blockImages", inPlace := ["internal/bytealg.MakeNoZero"], apart := false }
def BlockImagesSaid : Prop := blockImagesRow.holds Try.pinned (OpenSpec.ofChange blockImagesSpec)

/-- ITS FALSE NEIGHBOUR: 'it returns false'. Refute it at one input. -/
def blockImagesWrong : ChangeSpec := { name := "blockImages", fn := fun _ => fun
  | [d] => { results := [.lit (.bool false)], args := [d] }
  | _ => none }
def BlockImagesWrongFalsely : Prop := blockImagesRow.holds Try.pinned (OpenSpec.ofChange blockImagesWrong)

/-- 'quiltworklaw10.BlockOwn': WHATEVER THE INPUT: true; the input reads as it did. -/
def blockOwnSpec : ChangeSpec := { name := "blockOwn", fn := fun _ => fun
  | [d] => { results := [.lit (.bool true)], args := [d] }
  | _ => none }
def blockOwnRow : OpenClaim := { program := "ytffcglfepobdjaa", sum := "e1dbf9253f4fe18409a886a9bf865c3a96cef11369b8123abd0370e52478b491", func := "quiltwork/quiltworklaw10.BlockOwn", spec := "blockOwn", inPlace := ["internal/bytealg.MakeNoZero"], apart := false }
def BlockOwnSaid : Prop := blockOwnRow.holds Try.pinned (OpenSpec.ofChange blockOwnSpec)

/-- ITS FALSE NEIGHBOUR: 'it returns false'. Refute it at one input. -/
def blockOwnWrong : ChangeSpec := { name := "blockOwn", fn := fun _ => fun
  | [d] => { results := [.lit (.bool false)], args := [d] }
  | _ => none }
def BlockOwnWrongFalsely : Prop := blockOwnRow.holds Try.pinned (OpenSpec.ofChange blockOwnWrong)

/-- 'quiltworklaw11.RollFills': WHATEVER THE INPUT: true; the input reads as it did. -/
def rollFillsSpec : ChangeSpec := { name := "rollFills", fn := fun _ => fun
  | [d1, d2] => { results := [.lit (.bool true)], args := [d1, d2] }
  | _ => none }
def rollFillsRow : OpenClaim := { program := "ytffcglfepobdjaa", sum := "e1dbf9253f4fe18409a886a9bf865c3a96cef11369b8123abd0370e52478b491", func := "quiltwork/quiltworklaw11.RollFills", spec := "rollFills", unfollowed := true, recurses := true, apart := false }
def RollFillsSaid : Prop := rollFillsRow.holds Try.pinned (OpenSpec.ofChange rollFillsSpec)

/-- ITS FALSE NEIGHBOUR: 'it returns false'. Refute it at one input. -/
def rollFillsWrong : ChangeSpec := { name := "rollFills", fn := fun _ => fun
  | [d1, d2] => { results := [.lit (.bool false)], args := [d1, d2] }
  | _ => none }
def RollFillsWrongFalsely : Prop := rollFillsRow.holds Try.pinned (OpenSpec.ofChange rollFillsWrong)

/-- 'quiltworklaw11.RollStages': WHATEVER THE INPUT: true; the input reads as it did. -/
def rollStagesSpec : ChangeSpec := { name := "rollStages", fn := fun _ => fun
  | [d1, d2, d3] => { results := [.lit (.bool true)], args := [d1, d2, d3] }
  | _ => none }
def rollStagesRow : OpenClaim := { program := "ytffcglfepobdjaa", sum := "e1dbf9253f4fe18409a886a9bf865c3a96cef11369b8123abd0370e52478b491", func := "quiltwork/quiltworklaw11.RollStages", spec := "rollStages", unfollowed := true, recurses := true, apart := false }
def RollStagesSaid : Prop := rollStagesRow.holds Try.pinned (OpenSpec.ofChange rollStagesSpec)

/-- ITS FALSE NEIGHBOUR: 'it returns false'. Refute it at one input. -/
def rollStagesWrong : ChangeSpec := { name := "rollStages", fn := fun _ => fun
  | [d1, d2, d3] => { results := [.lit (.bool false)], args := [d1, d2, d3] }
  | _ => none }
def RollStagesWrongFalsely : Prop := rollStagesRow.holds Try.pinned (OpenSpec.ofChange rollStagesWrong)

/-- 'quiltworklaw11.RollOpens': WHATEVER THE INPUT: true; the input reads as it did. -/
def rollOpensSpec : ChangeSpec := { name := "rollOpens", fn := fun _ => fun
  | [d] => { results := [.lit (.bool true)], args := [d] }
  | _ => none }
def rollOpensRow : OpenClaim := { program := "ytffcglfepobdjaa", sum := "e1dbf9253f4fe18409a886a9bf865c3a96cef11369b8123abd0370e52478b491", func := "quiltwork/quiltworklaw11.RollOpens", spec := "rollOpens", unfollowed := true, recurses := true, apart := false }
def RollOpensSaid : Prop := rollOpensRow.holds Try.pinned (OpenSpec.ofChange rollOpensSpec)

/-- ITS FALSE NEIGHBOUR: 'it returns false'. Refute it at one input. -/
def rollOpensWrong : ChangeSpec := { name := "rollOpens", fn := fun _ => fun
  | [d] => { results := [.lit (.bool false)], args := [d] }
  | _ => none }
def RollOpensWrongFalsely : Prop := rollOpensRow.holds Try.pinned (OpenSpec.ofChange rollOpensWrong)

/-- 'quiltworklaw11.RollKeeps': WHATEVER THE INPUT: true; the input reads as it did. -/
def rollKeepsSpec : ChangeSpec := { name := "rollKeeps", fn := fun _ => fun
  | [d1, d2, d3] => { results := [.lit (.bool true)], args := [d1, d2, d3] }
  | _ => none }
def rollKeepsRow : OpenClaim := { program := "ytffcglfepobdjaa", sum := "e1dbf9253f4fe18409a886a9bf865c3a96cef11369b8123abd0370e52478b491", func := "quiltwork/quiltworklaw11.RollKeeps", spec := "rollKeeps", unfollowed := true, recurses := true, apart := false }
def RollKeepsSaid : Prop := rollKeepsRow.holds Try.pinned (OpenSpec.ofChange rollKeepsSpec)

/-- ITS FALSE NEIGHBOUR: 'it returns false'. Refute it at one input. -/
def rollKeepsWrong : ChangeSpec := { name := "rollKeeps", fn := fun _ => fun
  | [d1, d2, d3] => { results := [.lit (.bool false)], args := [d1, d2, d3] }
  | _ => none }
def RollKeepsWrongFalsely : Prop := rollKeepsRow.holds Try.pinned (OpenSpec.ofChange rollKeepsWrong)

/-- 'quiltworklaw11.RollAgain': WHATEVER THE INPUT: true; the input reads as it did. -/
def rollAgainSpec : ChangeSpec := { name := "rollAgain", fn := fun _ => fun
  | [d1, d2, d3] => { results := [.lit (.bool true)], args := [d1, d2, d3] }
  | _ => none }
def rollAgainRow : OpenClaim := { program := "ytffcglfepobdjaa", sum := "e1dbf9253f4fe18409a886a9bf865c3a96cef11369b8123abd0370e52478b491", func := "quiltwork/quiltworklaw11.RollAgain", spec := "rollAgain", unfollowed := true, recurses := true, apart := false }
def RollAgainSaid : Prop := rollAgainRow.holds Try.pinned (OpenSpec.ofChange rollAgainSpec)

/-- ITS FALSE NEIGHBOUR: 'it returns false'. Refute it at one input. -/
def rollAgainWrong : ChangeSpec := { name := "rollAgain", fn := fun _ => fun
  | [d1, d2, d3] => { results := [.lit (.bool false)], args := [d1, d2, d3] }
  | _ => none }
def RollAgainWrongFalsely : Prop := rollAgainRow.holds Try.pinned (OpenSpec.ofChange rollAgainWrong)

/- THE SECOND FORM. 'bulk': how many values and letters a reading holds, each counted each time it is reached (what is shared counts as often as it is met; a slice's spare places count too). A statement '..UptoSaid' is the law's where the arguments, and the package variables that the reading takes, are together of bulk at most 1048576: NARROWER than '..Said'. Prove '..Said' where nothing that the law and all that it calls make is longer than what came in: it says more and counts as full. Else prove '..UptoSaid'. A law counts once. -/
mutual
def uptoBulk {H : Type} : DataW H → Nat
  | .lit (.string bytes) => bytes.length + 1
  | .lit _ => 1
  | .nil => 1
  | .ptr d => uptoBulk d + 1
  | .slice elems spare => uptoBulkAll elems + uptoBulkAll spare + 1
  | .agg parts => uptoBulkAll parts + 1
  | .iface _ d => uptoBulk d + 1
  | .map entries => uptoBulkEntries entries + 1
  | .held _ => 1
def uptoBulkAll {H : Type} : List (DataW H) → Nat
  | [] => 0
  | d :: r => uptoBulk d + uptoBulkAll r
def uptoBulkEntries {H : Type} : List (Lit × DataW H) → Nat
  | [] => 0
  | x :: r => uptoBulkEntry x + uptoBulkEntries r
def uptoBulkEntry {H : Type} : Lit × DataW H → Nat
  | (.string bytes, d) => bytes.length + uptoBulk d + 1
  | (_, d) => uptoBulk d + 1
 end
def uptoSmall : (H : Type) → List (DataW H) → Bool := fun _ ds => decide (uptoBulkAll ds ≤ 1048576)
def OpenSpec.upto (s : _root_.Go.ChangeSpec) : _root_.Go.OpenSpec := { _root_.Go.OpenSpec.ofChange s with cond := some uptoSmall }

/-- 'quiltworklaw10.BlockAll', WHERE WHAT IT READS IS OF BULK AT MOST 1048576: true; the input reads as it did. -/
def blockAllUptoRow : OpenClaim := { program := "ytffcglfepobdjaa", sum := "e1dbf9253f4fe18409a886a9bf865c3a96cef11369b8123abd0370e52478b491", func := "quiltwork/quiltworklaw10.BlockAll", spec := "blockAll", inPlace := ["internal/bytealg.MakeNoZero"], apart := false, narrowed := true }
def BlockAllUptoSaid : Prop := blockAllUptoRow.holds Try.pinned (OpenSpec.upto blockAllSpec)

/-- 'quiltworklaw10.BlockFlushed', WHERE WHAT IT READS IS OF BULK AT MOST 1048576: true; the input reads as it did. -/
def blockFlushedUptoRow : OpenClaim := { program := "ytffcglfepobdjaa", sum := "e1dbf9253f4fe18409a886a9bf865c3a96cef11369b8123abd0370e52478b491", func := "quiltwork/quiltworklaw10.BlockFlushed", spec := "blockFlushed", inPlace := ["internal/bytealg.MakeNoZero"], apart := false, narrowed := true }
def BlockFlushedUptoSaid : Prop := blockFlushedUptoRow.holds Try.pinned (OpenSpec.upto blockFlushedSpec)

/-- 'quiltworklaw10.BlockHalves', WHERE WHAT IT READS IS OF BULK AT MOST 1048576: true; the input reads as it did. -/
def blockHalvesUptoRow : OpenClaim := { program := "ytffcglfepobdjaa", sum := "e1dbf9253f4fe18409a886a9bf865c3a96cef11369b8123abd0370e52478b491", func := "quiltwork/quiltworklaw10.BlockHalves", spec := "blockHalves", inPlace := ["internal/bytealg.MakeNoZero"], apart := false, narrowed := true }
def BlockHalvesUptoSaid : Prop := blockHalvesUptoRow.holds Try.pinned (OpenSpec.upto blockHalvesSpec)

/-- 'quiltworklaw10.BlockDown', WHERE WHAT IT READS IS OF BULK AT MOST 1048576: true; the input reads as it did. -/
def blockDownUptoRow : OpenClaim := { program := "ytffcglfepobdjaa", sum := "e1dbf9253f4fe18409a886a9bf865c3a96cef11369b8123abd0370e52478b491", func := "quiltwork/quiltworklaw10.BlockDown", spec := "blockDown", inPlace := ["internal/bytealg.MakeNoZero"], apart := false, narrowed := true }
def BlockDownUptoSaid : Prop := blockDownUptoRow.holds Try.pinned (OpenSpec.upto blockDownSpec)

/-- 'quiltworklaw10.BlockLost', WHERE WHAT IT READS IS OF BULK AT MOST 1048576: true; the input reads as it did. -/
def blockLostUptoRow : OpenClaim := { program := "ytffcglfepobdjaa", sum := "e1dbf9253f4fe18409a886a9bf865c3a96cef11369b8123abd0370e52478b491", func := "quiltwork/quiltworklaw10.BlockLost", spec := "blockLost", inPlace := ["internal/bytealg.MakeNoZero"], apart := false, narrowed := true }
def BlockLostUptoSaid : Prop := blockLostUptoRow.holds Try.pinned (OpenSpec.upto blockLostSpec)

/-- 'quiltworklaw10.BlockImages', WHERE WHAT IT READS IS OF BULK AT MOST 1048576: true; the input reads as it did. -/
def blockImagesUptoRow : OpenClaim := { program := "ytffcglfepobdjaa", sum := "e1dbf9253f4fe18409a886a9bf865c3a96cef11369b8123abd0370e52478b491", func := "quiltwork/quiltworklaw10.BlockImages", spec := "blockImages", inPlace := ["internal/bytealg.MakeNoZero"], apart := false, narrowed := true }
def BlockImagesUptoSaid : Prop := blockImagesUptoRow.holds Try.pinned (OpenSpec.upto blockImagesSpec)

/-- 'quiltworklaw10.BlockOwn', WHERE WHAT IT READS IS OF BULK AT MOST 1048576: true; the input reads as it did. -/
def blockOwnUptoRow : OpenClaim := { program := "ytffcglfepobdjaa", sum := "e1dbf9253f4fe18409a886a9bf865c3a96cef11369b8123abd0370e52478b491", func := "quiltwork/quiltworklaw10.BlockOwn", spec := "blockOwn", inPlace := ["internal/bytealg.MakeNoZero"], apart := false, narrowed := true }
def BlockOwnUptoSaid : Prop := blockOwnUptoRow.holds Try.pinned (OpenSpec.upto blockOwnSpec)

/-- 'quiltworklaw11.RollFills', WHERE WHAT IT READS IS OF BULK AT MOST 1048576: true; the input reads as it did. -/
def rollFillsUptoRow : OpenClaim := { program := "ytffcglfepobdjaa", sum := "e1dbf9253f4fe18409a886a9bf865c3a96cef11369b8123abd0370e52478b491", func := "quiltwork/quiltworklaw11.RollFills", spec := "rollFills", unfollowed := true, recurses := true, apart := false, narrowed := true }
def RollFillsUptoSaid : Prop := rollFillsUptoRow.holds Try.pinned (OpenSpec.upto rollFillsSpec)

/-- 'quiltworklaw11.RollStages', WHERE WHAT IT READS IS OF BULK AT MOST 1048576: true; the input reads as it did. -/
def rollStagesUptoRow : OpenClaim := { program := "ytffcglfepobdjaa", sum := "e1dbf9253f4fe18409a886a9bf865c3a96cef11369b8123abd0370e52478b491", func := "quiltwork/quiltworklaw11.RollStages", spec := "rollStages", unfollowed := true, recurses := true, apart := false, narrowed := true }
def RollStagesUptoSaid : Prop := rollStagesUptoRow.holds Try.pinned (OpenSpec.upto rollStagesSpec)

/-- 'quiltworklaw11.RollOpens', WHERE WHAT IT READS IS OF BULK AT MOST 1048576: true; the input reads as it did. -/
def rollOpensUptoRow : OpenClaim := { program := "ytffcglfepobdjaa", sum := "e1dbf9253f4fe18409a886a9bf865c3a96cef11369b8123abd0370e52478b491", func := "quiltwork/quiltworklaw11.RollOpens", spec := "rollOpens", unfollowed := true, recurses := true, apart := false, narrowed := true }
def RollOpensUptoSaid : Prop := rollOpensUptoRow.holds Try.pinned (OpenSpec.upto rollOpensSpec)

/-- 'quiltworklaw11.RollKeeps', WHERE WHAT IT READS IS OF BULK AT MOST 1048576: true; the input reads as it did. -/
def rollKeepsUptoRow : OpenClaim := { program := "ytffcglfepobdjaa", sum := "e1dbf9253f4fe18409a886a9bf865c3a96cef11369b8123abd0370e52478b491", func := "quiltwork/quiltworklaw11.RollKeeps", spec := "rollKeeps", unfollowed := true, recurses := true, apart := false, narrowed := true }
def RollKeepsUptoSaid : Prop := rollKeepsUptoRow.holds Try.pinned (OpenSpec.upto rollKeepsSpec)

/-- 'quiltworklaw11.RollAgain', WHERE WHAT IT READS IS OF BULK AT MOST 1048576: true; the input reads as it did. -/
def rollAgainUptoRow : OpenClaim := { program := "ytffcglfepobdjaa", sum := "e1dbf9253f4fe18409a886a9bf865c3a96cef11369b8123abd0370e52478b491", func := "quiltwork/quiltworklaw11.RollAgain", spec := "rollAgain", unfollowed := true, recurses := true, apart := false, narrowed := true }
def RollAgainUptoSaid : Prop := rollAgainUptoRow.holds Try.pinned (OpenSpec.upto rollAgainSpec)

end Rows
end Go.Proofs.Ytffcglfepobdjaa
