/-
  No cell of these rows narrows 'for every input' (looked for: loops, veiled, ifaces, maps, wideKeys, modest, calm, conditions, laid).
  DERIVED. THE GIVEN ROWS OF THIS SEAT. 11 by the template 'for every input the law returns true; each argument reads behind the call as it read before'; 0 by the template 'total and deterministic' (their statements: YtdopfonebpklkaaGreatTotals.lean).
  GIVEN WITH THE SEED: the statements are not yours to turn. If you find one false, say at which input.
  Laid BY PROGRAM, IN A SANDBOX (cutbox-rows.mjs): the forced cells as the released guide's own fill.sh prints them over the translation ec735c991910b02d… (all of the seat's roots in one cut). By AI agents, Wed Nov 11 2026. No macro, syntax, notation, axiom, sorry.
-/
import Derived.Test.YtdopfonebpklkaaGreatChecked
import GoSem.Claim
import GoSem.ClaimJoined
import GoSem.ClaimMapViews
import Derived.JoinedTies
import Derived.KernelRfl
namespace Go.Proofs.YtdopfonebpklkaaGreat
/- THE CELL 'sum', in the pinned program and in every row, IS THE sha256 OF THE DUMP (.gsa) THAT YtdopfonebpklkaaGreatProg.lean LOADS. Nothing in Lean hashes anything: it is a label: what it is worth is what the hold of that sum in a sandbox is worth. -/
noncomputable def Tryz.pinned : Pinned := { name := "ytdopfonebpklkaagreat", sum := "ec735c991910b02dd019db14867ae5fe6a26298fe6bc1187debdad88506f20f1", checked := Tryz.checked }
namespace Rows
def none {H : Type} : Left H := { results := [], args := [] }

/-- 'ceilidhlaw10.FoldAsks': WHATEVER THE INPUT: true; the input reads as it did. -/
def foldAsksSpec : ChangeSpec := { name := "foldAsks", fn := fun _ => fun
  | [d1, d2, d3] => { results := [.lit (.bool true)], args := [d1, d2, d3] }
  | _ => none }
def foldAsksRow : OpenClaim := { program := "ytdopfonebpklkaagreat", sum := "ec735c991910b02dd019db14867ae5fe6a26298fe6bc1187debdad88506f20f1", func := "ceilidh/ceilidhlaw10.FoldAsks", spec := "foldAsks", unfollowed := true, recurses := true, plainKeys := false, apart := false }
def FoldAsksSaid : Prop := foldAsksRow.holds Tryz.pinned (OpenSpec.ofChange foldAsksSpec)

/-- ITS FALSE NEIGHBOUR: 'it returns false'. Refute it at one input. -/
def foldAsksWrong : ChangeSpec := { name := "foldAsks", fn := fun _ => fun
  | [d1, d2, d3] => { results := [.lit (.bool false)], args := [d1, d2, d3] }
  | _ => none }
def FoldAsksWrongFalsely : Prop := foldAsksRow.holds Tryz.pinned (OpenSpec.ofChange foldAsksWrong)

/-- 'ceilidhlaw10.FoldRuns': WHATEVER THE INPUT: true; the input reads as it did. -/
def foldRunsSpec : ChangeSpec := { name := "foldRuns", fn := fun _ => fun
  | [d1, d2, d3] => { results := [.lit (.bool true)], args := [d1, d2, d3] }
  | _ => none }
def foldRunsRow : OpenClaim := { program := "ytdopfonebpklkaagreat", sum := "ec735c991910b02dd019db14867ae5fe6a26298fe6bc1187debdad88506f20f1", func := "ceilidh/ceilidhlaw10.FoldRuns", spec := "foldRuns", unfollowed := true, recurses := true, plainKeys := false, apart := false }
def FoldRunsSaid : Prop := foldRunsRow.holds Tryz.pinned (OpenSpec.ofChange foldRunsSpec)

/-- ITS FALSE NEIGHBOUR: 'it returns false'. Refute it at one input. -/
def foldRunsWrong : ChangeSpec := { name := "foldRuns", fn := fun _ => fun
  | [d1, d2, d3] => { results := [.lit (.bool false)], args := [d1, d2, d3] }
  | _ => none }
def FoldRunsWrongFalsely : Prop := foldRunsRow.holds Tryz.pinned (OpenSpec.ofChange foldRunsWrong)

/-- 'ceilidhlaw10.FoldWrong': WHATEVER THE INPUT: true; the input reads as it did. -/
def foldWrongSpec : ChangeSpec := { name := "foldWrong", fn := fun _ => fun
  | [d1, d2, d3] => { results := [.lit (.bool true)], args := [d1, d2, d3] }
  | _ => none }
def foldWrongRow : OpenClaim := { program := "ytdopfonebpklkaagreat", sum := "ec735c991910b02dd019db14867ae5fe6a26298fe6bc1187debdad88506f20f1", func := "ceilidh/ceilidhlaw10.FoldWrong", spec := "foldWrong", unfollowed := true, recurses := true, plainKeys := false, apart := false }
def FoldWrongSaid : Prop := foldWrongRow.holds Tryz.pinned (OpenSpec.ofChange foldWrongSpec)

/-- ITS FALSE NEIGHBOUR: 'it returns false'. Refute it at one input. -/
def foldWrongWrong : ChangeSpec := { name := "foldWrong", fn := fun _ => fun
  | [d1, d2, d3] => { results := [.lit (.bool false)], args := [d1, d2, d3] }
  | _ => none }
def FoldWrongWrongFalsely : Prop := foldWrongRow.holds Tryz.pinned (OpenSpec.ofChange foldWrongWrong)

/-- 'ceilidhlaw10.FoldSwap': WHATEVER THE INPUT: true; the input reads as it did. -/
def foldSwapSpec : ChangeSpec := { name := "foldSwap", fn := fun _ => fun
  | [d1, d2, d3] => { results := [.lit (.bool true)], args := [d1, d2, d3] }
  | _ => none }
def foldSwapRow : OpenClaim := { program := "ytdopfonebpklkaagreat", sum := "ec735c991910b02dd019db14867ae5fe6a26298fe6bc1187debdad88506f20f1", func := "ceilidh/ceilidhlaw10.FoldSwap", spec := "foldSwap", unfollowed := true, recurses := true, plainKeys := false, apart := false }
def FoldSwapSaid : Prop := foldSwapRow.holds Tryz.pinned (OpenSpec.ofChange foldSwapSpec)

/-- ITS FALSE NEIGHBOUR: 'it returns false'. Refute it at one input. -/
def foldSwapWrong : ChangeSpec := { name := "foldSwap", fn := fun _ => fun
  | [d1, d2, d3] => { results := [.lit (.bool false)], args := [d1, d2, d3] }
  | _ => none }
def FoldSwapWrongFalsely : Prop := foldSwapRow.holds Tryz.pinned (OpenSpec.ofChange foldSwapWrong)

/-- 'ceilidhlaw10.FoldRosters': WHATEVER THE INPUT: true; the input reads as it did. -/
def foldRostersSpec : ChangeSpec := { name := "foldRosters", fn := fun _ => fun
  | [d1, d2] => { results := [.lit (.bool true)], args := [d1, d2] }
  | _ => none }
def foldRostersRow : OpenClaim := { program := "ytdopfonebpklkaagreat", sum := "ec735c991910b02dd019db14867ae5fe6a26298fe6bc1187debdad88506f20f1", func := "ceilidh/ceilidhlaw10.FoldRosters", spec := "foldRosters", unfollowed := true, recurses := true, plainKeys := false, apart := false }
def FoldRostersSaid : Prop := foldRostersRow.holds Tryz.pinned (OpenSpec.ofChange foldRostersSpec)

/-- ITS FALSE NEIGHBOUR: 'it returns false'. Refute it at one input. -/
def foldRostersWrong : ChangeSpec := { name := "foldRosters", fn := fun _ => fun
  | [d1, d2] => { results := [.lit (.bool false)], args := [d1, d2] }
  | _ => none }
def FoldRostersWrongFalsely : Prop := foldRostersRow.holds Tryz.pinned (OpenSpec.ofChange foldRostersWrong)

/-- 'ceilidhlaw21.ModelAsks': WHATEVER THE INPUT: true; the input reads as it did. -/
def modelAsksSpec : ChangeSpec := { name := "modelAsks", fn := fun _ => fun
  | [d1, d2, d3] => { results := [.lit (.bool true)], args := [d1, d2, d3] }
  | _ => none }
def modelAsksRow : OpenClaim := { program := "ytdopfonebpklkaagreat", sum := "ec735c991910b02dd019db14867ae5fe6a26298fe6bc1187debdad88506f20f1", func := "ceilidh/ceilidhlaw21.ModelAsks", spec := "modelAsks", unfollowed := true, recurses := true, plainKeys := false, apart := false }
def ModelAsksSaid : Prop := modelAsksRow.holds Tryz.pinned (OpenSpec.ofChange modelAsksSpec)

/-- ITS FALSE NEIGHBOUR: 'it returns false'. Refute it at one input. -/
def modelAsksWrong : ChangeSpec := { name := "modelAsks", fn := fun _ => fun
  | [d1, d2, d3] => { results := [.lit (.bool false)], args := [d1, d2, d3] }
  | _ => none }
def ModelAsksWrongFalsely : Prop := modelAsksRow.holds Tryz.pinned (OpenSpec.ofChange modelAsksWrong)

/-- 'ceilidhlaw21.ModelLogs': WHATEVER THE INPUT: true; the input reads as it did. -/
def modelLogsSpec : ChangeSpec := { name := "modelLogs", fn := fun _ => fun
  | [d1, d2, d3] => { results := [.lit (.bool true)], args := [d1, d2, d3] }
  | _ => none }
def modelLogsRow : OpenClaim := { program := "ytdopfonebpklkaagreat", sum := "ec735c991910b02dd019db14867ae5fe6a26298fe6bc1187debdad88506f20f1", func := "ceilidh/ceilidhlaw21.ModelLogs", spec := "modelLogs", unfollowed := true, recurses := true, plainKeys := false, apart := false }
def ModelLogsSaid : Prop := modelLogsRow.holds Tryz.pinned (OpenSpec.ofChange modelLogsSpec)

/-- ITS FALSE NEIGHBOUR: 'it returns false'. Refute it at one input. -/
def modelLogsWrong : ChangeSpec := { name := "modelLogs", fn := fun _ => fun
  | [d1, d2, d3] => { results := [.lit (.bool false)], args := [d1, d2, d3] }
  | _ => none }
def ModelLogsWrongFalsely : Prop := modelLogsRow.holds Tryz.pinned (OpenSpec.ofChange modelLogsWrong)

/-- 'ceilidhlaw21.ModelMoves': WHATEVER THE INPUT: true; the input reads as it did. -/
def modelMovesSpec : ChangeSpec := { name := "modelMoves", fn := fun _ => fun
  | [d1, d2, d3] => { results := [.lit (.bool true)], args := [d1, d2, d3] }
  | _ => none }
def modelMovesRow : OpenClaim := { program := "ytdopfonebpklkaagreat", sum := "ec735c991910b02dd019db14867ae5fe6a26298fe6bc1187debdad88506f20f1", func := "ceilidh/ceilidhlaw21.ModelMoves", spec := "modelMoves", unfollowed := true, recurses := true, plainKeys := false, apart := false }
def ModelMovesSaid : Prop := modelMovesRow.holds Tryz.pinned (OpenSpec.ofChange modelMovesSpec)

/-- ITS FALSE NEIGHBOUR: 'it returns false'. Refute it at one input. -/
def modelMovesWrong : ChangeSpec := { name := "modelMoves", fn := fun _ => fun
  | [d1, d2, d3] => { results := [.lit (.bool false)], args := [d1, d2, d3] }
  | _ => none }
def ModelMovesWrongFalsely : Prop := modelMovesRow.holds Tryz.pinned (OpenSpec.ofChange modelMovesWrong)

/-- 'ceilidhlaw15.RingPlays': WHATEVER THE INPUT: true; the input reads as it did. -/
def ringPlaysSpec : ChangeSpec := { name := "ringPlays", fn := fun _ => fun
  | [d1, d2, d3] => { results := [.lit (.bool true)], args := [d1, d2, d3] }
  | _ => none }
def ringPlaysRow : OpenClaim := { program := "ytdopfonebpklkaagreat", sum := "ec735c991910b02dd019db14867ae5fe6a26298fe6bc1187debdad88506f20f1", func := "ceilidh/ceilidhlaw15.RingPlays", spec := "ringPlays", unfollowed := true, recurses := true, plainKeys := false, apart := false }
def RingPlaysSaid : Prop := ringPlaysRow.holds Tryz.pinned (OpenSpec.ofChange ringPlaysSpec)

/-- ITS FALSE NEIGHBOUR: 'it returns false'. Refute it at one input. -/
def ringPlaysWrong : ChangeSpec := { name := "ringPlays", fn := fun _ => fun
  | [d1, d2, d3] => { results := [.lit (.bool false)], args := [d1, d2, d3] }
  | _ => none }
def RingPlaysWrongFalsely : Prop := ringPlaysRow.holds Tryz.pinned (OpenSpec.ofChange ringPlaysWrong)

/-- 'ceilidhlaw15.RingBounds': WHATEVER THE INPUT: true; the input reads as it did. -/
def ringBoundsSpec : ChangeSpec := { name := "ringBounds", fn := fun _ => fun
  | [d1, d2, d3, d4] => { results := [.lit (.bool true)], args := [d1, d2, d3, d4] }
  | _ => none }
def ringBoundsRow : OpenClaim := { program := "ytdopfonebpklkaagreat", sum := "ec735c991910b02dd019db14867ae5fe6a26298fe6bc1187debdad88506f20f1", func := "ceilidh/ceilidhlaw15.RingBounds", spec := "ringBounds", unfollowed := true, recurses := true, plainKeys := false, apart := false }
def RingBoundsSaid : Prop := ringBoundsRow.holds Tryz.pinned (OpenSpec.ofChange ringBoundsSpec)

/-- ITS FALSE NEIGHBOUR: 'it returns false'. Refute it at one input. -/
def ringBoundsWrong : ChangeSpec := { name := "ringBounds", fn := fun _ => fun
  | [d1, d2, d3, d4] => { results := [.lit (.bool false)], args := [d1, d2, d3, d4] }
  | _ => none }
def RingBoundsWrongFalsely : Prop := ringBoundsRow.holds Tryz.pinned (OpenSpec.ofChange ringBoundsWrong)

/-- 'ceilidhlaw15.RingOwn': WHATEVER THE INPUT: true; the input reads as it did. -/
def ringOwnSpec : ChangeSpec := { name := "ringOwn", fn := fun _ => fun
  | [d1, d2] => { results := [.lit (.bool true)], args := [d1, d2] }
  | _ => none }
def ringOwnRow : OpenClaim := { program := "ytdopfonebpklkaagreat", sum := "ec735c991910b02dd019db14867ae5fe6a26298fe6bc1187debdad88506f20f1", func := "ceilidh/ceilidhlaw15.RingOwn", spec := "ringOwn", unfollowed := true, recurses := true, plainKeys := false, apart := false }
def RingOwnSaid : Prop := ringOwnRow.holds Tryz.pinned (OpenSpec.ofChange ringOwnSpec)

/-- ITS FALSE NEIGHBOUR: 'it returns false'. Refute it at one input. -/
def ringOwnWrong : ChangeSpec := { name := "ringOwn", fn := fun _ => fun
  | [d1, d2] => { results := [.lit (.bool false)], args := [d1, d2] }
  | _ => none }
def RingOwnWrongFalsely : Prop := ringOwnRow.holds Tryz.pinned (OpenSpec.ofChange ringOwnWrong)

/- THE SECOND FORM. 'bulk': how many values and letters a reading holds, each counted each time it is reached (what is shared counts as often as it is met; a slice's spare places count too). A statement '..UptoSaid' is the law's where the arguments, and the package variables that the reading takes, are together of bulk at most 1048576: NARROWER than '..Said'. Prove '..Said' where nothing that the law and all that it calls make is longer than what came in: it says more and counts as full. Else prove '..UptoSaid'. A law counts once. -/
mutual
def uptoBulk {H : Type} : DataW H → Nat
  | .lit (.string bytes) => bytes.length + 1
  | .lit _ => 1
  | .nil => 1
  | .ptr d => uptoBulk d + 1
  | .slice elems spare => uptoBulkAll elems + uptoBulkAll spare + 1
  | .agg parts => uptoBulkAll parts + 1
  | .iface _ d => uptoBulk d + 1
  | .map entries => uptoBulkEntries entries + 1
  | .held _ => 1
def uptoBulkAll {H : Type} : List (DataW H) → Nat
  | [] => 0
  | d :: r => uptoBulk d + uptoBulkAll r
def uptoBulkEntries {H : Type} : List (Lit × DataW H) → Nat
  | [] => 0
  | x :: r => uptoBulkEntry x + uptoBulkEntries r
def uptoBulkEntry {H : Type} : Lit × DataW H → Nat
  | (.string bytes, d) => bytes.length + uptoBulk d + 1
  | (_, d) => uptoBulk d + 1
 end
def uptoSmall : (H : Type) → List (DataW H) → Bool := fun _ ds => decide (uptoBulkAll ds ≤ 1048576)
def OpenSpec.upto (s : _root_.Go.ChangeSpec) : _root_.Go.OpenSpec := { _root_.Go.OpenSpec.ofChange s with cond := some uptoSmall }

/-- 'ceilidhlaw10.FoldAsks', WHERE WHAT IT READS IS OF BULK AT MOST 1048576: true; the input reads as it did. -/
def foldAsksUptoRow : OpenClaim := { program := "ytdopfonebpklkaagreat", sum := "ec735c991910b02dd019db14867ae5fe6a26298fe6bc1187debdad88506f20f1", func := "ceilidh/ceilidhlaw10.FoldAsks", spec := "foldAsks", unfollowed := true, recurses := true, plainKeys := false, apart := false, narrowed := true }
def FoldAsksUptoSaid : Prop := foldAsksUptoRow.holds Tryz.pinned (OpenSpec.upto foldAsksSpec)

/-- 'ceilidhlaw10.FoldRuns', WHERE WHAT IT READS IS OF BULK AT MOST 1048576: true; the input reads as it did. -/
def foldRunsUptoRow : OpenClaim := { program := "ytdopfonebpklkaagreat", sum := "ec735c991910b02dd019db14867ae5fe6a26298fe6bc1187debdad88506f20f1", func := "ceilidh/ceilidhlaw10.FoldRuns", spec := "foldRuns", unfollowed := true, recurses := true, plainKeys := false, apart := false, narrowed := true }
def FoldRunsUptoSaid : Prop := foldRunsUptoRow.holds Tryz.pinned (OpenSpec.upto foldRunsSpec)

/-- 'ceilidhlaw10.FoldWrong', WHERE WHAT IT READS IS OF BULK AT MOST 1048576: true; the input reads as it did. -/
def foldWrongUptoRow : OpenClaim := { program := "ytdopfonebpklkaagreat", sum := "ec735c991910b02dd019db14867ae5fe6a26298fe6bc1187debdad88506f20f1", func := "ceilidh/ceilidhlaw10.FoldWrong", spec := "foldWrong", unfollowed := true, recurses := true, plainKeys := false, apart := false, narrowed := true }
def FoldWrongUptoSaid : Prop := foldWrongUptoRow.holds Tryz.pinned (OpenSpec.upto foldWrongSpec)

/-- 'ceilidhlaw10.FoldSwap', WHERE WHAT IT READS IS OF BULK AT MOST 1048576: true; the input reads as it did. -/
def foldSwapUptoRow : OpenClaim := { program := "ytdopfonebpklkaagreat", sum := "ec735c991910b02dd019db14867ae5fe6a26298fe6bc1187debdad88506f20f1", func := "ceilidh/ceilidhlaw10.FoldSwap", spec := "foldSwap", unfollowed := true, recurses := true, plainKeys := false, apart := false, narrowed := true }
def FoldSwapUptoSaid : Prop := foldSwapUptoRow.holds Tryz.pinned (OpenSpec.upto foldSwapSpec)

/-- 'ceilidhlaw10.FoldRosters', WHERE WHAT IT READS IS OF BULK AT MOST 1048576: true; the input reads as it did. -/
def foldRostersUptoRow : OpenClaim := { program := "ytdopfonebpklkaagreat", sum := "ec735c991910b02dd019db14867ae5fe6a26298fe6bc1187debdad88506f20f1", func := "ceilidh/ceilidhlaw10.FoldRosters", spec := "foldRosters", unfollowed := true, recurses := true, plainKeys := false, apart := false, narrowed := true }
def FoldRostersUptoSaid : Prop := foldRostersUptoRow.holds Tryz.pinned (OpenSpec.upto foldRostersSpec)

/-- 'ceilidhlaw21.ModelAsks', WHERE WHAT IT READS IS OF BULK AT MOST 1048576: true; the input reads as it did. -/
def modelAsksUptoRow : OpenClaim := { program := "ytdopfonebpklkaagreat", sum := "ec735c991910b02dd019db14867ae5fe6a26298fe6bc1187debdad88506f20f1", func := "ceilidh/ceilidhlaw21.ModelAsks", spec := "modelAsks", unfollowed := true, recurses := true, plainKeys := false, apart := false, narrowed := true }
def ModelAsksUptoSaid : Prop := modelAsksUptoRow.holds Tryz.pinned (OpenSpec.upto modelAsksSpec)

/-- 'ceilidhlaw21.ModelLogs', WHERE WHAT IT READS IS OF BULK AT MOST 1048576: true; the input reads as it did. -/
def modelLogsUptoRow : OpenClaim := { program := "ytdopfonebpklkaagreat", sum := "ec735c991910b02dd019db14867ae5fe6a26298fe6bc1187debdad88506f20f1", func := "ceilidh/ceilidhlaw21.ModelLogs", spec := "modelLogs", unfollowed := true, recurses := true, plainKeys := false, apart := false, narrowed := true }
def ModelLogsUptoSaid : Prop := modelLogsUptoRow.holds Tryz.pinned (OpenSpec.upto modelLogsSpec)

/-- 'ceilidhlaw21.ModelMoves', WHERE WHAT IT READS IS OF BULK AT MOST 1048576: true; the input reads as it did. -/
def modelMovesUptoRow : OpenClaim := { program := "ytdopfonebpklkaagreat", sum := "ec735c991910b02dd019db14867ae5fe6a26298fe6bc1187debdad88506f20f1", func := "ceilidh/ceilidhlaw21.ModelMoves", spec := "modelMoves", unfollowed := true, recurses := true, plainKeys := false, apart := false, narrowed := true }
def ModelMovesUptoSaid : Prop := modelMovesUptoRow.holds Tryz.pinned (OpenSpec.upto modelMovesSpec)

/-- 'ceilidhlaw15.RingPlays', WHERE WHAT IT READS IS OF BULK AT MOST 1048576: true; the input reads as it did. -/
def ringPlaysUptoRow : OpenClaim := { program := "ytdopfonebpklkaagreat", sum := "ec735c991910b02dd019db14867ae5fe6a26298fe6bc1187debdad88506f20f1", func := "ceilidh/ceilidhlaw15.RingPlays", spec := "ringPlays", unfollowed := true, recurses := true, plainKeys := false, apart := false, narrowed := true }
def RingPlaysUptoSaid : Prop := ringPlaysUptoRow.holds Tryz.pinned (OpenSpec.upto ringPlaysSpec)

/-- 'ceilidhlaw15.RingBounds', WHERE WHAT IT READS IS OF BULK AT MOST 1048576: true; the input reads as it did. -/
def ringBoundsUptoRow : OpenClaim := { program := "ytdopfonebpklkaagreat", sum := "ec735c991910b02dd019db14867ae5fe6a26298fe6bc1187debdad88506f20f1", func := "ceilidh/ceilidhlaw15.RingBounds", spec := "ringBounds", unfollowed := true, recurses := true, plainKeys := false, apart := false, narrowed := true }
def RingBoundsUptoSaid : Prop := ringBoundsUptoRow.holds Tryz.pinned (OpenSpec.upto ringBoundsSpec)

/-- 'ceilidhlaw15.RingOwn', WHERE WHAT IT READS IS OF BULK AT MOST 1048576: true; the input reads as it did. -/
def ringOwnUptoRow : OpenClaim := { program := "ytdopfonebpklkaagreat", sum := "ec735c991910b02dd019db14867ae5fe6a26298fe6bc1187debdad88506f20f1", func := "ceilidh/ceilidhlaw15.RingOwn", spec := "ringOwn", unfollowed := true, recurses := true, plainKeys := false, apart := false, narrowed := true }
def RingOwnUptoSaid : Prop := ringOwnUptoRow.holds Tryz.pinned (OpenSpec.upto ringOwnSpec)

end Rows
end Go.Proofs.YtdopfonebpklkaaGreat
