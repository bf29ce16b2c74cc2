/-
  No cell of these rows narrows 'for every input' (looked for: loops, veiled, ifaces, maps, wideKeys, modest, calm, conditions, laid).
  DERIVED. THE GIVEN ROWS OF THIS SEAT. 7 by the template 'for every input the law returns true; each argument reads behind the call as it read before'; 0 by the template 'total and deterministic' (their statements: YtcjmajfbhmoeaaaTotals.lean).
  GIVEN WITH THE SEED: the statements are not yours to turn. If you find one false, say at which input.
  Laid BY PROGRAM, IN A SANDBOX (cutbox-rows.mjs): the forced cells as the released guide's own fill.sh prints them over the translation 099c7edb3d2125c7… (all of the seat's roots in one cut). By AI agents, Wed Nov 11 2026. No macro, syntax, notation, axiom, sorry.
-/
import Derived.Test.YtcjmajfbhmoeaaaChecked
import GoSem.Claim
import GoSem.ClaimJoined
import GoSem.ClaimMapViews
import Derived.JoinedTies
import Derived.KernelRfl
namespace Go.Proofs.Ytcjmajfbhmoeaaa
/- THE CELL 'sum', in the pinned program and in every row, IS THE sha256 OF THE DUMP (.gsa) THAT YtcjmajfbhmoeaaaProg.lean LOADS. Nothing in Lean hashes anything: it is a label: what it is worth is what the hold of that sum in a sandbox is worth. -/
noncomputable def Try.pinned : Pinned := { name := "ytcjmajfbhmoeaaa", sum := "099c7edb3d2125c7cd8a31f427af40751128665331817196827fbcacb51b8d66", checked := Try.checked }
namespace Rows
def none {H : Type} : Left H := { results := [], args := [] }

/-- 'ceilidhlaw4.DiceGoes': WHATEVER THE INPUT: true; the input reads as it did. -/
def diceGoesSpec : ChangeSpec := { name := "diceGoes", fn := fun _ => fun
  | [d1, d2] => { results := [.lit (.bool true)], args := [d1, d2] }
  | _ => none }
def diceGoesRow : OpenClaim := { program := "ytcjmajfbhmoeaaa", sum := "099c7edb3d2125c7cd8a31f427af40751128665331817196827fbcacb51b8d66", func := "ceilidh/ceilidhlaw4.DiceGoes", spec := "diceGoes", apart := false }
def DiceGoesSaid : Prop := diceGoesRow.holds Try.pinned (OpenSpec.ofChange diceGoesSpec)

/-- ITS FALSE NEIGHBOUR: 'it returns false'. Refute it at one input. -/
def diceGoesWrong : ChangeSpec := { name := "diceGoes", fn := fun _ => fun
  | [d1, d2] => { results := [.lit (.bool false)], args := [d1, d2] }
  | _ => none }
def DiceGoesWrongFalsely : Prop := diceGoesRow.holds Try.pinned (OpenSpec.ofChange diceGoesWrong)

/-- 'ceilidhlaw4.DiceSeeds': WHATEVER THE INPUT: true; the input reads as it did. -/
def diceSeedsSpec : ChangeSpec := { name := "diceSeeds", fn := fun _ => fun
  | [d1, d2, d3] => { results := [.lit (.bool true)], args := [d1, d2, d3] }
  | _ => none }
def diceSeedsRow : OpenClaim := { program := "ytcjmajfbhmoeaaa", sum := "099c7edb3d2125c7cd8a31f427af40751128665331817196827fbcacb51b8d66", func := "ceilidh/ceilidhlaw4.DiceSeeds", spec := "diceSeeds", apart := false }
def DiceSeedsSaid : Prop := diceSeedsRow.holds Try.pinned (OpenSpec.ofChange diceSeedsSpec)

/-- ITS FALSE NEIGHBOUR: 'it returns false'. Refute it at one input. -/
def diceSeedsWrong : ChangeSpec := { name := "diceSeeds", fn := fun _ => fun
  | [d1, d2, d3] => { results := [.lit (.bool false)], args := [d1, d2, d3] }
  | _ => none }
def DiceSeedsWrongFalsely : Prop := diceSeedsRow.holds Try.pinned (OpenSpec.ofChange diceSeedsWrong)

/-- 'ceilidhlaw22.BoundAsks': WHATEVER THE INPUT: true; the input reads as it did. -/
def boundAsksSpec : ChangeSpec := { name := "boundAsks", fn := fun _ => fun
  | [d1, d2, d3] => { results := [.lit (.bool true)], args := [d1, d2, d3] }
  | _ => none }
def boundAsksRow : OpenClaim := { program := "ytcjmajfbhmoeaaa", sum := "099c7edb3d2125c7cd8a31f427af40751128665331817196827fbcacb51b8d66", func := "ceilidh/ceilidhlaw22.BoundAsks", spec := "boundAsks", apart := false }
def BoundAsksSaid : Prop := boundAsksRow.holds Try.pinned (OpenSpec.ofChange boundAsksSpec)

/-- ITS FALSE NEIGHBOUR: 'it returns false'. Refute it at one input. -/
def boundAsksWrong : ChangeSpec := { name := "boundAsks", fn := fun _ => fun
  | [d1, d2, d3] => { results := [.lit (.bool false)], args := [d1, d2, d3] }
  | _ => none }
def BoundAsksWrongFalsely : Prop := boundAsksRow.holds Try.pinned (OpenSpec.ofChange boundAsksWrong)

/-- 'ceilidhlaw22.BoundChunks': WHATEVER THE INPUT: true; the input reads as it did. -/
def boundChunksSpec : ChangeSpec := { name := "boundChunks", fn := fun _ => fun
  | [d1, d2] => { results := [.lit (.bool true)], args := [d1, d2] }
  | _ => none }
def boundChunksRow : OpenClaim := { program := "ytcjmajfbhmoeaaa", sum := "099c7edb3d2125c7cd8a31f427af40751128665331817196827fbcacb51b8d66", func := "ceilidh/ceilidhlaw22.BoundChunks", spec := "boundChunks", apart := false }
def BoundChunksSaid : Prop := boundChunksRow.holds Try.pinned (OpenSpec.ofChange boundChunksSpec)

/-- ITS FALSE NEIGHBOUR: 'it returns false'. Refute it at one input. -/
def boundChunksWrong : ChangeSpec := { name := "boundChunks", fn := fun _ => fun
  | [d1, d2] => { results := [.lit (.bool false)], args := [d1, d2] }
  | _ => none }
def BoundChunksWrongFalsely : Prop := boundChunksRow.holds Try.pinned (OpenSpec.ofChange boundChunksWrong)

/-- 'ceilidhlaw4.DiceAsks': WHATEVER THE INPUT: true; the input reads as it did. -/
def diceAsksSpec : ChangeSpec := { name := "diceAsks", fn := fun _ => fun
  | [d1, d2, d3] => { results := [.lit (.bool true)], args := [d1, d2, d3] }
  | _ => none }
def diceAsksRow : OpenClaim := { program := "ytcjmajfbhmoeaaa", sum := "099c7edb3d2125c7cd8a31f427af40751128665331817196827fbcacb51b8d66", func := "ceilidh/ceilidhlaw4.DiceAsks", spec := "diceAsks", unfollowed := true, recurses := true, apart := false }
def DiceAsksSaid : Prop := diceAsksRow.holds Try.pinned (OpenSpec.ofChange diceAsksSpec)

/-- ITS FALSE NEIGHBOUR: 'it returns false'. Refute it at one input. -/
def diceAsksWrong : ChangeSpec := { name := "diceAsks", fn := fun _ => fun
  | [d1, d2, d3] => { results := [.lit (.bool false)], args := [d1, d2, d3] }
  | _ => none }
def DiceAsksWrongFalsely : Prop := diceAsksRow.holds Try.pinned (OpenSpec.ofChange diceAsksWrong)

/-- 'ceilidhlaw4.DiceRange': WHATEVER THE INPUT: true; the input reads as it did. -/
def diceRangeSpec : ChangeSpec := { name := "diceRange", fn := fun _ => fun
  | [d1, d2] => { results := [.lit (.bool true)], args := [d1, d2] }
  | _ => none }
def diceRangeRow : OpenClaim := { program := "ytcjmajfbhmoeaaa", sum := "099c7edb3d2125c7cd8a31f427af40751128665331817196827fbcacb51b8d66", func := "ceilidh/ceilidhlaw4.DiceRange", spec := "diceRange", unfollowed := true, recurses := true, apart := false }
def DiceRangeSaid : Prop := diceRangeRow.holds Try.pinned (OpenSpec.ofChange diceRangeSpec)

/-- ITS FALSE NEIGHBOUR: 'it returns false'. Refute it at one input. -/
def diceRangeWrong : ChangeSpec := { name := "diceRange", fn := fun _ => fun
  | [d1, d2] => { results := [.lit (.bool false)], args := [d1, d2] }
  | _ => none }
def DiceRangeWrongFalsely : Prop := diceRangeRow.holds Try.pinned (OpenSpec.ofChange diceRangeWrong)

/-- 'ceilidhlaw4.DiceFair': WHATEVER THE INPUT: true; the input reads as it did. -/
def diceFairSpec : ChangeSpec := { name := "diceFair", fn := fun _ => fun
  | [d1, d2] => { results := [.lit (.bool true)], args := [d1, d2] }
  | _ => none }
def diceFairRow : OpenClaim := { program := "ytcjmajfbhmoeaaa", sum := "099c7edb3d2125c7cd8a31f427af40751128665331817196827fbcacb51b8d66", func := "ceilidh/ceilidhlaw4.DiceFair", spec := "diceFair", unfollowed := true, recurses := true, apart := false }
def DiceFairSaid : Prop := diceFairRow.holds Try.pinned (OpenSpec.ofChange diceFairSpec)

/-- ITS FALSE NEIGHBOUR: 'it returns false'. Refute it at one input. -/
def diceFairWrong : ChangeSpec := { name := "diceFair", fn := fun _ => fun
  | [d1, d2] => { results := [.lit (.bool false)], args := [d1, d2] }
  | _ => none }
def DiceFairWrongFalsely : Prop := diceFairRow.holds Try.pinned (OpenSpec.ofChange diceFairWrong)

/- THE SECOND FORM. 'bulk': how many values and letters a reading holds, each counted each time it is reached (what is shared counts as often as it is met; a slice's spare places count too). A statement '..UptoSaid' is the law's where the arguments, and the package variables that the reading takes, are together of bulk at most 1048576: NARROWER than '..Said'. Prove '..Said' where nothing that the law and all that it calls make is longer than what came in: it says more and counts as full. Else prove '..UptoSaid'. A law counts once. -/
mutual
def uptoBulk {H : Type} : DataW H → Nat
  | .lit (.string bytes) => bytes.length + 1
  | .lit _ => 1
  | .nil => 1
  | .ptr d => uptoBulk d + 1
  | .slice elems spare => uptoBulkAll elems + uptoBulkAll spare + 1
  | .agg parts => uptoBulkAll parts + 1
  | .iface _ d => uptoBulk d + 1
  | .map entries => uptoBulkEntries entries + 1
  | .held _ => 1
def uptoBulkAll {H : Type} : List (DataW H) → Nat
  | [] => 0
  | d :: r => uptoBulk d + uptoBulkAll r
def uptoBulkEntries {H : Type} : List (Lit × DataW H) → Nat
  | [] => 0
  | x :: r => uptoBulkEntry x + uptoBulkEntries r
def uptoBulkEntry {H : Type} : Lit × DataW H → Nat
  | (.string bytes, d) => bytes.length + uptoBulk d + 1
  | (_, d) => uptoBulk d + 1
 end
def uptoSmall : (H : Type) → List (DataW H) → Bool := fun _ ds => decide (uptoBulkAll ds ≤ 1048576)
def OpenSpec.upto (s : _root_.Go.ChangeSpec) : _root_.Go.OpenSpec := { _root_.Go.OpenSpec.ofChange s with cond := some uptoSmall }

/-- 'ceilidhlaw4.DiceGoes', WHERE WHAT IT READS IS OF BULK AT MOST 1048576: true; the input reads as it did. -/
def diceGoesUptoRow : OpenClaim := { program := "ytcjmajfbhmoeaaa", sum := "099c7edb3d2125c7cd8a31f427af40751128665331817196827fbcacb51b8d66", func := "ceilidh/ceilidhlaw4.DiceGoes", spec := "diceGoes", apart := false, narrowed := true }
def DiceGoesUptoSaid : Prop := diceGoesUptoRow.holds Try.pinned (OpenSpec.upto diceGoesSpec)

/-- 'ceilidhlaw4.DiceSeeds', WHERE WHAT IT READS IS OF BULK AT MOST 1048576: true; the input reads as it did. -/
def diceSeedsUptoRow : OpenClaim := { program := "ytcjmajfbhmoeaaa", sum := "099c7edb3d2125c7cd8a31f427af40751128665331817196827fbcacb51b8d66", func := "ceilidh/ceilidhlaw4.DiceSeeds", spec := "diceSeeds", apart := false, narrowed := true }
def DiceSeedsUptoSaid : Prop := diceSeedsUptoRow.holds Try.pinned (OpenSpec.upto diceSeedsSpec)

/-- 'ceilidhlaw22.BoundAsks', WHERE WHAT IT READS IS OF BULK AT MOST 1048576: true; the input reads as it did. -/
def boundAsksUptoRow : OpenClaim := { program := "ytcjmajfbhmoeaaa", sum := "099c7edb3d2125c7cd8a31f427af40751128665331817196827fbcacb51b8d66", func := "ceilidh/ceilidhlaw22.BoundAsks", spec := "boundAsks", apart := false, narrowed := true }
def BoundAsksUptoSaid : Prop := boundAsksUptoRow.holds Try.pinned (OpenSpec.upto boundAsksSpec)

/-- 'ceilidhlaw22.BoundChunks', WHERE WHAT IT READS IS OF BULK AT MOST 1048576: true; the input reads as it did. -/
def boundChunksUptoRow : OpenClaim := { program := "ytcjmajfbhmoeaaa", sum := "099c7edb3d2125c7cd8a31f427af40751128665331817196827fbcacb51b8d66", func := "ceilidh/ceilidhlaw22.BoundChunks", spec := "boundChunks", apart := false, narrowed := true }
def BoundChunksUptoSaid : Prop := boundChunksUptoRow.holds Try.pinned (OpenSpec.upto boundChunksSpec)

/-- 'ceilidhlaw4.DiceAsks', WHERE WHAT IT READS IS OF BULK AT MOST 1048576: true; the input reads as it did. -/
def diceAsksUptoRow : OpenClaim := { program := "ytcjmajfbhmoeaaa", sum := "099c7edb3d2125c7cd8a31f427af40751128665331817196827fbcacb51b8d66", func := "ceilidh/ceilidhlaw4.DiceAsks", spec := "diceAsks", unfollowed := true, recurses := true, apart := false, narrowed := true }
def DiceAsksUptoSaid : Prop := diceAsksUptoRow.holds Try.pinned (OpenSpec.upto diceAsksSpec)

/-- 'ceilidhlaw4.DiceRange', WHERE WHAT IT READS IS OF BULK AT MOST 1048576: true; the input reads as it did. -/
def diceRangeUptoRow : OpenClaim := { program := "ytcjmajfbhmoeaaa", sum := "099c7edb3d2125c7cd8a31f427af40751128665331817196827fbcacb51b8d66", func := "ceilidh/ceilidhlaw4.DiceRange", spec := "diceRange", unfollowed := true, recurses := true, apart := false, narrowed := true }
def DiceRangeUptoSaid : Prop := diceRangeUptoRow.holds Try.pinned (OpenSpec.upto diceRangeSpec)

/-- 'ceilidhlaw4.DiceFair', WHERE WHAT IT READS IS OF BULK AT MOST 1048576: true; the input reads as it did. -/
def diceFairUptoRow : OpenClaim := { program := "ytcjmajfbhmoeaaa", sum := "099c7edb3d2125c7cd8a31f427af40751128665331817196827fbcacb51b8d66", func := "ceilidh/ceilidhlaw4.DiceFair", spec := "diceFair", unfollowed := true, recurses := true, apart := false, narrowed := true }
def DiceFairUptoSaid : Prop := diceFairUptoRow.holds Try.pinned (OpenSpec.upto diceFairSpec)

end Rows
end Go.Proofs.Ytcjmajfbhmoeaaa
