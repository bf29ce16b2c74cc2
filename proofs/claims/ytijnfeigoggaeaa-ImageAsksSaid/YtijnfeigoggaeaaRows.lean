/-
  No cell of these rows narrows 'for every input' (looked for: loops, veiled, ifaces, maps, wideKeys, modest, calm, conditions, laid).
  DERIVED. THE GIVEN ROWS OF THIS SEAT. 11 by the template 'for every input the law returns true; each argument reads behind the call as it read before'; 0 by the template 'total and deterministic' (their statements: YtijnfeigoggaeaaTotals.lean).
  GIVEN WITH THE SEED: the statements are not yours to turn. If you find one false, say at which input.
  Laid BY PROGRAM, IN A SANDBOX (cutbox-rows.mjs): the forced cells as the released guide's own fill.sh prints them over the translation 69920a29c3f5bc39… (all of the seat's roots in one cut). By AI agents, Wed Nov 11 2026. No macro, syntax, notation, axiom, sorry.
-/
import Derived.Test.YtijnfeigoggaeaaChecked
import GoSem.Claim
import GoSem.ClaimJoined
import GoSem.ClaimMapViews
import Derived.JoinedTies
import Derived.KernelRfl
namespace Go.Proofs.Ytijnfeigoggaeaa
/- THE CELL 'sum', in the pinned program and in every row, IS THE sha256 OF THE DUMP (.gsa) THAT YtijnfeigoggaeaaProg.lean LOADS. Nothing in Lean hashes anything: it is a label: what it is worth is what the hold of that sum in a sandbox is worth. -/
noncomputable def Try.pinned : Pinned := { name := "ytijnfeigoggaeaa", sum := "69920a29c3f5bc39bb7e2ae1963206944d855b276a35b6aa930eae44245ddf8f", checked := Try.checked }
namespace Rows
def none {H : Type} : Left H := { results := [], args := [] }

/-- 'ceilidhlaw7.ImageAsks': WHATEVER THE INPUT: true; the input reads as it did. -/
def imageAsksSpec : ChangeSpec := { name := "imageAsks", fn := fun _ => fun
  | [d1, d2] => { results := [.lit (.bool true)], args := [d1, d2] }
  | _ => none }
def imageAsksRow : OpenClaim := { program := "ytijnfeigoggaeaa", sum := "69920a29c3f5bc39bb7e2ae1963206944d855b276a35b6aa930eae44245ddf8f", func := "ceilidh/ceilidhlaw7.ImageAsks", spec := "imageAsks", unfollowed := true, recurses := true, apart := false }
def ImageAsksSaid : Prop := imageAsksRow.holds Try.pinned (OpenSpec.ofChange imageAsksSpec)

/-- ITS FALSE NEIGHBOUR: 'it returns false'. Refute it at one input. -/
def imageAsksWrong : ChangeSpec := { name := "imageAsks", fn := fun _ => fun
  | [d1, d2] => { results := [.lit (.bool false)], args := [d1, d2] }
  | _ => none }
def ImageAsksWrongFalsely : Prop := imageAsksRow.holds Try.pinned (OpenSpec.ofChange imageAsksWrong)

/-- 'ceilidhlaw7.ImageBack': WHATEVER THE INPUT: true; the input reads as it did. -/
def imageBackSpec : ChangeSpec := { name := "imageBack", fn := fun _ => fun
  | [d1, d2, d3] => { results := [.lit (.bool true)], args := [d1, d2, d3] }
  | _ => none }
def imageBackRow : OpenClaim := { program := "ytijnfeigoggaeaa", sum := "69920a29c3f5bc39bb7e2ae1963206944d855b276a35b6aa930eae44245ddf8f", func := "ceilidh/ceilidhlaw7.ImageBack", spec := "imageBack", unfollowed := true, recurses := true, apart := false }
def ImageBackSaid : Prop := imageBackRow.holds Try.pinned (OpenSpec.ofChange imageBackSpec)

/-- ITS FALSE NEIGHBOUR: 'it returns false'. Refute it at one input. -/
def imageBackWrong : ChangeSpec := { name := "imageBack", fn := fun _ => fun
  | [d1, d2, d3] => { results := [.lit (.bool false)], args := [d1, d2, d3] }
  | _ => none }
def ImageBackWrongFalsely : Prop := imageBackRow.holds Try.pinned (OpenSpec.ofChange imageBackWrong)

/-- 'ceilidhlaw7.ImageLong': WHATEVER THE INPUT: true; the input reads as it did. -/
def imageLongSpec : ChangeSpec := { name := "imageLong", fn := fun _ => fun
  | [d] => { results := [.lit (.bool true)], args := [d] }
  | _ => none }
def imageLongRow : OpenClaim := { program := "ytijnfeigoggaeaa", sum := "69920a29c3f5bc39bb7e2ae1963206944d855b276a35b6aa930eae44245ddf8f", func := "ceilidh/ceilidhlaw7.ImageLong", spec := "imageLong", unfollowed := true, recurses := true, apart := false }
def ImageLongSaid : Prop := imageLongRow.holds Try.pinned (OpenSpec.ofChange imageLongSpec)

/-- ITS FALSE NEIGHBOUR: 'it returns false'. Refute it at one input. -/
def imageLongWrong : ChangeSpec := { name := "imageLong", fn := fun _ => fun
  | [d] => { results := [.lit (.bool false)], args := [d] }
  | _ => none }
def ImageLongWrongFalsely : Prop := imageLongRow.holds Try.pinned (OpenSpec.ofChange imageLongWrong)

/-- 'ceilidhlaw7.ImageSeats': WHATEVER THE INPUT: true; the input reads as it did. -/
def imageSeatsSpec : ChangeSpec := { name := "imageSeats", fn := fun _ => fun
  | [d1, d2] => { results := [.lit (.bool true)], args := [d1, d2] }
  | _ => none }
def imageSeatsRow : OpenClaim := { program := "ytijnfeigoggaeaa", sum := "69920a29c3f5bc39bb7e2ae1963206944d855b276a35b6aa930eae44245ddf8f", func := "ceilidh/ceilidhlaw7.ImageSeats", spec := "imageSeats", unfollowed := true, recurses := true, apart := false }
def ImageSeatsSaid : Prop := imageSeatsRow.holds Try.pinned (OpenSpec.ofChange imageSeatsSpec)

/-- ITS FALSE NEIGHBOUR: 'it returns false'. Refute it at one input. -/
def imageSeatsWrong : ChangeSpec := { name := "imageSeats", fn := fun _ => fun
  | [d1, d2] => { results := [.lit (.bool false)], args := [d1, d2] }
  | _ => none }
def ImageSeatsWrongFalsely : Prop := imageSeatsRow.holds Try.pinned (OpenSpec.ofChange imageSeatsWrong)

/-- 'ceilidhlaw6.GamePlays': WHATEVER THE INPUT: true; the input reads as it did. -/
def gamePlaysSpec : ChangeSpec := { name := "gamePlays", fn := fun _ => fun
  | [d1, d2, d3] => { results := [.lit (.bool true)], args := [d1, d2, d3] }
  | _ => none }
def gamePlaysRow : OpenClaim := { program := "ytijnfeigoggaeaa", sum := "69920a29c3f5bc39bb7e2ae1963206944d855b276a35b6aa930eae44245ddf8f", func := "ceilidh/ceilidhlaw6.GamePlays", spec := "gamePlays", unfollowed := true, recurses := true, apart := false }
def GamePlaysSaid : Prop := gamePlaysRow.holds Try.pinned (OpenSpec.ofChange gamePlaysSpec)

/-- ITS FALSE NEIGHBOUR: 'it returns false'. Refute it at one input. -/
def gamePlaysWrong : ChangeSpec := { name := "gamePlays", fn := fun _ => fun
  | [d1, d2, d3] => { results := [.lit (.bool false)], args := [d1, d2, d3] }
  | _ => none }
def GamePlaysWrongFalsely : Prop := gamePlaysRow.holds Try.pinned (OpenSpec.ofChange gamePlaysWrong)

/-- 'ceilidhlaw6.GameMay': WHATEVER THE INPUT: true; the input reads as it did. -/
def gameMaySpec : ChangeSpec := { name := "gameMay", fn := fun _ => fun
  | [d1, d2, d3] => { results := [.lit (.bool true)], args := [d1, d2, d3] }
  | _ => none }
def gameMayRow : OpenClaim := { program := "ytijnfeigoggaeaa", sum := "69920a29c3f5bc39bb7e2ae1963206944d855b276a35b6aa930eae44245ddf8f", func := "ceilidh/ceilidhlaw6.GameMay", spec := "gameMay", unfollowed := true, recurses := true, apart := false }
def GameMaySaid : Prop := gameMayRow.holds Try.pinned (OpenSpec.ofChange gameMaySpec)

/-- ITS FALSE NEIGHBOUR: 'it returns false'. Refute it at one input. -/
def gameMayWrong : ChangeSpec := { name := "gameMay", fn := fun _ => fun
  | [d1, d2, d3] => { results := [.lit (.bool false)], args := [d1, d2, d3] }
  | _ => none }
def GameMayWrongFalsely : Prop := gameMayRow.holds Try.pinned (OpenSpec.ofChange gameMayWrong)

/-- 'ceilidhlaw6.GameSlots': WHATEVER THE INPUT: true; the input reads as it did. -/
def gameSlotsSpec : ChangeSpec := { name := "gameSlots", fn := fun _ => fun
  | [d1, d2, d3] => { results := [.lit (.bool true)], args := [d1, d2, d3] }
  | _ => none }
def gameSlotsRow : OpenClaim := { program := "ytijnfeigoggaeaa", sum := "69920a29c3f5bc39bb7e2ae1963206944d855b276a35b6aa930eae44245ddf8f", func := "ceilidh/ceilidhlaw6.GameSlots", spec := "gameSlots", unfollowed := true, recurses := true, apart := false }
def GameSlotsSaid : Prop := gameSlotsRow.holds Try.pinned (OpenSpec.ofChange gameSlotsSpec)

/-- ITS FALSE NEIGHBOUR: 'it returns false'. Refute it at one input. -/
def gameSlotsWrong : ChangeSpec := { name := "gameSlots", fn := fun _ => fun
  | [d1, d2, d3] => { results := [.lit (.bool false)], args := [d1, d2, d3] }
  | _ => none }
def GameSlotsWrongFalsely : Prop := gameSlotsRow.holds Try.pinned (OpenSpec.ofChange gameSlotsWrong)

/-- 'ceilidhlaw6.GameEnd': WHATEVER THE INPUT: true; the input reads as it did. -/
def gameEndSpec : ChangeSpec := { name := "gameEnd", fn := fun _ => fun
  | [d1, d2] => { results := [.lit (.bool true)], args := [d1, d2] }
  | _ => none }
def gameEndRow : OpenClaim := { program := "ytijnfeigoggaeaa", sum := "69920a29c3f5bc39bb7e2ae1963206944d855b276a35b6aa930eae44245ddf8f", func := "ceilidh/ceilidhlaw6.GameEnd", spec := "gameEnd", unfollowed := true, recurses := true, apart := false }
def GameEndSaid : Prop := gameEndRow.holds Try.pinned (OpenSpec.ofChange gameEndSpec)

/-- ITS FALSE NEIGHBOUR: 'it returns false'. Refute it at one input. -/
def gameEndWrong : ChangeSpec := { name := "gameEnd", fn := fun _ => fun
  | [d1, d2] => { results := [.lit (.bool false)], args := [d1, d2] }
  | _ => none }
def GameEndWrongFalsely : Prop := gameEndRow.holds Try.pinned (OpenSpec.ofChange gameEndWrong)

/-- 'ceilidhlaw6.GameAlone': WHATEVER THE INPUT: true; the input reads as it did. -/
def gameAloneSpec : ChangeSpec := { name := "gameAlone", fn := fun _ => fun
  | [d1, d2, d3] => { results := [.lit (.bool true)], args := [d1, d2, d3] }
  | _ => none }
def gameAloneRow : OpenClaim := { program := "ytijnfeigoggaeaa", sum := "69920a29c3f5bc39bb7e2ae1963206944d855b276a35b6aa930eae44245ddf8f", func := "ceilidh/ceilidhlaw6.GameAlone", spec := "gameAlone", unfollowed := true, recurses := true, apart := false }
def GameAloneSaid : Prop := gameAloneRow.holds Try.pinned (OpenSpec.ofChange gameAloneSpec)

/-- ITS FALSE NEIGHBOUR: 'it returns false'. Refute it at one input. -/
def gameAloneWrong : ChangeSpec := { name := "gameAlone", fn := fun _ => fun
  | [d1, d2, d3] => { results := [.lit (.bool false)], args := [d1, d2, d3] }
  | _ => none }
def GameAloneWrongFalsely : Prop := gameAloneRow.holds Try.pinned (OpenSpec.ofChange gameAloneWrong)

/-- 'ceilidhlaw6.GameShots': WHATEVER THE INPUT: true; the input reads as it did. -/
def gameShotsSpec : ChangeSpec := { name := "gameShots", fn := fun _ => fun
  | [d1, d2, d3, d4] => { results := [.lit (.bool true)], args := [d1, d2, d3, d4] }
  | _ => none }
def gameShotsRow : OpenClaim := { program := "ytijnfeigoggaeaa", sum := "69920a29c3f5bc39bb7e2ae1963206944d855b276a35b6aa930eae44245ddf8f", func := "ceilidh/ceilidhlaw6.GameShots", spec := "gameShots", unfollowed := true, recurses := true, apart := false }
def GameShotsSaid : Prop := gameShotsRow.holds Try.pinned (OpenSpec.ofChange gameShotsSpec)

/-- ITS FALSE NEIGHBOUR: 'it returns false'. Refute it at one input. -/
def gameShotsWrong : ChangeSpec := { name := "gameShots", fn := fun _ => fun
  | [d1, d2, d3, d4] => { results := [.lit (.bool false)], args := [d1, d2, d3, d4] }
  | _ => none }
def GameShotsWrongFalsely : Prop := gameShotsRow.holds Try.pinned (OpenSpec.ofChange gameShotsWrong)

/-- 'ceilidhlaw6.GameHit': WHATEVER THE INPUT: true; the input reads as it did. -/
def gameHitSpec : ChangeSpec := { name := "gameHit", fn := fun _ => fun
  | [d1, d2, d3, d4, d5] => { results := [.lit (.bool true)], args := [d1, d2, d3, d4, d5] }
  | _ => none }
def gameHitRow : OpenClaim := { program := "ytijnfeigoggaeaa", sum := "69920a29c3f5bc39bb7e2ae1963206944d855b276a35b6aa930eae44245ddf8f", func := "ceilidh/ceilidhlaw6.GameHit", spec := "gameHit", unfollowed := true, recurses := true, apart := false }
def GameHitSaid : Prop := gameHitRow.holds Try.pinned (OpenSpec.ofChange gameHitSpec)

/-- ITS FALSE NEIGHBOUR: 'it returns false'. Refute it at one input. -/
def gameHitWrong : ChangeSpec := { name := "gameHit", fn := fun _ => fun
  | [d1, d2, d3, d4, d5] => { results := [.lit (.bool false)], args := [d1, d2, d3, d4, d5] }
  | _ => none }
def GameHitWrongFalsely : Prop := gameHitRow.holds Try.pinned (OpenSpec.ofChange gameHitWrong)

/- THE SECOND FORM. 'bulk': how many values and letters a reading holds, each counted each time it is reached (what is shared counts as often as it is met; a slice's spare places count too). A statement '..UptoSaid' is the law's where the arguments, and the package variables that the reading takes, are together of bulk at most 1048576: NARROWER than '..Said'. Prove '..Said' where nothing that the law and all that it calls make is longer than what came in: it says more and counts as full. Else prove '..UptoSaid'. A law counts once. -/
mutual
def uptoBulk {H : Type} : DataW H → Nat
  | .lit (.string bytes) => bytes.length + 1
  | .lit _ => 1
  | .nil => 1
  | .ptr d => uptoBulk d + 1
  | .slice elems spare => uptoBulkAll elems + uptoBulkAll spare + 1
  | .agg parts => uptoBulkAll parts + 1
  | .iface _ d => uptoBulk d + 1
  | .map entries => uptoBulkEntries entries + 1
  | .held _ => 1
def uptoBulkAll {H : Type} : List (DataW H) → Nat
  | [] => 0
  | d :: r => uptoBulk d + uptoBulkAll r
def uptoBulkEntries {H : Type} : List (Lit × DataW H) → Nat
  | [] => 0
  | x :: r => uptoBulkEntry x + uptoBulkEntries r
def uptoBulkEntry {H : Type} : Lit × DataW H → Nat
  | (.string bytes, d) => bytes.length + uptoBulk d + 1
  | (_, d) => uptoBulk d + 1
 end
def uptoSmall : (H : Type) → List (DataW H) → Bool := fun _ ds => decide (uptoBulkAll ds ≤ 1048576)
def OpenSpec.upto (s : _root_.Go.ChangeSpec) : _root_.Go.OpenSpec := { _root_.Go.OpenSpec.ofChange s with cond := some uptoSmall }

/-- 'ceilidhlaw7.ImageAsks', WHERE WHAT IT READS IS OF BULK AT MOST 1048576: true; the input reads as it did. -/
def imageAsksUptoRow : OpenClaim := { program := "ytijnfeigoggaeaa", sum := "69920a29c3f5bc39bb7e2ae1963206944d855b276a35b6aa930eae44245ddf8f", func := "ceilidh/ceilidhlaw7.ImageAsks", spec := "imageAsks", unfollowed := true, recurses := true, apart := false, narrowed := true }
def ImageAsksUptoSaid : Prop := imageAsksUptoRow.holds Try.pinned (OpenSpec.upto imageAsksSpec)

/-- 'ceilidhlaw7.ImageBack', WHERE WHAT IT READS IS OF BULK AT MOST 1048576: true; the input reads as it did. -/
def imageBackUptoRow : OpenClaim := { program := "ytijnfeigoggaeaa", sum := "69920a29c3f5bc39bb7e2ae1963206944d855b276a35b6aa930eae44245ddf8f", func := "ceilidh/ceilidhlaw7.ImageBack", spec := "imageBack", unfollowed := true, recurses := true, apart := false, narrowed := true }
def ImageBackUptoSaid : Prop := imageBackUptoRow.holds Try.pinned (OpenSpec.upto imageBackSpec)

/-- 'ceilidhlaw7.ImageLong', WHERE WHAT IT READS IS OF BULK AT MOST 1048576: true; the input reads as it did. -/
def imageLongUptoRow : OpenClaim := { program := "ytijnfeigoggaeaa", sum := "69920a29c3f5bc39bb7e2ae1963206944d855b276a35b6aa930eae44245ddf8f", func := "ceilidh/ceilidhlaw7.ImageLong", spec := "imageLong", unfollowed := true, recurses := true, apart := false, narrowed := true }
def ImageLongUptoSaid : Prop := imageLongUptoRow.holds Try.pinned (OpenSpec.upto imageLongSpec)

/-- 'ceilidhlaw7.ImageSeats', WHERE WHAT IT READS IS OF BULK AT MOST 1048576: true; the input reads as it did. -/
def imageSeatsUptoRow : OpenClaim := { program := "ytijnfeigoggaeaa", sum := "69920a29c3f5bc39bb7e2ae1963206944d855b276a35b6aa930eae44245ddf8f", func := "ceilidh/ceilidhlaw7.ImageSeats", spec := "imageSeats", unfollowed := true, recurses := true, apart := false, narrowed := true }
def ImageSeatsUptoSaid : Prop := imageSeatsUptoRow.holds Try.pinned (OpenSpec.upto imageSeatsSpec)

/-- 'ceilidhlaw6.GamePlays', WHERE WHAT IT READS IS OF BULK AT MOST 1048576: true; the input reads as it did. -/
def gamePlaysUptoRow : OpenClaim := { program := "ytijnfeigoggaeaa", sum := "69920a29c3f5bc39bb7e2ae1963206944d855b276a35b6aa930eae44245ddf8f", func := "ceilidh/ceilidhlaw6.GamePlays", spec := "gamePlays", unfollowed := true, recurses := true, apart := false, narrowed := true }
def GamePlaysUptoSaid : Prop := gamePlaysUptoRow.holds Try.pinned (OpenSpec.upto gamePlaysSpec)

/-- 'ceilidhlaw6.GameMay', WHERE WHAT IT READS IS OF BULK AT MOST 1048576: true; the input reads as it did. -/
def gameMayUptoRow : OpenClaim := { program := "ytijnfeigoggaeaa", sum := "69920a29c3f5bc39bb7e2ae1963206944d855b276a35b6aa930eae44245ddf8f", func := "ceilidh/ceilidhlaw6.GameMay", spec := "gameMay", unfollowed := true, recurses := true, apart := false, narrowed := true }
def GameMayUptoSaid : Prop := gameMayUptoRow.holds Try.pinned (OpenSpec.upto gameMaySpec)

/-- 'ceilidhlaw6.GameSlots', WHERE WHAT IT READS IS OF BULK AT MOST 1048576: true; the input reads as it did. -/
def gameSlotsUptoRow : OpenClaim := { program := "ytijnfeigoggaeaa", sum := "69920a29c3f5bc39bb7e2ae1963206944d855b276a35b6aa930eae44245ddf8f", func := "ceilidh/ceilidhlaw6.GameSlots", spec := "gameSlots", unfollowed := true, recurses := true, apart := false, narrowed := true }
def GameSlotsUptoSaid : Prop := gameSlotsUptoRow.holds Try.pinned (OpenSpec.upto gameSlotsSpec)

/-- 'ceilidhlaw6.GameEnd', WHERE WHAT IT READS IS OF BULK AT MOST 1048576: true; the input reads as it did. -/
def gameEndUptoRow : OpenClaim := { program := "ytijnfeigoggaeaa", sum := "69920a29c3f5bc39bb7e2ae1963206944d855b276a35b6aa930eae44245ddf8f", func := "ceilidh/ceilidhlaw6.GameEnd", spec := "gameEnd", unfollowed := true, recurses := true, apart := false, narrowed := true }
def GameEndUptoSaid : Prop := gameEndUptoRow.holds Try.pinned (OpenSpec.upto gameEndSpec)

/-- 'ceilidhlaw6.GameAlone', WHERE WHAT IT READS IS OF BULK AT MOST 1048576: true; the input reads as it did. -/
def gameAloneUptoRow : OpenClaim := { program := "ytijnfeigoggaeaa", sum := "69920a29c3f5bc39bb7e2ae1963206944d855b276a35b6aa930eae44245ddf8f", func := "ceilidh/ceilidhlaw6.GameAlone", spec := "gameAlone", unfollowed := true, recurses := true, apart := false, narrowed := true }
def GameAloneUptoSaid : Prop := gameAloneUptoRow.holds Try.pinned (OpenSpec.upto gameAloneSpec)

/-- 'ceilidhlaw6.GameShots', WHERE WHAT IT READS IS OF BULK AT MOST 1048576: true; the input reads as it did. -/
def gameShotsUptoRow : OpenClaim := { program := "ytijnfeigoggaeaa", sum := "69920a29c3f5bc39bb7e2ae1963206944d855b276a35b6aa930eae44245ddf8f", func := "ceilidh/ceilidhlaw6.GameShots", spec := "gameShots", unfollowed := true, recurses := true, apart := false, narrowed := true }
def GameShotsUptoSaid : Prop := gameShotsUptoRow.holds Try.pinned (OpenSpec.upto gameShotsSpec)

/-- 'ceilidhlaw6.GameHit', WHERE WHAT IT READS IS OF BULK AT MOST 1048576: true; the input reads as it did. -/
def gameHitUptoRow : OpenClaim := { program := "ytijnfeigoggaeaa", sum := "69920a29c3f5bc39bb7e2ae1963206944d855b276a35b6aa930eae44245ddf8f", func := "ceilidh/ceilidhlaw6.GameHit", spec := "gameHit", unfollowed := true, recurses := true, apart := false, narrowed := true }
def GameHitUptoSaid : Prop := gameHitUptoRow.holds Try.pinned (OpenSpec.upto gameHitSpec)

end Rows
end Go.Proofs.Ytijnfeigoggaeaa
