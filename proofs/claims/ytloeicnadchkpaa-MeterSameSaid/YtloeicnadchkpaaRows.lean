/-
  No cell of these rows narrows 'for every input' (looked for: loops, veiled, ifaces, maps, wideKeys, modest, calm, conditions, laid).
  DERIVED. THE GIVEN ROWS OF THIS SEAT. 24 by the template 'for every input the law returns true; each argument reads behind the call as it read before'; 0 by the template 'total and deterministic' (their statements: YtloeicnadchkpaaTotals.lean).
  GIVEN WITH THE SEED: the statements are not yours to turn. If you find one false, say at which input.
  Laid BY PROGRAM, IN A SANDBOX (cutbox-rows.mjs): the forced cells as the released guide's own fill.sh prints them over the translation eb94b30fc9652cf9… (all of the seat's roots in one cut). By AI agents, Wed Nov 11 2026. No macro, syntax, notation, axiom, sorry.
-/
import Derived.Test.YtloeicnadchkpaaChecked
import GoSem.Claim
import GoSem.ClaimJoined
import GoSem.ClaimMapViews
import Derived.JoinedTies
import Derived.KernelRfl
namespace Go.Proofs.Ytloeicnadchkpaa
/- THE CELL 'sum', in the pinned program and in every row, IS THE sha256 OF THE DUMP (.gsa) THAT YtloeicnadchkpaaProg.lean LOADS. Nothing in Lean hashes anything: it is a label: what it is worth is what the hold of that sum in a sandbox is worth. -/
noncomputable def Try.pinned : Pinned := { name := "ytloeicnadchkpaa", sum := "eb94b30fc9652cf909dc0ac45ecbbd320948047a7ffa64142467f2d30da2c6ae", checked := Try.checked }
namespace Rows
def none {H : Type} : Left H := { results := [], args := [] }

/-- 'backstitchlaw11.ReachTells': WHATEVER THE INPUT: true; the input reads as it did. -/
def reachTellsSpec : ChangeSpec := { name := "reachTells", fn := fun _ => fun
  | [d1, d2] => { results := [.lit (.bool true)], args := [d1, d2] }
  | _ => none }
def reachTellsRow : OpenClaim := { program := "ytloeicnadchkpaa", sum := "eb94b30fc9652cf909dc0ac45ecbbd320948047a7ffa64142467f2d30da2c6ae", func := "backstitch/backstitchlaw11.ReachTells", spec := "reachTells", apart := false }
def ReachTellsSaid : Prop := reachTellsRow.holds Try.pinned (OpenSpec.ofChange reachTellsSpec)

/-- ITS FALSE NEIGHBOUR: 'it returns false'. Refute it at one input. -/
def reachTellsWrong : ChangeSpec := { name := "reachTells", fn := fun _ => fun
  | [d1, d2] => { results := [.lit (.bool false)], args := [d1, d2] }
  | _ => none }
def ReachTellsWrongFalsely : Prop := reachTellsRow.holds Try.pinned (OpenSpec.ofChange reachTellsWrong)

/-- 'backstitchlaw11.ReachKnown': WHATEVER THE INPUT: true; the input reads as it did. -/
def reachKnownSpec : ChangeSpec := { name := "reachKnown", fn := fun _ => fun
  | [] => { results := [.lit (.bool true)], args := [] }
  | _ => none }
def reachKnownRow : OpenClaim := { program := "ytloeicnadchkpaa", sum := "eb94b30fc9652cf909dc0ac45ecbbd320948047a7ffa64142467f2d30da2c6ae", func := "backstitch/backstitchlaw11.ReachKnown", spec := "reachKnown", apart := false }
def ReachKnownSaid : Prop := reachKnownRow.holds Try.pinned (OpenSpec.ofChange reachKnownSpec)

/-- ITS FALSE NEIGHBOUR: 'it returns false'. Refute it at one input. -/
def reachKnownWrong : ChangeSpec := { name := "reachKnown", fn := fun _ => fun
  | [] => { results := [.lit (.bool false)], args := [] }
  | _ => none }
def ReachKnownWrongFalsely : Prop := reachKnownRow.holds Try.pinned (OpenSpec.ofChange reachKnownWrong)

/-- 'backstitchlaw11.ReachCounts': WHATEVER THE INPUT: true; the input reads as it did. -/
def reachCountsSpec : ChangeSpec := { name := "reachCounts", fn := fun _ => fun
  | [d1, d2] => { results := [.lit (.bool true)], args := [d1, d2] }
  | _ => none }
def reachCountsRow : OpenClaim := { program := "ytloeicnadchkpaa", sum := "eb94b30fc9652cf909dc0ac45ecbbd320948047a7ffa64142467f2d30da2c6ae", func := "backstitch/backstitchlaw11.ReachCounts", spec := "reachCounts", apart := false }
def ReachCountsSaid : Prop := reachCountsRow.holds Try.pinned (OpenSpec.ofChange reachCountsSpec)

/-- ITS FALSE NEIGHBOUR: 'it returns false'. Refute it at one input. -/
def reachCountsWrong : ChangeSpec := { name := "reachCounts", fn := fun _ => fun
  | [d1, d2] => { results := [.lit (.bool false)], args := [d1, d2] }
  | _ => none }
def ReachCountsWrongFalsely : Prop := reachCountsRow.holds Try.pinned (OpenSpec.ofChange reachCountsWrong)

/-- 'backstitchlaw11.ReachRoots': WHATEVER THE INPUT: true; the input reads as it did. -/
def reachRootsSpec : ChangeSpec := { name := "reachRoots", fn := fun _ => fun
  | [d1, d2] => { results := [.lit (.bool true)], args := [d1, d2] }
  | _ => none }
def reachRootsRow : OpenClaim := { program := "ytloeicnadchkpaa", sum := "eb94b30fc9652cf909dc0ac45ecbbd320948047a7ffa64142467f2d30da2c6ae", func := "backstitch/backstitchlaw11.ReachRoots", spec := "reachRoots", apart := false }
def ReachRootsSaid : Prop := reachRootsRow.holds Try.pinned (OpenSpec.ofChange reachRootsSpec)

/-- ITS FALSE NEIGHBOUR: 'it returns false'. Refute it at one input. -/
def reachRootsWrong : ChangeSpec := { name := "reachRoots", fn := fun _ => fun
  | [d1, d2] => { results := [.lit (.bool false)], args := [d1, d2] }
  | _ => none }
def ReachRootsWrongFalsely : Prop := reachRootsRow.holds Try.pinned (OpenSpec.ofChange reachRootsWrong)

/-- 'backstitchlaw11.ReachChains': WHATEVER THE INPUT: true; the input reads as it did. -/
def reachChainsSpec : ChangeSpec := { name := "reachChains", fn := fun _ => fun
  | [d1, d2, d3] => { results := [.lit (.bool true)], args := [d1, d2, d3] }
  | _ => none }
def reachChainsRow : OpenClaim := { program := "ytloeicnadchkpaa", sum := "eb94b30fc9652cf909dc0ac45ecbbd320948047a7ffa64142467f2d30da2c6ae", func := "backstitch/backstitchlaw11.ReachChains", spec := "reachChains", apart := false }
def ReachChainsSaid : Prop := reachChainsRow.holds Try.pinned (OpenSpec.ofChange reachChainsSpec)

/-- ITS FALSE NEIGHBOUR: 'it returns false'. Refute it at one input. -/
def reachChainsWrong : ChangeSpec := { name := "reachChains", fn := fun _ => fun
  | [d1, d2, d3] => { results := [.lit (.bool false)], args := [d1, d2, d3] }
  | _ => none }
def ReachChainsWrongFalsely : Prop := reachChainsRow.holds Try.pinned (OpenSpec.ofChange reachChainsWrong)

/-- 'backstitchlaw16.LockKnown': WHATEVER THE INPUT: true; the input reads as it did. -/
def lockKnownSpec : ChangeSpec := { name := "lockKnown", fn := fun _ => fun
  | [] => { results := [.lit (.bool true)], args := [] }
  | _ => none }
def lockKnownRow : OpenClaim := { program := "ytloeicnadchkpaa", sum := "eb94b30fc9652cf909dc0ac45ecbbd320948047a7ffa64142467f2d30da2c6ae", func := "backstitch/backstitchlaw16.LockKnown", spec := "lockKnown", apart := false }
def LockKnownSaid : Prop := lockKnownRow.holds Try.pinned (OpenSpec.ofChange lockKnownSpec)

/-- ITS FALSE NEIGHBOUR: 'it returns false'. Refute it at one input. -/
def lockKnownWrong : ChangeSpec := { name := "lockKnown", fn := fun _ => fun
  | [] => { results := [.lit (.bool false)], args := [] }
  | _ => none }
def LockKnownWrongFalsely : Prop := lockKnownRow.holds Try.pinned (OpenSpec.ofChange lockKnownWrong)

/-- 'backstitchlaw15.SchedAll': WHATEVER THE INPUT: true; the input reads as it did. -/
def schedAllSpec : ChangeSpec := { name := "schedAll", fn := fun _ => fun
  | [d1, d2] => { results := [.lit (.bool true)], args := [d1, d2] }
  | _ => none }
def schedAllRow : OpenClaim := { program := "ytloeicnadchkpaa", sum := "eb94b30fc9652cf909dc0ac45ecbbd320948047a7ffa64142467f2d30da2c6ae", func := "backstitch/backstitchlaw15.SchedAll", spec := "schedAll", unfollowed := true, recurses := true, apart := false }
def SchedAllSaid : Prop := schedAllRow.holds Try.pinned (OpenSpec.ofChange schedAllSpec)

/-- ITS FALSE NEIGHBOUR: 'it returns false'. Refute it at one input. -/
def schedAllWrong : ChangeSpec := { name := "schedAll", fn := fun _ => fun
  | [d1, d2] => { results := [.lit (.bool false)], args := [d1, d2] }
  | _ => none }
def SchedAllWrongFalsely : Prop := schedAllRow.holds Try.pinned (OpenSpec.ofChange schedAllWrong)

/-- 'backstitchlaw15.SchedLimit': WHATEVER THE INPUT: true; the input reads as it did. -/
def schedLimitSpec : ChangeSpec := { name := "schedLimit", fn := fun _ => fun
  | [d] => { results := [.lit (.bool true)], args := [d] }
  | _ => none }
def schedLimitRow : OpenClaim := { program := "ytloeicnadchkpaa", sum := "eb94b30fc9652cf909dc0ac45ecbbd320948047a7ffa64142467f2d30da2c6ae", func := "backstitch/backstitchlaw15.SchedLimit", spec := "schedLimit", unfollowed := true, recurses := true, apart := false }
def SchedLimitSaid : Prop := schedLimitRow.holds Try.pinned (OpenSpec.ofChange schedLimitSpec)

/-- ITS FALSE NEIGHBOUR: 'it returns false'. Refute it at one input. -/
def schedLimitWrong : ChangeSpec := { name := "schedLimit", fn := fun _ => fun
  | [d] => { results := [.lit (.bool false)], args := [d] }
  | _ => none }
def SchedLimitWrongFalsely : Prop := schedLimitRow.holds Try.pinned (OpenSpec.ofChange schedLimitWrong)

/-- 'backstitchlaw15.SchedBorn': WHATEVER THE INPUT: true; the input reads as it did. -/
def schedBornSpec : ChangeSpec := { name := "schedBorn", fn := fun _ => fun
  | [d1, d2] => { results := [.lit (.bool true)], args := [d1, d2] }
  | _ => none }
def schedBornRow : OpenClaim := { program := "ytloeicnadchkpaa", sum := "eb94b30fc9652cf909dc0ac45ecbbd320948047a7ffa64142467f2d30da2c6ae", func := "backstitch/backstitchlaw15.SchedBorn", spec := "schedBorn", unfollowed := true, recurses := true, apart := false }
def SchedBornSaid : Prop := schedBornRow.holds Try.pinned (OpenSpec.ofChange schedBornSpec)

/-- ITS FALSE NEIGHBOUR: 'it returns false'. Refute it at one input. -/
def schedBornWrong : ChangeSpec := { name := "schedBorn", fn := fun _ => fun
  | [d1, d2] => { results := [.lit (.bool false)], args := [d1, d2] }
  | _ => none }
def SchedBornWrongFalsely : Prop := schedBornRow.holds Try.pinned (OpenSpec.ofChange schedBornWrong)

/-- 'backstitchlaw15.SchedCuts': WHATEVER THE INPUT: true; the input reads as it did. -/
def schedCutsSpec : ChangeSpec := { name := "schedCuts", fn := fun _ => fun
  | [d1, d2, d3] => { results := [.lit (.bool true)], args := [d1, d2, d3] }
  | _ => none }
def schedCutsRow : OpenClaim := { program := "ytloeicnadchkpaa", sum := "eb94b30fc9652cf909dc0ac45ecbbd320948047a7ffa64142467f2d30da2c6ae", func := "backstitch/backstitchlaw15.SchedCuts", spec := "schedCuts", unfollowed := true, recurses := true, apart := false }
def SchedCutsSaid : Prop := schedCutsRow.holds Try.pinned (OpenSpec.ofChange schedCutsSpec)

/-- ITS FALSE NEIGHBOUR: 'it returns false'. Refute it at one input. -/
def schedCutsWrong : ChangeSpec := { name := "schedCuts", fn := fun _ => fun
  | [d1, d2, d3] => { results := [.lit (.bool false)], args := [d1, d2, d3] }
  | _ => none }
def SchedCutsWrongFalsely : Prop := schedCutsRow.holds Try.pinned (OpenSpec.ofChange schedCutsWrong)

/-- 'backstitchlaw15.SchedRuns': WHATEVER THE INPUT: true; the input reads as it did. -/
def schedRunsSpec : ChangeSpec := { name := "schedRuns", fn := fun _ => fun
  | [d1, d2, d3] => { results := [.lit (.bool true)], args := [d1, d2, d3] }
  | _ => none }
def schedRunsRow : OpenClaim := { program := "ytloeicnadchkpaa", sum := "eb94b30fc9652cf909dc0ac45ecbbd320948047a7ffa64142467f2d30da2c6ae", func := "backstitch/backstitchlaw15.SchedRuns", spec := "schedRuns", unfollowed := true, recurses := true, apart := false }
def SchedRunsSaid : Prop := schedRunsRow.holds Try.pinned (OpenSpec.ofChange schedRunsSpec)

/-- ITS FALSE NEIGHBOUR: 'it returns false'. Refute it at one input. -/
def schedRunsWrong : ChangeSpec := { name := "schedRuns", fn := fun _ => fun
  | [d1, d2, d3] => { results := [.lit (.bool false)], args := [d1, d2, d3] }
  | _ => none }
def SchedRunsWrongFalsely : Prop := schedRunsRow.holds Try.pinned (OpenSpec.ofChange schedRunsWrong)

/-- 'backstitchlaw15.SchedKnown': WHATEVER THE INPUT: true; the input reads as it did. -/
def schedKnownSpec : ChangeSpec := { name := "schedKnown", fn := fun _ => fun
  | [] => { results := [.lit (.bool true)], args := [] }
  | _ => none }
def schedKnownRow : OpenClaim := { program := "ytloeicnadchkpaa", sum := "eb94b30fc9652cf909dc0ac45ecbbd320948047a7ffa64142467f2d30da2c6ae", func := "backstitch/backstitchlaw15.SchedKnown", spec := "schedKnown", unfollowed := true, recurses := true, apart := false }
def SchedKnownSaid : Prop := schedKnownRow.holds Try.pinned (OpenSpec.ofChange schedKnownSpec)

/-- ITS FALSE NEIGHBOUR: 'it returns false'. Refute it at one input. -/
def schedKnownWrong : ChangeSpec := { name := "schedKnown", fn := fun _ => fun
  | [] => { results := [.lit (.bool false)], args := [] }
  | _ => none }
def SchedKnownWrongFalsely : Prop := schedKnownRow.holds Try.pinned (OpenSpec.ofChange schedKnownWrong)

/-- 'backstitchlaw25.MeterCounts': WHATEVER THE INPUT: true; the input reads as it did. -/
def meterCountsSpec : ChangeSpec := { name := "meterCounts", fn := fun _ => fun
  | [d1, d2] => { results := [.lit (.bool true)], args := [d1, d2] }
  | _ => none }
def meterCountsRow : OpenClaim := { program := "ytloeicnadchkpaa", sum := "eb94b30fc9652cf909dc0ac45ecbbd320948047a7ffa64142467f2d30da2c6ae", func := "backstitch/backstitchlaw25.MeterCounts", spec := "meterCounts", inPlace := ["math.Float64bits"], unfollowed := true, recurses := true, apart := false }
def MeterCountsSaid : Prop := meterCountsRow.holds Try.pinned (OpenSpec.ofChange meterCountsSpec)

/-- ITS FALSE NEIGHBOUR: 'it returns false'. Refute it at one input. -/
def meterCountsWrong : ChangeSpec := { name := "meterCounts", fn := fun _ => fun
  | [d1, d2] => { results := [.lit (.bool false)], args := [d1, d2] }
  | _ => none }
def MeterCountsWrongFalsely : Prop := meterCountsRow.holds Try.pinned (OpenSpec.ofChange meterCountsWrong)

/-- 'backstitchlaw25.MeterSame': WHATEVER THE INPUT: true; the input reads as it did. -/
def meterSameSpec : ChangeSpec := { name := "meterSame", fn := fun _ => fun
  | [d1, d2] => { results := [.lit (.bool true)], args := [d1, d2] }
  | _ => none }
def meterSameRow : OpenClaim := { program := "ytloeicnadchkpaa", sum := "eb94b30fc9652cf909dc0ac45ecbbd320948047a7ffa64142467f2d30da2c6ae", func := "backstitch/backstitchlaw25.MeterSame", spec := "meterSame", inPlace := ["math.Float64bits"], unfollowed := true, recurses := true, apart := false }
def MeterSameSaid : Prop := meterSameRow.holds Try.pinned (OpenSpec.ofChange meterSameSpec)

/-- ITS FALSE NEIGHBOUR: 'it returns false'. Refute it at one input. -/
def meterSameWrong : ChangeSpec := { name := "meterSame", fn := fun _ => fun
  | [d1, d2] => { results := [.lit (.bool false)], args := [d1, d2] }
  | _ => none }
def MeterSameWrongFalsely : Prop := meterSameRow.holds Try.pinned (OpenSpec.ofChange meterSameWrong)

/-- 'backstitchlaw25.MeterSums': WHATEVER THE INPUT: true; the input reads as it did. -/
def meterSumsSpec : ChangeSpec := { name := "meterSums", fn := fun _ => fun
  | [d1, d2] => { results := [.lit (.bool true)], args := [d1, d2] }
  | _ => none }
def meterSumsRow : OpenClaim := { program := "ytloeicnadchkpaa", sum := "eb94b30fc9652cf909dc0ac45ecbbd320948047a7ffa64142467f2d30da2c6ae", func := "backstitch/backstitchlaw25.MeterSums", spec := "meterSums", inPlace := ["math.Float64bits"], unfollowed := true, recurses := true, apart := false }
def MeterSumsSaid : Prop := meterSumsRow.holds Try.pinned (OpenSpec.ofChange meterSumsSpec)

/-- ITS FALSE NEIGHBOUR: 'it returns false'. Refute it at one input. -/
def meterSumsWrong : ChangeSpec := { name := "meterSums", fn := fun _ => fun
  | [d1, d2] => { results := [.lit (.bool false)], args := [d1, d2] }
  | _ => none }
def MeterSumsWrongFalsely : Prop := meterSumsRow.holds Try.pinned (OpenSpec.ofChange meterSumsWrong)

/-- 'backstitchlaw25.MeterSpread': WHATEVER THE INPUT: true; the input reads as it did. -/
def meterSpreadSpec : ChangeSpec := { name := "meterSpread", fn := fun _ => fun
  | [d] => { results := [.lit (.bool true)], args := [d] }
  | _ => none }
def meterSpreadRow : OpenClaim := { program := "ytloeicnadchkpaa", sum := "eb94b30fc9652cf909dc0ac45ecbbd320948047a7ffa64142467f2d30da2c6ae", func := "backstitch/backstitchlaw25.MeterSpread", spec := "meterSpread", inPlace := ["math.Float64bits"], unfollowed := true, recurses := true, apart := false }
def MeterSpreadSaid : Prop := meterSpreadRow.holds Try.pinned (OpenSpec.ofChange meterSpreadSpec)

/-- ITS FALSE NEIGHBOUR: 'it returns false'. Refute it at one input. -/
def meterSpreadWrong : ChangeSpec := { name := "meterSpread", fn := fun _ => fun
  | [d] => { results := [.lit (.bool false)], args := [d] }
  | _ => none }
def MeterSpreadWrongFalsely : Prop := meterSpreadRow.holds Try.pinned (OpenSpec.ofChange meterSpreadWrong)

/-- 'backstitchlaw25.MeterKnown': WHATEVER THE INPUT: true; the input reads as it did. -/
def meterKnownSpec : ChangeSpec := { name := "meterKnown", fn := fun _ => fun
  | [] => { results := [.lit (.bool true)], args := [] }
  | _ => none }
def meterKnownRow : OpenClaim := { program := "ytloeicnadchkpaa", sum := "eb94b30fc9652cf909dc0ac45ecbbd320948047a7ffa64142467f2d30da2c6ae", func := "backstitch/backstitchlaw25.MeterKnown", spec := "meterKnown", inPlace := ["math.Float64bits"], unfollowed := true, recurses := true, apart := false }
def MeterKnownSaid : Prop := meterKnownRow.holds Try.pinned (OpenSpec.ofChange meterKnownSpec)

/-- ITS FALSE NEIGHBOUR: 'it returns false'. Refute it at one input. -/
def meterKnownWrong : ChangeSpec := { name := "meterKnown", fn := fun _ => fun
  | [] => { results := [.lit (.bool false)], args := [] }
  | _ => none }
def MeterKnownWrongFalsely : Prop := meterKnownRow.holds Try.pinned (OpenSpec.ofChange meterKnownWrong)

/-- 'backstitchlaw17.LatchWorks': WHATEVER THE INPUT: true; the input reads as it did. -/
def latchWorksSpec : ChangeSpec := { name := "latchWorks", fn := fun _ => fun
  | [d1, d2, d3] => { results := [.lit (.bool true)], args := [d1, d2, d3] }
  | _ => none }
def latchWorksRow : OpenClaim := { program := "ytloeicnadchkpaa", sum := "eb94b30fc9652cf909dc0ac45ecbbd320948047a7ffa64142467f2d30da2c6ae", func := "backstitch/backstitchlaw17.LatchWorks", spec := "latchWorks", unfollowed := true, recurses := true, apart := false }
def LatchWorksSaid : Prop := latchWorksRow.holds Try.pinned (OpenSpec.ofChange latchWorksSpec)

/-- ITS FALSE NEIGHBOUR: 'it returns false'. Refute it at one input. -/
def latchWorksWrong : ChangeSpec := { name := "latchWorks", fn := fun _ => fun
  | [d1, d2, d3] => { results := [.lit (.bool false)], args := [d1, d2, d3] }
  | _ => none }
def LatchWorksWrongFalsely : Prop := latchWorksRow.holds Try.pinned (OpenSpec.ofChange latchWorksWrong)

/-- 'backstitchlaw16.LockTurns': WHATEVER THE INPUT: true; the input reads as it did. -/
def lockTurnsSpec : ChangeSpec := { name := "lockTurns", fn := fun _ => fun
  | [d] => { results := [.lit (.bool true)], args := [d] }
  | _ => none }
def lockTurnsRow : OpenClaim := { program := "ytloeicnadchkpaa", sum := "eb94b30fc9652cf909dc0ac45ecbbd320948047a7ffa64142467f2d30da2c6ae", func := "backstitch/backstitchlaw16.LockTurns", spec := "lockTurns", unfollowed := true, recurses := true, apart := false }
def LockTurnsSaid : Prop := lockTurnsRow.holds Try.pinned (OpenSpec.ofChange lockTurnsSpec)

/-- ITS FALSE NEIGHBOUR: 'it returns false'. Refute it at one input. -/
def lockTurnsWrong : ChangeSpec := { name := "lockTurns", fn := fun _ => fun
  | [d] => { results := [.lit (.bool false)], args := [d] }
  | _ => none }
def LockTurnsWrongFalsely : Prop := lockTurnsRow.holds Try.pinned (OpenSpec.ofChange lockTurnsWrong)

/-- 'backstitchlaw17.LatchPlays': WHATEVER THE INPUT: true; the input reads as it did. -/
def latchPlaysSpec : ChangeSpec := { name := "latchPlays", fn := fun _ => fun
  | [d1, d2] => { results := [.lit (.bool true)], args := [d1, d2] }
  | _ => none }
def latchPlaysRow : OpenClaim := { program := "ytloeicnadchkpaa", sum := "eb94b30fc9652cf909dc0ac45ecbbd320948047a7ffa64142467f2d30da2c6ae", func := "backstitch/backstitchlaw17.LatchPlays", spec := "latchPlays", unfollowed := true, recurses := true, apart := false }
def LatchPlaysSaid : Prop := latchPlaysRow.holds Try.pinned (OpenSpec.ofChange latchPlaysSpec)

/-- ITS FALSE NEIGHBOUR: 'it returns false'. Refute it at one input. -/
def latchPlaysWrong : ChangeSpec := { name := "latchPlays", fn := fun _ => fun
  | [d1, d2] => { results := [.lit (.bool false)], args := [d1, d2] }
  | _ => none }
def LatchPlaysWrongFalsely : Prop := latchPlaysRow.holds Try.pinned (OpenSpec.ofChange latchPlaysWrong)

/-- 'backstitchlaw17.LatchKnown': WHATEVER THE INPUT: true; the input reads as it did. -/
def latchKnownSpec : ChangeSpec := { name := "latchKnown", fn := fun _ => fun
  | [] => { results := [.lit (.bool true)], args := [] }
  | _ => none }
def latchKnownRow : OpenClaim := { program := "ytloeicnadchkpaa", sum := "eb94b30fc9652cf909dc0ac45ecbbd320948047a7ffa64142467f2d30da2c6ae", func := "backstitch/backstitchlaw17.LatchKnown", spec := "latchKnown", unfollowed := true, recurses := true, apart := false }
def LatchKnownSaid : Prop := latchKnownRow.holds Try.pinned (OpenSpec.ofChange latchKnownSpec)

/-- ITS FALSE NEIGHBOUR: 'it returns false'. Refute it at one input. -/
def latchKnownWrong : ChangeSpec := { name := "latchKnown", fn := fun _ => fun
  | [] => { results := [.lit (.bool false)], args := [] }
  | _ => none }
def LatchKnownWrongFalsely : Prop := latchKnownRow.holds Try.pinned (OpenSpec.ofChange latchKnownWrong)

/-- 'backstitchlaw17.LatchUps': WHATEVER THE INPUT: true; the input reads as it did. -/
def latchUpsSpec : ChangeSpec := { name := "latchUps", fn := fun _ => fun
  | [d1, d2] => { results := [.lit (.bool true)], args := [d1, d2] }
  | _ => none }
def latchUpsRow : OpenClaim := { program := "ytloeicnadchkpaa", sum := "eb94b30fc9652cf909dc0ac45ecbbd320948047a7ffa64142467f2d30da2c6ae", func := "backstitch/backstitchlaw17.LatchUps", spec := "latchUps", unfollowed := true, recurses := true, apart := false }
def LatchUpsSaid : Prop := latchUpsRow.holds Try.pinned (OpenSpec.ofChange latchUpsSpec)

/-- ITS FALSE NEIGHBOUR: 'it returns false'. Refute it at one input. -/
def latchUpsWrong : ChangeSpec := { name := "latchUps", fn := fun _ => fun
  | [d1, d2] => { results := [.lit (.bool false)], args := [d1, d2] }
  | _ => none }
def LatchUpsWrongFalsely : Prop := latchUpsRow.holds Try.pinned (OpenSpec.ofChange latchUpsWrong)

/-- 'backstitchlaw16.LockWorks': WHATEVER THE INPUT: true; the input reads as it did. -/
def lockWorksSpec : ChangeSpec := { name := "lockWorks", fn := fun _ => fun
  | [d1, d2, d3] => { results := [.lit (.bool true)], args := [d1, d2, d3] }
  | _ => none }
def lockWorksRow : OpenClaim := { program := "ytloeicnadchkpaa", sum := "eb94b30fc9652cf909dc0ac45ecbbd320948047a7ffa64142467f2d30da2c6ae", func := "backstitch/backstitchlaw16.LockWorks", spec := "lockWorks", unfollowed := true, recurses := true, apart := false }
def LockWorksSaid : Prop := lockWorksRow.holds Try.pinned (OpenSpec.ofChange lockWorksSpec)

/-- ITS FALSE NEIGHBOUR: 'it returns false'. Refute it at one input. -/
def lockWorksWrong : ChangeSpec := { name := "lockWorks", fn := fun _ => fun
  | [d1, d2, d3] => { results := [.lit (.bool false)], args := [d1, d2, d3] }
  | _ => none }
def LockWorksWrongFalsely : Prop := lockWorksRow.holds Try.pinned (OpenSpec.ofChange lockWorksWrong)

/-- 'backstitchlaw16.LockPlays': WHATEVER THE INPUT: true; the input reads as it did. -/
def lockPlaysSpec : ChangeSpec := { name := "lockPlays", fn := fun _ => fun
  | [d] => { results := [.lit (.bool true)], args := [d] }
  | _ => none }
def lockPlaysRow : OpenClaim := { program := "ytloeicnadchkpaa", sum := "eb94b30fc9652cf909dc0ac45ecbbd320948047a7ffa64142467f2d30da2c6ae", func := "backstitch/backstitchlaw16.LockPlays", spec := "lockPlays", unfollowed := true, recurses := true, apart := false }
def LockPlaysSaid : Prop := lockPlaysRow.holds Try.pinned (OpenSpec.ofChange lockPlaysSpec)

/-- ITS FALSE NEIGHBOUR: 'it returns false'. Refute it at one input. -/
def lockPlaysWrong : ChangeSpec := { name := "lockPlays", fn := fun _ => fun
  | [d] => { results := [.lit (.bool false)], args := [d] }
  | _ => none }
def LockPlaysWrongFalsely : Prop := lockPlaysRow.holds Try.pinned (OpenSpec.ofChange lockPlaysWrong)

/- THE SECOND FORM. 'bulk': how many values and letters a reading holds, each counted each time it is reached (what is shared counts as often as it is met; a slice's spare places count too). A statement '..UptoSaid' is the law's where the arguments, and the package variables that the reading takes, are together of bulk at most 1048576: NARROWER than '..Said'. Prove '..Said' where nothing that the law and all that it calls make is longer than what came in: it says more and counts as full. Else prove '..UptoSaid'. A law counts once. -/
mutual
def uptoBulk {H : Type} : DataW H → Nat
  | .lit (.string bytes) => bytes.length + 1
  | .lit _ => 1
  | .nil => 1
  | .ptr d => uptoBulk d + 1
  | .slice elems spare => uptoBulkAll elems + uptoBulkAll spare + 1
  | .agg parts => uptoBulkAll parts + 1
  | .iface _ d => uptoBulk d + 1
  | .map entries => uptoBulkEntries entries + 1
  | .held _ => 1
def uptoBulkAll {H : Type} : List (DataW H) → Nat
  | [] => 0
  | d :: r => uptoBulk d + uptoBulkAll r
def uptoBulkEntries {H : Type} : List (Lit × DataW H) → Nat
  | [] => 0
  | x :: r => uptoBulkEntry x + uptoBulkEntries r
def uptoBulkEntry {H : Type} : Lit × DataW H → Nat
  | (.string bytes, d) => bytes.length + uptoBulk d + 1
  | (_, d) => uptoBulk d + 1
 end
def uptoSmall : (H : Type) → List (DataW H) → Bool := fun _ ds => decide (uptoBulkAll ds ≤ 1048576)
def OpenSpec.upto (s : _root_.Go.ChangeSpec) : _root_.Go.OpenSpec := { _root_.Go.OpenSpec.ofChange s with cond := some uptoSmall }

/-- 'backstitchlaw11.ReachTells', WHERE WHAT IT READS IS OF BULK AT MOST 1048576: true; the input reads as it did. -/
def reachTellsUptoRow : OpenClaim := { program := "ytloeicnadchkpaa", sum := "eb94b30fc9652cf909dc0ac45ecbbd320948047a7ffa64142467f2d30da2c6ae", func := "backstitch/backstitchlaw11.ReachTells", spec := "reachTells", apart := false, narrowed := true }
def ReachTellsUptoSaid : Prop := reachTellsUptoRow.holds Try.pinned (OpenSpec.upto reachTellsSpec)

/-- 'backstitchlaw11.ReachKnown', WHERE WHAT IT READS IS OF BULK AT MOST 1048576: true; the input reads as it did. -/
def reachKnownUptoRow : OpenClaim := { program := "ytloeicnadchkpaa", sum := "eb94b30fc9652cf909dc0ac45ecbbd320948047a7ffa64142467f2d30da2c6ae", func := "backstitch/backstitchlaw11.ReachKnown", spec := "reachKnown", apart := false, narrowed := true }
def ReachKnownUptoSaid : Prop := reachKnownUptoRow.holds Try.pinned (OpenSpec.upto reachKnownSpec)

/-- 'backstitchlaw11.ReachCounts', WHERE WHAT IT READS IS OF BULK AT MOST 1048576: true; the input reads as it did. -/
def reachCountsUptoRow : OpenClaim := { program := "ytloeicnadchkpaa", sum := "eb94b30fc9652cf909dc0ac45ecbbd320948047a7ffa64142467f2d30da2c6ae", func := "backstitch/backstitchlaw11.ReachCounts", spec := "reachCounts", apart := false, narrowed := true }
def ReachCountsUptoSaid : Prop := reachCountsUptoRow.holds Try.pinned (OpenSpec.upto reachCountsSpec)

/-- 'backstitchlaw11.ReachRoots', WHERE WHAT IT READS IS OF BULK AT MOST 1048576: true; the input reads as it did. -/
def reachRootsUptoRow : OpenClaim := { program := "ytloeicnadchkpaa", sum := "eb94b30fc9652cf909dc0ac45ecbbd320948047a7ffa64142467f2d30da2c6ae", func := "backstitch/backstitchlaw11.ReachRoots", spec := "reachRoots", apart := false, narrowed := true }
def ReachRootsUptoSaid : Prop := reachRootsUptoRow.holds Try.pinned (OpenSpec.upto reachRootsSpec)

/-- 'backstitchlaw11.ReachChains', WHERE WHAT IT READS IS OF BULK AT MOST 1048576: true; the input reads as it did. -/
def reachChainsUptoRow : OpenClaim := { program := "ytloeicnadchkpaa", sum := "eb94b30fc9652cf909dc0ac45ecbbd320948047a7ffa64142467f2d30da2c6ae", func := "backstitch/backstitchlaw11.ReachChains", spec := "reachChains", apart := false, narrowed := true }
def ReachChainsUptoSaid : Prop := reachChainsUptoRow.holds Try.pinned (OpenSpec.upto reachChainsSpec)

/-- 'backstitchlaw16.LockKnown', WHERE WHAT IT READS IS OF BULK AT MOST 1048576: true; the input reads as it did. -/
def lockKnownUptoRow : OpenClaim := { program := "ytloeicnadchkpaa", sum := "eb94b30fc9652cf909dc0ac45ecbbd320948047a7ffa64142467f2d30da2c6ae", func := "backstitch/backstitchlaw16.LockKnown", spec := "lockKnown", apart := false, narrowed := true }
def LockKnownUptoSaid : Prop := lockKnownUptoRow.holds Try.pinned (OpenSpec.upto lockKnownSpec)

/-- 'backstitchlaw15.SchedAll', WHERE WHAT IT READS IS OF BULK AT MOST 1048576: true; the input reads as it did. -/
def schedAllUptoRow : OpenClaim := { program := "ytloeicnadchkpaa", sum := "eb94b30fc9652cf909dc0ac45ecbbd320948047a7ffa64142467f2d30da2c6ae", func := "backstitch/backstitchlaw15.SchedAll", spec := "schedAll", unfollowed := true, recurses := true, apart := false, narrowed := true }
def SchedAllUptoSaid : Prop := schedAllUptoRow.holds Try.pinned (OpenSpec.upto schedAllSpec)

/-- 'backstitchlaw15.SchedLimit', WHERE WHAT IT READS IS OF BULK AT MOST 1048576: true; the input reads as it did. -/
def schedLimitUptoRow : OpenClaim := { program := "ytloeicnadchkpaa", sum := "eb94b30fc9652cf909dc0ac45ecbbd320948047a7ffa64142467f2d30da2c6ae", func := "backstitch/backstitchlaw15.SchedLimit", spec := "schedLimit", unfollowed := true, recurses := true, apart := false, narrowed := true }
def SchedLimitUptoSaid : Prop := schedLimitUptoRow.holds Try.pinned (OpenSpec.upto schedLimitSpec)

/-- 'backstitchlaw15.SchedBorn', WHERE WHAT IT READS IS OF BULK AT MOST 1048576: true; the input reads as it did. -/
def schedBornUptoRow : OpenClaim := { program := "ytloeicnadchkpaa", sum := "eb94b30fc9652cf909dc0ac45ecbbd320948047a7ffa64142467f2d30da2c6ae", func := "backstitch/backstitchlaw15.SchedBorn", spec := "schedBorn", unfollowed := true, recurses := true, apart := false, narrowed := true }
def SchedBornUptoSaid : Prop := schedBornUptoRow.holds Try.pinned (OpenSpec.upto schedBornSpec)

/-- 'backstitchlaw15.SchedCuts', WHERE WHAT IT READS IS OF BULK AT MOST 1048576: true; the input reads as it did. -/
def schedCutsUptoRow : OpenClaim := { program := "ytloeicnadchkpaa", sum := "eb94b30fc9652cf909dc0ac45ecbbd320948047a7ffa64142467f2d30da2c6ae", func := "backstitch/backstitchlaw15.SchedCuts", spec := "schedCuts", unfollowed := true, recurses := true, apart := false, narrowed := true }
def SchedCutsUptoSaid : Prop := schedCutsUptoRow.holds Try.pinned (OpenSpec.upto schedCutsSpec)

/-- 'backstitchlaw15.SchedRuns', WHERE WHAT IT READS IS OF BULK AT MOST 1048576: true; the input reads as it did. -/
def schedRunsUptoRow : OpenClaim := { program := "ytloeicnadchkpaa", sum := "eb94b30fc9652cf909dc0ac45ecbbd320948047a7ffa64142467f2d30da2c6ae", func := "backstitch/backstitchlaw15.SchedRuns", spec := "schedRuns", unfollowed := true, recurses := true, apart := false, narrowed := true }
def SchedRunsUptoSaid : Prop := schedRunsUptoRow.holds Try.pinned (OpenSpec.upto schedRunsSpec)

/-- 'backstitchlaw15.SchedKnown', WHERE WHAT IT READS IS OF BULK AT MOST 1048576: true; the input reads as it did. -/
def schedKnownUptoRow : OpenClaim := { program := "ytloeicnadchkpaa", sum := "eb94b30fc9652cf909dc0ac45ecbbd320948047a7ffa64142467f2d30da2c6ae", func := "backstitch/backstitchlaw15.SchedKnown", spec := "schedKnown", unfollowed := true, recurses := true, apart := false, narrowed := true }
def SchedKnownUptoSaid : Prop := schedKnownUptoRow.holds Try.pinned (OpenSpec.upto schedKnownSpec)

/-- 'backstitchlaw25.MeterCounts', WHERE WHAT IT READS IS OF BULK AT MOST 1048576: true; the input reads as it did. -/
def meterCountsUptoRow : OpenClaim := { program := "ytloeicnadchkpaa", sum := "eb94b30fc9652cf909dc0ac45ecbbd320948047a7ffa64142467f2d30da2c6ae", func := "backstitch/backstitchlaw25.MeterCounts", spec := "meterCounts", inPlace := ["math.Float64bits"], unfollowed := true, recurses := true, apart := false, narrowed := true }
def MeterCountsUptoSaid : Prop := meterCountsUptoRow.holds Try.pinned (OpenSpec.upto meterCountsSpec)

/-- 'backstitchlaw25.MeterSame', WHERE WHAT IT READS IS OF BULK AT MOST 1048576: true; the input reads as it did. -/
def meterSameUptoRow : OpenClaim := { program := "ytloeicnadchkpaa", sum := "eb94b30fc9652cf909dc0ac45ecbbd320948047a7ffa64142467f2d30da2c6ae", func := "backstitch/backstitchlaw25.MeterSame", spec := "meterSame", inPlace := ["math.Float64bits"], unfollowed := true, recurses := true, apart := false, narrowed := true }
def MeterSameUptoSaid : Prop := meterSameUptoRow.holds Try.pinned (OpenSpec.upto meterSameSpec)

/-- 'backstitchlaw25.MeterSums', WHERE WHAT IT READS IS OF BULK AT MOST 1048576: true; the input reads as it did. -/
def meterSumsUptoRow : OpenClaim := { program := "ytloeicnadchkpaa", sum := "eb94b30fc9652cf909dc0ac45ecbbd320948047a7ffa64142467f2d30da2c6ae", func := "backstitch/backstitchlaw25.MeterSums", spec := "meterSums", inPlace := ["math.Float64bits"], unfollowed := true, recurses := true, apart := false, narrowed := true }
def MeterSumsUptoSaid : Prop := meterSumsUptoRow.holds Try.pinned (OpenSpec.upto meterSumsSpec)

/-- 'backstitchlaw25.MeterSpread', WHERE WHAT IT READS IS OF BULK AT MOST 1048576: true; the input reads as it did. -/
def meterSpreadUptoRow : OpenClaim := { program := "ytloeicnadchkpaa", sum := "eb94b30fc9652cf909dc0ac45ecbbd320948047a7ffa64142467f2d30da2c6ae", func := "backstitch/backstitchlaw25.MeterSpread", spec := "meterSpread", inPlace := ["math.Float64bits"], unfollowed := true, recurses := true, apart := false, narrowed := true }
def MeterSpreadUptoSaid : Prop := meterSpreadUptoRow.holds Try.pinned (OpenSpec.upto meterSpreadSpec)

/-- 'backstitchlaw25.MeterKnown', WHERE WHAT IT READS IS OF BULK AT MOST 1048576: true; the input reads as it did. -/
def meterKnownUptoRow : OpenClaim := { program := "ytloeicnadchkpaa", sum := "eb94b30fc9652cf909dc0ac45ecbbd320948047a7ffa64142467f2d30da2c6ae", func := "backstitch/backstitchlaw25.MeterKnown", spec := "meterKnown", inPlace := ["math.Float64bits"], unfollowed := true, recurses := true, apart := false, narrowed := true }
def MeterKnownUptoSaid : Prop := meterKnownUptoRow.holds Try.pinned (OpenSpec.upto meterKnownSpec)

/-- 'backstitchlaw17.LatchWorks', WHERE WHAT IT READS IS OF BULK AT MOST 1048576: true; the input reads as it did. -/
def latchWorksUptoRow : OpenClaim := { program := "ytloeicnadchkpaa", sum := "eb94b30fc9652cf909dc0ac45ecbbd320948047a7ffa64142467f2d30da2c6ae", func := "backstitch/backstitchlaw17.LatchWorks", spec := "latchWorks", unfollowed := true, recurses := true, apart := false, narrowed := true }
def LatchWorksUptoSaid : Prop := latchWorksUptoRow.holds Try.pinned (OpenSpec.upto latchWorksSpec)

/-- 'backstitchlaw16.LockTurns', WHERE WHAT IT READS IS OF BULK AT MOST 1048576: true; the input reads as it did. -/
def lockTurnsUptoRow : OpenClaim := { program := "ytloeicnadchkpaa", sum := "eb94b30fc9652cf909dc0ac45ecbbd320948047a7ffa64142467f2d30da2c6ae", func := "backstitch/backstitchlaw16.LockTurns", spec := "lockTurns", unfollowed := true, recurses := true, apart := false, narrowed := true }
def LockTurnsUptoSaid : Prop := lockTurnsUptoRow.holds Try.pinned (OpenSpec.upto lockTurnsSpec)

/-- 'backstitchlaw17.LatchPlays', WHERE WHAT IT READS IS OF BULK AT MOST 1048576: true; the input reads as it did. -/
def latchPlaysUptoRow : OpenClaim := { program := "ytloeicnadchkpaa", sum := "eb94b30fc9652cf909dc0ac45ecbbd320948047a7ffa64142467f2d30da2c6ae", func := "backstitch/backstitchlaw17.LatchPlays", spec := "latchPlays", unfollowed := true, recurses := true, apart := false, narrowed := true }
def LatchPlaysUptoSaid : Prop := latchPlaysUptoRow.holds Try.pinned (OpenSpec.upto latchPlaysSpec)

/-- 'backstitchlaw17.LatchKnown', WHERE WHAT IT READS IS OF BULK AT MOST 1048576: true; the input reads as it did. -/
def latchKnownUptoRow : OpenClaim := { program := "ytloeicnadchkpaa", sum := "eb94b30fc9652cf909dc0ac45ecbbd320948047a7ffa64142467f2d30da2c6ae", func := "backstitch/backstitchlaw17.LatchKnown", spec := "latchKnown", unfollowed := true, recurses := true, apart := false, narrowed := true }
def LatchKnownUptoSaid : Prop := latchKnownUptoRow.holds Try.pinned (OpenSpec.upto latchKnownSpec)

/-- 'backstitchlaw17.LatchUps', WHERE WHAT IT READS IS OF BULK AT MOST 1048576: true; the input reads as it did. -/
def latchUpsUptoRow : OpenClaim := { program := "ytloeicnadchkpaa", sum := "eb94b30fc9652cf909dc0ac45ecbbd320948047a7ffa64142467f2d30da2c6ae", func := "backstitch/backstitchlaw17.LatchUps", spec := "latchUps", unfollowed := true, recurses := true, apart := false, narrowed := true }
def LatchUpsUptoSaid : Prop := latchUpsUptoRow.holds Try.pinned (OpenSpec.upto latchUpsSpec)

/-- 'backstitchlaw16.LockWorks', WHERE WHAT IT READS IS OF BULK AT MOST 1048576: true; the input reads as it did. -/
def lockWorksUptoRow : OpenClaim := { program := "ytloeicnadchkpaa", sum := "eb94b30fc9652cf909dc0ac45ecbbd320948047a7ffa64142467f2d30da2c6ae", func := "backstitch/backstitchlaw16.LockWorks", spec := "lockWorks", unfollowed := true, recurses := true, apart := false, narrowed := true }
def LockWorksUptoSaid : Prop := lockWorksUptoRow.holds Try.pinned (OpenSpec.upto lockWorksSpec)

/-- 'backstitchlaw16.LockPlays', WHERE WHAT IT READS IS OF BULK AT MOST 1048576: true; the input reads as it did. -/
def lockPlaysUptoRow : OpenClaim := { program := "ytloeicnadchkpaa", sum := "eb94b30fc9652cf909dc0ac45ecbbd320948047a7ffa64142467f2d30da2c6ae", func := "backstitch/backstitchlaw16.LockPlays", spec := "lockPlays", unfollowed := true, recurses := true, apart := false, narrowed := true }
def LockPlaysUptoSaid : Prop := lockPlaysUptoRow.holds Try.pinned (OpenSpec.upto lockPlaysSpec)

end Rows
end Go.Proofs.Ytloeicnadchkpaa
