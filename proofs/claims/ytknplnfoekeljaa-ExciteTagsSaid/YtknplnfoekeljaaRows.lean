/-
  No cell of these rows narrows 'for every input' (looked for: loops, veiled, ifaces, maps, wideKeys, modest, calm, conditions, laid).
  DERIVED. THE GIVEN ROWS OF THIS SEAT. 18 by the template 'for every input the law returns true; each argument reads behind the call as it read before'; 0 by the template 'total and deterministic' (their statements: YtknplnfoekeljaaTotals.lean).
  GIVEN WITH THE SEED: the statements are not yours to turn. If you find one false, say at which input.
  Laid BY PROGRAM, IN A SANDBOX (cutbox-rows.mjs): the forced cells as the released guide's own fill.sh prints them over the translation e7145c3f94caab50… (all of the seat's roots in one cut). By AI agents, Wed Nov 11 2026. No macro, syntax, notation, axiom, sorry.
-/
import Derived.Test.YtknplnfoekeljaaChecked
import GoSem.Claim
import GoSem.ClaimJoined
import GoSem.ClaimMapViews
import Derived.JoinedTies
import Derived.KernelRfl
namespace Go.Proofs.Ytknplnfoekeljaa
/- THE CELL 'sum', in the pinned program and in every row, IS THE sha256 OF THE DUMP (.gsa) THAT YtknplnfoekeljaaProg.lean LOADS. Nothing in Lean hashes anything: it is a label: what it is worth is what the hold of that sum in a sandbox is worth. -/
noncomputable def Try.pinned : Pinned := { name := "ytknplnfoekeljaa", sum := "e7145c3f94caab502081f7b86b1c4db6de2b90b5b1e3a6c87a26066ada917a25", checked := Try.checked }
namespace Rows
def none {H : Type} : Left H := { results := [], args := [] }

/-- 'armaturelaw13.CubesMeet': WHATEVER THE INPUT: true; the input reads as it did. -/
def cubesMeetSpec : ChangeSpec := { name := "cubesMeet", fn := fun _ => fun
  | [d1, d2, d3] => { results := [.lit (.bool true)], args := [d1, d2, d3] }
  | _ => none }
def cubesMeetRow : OpenClaim := { program := "ytknplnfoekeljaa", sum := "e7145c3f94caab502081f7b86b1c4db6de2b90b5b1e3a6c87a26066ada917a25", func := "armature/armaturelaw13.CubesMeet", spec := "cubesMeet", unfollowed := true, recurses := true, plainKeys := false, apart := false }
def CubesMeetSaid : Prop := cubesMeetRow.holds Try.pinned (OpenSpec.ofChange cubesMeetSpec)

/-- ITS FALSE NEIGHBOUR: 'it returns false'. Refute it at one input. -/
def cubesMeetWrong : ChangeSpec := { name := "cubesMeet", fn := fun _ => fun
  | [d1, d2, d3] => { results := [.lit (.bool false)], args := [d1, d2, d3] }
  | _ => none }
def CubesMeetWrongFalsely : Prop := cubesMeetRow.holds Try.pinned (OpenSpec.ofChange cubesMeetWrong)

/-- 'armaturelaw13.CubesOf': WHATEVER THE INPUT: true; the input reads as it did. -/
def cubesOfSpec : ChangeSpec := { name := "cubesOf", fn := fun _ => fun
  | [d] => { results := [.lit (.bool true)], args := [d] }
  | _ => none }
def cubesOfRow : OpenClaim := { program := "ytknplnfoekeljaa", sum := "e7145c3f94caab502081f7b86b1c4db6de2b90b5b1e3a6c87a26066ada917a25", func := "armature/armaturelaw13.CubesOf", spec := "cubesOf", unfollowed := true, recurses := true, plainKeys := false, apart := false }
def CubesOfSaid : Prop := cubesOfRow.holds Try.pinned (OpenSpec.ofChange cubesOfSpec)

/-- ITS FALSE NEIGHBOUR: 'it returns false'. Refute it at one input. -/
def cubesOfWrong : ChangeSpec := { name := "cubesOf", fn := fun _ => fun
  | [d] => { results := [.lit (.bool false)], args := [d] }
  | _ => none }
def CubesOfWrongFalsely : Prop := cubesOfRow.holds Try.pinned (OpenSpec.ofChange cubesOfWrong)

/-- 'armaturelaw13.CubesMany': WHATEVER THE INPUT: true; the input reads as it did. -/
def cubesManySpec : ChangeSpec := { name := "cubesMany", fn := fun _ => fun
  | [d1, d2] => { results := [.lit (.bool true)], args := [d1, d2] }
  | _ => none }
def cubesManyRow : OpenClaim := { program := "ytknplnfoekeljaa", sum := "e7145c3f94caab502081f7b86b1c4db6de2b90b5b1e3a6c87a26066ada917a25", func := "armature/armaturelaw13.CubesMany", spec := "cubesMany", unfollowed := true, recurses := true, plainKeys := false, apart := false }
def CubesManySaid : Prop := cubesManyRow.holds Try.pinned (OpenSpec.ofChange cubesManySpec)

/-- ITS FALSE NEIGHBOUR: 'it returns false'. Refute it at one input. -/
def cubesManyWrong : ChangeSpec := { name := "cubesMany", fn := fun _ => fun
  | [d1, d2] => { results := [.lit (.bool false)], args := [d1, d2] }
  | _ => none }
def CubesManyWrongFalsely : Prop := cubesManyRow.holds Try.pinned (OpenSpec.ofChange cubesManyWrong)

/-- 'armaturelaw15.ExciteTags': WHATEVER THE INPUT: true; the input reads as it did. -/
def exciteTagsSpec : ChangeSpec := { name := "exciteTags", fn := fun _ => fun
  | [d1, d2, d3] => { results := [.lit (.bool true)], args := [d1, d2, d3] }
  | _ => none }
def exciteTagsRow : OpenClaim := { program := "ytknplnfoekeljaa", sum := "e7145c3f94caab502081f7b86b1c4db6de2b90b5b1e3a6c87a26066ada917a25", func := "armature/armaturelaw15.ExciteTags", spec := "exciteTags", unfollowed := true, recurses := true, plainKeys := false, apart := false }
def ExciteTagsSaid : Prop := exciteTagsRow.holds Try.pinned (OpenSpec.ofChange exciteTagsSpec)

/-- ITS FALSE NEIGHBOUR: 'it returns false'. Refute it at one input. -/
def exciteTagsWrong : ChangeSpec := { name := "exciteTags", fn := fun _ => fun
  | [d1, d2, d3] => { results := [.lit (.bool false)], args := [d1, d2, d3] }
  | _ => none }
def ExciteTagsWrongFalsely : Prop := exciteTagsRow.holds Try.pinned (OpenSpec.ofChange exciteTagsWrong)

/-- 'armaturelaw15.ExciteOf': WHATEVER THE INPUT: true; the input reads as it did. -/
def exciteOfSpec : ChangeSpec := { name := "exciteOf", fn := fun _ => fun
  | [d1, d2, d3] => { results := [.lit (.bool true)], args := [d1, d2, d3] }
  | _ => none }
def exciteOfRow : OpenClaim := { program := "ytknplnfoekeljaa", sum := "e7145c3f94caab502081f7b86b1c4db6de2b90b5b1e3a6c87a26066ada917a25", func := "armature/armaturelaw15.ExciteOf", spec := "exciteOf", unfollowed := true, recurses := true, plainKeys := false, apart := false }
def ExciteOfSaid : Prop := exciteOfRow.holds Try.pinned (OpenSpec.ofChange exciteOfSpec)

/-- ITS FALSE NEIGHBOUR: 'it returns false'. Refute it at one input. -/
def exciteOfWrong : ChangeSpec := { name := "exciteOf", fn := fun _ => fun
  | [d1, d2, d3] => { results := [.lit (.bool false)], args := [d1, d2, d3] }
  | _ => none }
def ExciteOfWrongFalsely : Prop := exciteOfRow.holds Try.pinned (OpenSpec.ofChange exciteOfWrong)

/-- 'armaturelaw13.CubesConduct': WHATEVER THE INPUT: true; the input reads as it did. -/
def cubesConductSpec : ChangeSpec := { name := "cubesConduct", fn := fun _ => fun
  | [d1, d2, d3] => { results := [.lit (.bool true)], args := [d1, d2, d3] }
  | _ => none }
def cubesConductRow : OpenClaim := { program := "ytknplnfoekeljaa", sum := "e7145c3f94caab502081f7b86b1c4db6de2b90b5b1e3a6c87a26066ada917a25", func := "armature/armaturelaw13.CubesConduct", spec := "cubesConduct", unfollowed := true, recurses := true, plainKeys := false, apart := false }
def CubesConductSaid : Prop := cubesConductRow.holds Try.pinned (OpenSpec.ofChange cubesConductSpec)

/-- ITS FALSE NEIGHBOUR: 'it returns false'. Refute it at one input. -/
def cubesConductWrong : ChangeSpec := { name := "cubesConduct", fn := fun _ => fun
  | [d1, d2, d3] => { results := [.lit (.bool false)], args := [d1, d2, d3] }
  | _ => none }
def CubesConductWrongFalsely : Prop := cubesConductRow.holds Try.pinned (OpenSpec.ofChange cubesConductWrong)

/-- 'armaturelaw13.CubesTurn': WHATEVER THE INPUT: true; the input reads as it did. -/
def cubesTurnSpec : ChangeSpec := { name := "cubesTurn", fn := fun _ => fun
  | [d] => { results := [.lit (.bool true)], args := [d] }
  | _ => none }
def cubesTurnRow : OpenClaim := { program := "ytknplnfoekeljaa", sum := "e7145c3f94caab502081f7b86b1c4db6de2b90b5b1e3a6c87a26066ada917a25", func := "armature/armaturelaw13.CubesTurn", spec := "cubesTurn", unfollowed := true, recurses := true, plainKeys := false, apart := false }
def CubesTurnSaid : Prop := cubesTurnRow.holds Try.pinned (OpenSpec.ofChange cubesTurnSpec)

/-- ITS FALSE NEIGHBOUR: 'it returns false'. Refute it at one input. -/
def cubesTurnWrong : ChangeSpec := { name := "cubesTurn", fn := fun _ => fun
  | [d] => { results := [.lit (.bool false)], args := [d] }
  | _ => none }
def CubesTurnWrongFalsely : Prop := cubesTurnRow.holds Try.pinned (OpenSpec.ofChange cubesTurnWrong)

/-- 'armaturelaw21.ScanLoops': WHATEVER THE INPUT: true; the input reads as it did. -/
def scanLoopsSpec : ChangeSpec := { name := "scanLoops", fn := fun _ => fun
  | [d1, d2] => { results := [.lit (.bool true)], args := [d1, d2] }
  | _ => none }
def scanLoopsRow : OpenClaim := { program := "ytknplnfoekeljaa", sum := "e7145c3f94caab502081f7b86b1c4db6de2b90b5b1e3a6c87a26066ada917a25", func := "armature/armaturelaw21.ScanLoops", spec := "scanLoops", unfollowed := true, recurses := true, plainKeys := false, apart := false }
def ScanLoopsSaid : Prop := scanLoopsRow.holds Try.pinned (OpenSpec.ofChange scanLoopsSpec)

/-- ITS FALSE NEIGHBOUR: 'it returns false'. Refute it at one input. -/
def scanLoopsWrong : ChangeSpec := { name := "scanLoops", fn := fun _ => fun
  | [d1, d2] => { results := [.lit (.bool false)], args := [d1, d2] }
  | _ => none }
def ScanLoopsWrongFalsely : Prop := scanLoopsRow.holds Try.pinned (OpenSpec.ofChange scanLoopsWrong)

/-- 'armaturelaw21.ScanLimit': WHATEVER THE INPUT: true; the input reads as it did. -/
def scanLimitSpec : ChangeSpec := { name := "scanLimit", fn := fun _ => fun
  | [d1, d2] => { results := [.lit (.bool true)], args := [d1, d2] }
  | _ => none }
def scanLimitRow : OpenClaim := { program := "ytknplnfoekeljaa", sum := "e7145c3f94caab502081f7b86b1c4db6de2b90b5b1e3a6c87a26066ada917a25", func := "armature/armaturelaw21.ScanLimit", spec := "scanLimit", unfollowed := true, recurses := true, plainKeys := false, apart := false }
def ScanLimitSaid : Prop := scanLimitRow.holds Try.pinned (OpenSpec.ofChange scanLimitSpec)

/-- ITS FALSE NEIGHBOUR: 'it returns false'. Refute it at one input. -/
def scanLimitWrong : ChangeSpec := { name := "scanLimit", fn := fun _ => fun
  | [d1, d2] => { results := [.lit (.bool false)], args := [d1, d2] }
  | _ => none }
def ScanLimitWrongFalsely : Prop := scanLimitRow.holds Try.pinned (OpenSpec.ofChange scanLimitWrong)

/-- 'armaturelaw21.ScanRuns': WHATEVER THE INPUT: true; the input reads as it did. -/
def scanRunsSpec : ChangeSpec := { name := "scanRuns", fn := fun _ => fun
  | [d1, d2, d3] => { results := [.lit (.bool true)], args := [d1, d2, d3] }
  | _ => none }
def scanRunsRow : OpenClaim := { program := "ytknplnfoekeljaa", sum := "e7145c3f94caab502081f7b86b1c4db6de2b90b5b1e3a6c87a26066ada917a25", func := "armature/armaturelaw21.ScanRuns", spec := "scanRuns", unfollowed := true, recurses := true, plainKeys := false, apart := false }
def ScanRunsSaid : Prop := scanRunsRow.holds Try.pinned (OpenSpec.ofChange scanRunsSpec)

/-- ITS FALSE NEIGHBOUR: 'it returns false'. Refute it at one input. -/
def scanRunsWrong : ChangeSpec := { name := "scanRuns", fn := fun _ => fun
  | [d1, d2, d3] => { results := [.lit (.bool false)], args := [d1, d2, d3] }
  | _ => none }
def ScanRunsWrongFalsely : Prop := scanRunsRow.holds Try.pinned (OpenSpec.ofChange scanRunsWrong)

/-- 'armaturelaw21.ScanParts': WHATEVER THE INPUT: true; the input reads as it did. -/
def scanPartsSpec : ChangeSpec := { name := "scanParts", fn := fun _ => fun
  | [d1, d2, d3] => { results := [.lit (.bool true)], args := [d1, d2, d3] }
  | _ => none }
def scanPartsRow : OpenClaim := { program := "ytknplnfoekeljaa", sum := "e7145c3f94caab502081f7b86b1c4db6de2b90b5b1e3a6c87a26066ada917a25", func := "armature/armaturelaw21.ScanParts", spec := "scanParts", unfollowed := true, recurses := true, plainKeys := false, apart := false }
def ScanPartsSaid : Prop := scanPartsRow.holds Try.pinned (OpenSpec.ofChange scanPartsSpec)

/-- ITS FALSE NEIGHBOUR: 'it returns false'. Refute it at one input. -/
def scanPartsWrong : ChangeSpec := { name := "scanParts", fn := fun _ => fun
  | [d1, d2, d3] => { results := [.lit (.bool false)], args := [d1, d2, d3] }
  | _ => none }
def ScanPartsWrongFalsely : Prop := scanPartsRow.holds Try.pinned (OpenSpec.ofChange scanPartsWrong)

/-- 'armaturelaw24.StableSmall': WHATEVER THE INPUT: true; the input reads as it did. -/
def stableSmallSpec : ChangeSpec := { name := "stableSmall", fn := fun _ => fun
  | [d1, d2] => { results := [.lit (.bool true)], args := [d1, d2] }
  | _ => none }
def stableSmallRow : OpenClaim := { program := "ytknplnfoekeljaa", sum := "e7145c3f94caab502081f7b86b1c4db6de2b90b5b1e3a6c87a26066ada917a25", func := "armature/armaturelaw24.StableSmall", spec := "stableSmall", inPlace := ["math/bits.Sub64"], unfollowed := true, recurses := true, plainKeys := false, apart := false }
def StableSmallSaid : Prop := stableSmallRow.holds Try.pinned (OpenSpec.ofChange stableSmallSpec)

/-- ITS FALSE NEIGHBOUR: 'it returns false'. Refute it at one input. -/
def stableSmallWrong : ChangeSpec := { name := "stableSmall", fn := fun _ => fun
  | [d1, d2] => { results := [.lit (.bool false)], args := [d1, d2] }
  | _ => none }
def StableSmallWrongFalsely : Prop := stableSmallRow.holds Try.pinned (OpenSpec.ofChange stableSmallWrong)

/-- 'armaturelaw15.ExciteFuzzy': WHATEVER THE INPUT: true; the input reads as it did. -/
def exciteFuzzySpec : ChangeSpec := { name := "exciteFuzzy", fn := fun _ => fun
  | [d1, d2, d3] => { results := [.lit (.bool true)], args := [d1, d2, d3] }
  | _ => none }
def exciteFuzzyRow : OpenClaim := { program := "ytknplnfoekeljaa", sum := "e7145c3f94caab502081f7b86b1c4db6de2b90b5b1e3a6c87a26066ada917a25", func := "armature/armaturelaw15.ExciteFuzzy", spec := "exciteFuzzy", unfollowed := true, recurses := true, plainKeys := false, apart := false }
def ExciteFuzzySaid : Prop := exciteFuzzyRow.holds Try.pinned (OpenSpec.ofChange exciteFuzzySpec)

/-- ITS FALSE NEIGHBOUR: 'it returns false'. Refute it at one input. -/
def exciteFuzzyWrong : ChangeSpec := { name := "exciteFuzzy", fn := fun _ => fun
  | [d1, d2, d3] => { results := [.lit (.bool false)], args := [d1, d2, d3] }
  | _ => none }
def ExciteFuzzyWrongFalsely : Prop := exciteFuzzyRow.holds Try.pinned (OpenSpec.ofChange exciteFuzzyWrong)

/-- 'armaturelaw15.ExciteGrows': WHATEVER THE INPUT: true; the input reads as it did. -/
def exciteGrowsSpec : ChangeSpec := { name := "exciteGrows", fn := fun _ => fun
  | [d1, d2, d3] => { results := [.lit (.bool true)], args := [d1, d2, d3] }
  | _ => none }
def exciteGrowsRow : OpenClaim := { program := "ytknplnfoekeljaa", sum := "e7145c3f94caab502081f7b86b1c4db6de2b90b5b1e3a6c87a26066ada917a25", func := "armature/armaturelaw15.ExciteGrows", spec := "exciteGrows", unfollowed := true, recurses := true, plainKeys := false, apart := false }
def ExciteGrowsSaid : Prop := exciteGrowsRow.holds Try.pinned (OpenSpec.ofChange exciteGrowsSpec)

/-- ITS FALSE NEIGHBOUR: 'it returns false'. Refute it at one input. -/
def exciteGrowsWrong : ChangeSpec := { name := "exciteGrows", fn := fun _ => fun
  | [d1, d2, d3] => { results := [.lit (.bool false)], args := [d1, d2, d3] }
  | _ => none }
def ExciteGrowsWrongFalsely : Prop := exciteGrowsRow.holds Try.pinned (OpenSpec.ofChange exciteGrowsWrong)

/-- 'armaturelaw15.ExciteKeeps': WHATEVER THE INPUT: true; the input reads as it did. -/
def exciteKeepsSpec : ChangeSpec := { name := "exciteKeeps", fn := fun _ => fun
  | [d1, d2, d3] => { results := [.lit (.bool true)], args := [d1, d2, d3] }
  | _ => none }
def exciteKeepsRow : OpenClaim := { program := "ytknplnfoekeljaa", sum := "e7145c3f94caab502081f7b86b1c4db6de2b90b5b1e3a6c87a26066ada917a25", func := "armature/armaturelaw15.ExciteKeeps", spec := "exciteKeeps", unfollowed := true, recurses := true, plainKeys := false, apart := false }
def ExciteKeepsSaid : Prop := exciteKeepsRow.holds Try.pinned (OpenSpec.ofChange exciteKeepsSpec)

/-- ITS FALSE NEIGHBOUR: 'it returns false'. Refute it at one input. -/
def exciteKeepsWrong : ChangeSpec := { name := "exciteKeeps", fn := fun _ => fun
  | [d1, d2, d3] => { results := [.lit (.bool false)], args := [d1, d2, d3] }
  | _ => none }
def ExciteKeepsWrongFalsely : Prop := exciteKeepsRow.holds Try.pinned (OpenSpec.ofChange exciteKeepsWrong)

/-- 'armaturelaw18.RiseGrows': WHATEVER THE INPUT: true; the input reads as it did. -/
def riseGrowsSpec : ChangeSpec := { name := "riseGrows", fn := fun _ => fun
  | [d1, d2, d3] => { results := [.lit (.bool true)], args := [d1, d2, d3] }
  | _ => none }
def riseGrowsRow : OpenClaim := { program := "ytknplnfoekeljaa", sum := "e7145c3f94caab502081f7b86b1c4db6de2b90b5b1e3a6c87a26066ada917a25", func := "armature/armaturelaw18.RiseGrows", spec := "riseGrows", unfollowed := true, recurses := true, plainKeys := false, apart := false }
def RiseGrowsSaid : Prop := riseGrowsRow.holds Try.pinned (OpenSpec.ofChange riseGrowsSpec)

/-- ITS FALSE NEIGHBOUR: 'it returns false'. Refute it at one input. -/
def riseGrowsWrong : ChangeSpec := { name := "riseGrows", fn := fun _ => fun
  | [d1, d2, d3] => { results := [.lit (.bool false)], args := [d1, d2, d3] }
  | _ => none }
def RiseGrowsWrongFalsely : Prop := riseGrowsRow.holds Try.pinned (OpenSpec.ofChange riseGrowsWrong)

/-- 'armaturelaw15.ExciteAllows': WHATEVER THE INPUT: true; the input reads as it did. -/
def exciteAllowsSpec : ChangeSpec := { name := "exciteAllows", fn := fun _ => fun
  | [d1, d2, d3] => { results := [.lit (.bool true)], args := [d1, d2, d3] }
  | _ => none }
def exciteAllowsRow : OpenClaim := { program := "ytknplnfoekeljaa", sum := "e7145c3f94caab502081f7b86b1c4db6de2b90b5b1e3a6c87a26066ada917a25", func := "armature/armaturelaw15.ExciteAllows", spec := "exciteAllows", unfollowed := true, recurses := true, plainKeys := false, apart := false }
def ExciteAllowsSaid : Prop := exciteAllowsRow.holds Try.pinned (OpenSpec.ofChange exciteAllowsSpec)

/-- ITS FALSE NEIGHBOUR: 'it returns false'. Refute it at one input. -/
def exciteAllowsWrong : ChangeSpec := { name := "exciteAllows", fn := fun _ => fun
  | [d1, d2, d3] => { results := [.lit (.bool false)], args := [d1, d2, d3] }
  | _ => none }
def ExciteAllowsWrongFalsely : Prop := exciteAllowsRow.holds Try.pinned (OpenSpec.ofChange exciteAllowsWrong)

/-- 'armaturelaw19.FallFalls': WHATEVER THE INPUT: true; the input reads as it did. -/
def fallFallsSpec : ChangeSpec := { name := "fallFalls", fn := fun _ => fun
  | [d1, d2] => { results := [.lit (.bool true)], args := [d1, d2] }
  | _ => none }
def fallFallsRow : OpenClaim := { program := "ytknplnfoekeljaa", sum := "e7145c3f94caab502081f7b86b1c4db6de2b90b5b1e3a6c87a26066ada917a25", func := "armature/armaturelaw19.FallFalls", spec := "fallFalls", unfollowed := true, recurses := true, plainKeys := false, apart := false }
def FallFallsSaid : Prop := fallFallsRow.holds Try.pinned (OpenSpec.ofChange fallFallsSpec)

/-- ITS FALSE NEIGHBOUR: 'it returns false'. Refute it at one input. -/
def fallFallsWrong : ChangeSpec := { name := "fallFalls", fn := fun _ => fun
  | [d1, d2] => { results := [.lit (.bool false)], args := [d1, d2] }
  | _ => none }
def FallFallsWrongFalsely : Prop := fallFallsRow.holds Try.pinned (OpenSpec.ofChange fallFallsWrong)

/- THE SECOND FORM. 'bulk': how many values and letters a reading holds, each counted each time it is reached (what is shared counts as often as it is met; a slice's spare places count too). A statement '..UptoSaid' is the law's where the arguments, and the package variables that the reading takes, are together of bulk at most 1048576: NARROWER than '..Said'. Prove '..Said' where nothing that the law and all that it calls make is longer than what came in: it says more and counts as full. Else prove '..UptoSaid'. A law counts once. -/
mutual
def uptoBulk {H : Type} : DataW H → Nat
  | .lit (.string bytes) => bytes.length + 1
  | .lit _ => 1
  | .nil => 1
  | .ptr d => uptoBulk d + 1
  | .slice elems spare => uptoBulkAll elems + uptoBulkAll spare + 1
  | .agg parts => uptoBulkAll parts + 1
  | .iface _ d => uptoBulk d + 1
  | .map entries => uptoBulkEntries entries + 1
  | .held _ => 1
def uptoBulkAll {H : Type} : List (DataW H) → Nat
  | [] => 0
  | d :: r => uptoBulk d + uptoBulkAll r
def uptoBulkEntries {H : Type} : List (Lit × DataW H) → Nat
  | [] => 0
  | x :: r => uptoBulkEntry x + uptoBulkEntries r
def uptoBulkEntry {H : Type} : Lit × DataW H → Nat
  | (.string bytes, d) => bytes.length + uptoBulk d + 1
  | (_, d) => uptoBulk d + 1
 end
def uptoSmall : (H : Type) → List (DataW H) → Bool := fun _ ds => decide (uptoBulkAll ds ≤ 1048576)
def OpenSpec.upto (s : _root_.Go.ChangeSpec) : _root_.Go.OpenSpec := { _root_.Go.OpenSpec.ofChange s with cond := some uptoSmall }

/-- 'armaturelaw13.CubesMeet', WHERE WHAT IT READS IS OF BULK AT MOST 1048576: true; the input reads as it did. -/
def cubesMeetUptoRow : OpenClaim := { program := "ytknplnfoekeljaa", sum := "e7145c3f94caab502081f7b86b1c4db6de2b90b5b1e3a6c87a26066ada917a25", func := "armature/armaturelaw13.CubesMeet", spec := "cubesMeet", unfollowed := true, recurses := true, plainKeys := false, apart := false, narrowed := true }
def CubesMeetUptoSaid : Prop := cubesMeetUptoRow.holds Try.pinned (OpenSpec.upto cubesMeetSpec)

/-- 'armaturelaw13.CubesOf', WHERE WHAT IT READS IS OF BULK AT MOST 1048576: true; the input reads as it did. -/
def cubesOfUptoRow : OpenClaim := { program := "ytknplnfoekeljaa", sum := "e7145c3f94caab502081f7b86b1c4db6de2b90b5b1e3a6c87a26066ada917a25", func := "armature/armaturelaw13.CubesOf", spec := "cubesOf", unfollowed := true, recurses := true, plainKeys := false, apart := false, narrowed := true }
def CubesOfUptoSaid : Prop := cubesOfUptoRow.holds Try.pinned (OpenSpec.upto cubesOfSpec)

/-- 'armaturelaw13.CubesMany', WHERE WHAT IT READS IS OF BULK AT MOST 1048576: true; the input reads as it did. -/
def cubesManyUptoRow : OpenClaim := { program := "ytknplnfoekeljaa", sum := "e7145c3f94caab502081f7b86b1c4db6de2b90b5b1e3a6c87a26066ada917a25", func := "armature/armaturelaw13.CubesMany", spec := "cubesMany", unfollowed := true, recurses := true, plainKeys := false, apart := false, narrowed := true }
def CubesManyUptoSaid : Prop := cubesManyUptoRow.holds Try.pinned (OpenSpec.upto cubesManySpec)

/-- 'armaturelaw15.ExciteTags', WHERE WHAT IT READS IS OF BULK AT MOST 1048576: true; the input reads as it did. -/
def exciteTagsUptoRow : OpenClaim := { program := "ytknplnfoekeljaa", sum := "e7145c3f94caab502081f7b86b1c4db6de2b90b5b1e3a6c87a26066ada917a25", func := "armature/armaturelaw15.ExciteTags", spec := "exciteTags", unfollowed := true, recurses := true, plainKeys := false, apart := false, narrowed := true }
def ExciteTagsUptoSaid : Prop := exciteTagsUptoRow.holds Try.pinned (OpenSpec.upto exciteTagsSpec)

/-- 'armaturelaw15.ExciteOf', WHERE WHAT IT READS IS OF BULK AT MOST 1048576: true; the input reads as it did. -/
def exciteOfUptoRow : OpenClaim := { program := "ytknplnfoekeljaa", sum := "e7145c3f94caab502081f7b86b1c4db6de2b90b5b1e3a6c87a26066ada917a25", func := "armature/armaturelaw15.ExciteOf", spec := "exciteOf", unfollowed := true, recurses := true, plainKeys := false, apart := false, narrowed := true }
def ExciteOfUptoSaid : Prop := exciteOfUptoRow.holds Try.pinned (OpenSpec.upto exciteOfSpec)

/-- 'armaturelaw13.CubesConduct', WHERE WHAT IT READS IS OF BULK AT MOST 1048576: true; the input reads as it did. -/
def cubesConductUptoRow : OpenClaim := { program := "ytknplnfoekeljaa", sum := "e7145c3f94caab502081f7b86b1c4db6de2b90b5b1e3a6c87a26066ada917a25", func := "armature/armaturelaw13.CubesConduct", spec := "cubesConduct", unfollowed := true, recurses := true, plainKeys := false, apart := false, narrowed := true }
def CubesConductUptoSaid : Prop := cubesConductUptoRow.holds Try.pinned (OpenSpec.upto cubesConductSpec)

/-- 'armaturelaw13.CubesTurn', WHERE WHAT IT READS IS OF BULK AT MOST 1048576: true; the input reads as it did. -/
def cubesTurnUptoRow : OpenClaim := { program := "ytknplnfoekeljaa", sum := "e7145c3f94caab502081f7b86b1c4db6de2b90b5b1e3a6c87a26066ada917a25", func := "armature/armaturelaw13.CubesTurn", spec := "cubesTurn", unfollowed := true, recurses := true, plainKeys := false, apart := false, narrowed := true }
def CubesTurnUptoSaid : Prop := cubesTurnUptoRow.holds Try.pinned (OpenSpec.upto cubesTurnSpec)

/-- 'armaturelaw21.ScanLoops', WHERE WHAT IT READS IS OF BULK AT MOST 1048576: true; the input reads as it did. -/
def scanLoopsUptoRow : OpenClaim := { program := "ytknplnfoekeljaa", sum := "e7145c3f94caab502081f7b86b1c4db6de2b90b5b1e3a6c87a26066ada917a25", func := "armature/armaturelaw21.ScanLoops", spec := "scanLoops", unfollowed := true, recurses := true, plainKeys := false, apart := false, narrowed := true }
def ScanLoopsUptoSaid : Prop := scanLoopsUptoRow.holds Try.pinned (OpenSpec.upto scanLoopsSpec)

/-- 'armaturelaw21.ScanLimit', WHERE WHAT IT READS IS OF BULK AT MOST 1048576: true; the input reads as it did. -/
def scanLimitUptoRow : OpenClaim := { program := "ytknplnfoekeljaa", sum := "e7145c3f94caab502081f7b86b1c4db6de2b90b5b1e3a6c87a26066ada917a25", func := "armature/armaturelaw21.ScanLimit", spec := "scanLimit", unfollowed := true, recurses := true, plainKeys := false, apart := false, narrowed := true }
def ScanLimitUptoSaid : Prop := scanLimitUptoRow.holds Try.pinned (OpenSpec.upto scanLimitSpec)

/-- 'armaturelaw21.ScanRuns', WHERE WHAT IT READS IS OF BULK AT MOST 1048576: true; the input reads as it did. -/
def scanRunsUptoRow : OpenClaim := { program := "ytknplnfoekeljaa", sum := "e7145c3f94caab502081f7b86b1c4db6de2b90b5b1e3a6c87a26066ada917a25", func := "armature/armaturelaw21.ScanRuns", spec := "scanRuns", unfollowed := true, recurses := true, plainKeys := false, apart := false, narrowed := true }
def ScanRunsUptoSaid : Prop := scanRunsUptoRow.holds Try.pinned (OpenSpec.upto scanRunsSpec)

/-- 'armaturelaw21.ScanParts', WHERE WHAT IT READS IS OF BULK AT MOST 1048576: true; the input reads as it did. -/
def scanPartsUptoRow : OpenClaim := { program := "ytknplnfoekeljaa", sum := "e7145c3f94caab502081f7b86b1c4db6de2b90b5b1e3a6c87a26066ada917a25", func := "armature/armaturelaw21.ScanParts", spec := "scanParts", unfollowed := true, recurses := true, plainKeys := false, apart := false, narrowed := true }
def ScanPartsUptoSaid : Prop := scanPartsUptoRow.holds Try.pinned (OpenSpec.upto scanPartsSpec)

/-- 'armaturelaw24.StableSmall', WHERE WHAT IT READS IS OF BULK AT MOST 1048576: true; the input reads as it did. -/
def stableSmallUptoRow : OpenClaim := { program := "ytknplnfoekeljaa", sum := "e7145c3f94caab502081f7b86b1c4db6de2b90b5b1e3a6c87a26066ada917a25", func := "armature/armaturelaw24.StableSmall", spec := "stableSmall", inPlace := ["math/bits.Sub64"], unfollowed := true, recurses := true, plainKeys := false, apart := false, narrowed := true }
def StableSmallUptoSaid : Prop := stableSmallUptoRow.holds Try.pinned (OpenSpec.upto stableSmallSpec)

/-- 'armaturelaw15.ExciteFuzzy', WHERE WHAT IT READS IS OF BULK AT MOST 1048576: true; the input reads as it did. -/
def exciteFuzzyUptoRow : OpenClaim := { program := "ytknplnfoekeljaa", sum := "e7145c3f94caab502081f7b86b1c4db6de2b90b5b1e3a6c87a26066ada917a25", func := "armature/armaturelaw15.ExciteFuzzy", spec := "exciteFuzzy", unfollowed := true, recurses := true, plainKeys := false, apart := false, narrowed := true }
def ExciteFuzzyUptoSaid : Prop := exciteFuzzyUptoRow.holds Try.pinned (OpenSpec.upto exciteFuzzySpec)

/-- 'armaturelaw15.ExciteGrows', WHERE WHAT IT READS IS OF BULK AT MOST 1048576: true; the input reads as it did. -/
def exciteGrowsUptoRow : OpenClaim := { program := "ytknplnfoekeljaa", sum := "e7145c3f94caab502081f7b86b1c4db6de2b90b5b1e3a6c87a26066ada917a25", func := "armature/armaturelaw15.ExciteGrows", spec := "exciteGrows", unfollowed := true, recurses := true, plainKeys := false, apart := false, narrowed := true }
def ExciteGrowsUptoSaid : Prop := exciteGrowsUptoRow.holds Try.pinned (OpenSpec.upto exciteGrowsSpec)

/-- 'armaturelaw15.ExciteKeeps', WHERE WHAT IT READS IS OF BULK AT MOST 1048576: true; the input reads as it did. -/
def exciteKeepsUptoRow : OpenClaim := { program := "ytknplnfoekeljaa", sum := "e7145c3f94caab502081f7b86b1c4db6de2b90b5b1e3a6c87a26066ada917a25", func := "armature/armaturelaw15.ExciteKeeps", spec := "exciteKeeps", unfollowed := true, recurses := true, plainKeys := false, apart := false, narrowed := true }
def ExciteKeepsUptoSaid : Prop := exciteKeepsUptoRow.holds Try.pinned (OpenSpec.upto exciteKeepsSpec)

/-- 'armaturelaw18.RiseGrows', WHERE WHAT IT READS IS OF BULK AT MOST 1048576: true; the input reads as it did. -/
def riseGrowsUptoRow : OpenClaim := { program := "ytknplnfoekeljaa", sum := "e7145c3f94caab502081f7b86b1c4db6de2b90b5b1e3a6c87a26066ada917a25", func := "armature/armaturelaw18.RiseGrows", spec := "riseGrows", unfollowed := true, recurses := true, plainKeys := false, apart := false, narrowed := true }
def RiseGrowsUptoSaid : Prop := riseGrowsUptoRow.holds Try.pinned (OpenSpec.upto riseGrowsSpec)

/-- 'armaturelaw15.ExciteAllows', WHERE WHAT IT READS IS OF BULK AT MOST 1048576: true; the input reads as it did. -/
def exciteAllowsUptoRow : OpenClaim := { program := "ytknplnfoekeljaa", sum := "e7145c3f94caab502081f7b86b1c4db6de2b90b5b1e3a6c87a26066ada917a25", func := "armature/armaturelaw15.ExciteAllows", spec := "exciteAllows", unfollowed := true, recurses := true, plainKeys := false, apart := false, narrowed := true }
def ExciteAllowsUptoSaid : Prop := exciteAllowsUptoRow.holds Try.pinned (OpenSpec.upto exciteAllowsSpec)

/-- 'armaturelaw19.FallFalls', WHERE WHAT IT READS IS OF BULK AT MOST 1048576: true; the input reads as it did. -/
def fallFallsUptoRow : OpenClaim := { program := "ytknplnfoekeljaa", sum := "e7145c3f94caab502081f7b86b1c4db6de2b90b5b1e3a6c87a26066ada917a25", func := "armature/armaturelaw19.FallFalls", spec := "fallFalls", unfollowed := true, recurses := true, plainKeys := false, apart := false, narrowed := true }
def FallFallsUptoSaid : Prop := fallFallsUptoRow.holds Try.pinned (OpenSpec.upto fallFallsSpec)

end Rows
end Go.Proofs.Ytknplnfoekeljaa
