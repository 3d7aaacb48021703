/-
  NARROWER THAN 'FOR EVERY INPUT', by the rows' own cells (each row's printed sentence says how): UnitLong: laid · UnitNexts: laid · UnitTurned: laid · UnitMakes: laid · UnitSplits: laid · UnitBack: laid · UnitJoins: laid · JobReplays: laid · JobEnds: laid · JobPlays: laid · JobApart: laid · JobStays: laid · LogPacks: laid · LogScans: laid · LogBack: laid · LogAgain: laid · LogJoins: laid · LogKeys: laid.
  DERIVED. THE GIVEN ROWS OF THIS SEAT. 18 by the template 'for every input the law returns true; each argument reads behind the call as it read before'; 0 by the template 'total and deterministic' (their statements: YtabklmkdneoaaaaDoorTotals.lean).
  GIVEN WITH THE SEED: the statements are not yours to turn. If you find one false, say at which input.
  Laid BY PROGRAM, IN A SANDBOX (cutbox-rows.mjs): the forced cells as the released guide's own fill.sh prints them over the translation dbe0c703e9cd4024… (all of the seat's roots in one cut). By AI agents, Wed Nov 11 2026. No macro, syntax, notation, axiom, sorry.
-/
import Derived.Test.YtabklmkdneoaaaaDoorChecked
import GoSem.Claim
import GoSem.ClaimJoined
import GoSem.ClaimMapViews
import Derived.JoinedTies
import Derived.KernelRfl
namespace Go.Proofs.YtabklmkdneoaaaaDoor
/- THE CELL 'sum', in the pinned program and in every row, IS THE sha256 OF THE DUMP (.gsa) THAT YtabklmkdneoaaaaDoorProg.lean LOADS. Nothing in Lean hashes anything: it is a label: what it is worth is what the hold of that sum in a sandbox is worth. -/
noncomputable def Tryd.pinned : Pinned := { name := "ytabklmkdneoaaaadoor", sum := "dbe0c703e9cd402482e6b426d3bcee02aedd0dec6d8887327f6dab9e9916ea6f", checked := Tryd.checked }
namespace Rows
def none {H : Type} : Left H := { results := [], args := [] }

/- WHAT THE LISTED PACKAGE-LEVEL VARIABLES READ AS WHEN THE CALL BEGINS. Each datum BY PROGRAM (the guide's laid-datum.mjs) off the statement by which the dump's own 'gosem.cut.vars' lays the variable. In a bare row this is a premise. The card (YtabklmkdneoaaaaDoorCards.lean) ties it to the program's text. -/
def laid_errors_errorType {H : Type} : DataW H := .iface "internal/reflectlite.rtype" (.agg [.ptr (.lit (.string [101, 114, 114, 111, 114]))])

/-- 'kinlaw4.UnitLong': WHATEVER THE INPUT: true; the input reads as it did. -/
def unitLongSpec : ChangeSpec := { name := "unitLong", fn := fun _ => fun
  | [d1, d2, d3] => { results := [.lit (.bool true)], args := [d1, d2, d3] }
  | _ => none }
def unitLongRow : OpenClaim := { program := "ytabklmkdneoaaaadoor", sum := "dbe0c703e9cd402482e6b426d3bcee02aedd0dec6d8887327f6dab9e9916ea6f", func := "kinescope/kinlaw4.UnitLong", spec := "unitLong", inPlace := ["internal/reflectlite.ValueOf", "(internal/reflectlite.Value).Type", "(internal/reflectlite.Value).IsNil", "internal/reflectlite.TypeOf", "(internal/reflectlite.Value).Elem", "(internal/reflectlite.Value).Set"], unfollowed := true, recurses := true, named := ["errors.errorType"], apart := false, laid := [("errors.errorType", laid_errors_errorType)] }
def UnitLongSaid : Prop := unitLongRow.holds Tryd.pinned (OpenSpec.ofChange unitLongSpec)

/-- ITS FALSE NEIGHBOUR: 'it returns false'. Refute it at one input. -/
def unitLongWrong : ChangeSpec := { name := "unitLong", fn := fun _ => fun
  | [d1, d2, d3] => { results := [.lit (.bool false)], args := [d1, d2, d3] }
  | _ => none }
def UnitLongWrongFalsely : Prop := unitLongRow.holds Tryd.pinned (OpenSpec.ofChange unitLongWrong)

/-- 'kinlaw4.UnitNexts': WHATEVER THE INPUT: true; the input reads as it did. -/
def unitNextsSpec : ChangeSpec := { name := "unitNexts", fn := fun _ => fun
  | [d1, d2] => { results := [.lit (.bool true)], args := [d1, d2] }
  | _ => none }
def unitNextsRow : OpenClaim := { program := "ytabklmkdneoaaaadoor", sum := "dbe0c703e9cd402482e6b426d3bcee02aedd0dec6d8887327f6dab9e9916ea6f", func := "kinescope/kinlaw4.UnitNexts", spec := "unitNexts", inPlace := ["internal/reflectlite.ValueOf", "(internal/reflectlite.Value).Type", "(internal/reflectlite.Value).IsNil", "internal/reflectlite.TypeOf", "(internal/reflectlite.Value).Elem", "(internal/reflectlite.Value).Set"], unfollowed := true, recurses := true, named := ["errors.errorType"], apart := false, laid := [("errors.errorType", laid_errors_errorType)] }
def UnitNextsSaid : Prop := unitNextsRow.holds Tryd.pinned (OpenSpec.ofChange unitNextsSpec)

/-- ITS FALSE NEIGHBOUR: 'it returns false'. Refute it at one input. -/
def unitNextsWrong : ChangeSpec := { name := "unitNexts", fn := fun _ => fun
  | [d1, d2] => { results := [.lit (.bool false)], args := [d1, d2] }
  | _ => none }
def UnitNextsWrongFalsely : Prop := unitNextsRow.holds Tryd.pinned (OpenSpec.ofChange unitNextsWrong)

/-- 'kinlaw4.UnitTurned': WHATEVER THE INPUT: true; the input reads as it did. -/
def unitTurnedSpec : ChangeSpec := { name := "unitTurned", fn := fun _ => fun
  | [d1, d2, d3, d4] => { results := [.lit (.bool true)], args := [d1, d2, d3, d4] }
  | _ => none }
def unitTurnedRow : OpenClaim := { program := "ytabklmkdneoaaaadoor", sum := "dbe0c703e9cd402482e6b426d3bcee02aedd0dec6d8887327f6dab9e9916ea6f", func := "kinescope/kinlaw4.UnitTurned", spec := "unitTurned", inPlace := ["internal/reflectlite.ValueOf", "(internal/reflectlite.Value).Type", "(internal/reflectlite.Value).IsNil", "internal/reflectlite.TypeOf", "(internal/reflectlite.Value).Elem", "(internal/reflectlite.Value).Set"], unfollowed := true, recurses := true, named := ["errors.errorType"], apart := false, laid := [("errors.errorType", laid_errors_errorType)] }
def UnitTurnedSaid : Prop := unitTurnedRow.holds Tryd.pinned (OpenSpec.ofChange unitTurnedSpec)

/-- ITS FALSE NEIGHBOUR: 'it returns false'. Refute it at one input. -/
def unitTurnedWrong : ChangeSpec := { name := "unitTurned", fn := fun _ => fun
  | [d1, d2, d3, d4] => { results := [.lit (.bool false)], args := [d1, d2, d3, d4] }
  | _ => none }
def UnitTurnedWrongFalsely : Prop := unitTurnedRow.holds Tryd.pinned (OpenSpec.ofChange unitTurnedWrong)

/-- 'kinlaw4.UnitMakes': WHATEVER THE INPUT: true; the input reads as it did. -/
def unitMakesSpec : ChangeSpec := { name := "unitMakes", fn := fun _ => fun
  | [d1, d2, d3] => { results := [.lit (.bool true)], args := [d1, d2, d3] }
  | _ => none }
def unitMakesRow : OpenClaim := { program := "ytabklmkdneoaaaadoor", sum := "dbe0c703e9cd402482e6b426d3bcee02aedd0dec6d8887327f6dab9e9916ea6f", func := "kinescope/kinlaw4.UnitMakes", spec := "unitMakes", inPlace := ["internal/reflectlite.ValueOf", "(internal/reflectlite.Value).Type", "(internal/reflectlite.Value).IsNil", "internal/reflectlite.TypeOf", "(internal/reflectlite.Value).Elem", "(internal/reflectlite.Value).Set"], unfollowed := true, recurses := true, named := ["errors.errorType"], apart := false, laid := [("errors.errorType", laid_errors_errorType)] }
def UnitMakesSaid : Prop := unitMakesRow.holds Tryd.pinned (OpenSpec.ofChange unitMakesSpec)

/-- ITS FALSE NEIGHBOUR: 'it returns false'. Refute it at one input. -/
def unitMakesWrong : ChangeSpec := { name := "unitMakes", fn := fun _ => fun
  | [d1, d2, d3] => { results := [.lit (.bool false)], args := [d1, d2, d3] }
  | _ => none }
def UnitMakesWrongFalsely : Prop := unitMakesRow.holds Tryd.pinned (OpenSpec.ofChange unitMakesWrong)

/-- 'kinlaw4.UnitSplits': WHATEVER THE INPUT: true; the input reads as it did. -/
def unitSplitsSpec : ChangeSpec := { name := "unitSplits", fn := fun _ => fun
  | [d] => { results := [.lit (.bool true)], args := [d] }
  | _ => none }
def unitSplitsRow : OpenClaim := { program := "ytabklmkdneoaaaadoor", sum := "dbe0c703e9cd402482e6b426d3bcee02aedd0dec6d8887327f6dab9e9916ea6f", func := "kinescope/kinlaw4.UnitSplits", spec := "unitSplits", inPlace := ["internal/reflectlite.ValueOf", "(internal/reflectlite.Value).Type", "(internal/reflectlite.Value).IsNil", "internal/reflectlite.TypeOf", "(internal/reflectlite.Value).Elem", "(internal/reflectlite.Value).Set"], unfollowed := true, recurses := true, named := ["errors.errorType"], apart := false, laid := [("errors.errorType", laid_errors_errorType)] }
def UnitSplitsSaid : Prop := unitSplitsRow.holds Tryd.pinned (OpenSpec.ofChange unitSplitsSpec)

/-- ITS FALSE NEIGHBOUR: 'it returns false'. Refute it at one input. -/
def unitSplitsWrong : ChangeSpec := { name := "unitSplits", fn := fun _ => fun
  | [d] => { results := [.lit (.bool false)], args := [d] }
  | _ => none }
def UnitSplitsWrongFalsely : Prop := unitSplitsRow.holds Tryd.pinned (OpenSpec.ofChange unitSplitsWrong)

/-- 'kinlaw4.UnitBack': WHATEVER THE INPUT: true; the input reads as it did. -/
def unitBackSpec : ChangeSpec := { name := "unitBack", fn := fun _ => fun
  | [d1, d2, d3] => { results := [.lit (.bool true)], args := [d1, d2, d3] }
  | _ => none }
def unitBackRow : OpenClaim := { program := "ytabklmkdneoaaaadoor", sum := "dbe0c703e9cd402482e6b426d3bcee02aedd0dec6d8887327f6dab9e9916ea6f", func := "kinescope/kinlaw4.UnitBack", spec := "unitBack", inPlace := ["internal/reflectlite.ValueOf", "(internal/reflectlite.Value).Type", "(internal/reflectlite.Value).IsNil", "internal/reflectlite.TypeOf", "(internal/reflectlite.Value).Elem", "(internal/reflectlite.Value).Set"], unfollowed := true, recurses := true, named := ["errors.errorType"], apart := false, laid := [("errors.errorType", laid_errors_errorType)] }
def UnitBackSaid : Prop := unitBackRow.holds Tryd.pinned (OpenSpec.ofChange unitBackSpec)

/-- ITS FALSE NEIGHBOUR: 'it returns false'. Refute it at one input. -/
def unitBackWrong : ChangeSpec := { name := "unitBack", fn := fun _ => fun
  | [d1, d2, d3] => { results := [.lit (.bool false)], args := [d1, d2, d3] }
  | _ => none }
def UnitBackWrongFalsely : Prop := unitBackRow.holds Tryd.pinned (OpenSpec.ofChange unitBackWrong)

/-- 'kinlaw4.UnitJoins': WHATEVER THE INPUT: true; the input reads as it did. -/
def unitJoinsSpec : ChangeSpec := { name := "unitJoins", fn := fun _ => fun
  | [d1, d2] => { results := [.lit (.bool true)], args := [d1, d2] }
  | _ => none }
def unitJoinsRow : OpenClaim := { program := "ytabklmkdneoaaaadoor", sum := "dbe0c703e9cd402482e6b426d3bcee02aedd0dec6d8887327f6dab9e9916ea6f", func := "kinescope/kinlaw4.UnitJoins", spec := "unitJoins", inPlace := ["internal/reflectlite.ValueOf", "(internal/reflectlite.Value).Type", "(internal/reflectlite.Value).IsNil", "internal/reflectlite.TypeOf", "(internal/reflectlite.Value).Elem", "(internal/reflectlite.Value).Set"], unfollowed := true, recurses := true, named := ["errors.errorType"], apart := false, laid := [("errors.errorType", laid_errors_errorType)] }
def UnitJoinsSaid : Prop := unitJoinsRow.holds Tryd.pinned (OpenSpec.ofChange unitJoinsSpec)

/-- ITS FALSE NEIGHBOUR: 'it returns false'. Refute it at one input. -/
def unitJoinsWrong : ChangeSpec := { name := "unitJoins", fn := fun _ => fun
  | [d1, d2] => { results := [.lit (.bool false)], args := [d1, d2] }
  | _ => none }
def UnitJoinsWrongFalsely : Prop := unitJoinsRow.holds Tryd.pinned (OpenSpec.ofChange unitJoinsWrong)

/-- 'kinlaw27.JobReplays': WHATEVER THE INPUT: true; the input reads as it did. -/
def jobReplaysSpec : ChangeSpec := { name := "jobReplays", fn := fun _ => fun
  | [d] => { results := [.lit (.bool true)], args := [d] }
  | _ => none }
def jobReplaysRow : OpenClaim := { program := "ytabklmkdneoaaaadoor", sum := "dbe0c703e9cd402482e6b426d3bcee02aedd0dec6d8887327f6dab9e9916ea6f", func := "kinescope/kinlaw27.JobReplays", spec := "jobReplays", inPlace := ["internal/reflectlite.ValueOf", "(internal/reflectlite.Value).Type", "(internal/reflectlite.Value).IsNil", "internal/reflectlite.TypeOf", "(internal/reflectlite.Value).Elem", "(internal/reflectlite.Value).Set"], unfollowed := true, recurses := true, named := ["errors.errorType"], apart := false, laid := [("errors.errorType", laid_errors_errorType)] }
def JobReplaysSaid : Prop := jobReplaysRow.holds Tryd.pinned (OpenSpec.ofChange jobReplaysSpec)

/-- ITS FALSE NEIGHBOUR: 'it returns false'. Refute it at one input. -/
def jobReplaysWrong : ChangeSpec := { name := "jobReplays", fn := fun _ => fun
  | [d] => { results := [.lit (.bool false)], args := [d] }
  | _ => none }
def JobReplaysWrongFalsely : Prop := jobReplaysRow.holds Tryd.pinned (OpenSpec.ofChange jobReplaysWrong)

/-- 'kinlaw27.JobEnds': WHATEVER THE INPUT: true; the input reads as it did. -/
def jobEndsSpec : ChangeSpec := { name := "jobEnds", fn := fun _ => fun
  | [d1, d2, d3] => { results := [.lit (.bool true)], args := [d1, d2, d3] }
  | _ => none }
def jobEndsRow : OpenClaim := { program := "ytabklmkdneoaaaadoor", sum := "dbe0c703e9cd402482e6b426d3bcee02aedd0dec6d8887327f6dab9e9916ea6f", func := "kinescope/kinlaw27.JobEnds", spec := "jobEnds", inPlace := ["internal/reflectlite.ValueOf", "(internal/reflectlite.Value).Type", "(internal/reflectlite.Value).IsNil", "internal/reflectlite.TypeOf", "(internal/reflectlite.Value).Elem", "(internal/reflectlite.Value).Set", "maps.clone"], unfollowed := true, recurses := true, named := ["errors.errorType"], apart := false, laid := [("errors.errorType", laid_errors_errorType)] }
def JobEndsSaid : Prop := jobEndsRow.holds Tryd.pinned (OpenSpec.ofChange jobEndsSpec)

/-- ITS FALSE NEIGHBOUR: 'it returns false'. Refute it at one input. -/
def jobEndsWrong : ChangeSpec := { name := "jobEnds", fn := fun _ => fun
  | [d1, d2, d3] => { results := [.lit (.bool false)], args := [d1, d2, d3] }
  | _ => none }
def JobEndsWrongFalsely : Prop := jobEndsRow.holds Tryd.pinned (OpenSpec.ofChange jobEndsWrong)

/-- 'kinlaw27.JobPlays': WHATEVER THE INPUT: true; the input reads as it did. -/
def jobPlaysSpec : ChangeSpec := { name := "jobPlays", fn := fun _ => fun
  | [d1, d2] => { results := [.lit (.bool true)], args := [d1, d2] }
  | _ => none }
def jobPlaysRow : OpenClaim := { program := "ytabklmkdneoaaaadoor", sum := "dbe0c703e9cd402482e6b426d3bcee02aedd0dec6d8887327f6dab9e9916ea6f", func := "kinescope/kinlaw27.JobPlays", spec := "jobPlays", inPlace := ["internal/reflectlite.ValueOf", "(internal/reflectlite.Value).Type", "(internal/reflectlite.Value).IsNil", "internal/reflectlite.TypeOf", "(internal/reflectlite.Value).Elem", "(internal/reflectlite.Value).Set", "maps.clone"], unfollowed := true, recurses := true, named := ["errors.errorType"], apart := false, laid := [("errors.errorType", laid_errors_errorType)] }
def JobPlaysSaid : Prop := jobPlaysRow.holds Tryd.pinned (OpenSpec.ofChange jobPlaysSpec)

/-- ITS FALSE NEIGHBOUR: 'it returns false'. Refute it at one input. -/
def jobPlaysWrong : ChangeSpec := { name := "jobPlays", fn := fun _ => fun
  | [d1, d2] => { results := [.lit (.bool false)], args := [d1, d2] }
  | _ => none }
def JobPlaysWrongFalsely : Prop := jobPlaysRow.holds Tryd.pinned (OpenSpec.ofChange jobPlaysWrong)

/-- 'kinlaw27.JobApart': WHATEVER THE INPUT: true; the input reads as it did. -/
def jobApartSpec : ChangeSpec := { name := "jobApart", fn := fun _ => fun
  | [d1, d2, d3] => { results := [.lit (.bool true)], args := [d1, d2, d3] }
  | _ => none }
def jobApartRow : OpenClaim := { program := "ytabklmkdneoaaaadoor", sum := "dbe0c703e9cd402482e6b426d3bcee02aedd0dec6d8887327f6dab9e9916ea6f", func := "kinescope/kinlaw27.JobApart", spec := "jobApart", inPlace := ["internal/reflectlite.ValueOf", "(internal/reflectlite.Value).Type", "(internal/reflectlite.Value).IsNil", "internal/reflectlite.TypeOf", "(internal/reflectlite.Value).Elem", "(internal/reflectlite.Value).Set", "maps.clone"], unfollowed := true, recurses := true, named := ["errors.errorType"], apart := false, laid := [("errors.errorType", laid_errors_errorType)] }
def JobApartSaid : Prop := jobApartRow.holds Tryd.pinned (OpenSpec.ofChange jobApartSpec)

/-- ITS FALSE NEIGHBOUR: 'it returns false'. Refute it at one input. -/
def jobApartWrong : ChangeSpec := { name := "jobApart", fn := fun _ => fun
  | [d1, d2, d3] => { results := [.lit (.bool false)], args := [d1, d2, d3] }
  | _ => none }
def JobApartWrongFalsely : Prop := jobApartRow.holds Tryd.pinned (OpenSpec.ofChange jobApartWrong)

/-- 'kinlaw27.JobStays': WHATEVER THE INPUT: true; the input reads as it did. -/
def jobStaysSpec : ChangeSpec := { name := "jobStays", fn := fun _ => fun
  | [d] => { results := [.lit (.bool true)], args := [d] }
  | _ => none }
def jobStaysRow : OpenClaim := { program := "ytabklmkdneoaaaadoor", sum := "dbe0c703e9cd402482e6b426d3bcee02aedd0dec6d8887327f6dab9e9916ea6f", func := "kinescope/kinlaw27.JobStays", spec := "jobStays", inPlace := ["internal/reflectlite.ValueOf", "(internal/reflectlite.Value).Type", "(internal/reflectlite.Value).IsNil", "internal/reflectlite.TypeOf", "(internal/reflectlite.Value).Elem", "(internal/reflectlite.Value).Set", "maps.clone"], unfollowed := true, recurses := true, named := ["errors.errorType"], apart := false, laid := [("errors.errorType", laid_errors_errorType)] }
def JobStaysSaid : Prop := jobStaysRow.holds Tryd.pinned (OpenSpec.ofChange jobStaysSpec)

/-- ITS FALSE NEIGHBOUR: 'it returns false'. Refute it at one input. -/
def jobStaysWrong : ChangeSpec := { name := "jobStays", fn := fun _ => fun
  | [d] => { results := [.lit (.bool false)], args := [d] }
  | _ => none }
def JobStaysWrongFalsely : Prop := jobStaysRow.holds Tryd.pinned (OpenSpec.ofChange jobStaysWrong)

/-- 'kinlaw26.LogPacks': WHATEVER THE INPUT: true; the input reads as it did. -/
def logPacksSpec : ChangeSpec := { name := "logPacks", fn := fun _ => fun
  | [d1, d2] => { results := [.lit (.bool true)], args := [d1, d2] }
  | _ => none }
def logPacksRow : OpenClaim := { program := "ytabklmkdneoaaaadoor", sum := "dbe0c703e9cd402482e6b426d3bcee02aedd0dec6d8887327f6dab9e9916ea6f", func := "kinescope/kinlaw26.LogPacks", spec := "logPacks", inPlace := ["internal/reflectlite.ValueOf", "(internal/reflectlite.Value).Type", "(internal/reflectlite.Value).IsNil", "internal/reflectlite.TypeOf", "(internal/reflectlite.Value).Elem", "(internal/reflectlite.Value).Set"], unfollowed := true, recurses := true, named := ["errors.errorType"], apart := false, laid := [("errors.errorType", laid_errors_errorType)] }
def LogPacksSaid : Prop := logPacksRow.holds Tryd.pinned (OpenSpec.ofChange logPacksSpec)

/-- ITS FALSE NEIGHBOUR: 'it returns false'. Refute it at one input. -/
def logPacksWrong : ChangeSpec := { name := "logPacks", fn := fun _ => fun
  | [d1, d2] => { results := [.lit (.bool false)], args := [d1, d2] }
  | _ => none }
def LogPacksWrongFalsely : Prop := logPacksRow.holds Tryd.pinned (OpenSpec.ofChange logPacksWrong)

/-- 'kinlaw26.LogScans': WHATEVER THE INPUT: true; the input reads as it did. -/
def logScansSpec : ChangeSpec := { name := "logScans", fn := fun _ => fun
  | [d] => { results := [.lit (.bool true)], args := [d] }
  | _ => none }
def logScansRow : OpenClaim := { program := "ytabklmkdneoaaaadoor", sum := "dbe0c703e9cd402482e6b426d3bcee02aedd0dec6d8887327f6dab9e9916ea6f", func := "kinescope/kinlaw26.LogScans", spec := "logScans", inPlace := ["internal/reflectlite.ValueOf", "(internal/reflectlite.Value).Type", "(internal/reflectlite.Value).IsNil", "internal/reflectlite.TypeOf", "(internal/reflectlite.Value).Elem", "(internal/reflectlite.Value).Set"], unfollowed := true, recurses := true, named := ["errors.errorType"], apart := false, laid := [("errors.errorType", laid_errors_errorType)] }
def LogScansSaid : Prop := logScansRow.holds Tryd.pinned (OpenSpec.ofChange logScansSpec)

/-- ITS FALSE NEIGHBOUR: 'it returns false'. Refute it at one input. -/
def logScansWrong : ChangeSpec := { name := "logScans", fn := fun _ => fun
  | [d] => { results := [.lit (.bool false)], args := [d] }
  | _ => none }
def LogScansWrongFalsely : Prop := logScansRow.holds Tryd.pinned (OpenSpec.ofChange logScansWrong)

/-- 'kinlaw26.LogBack': WHATEVER THE INPUT: true; the input reads as it did. -/
def logBackSpec : ChangeSpec := { name := "logBack", fn := fun _ => fun
  | [d1, d2] => { results := [.lit (.bool true)], args := [d1, d2] }
  | _ => none }
def logBackRow : OpenClaim := { program := "ytabklmkdneoaaaadoor", sum := "dbe0c703e9cd402482e6b426d3bcee02aedd0dec6d8887327f6dab9e9916ea6f", func := "kinescope/kinlaw26.LogBack", spec := "logBack", inPlace := ["internal/reflectlite.ValueOf", "(internal/reflectlite.Value).Type", "(internal/reflectlite.Value).IsNil", "internal/reflectlite.TypeOf", "(internal/reflectlite.Value).Elem", "(internal/reflectlite.Value).Set"], unfollowed := true, recurses := true, named := ["errors.errorType"], apart := false, laid := [("errors.errorType", laid_errors_errorType)] }
def LogBackSaid : Prop := logBackRow.holds Tryd.pinned (OpenSpec.ofChange logBackSpec)

/-- ITS FALSE NEIGHBOUR: 'it returns false'. Refute it at one input. -/
def logBackWrong : ChangeSpec := { name := "logBack", fn := fun _ => fun
  | [d1, d2] => { results := [.lit (.bool false)], args := [d1, d2] }
  | _ => none }
def LogBackWrongFalsely : Prop := logBackRow.holds Tryd.pinned (OpenSpec.ofChange logBackWrong)

/-- 'kinlaw26.LogAgain': WHATEVER THE INPUT: true; the input reads as it did. -/
def logAgainSpec : ChangeSpec := { name := "logAgain", fn := fun _ => fun
  | [d] => { results := [.lit (.bool true)], args := [d] }
  | _ => none }
def logAgainRow : OpenClaim := { program := "ytabklmkdneoaaaadoor", sum := "dbe0c703e9cd402482e6b426d3bcee02aedd0dec6d8887327f6dab9e9916ea6f", func := "kinescope/kinlaw26.LogAgain", spec := "logAgain", inPlace := ["internal/reflectlite.ValueOf", "(internal/reflectlite.Value).Type", "(internal/reflectlite.Value).IsNil", "internal/reflectlite.TypeOf", "(internal/reflectlite.Value).Elem", "(internal/reflectlite.Value).Set"], unfollowed := true, recurses := true, named := ["errors.errorType"], apart := false, laid := [("errors.errorType", laid_errors_errorType)] }
def LogAgainSaid : Prop := logAgainRow.holds Tryd.pinned (OpenSpec.ofChange logAgainSpec)

/-- ITS FALSE NEIGHBOUR: 'it returns false'. Refute it at one input. -/
def logAgainWrong : ChangeSpec := { name := "logAgain", fn := fun _ => fun
  | [d] => { results := [.lit (.bool false)], args := [d] }
  | _ => none }
def LogAgainWrongFalsely : Prop := logAgainRow.holds Tryd.pinned (OpenSpec.ofChange logAgainWrong)

/-- 'kinlaw26.LogJoins': WHATEVER THE INPUT: true; the input reads as it did. -/
def logJoinsSpec : ChangeSpec := { name := "logJoins", fn := fun _ => fun
  | [d1, d2] => { results := [.lit (.bool true)], args := [d1, d2] }
  | _ => none }
def logJoinsRow : OpenClaim := { program := "ytabklmkdneoaaaadoor", sum := "dbe0c703e9cd402482e6b426d3bcee02aedd0dec6d8887327f6dab9e9916ea6f", func := "kinescope/kinlaw26.LogJoins", spec := "logJoins", inPlace := ["internal/reflectlite.ValueOf", "(internal/reflectlite.Value).Type", "(internal/reflectlite.Value).IsNil", "internal/reflectlite.TypeOf", "(internal/reflectlite.Value).Elem", "(internal/reflectlite.Value).Set"], unfollowed := true, recurses := true, named := ["errors.errorType"], apart := false, laid := [("errors.errorType", laid_errors_errorType)] }
def LogJoinsSaid : Prop := logJoinsRow.holds Tryd.pinned (OpenSpec.ofChange logJoinsSpec)

/-- ITS FALSE NEIGHBOUR: 'it returns false'. Refute it at one input. -/
def logJoinsWrong : ChangeSpec := { name := "logJoins", fn := fun _ => fun
  | [d1, d2] => { results := [.lit (.bool false)], args := [d1, d2] }
  | _ => none }
def LogJoinsWrongFalsely : Prop := logJoinsRow.holds Tryd.pinned (OpenSpec.ofChange logJoinsWrong)

/-- 'kinlaw26.LogKeys': WHATEVER THE INPUT: true; the input reads as it did. -/
def logKeysSpec : ChangeSpec := { name := "logKeys", fn := fun _ => fun
  | [d1, d2] => { results := [.lit (.bool true)], args := [d1, d2] }
  | _ => none }
def logKeysRow : OpenClaim := { program := "ytabklmkdneoaaaadoor", sum := "dbe0c703e9cd402482e6b426d3bcee02aedd0dec6d8887327f6dab9e9916ea6f", func := "kinescope/kinlaw26.LogKeys", spec := "logKeys", inPlace := ["internal/reflectlite.ValueOf", "(internal/reflectlite.Value).Type", "(internal/reflectlite.Value).IsNil", "internal/reflectlite.TypeOf", "(internal/reflectlite.Value).Elem", "(internal/reflectlite.Value).Set"], unfollowed := true, recurses := true, named := ["errors.errorType"], apart := false, laid := [("errors.errorType", laid_errors_errorType)] }
def LogKeysSaid : Prop := logKeysRow.holds Tryd.pinned (OpenSpec.ofChange logKeysSpec)

/-- ITS FALSE NEIGHBOUR: 'it returns false'. Refute it at one input. -/
def logKeysWrong : ChangeSpec := { name := "logKeys", fn := fun _ => fun
  | [d1, d2] => { results := [.lit (.bool false)], args := [d1, d2] }
  | _ => none }
def LogKeysWrongFalsely : Prop := logKeysRow.holds Tryd.pinned (OpenSpec.ofChange logKeysWrong)

/- THE SECOND FORM. 'bulk': how many values and letters a reading holds, each counted each time it is reached (what is shared counts as often as it is met; a slice's spare places count too). A statement '..UptoSaid' is the law's where the arguments, and the package variables that the reading takes, are together of bulk at most 1048576: NARROWER than '..Said'. Prove '..Said' where nothing that the law and all that it calls make is longer than what came in: it says more and counts as full. Else prove '..UptoSaid'. A law counts once. -/
mutual
def uptoBulk {H : Type} : DataW H → Nat
  | .lit (.string bytes) => bytes.length + 1
  | .lit _ => 1
  | .nil => 1
  | .ptr d => uptoBulk d + 1
  | .slice elems spare => uptoBulkAll elems + uptoBulkAll spare + 1
  | .agg parts => uptoBulkAll parts + 1
  | .iface _ d => uptoBulk d + 1
  | .map entries => uptoBulkEntries entries + 1
  | .held _ => 1
def uptoBulkAll {H : Type} : List (DataW H) → Nat
  | [] => 0
  | d :: r => uptoBulk d + uptoBulkAll r
def uptoBulkEntries {H : Type} : List (Lit × DataW H) → Nat
  | [] => 0
  | x :: r => uptoBulkEntry x + uptoBulkEntries r
def uptoBulkEntry {H : Type} : Lit × DataW H → Nat
  | (.string bytes, d) => bytes.length + uptoBulk d + 1
  | (_, d) => uptoBulk d + 1
 end
def uptoSmall : (H : Type) → List (DataW H) → Bool := fun _ ds => decide (uptoBulkAll ds ≤ 1048576)
def OpenSpec.upto (s : _root_.Go.ChangeSpec) : _root_.Go.OpenSpec := { _root_.Go.OpenSpec.ofChange s with cond := some uptoSmall }

/-- 'kinlaw4.UnitLong', WHERE WHAT IT READS IS OF BULK AT MOST 1048576: true; the input reads as it did. -/
def unitLongUptoRow : OpenClaim := { program := "ytabklmkdneoaaaadoor", sum := "dbe0c703e9cd402482e6b426d3bcee02aedd0dec6d8887327f6dab9e9916ea6f", func := "kinescope/kinlaw4.UnitLong", spec := "unitLong", inPlace := ["internal/reflectlite.ValueOf", "(internal/reflectlite.Value).Type", "(internal/reflectlite.Value).IsNil", "internal/reflectlite.TypeOf", "(internal/reflectlite.Value).Elem", "(internal/reflectlite.Value).Set"], unfollowed := true, recurses := true, named := ["errors.errorType"], apart := false, laid := [("errors.errorType", laid_errors_errorType)], narrowed := true }
def UnitLongUptoSaid : Prop := unitLongUptoRow.holds Tryd.pinned (OpenSpec.upto unitLongSpec)

/-- 'kinlaw4.UnitNexts', WHERE WHAT IT READS IS OF BULK AT MOST 1048576: true; the input reads as it did. -/
def unitNextsUptoRow : OpenClaim := { program := "ytabklmkdneoaaaadoor", sum := "dbe0c703e9cd402482e6b426d3bcee02aedd0dec6d8887327f6dab9e9916ea6f", func := "kinescope/kinlaw4.UnitNexts", spec := "unitNexts", inPlace := ["internal/reflectlite.ValueOf", "(internal/reflectlite.Value).Type", "(internal/reflectlite.Value).IsNil", "internal/reflectlite.TypeOf", "(internal/reflectlite.Value).Elem", "(internal/reflectlite.Value).Set"], unfollowed := true, recurses := true, named := ["errors.errorType"], apart := false, laid := [("errors.errorType", laid_errors_errorType)], narrowed := true }
def UnitNextsUptoSaid : Prop := unitNextsUptoRow.holds Tryd.pinned (OpenSpec.upto unitNextsSpec)

/-- 'kinlaw4.UnitTurned', WHERE WHAT IT READS IS OF BULK AT MOST 1048576: true; the input reads as it did. -/
def unitTurnedUptoRow : OpenClaim := { program := "ytabklmkdneoaaaadoor", sum := "dbe0c703e9cd402482e6b426d3bcee02aedd0dec6d8887327f6dab9e9916ea6f", func := "kinescope/kinlaw4.UnitTurned", spec := "unitTurned", inPlace := ["internal/reflectlite.ValueOf", "(internal/reflectlite.Value).Type", "(internal/reflectlite.Value).IsNil", "internal/reflectlite.TypeOf", "(internal/reflectlite.Value).Elem", "(internal/reflectlite.Value).Set"], unfollowed := true, recurses := true, named := ["errors.errorType"], apart := false, laid := [("errors.errorType", laid_errors_errorType)], narrowed := true }
def UnitTurnedUptoSaid : Prop := unitTurnedUptoRow.holds Tryd.pinned (OpenSpec.upto unitTurnedSpec)

/-- 'kinlaw4.UnitMakes', WHERE WHAT IT READS IS OF BULK AT MOST 1048576: true; the input reads as it did. -/
def unitMakesUptoRow : OpenClaim := { program := "ytabklmkdneoaaaadoor", sum := "dbe0c703e9cd402482e6b426d3bcee02aedd0dec6d8887327f6dab9e9916ea6f", func := "kinescope/kinlaw4.UnitMakes", spec := "unitMakes", inPlace := ["internal/reflectlite.ValueOf", "(internal/reflectlite.Value).Type", "(internal/reflectlite.Value).IsNil", "internal/reflectlite.TypeOf", "(internal/reflectlite.Value).Elem", "(internal/reflectlite.Value).Set"], unfollowed := true, recurses := true, named := ["errors.errorType"], apart := false, laid := [("errors.errorType", laid_errors_errorType)], narrowed := true }
def UnitMakesUptoSaid : Prop := unitMakesUptoRow.holds Tryd.pinned (OpenSpec.upto unitMakesSpec)

/-- 'kinlaw4.UnitSplits', WHERE WHAT IT READS IS OF BULK AT MOST 1048576: true; the input reads as it did. -/
def unitSplitsUptoRow : OpenClaim := { program := "ytabklmkdneoaaaadoor", sum := "dbe0c703e9cd402482e6b426d3bcee02aedd0dec6d8887327f6dab9e9916ea6f", func := "kinescope/kinlaw4.UnitSplits", spec := "unitSplits", inPlace := ["internal/reflectlite.ValueOf", "(internal/reflectlite.Value).Type", "(internal/reflectlite.Value).IsNil", "internal/reflectlite.TypeOf", "(internal/reflectlite.Value).Elem", "(internal/reflectlite.Value).Set"], unfollowed := true, recurses := true, named := ["errors.errorType"], apart := false, laid := [("errors.errorType", laid_errors_errorType)], narrowed := true }
def UnitSplitsUptoSaid : Prop := unitSplitsUptoRow.holds Tryd.pinned (OpenSpec.upto unitSplitsSpec)

/-- 'kinlaw4.UnitBack', WHERE WHAT IT READS IS OF BULK AT MOST 1048576: true; the input reads as it did. -/
def unitBackUptoRow : OpenClaim := { program := "ytabklmkdneoaaaadoor", sum := "dbe0c703e9cd402482e6b426d3bcee02aedd0dec6d8887327f6dab9e9916ea6f", func := "kinescope/kinlaw4.UnitBack", spec := "unitBack", inPlace := ["internal/reflectlite.ValueOf", "(internal/reflectlite.Value).Type", "(internal/reflectlite.Value).IsNil", "internal/reflectlite.TypeOf", "(internal/reflectlite.Value).Elem", "(internal/reflectlite.Value).Set"], unfollowed := true, recurses := true, named := ["errors.errorType"], apart := false, laid := [("errors.errorType", laid_errors_errorType)], narrowed := true }
def UnitBackUptoSaid : Prop := unitBackUptoRow.holds Tryd.pinned (OpenSpec.upto unitBackSpec)

/-- 'kinlaw4.UnitJoins', WHERE WHAT IT READS IS OF BULK AT MOST 1048576: true; the input reads as it did. -/
def unitJoinsUptoRow : OpenClaim := { program := "ytabklmkdneoaaaadoor", sum := "dbe0c703e9cd402482e6b426d3bcee02aedd0dec6d8887327f6dab9e9916ea6f", func := "kinescope/kinlaw4.UnitJoins", spec := "unitJoins", inPlace := ["internal/reflectlite.ValueOf", "(internal/reflectlite.Value).Type", "(internal/reflectlite.Value).IsNil", "internal/reflectlite.TypeOf", "(internal/reflectlite.Value).Elem", "(internal/reflectlite.Value).Set"], unfollowed := true, recurses := true, named := ["errors.errorType"], apart := false, laid := [("errors.errorType", laid_errors_errorType)], narrowed := true }
def UnitJoinsUptoSaid : Prop := unitJoinsUptoRow.holds Tryd.pinned (OpenSpec.upto unitJoinsSpec)

/-- 'kinlaw27.JobReplays', WHERE WHAT IT READS IS OF BULK AT MOST 1048576: true; the input reads as it did. -/
def jobReplaysUptoRow : OpenClaim := { program := "ytabklmkdneoaaaadoor", sum := "dbe0c703e9cd402482e6b426d3bcee02aedd0dec6d8887327f6dab9e9916ea6f", func := "kinescope/kinlaw27.JobReplays", spec := "jobReplays", inPlace := ["internal/reflectlite.ValueOf", "(internal/reflectlite.Value).Type", "(internal/reflectlite.Value).IsNil", "internal/reflectlite.TypeOf", "(internal/reflectlite.Value).Elem", "(internal/reflectlite.Value).Set"], unfollowed := true, recurses := true, named := ["errors.errorType"], apart := false, laid := [("errors.errorType", laid_errors_errorType)], narrowed := true }
def JobReplaysUptoSaid : Prop := jobReplaysUptoRow.holds Tryd.pinned (OpenSpec.upto jobReplaysSpec)

/-- 'kinlaw27.JobEnds', WHERE WHAT IT READS IS OF BULK AT MOST 1048576: true; the input reads as it did. -/
def jobEndsUptoRow : OpenClaim := { program := "ytabklmkdneoaaaadoor", sum := "dbe0c703e9cd402482e6b426d3bcee02aedd0dec6d8887327f6dab9e9916ea6f", func := "kinescope/kinlaw27.JobEnds", spec := "jobEnds", inPlace := ["internal/reflectlite.ValueOf", "(internal/reflectlite.Value).Type", "(internal/reflectlite.Value).IsNil", "internal/reflectlite.TypeOf", "(internal/reflectlite.Value).Elem", "(internal/reflectlite.Value).Set", "maps.clone"], unfollowed := true, recurses := true, named := ["errors.errorType"], apart := false, laid := [("errors.errorType", laid_errors_errorType)], narrowed := true }
def JobEndsUptoSaid : Prop := jobEndsUptoRow.holds Tryd.pinned (OpenSpec.upto jobEndsSpec)

/-- 'kinlaw27.JobPlays', WHERE WHAT IT READS IS OF BULK AT MOST 1048576: true; the input reads as it did. -/
def jobPlaysUptoRow : OpenClaim := { program := "ytabklmkdneoaaaadoor", sum := "dbe0c703e9cd402482e6b426d3bcee02aedd0dec6d8887327f6dab9e9916ea6f", func := "kinescope/kinlaw27.JobPlays", spec := "jobPlays", inPlace := ["internal/reflectlite.ValueOf", "(internal/reflectlite.Value).Type", "(internal/reflectlite.Value).IsNil", "internal/reflectlite.TypeOf", "(internal/reflectlite.Value).Elem", "(internal/reflectlite.Value).Set", "maps.clone"], unfollowed := true, recurses := true, named := ["errors.errorType"], apart := false, laid := [("errors.errorType", laid_errors_errorType)], narrowed := true }
def JobPlaysUptoSaid : Prop := jobPlaysUptoRow.holds Tryd.pinned (OpenSpec.upto jobPlaysSpec)

/-- 'kinlaw27.JobApart', WHERE WHAT IT READS IS OF BULK AT MOST 1048576: true; the input reads as it did. -/
def jobApartUptoRow : OpenClaim := { program := "ytabklmkdneoaaaadoor", sum := "dbe0c703e9cd402482e6b426d3bcee02aedd0dec6d8887327f6dab9e9916ea6f", func := "kinescope/kinlaw27.JobApart", spec := "jobApart", inPlace := ["internal/reflectlite.ValueOf", "(internal/reflectlite.Value).Type", "(internal/reflectlite.Value).IsNil", "internal/reflectlite.TypeOf", "(internal/reflectlite.Value).Elem", "(internal/reflectlite.Value).Set", "maps.clone"], unfollowed := true, recurses := true, named := ["errors.errorType"], apart := false, laid := [("errors.errorType", laid_errors_errorType)], narrowed := true }
def JobApartUptoSaid : Prop := jobApartUptoRow.holds Tryd.pinned (OpenSpec.upto jobApartSpec)

/-- 'kinlaw27.JobStays', WHERE WHAT IT READS IS OF BULK AT MOST 1048576: true; the input reads as it did. -/
def jobStaysUptoRow : OpenClaim := { program := "ytabklmkdneoaaaadoor", sum := "dbe0c703e9cd402482e6b426d3bcee02aedd0dec6d8887327f6dab9e9916ea6f", func := "kinescope/kinlaw27.JobStays", spec := "jobStays", inPlace := ["internal/reflectlite.ValueOf", "(internal/reflectlite.Value).Type", "(internal/reflectlite.Value).IsNil", "internal/reflectlite.TypeOf", "(internal/reflectlite.Value).Elem", "(internal/reflectlite.Value).Set", "maps.clone"], unfollowed := true, recurses := true, named := ["errors.errorType"], apart := false, laid := [("errors.errorType", laid_errors_errorType)], narrowed := true }
def JobStaysUptoSaid : Prop := jobStaysUptoRow.holds Tryd.pinned (OpenSpec.upto jobStaysSpec)

/-- 'kinlaw26.LogPacks', WHERE WHAT IT READS IS OF BULK AT MOST 1048576: true; the input reads as it did. -/
def logPacksUptoRow : OpenClaim := { program := "ytabklmkdneoaaaadoor", sum := "dbe0c703e9cd402482e6b426d3bcee02aedd0dec6d8887327f6dab9e9916ea6f", func := "kinescope/kinlaw26.LogPacks", spec := "logPacks", inPlace := ["internal/reflectlite.ValueOf", "(internal/reflectlite.Value).Type", "(internal/reflectlite.Value).IsNil", "internal/reflectlite.TypeOf", "(internal/reflectlite.Value).Elem", "(internal/reflectlite.Value).Set"], unfollowed := true, recurses := true, named := ["errors.errorType"], apart := false, laid := [("errors.errorType", laid_errors_errorType)], narrowed := true }
def LogPacksUptoSaid : Prop := logPacksUptoRow.holds Tryd.pinned (OpenSpec.upto logPacksSpec)

/-- 'kinlaw26.LogScans', WHERE WHAT IT READS IS OF BULK AT MOST 1048576: true; the input reads as it did. -/
def logScansUptoRow : OpenClaim := { program := "ytabklmkdneoaaaadoor", sum := "dbe0c703e9cd402482e6b426d3bcee02aedd0dec6d8887327f6dab9e9916ea6f", func := "kinescope/kinlaw26.LogScans", spec := "logScans", inPlace := ["internal/reflectlite.ValueOf", "(internal/reflectlite.Value).Type", "(internal/reflectlite.Value).IsNil", "internal/reflectlite.TypeOf", "(internal/reflectlite.Value).Elem", "(internal/reflectlite.Value).Set"], unfollowed := true, recurses := true, named := ["errors.errorType"], apart := false, laid := [("errors.errorType", laid_errors_errorType)], narrowed := true }
def LogScansUptoSaid : Prop := logScansUptoRow.holds Tryd.pinned (OpenSpec.upto logScansSpec)

/-- 'kinlaw26.LogBack', WHERE WHAT IT READS IS OF BULK AT MOST 1048576: true; the input reads as it did. -/
def logBackUptoRow : OpenClaim := { program := "ytabklmkdneoaaaadoor", sum := "dbe0c703e9cd402482e6b426d3bcee02aedd0dec6d8887327f6dab9e9916ea6f", func := "kinescope/kinlaw26.LogBack", spec := "logBack", inPlace := ["internal/reflectlite.ValueOf", "(internal/reflectlite.Value).Type", "(internal/reflectlite.Value).IsNil", "internal/reflectlite.TypeOf", "(internal/reflectlite.Value).Elem", "(internal/reflectlite.Value).Set"], unfollowed := true, recurses := true, named := ["errors.errorType"], apart := false, laid := [("errors.errorType", laid_errors_errorType)], narrowed := true }
def LogBackUptoSaid : Prop := logBackUptoRow.holds Tryd.pinned (OpenSpec.upto logBackSpec)

/-- 'kinlaw26.LogAgain', WHERE WHAT IT READS IS OF BULK AT MOST 1048576: true; the input reads as it did. -/
def logAgainUptoRow : OpenClaim := { program := "ytabklmkdneoaaaadoor", sum := "dbe0c703e9cd402482e6b426d3bcee02aedd0dec6d8887327f6dab9e9916ea6f", func := "kinescope/kinlaw26.LogAgain", spec := "logAgain", inPlace := ["internal/reflectlite.ValueOf", "(internal/reflectlite.Value).Type", "(internal/reflectlite.Value).IsNil", "internal/reflectlite.TypeOf", "(internal/reflectlite.Value).Elem", "(internal/reflectlite.Value).Set"], unfollowed := true, recurses := true, named := ["errors.errorType"], apart := false, laid := [("errors.errorType", laid_errors_errorType)], narrowed := true }
def LogAgainUptoSaid : Prop := logAgainUptoRow.holds Tryd.pinned (OpenSpec.upto logAgainSpec)

/-- 'kinlaw26.LogJoins', WHERE WHAT IT READS IS OF BULK AT MOST 1048576: true; the input reads as it did. -/
def logJoinsUptoRow : OpenClaim := { program := "ytabklmkdneoaaaadoor", sum := "dbe0c703e9cd402482e6b426d3bcee02aedd0dec6d8887327f6dab9e9916ea6f", func := "kinescope/kinlaw26.LogJoins", spec := "logJoins", inPlace := ["internal/reflectlite.ValueOf", "(internal/reflectlite.Value).Type", "(internal/reflectlite.Value).IsNil", "internal/reflectlite.TypeOf", "(internal/reflectlite.Value).Elem", "(internal/reflectlite.Value).Set"], unfollowed := true, recurses := true, named := ["errors.errorType"], apart := false, laid := [("errors.errorType", laid_errors_errorType)], narrowed := true }
def LogJoinsUptoSaid : Prop := logJoinsUptoRow.holds Tryd.pinned (OpenSpec.upto logJoinsSpec)

/-- 'kinlaw26.LogKeys', WHERE WHAT IT READS IS OF BULK AT MOST 1048576: true; the input reads as it did. -/
def logKeysUptoRow : OpenClaim := { program := "ytabklmkdneoaaaadoor", sum := "dbe0c703e9cd402482e6b426d3bcee02aedd0dec6d8887327f6dab9e9916ea6f", func := "kinescope/kinlaw26.LogKeys", spec := "logKeys", inPlace := ["internal/reflectlite.ValueOf", "(internal/reflectlite.Value).Type", "(internal/reflectlite.Value).IsNil", "internal/reflectlite.TypeOf", "(internal/reflectlite.Value).Elem", "(internal/reflectlite.Value).Set"], unfollowed := true, recurses := true, named := ["errors.errorType"], apart := false, laid := [("errors.errorType", laid_errors_errorType)], narrowed := true }
def LogKeysUptoSaid : Prop := logKeysUptoRow.holds Tryd.pinned (OpenSpec.upto logKeysSpec)

end Rows
end Go.Proofs.YtabklmkdneoaaaaDoor
