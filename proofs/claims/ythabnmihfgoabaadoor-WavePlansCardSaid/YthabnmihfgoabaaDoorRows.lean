/-
  NARROWER THAN 'FOR EVERY INPUT', by the rows' own cells (each row's printed sentence says how): WavePlans: laid · WaveJudges: laid · WaveAll: laid · WaveTurned: laid · WaveMore: laid · WaveOrder: laid · WaveLess: laid.
  DERIVED. THE GIVEN ROWS OF THIS SEAT. 7 by the template 'for every input the law returns true; each argument reads behind the call as it read before'; 0 by the template 'total and deterministic' (their statements: YthabnmihfgoabaaDoorTotals.lean).
  GIVEN WITH THE SEED: the statements are not yours to turn. If you find one false, say at which input.
  Laid BY PROGRAM, IN A SANDBOX (cutbox-rows.mjs): the forced cells as the released guide's own fill.sh prints them over the translation bbcd88ce88e7df84… (all of the seat's roots in one cut). By AI agents, Wed Nov 11 2026. No macro, syntax, notation, axiom, sorry.
-/
import Derived.Test.YthabnmihfgoabaaDoorChecked
import GoSem.Claim
import GoSem.ClaimJoined
import GoSem.ClaimMapViews
import Derived.JoinedTies
import Derived.KernelRfl
namespace Go.Proofs.YthabnmihfgoabaaDoor
/- THE CELL 'sum', in the pinned program and in every row, IS THE sha256 OF THE DUMP (.gsa) THAT YthabnmihfgoabaaDoorProg.lean LOADS. Nothing in Lean hashes anything: it is a label: what it is worth is what the hold of that sum in a sandbox is worth. -/
noncomputable def Tryd.pinned : Pinned := { name := "ythabnmihfgoabaadoor", sum := "bbcd88ce88e7df841d9f6ced15fe8980c7f66368a99f2f96d771cfde8277ee37", checked := Tryd.checked }
namespace Rows
def none {H : Type} : Left H := { results := [], args := [] }

/- WHAT THE LISTED PACKAGE-LEVEL VARIABLES READ AS WHEN THE CALL BEGINS. Each datum BY PROGRAM (the guide's laid-datum.mjs) off the statement by which the dump's own 'gosem.cut.vars' lays the variable. In a bare row this is a premise. The card (YthabnmihfgoabaaDoorCards.lean) ties it to the program's text. -/
def laid_pennant_crc_steps {H : Type} : DataW H := .agg [.lit (.int .u32 0), .lit (.int .u32 8801531), .lit (.int .u32 9098509), .lit (.int .u32 825846), .lit (.int .u32 9692897), .lit (.int .u32 1419802), .lit (.int .u32 1651692), .lit (.int .u32 10452759), .lit (.int .u32 10584377), .lit (.int .u32 2608578), .lit (.int .u32 2839604), .lit (.int .u32 11344079), .lit (.int .u32 3303384), .lit (.int .u32 11807523), .lit (.int .u32 12104405), .lit (.int .u32 4128302)]

/-- 'pennantlaw15.WavePlans': WHATEVER THE INPUT: true; the input reads as it did. -/
def wavePlansSpec : ChangeSpec := { name := "wavePlans", fn := fun _ => fun
  | [d1, d2, d3] => { results := [.lit (.bool true)], args := [d1, d2, d3] }
  | _ => none }
def wavePlansRow : OpenClaim := { program := "ythabnmihfgoabaadoor", sum := "bbcd88ce88e7df841d9f6ced15fe8980c7f66368a99f2f96d771cfde8277ee37", func := "pennant/pennantlaw15.WavePlans", spec := "wavePlans", unfollowed := true, recurses := true, named := ["pennant/crc.steps"], apart := false, laid := [("pennant/crc.steps", laid_pennant_crc_steps)] }
def WavePlansSaid : Prop := wavePlansRow.holds Tryd.pinned (OpenSpec.ofChange wavePlansSpec)

/-- ITS FALSE NEIGHBOUR: 'it returns false'. Refute it at one input. -/
def wavePlansWrong : ChangeSpec := { name := "wavePlans", fn := fun _ => fun
  | [d1, d2, d3] => { results := [.lit (.bool false)], args := [d1, d2, d3] }
  | _ => none }
def WavePlansWrongFalsely : Prop := wavePlansRow.holds Tryd.pinned (OpenSpec.ofChange wavePlansWrong)

/-- 'pennantlaw15.WaveJudges': WHATEVER THE INPUT: true; the input reads as it did. -/
def waveJudgesSpec : ChangeSpec := { name := "waveJudges", fn := fun _ => fun
  | [d1, d2, d3] => { results := [.lit (.bool true)], args := [d1, d2, d3] }
  | _ => none }
def waveJudgesRow : OpenClaim := { program := "ythabnmihfgoabaadoor", sum := "bbcd88ce88e7df841d9f6ced15fe8980c7f66368a99f2f96d771cfde8277ee37", func := "pennant/pennantlaw15.WaveJudges", spec := "waveJudges", unfollowed := true, recurses := true, named := ["pennant/crc.steps"], apart := false, laid := [("pennant/crc.steps", laid_pennant_crc_steps)] }
def WaveJudgesSaid : Prop := waveJudgesRow.holds Tryd.pinned (OpenSpec.ofChange waveJudgesSpec)

/-- ITS FALSE NEIGHBOUR: 'it returns false'. Refute it at one input. -/
def waveJudgesWrong : ChangeSpec := { name := "waveJudges", fn := fun _ => fun
  | [d1, d2, d3] => { results := [.lit (.bool false)], args := [d1, d2, d3] }
  | _ => none }
def WaveJudgesWrongFalsely : Prop := waveJudgesRow.holds Tryd.pinned (OpenSpec.ofChange waveJudgesWrong)

/-- 'pennantlaw15.WaveAll': WHATEVER THE INPUT: true; the input reads as it did. -/
def waveAllSpec : ChangeSpec := { name := "waveAll", fn := fun _ => fun
  | [d1, d2, d3] => { results := [.lit (.bool true)], args := [d1, d2, d3] }
  | _ => none }
def waveAllRow : OpenClaim := { program := "ythabnmihfgoabaadoor", sum := "bbcd88ce88e7df841d9f6ced15fe8980c7f66368a99f2f96d771cfde8277ee37", func := "pennant/pennantlaw15.WaveAll", spec := "waveAll", unfollowed := true, recurses := true, named := ["pennant/crc.steps"], apart := false, laid := [("pennant/crc.steps", laid_pennant_crc_steps)] }
def WaveAllSaid : Prop := waveAllRow.holds Tryd.pinned (OpenSpec.ofChange waveAllSpec)

/-- ITS FALSE NEIGHBOUR: 'it returns false'. Refute it at one input. -/
def waveAllWrong : ChangeSpec := { name := "waveAll", fn := fun _ => fun
  | [d1, d2, d3] => { results := [.lit (.bool false)], args := [d1, d2, d3] }
  | _ => none }
def WaveAllWrongFalsely : Prop := waveAllRow.holds Tryd.pinned (OpenSpec.ofChange waveAllWrong)

/-- 'pennantlaw15.WaveTurned': WHATEVER THE INPUT: true; the input reads as it did. -/
def waveTurnedSpec : ChangeSpec := { name := "waveTurned", fn := fun _ => fun
  | [d1, d2, d3] => { results := [.lit (.bool true)], args := [d1, d2, d3] }
  | _ => none }
def waveTurnedRow : OpenClaim := { program := "ythabnmihfgoabaadoor", sum := "bbcd88ce88e7df841d9f6ced15fe8980c7f66368a99f2f96d771cfde8277ee37", func := "pennant/pennantlaw15.WaveTurned", spec := "waveTurned", unfollowed := true, recurses := true, named := ["pennant/crc.steps"], apart := false, laid := [("pennant/crc.steps", laid_pennant_crc_steps)] }
def WaveTurnedSaid : Prop := waveTurnedRow.holds Tryd.pinned (OpenSpec.ofChange waveTurnedSpec)

/-- ITS FALSE NEIGHBOUR: 'it returns false'. Refute it at one input. -/
def waveTurnedWrong : ChangeSpec := { name := "waveTurned", fn := fun _ => fun
  | [d1, d2, d3] => { results := [.lit (.bool false)], args := [d1, d2, d3] }
  | _ => none }
def WaveTurnedWrongFalsely : Prop := waveTurnedRow.holds Tryd.pinned (OpenSpec.ofChange waveTurnedWrong)

/-- 'pennantlaw15.WaveMore': WHATEVER THE INPUT: true; the input reads as it did. -/
def waveMoreSpec : ChangeSpec := { name := "waveMore", fn := fun _ => fun
  | [d1, d2, d3] => { results := [.lit (.bool true)], args := [d1, d2, d3] }
  | _ => none }
def waveMoreRow : OpenClaim := { program := "ythabnmihfgoabaadoor", sum := "bbcd88ce88e7df841d9f6ced15fe8980c7f66368a99f2f96d771cfde8277ee37", func := "pennant/pennantlaw15.WaveMore", spec := "waveMore", unfollowed := true, recurses := true, named := ["pennant/crc.steps"], apart := false, laid := [("pennant/crc.steps", laid_pennant_crc_steps)] }
def WaveMoreSaid : Prop := waveMoreRow.holds Tryd.pinned (OpenSpec.ofChange waveMoreSpec)

/-- ITS FALSE NEIGHBOUR: 'it returns false'. Refute it at one input. -/
def waveMoreWrong : ChangeSpec := { name := "waveMore", fn := fun _ => fun
  | [d1, d2, d3] => { results := [.lit (.bool false)], args := [d1, d2, d3] }
  | _ => none }
def WaveMoreWrongFalsely : Prop := waveMoreRow.holds Tryd.pinned (OpenSpec.ofChange waveMoreWrong)

/-- 'pennantlaw15.WaveOrder': WHATEVER THE INPUT: true; the input reads as it did. -/
def waveOrderSpec : ChangeSpec := { name := "waveOrder", fn := fun _ => fun
  | [d1, d2, d3] => { results := [.lit (.bool true)], args := [d1, d2, d3] }
  | _ => none }
def waveOrderRow : OpenClaim := { program := "ythabnmihfgoabaadoor", sum := "bbcd88ce88e7df841d9f6ced15fe8980c7f66368a99f2f96d771cfde8277ee37", func := "pennant/pennantlaw15.WaveOrder", spec := "waveOrder", unfollowed := true, recurses := true, named := ["pennant/crc.steps"], apart := false, laid := [("pennant/crc.steps", laid_pennant_crc_steps)] }
def WaveOrderSaid : Prop := waveOrderRow.holds Tryd.pinned (OpenSpec.ofChange waveOrderSpec)

/-- ITS FALSE NEIGHBOUR: 'it returns false'. Refute it at one input. -/
def waveOrderWrong : ChangeSpec := { name := "waveOrder", fn := fun _ => fun
  | [d1, d2, d3] => { results := [.lit (.bool false)], args := [d1, d2, d3] }
  | _ => none }
def WaveOrderWrongFalsely : Prop := waveOrderRow.holds Tryd.pinned (OpenSpec.ofChange waveOrderWrong)

/-- 'pennantlaw15.WaveLess': WHATEVER THE INPUT: true; the input reads as it did. -/
def waveLessSpec : ChangeSpec := { name := "waveLess", fn := fun _ => fun
  | [d1, d2, d3] => { results := [.lit (.bool true)], args := [d1, d2, d3] }
  | _ => none }
def waveLessRow : OpenClaim := { program := "ythabnmihfgoabaadoor", sum := "bbcd88ce88e7df841d9f6ced15fe8980c7f66368a99f2f96d771cfde8277ee37", func := "pennant/pennantlaw15.WaveLess", spec := "waveLess", unfollowed := true, recurses := true, named := ["pennant/crc.steps"], apart := false, laid := [("pennant/crc.steps", laid_pennant_crc_steps)] }
def WaveLessSaid : Prop := waveLessRow.holds Tryd.pinned (OpenSpec.ofChange waveLessSpec)

/-- ITS FALSE NEIGHBOUR: 'it returns false'. Refute it at one input. -/
def waveLessWrong : ChangeSpec := { name := "waveLess", fn := fun _ => fun
  | [d1, d2, d3] => { results := [.lit (.bool false)], args := [d1, d2, d3] }
  | _ => none }
def WaveLessWrongFalsely : Prop := waveLessRow.holds Tryd.pinned (OpenSpec.ofChange waveLessWrong)

/- THE SECOND FORM. 'bulk': how many values and letters a reading holds, each counted each time it is reached (what is shared counts as often as it is met; a slice's spare places count too). A statement '..UptoSaid' is the law's where the arguments, and the package variables that the reading takes, are together of bulk at most 1048576: NARROWER than '..Said'. Prove '..Said' where nothing that the law and all that it calls make is longer than what came in: it says more and counts as full. Else prove '..UptoSaid'. A law counts once. -/
mutual
def uptoBulk {H : Type} : DataW H → Nat
  | .lit (.string bytes) => bytes.length + 1
  | .lit _ => 1
  | .nil => 1
  | .ptr d => uptoBulk d + 1
  | .slice elems spare => uptoBulkAll elems + uptoBulkAll spare + 1
  | .agg parts => uptoBulkAll parts + 1
  | .iface _ d => uptoBulk d + 1
  | .map entries => uptoBulkEntries entries + 1
  | .held _ => 1
def uptoBulkAll {H : Type} : List (DataW H) → Nat
  | [] => 0
  | d :: r => uptoBulk d + uptoBulkAll r
def uptoBulkEntries {H : Type} : List (Lit × DataW H) → Nat
  | [] => 0
  | x :: r => uptoBulkEntry x + uptoBulkEntries r
def uptoBulkEntry {H : Type} : Lit × DataW H → Nat
  | (.string bytes, d) => bytes.length + uptoBulk d + 1
  | (_, d) => uptoBulk d + 1
 end
def uptoSmall : (H : Type) → List (DataW H) → Bool := fun _ ds => decide (uptoBulkAll ds ≤ 1048576)
def OpenSpec.upto (s : _root_.Go.ChangeSpec) : _root_.Go.OpenSpec := { _root_.Go.OpenSpec.ofChange s with cond := some uptoSmall }

/-- 'pennantlaw15.WavePlans', WHERE WHAT IT READS IS OF BULK AT MOST 1048576: true; the input reads as it did. -/
def wavePlansUptoRow : OpenClaim := { program := "ythabnmihfgoabaadoor", sum := "bbcd88ce88e7df841d9f6ced15fe8980c7f66368a99f2f96d771cfde8277ee37", func := "pennant/pennantlaw15.WavePlans", spec := "wavePlans", unfollowed := true, recurses := true, named := ["pennant/crc.steps"], apart := false, laid := [("pennant/crc.steps", laid_pennant_crc_steps)], narrowed := true }
def WavePlansUptoSaid : Prop := wavePlansUptoRow.holds Tryd.pinned (OpenSpec.upto wavePlansSpec)

/-- 'pennantlaw15.WaveJudges', WHERE WHAT IT READS IS OF BULK AT MOST 1048576: true; the input reads as it did. -/
def waveJudgesUptoRow : OpenClaim := { program := "ythabnmihfgoabaadoor", sum := "bbcd88ce88e7df841d9f6ced15fe8980c7f66368a99f2f96d771cfde8277ee37", func := "pennant/pennantlaw15.WaveJudges", spec := "waveJudges", unfollowed := true, recurses := true, named := ["pennant/crc.steps"], apart := false, laid := [("pennant/crc.steps", laid_pennant_crc_steps)], narrowed := true }
def WaveJudgesUptoSaid : Prop := waveJudgesUptoRow.holds Tryd.pinned (OpenSpec.upto waveJudgesSpec)

/-- 'pennantlaw15.WaveAll', WHERE WHAT IT READS IS OF BULK AT MOST 1048576: true; the input reads as it did. -/
def waveAllUptoRow : OpenClaim := { program := "ythabnmihfgoabaadoor", sum := "bbcd88ce88e7df841d9f6ced15fe8980c7f66368a99f2f96d771cfde8277ee37", func := "pennant/pennantlaw15.WaveAll", spec := "waveAll", unfollowed := true, recurses := true, named := ["pennant/crc.steps"], apart := false, laid := [("pennant/crc.steps", laid_pennant_crc_steps)], narrowed := true }
def WaveAllUptoSaid : Prop := waveAllUptoRow.holds Tryd.pinned (OpenSpec.upto waveAllSpec)

/-- 'pennantlaw15.WaveTurned', WHERE WHAT IT READS IS OF BULK AT MOST 1048576: true; the input reads as it did. -/
def waveTurnedUptoRow : OpenClaim := { program := "ythabnmihfgoabaadoor", sum := "bbcd88ce88e7df841d9f6ced15fe8980c7f66368a99f2f96d771cfde8277ee37", func := "pennant/pennantlaw15.WaveTurned", spec := "waveTurned", unfollowed := true, recurses := true, named := ["pennant/crc.steps"], apart := false, laid := [("pennant/crc.steps", laid_pennant_crc_steps)], narrowed := true }
def WaveTurnedUptoSaid : Prop := waveTurnedUptoRow.holds Tryd.pinned (OpenSpec.upto waveTurnedSpec)

/-- 'pennantlaw15.WaveMore', WHERE WHAT IT READS IS OF BULK AT MOST 1048576: true; the input reads as it did. -/
def waveMoreUptoRow : OpenClaim := { program := "ythabnmihfgoabaadoor", sum := "bbcd88ce88e7df841d9f6ced15fe8980c7f66368a99f2f96d771cfde8277ee37", func := "pennant/pennantlaw15.WaveMore", spec := "waveMore", unfollowed := true, recurses := true, named := ["pennant/crc.steps"], apart := false, laid := [("pennant/crc.steps", laid_pennant_crc_steps)], narrowed := true }
def WaveMoreUptoSaid : Prop := waveMoreUptoRow.holds Tryd.pinned (OpenSpec.upto waveMoreSpec)

/-- 'pennantlaw15.WaveOrder', WHERE WHAT IT READS IS OF BULK AT MOST 1048576: true; the input reads as it did. -/
def waveOrderUptoRow : OpenClaim := { program := "ythabnmihfgoabaadoor", sum := "bbcd88ce88e7df841d9f6ced15fe8980c7f66368a99f2f96d771cfde8277ee37", func := "pennant/pennantlaw15.WaveOrder", spec := "waveOrder", unfollowed := true, recurses := true, named := ["pennant/crc.steps"], apart := false, laid := [("pennant/crc.steps", laid_pennant_crc_steps)], narrowed := true }
def WaveOrderUptoSaid : Prop := waveOrderUptoRow.holds Tryd.pinned (OpenSpec.upto waveOrderSpec)

/-- 'pennantlaw15.WaveLess', WHERE WHAT IT READS IS OF BULK AT MOST 1048576: true; the input reads as it did. -/
def waveLessUptoRow : OpenClaim := { program := "ythabnmihfgoabaadoor", sum := "bbcd88ce88e7df841d9f6ced15fe8980c7f66368a99f2f96d771cfde8277ee37", func := "pennant/pennantlaw15.WaveLess", spec := "waveLess", unfollowed := true, recurses := true, named := ["pennant/crc.steps"], apart := false, laid := [("pennant/crc.steps", laid_pennant_crc_steps)], narrowed := true }
def WaveLessUptoSaid : Prop := waveLessUptoRow.holds Tryd.pinned (OpenSpec.upto waveLessSpec)

end Rows
end Go.Proofs.YthabnmihfgoabaaDoor
