/-
  No cell of these rows narrows 'for every input' (looked for: loops, veiled, ifaces, maps, wideKeys, modest, calm, conditions, laid).
  DERIVED. THE GIVEN ROWS OF THIS SEAT. 3 by the template 'for every input the law returns true; each argument reads behind the call as it read before'; 0 by the template 'total and deterministic' (their statements: YtlfldhnmbjgdnaaTotals.lean).
  GIVEN WITH THE SEED: the statements are not yours to turn. If you find one false, say at which input.
  Laid BY PROGRAM, IN A SANDBOX (cutbox-rows.mjs): the forced cells as the released guide's own fill.sh prints them over the translation 3d4cec2f93d1fb4e… (all of the seat's roots in one cut). By AI agents, Wed Nov 11 2026. No macro, syntax, notation, axiom, sorry.
-/
import Derived.Test.YtlfldhnmbjgdnaaChecked
import GoSem.Claim
import GoSem.ClaimJoined
import GoSem.ClaimMapViews
import Derived.JoinedTies
import Derived.KernelRfl
namespace Go.Proofs.Ytlfldhnmbjgdnaa
/- THE CELL 'sum', in the pinned program and in every row, IS THE sha256 OF THE DUMP (.gsa) THAT YtlfldhnmbjgdnaaProg.lean LOADS. Nothing in Lean hashes anything: it is a label: what it is worth is what the hold of that sum in a sandbox is worth. -/
noncomputable def Try.pinned : Pinned := { name := "ytlfldhnmbjgdnaa", sum := "3d4cec2f93d1fb4e988b245db7ef34636a9d01afbef18b2f02b8d7cb4c356b4c", checked := Try.checked }
namespace Rows
def none {H : Type} : Left H := { results := [], args := [] }

/-- 'pennantlaw17.LedgerRises': WHATEVER THE INPUT: true; the input reads as it did. -/
def ledgerRisesSpec : ChangeSpec := { name := "ledgerRises", fn := fun _ => fun
  | [d1, d2] => { results := [.lit (.bool true)], args := [d1, d2] }
  | _ => none }
def ledgerRisesRow : OpenClaim := { program := "ytlfldhnmbjgdnaa", sum := "3d4cec2f93d1fb4e988b245db7ef34636a9d01afbef18b2f02b8d7cb4c356b4c", func := "pennant/pennantlaw17.LedgerRises", spec := "ledgerRises", unfollowed := true, recurses := true, plainKeys := false, apart := false }
def LedgerRisesSaid : Prop := ledgerRisesRow.holds Try.pinned (OpenSpec.ofChange ledgerRisesSpec)

/-- ITS FALSE NEIGHBOUR: 'it returns false'. Refute it at one input. -/
def ledgerRisesWrong : ChangeSpec := { name := "ledgerRises", fn := fun _ => fun
  | [d1, d2] => { results := [.lit (.bool false)], args := [d1, d2] }
  | _ => none }
def LedgerRisesWrongFalsely : Prop := ledgerRisesRow.holds Try.pinned (OpenSpec.ofChange ledgerRisesWrong)

/-- 'pennantlaw17.LedgerSplits': WHATEVER THE INPUT: true; the input reads as it did. -/
def ledgerSplitsSpec : ChangeSpec := { name := "ledgerSplits", fn := fun _ => fun
  | [d1, d2] => { results := [.lit (.bool true)], args := [d1, d2] }
  | _ => none }
def ledgerSplitsRow : OpenClaim := { program := "ytlfldhnmbjgdnaa", sum := "3d4cec2f93d1fb4e988b245db7ef34636a9d01afbef18b2f02b8d7cb4c356b4c", func := "pennant/pennantlaw17.LedgerSplits", spec := "ledgerSplits", unfollowed := true, recurses := true, plainKeys := false, apart := false }
def LedgerSplitsSaid : Prop := ledgerSplitsRow.holds Try.pinned (OpenSpec.ofChange ledgerSplitsSpec)

/-- ITS FALSE NEIGHBOUR: 'it returns false'. Refute it at one input. -/
def ledgerSplitsWrong : ChangeSpec := { name := "ledgerSplits", fn := fun _ => fun
  | [d1, d2] => { results := [.lit (.bool false)], args := [d1, d2] }
  | _ => none }
def LedgerSplitsWrongFalsely : Prop := ledgerSplitsRow.holds Try.pinned (OpenSpec.ofChange ledgerSplitsWrong)

/-- 'pennantlaw17.LedgerFirst': WHATEVER THE INPUT: true; the input reads as it did. -/
def ledgerFirstSpec : ChangeSpec := { name := "ledgerFirst", fn := fun _ => fun
  | [d] => { results := [.lit (.bool true)], args := [d] }
  | _ => none }
def ledgerFirstRow : OpenClaim := { program := "ytlfldhnmbjgdnaa", sum := "3d4cec2f93d1fb4e988b245db7ef34636a9d01afbef18b2f02b8d7cb4c356b4c", func := "pennant/pennantlaw17.LedgerFirst", spec := "ledgerFirst", unfollowed := true, recurses := true, plainKeys := false, apart := false }
def LedgerFirstSaid : Prop := ledgerFirstRow.holds Try.pinned (OpenSpec.ofChange ledgerFirstSpec)

/-- ITS FALSE NEIGHBOUR: 'it returns false'. Refute it at one input. -/
def ledgerFirstWrong : ChangeSpec := { name := "ledgerFirst", fn := fun _ => fun
  | [d] => { results := [.lit (.bool false)], args := [d] }
  | _ => none }
def LedgerFirstWrongFalsely : Prop := ledgerFirstRow.holds Try.pinned (OpenSpec.ofChange ledgerFirstWrong)

/- THE SECOND FORM. 'bulk': how many values and letters a reading holds, each counted each time it is reached (what is shared counts as often as it is met; a slice's spare places count too). A statement '..UptoSaid' is the law's where the arguments, and the package variables that the reading takes, are together of bulk at most 1048576: NARROWER than '..Said'. Prove '..Said' where nothing that the law and all that it calls make is longer than what came in: it says more and counts as full. Else prove '..UptoSaid'. A law counts once. -/
mutual
def uptoBulk {H : Type} : DataW H → Nat
  | .lit (.string bytes) => bytes.length + 1
  | .lit _ => 1
  | .nil => 1
  | .ptr d => uptoBulk d + 1
  | .slice elems spare => uptoBulkAll elems + uptoBulkAll spare + 1
  | .agg parts => uptoBulkAll parts + 1
  | .iface _ d => uptoBulk d + 1
  | .map entries => uptoBulkEntries entries + 1
  | .held _ => 1
def uptoBulkAll {H : Type} : List (DataW H) → Nat
  | [] => 0
  | d :: r => uptoBulk d + uptoBulkAll r
def uptoBulkEntries {H : Type} : List (Lit × DataW H) → Nat
  | [] => 0
  | x :: r => uptoBulkEntry x + uptoBulkEntries r
def uptoBulkEntry {H : Type} : Lit × DataW H → Nat
  | (.string bytes, d) => bytes.length + uptoBulk d + 1
  | (_, d) => uptoBulk d + 1
 end
def uptoSmall : (H : Type) → List (DataW H) → Bool := fun _ ds => decide (uptoBulkAll ds ≤ 1048576)
def OpenSpec.upto (s : _root_.Go.ChangeSpec) : _root_.Go.OpenSpec := { _root_.Go.OpenSpec.ofChange s with cond := some uptoSmall }

/-- 'pennantlaw17.LedgerRises', WHERE WHAT IT READS IS OF BULK AT MOST 1048576: true; the input reads as it did. -/
def ledgerRisesUptoRow : OpenClaim := { program := "ytlfldhnmbjgdnaa", sum := "3d4cec2f93d1fb4e988b245db7ef34636a9d01afbef18b2f02b8d7cb4c356b4c", func := "pennant/pennantlaw17.LedgerRises", spec := "ledgerRises", unfollowed := true, recurses := true, plainKeys := false, apart := false, narrowed := true }
def LedgerRisesUptoSaid : Prop := ledgerRisesUptoRow.holds Try.pinned (OpenSpec.upto ledgerRisesSpec)

/-- 'pennantlaw17.LedgerSplits', WHERE WHAT IT READS IS OF BULK AT MOST 1048576: true; the input reads as it did. -/
def ledgerSplitsUptoRow : OpenClaim := { program := "ytlfldhnmbjgdnaa", sum := "3d4cec2f93d1fb4e988b245db7ef34636a9d01afbef18b2f02b8d7cb4c356b4c", func := "pennant/pennantlaw17.LedgerSplits", spec := "ledgerSplits", unfollowed := true, recurses := true, plainKeys := false, apart := false, narrowed := true }
def LedgerSplitsUptoSaid : Prop := ledgerSplitsUptoRow.holds Try.pinned (OpenSpec.upto ledgerSplitsSpec)

/-- 'pennantlaw17.LedgerFirst', WHERE WHAT IT READS IS OF BULK AT MOST 1048576: true; the input reads as it did. -/
def ledgerFirstUptoRow : OpenClaim := { program := "ytlfldhnmbjgdnaa", sum := "3d4cec2f93d1fb4e988b245db7ef34636a9d01afbef18b2f02b8d7cb4c356b4c", func := "pennant/pennantlaw17.LedgerFirst", spec := "ledgerFirst", unfollowed := true, recurses := true, plainKeys := false, apart := false, narrowed := true }
def LedgerFirstUptoSaid : Prop := ledgerFirstUptoRow.holds Try.pinned (OpenSpec.upto ledgerFirstSpec)

end Rows
end Go.Proofs.Ytlfldhnmbjgdnaa
