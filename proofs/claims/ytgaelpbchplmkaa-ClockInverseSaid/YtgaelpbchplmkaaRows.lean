/-
  No cell of these rows narrows 'for every input' (looked for: loops, veiled, ifaces, maps, wideKeys, modest, calm, conditions, laid).
  DERIVED. THE GIVEN ROWS OF THIS SEAT. 7 by the template 'for every input the law returns true; each argument reads behind the call as it read before'; 0 by the template 'total and deterministic' (their statements: YtgaelpbchplmkaaTotals.lean).
  GIVEN WITH THE SEED: the statements are not yours to turn. If you find one false, say at which input.
  Laid BY PROGRAM, IN A SANDBOX (cutbox-rows.mjs): the forced cells as the released guide's own fill.sh prints them over the translation be3f8708e056443a… (all of the seat's roots in one cut). By AI agents, Wed Nov 11 2026. No macro, syntax, notation, axiom, sorry.
-/
import Derived.Test.YtgaelpbchplmkaaChecked
import GoSem.Claim
import GoSem.ClaimJoined
import GoSem.ClaimMapViews
import Derived.JoinedTies
import Derived.KernelRfl
namespace Go.Proofs.Ytgaelpbchplmkaa
/- THE CELL 'sum', in the pinned program and in every row, IS THE sha256 OF THE DUMP (.gsa) THAT YtgaelpbchplmkaaProg.lean LOADS. Nothing in Lean hashes anything: it is a label: what it is worth is what the hold of that sum in a sandbox is worth. -/
noncomputable def Try.pinned : Pinned := { name := "ytgaelpbchplmkaa", sum := "be3f8708e056443a6b2ac8c62de037fffcf98bedec7bc6d4ffd6911654fdf1aa", checked := Try.checked }
namespace Rows
def none {H : Type} : Left H := { results := [], args := [] }

/-- 'slotmeshlaw07.ClockMatchesReference': WHATEVER THE INPUT: true; the input reads as it did. -/
def clockMatchesReferenceSpec : ChangeSpec := { name := "clockMatchesReference", fn := fun _ => fun
  | [d1, d2, d3] => { results := [.lit (.bool true)], args := [d1, d2, d3] }
  | _ => none }
def clockMatchesReferenceRow : OpenClaim := { program := "ytgaelpbchplmkaa", sum := "be3f8708e056443a6b2ac8c62de037fffcf98bedec7bc6d4ffd6911654fdf1aa", func := "slotmesh/slotmeshlaw07.ClockMatchesReference", spec := "clockMatchesReference", unfollowed := true, recurses := true, apart := false }
def ClockMatchesReferenceSaid : Prop := clockMatchesReferenceRow.holds Try.pinned (OpenSpec.ofChange clockMatchesReferenceSpec)

/-- ITS FALSE NEIGHBOUR: 'it returns false'. Refute it at one input. -/
def clockMatchesReferenceWrong : ChangeSpec := { name := "clockMatchesReference", fn := fun _ => fun
  | [d1, d2, d3] => { results := [.lit (.bool false)], args := [d1, d2, d3] }
  | _ => none }
def ClockMatchesReferenceWrongFalsely : Prop := clockMatchesReferenceRow.holds Try.pinned (OpenSpec.ofChange clockMatchesReferenceWrong)

/-- 'slotmeshlaw07.ClockOrder': WHATEVER THE INPUT: true; the input reads as it did. -/
def clockOrderSpec : ChangeSpec := { name := "clockOrder", fn := fun _ => fun
  | [d1, d2, d3] => { results := [.lit (.bool true)], args := [d1, d2, d3] }
  | _ => none }
def clockOrderRow : OpenClaim := { program := "ytgaelpbchplmkaa", sum := "be3f8708e056443a6b2ac8c62de037fffcf98bedec7bc6d4ffd6911654fdf1aa", func := "slotmesh/slotmeshlaw07.ClockOrder", spec := "clockOrder", unfollowed := true, recurses := true, apart := false }
def ClockOrderSaid : Prop := clockOrderRow.holds Try.pinned (OpenSpec.ofChange clockOrderSpec)

/-- ITS FALSE NEIGHBOUR: 'it returns false'. Refute it at one input. -/
def clockOrderWrong : ChangeSpec := { name := "clockOrder", fn := fun _ => fun
  | [d1, d2, d3] => { results := [.lit (.bool false)], args := [d1, d2, d3] }
  | _ => none }
def ClockOrderWrongFalsely : Prop := clockOrderRow.holds Try.pinned (OpenSpec.ofChange clockOrderWrong)

/-- 'slotmeshlaw07.ClockRate': WHATEVER THE INPUT: true; the input reads as it did. -/
def clockRateSpec : ChangeSpec := { name := "clockRate", fn := fun _ => fun
  | [d1, d2, d3] => { results := [.lit (.bool true)], args := [d1, d2, d3] }
  | _ => none }
def clockRateRow : OpenClaim := { program := "ytgaelpbchplmkaa", sum := "be3f8708e056443a6b2ac8c62de037fffcf98bedec7bc6d4ffd6911654fdf1aa", func := "slotmesh/slotmeshlaw07.ClockRate", spec := "clockRate", unfollowed := true, recurses := true, apart := false }
def ClockRateSaid : Prop := clockRateRow.holds Try.pinned (OpenSpec.ofChange clockRateSpec)

/-- ITS FALSE NEIGHBOUR: 'it returns false'. Refute it at one input. -/
def clockRateWrong : ChangeSpec := { name := "clockRate", fn := fun _ => fun
  | [d1, d2, d3] => { results := [.lit (.bool false)], args := [d1, d2, d3] }
  | _ => none }
def ClockRateWrongFalsely : Prop := clockRateRow.holds Try.pinned (OpenSpec.ofChange clockRateWrong)

/-- 'slotmeshlaw07.ClockInverse': WHATEVER THE INPUT: true; the input reads as it did. -/
def clockInverseSpec : ChangeSpec := { name := "clockInverse", fn := fun _ => fun
  | [d1, d2, d3] => { results := [.lit (.bool true)], args := [d1, d2, d3] }
  | _ => none }
def clockInverseRow : OpenClaim := { program := "ytgaelpbchplmkaa", sum := "be3f8708e056443a6b2ac8c62de037fffcf98bedec7bc6d4ffd6911654fdf1aa", func := "slotmesh/slotmeshlaw07.ClockInverse", spec := "clockInverse", unfollowed := true, recurses := true, apart := false }
def ClockInverseSaid : Prop := clockInverseRow.holds Try.pinned (OpenSpec.ofChange clockInverseSpec)

/-- ITS FALSE NEIGHBOUR: 'it returns false'. Refute it at one input. -/
def clockInverseWrong : ChangeSpec := { name := "clockInverse", fn := fun _ => fun
  | [d1, d2, d3] => { results := [.lit (.bool false)], args := [d1, d2, d3] }
  | _ => none }
def ClockInverseWrongFalsely : Prop := clockInverseRow.holds Try.pinned (OpenSpec.ofChange clockInverseWrong)

/-- 'slotmeshlaw07.ClockFastAndSlow': WHATEVER THE INPUT: true; the input reads as it did. -/
def clockFastAndSlowSpec : ChangeSpec := { name := "clockFastAndSlow", fn := fun _ => fun
  | [d1, d2, d3, d4] => { results := [.lit (.bool true)], args := [d1, d2, d3, d4] }
  | _ => none }
def clockFastAndSlowRow : OpenClaim := { program := "ytgaelpbchplmkaa", sum := "be3f8708e056443a6b2ac8c62de037fffcf98bedec7bc6d4ffd6911654fdf1aa", func := "slotmesh/slotmeshlaw07.ClockFastAndSlow", spec := "clockFastAndSlow", unfollowed := true, recurses := true, apart := false }
def ClockFastAndSlowSaid : Prop := clockFastAndSlowRow.holds Try.pinned (OpenSpec.ofChange clockFastAndSlowSpec)

/-- ITS FALSE NEIGHBOUR: 'it returns false'. Refute it at one input. -/
def clockFastAndSlowWrong : ChangeSpec := { name := "clockFastAndSlow", fn := fun _ => fun
  | [d1, d2, d3, d4] => { results := [.lit (.bool false)], args := [d1, d2, d3, d4] }
  | _ => none }
def ClockFastAndSlowWrongFalsely : Prop := clockFastAndSlowRow.holds Try.pinned (OpenSpec.ofChange clockFastAndSlowWrong)

/-- 'slotmeshlaw07.ClockTwoClocks': WHATEVER THE INPUT: true; the input reads as it did. -/
def clockTwoClocksSpec : ChangeSpec := { name := "clockTwoClocks", fn := fun _ => fun
  | [d1, d2, d3, d4] => { results := [.lit (.bool true)], args := [d1, d2, d3, d4] }
  | _ => none }
def clockTwoClocksRow : OpenClaim := { program := "ytgaelpbchplmkaa", sum := "be3f8708e056443a6b2ac8c62de037fffcf98bedec7bc6d4ffd6911654fdf1aa", func := "slotmesh/slotmeshlaw07.ClockTwoClocks", spec := "clockTwoClocks", unfollowed := true, recurses := true, apart := false }
def ClockTwoClocksSaid : Prop := clockTwoClocksRow.holds Try.pinned (OpenSpec.ofChange clockTwoClocksSpec)

/-- ITS FALSE NEIGHBOUR: 'it returns false'. Refute it at one input. -/
def clockTwoClocksWrong : ChangeSpec := { name := "clockTwoClocks", fn := fun _ => fun
  | [d1, d2, d3, d4] => { results := [.lit (.bool false)], args := [d1, d2, d3, d4] }
  | _ => none }
def ClockTwoClocksWrongFalsely : Prop := clockTwoClocksRow.holds Try.pinned (OpenSpec.ofChange clockTwoClocksWrong)

/-- 'slotmeshlaw07.ClockOffset': WHATEVER THE INPUT: true; the input reads as it did. -/
def clockOffsetSpec : ChangeSpec := { name := "clockOffset", fn := fun _ => fun
  | [d1, d2, d3, d4] => { results := [.lit (.bool true)], args := [d1, d2, d3, d4] }
  | _ => none }
def clockOffsetRow : OpenClaim := { program := "ytgaelpbchplmkaa", sum := "be3f8708e056443a6b2ac8c62de037fffcf98bedec7bc6d4ffd6911654fdf1aa", func := "slotmesh/slotmeshlaw07.ClockOffset", spec := "clockOffset", unfollowed := true, recurses := true, apart := false }
def ClockOffsetSaid : Prop := clockOffsetRow.holds Try.pinned (OpenSpec.ofChange clockOffsetSpec)

/-- ITS FALSE NEIGHBOUR: 'it returns false'. Refute it at one input. -/
def clockOffsetWrong : ChangeSpec := { name := "clockOffset", fn := fun _ => fun
  | [d1, d2, d3, d4] => { results := [.lit (.bool false)], args := [d1, d2, d3, d4] }
  | _ => none }
def ClockOffsetWrongFalsely : Prop := clockOffsetRow.holds Try.pinned (OpenSpec.ofChange clockOffsetWrong)

/- THE SECOND FORM. 'bulk': how many values and letters a reading holds, each counted each time it is reached (what is shared counts as often as it is met; a slice's spare places count too). A statement '..UptoSaid' is the law's where the arguments, and the package variables that the reading takes, are together of bulk at most 1048576: NARROWER than '..Said'. Prove '..Said' where nothing that the law and all that it calls make is longer than what came in: it says more and counts as full. Else prove '..UptoSaid'. A law counts once. -/
mutual
def uptoBulk {H : Type} : DataW H → Nat
  | .lit (.string bytes) => bytes.length + 1
  | .lit _ => 1
  | .nil => 1
  | .ptr d => uptoBulk d + 1
  | .slice elems spare => uptoBulkAll elems + uptoBulkAll spare + 1
  | .agg parts => uptoBulkAll parts + 1
  | .iface _ d => uptoBulk d + 1
  | .map entries => uptoBulkEntries entries + 1
  | .held _ => 1
def uptoBulkAll {H : Type} : List (DataW H) → Nat
  | [] => 0
  | d :: r => uptoBulk d + uptoBulkAll r
def uptoBulkEntries {H : Type} : List (Lit × DataW H) → Nat
  | [] => 0
  | x :: r => uptoBulkEntry x + uptoBulkEntries r
def uptoBulkEntry {H : Type} : Lit × DataW H → Nat
  | (.string bytes, d) => bytes.length + uptoBulk d + 1
  | (_, d) => uptoBulk d + 1
 end
def uptoSmall : (H : Type) → List (DataW H) → Bool := fun _ ds => decide (uptoBulkAll ds ≤ 1048576)
def OpenSpec.upto (s : _root_.Go.ChangeSpec) : _root_.Go.OpenSpec := { _root_.Go.OpenSpec.ofChange s with cond := some uptoSmall }

/-- 'slotmeshlaw07.ClockMatchesReference', WHERE WHAT IT READS IS OF BULK AT MOST 1048576: true; the input reads as it did. -/
def clockMatchesReferenceUptoRow : OpenClaim := { program := "ytgaelpbchplmkaa", sum := "be3f8708e056443a6b2ac8c62de037fffcf98bedec7bc6d4ffd6911654fdf1aa", func := "slotmesh/slotmeshlaw07.ClockMatchesReference", spec := "clockMatchesReference", unfollowed := true, recurses := true, apart := false, narrowed := true }
def ClockMatchesReferenceUptoSaid : Prop := clockMatchesReferenceUptoRow.holds Try.pinned (OpenSpec.upto clockMatchesReferenceSpec)

/-- 'slotmeshlaw07.ClockOrder', WHERE WHAT IT READS IS OF BULK AT MOST 1048576: true; the input reads as it did. -/
def clockOrderUptoRow : OpenClaim := { program := "ytgaelpbchplmkaa", sum := "be3f8708e056443a6b2ac8c62de037fffcf98bedec7bc6d4ffd6911654fdf1aa", func := "slotmesh/slotmeshlaw07.ClockOrder", spec := "clockOrder", unfollowed := true, recurses := true, apart := false, narrowed := true }
def ClockOrderUptoSaid : Prop := clockOrderUptoRow.holds Try.pinned (OpenSpec.upto clockOrderSpec)

/-- 'slotmeshlaw07.ClockRate', WHERE WHAT IT READS IS OF BULK AT MOST 1048576: true; the input reads as it did. -/
def clockRateUptoRow : OpenClaim := { program := "ytgaelpbchplmkaa", sum := "be3f8708e056443a6b2ac8c62de037fffcf98bedec7bc6d4ffd6911654fdf1aa", func := "slotmesh/slotmeshlaw07.ClockRate", spec := "clockRate", unfollowed := true, recurses := true, apart := false, narrowed := true }
def ClockRateUptoSaid : Prop := clockRateUptoRow.holds Try.pinned (OpenSpec.upto clockRateSpec)

/-- 'slotmeshlaw07.ClockInverse', WHERE WHAT IT READS IS OF BULK AT MOST 1048576: true; the input reads as it did. -/
def clockInverseUptoRow : OpenClaim := { program := "ytgaelpbchplmkaa", sum := "be3f8708e056443a6b2ac8c62de037fffcf98bedec7bc6d4ffd6911654fdf1aa", func := "slotmesh/slotmeshlaw07.ClockInverse", spec := "clockInverse", unfollowed := true, recurses := true, apart := false, narrowed := true }
def ClockInverseUptoSaid : Prop := clockInverseUptoRow.holds Try.pinned (OpenSpec.upto clockInverseSpec)

/-- 'slotmeshlaw07.ClockFastAndSlow', WHERE WHAT IT READS IS OF BULK AT MOST 1048576: true; the input reads as it did. -/
def clockFastAndSlowUptoRow : OpenClaim := { program := "ytgaelpbchplmkaa", sum := "be3f8708e056443a6b2ac8c62de037fffcf98bedec7bc6d4ffd6911654fdf1aa", func := "slotmesh/slotmeshlaw07.ClockFastAndSlow", spec := "clockFastAndSlow", unfollowed := true, recurses := true, apart := false, narrowed := true }
def ClockFastAndSlowUptoSaid : Prop := clockFastAndSlowUptoRow.holds Try.pinned (OpenSpec.upto clockFastAndSlowSpec)

/-- 'slotmeshlaw07.ClockTwoClocks', WHERE WHAT IT READS IS OF BULK AT MOST 1048576: true; the input reads as it did. -/
def clockTwoClocksUptoRow : OpenClaim := { program := "ytgaelpbchplmkaa", sum := "be3f8708e056443a6b2ac8c62de037fffcf98bedec7bc6d4ffd6911654fdf1aa", func := "slotmesh/slotmeshlaw07.ClockTwoClocks", spec := "clockTwoClocks", unfollowed := true, recurses := true, apart := false, narrowed := true }
def ClockTwoClocksUptoSaid : Prop := clockTwoClocksUptoRow.holds Try.pinned (OpenSpec.upto clockTwoClocksSpec)

/-- 'slotmeshlaw07.ClockOffset', WHERE WHAT IT READS IS OF BULK AT MOST 1048576: true; the input reads as it did. -/
def clockOffsetUptoRow : OpenClaim := { program := "ytgaelpbchplmkaa", sum := "be3f8708e056443a6b2ac8c62de037fffcf98bedec7bc6d4ffd6911654fdf1aa", func := "slotmesh/slotmeshlaw07.ClockOffset", spec := "clockOffset", unfollowed := true, recurses := true, apart := false, narrowed := true }
def ClockOffsetUptoSaid : Prop := clockOffsetUptoRow.holds Try.pinned (OpenSpec.upto clockOffsetSpec)

end Rows
end Go.Proofs.Ytgaelpbchplmkaa
