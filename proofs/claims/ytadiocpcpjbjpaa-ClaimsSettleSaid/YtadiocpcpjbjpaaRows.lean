/-
  No cell of these rows narrows 'for every input' (looked for: loops, veiled, ifaces, maps, wideKeys, modest, calm, conditions, laid).
  DERIVED. THE GIVEN ROWS OF THIS SEAT. 7 by the template 'for every input the law returns true; each argument reads behind the call as it read before'; 0 by the template 'total and deterministic' (their statements: YtadiocpcpjbjpaaTotals.lean).
  GIVEN WITH THE SEED: the statements are not yours to turn. If you find one false, say at which input.
  Laid BY PROGRAM, IN A SANDBOX (cutbox-rows.mjs): the forced cells as the released guide's own fill.sh prints them over the translation 0eb2a43e2a1e5348… (all of the seat's roots in one cut). By AI agents, Wed Nov 11 2026. No macro, syntax, notation, axiom, sorry.
-/
import Derived.Test.YtadiocpcpjbjpaaChecked
import GoSem.Claim
import GoSem.ClaimJoined
import GoSem.ClaimMapViews
import Derived.JoinedTies
import Derived.KernelRfl
namespace Go.Proofs.Ytadiocpcpjbjpaa
/- THE CELL 'sum', in the pinned program and in every row, IS THE sha256 OF THE DUMP (.gsa) THAT YtadiocpcpjbjpaaProg.lean LOADS. Nothing in Lean hashes anything: it is a label: what it is worth is what the hold of that sum in a sandbox is worth. -/
noncomputable def Try.pinned : Pinned := { name := "ytadiocpcpjbjpaa", sum := "0eb2a43e2a1e53483c0c76d2cd532a5fd4ba6441ac540a3d935a3c8973cf732f", checked := Try.checked }
namespace Rows
def none {H : Type} : Left H := { results := [], args := [] }

/-- 'slotmeshlaw14.ClaimsMore': WHATEVER THE INPUT: true; the input reads as it did. -/
def claimsMoreSpec : ChangeSpec := { name := "claimsMore", fn := fun _ => fun
  | [d1, d2, d3, d4, d5] => { results := [.lit (.bool true)], args := [d1, d2, d3, d4, d5] }
  | _ => none }
def claimsMoreRow : OpenClaim := { program := "ytadiocpcpjbjpaa", sum := "0eb2a43e2a1e53483c0c76d2cd532a5fd4ba6441ac540a3d935a3c8973cf732f", func := "slotmesh/slotmeshlaw14.ClaimsMore", spec := "claimsMore", unfollowed := true, recurses := true, plainKeys := false, apart := false }
def ClaimsMoreSaid : Prop := claimsMoreRow.holds Try.pinned (OpenSpec.ofChange claimsMoreSpec)

/-- ITS FALSE NEIGHBOUR: 'it returns false'. Refute it at one input. -/
def claimsMoreWrong : ChangeSpec := { name := "claimsMore", fn := fun _ => fun
  | [d1, d2, d3, d4, d5] => { results := [.lit (.bool false)], args := [d1, d2, d3, d4, d5] }
  | _ => none }
def ClaimsMoreWrongFalsely : Prop := claimsMoreRow.holds Try.pinned (OpenSpec.ofChange claimsMoreWrong)

/-- 'slotmeshlaw14.ClaimsFound': WHATEVER THE INPUT: true; the input reads as it did. -/
def claimsFoundSpec : ChangeSpec := { name := "claimsFound", fn := fun _ => fun
  | [d1, d2, d3, d4, d5] => { results := [.lit (.bool true)], args := [d1, d2, d3, d4, d5] }
  | _ => none }
def claimsFoundRow : OpenClaim := { program := "ytadiocpcpjbjpaa", sum := "0eb2a43e2a1e53483c0c76d2cd532a5fd4ba6441ac540a3d935a3c8973cf732f", func := "slotmesh/slotmeshlaw14.ClaimsFound", spec := "claimsFound", unfollowed := true, recurses := true, plainKeys := false, apart := false }
def ClaimsFoundSaid : Prop := claimsFoundRow.holds Try.pinned (OpenSpec.ofChange claimsFoundSpec)

/-- ITS FALSE NEIGHBOUR: 'it returns false'. Refute it at one input. -/
def claimsFoundWrong : ChangeSpec := { name := "claimsFound", fn := fun _ => fun
  | [d1, d2, d3, d4, d5] => { results := [.lit (.bool false)], args := [d1, d2, d3, d4, d5] }
  | _ => none }
def ClaimsFoundWrongFalsely : Prop := claimsFoundRow.holds Try.pinned (OpenSpec.ofChange claimsFoundWrong)

/-- 'slotmeshlaw14.ClaimsMatchesReference': WHATEVER THE INPUT: true; the input reads as it did. -/
def claimsMatchesReferenceSpec : ChangeSpec := { name := "claimsMatchesReference", fn := fun _ => fun
  | [d1, d2, d3, d4, d5, d6] => { results := [.lit (.bool true)], args := [d1, d2, d3, d4, d5, d6] }
  | _ => none }
def claimsMatchesReferenceRow : OpenClaim := { program := "ytadiocpcpjbjpaa", sum := "0eb2a43e2a1e53483c0c76d2cd532a5fd4ba6441ac540a3d935a3c8973cf732f", func := "slotmesh/slotmeshlaw14.ClaimsMatchesReference", spec := "claimsMatchesReference", unfollowed := true, recurses := true, plainKeys := false, apart := false }
def ClaimsMatchesReferenceSaid : Prop := claimsMatchesReferenceRow.holds Try.pinned (OpenSpec.ofChange claimsMatchesReferenceSpec)

/-- ITS FALSE NEIGHBOUR: 'it returns false'. Refute it at one input. -/
def claimsMatchesReferenceWrong : ChangeSpec := { name := "claimsMatchesReference", fn := fun _ => fun
  | [d1, d2, d3, d4, d5, d6] => { results := [.lit (.bool false)], args := [d1, d2, d3, d4, d5, d6] }
  | _ => none }
def ClaimsMatchesReferenceWrongFalsely : Prop := claimsMatchesReferenceRow.holds Try.pinned (OpenSpec.ofChange claimsMatchesReferenceWrong)

/-- 'slotmeshlaw14.ClaimsGiven': WHATEVER THE INPUT: true; the input reads as it did. -/
def claimsGivenSpec : ChangeSpec := { name := "claimsGiven", fn := fun _ => fun
  | [d1, d2, d3, d4] => { results := [.lit (.bool true)], args := [d1, d2, d3, d4] }
  | _ => none }
def claimsGivenRow : OpenClaim := { program := "ytadiocpcpjbjpaa", sum := "0eb2a43e2a1e53483c0c76d2cd532a5fd4ba6441ac540a3d935a3c8973cf732f", func := "slotmesh/slotmeshlaw14.ClaimsGiven", spec := "claimsGiven", unfollowed := true, recurses := true, plainKeys := false, apart := false }
def ClaimsGivenSaid : Prop := claimsGivenRow.holds Try.pinned (OpenSpec.ofChange claimsGivenSpec)

/-- ITS FALSE NEIGHBOUR: 'it returns false'. Refute it at one input. -/
def claimsGivenWrong : ChangeSpec := { name := "claimsGiven", fn := fun _ => fun
  | [d1, d2, d3, d4] => { results := [.lit (.bool false)], args := [d1, d2, d3, d4] }
  | _ => none }
def ClaimsGivenWrongFalsely : Prop := claimsGivenRow.holds Try.pinned (OpenSpec.ofChange claimsGivenWrong)

/-- 'slotmeshlaw14.ClaimsSettle': WHATEVER THE INPUT: true; the input reads as it did. -/
def claimsSettleSpec : ChangeSpec := { name := "claimsSettle", fn := fun _ => fun
  | [d1, d2, d3, d4] => { results := [.lit (.bool true)], args := [d1, d2, d3, d4] }
  | _ => none }
def claimsSettleRow : OpenClaim := { program := "ytadiocpcpjbjpaa", sum := "0eb2a43e2a1e53483c0c76d2cd532a5fd4ba6441ac540a3d935a3c8973cf732f", func := "slotmesh/slotmeshlaw14.ClaimsSettle", spec := "claimsSettle", unfollowed := true, recurses := true, plainKeys := false, apart := false }
def ClaimsSettleSaid : Prop := claimsSettleRow.holds Try.pinned (OpenSpec.ofChange claimsSettleSpec)

/-- ITS FALSE NEIGHBOUR: 'it returns false'. Refute it at one input. -/
def claimsSettleWrong : ChangeSpec := { name := "claimsSettle", fn := fun _ => fun
  | [d1, d2, d3, d4] => { results := [.lit (.bool false)], args := [d1, d2, d3, d4] }
  | _ => none }
def ClaimsSettleWrongFalsely : Prop := claimsSettleRow.holds Try.pinned (OpenSpec.ofChange claimsSettleWrong)

/-- 'slotmeshlaw14.ClaimsAgain': WHATEVER THE INPUT: true; the input reads as it did. -/
def claimsAgainSpec : ChangeSpec := { name := "claimsAgain", fn := fun _ => fun
  | [d1, d2, d3, d4, d5] => { results := [.lit (.bool true)], args := [d1, d2, d3, d4, d5] }
  | _ => none }
def claimsAgainRow : OpenClaim := { program := "ytadiocpcpjbjpaa", sum := "0eb2a43e2a1e53483c0c76d2cd532a5fd4ba6441ac540a3d935a3c8973cf732f", func := "slotmesh/slotmeshlaw14.ClaimsAgain", spec := "claimsAgain", unfollowed := true, recurses := true, plainKeys := false, apart := false }
def ClaimsAgainSaid : Prop := claimsAgainRow.holds Try.pinned (OpenSpec.ofChange claimsAgainSpec)

/-- ITS FALSE NEIGHBOUR: 'it returns false'. Refute it at one input. -/
def claimsAgainWrong : ChangeSpec := { name := "claimsAgain", fn := fun _ => fun
  | [d1, d2, d3, d4, d5] => { results := [.lit (.bool false)], args := [d1, d2, d3, d4, d5] }
  | _ => none }
def ClaimsAgainWrongFalsely : Prop := claimsAgainRow.holds Try.pinned (OpenSpec.ofChange claimsAgainWrong)

/-- 'slotmeshlaw14.ClaimsOld': WHATEVER THE INPUT: true; the input reads as it did. -/
def claimsOldSpec : ChangeSpec := { name := "claimsOld", fn := fun _ => fun
  | [d1, d2, d3, d4] => { results := [.lit (.bool true)], args := [d1, d2, d3, d4] }
  | _ => none }
def claimsOldRow : OpenClaim := { program := "ytadiocpcpjbjpaa", sum := "0eb2a43e2a1e53483c0c76d2cd532a5fd4ba6441ac540a3d935a3c8973cf732f", func := "slotmesh/slotmeshlaw14.ClaimsOld", spec := "claimsOld", unfollowed := true, recurses := true, plainKeys := false, apart := false }
def ClaimsOldSaid : Prop := claimsOldRow.holds Try.pinned (OpenSpec.ofChange claimsOldSpec)

/-- ITS FALSE NEIGHBOUR: 'it returns false'. Refute it at one input. -/
def claimsOldWrong : ChangeSpec := { name := "claimsOld", fn := fun _ => fun
  | [d1, d2, d3, d4] => { results := [.lit (.bool false)], args := [d1, d2, d3, d4] }
  | _ => none }
def ClaimsOldWrongFalsely : Prop := claimsOldRow.holds Try.pinned (OpenSpec.ofChange claimsOldWrong)

/- THE SECOND FORM. 'bulk': how many values and letters a reading holds, each counted each time it is reached (what is shared counts as often as it is met; a slice's spare places count too). A statement '..UptoSaid' is the law's where the arguments, and the package variables that the reading takes, are together of bulk at most 1048576: NARROWER than '..Said'. Prove '..Said' where nothing that the law and all that it calls make is longer than what came in: it says more and counts as full. Else prove '..UptoSaid'. A law counts once. -/
mutual
def uptoBulk {H : Type} : DataW H → Nat
  | .lit (.string bytes) => bytes.length + 1
  | .lit _ => 1
  | .nil => 1
  | .ptr d => uptoBulk d + 1
  | .slice elems spare => uptoBulkAll elems + uptoBulkAll spare + 1
  | .agg parts => uptoBulkAll parts + 1
  | .iface _ d => uptoBulk d + 1
  | .map entries => uptoBulkEntries entries + 1
  | .held _ => 1
def uptoBulkAll {H : Type} : List (DataW H) → Nat
  | [] => 0
  | d :: r => uptoBulk d + uptoBulkAll r
def uptoBulkEntries {H : Type} : List (Lit × DataW H) → Nat
  | [] => 0
  | x :: r => uptoBulkEntry x + uptoBulkEntries r
def uptoBulkEntry {H : Type} : Lit × DataW H → Nat
  | (.string bytes, d) => bytes.length + uptoBulk d + 1
  | (_, d) => uptoBulk d + 1
 end
def uptoSmall : (H : Type) → List (DataW H) → Bool := fun _ ds => decide (uptoBulkAll ds ≤ 1048576)
def OpenSpec.upto (s : _root_.Go.ChangeSpec) : _root_.Go.OpenSpec := { _root_.Go.OpenSpec.ofChange s with cond := some uptoSmall }

/-- 'slotmeshlaw14.ClaimsMore', WHERE WHAT IT READS IS OF BULK AT MOST 1048576: true; the input reads as it did. -/
def claimsMoreUptoRow : OpenClaim := { program := "ytadiocpcpjbjpaa", sum := "0eb2a43e2a1e53483c0c76d2cd532a5fd4ba6441ac540a3d935a3c8973cf732f", func := "slotmesh/slotmeshlaw14.ClaimsMore", spec := "claimsMore", unfollowed := true, recurses := true, plainKeys := false, apart := false, narrowed := true }
def ClaimsMoreUptoSaid : Prop := claimsMoreUptoRow.holds Try.pinned (OpenSpec.upto claimsMoreSpec)

/-- 'slotmeshlaw14.ClaimsFound', WHERE WHAT IT READS IS OF BULK AT MOST 1048576: true; the input reads as it did. -/
def claimsFoundUptoRow : OpenClaim := { program := "ytadiocpcpjbjpaa", sum := "0eb2a43e2a1e53483c0c76d2cd532a5fd4ba6441ac540a3d935a3c8973cf732f", func := "slotmesh/slotmeshlaw14.ClaimsFound", spec := "claimsFound", unfollowed := true, recurses := true, plainKeys := false, apart := false, narrowed := true }
def ClaimsFoundUptoSaid : Prop := claimsFoundUptoRow.holds Try.pinned (OpenSpec.upto claimsFoundSpec)

/-- 'slotmeshlaw14.ClaimsMatchesReference', WHERE WHAT IT READS IS OF BULK AT MOST 1048576: true; the input reads as it did. -/
def claimsMatchesReferenceUptoRow : OpenClaim := { program := "ytadiocpcpjbjpaa", sum := "0eb2a43e2a1e53483c0c76d2cd532a5fd4ba6441ac540a3d935a3c8973cf732f", func := "slotmesh/slotmeshlaw14.ClaimsMatchesReference", spec := "claimsMatchesReference", unfollowed := true, recurses := true, plainKeys := false, apart := false, narrowed := true }
def ClaimsMatchesReferenceUptoSaid : Prop := claimsMatchesReferenceUptoRow.holds Try.pinned (OpenSpec.upto claimsMatchesReferenceSpec)

/-- 'slotmeshlaw14.ClaimsGiven', WHERE WHAT IT READS IS OF BULK AT MOST 1048576: true; the input reads as it did. -/
def claimsGivenUptoRow : OpenClaim := { program := "ytadiocpcpjbjpaa", sum := "0eb2a43e2a1e53483c0c76d2cd532a5fd4ba6441ac540a3d935a3c8973cf732f", func := "slotmesh/slotmeshlaw14.ClaimsGiven", spec := "claimsGiven", unfollowed := true, recurses := true, plainKeys := false, apart := false, narrowed := true }
def ClaimsGivenUptoSaid : Prop := claimsGivenUptoRow.holds Try.pinned (OpenSpec.upto claimsGivenSpec)

/-- 'slotmeshlaw14.ClaimsSettle', WHERE WHAT IT READS IS OF BULK AT MOST 1048576: true; the input reads as it did. -/
def claimsSettleUptoRow : OpenClaim := { program := "ytadiocpcpjbjpaa", sum := "0eb2a43e2a1e53483c0c76d2cd532a5fd4ba6441ac540a3d935a3c8973cf732f", func := "slotmesh/slotmeshlaw14.ClaimsSettle", spec := "claimsSettle", unfollowed := true, recurses := true, plainKeys := false, apart := false, narrowed := true }
def ClaimsSettleUptoSaid : Prop := claimsSettleUptoRow.holds Try.pinned (OpenSpec.upto claimsSettleSpec)

/-- 'slotmeshlaw14.ClaimsAgain', WHERE WHAT IT READS IS OF BULK AT MOST 1048576: true; the input reads as it did. -/
def claimsAgainUptoRow : OpenClaim := { program := "ytadiocpcpjbjpaa", sum := "0eb2a43e2a1e53483c0c76d2cd532a5fd4ba6441ac540a3d935a3c8973cf732f", func := "slotmesh/slotmeshlaw14.ClaimsAgain", spec := "claimsAgain", unfollowed := true, recurses := true, plainKeys := false, apart := false, narrowed := true }
def ClaimsAgainUptoSaid : Prop := claimsAgainUptoRow.holds Try.pinned (OpenSpec.upto claimsAgainSpec)

/-- 'slotmeshlaw14.ClaimsOld', WHERE WHAT IT READS IS OF BULK AT MOST 1048576: true; the input reads as it did. -/
def claimsOldUptoRow : OpenClaim := { program := "ytadiocpcpjbjpaa", sum := "0eb2a43e2a1e53483c0c76d2cd532a5fd4ba6441ac540a3d935a3c8973cf732f", func := "slotmesh/slotmeshlaw14.ClaimsOld", spec := "claimsOld", unfollowed := true, recurses := true, plainKeys := false, apart := false, narrowed := true }
def ClaimsOldUptoSaid : Prop := claimsOldUptoRow.holds Try.pinned (OpenSpec.upto claimsOldSpec)

end Rows
end Go.Proofs.Ytadiocpcpjbjpaa
