/-
  No cell of these rows narrows 'for every input' (looked for: loops, veiled, ifaces, maps, wideKeys, modest, calm, conditions, laid).
  DERIVED. THE GIVEN ROWS OF THIS SEAT. 3 by the template 'for every input the law returns true; each argument reads behind the call as it read before'; 0 by the template 'total and deterministic' (their statements: YtcdobfeeabhkeaaTotals.lean).
  GIVEN WITH THE SEED: the statements are not yours to turn. If you find one false, say at which input.
  Laid BY PROGRAM, IN A SANDBOX (cutbox-rows.mjs): the forced cells as the released guide's own fill.sh prints them over the translation 02a20ec51b4b351e… (all of the seat's roots in one cut). By AI agents, Wed Nov 11 2026. No macro, syntax, notation, axiom, sorry.
-/
import Derived.Test.YtcdobfeeabhkeaaChecked
import GoSem.Claim
import GoSem.ClaimJoined
import GoSem.ClaimMapViews
import Derived.JoinedTies
import Derived.KernelRfl
namespace Go.Proofs.Ytcdobfeeabhkeaa
/- THE CELL 'sum', in the pinned program and in every row, IS THE sha256 OF THE DUMP (.gsa) THAT YtcdobfeeabhkeaaProg.lean LOADS. Nothing in Lean hashes anything: it is a label: what it is worth is what the hold of that sum in a sandbox is worth. -/
noncomputable def Try.pinned : Pinned := { name := "ytcdobfeeabhkeaa", sum := "02a20ec51b4b351ec8a1a09c76b81f60c617c380253f1f4e19901eadf4a49299", checked := Try.checked }
namespace Rows
def none {H : Type} : Left H := { results := [], args := [] }

/-- 'serinettelaw16.SubframeTakes': WHATEVER THE INPUT: true; the input reads as it did. -/
def subframeTakesSpec : ChangeSpec := { name := "subframeTakes", fn := fun _ => fun
  | [d1, d2, d3] => { results := [.lit (.bool true)], args := [d1, d2, d3] }
  | _ => none }
def subframeTakesRow : OpenClaim := { program := "ytcdobfeeabhkeaa", sum := "02a20ec51b4b351ec8a1a09c76b81f60c617c380253f1f4e19901eadf4a49299", func := "serinette/serinettelaw16.SubframeTakes", spec := "subframeTakes", unfollowed := true, recurses := true, apart := false }
def SubframeTakesSaid : Prop := subframeTakesRow.holds Try.pinned (OpenSpec.ofChange subframeTakesSpec)

/-- ITS FALSE NEIGHBOUR: 'it returns false'. Refute it at one input. -/
def subframeTakesWrong : ChangeSpec := { name := "subframeTakes", fn := fun _ => fun
  | [d1, d2, d3] => { results := [.lit (.bool false)], args := [d1, d2, d3] }
  | _ => none }
def SubframeTakesWrongFalsely : Prop := subframeTakesRow.holds Try.pinned (OpenSpec.ofChange subframeTakesWrong)

/-- 'serinettelaw16.SubframeBack': WHATEVER THE INPUT: true; the input reads as it did. -/
def subframeBackSpec : ChangeSpec := { name := "subframeBack", fn := fun _ => fun
  | [d1, d2, d3, d4] => { results := [.lit (.bool true)], args := [d1, d2, d3, d4] }
  | _ => none }
def subframeBackRow : OpenClaim := { program := "ytcdobfeeabhkeaa", sum := "02a20ec51b4b351ec8a1a09c76b81f60c617c380253f1f4e19901eadf4a49299", func := "serinette/serinettelaw16.SubframeBack", spec := "subframeBack", unfollowed := true, recurses := true, apart := false }
def SubframeBackSaid : Prop := subframeBackRow.holds Try.pinned (OpenSpec.ofChange subframeBackSpec)

/-- ITS FALSE NEIGHBOUR: 'it returns false'. Refute it at one input. -/
def subframeBackWrong : ChangeSpec := { name := "subframeBack", fn := fun _ => fun
  | [d1, d2, d3, d4] => { results := [.lit (.bool false)], args := [d1, d2, d3, d4] }
  | _ => none }
def SubframeBackWrongFalsely : Prop := subframeBackRow.holds Try.pinned (OpenSpec.ofChange subframeBackWrong)

/-- 'serinettelaw16.SubframeAgain': WHATEVER THE INPUT: true; the input reads as it did. -/
def subframeAgainSpec : ChangeSpec := { name := "subframeAgain", fn := fun _ => fun
  | [d1, d2, d3] => { results := [.lit (.bool true)], args := [d1, d2, d3] }
  | _ => none }
def subframeAgainRow : OpenClaim := { program := "ytcdobfeeabhkeaa", sum := "02a20ec51b4b351ec8a1a09c76b81f60c617c380253f1f4e19901eadf4a49299", func := "serinette/serinettelaw16.SubframeAgain", spec := "subframeAgain", unfollowed := true, recurses := true, apart := false }
def SubframeAgainSaid : Prop := subframeAgainRow.holds Try.pinned (OpenSpec.ofChange subframeAgainSpec)

/-- ITS FALSE NEIGHBOUR: 'it returns false'. Refute it at one input. -/
def subframeAgainWrong : ChangeSpec := { name := "subframeAgain", fn := fun _ => fun
  | [d1, d2, d3] => { results := [.lit (.bool false)], args := [d1, d2, d3] }
  | _ => none }
def SubframeAgainWrongFalsely : Prop := subframeAgainRow.holds Try.pinned (OpenSpec.ofChange subframeAgainWrong)

/- THE SECOND FORM. 'bulk': how many values and letters a reading holds, each counted each time it is reached (what is shared counts as often as it is met; a slice's spare places count too). A statement '..UptoSaid' is the law's where the arguments, and the package variables that the reading takes, are together of bulk at most 1048576: NARROWER than '..Said'. Prove '..Said' where nothing that the law and all that it calls make is longer than what came in: it says more and counts as full. Else prove '..UptoSaid'. A law counts once. -/
mutual
def uptoBulk {H : Type} : DataW H → Nat
  | .lit (.string bytes) => bytes.length + 1
  | .lit _ => 1
  | .nil => 1
  | .ptr d => uptoBulk d + 1
  | .slice elems spare => uptoBulkAll elems + uptoBulkAll spare + 1
  | .agg parts => uptoBulkAll parts + 1
  | .iface _ d => uptoBulk d + 1
  | .map entries => uptoBulkEntries entries + 1
  | .held _ => 1
def uptoBulkAll {H : Type} : List (DataW H) → Nat
  | [] => 0
  | d :: r => uptoBulk d + uptoBulkAll r
def uptoBulkEntries {H : Type} : List (Lit × DataW H) → Nat
  | [] => 0
  | x :: r => uptoBulkEntry x + uptoBulkEntries r
def uptoBulkEntry {H : Type} : Lit × DataW H → Nat
  | (.string bytes, d) => bytes.length + uptoBulk d + 1
  | (_, d) => uptoBulk d + 1
 end
def uptoSmall : (H : Type) → List (DataW H) → Bool := fun _ ds => decide (uptoBulkAll ds ≤ 1048576)
def OpenSpec.upto (s : _root_.Go.ChangeSpec) : _root_.Go.OpenSpec := { _root_.Go.OpenSpec.ofChange s with cond := some uptoSmall }

/-- 'serinettelaw16.SubframeTakes', WHERE WHAT IT READS IS OF BULK AT MOST 1048576: true; the input reads as it did. -/
def subframeTakesUptoRow : OpenClaim := { program := "ytcdobfeeabhkeaa", sum := "02a20ec51b4b351ec8a1a09c76b81f60c617c380253f1f4e19901eadf4a49299", func := "serinette/serinettelaw16.SubframeTakes", spec := "subframeTakes", unfollowed := true, recurses := true, apart := false, narrowed := true }
def SubframeTakesUptoSaid : Prop := subframeTakesUptoRow.holds Try.pinned (OpenSpec.upto subframeTakesSpec)

/-- 'serinettelaw16.SubframeBack', WHERE WHAT IT READS IS OF BULK AT MOST 1048576: true; the input reads as it did. -/
def subframeBackUptoRow : OpenClaim := { program := "ytcdobfeeabhkeaa", sum := "02a20ec51b4b351ec8a1a09c76b81f60c617c380253f1f4e19901eadf4a49299", func := "serinette/serinettelaw16.SubframeBack", spec := "subframeBack", unfollowed := true, recurses := true, apart := false, narrowed := true }
def SubframeBackUptoSaid : Prop := subframeBackUptoRow.holds Try.pinned (OpenSpec.upto subframeBackSpec)

/-- 'serinettelaw16.SubframeAgain', WHERE WHAT IT READS IS OF BULK AT MOST 1048576: true; the input reads as it did. -/
def subframeAgainUptoRow : OpenClaim := { program := "ytcdobfeeabhkeaa", sum := "02a20ec51b4b351ec8a1a09c76b81f60c617c380253f1f4e19901eadf4a49299", func := "serinette/serinettelaw16.SubframeAgain", spec := "subframeAgain", unfollowed := true, recurses := true, apart := false, narrowed := true }
def SubframeAgainUptoSaid : Prop := subframeAgainUptoRow.holds Try.pinned (OpenSpec.upto subframeAgainSpec)

end Rows
end Go.Proofs.Ytcdobfeeabhkeaa
