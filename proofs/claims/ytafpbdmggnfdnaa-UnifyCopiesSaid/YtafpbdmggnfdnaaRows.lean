/-
  No cell of these rows narrows 'for every input' (looked for: loops, veiled, ifaces, maps, wideKeys, modest, calm, conditions, laid).
  DERIVED. THE GIVEN ROWS OF THIS SEAT. 6 by the template 'for every input the law returns true; each argument reads behind the call as it read before'; 0 by the template 'total and deterministic' (their statements: YtafpbdmggnfdnaaTotals.lean).
  GIVEN WITH THE SEED: the statements are not yours to turn. If you find one false, say at which input.
  Laid BY PROGRAM, IN A SANDBOX (cutbox-rows.mjs): the forced cells as the released guide's own fill.sh prints them over the translation e8f941aa04175cb7… (all of the seat's roots in one cut). By AI agents, Wed Nov 11 2026. No macro, syntax, notation, axiom, sorry.
-/
import Derived.Test.YtafpbdmggnfdnaaChecked
import GoSem.Claim
import GoSem.ClaimJoined
import GoSem.ClaimMapViews
import Derived.JoinedTies
import Derived.KernelRfl
namespace Go.Proofs.Ytafpbdmggnfdnaa
/- THE CELL 'sum', in the pinned program and in every row, IS THE sha256 OF THE DUMP (.gsa) THAT YtafpbdmggnfdnaaProg.lean LOADS. Nothing in Lean hashes anything: it is a label: what it is worth is what the hold of that sum in a sandbox is worth. -/
noncomputable def Try.pinned : Pinned := { name := "ytafpbdmggnfdnaa", sum := "e8f941aa04175cb7fc393b158fbb4e4e0c943e92d6f4b50584628782f1c9915f", checked := Try.checked }
namespace Rows
def none {H : Type} : Left H := { results := [], args := [] }

/-- 'parlancelaw13.UnifySteps': WHATEVER THE INPUT: true; the input reads as it did. -/
def unifyStepsSpec : ChangeSpec := { name := "unifySteps", fn := fun _ => fun
  | [d] => { results := [.lit (.bool true)], args := [d] }
  | _ => none }
def unifyStepsRow : OpenClaim := { program := "ytafpbdmggnfdnaa", sum := "e8f941aa04175cb7fc393b158fbb4e4e0c943e92d6f4b50584628782f1c9915f", func := "parlance/parlancelaw13.UnifySteps", spec := "unifySteps", unfollowed := true, recurses := true, apart := false }
def UnifyStepsSaid : Prop := unifyStepsRow.holds Try.pinned (OpenSpec.ofChange unifyStepsSpec)

/-- ITS FALSE NEIGHBOUR: 'it returns false'. Refute it at one input. -/
def unifyStepsWrong : ChangeSpec := { name := "unifySteps", fn := fun _ => fun
  | [d] => { results := [.lit (.bool false)], args := [d] }
  | _ => none }
def UnifyStepsWrongFalsely : Prop := unifyStepsRow.holds Try.pinned (OpenSpec.ofChange unifyStepsWrong)

/-- 'parlancelaw13.UnifyTypes': WHATEVER THE INPUT: true; the input reads as it did. -/
def unifyTypesSpec : ChangeSpec := { name := "unifyTypes", fn := fun _ => fun
  | [d1, d2] => { results := [.lit (.bool true)], args := [d1, d2] }
  | _ => none }
def unifyTypesRow : OpenClaim := { program := "ytafpbdmggnfdnaa", sum := "e8f941aa04175cb7fc393b158fbb4e4e0c943e92d6f4b50584628782f1c9915f", func := "parlance/parlancelaw13.UnifyTypes", spec := "unifyTypes", unfollowed := true, recurses := true, apart := false }
def UnifyTypesSaid : Prop := unifyTypesRow.holds Try.pinned (OpenSpec.ofChange unifyTypesSpec)

/-- ITS FALSE NEIGHBOUR: 'it returns false'. Refute it at one input. -/
def unifyTypesWrong : ChangeSpec := { name := "unifyTypes", fn := fun _ => fun
  | [d1, d2] => { results := [.lit (.bool false)], args := [d1, d2] }
  | _ => none }
def UnifyTypesWrongFalsely : Prop := unifyTypesRow.holds Try.pinned (OpenSpec.ofChange unifyTypesWrong)

/-- 'parlancelaw13.UnifyMeets': WHATEVER THE INPUT: true; the input reads as it did. -/
def unifyMeetsSpec : ChangeSpec := { name := "unifyMeets", fn := fun _ => fun
  | [d1, d2, d3] => { results := [.lit (.bool true)], args := [d1, d2, d3] }
  | _ => none }
def unifyMeetsRow : OpenClaim := { program := "ytafpbdmggnfdnaa", sum := "e8f941aa04175cb7fc393b158fbb4e4e0c943e92d6f4b50584628782f1c9915f", func := "parlance/parlancelaw13.UnifyMeets", spec := "unifyMeets", unfollowed := true, recurses := true, apart := false }
def UnifyMeetsSaid : Prop := unifyMeetsRow.holds Try.pinned (OpenSpec.ofChange unifyMeetsSpec)

/-- ITS FALSE NEIGHBOUR: 'it returns false'. Refute it at one input. -/
def unifyMeetsWrong : ChangeSpec := { name := "unifyMeets", fn := fun _ => fun
  | [d1, d2, d3] => { results := [.lit (.bool false)], args := [d1, d2, d3] }
  | _ => none }
def UnifyMeetsWrongFalsely : Prop := unifyMeetsRow.holds Try.pinned (OpenSpec.ofChange unifyMeetsWrong)

/-- 'parlancelaw13.UnifyGreat': WHATEVER THE INPUT: true; the input reads as it did. -/
def unifyGreatSpec : ChangeSpec := { name := "unifyGreat", fn := fun _ => fun
  | [d] => { results := [.lit (.bool true)], args := [d] }
  | _ => none }
def unifyGreatRow : OpenClaim := { program := "ytafpbdmggnfdnaa", sum := "e8f941aa04175cb7fc393b158fbb4e4e0c943e92d6f4b50584628782f1c9915f", func := "parlance/parlancelaw13.UnifyGreat", spec := "unifyGreat", unfollowed := true, recurses := true, apart := false }
def UnifyGreatSaid : Prop := unifyGreatRow.holds Try.pinned (OpenSpec.ofChange unifyGreatSpec)

/-- ITS FALSE NEIGHBOUR: 'it returns false'. Refute it at one input. -/
def unifyGreatWrong : ChangeSpec := { name := "unifyGreat", fn := fun _ => fun
  | [d] => { results := [.lit (.bool false)], args := [d] }
  | _ => none }
def UnifyGreatWrongFalsely : Prop := unifyGreatRow.holds Try.pinned (OpenSpec.ofChange unifyGreatWrong)

/-- 'parlancelaw13.UnifyChain': WHATEVER THE INPUT: true; the input reads as it did. -/
def unifyChainSpec : ChangeSpec := { name := "unifyChain", fn := fun _ => fun
  | [d1, d2, d3, d4] => { results := [.lit (.bool true)], args := [d1, d2, d3, d4] }
  | _ => none }
def unifyChainRow : OpenClaim := { program := "ytafpbdmggnfdnaa", sum := "e8f941aa04175cb7fc393b158fbb4e4e0c943e92d6f4b50584628782f1c9915f", func := "parlance/parlancelaw13.UnifyChain", spec := "unifyChain", unfollowed := true, recurses := true, apart := false }
def UnifyChainSaid : Prop := unifyChainRow.holds Try.pinned (OpenSpec.ofChange unifyChainSpec)

/-- ITS FALSE NEIGHBOUR: 'it returns false'. Refute it at one input. -/
def unifyChainWrong : ChangeSpec := { name := "unifyChain", fn := fun _ => fun
  | [d1, d2, d3, d4] => { results := [.lit (.bool false)], args := [d1, d2, d3, d4] }
  | _ => none }
def UnifyChainWrongFalsely : Prop := unifyChainRow.holds Try.pinned (OpenSpec.ofChange unifyChainWrong)

/-- 'parlancelaw13.UnifyCopies': WHATEVER THE INPUT: true; the input reads as it did. -/
def unifyCopiesSpec : ChangeSpec := { name := "unifyCopies", fn := fun _ => fun
  | [d1, d2, d3] => { results := [.lit (.bool true)], args := [d1, d2, d3] }
  | _ => none }
def unifyCopiesRow : OpenClaim := { program := "ytafpbdmggnfdnaa", sum := "e8f941aa04175cb7fc393b158fbb4e4e0c943e92d6f4b50584628782f1c9915f", func := "parlance/parlancelaw13.UnifyCopies", spec := "unifyCopies", unfollowed := true, recurses := true, apart := false }
def UnifyCopiesSaid : Prop := unifyCopiesRow.holds Try.pinned (OpenSpec.ofChange unifyCopiesSpec)

/-- ITS FALSE NEIGHBOUR: 'it returns false'. Refute it at one input. -/
def unifyCopiesWrong : ChangeSpec := { name := "unifyCopies", fn := fun _ => fun
  | [d1, d2, d3] => { results := [.lit (.bool false)], args := [d1, d2, d3] }
  | _ => none }
def UnifyCopiesWrongFalsely : Prop := unifyCopiesRow.holds Try.pinned (OpenSpec.ofChange unifyCopiesWrong)

/- THE SECOND FORM. 'bulk': how many values and letters a reading holds, each counted each time it is reached (what is shared counts as often as it is met; a slice's spare places count too). A statement '..UptoSaid' is the law's where the arguments, and the package variables that the reading takes, are together of bulk at most 1048576: NARROWER than '..Said'. Prove '..Said' where nothing that the law and all that it calls make is longer than what came in: it says more and counts as full. Else prove '..UptoSaid'. A law counts once. -/
mutual
def uptoBulk {H : Type} : DataW H → Nat
  | .lit (.string bytes) => bytes.length + 1
  | .lit _ => 1
  | .nil => 1
  | .ptr d => uptoBulk d + 1
  | .slice elems spare => uptoBulkAll elems + uptoBulkAll spare + 1
  | .agg parts => uptoBulkAll parts + 1
  | .iface _ d => uptoBulk d + 1
  | .map entries => uptoBulkEntries entries + 1
  | .held _ => 1
def uptoBulkAll {H : Type} : List (DataW H) → Nat
  | [] => 0
  | d :: r => uptoBulk d + uptoBulkAll r
def uptoBulkEntries {H : Type} : List (Lit × DataW H) → Nat
  | [] => 0
  | x :: r => uptoBulkEntry x + uptoBulkEntries r
def uptoBulkEntry {H : Type} : Lit × DataW H → Nat
  | (.string bytes, d) => bytes.length + uptoBulk d + 1
  | (_, d) => uptoBulk d + 1
 end
def uptoSmall : (H : Type) → List (DataW H) → Bool := fun _ ds => decide (uptoBulkAll ds ≤ 1048576)
def OpenSpec.upto (s : _root_.Go.ChangeSpec) : _root_.Go.OpenSpec := { _root_.Go.OpenSpec.ofChange s with cond := some uptoSmall }

/-- 'parlancelaw13.UnifySteps', WHERE WHAT IT READS IS OF BULK AT MOST 1048576: true; the input reads as it did. -/
def unifyStepsUptoRow : OpenClaim := { program := "ytafpbdmggnfdnaa", sum := "e8f941aa04175cb7fc393b158fbb4e4e0c943e92d6f4b50584628782f1c9915f", func := "parlance/parlancelaw13.UnifySteps", spec := "unifySteps", unfollowed := true, recurses := true, apart := false, narrowed := true }
def UnifyStepsUptoSaid : Prop := unifyStepsUptoRow.holds Try.pinned (OpenSpec.upto unifyStepsSpec)

/-- 'parlancelaw13.UnifyTypes', WHERE WHAT IT READS IS OF BULK AT MOST 1048576: true; the input reads as it did. -/
def unifyTypesUptoRow : OpenClaim := { program := "ytafpbdmggnfdnaa", sum := "e8f941aa04175cb7fc393b158fbb4e4e0c943e92d6f4b50584628782f1c9915f", func := "parlance/parlancelaw13.UnifyTypes", spec := "unifyTypes", unfollowed := true, recurses := true, apart := false, narrowed := true }
def UnifyTypesUptoSaid : Prop := unifyTypesUptoRow.holds Try.pinned (OpenSpec.upto unifyTypesSpec)

/-- 'parlancelaw13.UnifyMeets', WHERE WHAT IT READS IS OF BULK AT MOST 1048576: true; the input reads as it did. -/
def unifyMeetsUptoRow : OpenClaim := { program := "ytafpbdmggnfdnaa", sum := "e8f941aa04175cb7fc393b158fbb4e4e0c943e92d6f4b50584628782f1c9915f", func := "parlance/parlancelaw13.UnifyMeets", spec := "unifyMeets", unfollowed := true, recurses := true, apart := false, narrowed := true }
def UnifyMeetsUptoSaid : Prop := unifyMeetsUptoRow.holds Try.pinned (OpenSpec.upto unifyMeetsSpec)

/-- 'parlancelaw13.UnifyGreat', WHERE WHAT IT READS IS OF BULK AT MOST 1048576: true; the input reads as it did. -/
def unifyGreatUptoRow : OpenClaim := { program := "ytafpbdmggnfdnaa", sum := "e8f941aa04175cb7fc393b158fbb4e4e0c943e92d6f4b50584628782f1c9915f", func := "parlance/parlancelaw13.UnifyGreat", spec := "unifyGreat", unfollowed := true, recurses := true, apart := false, narrowed := true }
def UnifyGreatUptoSaid : Prop := unifyGreatUptoRow.holds Try.pinned (OpenSpec.upto unifyGreatSpec)

/-- 'parlancelaw13.UnifyChain', WHERE WHAT IT READS IS OF BULK AT MOST 1048576: true; the input reads as it did. -/
def unifyChainUptoRow : OpenClaim := { program := "ytafpbdmggnfdnaa", sum := "e8f941aa04175cb7fc393b158fbb4e4e0c943e92d6f4b50584628782f1c9915f", func := "parlance/parlancelaw13.UnifyChain", spec := "unifyChain", unfollowed := true, recurses := true, apart := false, narrowed := true }
def UnifyChainUptoSaid : Prop := unifyChainUptoRow.holds Try.pinned (OpenSpec.upto unifyChainSpec)

/-- 'parlancelaw13.UnifyCopies', WHERE WHAT IT READS IS OF BULK AT MOST 1048576: true; the input reads as it did. -/
def unifyCopiesUptoRow : OpenClaim := { program := "ytafpbdmggnfdnaa", sum := "e8f941aa04175cb7fc393b158fbb4e4e0c943e92d6f4b50584628782f1c9915f", func := "parlance/parlancelaw13.UnifyCopies", spec := "unifyCopies", unfollowed := true, recurses := true, apart := false, narrowed := true }
def UnifyCopiesUptoSaid : Prop := unifyCopiesUptoRow.holds Try.pinned (OpenSpec.upto unifyCopiesSpec)

end Rows
end Go.Proofs.Ytafpbdmggnfdnaa
