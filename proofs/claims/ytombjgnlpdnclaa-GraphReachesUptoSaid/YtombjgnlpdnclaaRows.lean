/-
  No cell of these rows narrows 'for every input' (looked for: loops, veiled, ifaces, maps, wideKeys, modest, calm, conditions, laid).
  DERIVED. THE GIVEN ROWS OF THIS SEAT. 3 by the template 'for every input the law returns true; each argument reads behind the call as it read before'; 0 by the template 'total and deterministic' (their statements: YtombjgnlpdnclaaTotals.lean).
  GIVEN WITH THE SEED: the statements are not yours to turn. If you find one false, say at which input.
  Laid BY PROGRAM, IN A SANDBOX (cutbox-rows.mjs): the forced cells as the released guide's own fill.sh prints them over the translation 31b154a97fa30f9b… (all of the seat's roots in one cut). By AI agents, Wed Nov 11 2026. No macro, syntax, notation, axiom, sorry.
-/
import Derived.Test.YtombjgnlpdnclaaChecked
import GoSem.Claim
import GoSem.ClaimJoined
import GoSem.ClaimMapViews
import Derived.JoinedTies
import Derived.KernelRfl
namespace Go.Proofs.Ytombjgnlpdnclaa
/- THE CELL 'sum', in the pinned program and in every row, IS THE sha256 OF THE DUMP (.gsa) THAT YtombjgnlpdnclaaProg.lean LOADS. Nothing in Lean hashes anything: it is a label: what it is worth is what the hold of that sum in a sandbox is worth. -/
noncomputable def Try.pinned : Pinned := { name := "ytombjgnlpdnclaa", sum := "31b154a97fa30f9b4c1938def7a660ef93ee3b24ed2339e9ef2b15ca23e46192", checked := Try.checked }
namespace Rows
def none {H : Type} : Left H := { results := [], args := [] }

/-- 'jobmuxlaw07.GraphRight': WHATEVER THE INPUT: true; the input reads as it did. -/
def graphRightSpec : ChangeSpec := { name := "graphRight", fn := fun _ => fun
  | [d] => { results := [.lit (.bool true)], args := [d] }
  | _ => none }
def graphRightRow : OpenClaim := { program := "ytombjgnlpdnclaa", sum := "31b154a97fa30f9b4c1938def7a660ef93ee3b24ed2339e9ef2b15ca23e46192", func := "jobmux/jobmuxlaw07.GraphRight", spec := "graphRight", unfollowed := true, recurses := true, apart := false }
def GraphRightSaid : Prop := graphRightRow.holds Try.pinned (OpenSpec.ofChange graphRightSpec)

/-- ITS FALSE NEIGHBOUR: 'it returns false'. Refute it at one input. -/
def graphRightWrong : ChangeSpec := { name := "graphRight", fn := fun _ => fun
  | [d] => { results := [.lit (.bool false)], args := [d] }
  | _ => none }
def GraphRightWrongFalsely : Prop := graphRightRow.holds Try.pinned (OpenSpec.ofChange graphRightWrong)

/-- 'jobmuxlaw07.GraphFirst': WHATEVER THE INPUT: true; the input reads as it did. -/
def graphFirstSpec : ChangeSpec := { name := "graphFirst", fn := fun _ => fun
  | [d] => { results := [.lit (.bool true)], args := [d] }
  | _ => none }
def graphFirstRow : OpenClaim := { program := "ytombjgnlpdnclaa", sum := "31b154a97fa30f9b4c1938def7a660ef93ee3b24ed2339e9ef2b15ca23e46192", func := "jobmux/jobmuxlaw07.GraphFirst", spec := "graphFirst", unfollowed := true, recurses := true, apart := false }
def GraphFirstSaid : Prop := graphFirstRow.holds Try.pinned (OpenSpec.ofChange graphFirstSpec)

/-- ITS FALSE NEIGHBOUR: 'it returns false'. Refute it at one input. -/
def graphFirstWrong : ChangeSpec := { name := "graphFirst", fn := fun _ => fun
  | [d] => { results := [.lit (.bool false)], args := [d] }
  | _ => none }
def GraphFirstWrongFalsely : Prop := graphFirstRow.holds Try.pinned (OpenSpec.ofChange graphFirstWrong)

/-- 'jobmuxlaw07.GraphReaches': WHATEVER THE INPUT: true; the input reads as it did. -/
def graphReachesSpec : ChangeSpec := { name := "graphReaches", fn := fun _ => fun
  | [d1, d2] => { results := [.lit (.bool true)], args := [d1, d2] }
  | _ => none }
def graphReachesRow : OpenClaim := { program := "ytombjgnlpdnclaa", sum := "31b154a97fa30f9b4c1938def7a660ef93ee3b24ed2339e9ef2b15ca23e46192", func := "jobmux/jobmuxlaw07.GraphReaches", spec := "graphReaches", unfollowed := true, recurses := true, apart := false }
def GraphReachesSaid : Prop := graphReachesRow.holds Try.pinned (OpenSpec.ofChange graphReachesSpec)

/-- ITS FALSE NEIGHBOUR: 'it returns false'. Refute it at one input. -/
def graphReachesWrong : ChangeSpec := { name := "graphReaches", fn := fun _ => fun
  | [d1, d2] => { results := [.lit (.bool false)], args := [d1, d2] }
  | _ => none }
def GraphReachesWrongFalsely : Prop := graphReachesRow.holds Try.pinned (OpenSpec.ofChange graphReachesWrong)

/- THE SECOND FORM. 'bulk': how many values and letters a reading holds, each counted each time it is reached (what is shared counts as often as it is met; a slice's spare places count too). A statement '..UptoSaid' is the law's where the arguments, and the package variables that the reading takes, are together of bulk at most 1048576: NARROWER than '..Said'. Prove '..Said' where nothing that the law and all that it calls make is longer than what came in: it says more and counts as full. Else prove '..UptoSaid'. A law counts once. -/
mutual
def uptoBulk {H : Type} : DataW H → Nat
  | .lit (.string bytes) => bytes.length + 1
  | .lit _ => 1
  | .nil => 1
  | .ptr d => uptoBulk d + 1
  | .slice elems spare => uptoBulkAll elems + uptoBulkAll spare + 1
  | .agg parts => uptoBulkAll parts + 1
  | .iface _ d => uptoBulk d + 1
  | .map entries => uptoBulkEntries entries + 1
  | .held _ => 1
def uptoBulkAll {H : Type} : List (DataW H) → Nat
  | [] => 0
  | d :: r => uptoBulk d + uptoBulkAll r
def uptoBulkEntries {H : Type} : List (Lit × DataW H) → Nat
  | [] => 0
  | x :: r => uptoBulkEntry x + uptoBulkEntries r
def uptoBulkEntry {H : Type} : Lit × DataW H → Nat
  | (.string bytes, d) => bytes.length + uptoBulk d + 1
  | (_, d) => uptoBulk d + 1
 end
def uptoSmall : (H : Type) → List (DataW H) → Bool := fun _ ds => decide (uptoBulkAll ds ≤ 1048576)
def OpenSpec.upto (s : _root_.Go.ChangeSpec) : _root_.Go.OpenSpec := { _root_.Go.OpenSpec.ofChange s with cond := some uptoSmall }

/-- 'jobmuxlaw07.GraphRight', WHERE WHAT IT READS IS OF BULK AT MOST 1048576: true; the input reads as it did. -/
def graphRightUptoRow : OpenClaim := { program := "ytombjgnlpdnclaa", sum := "31b154a97fa30f9b4c1938def7a660ef93ee3b24ed2339e9ef2b15ca23e46192", func := "jobmux/jobmuxlaw07.GraphRight", spec := "graphRight", unfollowed := true, recurses := true, apart := false, narrowed := true }
def GraphRightUptoSaid : Prop := graphRightUptoRow.holds Try.pinned (OpenSpec.upto graphRightSpec)

/-- 'jobmuxlaw07.GraphFirst', WHERE WHAT IT READS IS OF BULK AT MOST 1048576: true; the input reads as it did. -/
def graphFirstUptoRow : OpenClaim := { program := "ytombjgnlpdnclaa", sum := "31b154a97fa30f9b4c1938def7a660ef93ee3b24ed2339e9ef2b15ca23e46192", func := "jobmux/jobmuxlaw07.GraphFirst", spec := "graphFirst", unfollowed := true, recurses := true, apart := false, narrowed := true }
def GraphFirstUptoSaid : Prop := graphFirstUptoRow.holds Try.pinned (OpenSpec.upto graphFirstSpec)

/-- 'jobmuxlaw07.GraphReaches', WHERE WHAT IT READS IS OF BULK AT MOST 1048576: true; the input reads as it did. -/
def graphReachesUptoRow : OpenClaim := { program := "ytombjgnlpdnclaa", sum := "31b154a97fa30f9b4c1938def7a660ef93ee3b24ed2339e9ef2b15ca23e46192", func := "jobmux/jobmuxlaw07.GraphReaches", spec := "graphReaches", unfollowed := true, recurses := true, apart := false, narrowed := true }
def GraphReachesUptoSaid : Prop := graphReachesUptoRow.holds Try.pinned (OpenSpec.upto graphReachesSpec)

end Rows
end Go.Proofs.Ytombjgnlpdnclaa
