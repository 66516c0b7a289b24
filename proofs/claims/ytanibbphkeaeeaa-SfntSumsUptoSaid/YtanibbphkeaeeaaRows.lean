/-
  No cell of these rows narrows 'for every input' (looked for: loops, veiled, ifaces, maps, wideKeys, modest, calm, conditions, laid).
  DERIVED. THE GIVEN ROWS OF THIS SEAT. 3 by the template 'for every input the law returns true; each argument reads behind the call as it read before'; 0 by the template 'total and deterministic' (their statements: YtanibbphkeaeeaaTotals.lean).
  GIVEN WITH THE SEED: the statements are not yours to turn. If you find one false, say at which input.
  Laid BY PROGRAM, IN A SANDBOX (cutbox-rows.mjs): the forced cells as the released guide's own fill.sh prints them over the translation 1357251e7919b5cc… (all of the seat's roots in one cut). By AI agents, Wed Nov 11 2026. No macro, syntax, notation, axiom, sorry.
-/
import Derived.Test.YtanibbphkeaeeaaChecked
import GoSem.Claim
import GoSem.ClaimJoined
import GoSem.ClaimMapViews
import Derived.JoinedTies
import Derived.KernelRfl
namespace Go.Proofs.Ytanibbphkeaeeaa
/- THE CELL 'sum', in the pinned program and in every row, IS THE sha256 OF THE DUMP (.gsa) THAT YtanibbphkeaeeaaProg.lean LOADS. Nothing in Lean hashes anything: it is a label: what it is worth is what the hold of that sum in a sandbox is worth. -/
noncomputable def Try.pinned : Pinned := { name := "ytanibbphkeaeeaa", sum := "1357251e7919b5ccba1503ccc33002ef63a0691c85b685b9ad8159433c19429f", checked := Try.checked }
namespace Rows
def none {H : Type} : Left H := { results := [], args := [] }

/-- 'seriflaw20.JustifySets': WHATEVER THE INPUT: true; the input reads as it did. -/
def justifySetsSpec : ChangeSpec := { name := "justifySets", fn := fun _ => fun
  | [d1, d2, d3] => { results := [.lit (.bool true)], args := [d1, d2, d3] }
  | _ => none }
def justifySetsRow : OpenClaim := { program := "ytanibbphkeaeeaa", sum := "1357251e7919b5ccba1503ccc33002ef63a0691c85b685b9ad8159433c19429f", func := "serif/seriflaw20.JustifySets", spec := "justifySets", unfollowed := true, recurses := true, named := ["math/bits.divideError", "math/bits.overflowError"], apart := false }
def JustifySetsSaid : Prop := justifySetsRow.holds Try.pinned (OpenSpec.ofChange justifySetsSpec)

/-- ITS FALSE NEIGHBOUR: 'it returns false'. Refute it at one input. -/
def justifySetsWrong : ChangeSpec := { name := "justifySets", fn := fun _ => fun
  | [d1, d2, d3] => { results := [.lit (.bool false)], args := [d1, d2, d3] }
  | _ => none }
def JustifySetsWrongFalsely : Prop := justifySetsRow.holds Try.pinned (OpenSpec.ofChange justifySetsWrong)

/-- 'seriflaw20.JustifyFair': WHATEVER THE INPUT: true; the input reads as it did. -/
def justifyFairSpec : ChangeSpec := { name := "justifyFair", fn := fun _ => fun
  | [d1, d2, d3] => { results := [.lit (.bool true)], args := [d1, d2, d3] }
  | _ => none }
def justifyFairRow : OpenClaim := { program := "ytanibbphkeaeeaa", sum := "1357251e7919b5ccba1503ccc33002ef63a0691c85b685b9ad8159433c19429f", func := "serif/seriflaw20.JustifyFair", spec := "justifyFair", unfollowed := true, recurses := true, named := ["math/bits.divideError", "math/bits.overflowError"], apart := false }
def JustifyFairSaid : Prop := justifyFairRow.holds Try.pinned (OpenSpec.ofChange justifyFairSpec)

/-- ITS FALSE NEIGHBOUR: 'it returns false'. Refute it at one input. -/
def justifyFairWrong : ChangeSpec := { name := "justifyFair", fn := fun _ => fun
  | [d1, d2, d3] => { results := [.lit (.bool false)], args := [d1, d2, d3] }
  | _ => none }
def JustifyFairWrongFalsely : Prop := justifyFairRow.holds Try.pinned (OpenSpec.ofChange justifyFairWrong)

/-- 'seriflaw03.SfntSums': WHATEVER THE INPUT: true; the input reads as it did. -/
def sfntSumsSpec : ChangeSpec := { name := "sfntSums", fn := fun _ => fun
  | [d1, d2] => { results := [.lit (.bool true)], args := [d1, d2] }
  | _ => none }
def sfntSumsRow : OpenClaim := { program := "ytanibbphkeaeeaa", sum := "1357251e7919b5ccba1503ccc33002ef63a0691c85b685b9ad8159433c19429f", func := "serif/seriflaw03.SfntSums", spec := "sfntSums", apart := false }
def SfntSumsSaid : Prop := sfntSumsRow.holds Try.pinned (OpenSpec.ofChange sfntSumsSpec)

/-- ITS FALSE NEIGHBOUR: 'it returns false'. Refute it at one input. -/
def sfntSumsWrong : ChangeSpec := { name := "sfntSums", fn := fun _ => fun
  | [d1, d2] => { results := [.lit (.bool false)], args := [d1, d2] }
  | _ => none }
def SfntSumsWrongFalsely : Prop := sfntSumsRow.holds Try.pinned (OpenSpec.ofChange sfntSumsWrong)

/- THE SECOND FORM. 'bulk': how many values and letters a reading holds, each counted each time it is reached (what is shared counts as often as it is met; a slice's spare places count too). A statement '..UptoSaid' is the law's where the arguments, and the package variables that the reading takes, are together of bulk at most 1048576: NARROWER than '..Said'. Prove '..Said' where nothing that the law and all that it calls make is longer than what came in: it says more and counts as full. Else prove '..UptoSaid'. A law counts once. -/
mutual
def uptoBulk {H : Type} : DataW H → Nat
  | .lit (.string bytes) => bytes.length + 1
  | .lit _ => 1
  | .nil => 1
  | .ptr d => uptoBulk d + 1
  | .slice elems spare => uptoBulkAll elems + uptoBulkAll spare + 1
  | .agg parts => uptoBulkAll parts + 1
  | .iface _ d => uptoBulk d + 1
  | .map entries => uptoBulkEntries entries + 1
  | .held _ => 1
def uptoBulkAll {H : Type} : List (DataW H) → Nat
  | [] => 0
  | d :: r => uptoBulk d + uptoBulkAll r
def uptoBulkEntries {H : Type} : List (Lit × DataW H) → Nat
  | [] => 0
  | x :: r => uptoBulkEntry x + uptoBulkEntries r
def uptoBulkEntry {H : Type} : Lit × DataW H → Nat
  | (.string bytes, d) => bytes.length + uptoBulk d + 1
  | (_, d) => uptoBulk d + 1
 end
def uptoSmall : (H : Type) → List (DataW H) → Bool := fun _ ds => decide (uptoBulkAll ds ≤ 1048576)
def OpenSpec.upto (s : _root_.Go.ChangeSpec) : _root_.Go.OpenSpec := { _root_.Go.OpenSpec.ofChange s with cond := some uptoSmall }

/-- 'seriflaw20.JustifySets', WHERE WHAT IT READS IS OF BULK AT MOST 1048576: true; the input reads as it did. -/
def justifySetsUptoRow : OpenClaim := { program := "ytanibbphkeaeeaa", sum := "1357251e7919b5ccba1503ccc33002ef63a0691c85b685b9ad8159433c19429f", func := "serif/seriflaw20.JustifySets", spec := "justifySets", unfollowed := true, recurses := true, named := ["math/bits.divideError", "math/bits.overflowError"], apart := false, narrowed := true }
def JustifySetsUptoSaid : Prop := justifySetsUptoRow.holds Try.pinned (OpenSpec.upto justifySetsSpec)

/-- 'seriflaw20.JustifyFair', WHERE WHAT IT READS IS OF BULK AT MOST 1048576: true; the input reads as it did. -/
def justifyFairUptoRow : OpenClaim := { program := "ytanibbphkeaeeaa", sum := "1357251e7919b5ccba1503ccc33002ef63a0691c85b685b9ad8159433c19429f", func := "serif/seriflaw20.JustifyFair", spec := "justifyFair", unfollowed := true, recurses := true, named := ["math/bits.divideError", "math/bits.overflowError"], apart := false, narrowed := true }
def JustifyFairUptoSaid : Prop := justifyFairUptoRow.holds Try.pinned (OpenSpec.upto justifyFairSpec)

/-- 'seriflaw03.SfntSums', WHERE WHAT IT READS IS OF BULK AT MOST 1048576: true; the input reads as it did. -/
def sfntSumsUptoRow : OpenClaim := { program := "ytanibbphkeaeeaa", sum := "1357251e7919b5ccba1503ccc33002ef63a0691c85b685b9ad8159433c19429f", func := "serif/seriflaw03.SfntSums", spec := "sfntSums", apart := false, narrowed := true }
def SfntSumsUptoSaid : Prop := sfntSumsUptoRow.holds Try.pinned (OpenSpec.upto sfntSumsSpec)

end Rows
end Go.Proofs.Ytanibbphkeaeeaa
