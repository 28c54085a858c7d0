/-
  No cell of these rows narrows 'for every input' (looked for: loops, veiled, ifaces, maps, wideKeys, modest, calm, conditions, laid).
  DERIVED. THE GIVEN ROWS OF THIS SEAT. 4 by the template 'for every input the law returns true; each argument reads behind the call as it read before'; 0 by the template 'total and deterministic' (their statements: YtejhjlfakfaegaaTotals.lean).
  GIVEN WITH THE SEED: the statements are not yours to turn. If you find one false, say at which input.
  Laid BY PROGRAM, IN A SANDBOX (cutbox-rows.mjs): the forced cells as the released guide's own fill.sh prints them over the translation 058f861f4c746324… (all of the seat's roots in one cut). By AI agents, Wed Nov 11 2026. No macro, syntax, notation, axiom, sorry.
-/
import Derived.Test.YtejhjlfakfaegaaChecked
import GoSem.Claim
import GoSem.ClaimJoined
import GoSem.ClaimMapViews
import Derived.JoinedTies
import Derived.KernelRfl
namespace Go.Proofs.Ytejhjlfakfaegaa
/- THE CELL 'sum', in the pinned program and in every row, IS THE sha256 OF THE DUMP (.gsa) THAT YtejhjlfakfaegaaProg.lean LOADS. Nothing in Lean hashes anything: it is a label: what it is worth is what the hold of that sum in a sandbox is worth. -/
noncomputable def Try.pinned : Pinned := { name := "ytejhjlfakfaegaa", sum := "058f861f4c746324953a39896992b00df02b3609c848a0dfb9b638fccf5f4226", checked := Try.checked }
namespace Rows
def none {H : Type} : Left H := { results := [], args := [] }

/-- 'compeerlaw03.ShaDigests': WHATEVER THE INPUT: true; the input reads as it did. -/
def shaDigestsSpec : ChangeSpec := { name := "shaDigests", fn := fun _ => fun
  | [d] => { results := [.lit (.bool true)], args := [d] }
  | _ => none }
def shaDigestsRow : OpenClaim := { program := "ytejhjlfakfaegaa", sum := "058f861f4c746324953a39896992b00df02b3609c848a0dfb9b638fccf5f4226", func := "compeer/compeerlaw03.ShaDigests", spec := "shaDigests", apart := false }
def ShaDigestsSaid : Prop := shaDigestsRow.holds Try.pinned (OpenSpec.ofChange shaDigestsSpec)

/-- ITS FALSE NEIGHBOUR: 'it returns false'. Refute it at one input. -/
def shaDigestsWrong : ChangeSpec := { name := "shaDigests", fn := fun _ => fun
  | [d] => { results := [.lit (.bool false)], args := [d] }
  | _ => none }
def ShaDigestsWrongFalsely : Prop := shaDigestsRow.holds Try.pinned (OpenSpec.ofChange shaDigestsWrong)

/-- 'compeerlaw05.AesStreams': WHATEVER THE INPUT: true; the input reads as it did. -/
def aesStreamsSpec : ChangeSpec := { name := "aesStreams", fn := fun _ => fun
  | [d1, d2, d3] => { results := [.lit (.bool true)], args := [d1, d2, d3] }
  | _ => none }
def aesStreamsRow : OpenClaim := { program := "ytejhjlfakfaegaa", sum := "058f861f4c746324953a39896992b00df02b3609c848a0dfb9b638fccf5f4226", func := "compeer/compeerlaw05.AesStreams", spec := "aesStreams", apart := false }
def AesStreamsSaid : Prop := aesStreamsRow.holds Try.pinned (OpenSpec.ofChange aesStreamsSpec)

/-- ITS FALSE NEIGHBOUR: 'it returns false'. Refute it at one input. -/
def aesStreamsWrong : ChangeSpec := { name := "aesStreams", fn := fun _ => fun
  | [d1, d2, d3] => { results := [.lit (.bool false)], args := [d1, d2, d3] }
  | _ => none }
def AesStreamsWrongFalsely : Prop := aesStreamsRow.holds Try.pinned (OpenSpec.ofChange aesStreamsWrong)

/-- 'compeerlaw05.AesSteps': WHATEVER THE INPUT: true; the input reads as it did. -/
def aesStepsSpec : ChangeSpec := { name := "aesSteps", fn := fun _ => fun
  | [d1, d2, d3] => { results := [.lit (.bool true)], args := [d1, d2, d3] }
  | _ => none }
def aesStepsRow : OpenClaim := { program := "ytejhjlfakfaegaa", sum := "058f861f4c746324953a39896992b00df02b3609c848a0dfb9b638fccf5f4226", func := "compeer/compeerlaw05.AesSteps", spec := "aesSteps", apart := false }
def AesStepsSaid : Prop := aesStepsRow.holds Try.pinned (OpenSpec.ofChange aesStepsSpec)

/-- ITS FALSE NEIGHBOUR: 'it returns false'. Refute it at one input. -/
def aesStepsWrong : ChangeSpec := { name := "aesSteps", fn := fun _ => fun
  | [d1, d2, d3] => { results := [.lit (.bool false)], args := [d1, d2, d3] }
  | _ => none }
def AesStepsWrongFalsely : Prop := aesStepsRow.holds Try.pinned (OpenSpec.ofChange aesStepsWrong)

/-- 'compeerlaw04.MacSums': WHATEVER THE INPUT: true; the input reads as it did. -/
def macSumsSpec : ChangeSpec := { name := "macSums", fn := fun _ => fun
  | [d1, d2] => { results := [.lit (.bool true)], args := [d1, d2] }
  | _ => none }
def macSumsRow : OpenClaim := { program := "ytejhjlfakfaegaa", sum := "058f861f4c746324953a39896992b00df02b3609c848a0dfb9b638fccf5f4226", func := "compeer/compeerlaw04.MacSums", spec := "macSums", apart := false }
def MacSumsSaid : Prop := macSumsRow.holds Try.pinned (OpenSpec.ofChange macSumsSpec)

/-- ITS FALSE NEIGHBOUR: 'it returns false'. Refute it at one input. -/
def macSumsWrong : ChangeSpec := { name := "macSums", fn := fun _ => fun
  | [d1, d2] => { results := [.lit (.bool false)], args := [d1, d2] }
  | _ => none }
def MacSumsWrongFalsely : Prop := macSumsRow.holds Try.pinned (OpenSpec.ofChange macSumsWrong)

/- THE SECOND FORM. 'bulk': how many values and letters a reading holds, each counted each time it is reached (what is shared counts as often as it is met; a slice's spare places count too). A statement '..UptoSaid' is the law's where the arguments, and the package variables that the reading takes, are together of bulk at most 1048576: NARROWER than '..Said'. Prove '..Said' where nothing that the law and all that it calls make is longer than what came in: it says more and counts as full. Else prove '..UptoSaid'. A law counts once. -/
mutual
def uptoBulk {H : Type} : DataW H → Nat
  | .lit (.string bytes) => bytes.length + 1
  | .lit _ => 1
  | .nil => 1
  | .ptr d => uptoBulk d + 1
  | .slice elems spare => uptoBulkAll elems + uptoBulkAll spare + 1
  | .agg parts => uptoBulkAll parts + 1
  | .iface _ d => uptoBulk d + 1
  | .map entries => uptoBulkEntries entries + 1
  | .held _ => 1
def uptoBulkAll {H : Type} : List (DataW H) → Nat
  | [] => 0
  | d :: r => uptoBulk d + uptoBulkAll r
def uptoBulkEntries {H : Type} : List (Lit × DataW H) → Nat
  | [] => 0
  | x :: r => uptoBulkEntry x + uptoBulkEntries r
def uptoBulkEntry {H : Type} : Lit × DataW H → Nat
  | (.string bytes, d) => bytes.length + uptoBulk d + 1
  | (_, d) => uptoBulk d + 1
 end
def uptoSmall : (H : Type) → List (DataW H) → Bool := fun _ ds => decide (uptoBulkAll ds ≤ 1048576)
def OpenSpec.upto (s : _root_.Go.ChangeSpec) : _root_.Go.OpenSpec := { _root_.Go.OpenSpec.ofChange s with cond := some uptoSmall }

/-- 'compeerlaw03.ShaDigests', WHERE WHAT IT READS IS OF BULK AT MOST 1048576: true; the input reads as it did. -/
def shaDigestsUptoRow : OpenClaim := { program := "ytejhjlfakfaegaa", sum := "058f861f4c746324953a39896992b00df02b3609c848a0dfb9b638fccf5f4226", func := "compeer/compeerlaw03.ShaDigests", spec := "shaDigests", apart := false, narrowed := true }
def ShaDigestsUptoSaid : Prop := shaDigestsUptoRow.holds Try.pinned (OpenSpec.upto shaDigestsSpec)

/-- 'compeerlaw05.AesStreams', WHERE WHAT IT READS IS OF BULK AT MOST 1048576: true; the input reads as it did. -/
def aesStreamsUptoRow : OpenClaim := { program := "ytejhjlfakfaegaa", sum := "058f861f4c746324953a39896992b00df02b3609c848a0dfb9b638fccf5f4226", func := "compeer/compeerlaw05.AesStreams", spec := "aesStreams", apart := false, narrowed := true }
def AesStreamsUptoSaid : Prop := aesStreamsUptoRow.holds Try.pinned (OpenSpec.upto aesStreamsSpec)

/-- 'compeerlaw05.AesSteps', WHERE WHAT IT READS IS OF BULK AT MOST 1048576: true; the input reads as it did. -/
def aesStepsUptoRow : OpenClaim := { program := "ytejhjlfakfaegaa", sum := "058f861f4c746324953a39896992b00df02b3609c848a0dfb9b638fccf5f4226", func := "compeer/compeerlaw05.AesSteps", spec := "aesSteps", apart := false, narrowed := true }
def AesStepsUptoSaid : Prop := aesStepsUptoRow.holds Try.pinned (OpenSpec.upto aesStepsSpec)

/-- 'compeerlaw04.MacSums', WHERE WHAT IT READS IS OF BULK AT MOST 1048576: true; the input reads as it did. -/
def macSumsUptoRow : OpenClaim := { program := "ytejhjlfakfaegaa", sum := "058f861f4c746324953a39896992b00df02b3609c848a0dfb9b638fccf5f4226", func := "compeer/compeerlaw04.MacSums", spec := "macSums", apart := false, narrowed := true }
def MacSumsUptoSaid : Prop := macSumsUptoRow.holds Try.pinned (OpenSpec.upto macSumsSpec)

end Rows
end Go.Proofs.Ytejhjlfakfaegaa
