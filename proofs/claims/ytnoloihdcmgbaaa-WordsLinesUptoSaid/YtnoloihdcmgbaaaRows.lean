/-
  No cell of these rows narrows 'for every input' (looked for: loops, veiled, ifaces, maps, wideKeys, modest, calm, conditions, laid).
  DERIVED. THE GIVEN ROWS OF THIS SEAT. 4 by the template 'for every input the law returns true; each argument reads behind the call as it read before'; 0 by the template 'total and deterministic' (their statements: YtnoloihdcmgbaaaTotals.lean).
  GIVEN WITH THE SEED: the statements are not yours to turn. If you find one false, say at which input.
  Laid BY PROGRAM, IN A SANDBOX (cutbox-rows.mjs): the forced cells as the released guide's own fill.sh prints them over the translation 31297a69e6760d7a… (all of the seat's roots in one cut). By AI agents, Wed Nov 11 2026. No macro, syntax, notation, axiom, sorry.
-/
import Derived.Test.YtnoloihdcmgbaaaChecked
import GoSem.Claim
import GoSem.ClaimJoined
import GoSem.ClaimMapViews
import Derived.JoinedTies
import Derived.KernelRfl
namespace Go.Proofs.Ytnoloihdcmgbaaa
/- THE CELL 'sum', in the pinned program and in every row, IS THE sha256 OF THE DUMP (.gsa) THAT YtnoloihdcmgbaaaProg.lean LOADS. Nothing in Lean hashes anything: it is a label: what it is worth is what the hold of that sum in a sandbox is worth. -/
noncomputable def Try.pinned : Pinned := { name := "ytnoloihdcmgbaaa", sum := "31297a69e6760d7a0fa7b6c2723d0a5d94527cbe8c3d588d61c233a879a465b0", checked := Try.checked }
namespace Rows
def none {H : Type} : Left H := { results := [], args := [] }

/-- 'emendationlaw17.WordsFar': WHATEVER THE INPUT: true; the input reads as it did. -/
def wordsFarSpec : ChangeSpec := { name := "wordsFar", fn := fun _ => fun
  | [d1, d2, d3] => { results := [.lit (.bool true)], args := [d1, d2, d3] }
  | _ => none }
def wordsFarRow : OpenClaim := { program := "ytnoloihdcmgbaaa", sum := "31297a69e6760d7a0fa7b6c2723d0a5d94527cbe8c3d588d61c233a879a465b0", func := "emendation/emendationlaw17.WordsFar", spec := "wordsFar", inPlace := ["internal/abi.NoEscape", "internal/bytealg.MakeNoZero"], unfollowed := true, recurses := true, apart := false }
def WordsFarSaid : Prop := wordsFarRow.holds Try.pinned (OpenSpec.ofChange wordsFarSpec)

/-- ITS FALSE NEIGHBOUR: 'it returns false'. Refute it at one input. -/
def wordsFarWrong : ChangeSpec := { name := "wordsFar", fn := fun _ => fun
  | [d1, d2, d3] => { results := [.lit (.bool false)], args := [d1, d2, d3] }
  | _ => none }
def WordsFarWrongFalsely : Prop := wordsFarRow.holds Try.pinned (OpenSpec.ofChange wordsFarWrong)

/-- 'emendationlaw17.WordsLines': WHATEVER THE INPUT: true; the input reads as it did. -/
def wordsLinesSpec : ChangeSpec := { name := "wordsLines", fn := fun _ => fun
  | [d1, d2, d3, d4] => { results := [.lit (.bool true)], args := [d1, d2, d3, d4] }
  | _ => none }
def wordsLinesRow : OpenClaim := { program := "ytnoloihdcmgbaaa", sum := "31297a69e6760d7a0fa7b6c2723d0a5d94527cbe8c3d588d61c233a879a465b0", func := "emendation/emendationlaw17.WordsLines", spec := "wordsLines", inPlace := ["internal/abi.NoEscape", "internal/bytealg.MakeNoZero"], unfollowed := true, recurses := true, apart := false }
def WordsLinesSaid : Prop := wordsLinesRow.holds Try.pinned (OpenSpec.ofChange wordsLinesSpec)

/-- ITS FALSE NEIGHBOUR: 'it returns false'. Refute it at one input. -/
def wordsLinesWrong : ChangeSpec := { name := "wordsLines", fn := fun _ => fun
  | [d1, d2, d3, d4] => { results := [.lit (.bool false)], args := [d1, d2, d3, d4] }
  | _ => none }
def WordsLinesWrongFalsely : Prop := wordsLinesRow.holds Try.pinned (OpenSpec.ofChange wordsLinesWrong)

/-- 'emendationlaw17.WordsTells': WHATEVER THE INPUT: true; the input reads as it did. -/
def wordsTellsSpec : ChangeSpec := { name := "wordsTells", fn := fun _ => fun
  | [d1, d2, d3, d4, d5, d6] => { results := [.lit (.bool true)], args := [d1, d2, d3, d4, d5, d6] }
  | _ => none }
def wordsTellsRow : OpenClaim := { program := "ytnoloihdcmgbaaa", sum := "31297a69e6760d7a0fa7b6c2723d0a5d94527cbe8c3d588d61c233a879a465b0", func := "emendation/emendationlaw17.WordsTells", spec := "wordsTells", inPlace := ["internal/abi.NoEscape", "internal/bytealg.MakeNoZero"], unfollowed := true, recurses := true, apart := false }
def WordsTellsSaid : Prop := wordsTellsRow.holds Try.pinned (OpenSpec.ofChange wordsTellsSpec)

/-- ITS FALSE NEIGHBOUR: 'it returns false'. Refute it at one input. -/
def wordsTellsWrong : ChangeSpec := { name := "wordsTells", fn := fun _ => fun
  | [d1, d2, d3, d4, d5, d6] => { results := [.lit (.bool false)], args := [d1, d2, d3, d4, d5, d6] }
  | _ => none }
def WordsTellsWrongFalsely : Prop := wordsTellsRow.holds Try.pinned (OpenSpec.ofChange wordsTellsWrong)

/-- 'emendationlaw17.WordsOne': WHATEVER THE INPUT: true; the input reads as it did. -/
def wordsOneSpec : ChangeSpec := { name := "wordsOne", fn := fun _ => fun
  | [d1, d2, d3] => { results := [.lit (.bool true)], args := [d1, d2, d3] }
  | _ => none }
def wordsOneRow : OpenClaim := { program := "ytnoloihdcmgbaaa", sum := "31297a69e6760d7a0fa7b6c2723d0a5d94527cbe8c3d588d61c233a879a465b0", func := "emendation/emendationlaw17.WordsOne", spec := "wordsOne", inPlace := ["internal/abi.NoEscape", "internal/bytealg.MakeNoZero"], unfollowed := true, recurses := true, apart := false }
def WordsOneSaid : Prop := wordsOneRow.holds Try.pinned (OpenSpec.ofChange wordsOneSpec)

/-- ITS FALSE NEIGHBOUR: 'it returns false'. Refute it at one input. -/
def wordsOneWrong : ChangeSpec := { name := "wordsOne", fn := fun _ => fun
  | [d1, d2, d3] => { results := [.lit (.bool false)], args := [d1, d2, d3] }
  | _ => none }
def WordsOneWrongFalsely : Prop := wordsOneRow.holds Try.pinned (OpenSpec.ofChange wordsOneWrong)

/- THE SECOND FORM. 'bulk': how many values and letters a reading holds, each counted each time it is reached (what is shared counts as often as it is met; a slice's spare places count too). A statement '..UptoSaid' is the law's where the arguments, and the package variables that the reading takes, are together of bulk at most 1048576: NARROWER than '..Said'. Prove '..Said' where nothing that the law and all that it calls make is longer than what came in: it says more and counts as full. Else prove '..UptoSaid'. A law counts once. -/
mutual
def uptoBulk {H : Type} : DataW H → Nat
  | .lit (.string bytes) => bytes.length + 1
  | .lit _ => 1
  | .nil => 1
  | .ptr d => uptoBulk d + 1
  | .slice elems spare => uptoBulkAll elems + uptoBulkAll spare + 1
  | .agg parts => uptoBulkAll parts + 1
  | .iface _ d => uptoBulk d + 1
  | .map entries => uptoBulkEntries entries + 1
  | .held _ => 1
def uptoBulkAll {H : Type} : List (DataW H) → Nat
  | [] => 0
  | d :: r => uptoBulk d + uptoBulkAll r
def uptoBulkEntries {H : Type} : List (Lit × DataW H) → Nat
  | [] => 0
  | x :: r => uptoBulkEntry x + uptoBulkEntries r
def uptoBulkEntry {H : Type} : Lit × DataW H → Nat
  | (.string bytes, d) => bytes.length + uptoBulk d + 1
  | (_, d) => uptoBulk d + 1
 end
def uptoSmall : (H : Type) → List (DataW H) → Bool := fun _ ds => decide (uptoBulkAll ds ≤ 1048576)
def OpenSpec.upto (s : _root_.Go.ChangeSpec) : _root_.Go.OpenSpec := { _root_.Go.OpenSpec.ofChange s with cond := some uptoSmall }

/-- 'emendationlaw17.WordsFar', WHERE WHAT IT READS IS OF BULK AT MOST 1048576: true; the input reads as it did. -/
def wordsFarUptoRow : OpenClaim := { program := "ytnoloihdcmgbaaa", sum := "31297a69e6760d7a0fa7b6c2723d0a5d94527cbe8c3d588d61c233a879a465b0", func := "emendation/emendationlaw17.WordsFar", spec := "wordsFar", inPlace := ["internal/abi.NoEscape", "internal/bytealg.MakeNoZero"], unfollowed := true, recurses := true, apart := false, narrowed := true }
def WordsFarUptoSaid : Prop := wordsFarUptoRow.holds Try.pinned (OpenSpec.upto wordsFarSpec)

/-- 'emendationlaw17.WordsLines', WHERE WHAT IT READS IS OF BULK AT MOST 1048576: true; the input reads as it did. -/
def wordsLinesUptoRow : OpenClaim := { program := "ytnoloihdcmgbaaa", sum := "31297a69e6760d7a0fa7b6c2723d0a5d94527cbe8c3d588d61c233a879a465b0", func := "emendation/emendationlaw17.WordsLines", spec := "wordsLines", inPlace := ["internal/abi.NoEscape", "internal/bytealg.MakeNoZero"], unfollowed := true, recurses := true, apart := false, narrowed := true }
def WordsLinesUptoSaid : Prop := wordsLinesUptoRow.holds Try.pinned (OpenSpec.upto wordsLinesSpec)

/-- 'emendationlaw17.WordsTells', WHERE WHAT IT READS IS OF BULK AT MOST 1048576: true; the input reads as it did. -/
def wordsTellsUptoRow : OpenClaim := { program := "ytnoloihdcmgbaaa", sum := "31297a69e6760d7a0fa7b6c2723d0a5d94527cbe8c3d588d61c233a879a465b0", func := "emendation/emendationlaw17.WordsTells", spec := "wordsTells", inPlace := ["internal/abi.NoEscape", "internal/bytealg.MakeNoZero"], unfollowed := true, recurses := true, apart := false, narrowed := true }
def WordsTellsUptoSaid : Prop := wordsTellsUptoRow.holds Try.pinned (OpenSpec.upto wordsTellsSpec)

/-- 'emendationlaw17.WordsOne', WHERE WHAT IT READS IS OF BULK AT MOST 1048576: true; the input reads as it did. -/
def wordsOneUptoRow : OpenClaim := { program := "ytnoloihdcmgbaaa", sum := "31297a69e6760d7a0fa7b6c2723d0a5d94527cbe8c3d588d61c233a879a465b0", func := "emendation/emendationlaw17.WordsOne", spec := "wordsOne", inPlace := ["internal/abi.NoEscape", "internal/bytealg.MakeNoZero"], unfollowed := true, recurses := true, apart := false, narrowed := true }
def WordsOneUptoSaid : Prop := wordsOneUptoRow.holds Try.pinned (OpenSpec.upto wordsOneSpec)

end Rows
end Go.Proofs.Ytnoloihdcmgbaaa
