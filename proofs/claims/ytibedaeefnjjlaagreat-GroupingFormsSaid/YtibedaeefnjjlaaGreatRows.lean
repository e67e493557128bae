/-
  No cell of these rows narrows 'for every input' (looked for: loops, veiled, ifaces, maps, wideKeys, modest, calm, conditions, laid).
  DERIVED. THE GIVEN ROWS OF THIS SEAT. 4 by the template 'for every input the law returns true; each argument reads behind the call as it read before'; 0 by the template 'total and deterministic' (their statements: YtibedaeefnjjlaaGreatTotals.lean).
  GIVEN WITH THE SEED: the statements are not yours to turn. If you find one false, say at which input.
  Laid BY PROGRAM, IN A SANDBOX (cutbox-rows.mjs): the forced cells as the released guide's own fill.sh prints them over the translation 173d2f09aba376a9… (all of the seat's roots in one cut). By AI agents, Wed Nov 11 2026. No macro, syntax, notation, axiom, sorry.
-/
import Derived.Test.YtibedaeefnjjlaaGreatChecked
import GoSem.Claim
import GoSem.ClaimJoined
import GoSem.ClaimMapViews
import Derived.JoinedTies
import Derived.KernelRfl
namespace Go.Proofs.YtibedaeefnjjlaaGreat
/- THE CELL 'sum', in the pinned program and in every row, IS THE sha256 OF THE DUMP (.gsa) THAT YtibedaeefnjjlaaGreatProg.lean LOADS. Nothing in Lean hashes anything: it is a label: what it is worth is what the hold of that sum in a sandbox is worth. -/
noncomputable def Tryz.pinned : Pinned := { name := "ytibedaeefnjjlaagreat", sum := "173d2f09aba376a95b7232dbc0fbe665eaf9e423e34f339cbee20852f65a45b1", checked := Tryz.checked }
namespace Rows
def none {H : Type} : Left H := { results := [], args := [] }

/-- 'tscodeclaw21.GroupingForms': WHATEVER THE INPUT: true; the input reads as it did. -/
def groupingFormsSpec : ChangeSpec := { name := "groupingForms", fn := fun _ => fun
  | [d1, d2] => { results := [.lit (.bool true)], args := [d1, d2] }
  | _ => none }
def groupingFormsRow : OpenClaim := { program := "ytibedaeefnjjlaagreat", sum := "173d2f09aba376a95b7232dbc0fbe665eaf9e423e34f339cbee20852f65a45b1", func := "tscodec/tscodeclaw21.GroupingForms", spec := "groupingForms", inPlace := ["math/bits.Sub64", "math/bits.Add64"], unfollowed := true, recurses := true, named := ["math/bits.divideError", "math/bits.overflowError"], apart := false }
def GroupingFormsSaid : Prop := groupingFormsRow.holds Tryz.pinned (OpenSpec.ofChange groupingFormsSpec)

/-- ITS FALSE NEIGHBOUR: 'it returns false'. Refute it at one input. -/
def groupingFormsWrong : ChangeSpec := { name := "groupingForms", fn := fun _ => fun
  | [d1, d2] => { results := [.lit (.bool false)], args := [d1, d2] }
  | _ => none }
def GroupingFormsWrongFalsely : Prop := groupingFormsRow.holds Tryz.pinned (OpenSpec.ofChange groupingFormsWrong)

/-- 'tscodeclaw21.GroupingCovers': WHATEVER THE INPUT: true; the input reads as it did. -/
def groupingCoversSpec : ChangeSpec := { name := "groupingCovers", fn := fun _ => fun
  | [d] => { results := [.lit (.bool true)], args := [d] }
  | _ => none }
def groupingCoversRow : OpenClaim := { program := "ytibedaeefnjjlaagreat", sum := "173d2f09aba376a95b7232dbc0fbe665eaf9e423e34f339cbee20852f65a45b1", func := "tscodec/tscodeclaw21.GroupingCovers", spec := "groupingCovers", inPlace := ["math/bits.Sub64", "math/bits.Add64"], unfollowed := true, recurses := true, named := ["math/bits.divideError", "math/bits.overflowError"], apart := false }
def GroupingCoversSaid : Prop := groupingCoversRow.holds Tryz.pinned (OpenSpec.ofChange groupingCoversSpec)

/-- ITS FALSE NEIGHBOUR: 'it returns false'. Refute it at one input. -/
def groupingCoversWrong : ChangeSpec := { name := "groupingCovers", fn := fun _ => fun
  | [d] => { results := [.lit (.bool false)], args := [d] }
  | _ => none }
def GroupingCoversWrongFalsely : Prop := groupingCoversRow.holds Tryz.pinned (OpenSpec.ofChange groupingCoversWrong)

/-- 'tscodeclaw21.GroupingAscends': WHATEVER THE INPUT: true; the input reads as it did. -/
def groupingAscendsSpec : ChangeSpec := { name := "groupingAscends", fn := fun _ => fun
  | [d] => { results := [.lit (.bool true)], args := [d] }
  | _ => none }
def groupingAscendsRow : OpenClaim := { program := "ytibedaeefnjjlaagreat", sum := "173d2f09aba376a95b7232dbc0fbe665eaf9e423e34f339cbee20852f65a45b1", func := "tscodec/tscodeclaw21.GroupingAscends", spec := "groupingAscends", inPlace := ["math/bits.Sub64", "math/bits.Add64"], unfollowed := true, recurses := true, named := ["math/bits.divideError", "math/bits.overflowError"], apart := false }
def GroupingAscendsSaid : Prop := groupingAscendsRow.holds Tryz.pinned (OpenSpec.ofChange groupingAscendsSpec)

/-- ITS FALSE NEIGHBOUR: 'it returns false'. Refute it at one input. -/
def groupingAscendsWrong : ChangeSpec := { name := "groupingAscends", fn := fun _ => fun
  | [d] => { results := [.lit (.bool false)], args := [d] }
  | _ => none }
def GroupingAscendsWrongFalsely : Prop := groupingAscendsRow.holds Tryz.pinned (OpenSpec.ofChange groupingAscendsWrong)

/-- 'tscodeclaw21.GroupingLeast': WHATEVER THE INPUT: true; the input reads as it did. -/
def groupingLeastSpec : ChangeSpec := { name := "groupingLeast", fn := fun _ => fun
  | [d] => { results := [.lit (.bool true)], args := [d] }
  | _ => none }
def groupingLeastRow : OpenClaim := { program := "ytibedaeefnjjlaagreat", sum := "173d2f09aba376a95b7232dbc0fbe665eaf9e423e34f339cbee20852f65a45b1", func := "tscodec/tscodeclaw21.GroupingLeast", spec := "groupingLeast", inPlace := ["math/bits.Sub64", "math/bits.Add64"], unfollowed := true, recurses := true, named := ["math/bits.divideError", "math/bits.overflowError"], apart := false }
def GroupingLeastSaid : Prop := groupingLeastRow.holds Tryz.pinned (OpenSpec.ofChange groupingLeastSpec)

/-- ITS FALSE NEIGHBOUR: 'it returns false'. Refute it at one input. -/
def groupingLeastWrong : ChangeSpec := { name := "groupingLeast", fn := fun _ => fun
  | [d] => { results := [.lit (.bool false)], args := [d] }
  | _ => none }
def GroupingLeastWrongFalsely : Prop := groupingLeastRow.holds Tryz.pinned (OpenSpec.ofChange groupingLeastWrong)

/- THE SECOND FORM. 'bulk': how many values and letters a reading holds, each counted each time it is reached (what is shared counts as often as it is met; a slice's spare places count too). A statement '..UptoSaid' is the law's where the arguments, and the package variables that the reading takes, are together of bulk at most 1048576: NARROWER than '..Said'. Prove '..Said' where nothing that the law and all that it calls make is longer than what came in: it says more and counts as full. Else prove '..UptoSaid'. A law counts once. -/
mutual
def uptoBulk {H : Type} : DataW H → Nat
  | .lit (.string bytes) => bytes.length + 1
  | .lit _ => 1
  | .nil => 1
  | .ptr d => uptoBulk d + 1
  | .slice elems spare => uptoBulkAll elems + uptoBulkAll spare + 1
  | .agg parts => uptoBulkAll parts + 1
  | .iface _ d => uptoBulk d + 1
  | .map entries => uptoBulkEntries entries + 1
  | .held _ => 1
def uptoBulkAll {H : Type} : List (DataW H) → Nat
  | [] => 0
  | d :: r => uptoBulk d + uptoBulkAll r
def uptoBulkEntries {H : Type} : List (Lit × DataW H) → Nat
  | [] => 0
  | x :: r => uptoBulkEntry x + uptoBulkEntries r
def uptoBulkEntry {H : Type} : Lit × DataW H → Nat
  | (.string bytes, d) => bytes.length + uptoBulk d + 1
  | (_, d) => uptoBulk d + 1
 end
def uptoSmall : (H : Type) → List (DataW H) → Bool := fun _ ds => decide (uptoBulkAll ds ≤ 1048576)
def OpenSpec.upto (s : _root_.Go.ChangeSpec) : _root_.Go.OpenSpec := { _root_.Go.OpenSpec.ofChange s with cond := some uptoSmall }

/-- 'tscodeclaw21.GroupingForms', WHERE WHAT IT READS IS OF BULK AT MOST 1048576: true; the input reads as it did. -/
def groupingFormsUptoRow : OpenClaim := { program := "ytibedaeefnjjlaagreat", sum := "173d2f09aba376a95b7232dbc0fbe665eaf9e423e34f339cbee20852f65a45b1", func := "tscodec/tscodeclaw21.GroupingForms", spec := "groupingForms", inPlace := ["math/bits.Sub64", "math/bits.Add64"], unfollowed := true, recurses := true, named := ["math/bits.divideError", "math/bits.overflowError"], apart := false, narrowed := true }
def GroupingFormsUptoSaid : Prop := groupingFormsUptoRow.holds Tryz.pinned (OpenSpec.upto groupingFormsSpec)

/-- 'tscodeclaw21.GroupingCovers', WHERE WHAT IT READS IS OF BULK AT MOST 1048576: true; the input reads as it did. -/
def groupingCoversUptoRow : OpenClaim := { program := "ytibedaeefnjjlaagreat", sum := "173d2f09aba376a95b7232dbc0fbe665eaf9e423e34f339cbee20852f65a45b1", func := "tscodec/tscodeclaw21.GroupingCovers", spec := "groupingCovers", inPlace := ["math/bits.Sub64", "math/bits.Add64"], unfollowed := true, recurses := true, named := ["math/bits.divideError", "math/bits.overflowError"], apart := false, narrowed := true }
def GroupingCoversUptoSaid : Prop := groupingCoversUptoRow.holds Tryz.pinned (OpenSpec.upto groupingCoversSpec)

/-- 'tscodeclaw21.GroupingAscends', WHERE WHAT IT READS IS OF BULK AT MOST 1048576: true; the input reads as it did. -/
def groupingAscendsUptoRow : OpenClaim := { program := "ytibedaeefnjjlaagreat", sum := "173d2f09aba376a95b7232dbc0fbe665eaf9e423e34f339cbee20852f65a45b1", func := "tscodec/tscodeclaw21.GroupingAscends", spec := "groupingAscends", inPlace := ["math/bits.Sub64", "math/bits.Add64"], unfollowed := true, recurses := true, named := ["math/bits.divideError", "math/bits.overflowError"], apart := false, narrowed := true }
def GroupingAscendsUptoSaid : Prop := groupingAscendsUptoRow.holds Tryz.pinned (OpenSpec.upto groupingAscendsSpec)

/-- 'tscodeclaw21.GroupingLeast', WHERE WHAT IT READS IS OF BULK AT MOST 1048576: true; the input reads as it did. -/
def groupingLeastUptoRow : OpenClaim := { program := "ytibedaeefnjjlaagreat", sum := "173d2f09aba376a95b7232dbc0fbe665eaf9e423e34f339cbee20852f65a45b1", func := "tscodec/tscodeclaw21.GroupingLeast", spec := "groupingLeast", inPlace := ["math/bits.Sub64", "math/bits.Add64"], unfollowed := true, recurses := true, named := ["math/bits.divideError", "math/bits.overflowError"], apart := false, narrowed := true }
def GroupingLeastUptoSaid : Prop := groupingLeastUptoRow.holds Tryz.pinned (OpenSpec.upto groupingLeastSpec)

end Rows
end Go.Proofs.YtibedaeefnjjlaaGreat
