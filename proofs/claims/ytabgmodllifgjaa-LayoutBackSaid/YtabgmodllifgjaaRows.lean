/-
  No cell of these rows narrows 'for every input' (looked for: loops, veiled, ifaces, maps, wideKeys, modest, calm, conditions, laid).
  DERIVED. THE GIVEN ROWS OF THIS SEAT. 19 by the template 'for every input the law returns true; each argument reads behind the call as it read before'; 0 by the template 'total and deterministic' (their statements: YtabgmodllifgjaaTotals.lean).
  GIVEN WITH THE SEED: the statements are not yours to turn. If you find one false, say at which input.
  Laid BY PROGRAM, IN A SANDBOX (cutbox-rows.mjs): the forced cells as the released guide's own fill.sh prints them over the translation bb05d30c297f5507… (all of the seat's roots in one cut). By AI agents, Wed Nov 11 2026. No macro, syntax, notation, axiom, sorry.
-/
import Derived.Test.YtabgmodllifgjaaChecked
import GoSem.Claim
import GoSem.ClaimJoined
import GoSem.ClaimMapViews
import Derived.JoinedTies
import Derived.KernelRfl
namespace Go.Proofs.Ytabgmodllifgjaa
/- THE CELL 'sum', in the pinned program and in every row, IS THE sha256 OF THE DUMP (.gsa) THAT YtabgmodllifgjaaProg.lean LOADS. Nothing in Lean hashes anything: it is a label: what it is worth is what the hold of that sum in a sandbox is worth. -/
noncomputable def Try.pinned : Pinned := { name := "ytabgmodllifgjaa", sum := "bb05d30c297f5507c7fa62889a25f955165658c18d8083223878a030f5bb7451", checked := Try.checked }
namespace Rows
def none {H : Type} : Left H := { results := [], args := [] }

/-- 'tscodeclaw06.CrcTable': WHATEVER THE INPUT: true; the input reads as it did. -/
def crcTableSpec : ChangeSpec := { name := "crcTable", fn := fun _ => fun
  | [d1, d2] => { results := [.lit (.bool true)], args := [d1, d2] }
  | _ => none }
def crcTableRow : OpenClaim := { program := "ytabgmodllifgjaa", sum := "bb05d30c297f5507c7fa62889a25f955165658c18d8083223878a030f5bb7451", func := "tscodec/tscodeclaw06.CrcTable", spec := "crcTable", apart := false }
def CrcTableSaid : Prop := crcTableRow.holds Try.pinned (OpenSpec.ofChange crcTableSpec)

/-- ITS FALSE NEIGHBOUR: 'it returns false'. Refute it at one input. -/
def crcTableWrong : ChangeSpec := { name := "crcTable", fn := fun _ => fun
  | [d1, d2] => { results := [.lit (.bool false)], args := [d1, d2] }
  | _ => none }
def CrcTableWrongFalsely : Prop := crcTableRow.holds Try.pinned (OpenSpec.ofChange crcTableWrong)

/-- 'tscodeclaw06.CrcParts': WHATEVER THE INPUT: true; the input reads as it did. -/
def crcPartsSpec : ChangeSpec := { name := "crcParts", fn := fun _ => fun
  | [d1, d2, d3] => { results := [.lit (.bool true)], args := [d1, d2, d3] }
  | _ => none }
def crcPartsRow : OpenClaim := { program := "ytabgmodllifgjaa", sum := "bb05d30c297f5507c7fa62889a25f955165658c18d8083223878a030f5bb7451", func := "tscodec/tscodeclaw06.CrcParts", spec := "crcParts", apart := false }
def CrcPartsSaid : Prop := crcPartsRow.holds Try.pinned (OpenSpec.ofChange crcPartsSpec)

/-- ITS FALSE NEIGHBOUR: 'it returns false'. Refute it at one input. -/
def crcPartsWrong : ChangeSpec := { name := "crcParts", fn := fun _ => fun
  | [d1, d2, d3] => { results := [.lit (.bool false)], args := [d1, d2, d3] }
  | _ => none }
def CrcPartsWrongFalsely : Prop := crcPartsRow.holds Try.pinned (OpenSpec.ofChange crcPartsWrong)

/-- 'tscodeclaw06.CrcLinear': WHATEVER THE INPUT: true; the input reads as it did. -/
def crcLinearSpec : ChangeSpec := { name := "crcLinear", fn := fun _ => fun
  | [d1, d2] => { results := [.lit (.bool true)], args := [d1, d2] }
  | _ => none }
def crcLinearRow : OpenClaim := { program := "ytabgmodllifgjaa", sum := "bb05d30c297f5507c7fa62889a25f955165658c18d8083223878a030f5bb7451", func := "tscodec/tscodeclaw06.CrcLinear", spec := "crcLinear", apart := false }
def CrcLinearSaid : Prop := crcLinearRow.holds Try.pinned (OpenSpec.ofChange crcLinearSpec)

/-- ITS FALSE NEIGHBOUR: 'it returns false'. Refute it at one input. -/
def crcLinearWrong : ChangeSpec := { name := "crcLinear", fn := fun _ => fun
  | [d1, d2] => { results := [.lit (.bool false)], args := [d1, d2] }
  | _ => none }
def CrcLinearWrongFalsely : Prop := crcLinearRow.holds Try.pinned (OpenSpec.ofChange crcLinearWrong)

/-- 'tscodeclaw06.CrcForms': WHATEVER THE INPUT: true; the input reads as it did. -/
def crcFormsSpec : ChangeSpec := { name := "crcForms", fn := fun _ => fun
  | [d1, d2, d3] => { results := [.lit (.bool true)], args := [d1, d2, d3] }
  | _ => none }
def crcFormsRow : OpenClaim := { program := "ytabgmodllifgjaa", sum := "bb05d30c297f5507c7fa62889a25f955165658c18d8083223878a030f5bb7451", func := "tscodec/tscodeclaw06.CrcForms", spec := "crcForms", apart := false }
def CrcFormsSaid : Prop := crcFormsRow.holds Try.pinned (OpenSpec.ofChange crcFormsSpec)

/-- ITS FALSE NEIGHBOUR: 'it returns false'. Refute it at one input. -/
def crcFormsWrong : ChangeSpec := { name := "crcForms", fn := fun _ => fun
  | [d1, d2, d3] => { results := [.lit (.bool false)], args := [d1, d2, d3] }
  | _ => none }
def CrcFormsWrongFalsely : Prop := crcFormsRow.holds Try.pinned (OpenSpec.ofChange crcFormsWrong)

/-- 'tscodeclaw06.CrcBursts': WHATEVER THE INPUT: true; the input reads as it did. -/
def crcBurstsSpec : ChangeSpec := { name := "crcBursts", fn := fun _ => fun
  | [d1, d2, d3] => { results := [.lit (.bool true)], args := [d1, d2, d3] }
  | _ => none }
def crcBurstsRow : OpenClaim := { program := "ytabgmodllifgjaa", sum := "bb05d30c297f5507c7fa62889a25f955165658c18d8083223878a030f5bb7451", func := "tscodec/tscodeclaw06.CrcBursts", spec := "crcBursts", apart := false }
def CrcBurstsSaid : Prop := crcBurstsRow.holds Try.pinned (OpenSpec.ofChange crcBurstsSpec)

/-- ITS FALSE NEIGHBOUR: 'it returns false'. Refute it at one input. -/
def crcBurstsWrong : ChangeSpec := { name := "crcBursts", fn := fun _ => fun
  | [d1, d2, d3] => { results := [.lit (.bool false)], args := [d1, d2, d3] }
  | _ => none }
def CrcBurstsWrongFalsely : Prop := crcBurstsRow.holds Try.pinned (OpenSpec.ofChange crcBurstsWrong)

/-- 'tscodeclaw12.SeriesCuts': WHATEVER THE INPUT: true; the input reads as it did. -/
def seriesCutsSpec : ChangeSpec := { name := "seriesCuts", fn := fun _ => fun
  | [d1, d2, d3, d4] => { results := [.lit (.bool true)], args := [d1, d2, d3, d4] }
  | _ => none }
def seriesCutsRow : OpenClaim := { program := "ytabgmodllifgjaa", sum := "bb05d30c297f5507c7fa62889a25f955165658c18d8083223878a030f5bb7451", func := "tscodec/tscodeclaw12.SeriesCuts", spec := "seriesCuts", unfollowed := true, recurses := true, apart := false }
def SeriesCutsSaid : Prop := seriesCutsRow.holds Try.pinned (OpenSpec.ofChange seriesCutsSpec)

/-- ITS FALSE NEIGHBOUR: 'it returns false'. Refute it at one input. -/
def seriesCutsWrong : ChangeSpec := { name := "seriesCuts", fn := fun _ => fun
  | [d1, d2, d3, d4] => { results := [.lit (.bool false)], args := [d1, d2, d3, d4] }
  | _ => none }
def SeriesCutsWrongFalsely : Prop := seriesCutsRow.holds Try.pinned (OpenSpec.ofChange seriesCutsWrong)

/-- 'tscodeclaw12.SeriesParts': WHATEVER THE INPUT: true; the input reads as it did. -/
def seriesPartsSpec : ChangeSpec := { name := "seriesParts", fn := fun _ => fun
  | [d1, d2] => { results := [.lit (.bool true)], args := [d1, d2] }
  | _ => none }
def seriesPartsRow : OpenClaim := { program := "ytabgmodllifgjaa", sum := "bb05d30c297f5507c7fa62889a25f955165658c18d8083223878a030f5bb7451", func := "tscodec/tscodeclaw12.SeriesParts", spec := "seriesParts", unfollowed := true, recurses := true, apart := false }
def SeriesPartsSaid : Prop := seriesPartsRow.holds Try.pinned (OpenSpec.ofChange seriesPartsSpec)

/-- ITS FALSE NEIGHBOUR: 'it returns false'. Refute it at one input. -/
def seriesPartsWrong : ChangeSpec := { name := "seriesParts", fn := fun _ => fun
  | [d1, d2] => { results := [.lit (.bool false)], args := [d1, d2] }
  | _ => none }
def SeriesPartsWrongFalsely : Prop := seriesPartsRow.holds Try.pinned (OpenSpec.ofChange seriesPartsWrong)

/-- 'tscodeclaw12.SeriesRanges': WHATEVER THE INPUT: true; the input reads as it did. -/
def seriesRangesSpec : ChangeSpec := { name := "seriesRanges", fn := fun _ => fun
  | [d1, d2, d3] => { results := [.lit (.bool true)], args := [d1, d2, d3] }
  | _ => none }
def seriesRangesRow : OpenClaim := { program := "ytabgmodllifgjaa", sum := "bb05d30c297f5507c7fa62889a25f955165658c18d8083223878a030f5bb7451", func := "tscodec/tscodeclaw12.SeriesRanges", spec := "seriesRanges", unfollowed := true, recurses := true, apart := false }
def SeriesRangesSaid : Prop := seriesRangesRow.holds Try.pinned (OpenSpec.ofChange seriesRangesSpec)

/-- ITS FALSE NEIGHBOUR: 'it returns false'. Refute it at one input. -/
def seriesRangesWrong : ChangeSpec := { name := "seriesRanges", fn := fun _ => fun
  | [d1, d2, d3] => { results := [.lit (.bool false)], args := [d1, d2, d3] }
  | _ => none }
def SeriesRangesWrongFalsely : Prop := seriesRangesRow.holds Try.pinned (OpenSpec.ofChange seriesRangesWrong)

/-- 'tscodeclaw12.SeriesForms': WHATEVER THE INPUT: true; the input reads as it did. -/
def seriesFormsSpec : ChangeSpec := { name := "seriesForms", fn := fun _ => fun
  | [d1, d2, d3, d4, d5, d6, d7, d8] => { results := [.lit (.bool true)], args := [d1, d2, d3, d4, d5, d6, d7, d8] }
  | _ => none }
def seriesFormsRow : OpenClaim := { program := "ytabgmodllifgjaa", sum := "bb05d30c297f5507c7fa62889a25f955165658c18d8083223878a030f5bb7451", func := "tscodec/tscodeclaw12.SeriesForms", spec := "seriesForms", unfollowed := true, recurses := true, apart := false }
def SeriesFormsSaid : Prop := seriesFormsRow.holds Try.pinned (OpenSpec.ofChange seriesFormsSpec)

/-- ITS FALSE NEIGHBOUR: 'it returns false'. Refute it at one input. -/
def seriesFormsWrong : ChangeSpec := { name := "seriesForms", fn := fun _ => fun
  | [d1, d2, d3, d4, d5, d6, d7, d8] => { results := [.lit (.bool false)], args := [d1, d2, d3, d4, d5, d6, d7, d8] }
  | _ => none }
def SeriesFormsWrongFalsely : Prop := seriesFormsRow.holds Try.pinned (OpenSpec.ofChange seriesFormsWrong)

/-- 'tscodeclaw28.LayoutHeaders': WHATEVER THE INPUT: true; the input reads as it did. -/
def layoutHeadersSpec : ChangeSpec := { name := "layoutHeaders", fn := fun _ => fun
  | [d1, d2, d3, d4, d5] => { results := [.lit (.bool true)], args := [d1, d2, d3, d4, d5] }
  | _ => none }
def layoutHeadersRow : OpenClaim := { program := "ytabgmodllifgjaa", sum := "bb05d30c297f5507c7fa62889a25f955165658c18d8083223878a030f5bb7451", func := "tscodec/tscodeclaw28.LayoutHeaders", spec := "layoutHeaders", apart := false }
def LayoutHeadersSaid : Prop := layoutHeadersRow.holds Try.pinned (OpenSpec.ofChange layoutHeadersSpec)

/-- ITS FALSE NEIGHBOUR: 'it returns false'. Refute it at one input. -/
def layoutHeadersWrong : ChangeSpec := { name := "layoutHeaders", fn := fun _ => fun
  | [d1, d2, d3, d4, d5] => { results := [.lit (.bool false)], args := [d1, d2, d3, d4, d5] }
  | _ => none }
def LayoutHeadersWrongFalsely : Prop := layoutHeadersRow.holds Try.pinned (OpenSpec.ofChange layoutHeadersWrong)

/-- 'tscodeclaw28.LayoutTrailers': WHATEVER THE INPUT: true; the input reads as it did. -/
def layoutTrailersSpec : ChangeSpec := { name := "layoutTrailers", fn := fun _ => fun
  | [d1, d2, d3, d4] => { results := [.lit (.bool true)], args := [d1, d2, d3, d4] }
  | _ => none }
def layoutTrailersRow : OpenClaim := { program := "ytabgmodllifgjaa", sum := "bb05d30c297f5507c7fa62889a25f955165658c18d8083223878a030f5bb7451", func := "tscodec/tscodeclaw28.LayoutTrailers", spec := "layoutTrailers", apart := false }
def LayoutTrailersSaid : Prop := layoutTrailersRow.holds Try.pinned (OpenSpec.ofChange layoutTrailersSpec)

/-- ITS FALSE NEIGHBOUR: 'it returns false'. Refute it at one input. -/
def layoutTrailersWrong : ChangeSpec := { name := "layoutTrailers", fn := fun _ => fun
  | [d1, d2, d3, d4] => { results := [.lit (.bool false)], args := [d1, d2, d3, d4] }
  | _ => none }
def LayoutTrailersWrongFalsely : Prop := layoutTrailersRow.holds Try.pinned (OpenSpec.ofChange layoutTrailersWrong)

/-- 'tscodeclaw28.LayoutNotices': WHATEVER THE INPUT: true; the input reads as it did. -/
def layoutNoticesSpec : ChangeSpec := { name := "layoutNotices", fn := fun _ => fun
  | [d1, d2, d3, d4] => { results := [.lit (.bool true)], args := [d1, d2, d3, d4] }
  | _ => none }
def layoutNoticesRow : OpenClaim := { program := "ytabgmodllifgjaa", sum := "bb05d30c297f5507c7fa62889a25f955165658c18d8083223878a030f5bb7451", func := "tscodec/tscodeclaw28.LayoutNotices", spec := "layoutNotices", apart := false }
def LayoutNoticesSaid : Prop := layoutNoticesRow.holds Try.pinned (OpenSpec.ofChange layoutNoticesSpec)

/-- ITS FALSE NEIGHBOUR: 'it returns false'. Refute it at one input. -/
def layoutNoticesWrong : ChangeSpec := { name := "layoutNotices", fn := fun _ => fun
  | [d1, d2, d3, d4] => { results := [.lit (.bool false)], args := [d1, d2, d3, d4] }
  | _ => none }
def LayoutNoticesWrongFalsely : Prop := layoutNoticesRow.holds Try.pinned (OpenSpec.ofChange layoutNoticesWrong)

/-- 'tscodeclaw07.FrameForms': WHATEVER THE INPUT: true; the input reads as it did. -/
def frameFormsSpec : ChangeSpec := { name := "frameForms", fn := fun _ => fun
  | [d1, d2, d3] => { results := [.lit (.bool true)], args := [d1, d2, d3] }
  | _ => none }
def frameFormsRow : OpenClaim := { program := "ytabgmodllifgjaa", sum := "bb05d30c297f5507c7fa62889a25f955165658c18d8083223878a030f5bb7451", func := "tscodec/tscodeclaw07.FrameForms", spec := "frameForms", apart := false }
def FrameFormsSaid : Prop := frameFormsRow.holds Try.pinned (OpenSpec.ofChange frameFormsSpec)

/-- ITS FALSE NEIGHBOUR: 'it returns false'. Refute it at one input. -/
def frameFormsWrong : ChangeSpec := { name := "frameForms", fn := fun _ => fun
  | [d1, d2, d3] => { results := [.lit (.bool false)], args := [d1, d2, d3] }
  | _ => none }
def FrameFormsWrongFalsely : Prop := frameFormsRow.holds Try.pinned (OpenSpec.ofChange frameFormsWrong)

/-- 'tscodeclaw07.FrameReads': WHATEVER THE INPUT: true; the input reads as it did. -/
def frameReadsSpec : ChangeSpec := { name := "frameReads", fn := fun _ => fun
  | [d1, d2, d3, d4, d5, d6] => { results := [.lit (.bool true)], args := [d1, d2, d3, d4, d5, d6] }
  | _ => none }
def frameReadsRow : OpenClaim := { program := "ytabgmodllifgjaa", sum := "bb05d30c297f5507c7fa62889a25f955165658c18d8083223878a030f5bb7451", func := "tscodec/tscodeclaw07.FrameReads", spec := "frameReads", apart := false }
def FrameReadsSaid : Prop := frameReadsRow.holds Try.pinned (OpenSpec.ofChange frameReadsSpec)

/-- ITS FALSE NEIGHBOUR: 'it returns false'. Refute it at one input. -/
def frameReadsWrong : ChangeSpec := { name := "frameReads", fn := fun _ => fun
  | [d1, d2, d3, d4, d5, d6] => { results := [.lit (.bool false)], args := [d1, d2, d3, d4, d5, d6] }
  | _ => none }
def FrameReadsWrongFalsely : Prop := frameReadsRow.holds Try.pinned (OpenSpec.ofChange frameReadsWrong)

/-- 'tscodeclaw07.FrameBack': WHATEVER THE INPUT: true; the input reads as it did. -/
def frameBackSpec : ChangeSpec := { name := "frameBack", fn := fun _ => fun
  | [d1, d2, d3, d4] => { results := [.lit (.bool true)], args := [d1, d2, d3, d4] }
  | _ => none }
def frameBackRow : OpenClaim := { program := "ytabgmodllifgjaa", sum := "bb05d30c297f5507c7fa62889a25f955165658c18d8083223878a030f5bb7451", func := "tscodec/tscodeclaw07.FrameBack", spec := "frameBack", apart := false }
def FrameBackSaid : Prop := frameBackRow.holds Try.pinned (OpenSpec.ofChange frameBackSpec)

/-- ITS FALSE NEIGHBOUR: 'it returns false'. Refute it at one input. -/
def frameBackWrong : ChangeSpec := { name := "frameBack", fn := fun _ => fun
  | [d1, d2, d3, d4] => { results := [.lit (.bool false)], args := [d1, d2, d3, d4] }
  | _ => none }
def FrameBackWrongFalsely : Prop := frameBackRow.holds Try.pinned (OpenSpec.ofChange frameBackWrong)

/-- 'tscodeclaw07.FrameNotices': WHATEVER THE INPUT: true; the input reads as it did. -/
def frameNoticesSpec : ChangeSpec := { name := "frameNotices", fn := fun _ => fun
  | [d1, d2, d3, d4, d5] => { results := [.lit (.bool true)], args := [d1, d2, d3, d4, d5] }
  | _ => none }
def frameNoticesRow : OpenClaim := { program := "ytabgmodllifgjaa", sum := "bb05d30c297f5507c7fa62889a25f955165658c18d8083223878a030f5bb7451", func := "tscodec/tscodeclaw07.FrameNotices", spec := "frameNotices", apart := false }
def FrameNoticesSaid : Prop := frameNoticesRow.holds Try.pinned (OpenSpec.ofChange frameNoticesSpec)

/-- ITS FALSE NEIGHBOUR: 'it returns false'. Refute it at one input. -/
def frameNoticesWrong : ChangeSpec := { name := "frameNotices", fn := fun _ => fun
  | [d1, d2, d3, d4, d5] => { results := [.lit (.bool false)], args := [d1, d2, d3, d4, d5] }
  | _ => none }
def FrameNoticesWrongFalsely : Prop := frameNoticesRow.holds Try.pinned (OpenSpec.ofChange frameNoticesWrong)

/-- 'tscodeclaw07.FramePrefixes': WHATEVER THE INPUT: true; the input reads as it did. -/
def framePrefixesSpec : ChangeSpec := { name := "framePrefixes", fn := fun _ => fun
  | [d1, d2, d3] => { results := [.lit (.bool true)], args := [d1, d2, d3] }
  | _ => none }
def framePrefixesRow : OpenClaim := { program := "ytabgmodllifgjaa", sum := "bb05d30c297f5507c7fa62889a25f955165658c18d8083223878a030f5bb7451", func := "tscodec/tscodeclaw07.FramePrefixes", spec := "framePrefixes", apart := false }
def FramePrefixesSaid : Prop := framePrefixesRow.holds Try.pinned (OpenSpec.ofChange framePrefixesSpec)

/-- ITS FALSE NEIGHBOUR: 'it returns false'. Refute it at one input. -/
def framePrefixesWrong : ChangeSpec := { name := "framePrefixes", fn := fun _ => fun
  | [d1, d2, d3] => { results := [.lit (.bool false)], args := [d1, d2, d3] }
  | _ => none }
def FramePrefixesWrongFalsely : Prop := framePrefixesRow.holds Try.pinned (OpenSpec.ofChange framePrefixesWrong)

/-- 'tscodeclaw28.LayoutFooters': WHATEVER THE INPUT: true; the input reads as it did. -/
def layoutFootersSpec : ChangeSpec := { name := "layoutFooters", fn := fun _ => fun
  | [d1, d2, d3] => { results := [.lit (.bool true)], args := [d1, d2, d3] }
  | _ => none }
def layoutFootersRow : OpenClaim := { program := "ytabgmodllifgjaa", sum := "bb05d30c297f5507c7fa62889a25f955165658c18d8083223878a030f5bb7451", func := "tscodec/tscodeclaw28.LayoutFooters", spec := "layoutFooters", unfollowed := true, recurses := true, apart := false }
def LayoutFootersSaid : Prop := layoutFootersRow.holds Try.pinned (OpenSpec.ofChange layoutFootersSpec)

/-- ITS FALSE NEIGHBOUR: 'it returns false'. Refute it at one input. -/
def layoutFootersWrong : ChangeSpec := { name := "layoutFooters", fn := fun _ => fun
  | [d1, d2, d3] => { results := [.lit (.bool false)], args := [d1, d2, d3] }
  | _ => none }
def LayoutFootersWrongFalsely : Prop := layoutFootersRow.holds Try.pinned (OpenSpec.ofChange layoutFootersWrong)

/-- 'tscodeclaw28.LayoutBack': WHATEVER THE INPUT: true; the input reads as it did. -/
def layoutBackSpec : ChangeSpec := { name := "layoutBack", fn := fun _ => fun
  | [d1, d2] => { results := [.lit (.bool true)], args := [d1, d2] }
  | _ => none }
def layoutBackRow : OpenClaim := { program := "ytabgmodllifgjaa", sum := "bb05d30c297f5507c7fa62889a25f955165658c18d8083223878a030f5bb7451", func := "tscodec/tscodeclaw28.LayoutBack", spec := "layoutBack", unfollowed := true, recurses := true, apart := false }
def LayoutBackSaid : Prop := layoutBackRow.holds Try.pinned (OpenSpec.ofChange layoutBackSpec)

/-- ITS FALSE NEIGHBOUR: 'it returns false'. Refute it at one input. -/
def layoutBackWrong : ChangeSpec := { name := "layoutBack", fn := fun _ => fun
  | [d1, d2] => { results := [.lit (.bool false)], args := [d1, d2] }
  | _ => none }
def LayoutBackWrongFalsely : Prop := layoutBackRow.holds Try.pinned (OpenSpec.ofChange layoutBackWrong)

/- THE SECOND FORM. 'bulk': how many values and letters a reading holds, each counted each time it is reached (what is shared counts as often as it is met; a slice's spare places count too). A statement '..UptoSaid' is the law's where the arguments, and the package variables that the reading takes, are together of bulk at most 1048576: NARROWER than '..Said'. Prove '..Said' where nothing that the law and all that it calls make is longer than what came in: it says more and counts as full. Else prove '..UptoSaid'. A law counts once. -/
mutual
def uptoBulk {H : Type} : DataW H → Nat
  | .lit (.string bytes) => bytes.length + 1
  | .lit _ => 1
  | .nil => 1
  | .ptr d => uptoBulk d + 1
  | .slice elems spare => uptoBulkAll elems + uptoBulkAll spare + 1
  | .agg parts => uptoBulkAll parts + 1
  | .iface _ d => uptoBulk d + 1
  | .map entries => uptoBulkEntries entries + 1
  | .held _ => 1
def uptoBulkAll {H : Type} : List (DataW H) → Nat
  | [] => 0
  | d :: r => uptoBulk d + uptoBulkAll r
def uptoBulkEntries {H : Type} : List (Lit × DataW H) → Nat
  | [] => 0
  | x :: r => uptoBulkEntry x + uptoBulkEntries r
def uptoBulkEntry {H : Type} : Lit × DataW H → Nat
  | (.string bytes, d) => bytes.length + uptoBulk d + 1
  | (_, d) => uptoBulk d + 1
 end
def uptoSmall : (H : Type) → List (DataW H) → Bool := fun _ ds => decide (uptoBulkAll ds ≤ 1048576)
def OpenSpec.upto (s : _root_.Go.ChangeSpec) : _root_.Go.OpenSpec := { _root_.Go.OpenSpec.ofChange s with cond := some uptoSmall }

/-- 'tscodeclaw06.CrcTable', WHERE WHAT IT READS IS OF BULK AT MOST 1048576: true; the input reads as it did. -/
def crcTableUptoRow : OpenClaim := { program := "ytabgmodllifgjaa", sum := "bb05d30c297f5507c7fa62889a25f955165658c18d8083223878a030f5bb7451", func := "tscodec/tscodeclaw06.CrcTable", spec := "crcTable", apart := false, narrowed := true }
def CrcTableUptoSaid : Prop := crcTableUptoRow.holds Try.pinned (OpenSpec.upto crcTableSpec)

/-- 'tscodeclaw06.CrcParts', WHERE WHAT IT READS IS OF BULK AT MOST 1048576: true; the input reads as it did. -/
def crcPartsUptoRow : OpenClaim := { program := "ytabgmodllifgjaa", sum := "bb05d30c297f5507c7fa62889a25f955165658c18d8083223878a030f5bb7451", func := "tscodec/tscodeclaw06.CrcParts", spec := "crcParts", apart := false, narrowed := true }
def CrcPartsUptoSaid : Prop := crcPartsUptoRow.holds Try.pinned (OpenSpec.upto crcPartsSpec)

/-- 'tscodeclaw06.CrcLinear', WHERE WHAT IT READS IS OF BULK AT MOST 1048576: true; the input reads as it did. -/
def crcLinearUptoRow : OpenClaim := { program := "ytabgmodllifgjaa", sum := "bb05d30c297f5507c7fa62889a25f955165658c18d8083223878a030f5bb7451", func := "tscodec/tscodeclaw06.CrcLinear", spec := "crcLinear", apart := false, narrowed := true }
def CrcLinearUptoSaid : Prop := crcLinearUptoRow.holds Try.pinned (OpenSpec.upto crcLinearSpec)

/-- 'tscodeclaw06.CrcForms', WHERE WHAT IT READS IS OF BULK AT MOST 1048576: true; the input reads as it did. -/
def crcFormsUptoRow : OpenClaim := { program := "ytabgmodllifgjaa", sum := "bb05d30c297f5507c7fa62889a25f955165658c18d8083223878a030f5bb7451", func := "tscodec/tscodeclaw06.CrcForms", spec := "crcForms", apart := false, narrowed := true }
def CrcFormsUptoSaid : Prop := crcFormsUptoRow.holds Try.pinned (OpenSpec.upto crcFormsSpec)

/-- 'tscodeclaw06.CrcBursts', WHERE WHAT IT READS IS OF BULK AT MOST 1048576: true; the input reads as it did. -/
def crcBurstsUptoRow : OpenClaim := { program := "ytabgmodllifgjaa", sum := "bb05d30c297f5507c7fa62889a25f955165658c18d8083223878a030f5bb7451", func := "tscodec/tscodeclaw06.CrcBursts", spec := "crcBursts", apart := false, narrowed := true }
def CrcBurstsUptoSaid : Prop := crcBurstsUptoRow.holds Try.pinned (OpenSpec.upto crcBurstsSpec)

/-- 'tscodeclaw12.SeriesCuts', WHERE WHAT IT READS IS OF BULK AT MOST 1048576: true; the input reads as it did. -/
def seriesCutsUptoRow : OpenClaim := { program := "ytabgmodllifgjaa", sum := "bb05d30c297f5507c7fa62889a25f955165658c18d8083223878a030f5bb7451", func := "tscodec/tscodeclaw12.SeriesCuts", spec := "seriesCuts", unfollowed := true, recurses := true, apart := false, narrowed := true }
def SeriesCutsUptoSaid : Prop := seriesCutsUptoRow.holds Try.pinned (OpenSpec.upto seriesCutsSpec)

/-- 'tscodeclaw12.SeriesParts', WHERE WHAT IT READS IS OF BULK AT MOST 1048576: true; the input reads as it did. -/
def seriesPartsUptoRow : OpenClaim := { program := "ytabgmodllifgjaa", sum := "bb05d30c297f5507c7fa62889a25f955165658c18d8083223878a030f5bb7451", func := "tscodec/tscodeclaw12.SeriesParts", spec := "seriesParts", unfollowed := true, recurses := true, apart := false, narrowed := true }
def SeriesPartsUptoSaid : Prop := seriesPartsUptoRow.holds Try.pinned (OpenSpec.upto seriesPartsSpec)

/-- 'tscodeclaw12.SeriesRanges', WHERE WHAT IT READS IS OF BULK AT MOST 1048576: true; the input reads as it did. -/
def seriesRangesUptoRow : OpenClaim := { program := "ytabgmodllifgjaa", sum := "bb05d30c297f5507c7fa62889a25f955165658c18d8083223878a030f5bb7451", func := "tscodec/tscodeclaw12.SeriesRanges", spec := "seriesRanges", unfollowed := true, recurses := true, apart := false, narrowed := true }
def SeriesRangesUptoSaid : Prop := seriesRangesUptoRow.holds Try.pinned (OpenSpec.upto seriesRangesSpec)

/-- 'tscodeclaw12.SeriesForms', WHERE WHAT IT READS IS OF BULK AT MOST 1048576: true; the input reads as it did. -/
def seriesFormsUptoRow : OpenClaim := { program := "ytabgmodllifgjaa", sum := "bb05d30c297f5507c7fa62889a25f955165658c18d8083223878a030f5bb7451", func := "tscodec/tscodeclaw12.SeriesForms", spec := "seriesForms", unfollowed := true, recurses := true, apart := false, narrowed := true }
def SeriesFormsUptoSaid : Prop := seriesFormsUptoRow.holds Try.pinned (OpenSpec.upto seriesFormsSpec)

/-- 'tscodeclaw28.LayoutHeaders', WHERE WHAT IT READS IS OF BULK AT MOST 1048576: true; the input reads as it did. -/
def layoutHeadersUptoRow : OpenClaim := { program := "ytabgmodllifgjaa", sum := "bb05d30c297f5507c7fa62889a25f955165658c18d8083223878a030f5bb7451", func := "tscodec/tscodeclaw28.LayoutHeaders", spec := "layoutHeaders", apart := false, narrowed := true }
def LayoutHeadersUptoSaid : Prop := layoutHeadersUptoRow.holds Try.pinned (OpenSpec.upto layoutHeadersSpec)

/-- 'tscodeclaw28.LayoutTrailers', WHERE WHAT IT READS IS OF BULK AT MOST 1048576: true; the input reads as it did. -/
def layoutTrailersUptoRow : OpenClaim := { program := "ytabgmodllifgjaa", sum := "bb05d30c297f5507c7fa62889a25f955165658c18d8083223878a030f5bb7451", func := "tscodec/tscodeclaw28.LayoutTrailers", spec := "layoutTrailers", apart := false, narrowed := true }
def LayoutTrailersUptoSaid : Prop := layoutTrailersUptoRow.holds Try.pinned (OpenSpec.upto layoutTrailersSpec)

/-- 'tscodeclaw28.LayoutNotices', WHERE WHAT IT READS IS OF BULK AT MOST 1048576: true; the input reads as it did. -/
def layoutNoticesUptoRow : OpenClaim := { program := "ytabgmodllifgjaa", sum := "bb05d30c297f5507c7fa62889a25f955165658c18d8083223878a030f5bb7451", func := "tscodec/tscodeclaw28.LayoutNotices", spec := "layoutNotices", apart := false, narrowed := true }
def LayoutNoticesUptoSaid : Prop := layoutNoticesUptoRow.holds Try.pinned (OpenSpec.upto layoutNoticesSpec)

/-- 'tscodeclaw07.FrameForms', WHERE WHAT IT READS IS OF BULK AT MOST 1048576: true; the input reads as it did. -/
def frameFormsUptoRow : OpenClaim := { program := "ytabgmodllifgjaa", sum := "bb05d30c297f5507c7fa62889a25f955165658c18d8083223878a030f5bb7451", func := "tscodec/tscodeclaw07.FrameForms", spec := "frameForms", apart := false, narrowed := true }
def FrameFormsUptoSaid : Prop := frameFormsUptoRow.holds Try.pinned (OpenSpec.upto frameFormsSpec)

/-- 'tscodeclaw07.FrameReads', WHERE WHAT IT READS IS OF BULK AT MOST 1048576: true; the input reads as it did. -/
def frameReadsUptoRow : OpenClaim := { program := "ytabgmodllifgjaa", sum := "bb05d30c297f5507c7fa62889a25f955165658c18d8083223878a030f5bb7451", func := "tscodec/tscodeclaw07.FrameReads", spec := "frameReads", apart := false, narrowed := true }
def FrameReadsUptoSaid : Prop := frameReadsUptoRow.holds Try.pinned (OpenSpec.upto frameReadsSpec)

/-- 'tscodeclaw07.FrameBack', WHERE WHAT IT READS IS OF BULK AT MOST 1048576: true; the input reads as it did. -/
def frameBackUptoRow : OpenClaim := { program := "ytabgmodllifgjaa", sum := "bb05d30c297f5507c7fa62889a25f955165658c18d8083223878a030f5bb7451", func := "tscodec/tscodeclaw07.FrameBack", spec := "frameBack", apart := false, narrowed := true }
def FrameBackUptoSaid : Prop := frameBackUptoRow.holds Try.pinned (OpenSpec.upto frameBackSpec)

/-- 'tscodeclaw07.FrameNotices', WHERE WHAT IT READS IS OF BULK AT MOST 1048576: true; the input reads as it did. -/
def frameNoticesUptoRow : OpenClaim := { program := "ytabgmodllifgjaa", sum := "bb05d30c297f5507c7fa62889a25f955165658c18d8083223878a030f5bb7451", func := "tscodec/tscodeclaw07.FrameNotices", spec := "frameNotices", apart := false, narrowed := true }
def FrameNoticesUptoSaid : Prop := frameNoticesUptoRow.holds Try.pinned (OpenSpec.upto frameNoticesSpec)

/-- 'tscodeclaw07.FramePrefixes', WHERE WHAT IT READS IS OF BULK AT MOST 1048576: true; the input reads as it did. -/
def framePrefixesUptoRow : OpenClaim := { program := "ytabgmodllifgjaa", sum := "bb05d30c297f5507c7fa62889a25f955165658c18d8083223878a030f5bb7451", func := "tscodec/tscodeclaw07.FramePrefixes", spec := "framePrefixes", apart := false, narrowed := true }
def FramePrefixesUptoSaid : Prop := framePrefixesUptoRow.holds Try.pinned (OpenSpec.upto framePrefixesSpec)

/-- 'tscodeclaw28.LayoutFooters', WHERE WHAT IT READS IS OF BULK AT MOST 1048576: true; the input reads as it did. -/
def layoutFootersUptoRow : OpenClaim := { program := "ytabgmodllifgjaa", sum := "bb05d30c297f5507c7fa62889a25f955165658c18d8083223878a030f5bb7451", func := "tscodec/tscodeclaw28.LayoutFooters", spec := "layoutFooters", unfollowed := true, recurses := true, apart := false, narrowed := true }
def LayoutFootersUptoSaid : Prop := layoutFootersUptoRow.holds Try.pinned (OpenSpec.upto layoutFootersSpec)

/-- 'tscodeclaw28.LayoutBack', WHERE WHAT IT READS IS OF BULK AT MOST 1048576: true; the input reads as it did. -/
def layoutBackUptoRow : OpenClaim := { program := "ytabgmodllifgjaa", sum := "bb05d30c297f5507c7fa62889a25f955165658c18d8083223878a030f5bb7451", func := "tscodec/tscodeclaw28.LayoutBack", spec := "layoutBack", unfollowed := true, recurses := true, apart := false, narrowed := true }
def LayoutBackUptoSaid : Prop := layoutBackUptoRow.holds Try.pinned (OpenSpec.upto layoutBackSpec)

end Rows
end Go.Proofs.Ytabgmodllifgjaa
