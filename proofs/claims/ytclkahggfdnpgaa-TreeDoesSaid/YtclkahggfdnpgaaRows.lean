/-
  No cell of these rows narrows 'for every input' (looked for: loops, veiled, ifaces, maps, wideKeys, modest, calm, conditions, laid).
  DERIVED. THE GIVEN ROWS OF THIS SEAT. 11 by the template 'for every input the law returns true; each argument reads behind the call as it read before'; 0 by the template 'total and deterministic' (their statements: YtclkahggfdnpgaaTotals.lean).
  GIVEN WITH THE SEED: the statements are not yours to turn. If you find one false, say at which input.
  Laid BY PROGRAM, IN A SANDBOX (cutbox-rows.mjs): the forced cells as the released guide's own fill.sh prints them over the translation 979ebccd8ba36565… (all of the seat's roots in one cut). By AI agents, Wed Nov 11 2026. No macro, syntax, notation, axiom, sorry.
-/
import Derived.Test.YtclkahggfdnpgaaChecked
import GoSem.Claim
import GoSem.ClaimJoined
import GoSem.ClaimMapViews
import Derived.JoinedTies
import Derived.KernelRfl
namespace Go.Proofs.Ytclkahggfdnpgaa
/- THE CELL 'sum', in the pinned program and in every row, IS THE sha256 OF THE DUMP (.gsa) THAT YtclkahggfdnpgaaProg.lean LOADS. Nothing in Lean hashes anything: it is a label: what it is worth is what the hold of that sum in a sandbox is worth. -/
noncomputable def Try.pinned : Pinned := { name := "ytclkahggfdnpgaa", sum := "979ebccd8ba365656a8dc34cd8e2d23867eb92d2d96ffa65edd54eb96a0dcb59", checked := Try.checked }
namespace Rows
def none {H : Type} : Left H := { results := [], args := [] }

/-- 'replevinlaw05.MarkTells': WHATEVER THE INPUT: true; the input reads as it did. -/
def markTellsSpec : ChangeSpec := { name := "markTells", fn := fun _ => fun
  | [d1, d2, d3] => { results := [.lit (.bool true)], args := [d1, d2, d3] }
  | _ => none }
def markTellsRow : OpenClaim := { program := "ytclkahggfdnpgaa", sum := "979ebccd8ba365656a8dc34cd8e2d23867eb92d2d96ffa65edd54eb96a0dcb59", func := "replevin/replevinlaw05.MarkTells", spec := "markTells", unfollowed := true, recurses := true, plainKeys := false, apart := false }
def MarkTellsSaid : Prop := markTellsRow.holds Try.pinned (OpenSpec.ofChange markTellsSpec)

/-- ITS FALSE NEIGHBOUR: 'it returns false'. Refute it at one input. -/
def markTellsWrong : ChangeSpec := { name := "markTells", fn := fun _ => fun
  | [d1, d2, d3] => { results := [.lit (.bool false)], args := [d1, d2, d3] }
  | _ => none }
def MarkTellsWrongFalsely : Prop := markTellsRow.holds Try.pinned (OpenSpec.ofChange markTellsWrong)

/-- 'replevinlaw05.MarkDoes': WHATEVER THE INPUT: true; the input reads as it did. -/
def markDoesSpec : ChangeSpec := { name := "markDoes", fn := fun _ => fun
  | [d1, d2, d3] => { results := [.lit (.bool true)], args := [d1, d2, d3] }
  | _ => none }
def markDoesRow : OpenClaim := { program := "ytclkahggfdnpgaa", sum := "979ebccd8ba365656a8dc34cd8e2d23867eb92d2d96ffa65edd54eb96a0dcb59", func := "replevin/replevinlaw05.MarkDoes", spec := "markDoes", unfollowed := true, recurses := true, plainKeys := false, apart := false }
def MarkDoesSaid : Prop := markDoesRow.holds Try.pinned (OpenSpec.ofChange markDoesSpec)

/-- ITS FALSE NEIGHBOUR: 'it returns false'. Refute it at one input. -/
def markDoesWrong : ChangeSpec := { name := "markDoes", fn := fun _ => fun
  | [d1, d2, d3] => { results := [.lit (.bool false)], args := [d1, d2, d3] }
  | _ => none }
def MarkDoesWrongFalsely : Prop := markDoesRow.holds Try.pinned (OpenSpec.ofChange markDoesWrong)

/-- 'replevinlaw05.MarkFits': WHATEVER THE INPUT: true; the input reads as it did. -/
def markFitsSpec : ChangeSpec := { name := "markFits", fn := fun _ => fun
  | [d1, d2] => { results := [.lit (.bool true)], args := [d1, d2] }
  | _ => none }
def markFitsRow : OpenClaim := { program := "ytclkahggfdnpgaa", sum := "979ebccd8ba365656a8dc34cd8e2d23867eb92d2d96ffa65edd54eb96a0dcb59", func := "replevin/replevinlaw05.MarkFits", spec := "markFits", unfollowed := true, recurses := true, plainKeys := false, apart := false }
def MarkFitsSaid : Prop := markFitsRow.holds Try.pinned (OpenSpec.ofChange markFitsSpec)

/-- ITS FALSE NEIGHBOUR: 'it returns false'. Refute it at one input. -/
def markFitsWrong : ChangeSpec := { name := "markFits", fn := fun _ => fun
  | [d1, d2] => { results := [.lit (.bool false)], args := [d1, d2] }
  | _ => none }
def MarkFitsWrongFalsely : Prop := markFitsRow.holds Try.pinned (OpenSpec.ofChange markFitsWrong)

/-- 'replevinlaw05.MarkStays': WHATEVER THE INPUT: true; the input reads as it did. -/
def markStaysSpec : ChangeSpec := { name := "markStays", fn := fun _ => fun
  | [d1, d2, d3] => { results := [.lit (.bool true)], args := [d1, d2, d3] }
  | _ => none }
def markStaysRow : OpenClaim := { program := "ytclkahggfdnpgaa", sum := "979ebccd8ba365656a8dc34cd8e2d23867eb92d2d96ffa65edd54eb96a0dcb59", func := "replevin/replevinlaw05.MarkStays", spec := "markStays", unfollowed := true, recurses := true, plainKeys := false, apart := false }
def MarkStaysSaid : Prop := markStaysRow.holds Try.pinned (OpenSpec.ofChange markStaysSpec)

/-- ITS FALSE NEIGHBOUR: 'it returns false'. Refute it at one input. -/
def markStaysWrong : ChangeSpec := { name := "markStays", fn := fun _ => fun
  | [d1, d2, d3] => { results := [.lit (.bool false)], args := [d1, d2, d3] }
  | _ => none }
def MarkStaysWrongFalsely : Prop := markStaysRow.holds Try.pinned (OpenSpec.ofChange markStaysWrong)

/-- 'replevinlaw05.MarkTicks': WHATEVER THE INPUT: true; the input reads as it did. -/
def markTicksSpec : ChangeSpec := { name := "markTicks", fn := fun _ => fun
  | [d1, d2] => { results := [.lit (.bool true)], args := [d1, d2] }
  | _ => none }
def markTicksRow : OpenClaim := { program := "ytclkahggfdnpgaa", sum := "979ebccd8ba365656a8dc34cd8e2d23867eb92d2d96ffa65edd54eb96a0dcb59", func := "replevin/replevinlaw05.MarkTicks", spec := "markTicks", unfollowed := true, recurses := true, plainKeys := false, apart := false }
def MarkTicksSaid : Prop := markTicksRow.holds Try.pinned (OpenSpec.ofChange markTicksSpec)

/-- ITS FALSE NEIGHBOUR: 'it returns false'. Refute it at one input. -/
def markTicksWrong : ChangeSpec := { name := "markTicks", fn := fun _ => fun
  | [d1, d2] => { results := [.lit (.bool false)], args := [d1, d2] }
  | _ => none }
def MarkTicksWrongFalsely : Prop := markTicksRow.holds Try.pinned (OpenSpec.ofChange markTicksWrong)

/-- 'replevinlaw05.MarkFree': WHATEVER THE INPUT: true; the input reads as it did. -/
def markFreeSpec : ChangeSpec := { name := "markFree", fn := fun _ => fun
  | [d1, d2] => { results := [.lit (.bool true)], args := [d1, d2] }
  | _ => none }
def markFreeRow : OpenClaim := { program := "ytclkahggfdnpgaa", sum := "979ebccd8ba365656a8dc34cd8e2d23867eb92d2d96ffa65edd54eb96a0dcb59", func := "replevin/replevinlaw05.MarkFree", spec := "markFree", unfollowed := true, recurses := true, plainKeys := false, apart := false }
def MarkFreeSaid : Prop := markFreeRow.holds Try.pinned (OpenSpec.ofChange markFreeSpec)

/-- ITS FALSE NEIGHBOUR: 'it returns false'. Refute it at one input. -/
def markFreeWrong : ChangeSpec := { name := "markFree", fn := fun _ => fun
  | [d1, d2] => { results := [.lit (.bool false)], args := [d1, d2] }
  | _ => none }
def MarkFreeWrongFalsely : Prop := markFreeRow.holds Try.pinned (OpenSpec.ofChange markFreeWrong)

/-- 'replevinlaw19.TreeDoes': WHATEVER THE INPUT: true; the input reads as it did. -/
def treeDoesSpec : ChangeSpec := { name := "treeDoes", fn := fun _ => fun
  | [d1, d2] => { results := [.lit (.bool true)], args := [d1, d2] }
  | _ => none }
def treeDoesRow : OpenClaim := { program := "ytclkahggfdnpgaa", sum := "979ebccd8ba365656a8dc34cd8e2d23867eb92d2d96ffa65edd54eb96a0dcb59", func := "replevin/replevinlaw19.TreeDoes", spec := "treeDoes", unfollowed := true, recurses := true, plainKeys := false, apart := false }
def TreeDoesSaid : Prop := treeDoesRow.holds Try.pinned (OpenSpec.ofChange treeDoesSpec)

/-- ITS FALSE NEIGHBOUR: 'it returns false'. Refute it at one input. -/
def treeDoesWrong : ChangeSpec := { name := "treeDoes", fn := fun _ => fun
  | [d1, d2] => { results := [.lit (.bool false)], args := [d1, d2] }
  | _ => none }
def TreeDoesWrongFalsely : Prop := treeDoesRow.holds Try.pinned (OpenSpec.ofChange treeDoesWrong)

/-- 'replevinlaw19.TreeHangs': WHATEVER THE INPUT: true; the input reads as it did. -/
def treeHangsSpec : ChangeSpec := { name := "treeHangs", fn := fun _ => fun
  | [d1, d2] => { results := [.lit (.bool true)], args := [d1, d2] }
  | _ => none }
def treeHangsRow : OpenClaim := { program := "ytclkahggfdnpgaa", sum := "979ebccd8ba365656a8dc34cd8e2d23867eb92d2d96ffa65edd54eb96a0dcb59", func := "replevin/replevinlaw19.TreeHangs", spec := "treeHangs", unfollowed := true, recurses := true, plainKeys := false, apart := false }
def TreeHangsSaid : Prop := treeHangsRow.holds Try.pinned (OpenSpec.ofChange treeHangsSpec)

/-- ITS FALSE NEIGHBOUR: 'it returns false'. Refute it at one input. -/
def treeHangsWrong : ChangeSpec := { name := "treeHangs", fn := fun _ => fun
  | [d1, d2] => { results := [.lit (.bool false)], args := [d1, d2] }
  | _ => none }
def TreeHangsWrongFalsely : Prop := treeHangsRow.holds Try.pinned (OpenSpec.ofChange treeHangsWrong)

/-- 'replevinlaw19.TreeSingle': WHATEVER THE INPUT: true; the input reads as it did. -/
def treeSingleSpec : ChangeSpec := { name := "treeSingle", fn := fun _ => fun
  | [d1, d2] => { results := [.lit (.bool true)], args := [d1, d2] }
  | _ => none }
def treeSingleRow : OpenClaim := { program := "ytclkahggfdnpgaa", sum := "979ebccd8ba365656a8dc34cd8e2d23867eb92d2d96ffa65edd54eb96a0dcb59", func := "replevin/replevinlaw19.TreeSingle", spec := "treeSingle", unfollowed := true, recurses := true, plainKeys := false, apart := false }
def TreeSingleSaid : Prop := treeSingleRow.holds Try.pinned (OpenSpec.ofChange treeSingleSpec)

/-- ITS FALSE NEIGHBOUR: 'it returns false'. Refute it at one input. -/
def treeSingleWrong : ChangeSpec := { name := "treeSingle", fn := fun _ => fun
  | [d1, d2] => { results := [.lit (.bool false)], args := [d1, d2] }
  | _ => none }
def TreeSingleWrongFalsely : Prop := treeSingleRow.holds Try.pinned (OpenSpec.ofChange treeSingleWrong)

/-- 'replevinlaw19.TreeTicks': WHATEVER THE INPUT: true; the input reads as it did. -/
def treeTicksSpec : ChangeSpec := { name := "treeTicks", fn := fun _ => fun
  | [d1, d2] => { results := [.lit (.bool true)], args := [d1, d2] }
  | _ => none }
def treeTicksRow : OpenClaim := { program := "ytclkahggfdnpgaa", sum := "979ebccd8ba365656a8dc34cd8e2d23867eb92d2d96ffa65edd54eb96a0dcb59", func := "replevin/replevinlaw19.TreeTicks", spec := "treeTicks", unfollowed := true, recurses := true, plainKeys := false, apart := false }
def TreeTicksSaid : Prop := treeTicksRow.holds Try.pinned (OpenSpec.ofChange treeTicksSpec)

/-- ITS FALSE NEIGHBOUR: 'it returns false'. Refute it at one input. -/
def treeTicksWrong : ChangeSpec := { name := "treeTicks", fn := fun _ => fun
  | [d1, d2] => { results := [.lit (.bool false)], args := [d1, d2] }
  | _ => none }
def TreeTicksWrongFalsely : Prop := treeTicksRow.holds Try.pinned (OpenSpec.ofChange treeTicksWrong)

/-- 'replevinlaw19.TreeAlone': WHATEVER THE INPUT: true; the input reads as it did. -/
def treeAloneSpec : ChangeSpec := { name := "treeAlone", fn := fun _ => fun
  | [d1, d2] => { results := [.lit (.bool true)], args := [d1, d2] }
  | _ => none }
def treeAloneRow : OpenClaim := { program := "ytclkahggfdnpgaa", sum := "979ebccd8ba365656a8dc34cd8e2d23867eb92d2d96ffa65edd54eb96a0dcb59", func := "replevin/replevinlaw19.TreeAlone", spec := "treeAlone", unfollowed := true, recurses := true, plainKeys := false, apart := false }
def TreeAloneSaid : Prop := treeAloneRow.holds Try.pinned (OpenSpec.ofChange treeAloneSpec)

/-- ITS FALSE NEIGHBOUR: 'it returns false'. Refute it at one input. -/
def treeAloneWrong : ChangeSpec := { name := "treeAlone", fn := fun _ => fun
  | [d1, d2] => { results := [.lit (.bool false)], args := [d1, d2] }
  | _ => none }
def TreeAloneWrongFalsely : Prop := treeAloneRow.holds Try.pinned (OpenSpec.ofChange treeAloneWrong)

/- THE SECOND FORM. 'bulk': how many values and letters a reading holds, each counted each time it is reached (what is shared counts as often as it is met; a slice's spare places count too). A statement '..UptoSaid' is the law's where the arguments, and the package variables that the reading takes, are together of bulk at most 1048576: NARROWER than '..Said'. Prove '..Said' where nothing that the law and all that it calls make is longer than what came in: it says more and counts as full. Else prove '..UptoSaid'. A law counts once. -/
mutual
def uptoBulk {H : Type} : DataW H → Nat
  | .lit (.string bytes) => bytes.length + 1
  | .lit _ => 1
  | .nil => 1
  | .ptr d => uptoBulk d + 1
  | .slice elems spare => uptoBulkAll elems + uptoBulkAll spare + 1
  | .agg parts => uptoBulkAll parts + 1
  | .iface _ d => uptoBulk d + 1
  | .map entries => uptoBulkEntries entries + 1
  | .held _ => 1
def uptoBulkAll {H : Type} : List (DataW H) → Nat
  | [] => 0
  | d :: r => uptoBulk d + uptoBulkAll r
def uptoBulkEntries {H : Type} : List (Lit × DataW H) → Nat
  | [] => 0
  | x :: r => uptoBulkEntry x + uptoBulkEntries r
def uptoBulkEntry {H : Type} : Lit × DataW H → Nat
  | (.string bytes, d) => bytes.length + uptoBulk d + 1
  | (_, d) => uptoBulk d + 1
 end
def uptoSmall : (H : Type) → List (DataW H) → Bool := fun _ ds => decide (uptoBulkAll ds ≤ 1048576)
def OpenSpec.upto (s : _root_.Go.ChangeSpec) : _root_.Go.OpenSpec := { _root_.Go.OpenSpec.ofChange s with cond := some uptoSmall }

/-- 'replevinlaw05.MarkTells', WHERE WHAT IT READS IS OF BULK AT MOST 1048576: true; the input reads as it did. -/
def markTellsUptoRow : OpenClaim := { program := "ytclkahggfdnpgaa", sum := "979ebccd8ba365656a8dc34cd8e2d23867eb92d2d96ffa65edd54eb96a0dcb59", func := "replevin/replevinlaw05.MarkTells", spec := "markTells", unfollowed := true, recurses := true, plainKeys := false, apart := false, narrowed := true }
def MarkTellsUptoSaid : Prop := markTellsUptoRow.holds Try.pinned (OpenSpec.upto markTellsSpec)

/-- 'replevinlaw05.MarkDoes', WHERE WHAT IT READS IS OF BULK AT MOST 1048576: true; the input reads as it did. -/
def markDoesUptoRow : OpenClaim := { program := "ytclkahggfdnpgaa", sum := "979ebccd8ba365656a8dc34cd8e2d23867eb92d2d96ffa65edd54eb96a0dcb59", func := "replevin/replevinlaw05.MarkDoes", spec := "markDoes", unfollowed := true, recurses := true, plainKeys := false, apart := false, narrowed := true }
def MarkDoesUptoSaid : Prop := markDoesUptoRow.holds Try.pinned (OpenSpec.upto markDoesSpec)

/-- 'replevinlaw05.MarkFits', WHERE WHAT IT READS IS OF BULK AT MOST 1048576: true; the input reads as it did. -/
def markFitsUptoRow : OpenClaim := { program := "ytclkahggfdnpgaa", sum := "979ebccd8ba365656a8dc34cd8e2d23867eb92d2d96ffa65edd54eb96a0dcb59", func := "replevin/replevinlaw05.MarkFits", spec := "markFits", unfollowed := true, recurses := true, plainKeys := false, apart := false, narrowed := true }
def MarkFitsUptoSaid : Prop := markFitsUptoRow.holds Try.pinned (OpenSpec.upto markFitsSpec)

/-- 'replevinlaw05.MarkStays', WHERE WHAT IT READS IS OF BULK AT MOST 1048576: true; the input reads as it did. -/
def markStaysUptoRow : OpenClaim := { program := "ytclkahggfdnpgaa", sum := "979ebccd8ba365656a8dc34cd8e2d23867eb92d2d96ffa65edd54eb96a0dcb59", func := "replevin/replevinlaw05.MarkStays", spec := "markStays", unfollowed := true, recurses := true, plainKeys := false, apart := false, narrowed := true }
def MarkStaysUptoSaid : Prop := markStaysUptoRow.holds Try.pinned (OpenSpec.upto markStaysSpec)

/-- 'replevinlaw05.MarkTicks', WHERE WHAT IT READS IS OF BULK AT MOST 1048576: true; the input reads as it did. -/
def markTicksUptoRow : OpenClaim := { program := "ytclkahggfdnpgaa", sum := "979ebccd8ba365656a8dc34cd8e2d23867eb92d2d96ffa65edd54eb96a0dcb59", func := "replevin/replevinlaw05.MarkTicks", spec := "markTicks", unfollowed := true, recurses := true, plainKeys := false, apart := false, narrowed := true }
def MarkTicksUptoSaid : Prop := markTicksUptoRow.holds Try.pinned (OpenSpec.upto markTicksSpec)

/-- 'replevinlaw05.MarkFree', WHERE WHAT IT READS IS OF BULK AT MOST 1048576: true; the input reads as it did. -/
def markFreeUptoRow : OpenClaim := { program := "ytclkahggfdnpgaa", sum := "979ebccd8ba365656a8dc34cd8e2d23867eb92d2d96ffa65edd54eb96a0dcb59", func := "replevin/replevinlaw05.MarkFree", spec := "markFree", unfollowed := true, recurses := true, plainKeys := false, apart := false, narrowed := true }
def MarkFreeUptoSaid : Prop := markFreeUptoRow.holds Try.pinned (OpenSpec.upto markFreeSpec)

/-- 'replevinlaw19.TreeDoes', WHERE WHAT IT READS IS OF BULK AT MOST 1048576: true; the input reads as it did. -/
def treeDoesUptoRow : OpenClaim := { program := "ytclkahggfdnpgaa", sum := "979ebccd8ba365656a8dc34cd8e2d23867eb92d2d96ffa65edd54eb96a0dcb59", func := "replevin/replevinlaw19.TreeDoes", spec := "treeDoes", unfollowed := true, recurses := true, plainKeys := false, apart := false, narrowed := true }
def TreeDoesUptoSaid : Prop := treeDoesUptoRow.holds Try.pinned (OpenSpec.upto treeDoesSpec)

/-- 'replevinlaw19.TreeHangs', WHERE WHAT IT READS IS OF BULK AT MOST 1048576: true; the input reads as it did. -/
def treeHangsUptoRow : OpenClaim := { program := "ytclkahggfdnpgaa", sum := "979ebccd8ba365656a8dc34cd8e2d23867eb92d2d96ffa65edd54eb96a0dcb59", func := "replevin/replevinlaw19.TreeHangs", spec := "treeHangs", unfollowed := true, recurses := true, plainKeys := false, apart := false, narrowed := true }
def TreeHangsUptoSaid : Prop := treeHangsUptoRow.holds Try.pinned (OpenSpec.upto treeHangsSpec)

/-- 'replevinlaw19.TreeSingle', WHERE WHAT IT READS IS OF BULK AT MOST 1048576: true; the input reads as it did. -/
def treeSingleUptoRow : OpenClaim := { program := "ytclkahggfdnpgaa", sum := "979ebccd8ba365656a8dc34cd8e2d23867eb92d2d96ffa65edd54eb96a0dcb59", func := "replevin/replevinlaw19.TreeSingle", spec := "treeSingle", unfollowed := true, recurses := true, plainKeys := false, apart := false, narrowed := true }
def TreeSingleUptoSaid : Prop := treeSingleUptoRow.holds Try.pinned (OpenSpec.upto treeSingleSpec)

/-- 'replevinlaw19.TreeTicks', WHERE WHAT IT READS IS OF BULK AT MOST 1048576: true; the input reads as it did. -/
def treeTicksUptoRow : OpenClaim := { program := "ytclkahggfdnpgaa", sum := "979ebccd8ba365656a8dc34cd8e2d23867eb92d2d96ffa65edd54eb96a0dcb59", func := "replevin/replevinlaw19.TreeTicks", spec := "treeTicks", unfollowed := true, recurses := true, plainKeys := false, apart := false, narrowed := true }
def TreeTicksUptoSaid : Prop := treeTicksUptoRow.holds Try.pinned (OpenSpec.upto treeTicksSpec)

/-- 'replevinlaw19.TreeAlone', WHERE WHAT IT READS IS OF BULK AT MOST 1048576: true; the input reads as it did. -/
def treeAloneUptoRow : OpenClaim := { program := "ytclkahggfdnpgaa", sum := "979ebccd8ba365656a8dc34cd8e2d23867eb92d2d96ffa65edd54eb96a0dcb59", func := "replevin/replevinlaw19.TreeAlone", spec := "treeAlone", unfollowed := true, recurses := true, plainKeys := false, apart := false, narrowed := true }
def TreeAloneUptoSaid : Prop := treeAloneUptoRow.holds Try.pinned (OpenSpec.upto treeAloneSpec)

end Rows
end Go.Proofs.Ytclkahggfdnpgaa
