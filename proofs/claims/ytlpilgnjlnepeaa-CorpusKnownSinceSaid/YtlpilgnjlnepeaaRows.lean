/-
  NARROWER THAN 'FOR EVERY INPUT', by the rows' own cells (each row's printed sentence says how): CorpusItems: loops · CorpusFinds: loops · CorpusSorted: loops · CorpusMonotone: loops · CorpusOrderIndependent: loops · CorpusKnownSince: loops · CorpusActs: loops.
  DERIVED. THE GIVEN ROWS OF THIS SEAT. 7 by the template 'for every input the law returns true; each argument reads behind the call as it read before'; 0 by the template 'total and deterministic' (their statements: YtlpilgnjlnepeaaTotals.lean).
  GIVEN WITH THE SEED: the statements are not yours to turn. If you find one false, say at which input.
  Laid BY PROGRAM, IN A SANDBOX (cutbox-rows.mjs): the forced cells as the released guide's own fill.sh prints them over the translation 318dd222674db224… (all of the seat's roots in one cut). By AI agents, Wed Nov 11 2026. No macro, syntax, notation, axiom, sorry.
-/
import Derived.Test.YtlpilgnjlnepeaaChecked
import GoSem.Claim
import GoSem.ClaimJoined
import GoSem.ClaimMapViews
import Derived.JoinedTies
import Derived.KernelRfl
namespace Go.Proofs.Ytlpilgnjlnepeaa
/- THE CELL 'sum', in the pinned program and in every row, IS THE sha256 OF THE DUMP (.gsa) THAT YtlpilgnjlnepeaaProg.lean LOADS. Nothing in Lean hashes anything: it is a label: what it is worth is what the hold of that sum in a sandbox is worth. -/
noncomputable def Try.pinned : Pinned := { name := "ytlpilgnjlnepeaa", sum := "318dd222674db22493db978d62fc8cc541c1383f78d0213bb874c9dd7529b176", checked := Try.checked }
namespace Rows
def none {H : Type} : Left H := { results := [], args := [] }

/-- 'pandectlaw28.CorpusItems': WHATEVER THE INPUT: true; the input reads as it did. -/
def corpusItemsSpec : ChangeSpec := { name := "corpusItems", fn := fun _ => fun
  | [d] => { results := [.lit (.bool true)], args := [d] }
  | _ => none }
def corpusItemsRow : OpenClaim := { program := "ytlpilgnjlnepeaa", sum := "318dd222674db22493db978d62fc8cc541c1383f78d0213bb874c9dd7529b176", func := "pandect/pandectlaw28.CorpusItems", spec := "corpusItems", unfollowed := true, recurses := true, loops := true, plainKeys := false, apart := false }
def CorpusItemsSaid : Prop := corpusItemsRow.holds Try.pinned (OpenSpec.ofChange corpusItemsSpec)

/-- ITS FALSE NEIGHBOUR: 'it returns false'. Refute it at one input. -/
def corpusItemsWrong : ChangeSpec := { name := "corpusItems", fn := fun _ => fun
  | [d] => { results := [.lit (.bool false)], args := [d] }
  | _ => none }
def CorpusItemsWrongFalsely : Prop := corpusItemsRow.holds Try.pinned (OpenSpec.ofChange corpusItemsWrong)

/-- 'pandectlaw28.CorpusFinds': WHATEVER THE INPUT: true; the input reads as it did. -/
def corpusFindsSpec : ChangeSpec := { name := "corpusFinds", fn := fun _ => fun
  | [d1, d2, d3, d4] => { results := [.lit (.bool true)], args := [d1, d2, d3, d4] }
  | _ => none }
def corpusFindsRow : OpenClaim := { program := "ytlpilgnjlnepeaa", sum := "318dd222674db22493db978d62fc8cc541c1383f78d0213bb874c9dd7529b176", func := "pandect/pandectlaw28.CorpusFinds", spec := "corpusFinds", unfollowed := true, recurses := true, loops := true, plainKeys := false, apart := false }
def CorpusFindsSaid : Prop := corpusFindsRow.holds Try.pinned (OpenSpec.ofChange corpusFindsSpec)

/-- ITS FALSE NEIGHBOUR: 'it returns false'. Refute it at one input. -/
def corpusFindsWrong : ChangeSpec := { name := "corpusFinds", fn := fun _ => fun
  | [d1, d2, d3, d4] => { results := [.lit (.bool false)], args := [d1, d2, d3, d4] }
  | _ => none }
def CorpusFindsWrongFalsely : Prop := corpusFindsRow.holds Try.pinned (OpenSpec.ofChange corpusFindsWrong)

/-- 'pandectlaw28.CorpusSorted': WHATEVER THE INPUT: true; the input reads as it did. -/
def corpusSortedSpec : ChangeSpec := { name := "corpusSorted", fn := fun _ => fun
  | [d] => { results := [.lit (.bool true)], args := [d] }
  | _ => none }
def corpusSortedRow : OpenClaim := { program := "ytlpilgnjlnepeaa", sum := "318dd222674db22493db978d62fc8cc541c1383f78d0213bb874c9dd7529b176", func := "pandect/pandectlaw28.CorpusSorted", spec := "corpusSorted", unfollowed := true, recurses := true, loops := true, plainKeys := false, apart := false }
def CorpusSortedSaid : Prop := corpusSortedRow.holds Try.pinned (OpenSpec.ofChange corpusSortedSpec)

/-- ITS FALSE NEIGHBOUR: 'it returns false'. Refute it at one input. -/
def corpusSortedWrong : ChangeSpec := { name := "corpusSorted", fn := fun _ => fun
  | [d] => { results := [.lit (.bool false)], args := [d] }
  | _ => none }
def CorpusSortedWrongFalsely : Prop := corpusSortedRow.holds Try.pinned (OpenSpec.ofChange corpusSortedWrong)

/-- 'pandectlaw28.CorpusMonotone': WHATEVER THE INPUT: true; the input reads as it did. -/
def corpusMonotoneSpec : ChangeSpec := { name := "corpusMonotone", fn := fun _ => fun
  | [d1, d2] => { results := [.lit (.bool true)], args := [d1, d2] }
  | _ => none }
def corpusMonotoneRow : OpenClaim := { program := "ytlpilgnjlnepeaa", sum := "318dd222674db22493db978d62fc8cc541c1383f78d0213bb874c9dd7529b176", func := "pandect/pandectlaw28.CorpusMonotone", spec := "corpusMonotone", unfollowed := true, recurses := true, loops := true, plainKeys := false, apart := false }
def CorpusMonotoneSaid : Prop := corpusMonotoneRow.holds Try.pinned (OpenSpec.ofChange corpusMonotoneSpec)

/-- ITS FALSE NEIGHBOUR: 'it returns false'. Refute it at one input. -/
def corpusMonotoneWrong : ChangeSpec := { name := "corpusMonotone", fn := fun _ => fun
  | [d1, d2] => { results := [.lit (.bool false)], args := [d1, d2] }
  | _ => none }
def CorpusMonotoneWrongFalsely : Prop := corpusMonotoneRow.holds Try.pinned (OpenSpec.ofChange corpusMonotoneWrong)

/-- 'pandectlaw28.CorpusOrderIndependent': WHATEVER THE INPUT: true; the input reads as it did. -/
def corpusOrderIndependentSpec : ChangeSpec := { name := "corpusOrderIndependent", fn := fun _ => fun
  | [d1, d2] => { results := [.lit (.bool true)], args := [d1, d2] }
  | _ => none }
def corpusOrderIndependentRow : OpenClaim := { program := "ytlpilgnjlnepeaa", sum := "318dd222674db22493db978d62fc8cc541c1383f78d0213bb874c9dd7529b176", func := "pandect/pandectlaw28.CorpusOrderIndependent", spec := "corpusOrderIndependent", unfollowed := true, recurses := true, loops := true, plainKeys := false, apart := false }
def CorpusOrderIndependentSaid : Prop := corpusOrderIndependentRow.holds Try.pinned (OpenSpec.ofChange corpusOrderIndependentSpec)

/-- ITS FALSE NEIGHBOUR: 'it returns false'. Refute it at one input. -/
def corpusOrderIndependentWrong : ChangeSpec := { name := "corpusOrderIndependent", fn := fun _ => fun
  | [d1, d2] => { results := [.lit (.bool false)], args := [d1, d2] }
  | _ => none }
def CorpusOrderIndependentWrongFalsely : Prop := corpusOrderIndependentRow.holds Try.pinned (OpenSpec.ofChange corpusOrderIndependentWrong)

/-- 'pandectlaw28.CorpusKnownSince': WHATEVER THE INPUT: true; the input reads as it did. -/
def corpusKnownSinceSpec : ChangeSpec := { name := "corpusKnownSince", fn := fun _ => fun
  | [d1, d2, d3] => { results := [.lit (.bool true)], args := [d1, d2, d3] }
  | _ => none }
def corpusKnownSinceRow : OpenClaim := { program := "ytlpilgnjlnepeaa", sum := "318dd222674db22493db978d62fc8cc541c1383f78d0213bb874c9dd7529b176", func := "pandect/pandectlaw28.CorpusKnownSince", spec := "corpusKnownSince", unfollowed := true, recurses := true, loops := true, plainKeys := false, apart := false }
def CorpusKnownSinceSaid : Prop := corpusKnownSinceRow.holds Try.pinned (OpenSpec.ofChange corpusKnownSinceSpec)

/-- ITS FALSE NEIGHBOUR: 'it returns false'. Refute it at one input. -/
def corpusKnownSinceWrong : ChangeSpec := { name := "corpusKnownSince", fn := fun _ => fun
  | [d1, d2, d3] => { results := [.lit (.bool false)], args := [d1, d2, d3] }
  | _ => none }
def CorpusKnownSinceWrongFalsely : Prop := corpusKnownSinceRow.holds Try.pinned (OpenSpec.ofChange corpusKnownSinceWrong)

/-- 'pandectlaw28.CorpusActs': WHATEVER THE INPUT: true; the input reads as it did. -/
def corpusActsSpec : ChangeSpec := { name := "corpusActs", fn := fun _ => fun
  | [d] => { results := [.lit (.bool true)], args := [d] }
  | _ => none }
def corpusActsRow : OpenClaim := { program := "ytlpilgnjlnepeaa", sum := "318dd222674db22493db978d62fc8cc541c1383f78d0213bb874c9dd7529b176", func := "pandect/pandectlaw28.CorpusActs", spec := "corpusActs", unfollowed := true, recurses := true, loops := true, plainKeys := false, apart := false }
def CorpusActsSaid : Prop := corpusActsRow.holds Try.pinned (OpenSpec.ofChange corpusActsSpec)

/-- ITS FALSE NEIGHBOUR: 'it returns false'. Refute it at one input. -/
def corpusActsWrong : ChangeSpec := { name := "corpusActs", fn := fun _ => fun
  | [d] => { results := [.lit (.bool false)], args := [d] }
  | _ => none }
def CorpusActsWrongFalsely : Prop := corpusActsRow.holds Try.pinned (OpenSpec.ofChange corpusActsWrong)

/- THE SECOND FORM. 'bulk': how many values and letters a reading holds, each counted each time it is reached (what is shared counts as often as it is met; a slice's spare places count too). A statement '..UptoSaid' is the law's where the arguments, and the package variables that the reading takes, are together of bulk at most 1048576: NARROWER than '..Said'. Prove '..Said' where nothing that the law and all that it calls make is longer than what came in: it says more and counts as full. Else prove '..UptoSaid'. A law counts once. -/
mutual
def uptoBulk {H : Type} : DataW H → Nat
  | .lit (.string bytes) => bytes.length + 1
  | .lit _ => 1
  | .nil => 1
  | .ptr d => uptoBulk d + 1
  | .slice elems spare => uptoBulkAll elems + uptoBulkAll spare + 1
  | .agg parts => uptoBulkAll parts + 1
  | .iface _ d => uptoBulk d + 1
  | .map entries => uptoBulkEntries entries + 1
  | .held _ => 1
def uptoBulkAll {H : Type} : List (DataW H) → Nat
  | [] => 0
  | d :: r => uptoBulk d + uptoBulkAll r
def uptoBulkEntries {H : Type} : List (Lit × DataW H) → Nat
  | [] => 0
  | x :: r => uptoBulkEntry x + uptoBulkEntries r
def uptoBulkEntry {H : Type} : Lit × DataW H → Nat
  | (.string bytes, d) => bytes.length + uptoBulk d + 1
  | (_, d) => uptoBulk d + 1
 end
def uptoSmall : (H : Type) → List (DataW H) → Bool := fun _ ds => decide (uptoBulkAll ds ≤ 1048576)
def OpenSpec.upto (s : _root_.Go.ChangeSpec) : _root_.Go.OpenSpec := { _root_.Go.OpenSpec.ofChange s with cond := some uptoSmall }

/-- 'pandectlaw28.CorpusItems', WHERE WHAT IT READS IS OF BULK AT MOST 1048576: true; the input reads as it did. -/
def corpusItemsUptoRow : OpenClaim := { program := "ytlpilgnjlnepeaa", sum := "318dd222674db22493db978d62fc8cc541c1383f78d0213bb874c9dd7529b176", func := "pandect/pandectlaw28.CorpusItems", spec := "corpusItems", unfollowed := true, recurses := true, loops := true, plainKeys := false, apart := false, narrowed := true }
def CorpusItemsUptoSaid : Prop := corpusItemsUptoRow.holds Try.pinned (OpenSpec.upto corpusItemsSpec)

/-- 'pandectlaw28.CorpusFinds', WHERE WHAT IT READS IS OF BULK AT MOST 1048576: true; the input reads as it did. -/
def corpusFindsUptoRow : OpenClaim := { program := "ytlpilgnjlnepeaa", sum := "318dd222674db22493db978d62fc8cc541c1383f78d0213bb874c9dd7529b176", func := "pandect/pandectlaw28.CorpusFinds", spec := "corpusFinds", unfollowed := true, recurses := true, loops := true, plainKeys := false, apart := false, narrowed := true }
def CorpusFindsUptoSaid : Prop := corpusFindsUptoRow.holds Try.pinned (OpenSpec.upto corpusFindsSpec)

/-- 'pandectlaw28.CorpusSorted', WHERE WHAT IT READS IS OF BULK AT MOST 1048576: true; the input reads as it did. -/
def corpusSortedUptoRow : OpenClaim := { program := "ytlpilgnjlnepeaa", sum := "318dd222674db22493db978d62fc8cc541c1383f78d0213bb874c9dd7529b176", func := "pandect/pandectlaw28.CorpusSorted", spec := "corpusSorted", unfollowed := true, recurses := true, loops := true, plainKeys := false, apart := false, narrowed := true }
def CorpusSortedUptoSaid : Prop := corpusSortedUptoRow.holds Try.pinned (OpenSpec.upto corpusSortedSpec)

/-- 'pandectlaw28.CorpusMonotone', WHERE WHAT IT READS IS OF BULK AT MOST 1048576: true; the input reads as it did. -/
def corpusMonotoneUptoRow : OpenClaim := { program := "ytlpilgnjlnepeaa", sum := "318dd222674db22493db978d62fc8cc541c1383f78d0213bb874c9dd7529b176", func := "pandect/pandectlaw28.CorpusMonotone", spec := "corpusMonotone", unfollowed := true, recurses := true, loops := true, plainKeys := false, apart := false, narrowed := true }
def CorpusMonotoneUptoSaid : Prop := corpusMonotoneUptoRow.holds Try.pinned (OpenSpec.upto corpusMonotoneSpec)

/-- 'pandectlaw28.CorpusOrderIndependent', WHERE WHAT IT READS IS OF BULK AT MOST 1048576: true; the input reads as it did. -/
def corpusOrderIndependentUptoRow : OpenClaim := { program := "ytlpilgnjlnepeaa", sum := "318dd222674db22493db978d62fc8cc541c1383f78d0213bb874c9dd7529b176", func := "pandect/pandectlaw28.CorpusOrderIndependent", spec := "corpusOrderIndependent", unfollowed := true, recurses := true, loops := true, plainKeys := false, apart := false, narrowed := true }
def CorpusOrderIndependentUptoSaid : Prop := corpusOrderIndependentUptoRow.holds Try.pinned (OpenSpec.upto corpusOrderIndependentSpec)

/-- 'pandectlaw28.CorpusKnownSince', WHERE WHAT IT READS IS OF BULK AT MOST 1048576: true; the input reads as it did. -/
def corpusKnownSinceUptoRow : OpenClaim := { program := "ytlpilgnjlnepeaa", sum := "318dd222674db22493db978d62fc8cc541c1383f78d0213bb874c9dd7529b176", func := "pandect/pandectlaw28.CorpusKnownSince", spec := "corpusKnownSince", unfollowed := true, recurses := true, loops := true, plainKeys := false, apart := false, narrowed := true }
def CorpusKnownSinceUptoSaid : Prop := corpusKnownSinceUptoRow.holds Try.pinned (OpenSpec.upto corpusKnownSinceSpec)

/-- 'pandectlaw28.CorpusActs', WHERE WHAT IT READS IS OF BULK AT MOST 1048576: true; the input reads as it did. -/
def corpusActsUptoRow : OpenClaim := { program := "ytlpilgnjlnepeaa", sum := "318dd222674db22493db978d62fc8cc541c1383f78d0213bb874c9dd7529b176", func := "pandect/pandectlaw28.CorpusActs", spec := "corpusActs", unfollowed := true, recurses := true, loops := true, plainKeys := false, apart := false, narrowed := true }
def CorpusActsUptoSaid : Prop := corpusActsUptoRow.holds Try.pinned (OpenSpec.upto corpusActsSpec)

end Rows
end Go.Proofs.Ytlpilgnjlnepeaa
