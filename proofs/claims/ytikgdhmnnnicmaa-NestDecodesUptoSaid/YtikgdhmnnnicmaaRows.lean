/-
  No cell of these rows narrows 'for every input' (looked for: loops, veiled, ifaces, maps, wideKeys, modest, calm, conditions, laid).
  DERIVED. THE GIVEN ROWS OF THIS SEAT. 7 by the template 'for every input the law returns true; each argument reads behind the call as it read before'; 0 by the template 'total and deterministic' (their statements: YtikgdhmnnnicmaaTotals.lean).
  GIVEN WITH THE SEED: the statements are not yours to turn. If you find one false, say at which input.
  Laid BY PROGRAM, IN A SANDBOX (cutbox-rows.mjs): the forced cells as the released guide's own fill.sh prints them over the translation 0f049c30b13ef0f1… (all of the seat's roots in one cut). By AI agents, Wed Nov 11 2026. No macro, syntax, notation, axiom, sorry.
-/
import Derived.Test.YtikgdhmnnnicmaaChecked
import GoSem.Claim
import GoSem.ClaimJoined
import GoSem.ClaimMapViews
import Derived.JoinedTies
import Derived.KernelRfl
namespace Go.Proofs.Ytikgdhmnnnicmaa
/- THE CELL 'sum', in the pinned program and in every row, IS THE sha256 OF THE DUMP (.gsa) THAT YtikgdhmnnnicmaaProg.lean LOADS. Nothing in Lean hashes anything: it is a label: what it is worth is what the hold of that sum in a sandbox is worth. -/
noncomputable def Try.pinned : Pinned := { name := "ytikgdhmnnnicmaa", sum := "0f049c30b13ef0f179898c883e7475538d3e3c38d67457ff62a80a5846f0cdbd", checked := Try.checked }
namespace Rows
def none {H : Type} : Left H := { results := [], args := [] }

/-- 'pithlaw22.NestForests': WHATEVER THE INPUT: true; the input reads as it did. -/
def nestForestsSpec : ChangeSpec := { name := "nestForests", fn := fun _ => fun
  | [d1, d2, d3, d4, d5] => { results := [.lit (.bool true)], args := [d1, d2, d3, d4, d5] }
  | _ => none }
def nestForestsRow : OpenClaim := { program := "ytikgdhmnnnicmaa", sum := "0f049c30b13ef0f179898c883e7475538d3e3c38d67457ff62a80a5846f0cdbd", func := "pith/pithlaw22.NestForests", spec := "nestForests", unfollowed := true, recurses := true, plainKeys := false, apart := false }
def NestForestsSaid : Prop := nestForestsRow.holds Try.pinned (OpenSpec.ofChange nestForestsSpec)

/-- ITS FALSE NEIGHBOUR: 'it returns false'. Refute it at one input. -/
def nestForestsWrong : ChangeSpec := { name := "nestForests", fn := fun _ => fun
  | [d1, d2, d3, d4, d5] => { results := [.lit (.bool false)], args := [d1, d2, d3, d4, d5] }
  | _ => none }
def NestForestsWrongFalsely : Prop := nestForestsRow.holds Try.pinned (OpenSpec.ofChange nestForestsWrong)

/-- 'pithlaw22.NestLevels': WHATEVER THE INPUT: true; the input reads as it did. -/
def nestLevelsSpec : ChangeSpec := { name := "nestLevels", fn := fun _ => fun
  | [d1, d2, d3] => { results := [.lit (.bool true)], args := [d1, d2, d3] }
  | _ => none }
def nestLevelsRow : OpenClaim := { program := "ytikgdhmnnnicmaa", sum := "0f049c30b13ef0f179898c883e7475538d3e3c38d67457ff62a80a5846f0cdbd", func := "pith/pithlaw22.NestLevels", spec := "nestLevels", unfollowed := true, recurses := true, plainKeys := false, apart := false }
def NestLevelsSaid : Prop := nestLevelsRow.holds Try.pinned (OpenSpec.ofChange nestLevelsSpec)

/-- ITS FALSE NEIGHBOUR: 'it returns false'. Refute it at one input. -/
def nestLevelsWrong : ChangeSpec := { name := "nestLevels", fn := fun _ => fun
  | [d1, d2, d3] => { results := [.lit (.bool false)], args := [d1, d2, d3] }
  | _ => none }
def NestLevelsWrongFalsely : Prop := nestLevelsRow.holds Try.pinned (OpenSpec.ofChange nestLevelsWrong)

/-- 'pithlaw22.NestForest': WHATEVER THE INPUT: true; the input reads as it did. -/
def nestForestSpec : ChangeSpec := { name := "nestForest", fn := fun _ => fun
  | [d1, d2, d3] => { results := [.lit (.bool true)], args := [d1, d2, d3] }
  | _ => none }
def nestForestRow : OpenClaim := { program := "ytikgdhmnnnicmaa", sum := "0f049c30b13ef0f179898c883e7475538d3e3c38d67457ff62a80a5846f0cdbd", func := "pith/pithlaw22.NestForest", spec := "nestForest", unfollowed := true, recurses := true, plainKeys := false, apart := false }
def NestForestSaid : Prop := nestForestRow.holds Try.pinned (OpenSpec.ofChange nestForestSpec)

/-- ITS FALSE NEIGHBOUR: 'it returns false'. Refute it at one input. -/
def nestForestWrong : ChangeSpec := { name := "nestForest", fn := fun _ => fun
  | [d1, d2, d3] => { results := [.lit (.bool false)], args := [d1, d2, d3] }
  | _ => none }
def NestForestWrongFalsely : Prop := nestForestRow.holds Try.pinned (OpenSpec.ofChange nestForestWrong)

/-- 'pithlaw22.NestWays': WHATEVER THE INPUT: true; the input reads as it did. -/
def nestWaysSpec : ChangeSpec := { name := "nestWays", fn := fun _ => fun
  | [d1, d2, d3, d4] => { results := [.lit (.bool true)], args := [d1, d2, d3, d4] }
  | _ => none }
def nestWaysRow : OpenClaim := { program := "ytikgdhmnnnicmaa", sum := "0f049c30b13ef0f179898c883e7475538d3e3c38d67457ff62a80a5846f0cdbd", func := "pith/pithlaw22.NestWays", spec := "nestWays", unfollowed := true, recurses := true, plainKeys := false, apart := false }
def NestWaysSaid : Prop := nestWaysRow.holds Try.pinned (OpenSpec.ofChange nestWaysSpec)

/-- ITS FALSE NEIGHBOUR: 'it returns false'. Refute it at one input. -/
def nestWaysWrong : ChangeSpec := { name := "nestWays", fn := fun _ => fun
  | [d1, d2, d3, d4] => { results := [.lit (.bool false)], args := [d1, d2, d3, d4] }
  | _ => none }
def NestWaysWrongFalsely : Prop := nestWaysRow.holds Try.pinned (OpenSpec.ofChange nestWaysWrong)

/-- 'pithlaw22.NestCores': WHATEVER THE INPUT: true; the input reads as it did. -/
def nestCoresSpec : ChangeSpec := { name := "nestCores", fn := fun _ => fun
  | [d1, d2] => { results := [.lit (.bool true)], args := [d1, d2] }
  | _ => none }
def nestCoresRow : OpenClaim := { program := "ytikgdhmnnnicmaa", sum := "0f049c30b13ef0f179898c883e7475538d3e3c38d67457ff62a80a5846f0cdbd", func := "pith/pithlaw22.NestCores", spec := "nestCores", unfollowed := true, recurses := true, plainKeys := false, apart := false }
def NestCoresSaid : Prop := nestCoresRow.holds Try.pinned (OpenSpec.ofChange nestCoresSpec)

/-- ITS FALSE NEIGHBOUR: 'it returns false'. Refute it at one input. -/
def nestCoresWrong : ChangeSpec := { name := "nestCores", fn := fun _ => fun
  | [d1, d2] => { results := [.lit (.bool false)], args := [d1, d2] }
  | _ => none }
def NestCoresWrongFalsely : Prop := nestCoresRow.holds Try.pinned (OpenSpec.ofChange nestCoresWrong)

/-- 'pithlaw22.NestDecodes': WHATEVER THE INPUT: true; the input reads as it did. -/
def nestDecodesSpec : ChangeSpec := { name := "nestDecodes", fn := fun _ => fun
  | [d1, d2, d3, d4, d5, d6] => { results := [.lit (.bool true)], args := [d1, d2, d3, d4, d5, d6] }
  | _ => none }
def nestDecodesRow : OpenClaim := { program := "ytikgdhmnnnicmaa", sum := "0f049c30b13ef0f179898c883e7475538d3e3c38d67457ff62a80a5846f0cdbd", func := "pith/pithlaw22.NestDecodes", spec := "nestDecodes", unfollowed := true, recurses := true, plainKeys := false, apart := false }
def NestDecodesSaid : Prop := nestDecodesRow.holds Try.pinned (OpenSpec.ofChange nestDecodesSpec)

/-- ITS FALSE NEIGHBOUR: 'it returns false'. Refute it at one input. -/
def nestDecodesWrong : ChangeSpec := { name := "nestDecodes", fn := fun _ => fun
  | [d1, d2, d3, d4, d5, d6] => { results := [.lit (.bool false)], args := [d1, d2, d3, d4, d5, d6] }
  | _ => none }
def NestDecodesWrongFalsely : Prop := nestDecodesRow.holds Try.pinned (OpenSpec.ofChange nestDecodesWrong)

/-- 'pithlaw22.NestBack': WHATEVER THE INPUT: true; the input reads as it did. -/
def nestBackSpec : ChangeSpec := { name := "nestBack", fn := fun _ => fun
  | [d1, d2, d3, d4, d5, d6] => { results := [.lit (.bool true)], args := [d1, d2, d3, d4, d5, d6] }
  | _ => none }
def nestBackRow : OpenClaim := { program := "ytikgdhmnnnicmaa", sum := "0f049c30b13ef0f179898c883e7475538d3e3c38d67457ff62a80a5846f0cdbd", func := "pith/pithlaw22.NestBack", spec := "nestBack", unfollowed := true, recurses := true, plainKeys := false, apart := false }
def NestBackSaid : Prop := nestBackRow.holds Try.pinned (OpenSpec.ofChange nestBackSpec)

/-- ITS FALSE NEIGHBOUR: 'it returns false'. Refute it at one input. -/
def nestBackWrong : ChangeSpec := { name := "nestBack", fn := fun _ => fun
  | [d1, d2, d3, d4, d5, d6] => { results := [.lit (.bool false)], args := [d1, d2, d3, d4, d5, d6] }
  | _ => none }
def NestBackWrongFalsely : Prop := nestBackRow.holds Try.pinned (OpenSpec.ofChange nestBackWrong)

/- THE SECOND FORM. 'bulk': how many values and letters a reading holds, each counted each time it is reached (what is shared counts as often as it is met; a slice's spare places count too). A statement '..UptoSaid' is the law's where the arguments, and the package variables that the reading takes, are together of bulk at most 1048576: NARROWER than '..Said'. Prove '..Said' where nothing that the law and all that it calls make is longer than what came in: it says more and counts as full. Else prove '..UptoSaid'. A law counts once. -/
mutual
def uptoBulk {H : Type} : DataW H → Nat
  | .lit (.string bytes) => bytes.length + 1
  | .lit _ => 1
  | .nil => 1
  | .ptr d => uptoBulk d + 1
  | .slice elems spare => uptoBulkAll elems + uptoBulkAll spare + 1
  | .agg parts => uptoBulkAll parts + 1
  | .iface _ d => uptoBulk d + 1
  | .map entries => uptoBulkEntries entries + 1
  | .held _ => 1
def uptoBulkAll {H : Type} : List (DataW H) → Nat
  | [] => 0
  | d :: r => uptoBulk d + uptoBulkAll r
def uptoBulkEntries {H : Type} : List (Lit × DataW H) → Nat
  | [] => 0
  | x :: r => uptoBulkEntry x + uptoBulkEntries r
def uptoBulkEntry {H : Type} : Lit × DataW H → Nat
  | (.string bytes, d) => bytes.length + uptoBulk d + 1
  | (_, d) => uptoBulk d + 1
 end
def uptoSmall : (H : Type) → List (DataW H) → Bool := fun _ ds => decide (uptoBulkAll ds ≤ 1048576)
def OpenSpec.upto (s : _root_.Go.ChangeSpec) : _root_.Go.OpenSpec := { _root_.Go.OpenSpec.ofChange s with cond := some uptoSmall }

/-- 'pithlaw22.NestForests', WHERE WHAT IT READS IS OF BULK AT MOST 1048576: true; the input reads as it did. -/
def nestForestsUptoRow : OpenClaim := { program := "ytikgdhmnnnicmaa", sum := "0f049c30b13ef0f179898c883e7475538d3e3c38d67457ff62a80a5846f0cdbd", func := "pith/pithlaw22.NestForests", spec := "nestForests", unfollowed := true, recurses := true, plainKeys := false, apart := false, narrowed := true }
def NestForestsUptoSaid : Prop := nestForestsUptoRow.holds Try.pinned (OpenSpec.upto nestForestsSpec)

/-- 'pithlaw22.NestLevels', WHERE WHAT IT READS IS OF BULK AT MOST 1048576: true; the input reads as it did. -/
def nestLevelsUptoRow : OpenClaim := { program := "ytikgdhmnnnicmaa", sum := "0f049c30b13ef0f179898c883e7475538d3e3c38d67457ff62a80a5846f0cdbd", func := "pith/pithlaw22.NestLevels", spec := "nestLevels", unfollowed := true, recurses := true, plainKeys := false, apart := false, narrowed := true }
def NestLevelsUptoSaid : Prop := nestLevelsUptoRow.holds Try.pinned (OpenSpec.upto nestLevelsSpec)

/-- 'pithlaw22.NestForest', WHERE WHAT IT READS IS OF BULK AT MOST 1048576: true; the input reads as it did. -/
def nestForestUptoRow : OpenClaim := { program := "ytikgdhmnnnicmaa", sum := "0f049c30b13ef0f179898c883e7475538d3e3c38d67457ff62a80a5846f0cdbd", func := "pith/pithlaw22.NestForest", spec := "nestForest", unfollowed := true, recurses := true, plainKeys := false, apart := false, narrowed := true }
def NestForestUptoSaid : Prop := nestForestUptoRow.holds Try.pinned (OpenSpec.upto nestForestSpec)

/-- 'pithlaw22.NestWays', WHERE WHAT IT READS IS OF BULK AT MOST 1048576: true; the input reads as it did. -/
def nestWaysUptoRow : OpenClaim := { program := "ytikgdhmnnnicmaa", sum := "0f049c30b13ef0f179898c883e7475538d3e3c38d67457ff62a80a5846f0cdbd", func := "pith/pithlaw22.NestWays", spec := "nestWays", unfollowed := true, recurses := true, plainKeys := false, apart := false, narrowed := true }
def NestWaysUptoSaid : Prop := nestWaysUptoRow.holds Try.pinned (OpenSpec.upto nestWaysSpec)

/-- 'pithlaw22.NestCores', WHERE WHAT IT READS IS OF BULK AT MOST 1048576: true; the input reads as it did. -/
def nestCoresUptoRow : OpenClaim := { program := "ytikgdhmnnnicmaa", sum := "0f049c30b13ef0f179898c883e7475538d3e3c38d67457ff62a80a5846f0cdbd", func := "pith/pithlaw22.NestCores", spec := "nestCores", unfollowed := true, recurses := true, plainKeys := false, apart := false, narrowed := true }
def NestCoresUptoSaid : Prop := nestCoresUptoRow.holds Try.pinned (OpenSpec.upto nestCoresSpec)

/-- 'pithlaw22.NestDecodes', WHERE WHAT IT READS IS OF BULK AT MOST 1048576: true; the input reads as it did. -/
def nestDecodesUptoRow : OpenClaim := { program := "ytikgdhmnnnicmaa", sum := "0f049c30b13ef0f179898c883e7475538d3e3c38d67457ff62a80a5846f0cdbd", func := "pith/pithlaw22.NestDecodes", spec := "nestDecodes", unfollowed := true, recurses := true, plainKeys := false, apart := false, narrowed := true }
def NestDecodesUptoSaid : Prop := nestDecodesUptoRow.holds Try.pinned (OpenSpec.upto nestDecodesSpec)

/-- 'pithlaw22.NestBack', WHERE WHAT IT READS IS OF BULK AT MOST 1048576: true; the input reads as it did. -/
def nestBackUptoRow : OpenClaim := { program := "ytikgdhmnnnicmaa", sum := "0f049c30b13ef0f179898c883e7475538d3e3c38d67457ff62a80a5846f0cdbd", func := "pith/pithlaw22.NestBack", spec := "nestBack", unfollowed := true, recurses := true, plainKeys := false, apart := false, narrowed := true }
def NestBackUptoSaid : Prop := nestBackUptoRow.holds Try.pinned (OpenSpec.upto nestBackSpec)

end Rows
end Go.Proofs.Ytikgdhmnnnicmaa
