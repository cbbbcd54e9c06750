/-
  No cell of these rows narrows 'for every input' (looked for: loops, veiled, ifaces, maps, wideKeys, modest, calm, conditions, laid).
  DERIVED. THE GIVEN ROWS OF THIS SEAT. 5 by the template 'for every input the law returns true; each argument reads behind the call as it read before'; 0 by the template 'total and deterministic' (their statements: YtfajligmdjpekaaTotals.lean).
  GIVEN WITH THE SEED: the statements are not yours to turn. If you find one false, say at which input.
  Laid BY PROGRAM, IN A SANDBOX (cutbox-rows.mjs): the forced cells as the released guide's own fill.sh prints them over the translation bb9c06998d9f8b03… (all of the seat's roots in one cut). By AI agents, Wed Nov 11 2026. No macro, syntax, notation, axiom, sorry.
-/
import Derived.Test.YtfajligmdjpekaaChecked
import GoSem.Claim
import GoSem.ClaimJoined
import GoSem.ClaimMapViews
import Derived.JoinedTies
import Derived.KernelRfl
namespace Go.Proofs.Ytfajligmdjpekaa
/- THE CELL 'sum', in the pinned program and in every row, IS THE sha256 OF THE DUMP (.gsa) THAT YtfajligmdjpekaaProg.lean LOADS. Nothing in Lean hashes anything: it is a label: what it is worth is what the hold of that sum in a sandbox is worth. -/
noncomputable def Try.pinned : Pinned := { name := "ytfajligmdjpekaa", sum := "bb9c06998d9f8b0395ddc95a3a9f9057b57836608d98c83ddb7fb4a92be8cdb1", checked := Try.checked }
namespace Rows
def none {H : Type} : Left H := { results := [], args := [] }

/-- 'cabochonlaw14.DagTells': WHATEVER THE INPUT: true; the input reads as it did. -/
def dagTellsSpec : ChangeSpec := { name := "dagTells", fn := fun _ => fun
  | [d1, d2, d3] => { results := [.lit (.bool true)], args := [d1, d2, d3] }
  | _ => none }
def dagTellsRow : OpenClaim := { program := "ytfajligmdjpekaa", sum := "bb9c06998d9f8b0395ddc95a3a9f9057b57836608d98c83ddb7fb4a92be8cdb1", func := "cabochon/cabochonlaw14.DagTells", spec := "dagTells", unfollowed := true, recurses := true, apart := false }
def DagTellsSaid : Prop := dagTellsRow.holds Try.pinned (OpenSpec.ofChange dagTellsSpec)

/-- ITS FALSE NEIGHBOUR: 'it returns false'. Refute it at one input. -/
def dagTellsWrong : ChangeSpec := { name := "dagTells", fn := fun _ => fun
  | [d1, d2, d3] => { results := [.lit (.bool false)], args := [d1, d2, d3] }
  | _ => none }
def DagTellsWrongFalsely : Prop := dagTellsRow.holds Try.pinned (OpenSpec.ofChange dagTellsWrong)

/-- 'cabochonlaw14.DagBases': WHATEVER THE INPUT: true; the input reads as it did. -/
def dagBasesSpec : ChangeSpec := { name := "dagBases", fn := fun _ => fun
  | [d1, d2, d3, d4] => { results := [.lit (.bool true)], args := [d1, d2, d3, d4] }
  | _ => none }
def dagBasesRow : OpenClaim := { program := "ytfajligmdjpekaa", sum := "bb9c06998d9f8b0395ddc95a3a9f9057b57836608d98c83ddb7fb4a92be8cdb1", func := "cabochon/cabochonlaw14.DagBases", spec := "dagBases", unfollowed := true, recurses := true, apart := false }
def DagBasesSaid : Prop := dagBasesRow.holds Try.pinned (OpenSpec.ofChange dagBasesSpec)

/-- ITS FALSE NEIGHBOUR: 'it returns false'. Refute it at one input. -/
def dagBasesWrong : ChangeSpec := { name := "dagBases", fn := fun _ => fun
  | [d1, d2, d3, d4] => { results := [.lit (.bool false)], args := [d1, d2, d3, d4] }
  | _ => none }
def DagBasesWrongFalsely : Prop := dagBasesRow.holds Try.pinned (OpenSpec.ofChange dagBasesWrong)

/-- 'cabochonlaw14.DagGrows': WHATEVER THE INPUT: true; the input reads as it did. -/
def dagGrowsSpec : ChangeSpec := { name := "dagGrows", fn := fun _ => fun
  | [d1, d2, d3, d4, d5] => { results := [.lit (.bool true)], args := [d1, d2, d3, d4, d5] }
  | _ => none }
def dagGrowsRow : OpenClaim := { program := "ytfajligmdjpekaa", sum := "bb9c06998d9f8b0395ddc95a3a9f9057b57836608d98c83ddb7fb4a92be8cdb1", func := "cabochon/cabochonlaw14.DagGrows", spec := "dagGrows", unfollowed := true, recurses := true, apart := false }
def DagGrowsSaid : Prop := dagGrowsRow.holds Try.pinned (OpenSpec.ofChange dagGrowsSpec)

/-- ITS FALSE NEIGHBOUR: 'it returns false'. Refute it at one input. -/
def dagGrowsWrong : ChangeSpec := { name := "dagGrows", fn := fun _ => fun
  | [d1, d2, d3, d4, d5] => { results := [.lit (.bool false)], args := [d1, d2, d3, d4, d5] }
  | _ => none }
def DagGrowsWrongFalsely : Prop := dagGrowsRow.holds Try.pinned (OpenSpec.ofChange dagGrowsWrong)

/-- 'cabochonlaw14.DagNews': WHATEVER THE INPUT: true; the input reads as it did. -/
def dagNewsSpec : ChangeSpec := { name := "dagNews", fn := fun _ => fun
  | [d1, d2, d3] => { results := [.lit (.bool true)], args := [d1, d2, d3] }
  | _ => none }
def dagNewsRow : OpenClaim := { program := "ytfajligmdjpekaa", sum := "bb9c06998d9f8b0395ddc95a3a9f9057b57836608d98c83ddb7fb4a92be8cdb1", func := "cabochon/cabochonlaw14.DagNews", spec := "dagNews", unfollowed := true, recurses := true, apart := false }
def DagNewsSaid : Prop := dagNewsRow.holds Try.pinned (OpenSpec.ofChange dagNewsSpec)

/-- ITS FALSE NEIGHBOUR: 'it returns false'. Refute it at one input. -/
def dagNewsWrong : ChangeSpec := { name := "dagNews", fn := fun _ => fun
  | [d1, d2, d3] => { results := [.lit (.bool false)], args := [d1, d2, d3] }
  | _ => none }
def DagNewsWrongFalsely : Prop := dagNewsRow.holds Try.pinned (OpenSpec.ofChange dagNewsWrong)

/-- 'cabochonlaw14.DagDepths': WHATEVER THE INPUT: true; the input reads as it did. -/
def dagDepthsSpec : ChangeSpec := { name := "dagDepths", fn := fun _ => fun
  | [d1, d2] => { results := [.lit (.bool true)], args := [d1, d2] }
  | _ => none }
def dagDepthsRow : OpenClaim := { program := "ytfajligmdjpekaa", sum := "bb9c06998d9f8b0395ddc95a3a9f9057b57836608d98c83ddb7fb4a92be8cdb1", func := "cabochon/cabochonlaw14.DagDepths", spec := "dagDepths", unfollowed := true, recurses := true, apart := false }
def DagDepthsSaid : Prop := dagDepthsRow.holds Try.pinned (OpenSpec.ofChange dagDepthsSpec)

/-- ITS FALSE NEIGHBOUR: 'it returns false'. Refute it at one input. -/
def dagDepthsWrong : ChangeSpec := { name := "dagDepths", fn := fun _ => fun
  | [d1, d2] => { results := [.lit (.bool false)], args := [d1, d2] }
  | _ => none }
def DagDepthsWrongFalsely : Prop := dagDepthsRow.holds Try.pinned (OpenSpec.ofChange dagDepthsWrong)

/- THE SECOND FORM. 'bulk': how many values and letters a reading holds, each counted each time it is reached (what is shared counts as often as it is met; a slice's spare places count too). A statement '..UptoSaid' is the law's where the arguments, and the package variables that the reading takes, are together of bulk at most 1048576: NARROWER than '..Said'. Prove '..Said' where nothing that the law and all that it calls make is longer than what came in: it says more and counts as full. Else prove '..UptoSaid'. A law counts once. -/
mutual
def uptoBulk {H : Type} : DataW H → Nat
  | .lit (.string bytes) => bytes.length + 1
  | .lit _ => 1
  | .nil => 1
  | .ptr d => uptoBulk d + 1
  | .slice elems spare => uptoBulkAll elems + uptoBulkAll spare + 1
  | .agg parts => uptoBulkAll parts + 1
  | .iface _ d => uptoBulk d + 1
  | .map entries => uptoBulkEntries entries + 1
  | .held _ => 1
def uptoBulkAll {H : Type} : List (DataW H) → Nat
  | [] => 0
  | d :: r => uptoBulk d + uptoBulkAll r
def uptoBulkEntries {H : Type} : List (Lit × DataW H) → Nat
  | [] => 0
  | x :: r => uptoBulkEntry x + uptoBulkEntries r
def uptoBulkEntry {H : Type} : Lit × DataW H → Nat
  | (.string bytes, d) => bytes.length + uptoBulk d + 1
  | (_, d) => uptoBulk d + 1
 end
def uptoSmall : (H : Type) → List (DataW H) → Bool := fun _ ds => decide (uptoBulkAll ds ≤ 1048576)
def OpenSpec.upto (s : _root_.Go.ChangeSpec) : _root_.Go.OpenSpec := { _root_.Go.OpenSpec.ofChange s with cond := some uptoSmall }

/-- 'cabochonlaw14.DagTells', WHERE WHAT IT READS IS OF BULK AT MOST 1048576: true; the input reads as it did. -/
def dagTellsUptoRow : OpenClaim := { program := "ytfajligmdjpekaa", sum := "bb9c06998d9f8b0395ddc95a3a9f9057b57836608d98c83ddb7fb4a92be8cdb1", func := "cabochon/cabochonlaw14.DagTells", spec := "dagTells", unfollowed := true, recurses := true, apart := false, narrowed := true }
def DagTellsUptoSaid : Prop := dagTellsUptoRow.holds Try.pinned (OpenSpec.upto dagTellsSpec)

/-- 'cabochonlaw14.DagBases', WHERE WHAT IT READS IS OF BULK AT MOST 1048576: true; the input reads as it did. -/
def dagBasesUptoRow : OpenClaim := { program := "ytfajligmdjpekaa", sum := "bb9c06998d9f8b0395ddc95a3a9f9057b57836608d98c83ddb7fb4a92be8cdb1", func := "cabochon/cabochonlaw14.DagBases", spec := "dagBases", unfollowed := true, recurses := true, apart := false, narrowed := true }
def DagBasesUptoSaid : Prop := dagBasesUptoRow.holds Try.pinned (OpenSpec.upto dagBasesSpec)

/-- 'cabochonlaw14.DagGrows', WHERE WHAT IT READS IS OF BULK AT MOST 1048576: true; the input reads as it did. -/
def dagGrowsUptoRow : OpenClaim := { program := "ytfajligmdjpekaa", sum := "bb9c06998d9f8b0395ddc95a3a9f9057b57836608d98c83ddb7fb4a92be8cdb1", func := "cabochon/cabochonlaw14.DagGrows", spec := "dagGrows", unfollowed := true, recurses := true, apart := false, narrowed := true }
def DagGrowsUptoSaid : Prop := dagGrowsUptoRow.holds Try.pinned (OpenSpec.upto dagGrowsSpec)

/-- 'cabochonlaw14.DagNews', WHERE WHAT IT READS IS OF BULK AT MOST 1048576: true; the input reads as it did. -/
def dagNewsUptoRow : OpenClaim := { program := "ytfajligmdjpekaa", sum := "bb9c06998d9f8b0395ddc95a3a9f9057b57836608d98c83ddb7fb4a92be8cdb1", func := "cabochon/cabochonlaw14.DagNews", spec := "dagNews", unfollowed := true, recurses := true, apart := false, narrowed := true }
def DagNewsUptoSaid : Prop := dagNewsUptoRow.holds Try.pinned (OpenSpec.upto dagNewsSpec)

/-- 'cabochonlaw14.DagDepths', WHERE WHAT IT READS IS OF BULK AT MOST 1048576: true; the input reads as it did. -/
def dagDepthsUptoRow : OpenClaim := { program := "ytfajligmdjpekaa", sum := "bb9c06998d9f8b0395ddc95a3a9f9057b57836608d98c83ddb7fb4a92be8cdb1", func := "cabochon/cabochonlaw14.DagDepths", spec := "dagDepths", unfollowed := true, recurses := true, apart := false, narrowed := true }
def DagDepthsUptoSaid : Prop := dagDepthsUptoRow.holds Try.pinned (OpenSpec.upto dagDepthsSpec)

end Rows
end Go.Proofs.Ytfajligmdjpekaa
