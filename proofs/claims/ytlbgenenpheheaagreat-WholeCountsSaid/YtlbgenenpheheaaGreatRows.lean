/-
  No cell of these rows narrows 'for every input' (looked for: loops, veiled, ifaces, maps, wideKeys, modest, calm, conditions, laid).
  DERIVED. THE GIVEN ROWS OF THIS SEAT. 6 by the template 'for every input the law returns true; each argument reads behind the call as it read before'; 0 by the template 'total and deterministic' (their statements: YtlbgenenpheheaaGreatTotals.lean).
  GIVEN WITH THE SEED: the statements are not yours to turn. If you find one false, say at which input.
  Laid BY PROGRAM, IN A SANDBOX (cutbox-rows.mjs): the forced cells as the released guide's own fill.sh prints them over the translation 1c76f3835f9a6af6… (all of the seat's roots in one cut). By AI agents, Wed Nov 11 2026. No macro, syntax, notation, axiom, sorry.
-/
import Derived.Test.YtlbgenenpheheaaGreatChecked
import GoSem.Claim
import GoSem.ClaimJoined
import GoSem.ClaimMapViews
import Derived.JoinedTies
import Derived.KernelRfl
namespace Go.Proofs.YtlbgenenpheheaaGreat
/- THE CELL 'sum', in the pinned program and in every row, IS THE sha256 OF THE DUMP (.gsa) THAT YtlbgenenpheheaaGreatProg.lean LOADS. Nothing in Lean hashes anything: it is a label: what it is worth is what the hold of that sum in a sandbox is worth. -/
noncomputable def Tryz.pinned : Pinned := { name := "ytlbgenenpheheaagreat", sum := "1c76f3835f9a6af6e91d748de36262eebff4610940de47beac78387fa56506d4", checked := Tryz.checked }
namespace Rows
def none {H : Type} : Left H := { results := [], args := [] }

/-- 'cuirasstop.WholeTicks': WHATEVER THE INPUT: true; the input reads as it did. -/
def wholeTicksSpec : ChangeSpec := { name := "wholeTicks", fn := fun _ => fun
  | [d1, d2] => { results := [.lit (.bool true)], args := [d1, d2] }
  | _ => none }
def wholeTicksRow : OpenClaim := { program := "ytlbgenenpheheaagreat", sum := "1c76f3835f9a6af6e91d748de36262eebff4610940de47beac78387fa56506d4", func := "cuirass/cuirasstop.WholeTicks", spec := "wholeTicks", unfollowed := true, recurses := true, apart := false }
def WholeTicksSaid : Prop := wholeTicksRow.holds Tryz.pinned (OpenSpec.ofChange wholeTicksSpec)

/-- ITS FALSE NEIGHBOUR: 'it returns false'. Refute it at one input. -/
def wholeTicksWrong : ChangeSpec := { name := "wholeTicks", fn := fun _ => fun
  | [d1, d2] => { results := [.lit (.bool false)], args := [d1, d2] }
  | _ => none }
def WholeTicksWrongFalsely : Prop := wholeTicksRow.holds Tryz.pinned (OpenSpec.ofChange wholeTicksWrong)

/-- 'cuirasstop.WholeCured': WHATEVER THE INPUT: true; the input reads as it did. -/
def wholeCuredSpec : ChangeSpec := { name := "wholeCured", fn := fun _ => fun
  | [d1, d2, d3] => { results := [.lit (.bool true)], args := [d1, d2, d3] }
  | _ => none }
def wholeCuredRow : OpenClaim := { program := "ytlbgenenpheheaagreat", sum := "1c76f3835f9a6af6e91d748de36262eebff4610940de47beac78387fa56506d4", func := "cuirass/cuirasstop.WholeCured", spec := "wholeCured", unfollowed := true, recurses := true, apart := false }
def WholeCuredSaid : Prop := wholeCuredRow.holds Tryz.pinned (OpenSpec.ofChange wholeCuredSpec)

/-- ITS FALSE NEIGHBOUR: 'it returns false'. Refute it at one input. -/
def wholeCuredWrong : ChangeSpec := { name := "wholeCured", fn := fun _ => fun
  | [d1, d2, d3] => { results := [.lit (.bool false)], args := [d1, d2, d3] }
  | _ => none }
def WholeCuredWrongFalsely : Prop := wholeCuredRow.holds Tryz.pinned (OpenSpec.ofChange wholeCuredWrong)

/-- 'cuirasstop.WholeUnlike': WHATEVER THE INPUT: true; the input reads as it did. -/
def wholeUnlikeSpec : ChangeSpec := { name := "wholeUnlike", fn := fun _ => fun
  | [d1, d2] => { results := [.lit (.bool true)], args := [d1, d2] }
  | _ => none }
def wholeUnlikeRow : OpenClaim := { program := "ytlbgenenpheheaagreat", sum := "1c76f3835f9a6af6e91d748de36262eebff4610940de47beac78387fa56506d4", func := "cuirass/cuirasstop.WholeUnlike", spec := "wholeUnlike", unfollowed := true, recurses := true, apart := false }
def WholeUnlikeSaid : Prop := wholeUnlikeRow.holds Tryz.pinned (OpenSpec.ofChange wholeUnlikeSpec)

/-- ITS FALSE NEIGHBOUR: 'it returns false'. Refute it at one input. -/
def wholeUnlikeWrong : ChangeSpec := { name := "wholeUnlike", fn := fun _ => fun
  | [d1, d2] => { results := [.lit (.bool false)], args := [d1, d2] }
  | _ => none }
def WholeUnlikeWrongFalsely : Prop := wholeUnlikeRow.holds Tryz.pinned (OpenSpec.ofChange wholeUnlikeWrong)

/-- 'cuirasstop.WholeCounts': WHATEVER THE INPUT: true; the input reads as it did. -/
def wholeCountsSpec : ChangeSpec := { name := "wholeCounts", fn := fun _ => fun
  | [d1, d2] => { results := [.lit (.bool true)], args := [d1, d2] }
  | _ => none }
def wholeCountsRow : OpenClaim := { program := "ytlbgenenpheheaagreat", sum := "1c76f3835f9a6af6e91d748de36262eebff4610940de47beac78387fa56506d4", func := "cuirass/cuirasstop.WholeCounts", spec := "wholeCounts", unfollowed := true, recurses := true, apart := false }
def WholeCountsSaid : Prop := wholeCountsRow.holds Tryz.pinned (OpenSpec.ofChange wholeCountsSpec)

/-- ITS FALSE NEIGHBOUR: 'it returns false'. Refute it at one input. -/
def wholeCountsWrong : ChangeSpec := { name := "wholeCounts", fn := fun _ => fun
  | [d1, d2] => { results := [.lit (.bool false)], args := [d1, d2] }
  | _ => none }
def WholeCountsWrongFalsely : Prop := wholeCountsRow.holds Tryz.pinned (OpenSpec.ofChange wholeCountsWrong)

/-- 'cuirasstop.WholeHeld': WHATEVER THE INPUT: true; the input reads as it did. -/
def wholeHeldSpec : ChangeSpec := { name := "wholeHeld", fn := fun _ => fun
  | [d1, d2, d3, d4] => { results := [.lit (.bool true)], args := [d1, d2, d3, d4] }
  | _ => none }
def wholeHeldRow : OpenClaim := { program := "ytlbgenenpheheaagreat", sum := "1c76f3835f9a6af6e91d748de36262eebff4610940de47beac78387fa56506d4", func := "cuirass/cuirasstop.WholeHeld", spec := "wholeHeld", unfollowed := true, recurses := true, apart := false }
def WholeHeldSaid : Prop := wholeHeldRow.holds Tryz.pinned (OpenSpec.ofChange wholeHeldSpec)

/-- ITS FALSE NEIGHBOUR: 'it returns false'. Refute it at one input. -/
def wholeHeldWrong : ChangeSpec := { name := "wholeHeld", fn := fun _ => fun
  | [d1, d2, d3, d4] => { results := [.lit (.bool false)], args := [d1, d2, d3, d4] }
  | _ => none }
def WholeHeldWrongFalsely : Prop := wholeHeldRow.holds Tryz.pinned (OpenSpec.ofChange wholeHeldWrong)

/-- 'cuirasstop.WholeCures': WHATEVER THE INPUT: true; the input reads as it did. -/
def wholeCuresSpec : ChangeSpec := { name := "wholeCures", fn := fun _ => fun
  | [d1, d2] => { results := [.lit (.bool true)], args := [d1, d2] }
  | _ => none }
def wholeCuresRow : OpenClaim := { program := "ytlbgenenpheheaagreat", sum := "1c76f3835f9a6af6e91d748de36262eebff4610940de47beac78387fa56506d4", func := "cuirass/cuirasstop.WholeCures", spec := "wholeCures", unfollowed := true, recurses := true, apart := false }
def WholeCuresSaid : Prop := wholeCuresRow.holds Tryz.pinned (OpenSpec.ofChange wholeCuresSpec)

/-- ITS FALSE NEIGHBOUR: 'it returns false'. Refute it at one input. -/
def wholeCuresWrong : ChangeSpec := { name := "wholeCures", fn := fun _ => fun
  | [d1, d2] => { results := [.lit (.bool false)], args := [d1, d2] }
  | _ => none }
def WholeCuresWrongFalsely : Prop := wholeCuresRow.holds Tryz.pinned (OpenSpec.ofChange wholeCuresWrong)

/- THE SECOND FORM. 'bulk': how many values and letters a reading holds, each counted each time it is reached (what is shared counts as often as it is met; a slice's spare places count too). A statement '..UptoSaid' is the law's where the arguments, and the package variables that the reading takes, are together of bulk at most 1048576: NARROWER than '..Said'. Prove '..Said' where nothing that the law and all that it calls make is longer than what came in: it says more and counts as full. Else prove '..UptoSaid'. A law counts once. -/
mutual
def uptoBulk {H : Type} : DataW H → Nat
  | .lit (.string bytes) => bytes.length + 1
  | .lit _ => 1
  | .nil => 1
  | .ptr d => uptoBulk d + 1
  | .slice elems spare => uptoBulkAll elems + uptoBulkAll spare + 1
  | .agg parts => uptoBulkAll parts + 1
  | .iface _ d => uptoBulk d + 1
  | .map entries => uptoBulkEntries entries + 1
  | .held _ => 1
def uptoBulkAll {H : Type} : List (DataW H) → Nat
  | [] => 0
  | d :: r => uptoBulk d + uptoBulkAll r
def uptoBulkEntries {H : Type} : List (Lit × DataW H) → Nat
  | [] => 0
  | x :: r => uptoBulkEntry x + uptoBulkEntries r
def uptoBulkEntry {H : Type} : Lit × DataW H → Nat
  | (.string bytes, d) => bytes.length + uptoBulk d + 1
  | (_, d) => uptoBulk d + 1
 end
def uptoSmall : (H : Type) → List (DataW H) → Bool := fun _ ds => decide (uptoBulkAll ds ≤ 1048576)
def OpenSpec.upto (s : _root_.Go.ChangeSpec) : _root_.Go.OpenSpec := { _root_.Go.OpenSpec.ofChange s with cond := some uptoSmall }

/-- 'cuirasstop.WholeTicks', WHERE WHAT IT READS IS OF BULK AT MOST 1048576: true; the input reads as it did. -/
def wholeTicksUptoRow : OpenClaim := { program := "ytlbgenenpheheaagreat", sum := "1c76f3835f9a6af6e91d748de36262eebff4610940de47beac78387fa56506d4", func := "cuirass/cuirasstop.WholeTicks", spec := "wholeTicks", unfollowed := true, recurses := true, apart := false, narrowed := true }
def WholeTicksUptoSaid : Prop := wholeTicksUptoRow.holds Tryz.pinned (OpenSpec.upto wholeTicksSpec)

/-- 'cuirasstop.WholeCured', WHERE WHAT IT READS IS OF BULK AT MOST 1048576: true; the input reads as it did. -/
def wholeCuredUptoRow : OpenClaim := { program := "ytlbgenenpheheaagreat", sum := "1c76f3835f9a6af6e91d748de36262eebff4610940de47beac78387fa56506d4", func := "cuirass/cuirasstop.WholeCured", spec := "wholeCured", unfollowed := true, recurses := true, apart := false, narrowed := true }
def WholeCuredUptoSaid : Prop := wholeCuredUptoRow.holds Tryz.pinned (OpenSpec.upto wholeCuredSpec)

/-- 'cuirasstop.WholeUnlike', WHERE WHAT IT READS IS OF BULK AT MOST 1048576: true; the input reads as it did. -/
def wholeUnlikeUptoRow : OpenClaim := { program := "ytlbgenenpheheaagreat", sum := "1c76f3835f9a6af6e91d748de36262eebff4610940de47beac78387fa56506d4", func := "cuirass/cuirasstop.WholeUnlike", spec := "wholeUnlike", unfollowed := true, recurses := true, apart := false, narrowed := true }
def WholeUnlikeUptoSaid : Prop := wholeUnlikeUptoRow.holds Tryz.pinned (OpenSpec.upto wholeUnlikeSpec)

/-- 'cuirasstop.WholeCounts', WHERE WHAT IT READS IS OF BULK AT MOST 1048576: true; the input reads as it did. -/
def wholeCountsUptoRow : OpenClaim := { program := "ytlbgenenpheheaagreat", sum := "1c76f3835f9a6af6e91d748de36262eebff4610940de47beac78387fa56506d4", func := "cuirass/cuirasstop.WholeCounts", spec := "wholeCounts", unfollowed := true, recurses := true, apart := false, narrowed := true }
def WholeCountsUptoSaid : Prop := wholeCountsUptoRow.holds Tryz.pinned (OpenSpec.upto wholeCountsSpec)

/-- 'cuirasstop.WholeHeld', WHERE WHAT IT READS IS OF BULK AT MOST 1048576: true; the input reads as it did. -/
def wholeHeldUptoRow : OpenClaim := { program := "ytlbgenenpheheaagreat", sum := "1c76f3835f9a6af6e91d748de36262eebff4610940de47beac78387fa56506d4", func := "cuirass/cuirasstop.WholeHeld", spec := "wholeHeld", unfollowed := true, recurses := true, apart := false, narrowed := true }
def WholeHeldUptoSaid : Prop := wholeHeldUptoRow.holds Tryz.pinned (OpenSpec.upto wholeHeldSpec)

/-- 'cuirasstop.WholeCures', WHERE WHAT IT READS IS OF BULK AT MOST 1048576: true; the input reads as it did. -/
def wholeCuresUptoRow : OpenClaim := { program := "ytlbgenenpheheaagreat", sum := "1c76f3835f9a6af6e91d748de36262eebff4610940de47beac78387fa56506d4", func := "cuirass/cuirasstop.WholeCures", spec := "wholeCures", unfollowed := true, recurses := true, apart := false, narrowed := true }
def WholeCuresUptoSaid : Prop := wholeCuresUptoRow.holds Tryz.pinned (OpenSpec.upto wholeCuresSpec)

end Rows
end Go.Proofs.YtlbgenenpheheaaGreat
