/-
  No cell of these rows narrows 'for every input' (looked for: loops, veiled, ifaces, maps, wideKeys, modest, calm, conditions, laid).
  DERIVED. THE GIVEN ROWS OF THIS SEAT. 9 by the template 'for every input the law returns true; each argument reads behind the call as it read before'; 0 by the template 'total and deterministic' (their statements: YtjmcpeobncoinaaTotals.lean).
  GIVEN WITH THE SEED: the statements are not yours to turn. If you find one false, say at which input.
  Laid BY PROGRAM, IN A SANDBOX (cutbox-rows.mjs): the forced cells as the released guide's own fill.sh prints them over the translation c6d3526993c67928… (all of the seat's roots in one cut). By AI agents, Wed Nov 11 2026. No macro, syntax, notation, axiom, sorry.
-/
import Derived.Test.YtjmcpeobncoinaaChecked
import GoSem.Claim
import GoSem.ClaimJoined
import GoSem.ClaimMapViews
import Derived.JoinedTies
import Derived.KernelRfl
namespace Go.Proofs.Ytjmcpeobncoinaa
/- THE CELL 'sum', in the pinned program and in every row, IS THE sha256 OF THE DUMP (.gsa) THAT YtjmcpeobncoinaaProg.lean LOADS. Nothing in Lean hashes anything: it is a label: what it is worth is what the hold of that sum in a sandbox is worth. -/
noncomputable def Try.pinned : Pinned := { name := "ytjmcpeobncoinaa", sum := "c6d3526993c6792801ef7a71c3c18833c7932fb1c3ee1e240270705049ee9c08", checked := Try.checked }
namespace Rows
def none {H : Type} : Left H := { results := [], args := [] }

/-- 'cuirasslaw07.GeomUnlike': WHATEVER THE INPUT: true; the input reads as it did. -/
def geomUnlikeSpec : ChangeSpec := { name := "geomUnlike", fn := fun _ => fun
  | [d1, d2, d3] => { results := [.lit (.bool true)], args := [d1, d2, d3] }
  | _ => none }
def geomUnlikeRow : OpenClaim := { program := "ytjmcpeobncoinaa", sum := "c6d3526993c6792801ef7a71c3c18833c7932fb1c3ee1e240270705049ee9c08", func := "cuirass/cuirasslaw07.GeomUnlike", spec := "geomUnlike", apart := false }
def GeomUnlikeSaid : Prop := geomUnlikeRow.holds Try.pinned (OpenSpec.ofChange geomUnlikeSpec)

/-- ITS FALSE NEIGHBOUR: 'it returns false'. Refute it at one input. -/
def geomUnlikeWrong : ChangeSpec := { name := "geomUnlike", fn := fun _ => fun
  | [d1, d2, d3] => { results := [.lit (.bool false)], args := [d1, d2, d3] }
  | _ => none }
def GeomUnlikeWrongFalsely : Prop := geomUnlikeRow.holds Try.pinned (OpenSpec.ofChange geomUnlikeWrong)

/-- 'cuirasslaw07.GeomPlaces': WHATEVER THE INPUT: true; the input reads as it did. -/
def geomPlacesSpec : ChangeSpec := { name := "geomPlaces", fn := fun _ => fun
  | [d1, d2, d3] => { results := [.lit (.bool true)], args := [d1, d2, d3] }
  | _ => none }
def geomPlacesRow : OpenClaim := { program := "ytjmcpeobncoinaa", sum := "c6d3526993c6792801ef7a71c3c18833c7932fb1c3ee1e240270705049ee9c08", func := "cuirass/cuirasslaw07.GeomPlaces", spec := "geomPlaces", apart := false }
def GeomPlacesSaid : Prop := geomPlacesRow.holds Try.pinned (OpenSpec.ofChange geomPlacesSpec)

/-- ITS FALSE NEIGHBOUR: 'it returns false'. Refute it at one input. -/
def geomPlacesWrong : ChangeSpec := { name := "geomPlaces", fn := fun _ => fun
  | [d1, d2, d3] => { results := [.lit (.bool false)], args := [d1, d2, d3] }
  | _ => none }
def GeomPlacesWrongFalsely : Prop := geomPlacesRow.holds Try.pinned (OpenSpec.ofChange geomPlacesWrong)

/-- 'cuirasslaw07.GeomSizes': WHATEVER THE INPUT: true; the input reads as it did. -/
def geomSizesSpec : ChangeSpec := { name := "geomSizes", fn := fun _ => fun
  | [d1, d2, d3] => { results := [.lit (.bool true)], args := [d1, d2, d3] }
  | _ => none }
def geomSizesRow : OpenClaim := { program := "ytjmcpeobncoinaa", sum := "c6d3526993c6792801ef7a71c3c18833c7932fb1c3ee1e240270705049ee9c08", func := "cuirass/cuirasslaw07.GeomSizes", spec := "geomSizes", apart := false }
def GeomSizesSaid : Prop := geomSizesRow.holds Try.pinned (OpenSpec.ofChange geomSizesSpec)

/-- ITS FALSE NEIGHBOUR: 'it returns false'. Refute it at one input. -/
def geomSizesWrong : ChangeSpec := { name := "geomSizes", fn := fun _ => fun
  | [d1, d2, d3] => { results := [.lit (.bool false)], args := [d1, d2, d3] }
  | _ => none }
def GeomSizesWrongFalsely : Prop := geomSizesRow.holds Try.pinned (OpenSpec.ofChange geomSizesWrong)

/-- 'cuirasslaw08.InterLines': WHATEVER THE INPUT: true; the input reads as it did. -/
def interLinesSpec : ChangeSpec := { name := "interLines", fn := fun _ => fun
  | [d1, d2, d3] => { results := [.lit (.bool true)], args := [d1, d2, d3] }
  | _ => none }
def interLinesRow : OpenClaim := { program := "ytjmcpeobncoinaa", sum := "c6d3526993c6792801ef7a71c3c18833c7932fb1c3ee1e240270705049ee9c08", func := "cuirass/cuirasslaw08.InterLines", spec := "interLines", apart := false }
def InterLinesSaid : Prop := interLinesRow.holds Try.pinned (OpenSpec.ofChange interLinesSpec)

/-- ITS FALSE NEIGHBOUR: 'it returns false'. Refute it at one input. -/
def interLinesWrong : ChangeSpec := { name := "interLines", fn := fun _ => fun
  | [d1, d2, d3] => { results := [.lit (.bool false)], args := [d1, d2, d3] }
  | _ => none }
def InterLinesWrongFalsely : Prop := interLinesRow.holds Try.pinned (OpenSpec.ofChange interLinesWrong)

/-- 'cuirasslaw08.InterUnlike': WHATEVER THE INPUT: true; the input reads as it did. -/
def interUnlikeSpec : ChangeSpec := { name := "interUnlike", fn := fun _ => fun
  | [d1, d2, d3, d4] => { results := [.lit (.bool true)], args := [d1, d2, d3, d4] }
  | _ => none }
def interUnlikeRow : OpenClaim := { program := "ytjmcpeobncoinaa", sum := "c6d3526993c6792801ef7a71c3c18833c7932fb1c3ee1e240270705049ee9c08", func := "cuirass/cuirasslaw08.InterUnlike", spec := "interUnlike", apart := false }
def InterUnlikeSaid : Prop := interUnlikeRow.holds Try.pinned (OpenSpec.ofChange interUnlikeSpec)

/-- ITS FALSE NEIGHBOUR: 'it returns false'. Refute it at one input. -/
def interUnlikeWrong : ChangeSpec := { name := "interUnlike", fn := fun _ => fun
  | [d1, d2, d3, d4] => { results := [.lit (.bool false)], args := [d1, d2, d3, d4] }
  | _ => none }
def InterUnlikeWrongFalsely : Prop := interUnlikeRow.holds Try.pinned (OpenSpec.ofChange interUnlikeWrong)

/-- 'cuirasslaw08.InterSpreads': WHATEVER THE INPUT: true; the input reads as it did. -/
def interSpreadsSpec : ChangeSpec := { name := "interSpreads", fn := fun _ => fun
  | [d1, d2, d3] => { results := [.lit (.bool true)], args := [d1, d2, d3] }
  | _ => none }
def interSpreadsRow : OpenClaim := { program := "ytjmcpeobncoinaa", sum := "c6d3526993c6792801ef7a71c3c18833c7932fb1c3ee1e240270705049ee9c08", func := "cuirass/cuirasslaw08.InterSpreads", spec := "interSpreads", apart := false }
def InterSpreadsSaid : Prop := interSpreadsRow.holds Try.pinned (OpenSpec.ofChange interSpreadsSpec)

/-- ITS FALSE NEIGHBOUR: 'it returns false'. Refute it at one input. -/
def interSpreadsWrong : ChangeSpec := { name := "interSpreads", fn := fun _ => fun
  | [d1, d2, d3] => { results := [.lit (.bool false)], args := [d1, d2, d3] }
  | _ => none }
def InterSpreadsWrongFalsely : Prop := interSpreadsRow.holds Try.pinned (OpenSpec.ofChange interSpreadsWrong)

/-- 'cuirasslaw07.GeomWalks': WHATEVER THE INPUT: true; the input reads as it did. -/
def geomWalksSpec : ChangeSpec := { name := "geomWalks", fn := fun _ => fun
  | [d1, d2, d3, d4] => { results := [.lit (.bool true)], args := [d1, d2, d3, d4] }
  | _ => none }
def geomWalksRow : OpenClaim := { program := "ytjmcpeobncoinaa", sum := "c6d3526993c6792801ef7a71c3c18833c7932fb1c3ee1e240270705049ee9c08", func := "cuirass/cuirasslaw07.GeomWalks", spec := "geomWalks", unfollowed := true, recurses := true, apart := false }
def GeomWalksSaid : Prop := geomWalksRow.holds Try.pinned (OpenSpec.ofChange geomWalksSpec)

/-- ITS FALSE NEIGHBOUR: 'it returns false'. Refute it at one input. -/
def geomWalksWrong : ChangeSpec := { name := "geomWalks", fn := fun _ => fun
  | [d1, d2, d3, d4] => { results := [.lit (.bool false)], args := [d1, d2, d3, d4] }
  | _ => none }
def GeomWalksWrongFalsely : Prop := geomWalksRow.holds Try.pinned (OpenSpec.ofChange geomWalksWrong)

/-- 'cuirasslaw07.GeomParts': WHATEVER THE INPUT: true; the input reads as it did. -/
def geomPartsSpec : ChangeSpec := { name := "geomParts", fn := fun _ => fun
  | [d] => { results := [.lit (.bool true)], args := [d] }
  | _ => none }
def geomPartsRow : OpenClaim := { program := "ytjmcpeobncoinaa", sum := "c6d3526993c6792801ef7a71c3c18833c7932fb1c3ee1e240270705049ee9c08", func := "cuirass/cuirasslaw07.GeomParts", spec := "geomParts", unfollowed := true, recurses := true, apart := false }
def GeomPartsSaid : Prop := geomPartsRow.holds Try.pinned (OpenSpec.ofChange geomPartsSpec)

/-- ITS FALSE NEIGHBOUR: 'it returns false'. Refute it at one input. -/
def geomPartsWrong : ChangeSpec := { name := "geomParts", fn := fun _ => fun
  | [d] => { results := [.lit (.bool false)], args := [d] }
  | _ => none }
def GeomPartsWrongFalsely : Prop := geomPartsRow.holds Try.pinned (OpenSpec.ofChange geomPartsWrong)

/-- 'cuirasslaw08.InterPages': WHATEVER THE INPUT: true; the input reads as it did. -/
def interPagesSpec : ChangeSpec := { name := "interPages", fn := fun _ => fun
  | [d1, d2, d3, d4] => { results := [.lit (.bool true)], args := [d1, d2, d3, d4] }
  | _ => none }
def interPagesRow : OpenClaim := { program := "ytjmcpeobncoinaa", sum := "c6d3526993c6792801ef7a71c3c18833c7932fb1c3ee1e240270705049ee9c08", func := "cuirass/cuirasslaw08.InterPages", spec := "interPages", apart := false }
def InterPagesSaid : Prop := interPagesRow.holds Try.pinned (OpenSpec.ofChange interPagesSpec)

/-- ITS FALSE NEIGHBOUR: 'it returns false'. Refute it at one input. -/
def interPagesWrong : ChangeSpec := { name := "interPages", fn := fun _ => fun
  | [d1, d2, d3, d4] => { results := [.lit (.bool false)], args := [d1, d2, d3, d4] }
  | _ => none }
def InterPagesWrongFalsely : Prop := interPagesRow.holds Try.pinned (OpenSpec.ofChange interPagesWrong)

/- THE SECOND FORM. 'bulk': how many values and letters a reading holds, each counted each time it is reached (what is shared counts as often as it is met; a slice's spare places count too). A statement '..UptoSaid' is the law's where the arguments, and the package variables that the reading takes, are together of bulk at most 1048576: NARROWER than '..Said'. Prove '..Said' where nothing that the law and all that it calls make is longer than what came in: it says more and counts as full. Else prove '..UptoSaid'. A law counts once. -/
mutual
def uptoBulk {H : Type} : DataW H → Nat
  | .lit (.string bytes) => bytes.length + 1
  | .lit _ => 1
  | .nil => 1
  | .ptr d => uptoBulk d + 1
  | .slice elems spare => uptoBulkAll elems + uptoBulkAll spare + 1
  | .agg parts => uptoBulkAll parts + 1
  | .iface _ d => uptoBulk d + 1
  | .map entries => uptoBulkEntries entries + 1
  | .held _ => 1
def uptoBulkAll {H : Type} : List (DataW H) → Nat
  | [] => 0
  | d :: r => uptoBulk d + uptoBulkAll r
def uptoBulkEntries {H : Type} : List (Lit × DataW H) → Nat
  | [] => 0
  | x :: r => uptoBulkEntry x + uptoBulkEntries r
def uptoBulkEntry {H : Type} : Lit × DataW H → Nat
  | (.string bytes, d) => bytes.length + uptoBulk d + 1
  | (_, d) => uptoBulk d + 1
 end
def uptoSmall : (H : Type) → List (DataW H) → Bool := fun _ ds => decide (uptoBulkAll ds ≤ 1048576)
def OpenSpec.upto (s : _root_.Go.ChangeSpec) : _root_.Go.OpenSpec := { _root_.Go.OpenSpec.ofChange s with cond := some uptoSmall }

/-- 'cuirasslaw07.GeomUnlike', WHERE WHAT IT READS IS OF BULK AT MOST 1048576: true; the input reads as it did. -/
def geomUnlikeUptoRow : OpenClaim := { program := "ytjmcpeobncoinaa", sum := "c6d3526993c6792801ef7a71c3c18833c7932fb1c3ee1e240270705049ee9c08", func := "cuirass/cuirasslaw07.GeomUnlike", spec := "geomUnlike", apart := false, narrowed := true }
def GeomUnlikeUptoSaid : Prop := geomUnlikeUptoRow.holds Try.pinned (OpenSpec.upto geomUnlikeSpec)

/-- 'cuirasslaw07.GeomPlaces', WHERE WHAT IT READS IS OF BULK AT MOST 1048576: true; the input reads as it did. -/
def geomPlacesUptoRow : OpenClaim := { program := "ytjmcpeobncoinaa", sum := "c6d3526993c6792801ef7a71c3c18833c7932fb1c3ee1e240270705049ee9c08", func := "cuirass/cuirasslaw07.GeomPlaces", spec := "geomPlaces", apart := false, narrowed := true }
def GeomPlacesUptoSaid : Prop := geomPlacesUptoRow.holds Try.pinned (OpenSpec.upto geomPlacesSpec)

/-- 'cuirasslaw07.GeomSizes', WHERE WHAT IT READS IS OF BULK AT MOST 1048576: true; the input reads as it did. -/
def geomSizesUptoRow : OpenClaim := { program := "ytjmcpeobncoinaa", sum := "c6d3526993c6792801ef7a71c3c18833c7932fb1c3ee1e240270705049ee9c08", func := "cuirass/cuirasslaw07.GeomSizes", spec := "geomSizes", apart := false, narrowed := true }
def GeomSizesUptoSaid : Prop := geomSizesUptoRow.holds Try.pinned (OpenSpec.upto geomSizesSpec)

/-- 'cuirasslaw08.InterLines', WHERE WHAT IT READS IS OF BULK AT MOST 1048576: true; the input reads as it did. -/
def interLinesUptoRow : OpenClaim := { program := "ytjmcpeobncoinaa", sum := "c6d3526993c6792801ef7a71c3c18833c7932fb1c3ee1e240270705049ee9c08", func := "cuirass/cuirasslaw08.InterLines", spec := "interLines", apart := false, narrowed := true }
def InterLinesUptoSaid : Prop := interLinesUptoRow.holds Try.pinned (OpenSpec.upto interLinesSpec)

/-- 'cuirasslaw08.InterUnlike', WHERE WHAT IT READS IS OF BULK AT MOST 1048576: true; the input reads as it did. -/
def interUnlikeUptoRow : OpenClaim := { program := "ytjmcpeobncoinaa", sum := "c6d3526993c6792801ef7a71c3c18833c7932fb1c3ee1e240270705049ee9c08", func := "cuirass/cuirasslaw08.InterUnlike", spec := "interUnlike", apart := false, narrowed := true }
def InterUnlikeUptoSaid : Prop := interUnlikeUptoRow.holds Try.pinned (OpenSpec.upto interUnlikeSpec)

/-- 'cuirasslaw08.InterSpreads', WHERE WHAT IT READS IS OF BULK AT MOST 1048576: true; the input reads as it did. -/
def interSpreadsUptoRow : OpenClaim := { program := "ytjmcpeobncoinaa", sum := "c6d3526993c6792801ef7a71c3c18833c7932fb1c3ee1e240270705049ee9c08", func := "cuirass/cuirasslaw08.InterSpreads", spec := "interSpreads", apart := false, narrowed := true }
def InterSpreadsUptoSaid : Prop := interSpreadsUptoRow.holds Try.pinned (OpenSpec.upto interSpreadsSpec)

/-- 'cuirasslaw07.GeomWalks', WHERE WHAT IT READS IS OF BULK AT MOST 1048576: true; the input reads as it did. -/
def geomWalksUptoRow : OpenClaim := { program := "ytjmcpeobncoinaa", sum := "c6d3526993c6792801ef7a71c3c18833c7932fb1c3ee1e240270705049ee9c08", func := "cuirass/cuirasslaw07.GeomWalks", spec := "geomWalks", unfollowed := true, recurses := true, apart := false, narrowed := true }
def GeomWalksUptoSaid : Prop := geomWalksUptoRow.holds Try.pinned (OpenSpec.upto geomWalksSpec)

/-- 'cuirasslaw07.GeomParts', WHERE WHAT IT READS IS OF BULK AT MOST 1048576: true; the input reads as it did. -/
def geomPartsUptoRow : OpenClaim := { program := "ytjmcpeobncoinaa", sum := "c6d3526993c6792801ef7a71c3c18833c7932fb1c3ee1e240270705049ee9c08", func := "cuirass/cuirasslaw07.GeomParts", spec := "geomParts", unfollowed := true, recurses := true, apart := false, narrowed := true }
def GeomPartsUptoSaid : Prop := geomPartsUptoRow.holds Try.pinned (OpenSpec.upto geomPartsSpec)

/-- 'cuirasslaw08.InterPages', WHERE WHAT IT READS IS OF BULK AT MOST 1048576: true; the input reads as it did. -/
def interPagesUptoRow : OpenClaim := { program := "ytjmcpeobncoinaa", sum := "c6d3526993c6792801ef7a71c3c18833c7932fb1c3ee1e240270705049ee9c08", func := "cuirass/cuirasslaw08.InterPages", spec := "interPages", apart := false, narrowed := true }
def InterPagesUptoSaid : Prop := interPagesUptoRow.holds Try.pinned (OpenSpec.upto interPagesSpec)

end Rows
end Go.Proofs.Ytjmcpeobncoinaa
