/- A region that draws its order, whose calls may make memory: one walk in the order of the text, in the class of the worlds that keep all that lay at its start. No program in sight. -/
import Derived.WalkKit
import Derived.Deep.QuietTactic
import Derived.BigQuiet
namespace Go.Proofs.Ytjmcpeobncoinaa
set_option linter.unusedVariables false
open Go.RowKit

/-- whatever lay in w lies as it lay -/
def Keeps (w w' : World) : Prop := Below w.heap.size w w'
theorem Keeps.next {w w1 w2 : World} (h : Keeps w w1) (h2 : Below w1.heap.size w1 w2) : Keeps w w2 := Below.trans h (h2.mono h.size)
theorem Keeps.cells {W w1 : World} (hb : Keeps W w1) : (∀ b o, b < W.heap.size → w1.cell? ⟨b, o, none⟩ = W.cell? ⟨b, o, none⟩) ∧ (∀ b o, b < W.heap.size → w1.frozen? ⟨b, o, none⟩ = W.frozen? ⟨b, o, none⟩) :=
  ⟨fun b o h => Below.cell (p := ⟨b, o, none⟩) hb h, fun b o h => Below.frozen (p := ⟨b, o, none⟩) hb h⟩

/-- a contract of a call, in the class -/
theorem Keeps.call {P : Program} {f : FuncId} {args : Array Value} {w w' : World} {v : Value} (hw : Keeps w w') (h : Calls P f args w' fun e w'' => e = .returned v ∧ Below w'.heap.size w' w'') :
    Calls P f args w' fun e w'' => e = .returned v ∧ Keeps w w'' := h.mono fun _ _ ⟨he, hb⟩ => ⟨he, hw.next hb⟩
/-- .. of a callee that leaves the world as it is -/
theorem Keeps.same {P : Program} {f : FuncId} {args : Array Value} {w w' : World} {v : Value} (hw : Keeps w w') (h : Calls P f args w' fun e w'' => e = .returned v ∧ w' = w'') :
    Calls P f args w' fun e w'' => e = .returned v ∧ Keeps w w'' := h.mono fun _ _ ⟨he, hb⟩ => ⟨he, hb ▸ hw⟩

theorem wp_region_keeps {P : Program} {id : Nat} {Q : Exit → Act → World → Prop} {a : Act} {w : World} {l : List Oper} (hm : P.follows .mixedOrders = true) (hB : Region.lexB .any l.toArray = true)
    (h : wpQuiet P l.toArray (Keeps w) (fun a' => ∀ w', Keeps w w' → Q .normal a' w') l a) : (Code.region id l.toArray true).wp P Q a w :=
  wp_region_quiet (C := Keeps w) hm hB (show Below w.heap.size w _ from (Below.refl _ w).drew) (by simpa using h)

end Go.Proofs.Ytjmcpeobncoinaa
