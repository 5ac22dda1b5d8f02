/- slices of numbers that the program made itself; blocks that stay as they were. No function of the program in sight. -/
import Derived.Test.YtjmcpeobncoinaaRf
import Derived.Test.YtjmcpeobncoinaaQb
import Derived.Deep.OwnRows
import Derived.Deep.AppendLies
namespace Go.Proofs.Ytjmcpeobncoinaa
set_option linter.unusedVariables false
open Go.RowKit

theorem hao (w : World) (o : Obj) (i : Nat) (h : i < w.heap.size) : (w.alloc o).heap[i]? = w.heap[i]? := by
  show (w.heap.push o)[i]? = _
  rw [Array.getElem?_push, if_neg (by omega)]
theorem han (w : World) (o : Obj) (n : Nat) (h : n = w.heap.size) : (w.alloc o).heap[n]? = some o := by
  subst h; show (w.heap.push o)[w.heap.size]? = _; simp
theorem old_at {w w' : World} {g : Nat} {o : Obj} (h : Keeps w w') (hg : w.heap[g]? = some o) : w'.heap[g]? = some o :=
  (RowKit.Below.block h g (Array.getElem?_eq_some_iff.1 hg).1).trans hg
theorem at_lt {w : World} {g : Nat} {o : Obj} (hg : w.heap[g]? = some o) : g < w.heap.size := (Array.getElem?_eq_some_iff.1 hg).1
theorem chg_at {cw : Nat → Prop} {w w' : World} {g : Nat} {o : Obj} (hc : Chg cw w w') (hg : w.heap[g]? = some o) (hn : ¬ cw g) : w'.heap[g]? = some o := (hc.block g (at_lt hg) hn).trans hg

/-- a slice that the program made itself, as a list of numbers -/
def SlI (W : World) (base : Nat) (v : Value) (L : List Int) : Prop := W.ownsRow base 3 1 v L.length (L.map (Value.int .i64))
theorem SlI.nil (W : World) (base : Nat) : SlI W base (.slice none 0 0) [] := World.ownsRow_nil _ _ _ _
theorem SlI.cases {W : World} {base : Nat} {v : Value} {L : List Int} (h : SlI W base v L) : (v = .slice none 0 0 ∧ L = []) ∨ ∃ g cap, v = .slice (some ⟨g, 0, none⟩) L.length cap ∧ base ≤ g ∧ g < W.heap.size ∧ L.length ≤ cap ∧ cap ≤ maxLen ∧ ∀ i, i < L.length → W.cell? ⟨g, i, none⟩ = some (.int .i64 (L.getD i 0)) := by
  obtain ⟨h1, ⟨rfl, h2⟩ | ⟨g, cap, cur, rfl, hg, hh, hn, hm, hs, ht⟩⟩ := id h
  · exact .inl ⟨rfl, List.eq_nil_of_length_eq_zero h2⟩
  · refine .inr ⟨g, cap, rfl, hg, (Array.getElem?_eq_some_iff.1 hh).1, hn, hm, fun i hi => ?_⟩
    rw [h.cellAt i (by omega)]
    simp [List.getD, hi]
theorem SlI.mono {W : World} {base base' : Nat} {v : Value} {L : List Int} (h : SlI W base v L) (hb : base' ≤ base) : SlI W base' v L := by
  obtain ⟨h1, ⟨rfl, h2⟩ | ⟨g, cap, cur, rfl, hg, rest⟩⟩ := h
  · exact ⟨h1, .inl ⟨rfl, h2⟩⟩
  · exact ⟨h1, .inr ⟨g, cap, cur, rfl, by omega, rest⟩⟩
theorem SlI.chg {W W' : World} {base : Nat} {v : Value} {L : List Int} {cw : Nat → Prop} (h : SlI W base v L) (hc : Chg cw W W') (h0 : ∀ g, cw g → g < base) : SlI W' base v L := by
  obtain ⟨h1, ⟨rfl, h2⟩ | ⟨g, cap, cur, rfl, hg, hh, rest⟩⟩ := h
  · exact ⟨h1, .inl ⟨rfl, h2⟩⟩
  · exact ⟨h1, .inr ⟨g, cap, cur, rfl, hg, (hc.block g (Array.getElem?_eq_some_iff.1 hh).1 (fun h => by have := h0 _ h; omega)).trans hh, rest⟩⟩
theorem SlI.chg2 {W W' : World} {base : Nat} {v : Value} {L : List Int} {cw : Nat → Prop} (h : SlI W base v L) (hc : Chg cw W W') (h0 : ∀ g, v.ownBlock = some g → ¬ cw g) : SlI W' base v L := by
  obtain ⟨h1, ⟨rfl, h2⟩ | ⟨g, cap, cur, rfl, hg, hh, rest⟩⟩ := h
  · exact ⟨h1, .inl ⟨rfl, h2⟩⟩
  · exact ⟨h1, .inr ⟨g, cap, cur, rfl, hg, (hc.block g (Array.getElem?_eq_some_iff.1 hh).1 (h0 g rfl)).trans hh, rest⟩⟩
theorem SlI.keeps {W W' : World} {base : Nat} {v : Value} {L : List Int} (h : SlI W base v L) (hk : Keeps W W') : SlI W' base v L := h.chg (Chg.of_below hk (fun _ => False)) (fun _ h => h.elim)
theorem SlI.slice {W : World} {base : Nat} {v : Value} {L : List Int} (h : SlI W base v L) : ∃ a cap, v = .slice a L.length cap := by
  rcases h.cases with ⟨rfl, rfl⟩ | ⟨g, cap, rfl, _⟩
  · exact ⟨_, _, rfl⟩
  · exact ⟨_, _, rfl⟩
theorem SlI.own {W : World} {base : Nat} {v : Value} {L : List Int} (h : SlI W base v L) : ∀ k, v.ownBlock = some k → base ≤ k ∧ k < W.heap.size := fun k hk => World.ownsRow.lt h k hk
/-- behind an append of one number -/
theorem SlI.push {W : World} {base : Nat} {v : Value} {L : List Int} {x : Int} (h : W.ownsRow base 3 1 v (L.length + 1) (L.map (Value.int .i64) ++ [.int .i64 x])) : SlI W base v (L ++ [x]) := by
  unfold SlI
  rw [List.length_append, List.map_append]
  exact h
theorem grown_at {W W' : World} {row : Option Nat} {g : Nat} {o : Obj} (hg : W.grownBy W' row) (h : W.heap[g]? = some o) (hr : some g ≠ row) : W'.heap[g]? = some o := (hg.block g (at_lt h) hr).trans h
end Go.Proofs.Ytjmcpeobncoinaa
