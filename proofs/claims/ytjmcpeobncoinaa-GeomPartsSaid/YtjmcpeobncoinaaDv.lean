/- a function that ranges over functions within a loop: the marks for the rounds' deferred calls, however many. No function of the program in sight. -/
import Derived.Test.YtjmcpeobncoinaaOw
import Derived.Test.YtjmcpeobncoinaaRf3
namespace Go.Proofs.Ytjmcpeobncoinaa
set_option linter.unusedVariables false
open Go.RowKit
variable {P : Program}

/-- a mark -/
def mk1 (D : Nat) : Deferred := { target := .collected D, args := #[] }
/-- marks: unlike blocks from 'lo' on, without a call -/
def Dfs (lo : Nat) (W : World) : List Deferred → Prop
  | [] => True
  | d :: ds => ∃ D, d = mk1 D ∧ lo ≤ D ∧ W.heap[D]? = some (.deferred (some [])) ∧ (∀ D', mk1 D' ∈ ds → D' ≠ D) ∧ Dfs lo W ds

theorem Dfs.same {lo : Nat} {W W' : World} : ∀ {ds : List Deferred}, Dfs lo W ds → (∀ D, lo ≤ D → mk1 D ∈ ds → W.heap[D]? = some (.deferred (some [])) → W'.heap[D]? = some (.deferred (some []))) → Dfs lo W' ds
  | [], _, _ => trivial
  | d :: ds, h, hs => by
    obtain ⟨D, rfl, h1, h2, h3, h4⟩ := h
    exact ⟨D, rfl, h1, hs D h1 (by simp) h2, h3, h4.same (fun D' g1 g2 g3 => hs D' g1 (by simp [g2]) g3)⟩
theorem Dfs.chg {lo : Nat} {cw : Nat → Prop} {W W' : World} {ds : List Deferred} (h : Dfs lo W ds) (hc : Chg cw W W') (h0 : ∀ b, cw b → b < lo ∨ W.heap.size ≤ b) : Dfs lo W' ds :=
  h.same (fun D g1 _ g3 => chg_at hc g3 (fun hh => by rcases h0 D hh with h | h; omega; have := at_lt g3; omega))
theorem Dfs.lt {lo : Nat} {W : World} : ∀ {ds : List Deferred}, Dfs lo W ds → ∀ D, mk1 D ∈ ds → D < W.heap.size
  | [], _, D, h => by simp at h
  | d :: ds, h, D, hm => by
    obtain ⟨D', rfl, h1, h2, h3, h4⟩ := h
    rcases List.mem_cons.1 hm with e | e
    · have : D = D' := by unfold mk1 at e; injection e with e1 _; injection e1
      subst this; exact at_lt h2
    · exact h4.lt D e
theorem Dfs.cons {lo D : Nat} {w W : World} {ds : List Deferred} (h0 : Dfs lo w ds) (h : Dfs lo W ds) (hD : w.heap.size ≤ D) (hlo : lo ≤ D) (hh : W.heap[D]? = some (.deferred (some []))) : Dfs lo W (mk1 D :: ds) :=
  ⟨D, rfl, hlo, hh, fun D' hm e => by have := h0.lt D' hm; omega, h⟩

/-- at the return all marks are taken in -/
theorem leaves_dfs {F : Fence} {n : Nat} {fn : Func} {tmps : Array Value} {R : Ending → World → Prop} {lo : Nat} : ∀ (ds : List Deferred) (W : World), Dfs lo W ds →
    (∀ W' : World, Chg (fun b => lo ≤ b) W W' → (∀ (b : Nat) (o : Obj), W.heap[b]? = some o → (∀ s, o ≠ Obj.deferred s) → W'.heap[b]? = some o) → ∃ v, (results fn tmps).run P W' = .ok v W' ∧ R (.returned v) W') → LeavesInM F n P fn tmps R ds .returning W
  | [], W, _, hr => hr W (Chg.refl _ _) (fun _ _ h _ => h)
  | d :: ds, W, h, hr => by
    obtain ⟨D, rfl, h1, h2, h3, h4⟩ := h
    refine ⟨by simp, .inl ⟨_, _, rfl, run_takeDeferred h2, ?_⟩⟩
    refine leaves_dfs ds _ (h4.same (fun D' g1 g2 g3 => by rw [World.putObj_heap_other (h3 D' g2)]; exact g3)) (fun W' hc hk => hr W' ?_ ?_)
    · exact Chg.trans (Chg.putObj (cw := fun b => lo ≤ b) (Chg.refl _ _) (.inl h1) _) hc
    · intro b o hb ho
      refine hk b o ?_ ho
      have : b ≠ D := fun e => by subst e; rw [hb] at h2; cases h2; exact ho _ rfl
      rw [World.putObj_heap_other this]; exact hb
end Go.Proofs.Ytjmcpeobncoinaa
