/- the steps of a play, opened: a slice of pairs of numbers. -/
import Derived.Test.YtiecdlfdfphflaaSl
import Derived.Deep.SlicePairs
namespace Go.Proofs.Ytiecdlfdfphflaa
set_option linter.unusedVariables false
open Go.ChangeShapes Go.WideShapes Go.ChangeAt Go.RowKit Go.Deep

theorem add_flat (b off i : Nat) : (⟨b, off, none⟩ : Addr).add i = ⟨b, off + i, none⟩ := by
  unfold Addr.add
  split
  · rename_i h; subst h; rfl
  · rfl
section
variable {H : Type} {enc : TypeId × Value → H} {w : World} {base : Nat} {spare : Nat → Bool} {held : Bool}
theorem open_ops {r : Reach} {b0 : Nat} {v : Value} {d : DataW H} {p : List MemPlace} (hv : Value.okWide Try.prog w r b0 42 v) (h : DataW.Trod enc Try.prog w base spare held 42 v d p) :
    ∃ (a : Option Addr) (len cap : Nat) (f g : Nat → Int), v = .slice a len cap ∧ (len = 0 ∨ ∃ b off, a = some ⟨b, off, none⟩ ∧ b < w.heap.size ∧ ∀ i, i < len → w.cell? ⟨b, off + i * 2, none⟩ = some (.int .i64 (f i)) ∧ w.cell? ⟨b, off + (i * 2 + 1), none⟩ = some (.int .i64 (g i))) := by
  obtain ⟨a0, len, cap, rfl⟩ := okWide_slice Try.underlying42 hv
  obtain ⟨fuel, hf⟩ := h
  rcases open_slice_pairs Try.underlying42 Try.underlying44 (by kernel_rfl) rfl rfl (by kernel_rfl) (by kernel_rfl) hf with ⟨hcs, _⟩ | ⟨a, len', cap', m, n, V0, V1, D0, D1, P0, P1, hcs, _, hl, hm, hmm, _, hi⟩
  · simp [Value.cells] at hcs
    obtain ⟨rfl, rfl, rfl⟩ := hcs
    exact ⟨none, 0, 0, fun _ => 0, fun _ => 0, rfl, .inl rfl⟩
  · simp [Value.cells] at hcs
    obtain ⟨rfl, rfl, rfl⟩ := hcs
    have hle : len ≤ m := by rw [hmm]; split <;> omega
    have key : ∀ i, i < len → ∃ x y : Int, w.cell? (a.add (i * 2)) = some (.int .i64 x) ∧ w.cell? (a.add (i * 2 + 1)) = some (.int .i64 y) := fun i hil => by
      obtain ⟨h0, h1, t0, t1⟩ := hi i (by omega)
      obtain ⟨x, hx, _⟩ := DataW.trod_int Try.underlying3 t0
      obtain ⟨y, hy, _⟩ := DataW.trod_int Try.underlying3 t1
      injection hx with hx
      injection hy with hy
      exact ⟨x, y, by rw [h0, hx], by rw [h1, hy]⟩
    refine ⟨some a, len, cap, fun i => if h : i < len then (key i h).choose else 0, fun i => if h : i < len then (key i h).choose_spec.choose else 0, rfl, ?_⟩
    by_cases h0 : len = 0
    · exact .inl h0
    · right
      obtain ⟨b, off, spot⟩ := a
      obtain ⟨x0, y0, hx0, _⟩ := key 0 (by omega)
      have hspot : spot = none := by simpa [Addr.add] using World.cell?_spot hx0
      subst hspot
      refine ⟨b, off, rfl, cell_lt (a := ⟨b, off, none⟩) (by simpa [Addr.add] using hx0), fun i hil => ?_⟩
      simp only [dif_pos hil]
      have hs := (key i hil).choose_spec.choose_spec
      exact ⟨(congrArg w.cell? (add_flat b off _)).symm.trans hs.1, (congrArg w.cell? (add_flat b off _)).symm.trans hs.2⟩
end
end Go.Proofs.Ytiecdlfdfphflaa
