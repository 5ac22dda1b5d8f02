/- a slice that came in, opened: what stands at its places. No function of the program in sight. -/
import Derived.Test.YtiecdlfdfphflaaRows
import Derived.WalkKit
import Derived.ProofKit
import Derived.OpenShut
import Derived.ChangeOld
import Derived.Below
import Derived.Deep.Slices
namespace Go.Proofs.Ytiecdlfdfphflaa
set_option linter.unusedVariables false
open Go.ChangeShapes Go.WideShapes Go.ChangeAt Go.RowKit Go.Deep

theorem own : ownKnob Try.prog.godebug = none := by kernel_rfl
theorem laidOut : laidOutB Try.prog = true := by kernel_rfl

/-- a whole number of Go's int -/
def In64 (n : Int) : Prop := -9223372036854775808 ≤ n ∧ n ≤ 9223372036854775807
theorem in64_of {n : Int} (h : (Lit.int .i64 n).wf = true) : In64 n := by
  have := bounds_i64 h
  unfold In64
  omega

theorem cell_lt {w : World} {a : Addr} {v : Value} (h : w.cell? a = some v) : a.block < w.heap.size := by
  unfold World.cell? at h
  cases ho : w.heap[a.block]? with
  | none => simp [ho] at h
  | some o => exact (Array.getElem?_eq_some_iff.1 ho).1

section
variable {H : Type} {enc : TypeId × Value → H} {P : Program} {w : World} {base : Nat} {spare : Nat → Bool} {held : Bool}
theorem open_slarg {α : Type} (E : α → Value) (z : α) {t e : TypeId} {r : Reach} {b0 : Nat} {v : Value} {d : DataW H} {p : List MemPlace} (ht : P.underlying t = some (.slice e)) (hC : P.cellsOf e = 1)
    (helem : ∀ n cs x, DataW.trod enc P w base spare held n e cs = some x → ∃ y : α, cs = [E y])
    (hv : Value.okWide P w r b0 t v) (h : DataW.Trod enc P w base spare held t v d p) :
    ∃ (a : Option Addr) (len cap : Nat) (f : Nat → α), v = .slice a len cap ∧ len ≤ cap ∧ len ≤ maxLen ∧ (len = 0 ∨ ∃ b off, a = some ⟨b, off, none⟩ ∧ b < w.heap.size ∧ ∀ i, i < len → w.cell? ⟨b, off + i, none⟩ = some (E (f i))) := by
  obtain ⟨a0, len, cap, rfl⟩ := okWide_slice ht hv
  obtain ⟨fuel, hf⟩ := h
  rcases open_slice ht hf with ⟨hcs, _⟩ | ⟨a, len', cap', m, n, D, Pl, hcs, _, hl, hm, hmm, _, hi⟩
  · simp [Value.cells] at hcs
    obtain ⟨rfl, rfl, rfl⟩ := hcs
    exact ⟨none, 0, 0, fun _ => z, rfl, Nat.le_refl _, Nat.zero_le _, .inl rfl⟩
  · simp [Value.cells] at hcs
    obtain ⟨rfl, rfl, rfl⟩ := hcs
    have hle : len ≤ m := by rw [hmm]; split <;> omega
    have key : ∀ i, i < len → ∃ y : α, w.cell? (a.add i) = some (E y) := fun i hil => by
      obtain ⟨cs', hc, ht'⟩ := hi i (by omega)
      rw [hC, Nat.mul_one] at hc
      obtain ⟨_, hcl, hat⟩ := World.cells?_some hc
      obtain ⟨y, rfl⟩ := helem _ _ _ ht'
      have h0 := hat 0 (by omega)
      refine ⟨y, ?_⟩
      simpa [Addr.add] using h0
    refine ⟨some a, len, cap, fun i => if h : i < len then (key i h).choose else z, rfl, hl, Nat.le_trans hl hm, ?_⟩
    by_cases h0 : len = 0
    · exact .inl h0
    · right
      obtain ⟨b, off, spot⟩ := a
      obtain ⟨y0, hy0⟩ := key 0 (by omega)
      have hspot : spot = none := by simpa [Addr.add] using World.cell?_spot hy0
      subst hspot
      refine ⟨b, off, rfl, cell_lt hy0, fun i hil => ?_⟩
      show w.cell? ⟨b, off + i, none⟩ = some (E (if h : i < len then (key i h).choose else z))
      rw [dif_pos hil]
      have hs := (key i hil).choose_spec
      have ea : (⟨b, off, none⟩ : Addr).add i = ⟨b, off + i, none⟩ := by
        unfold Addr.add
        split
        · rename_i h; subst h; rfl
        · rfl
      exact (congrArg w.cell? ea).symm.trans hs
end

section
variable {H : Type} {enc : TypeId × Value → H} {P : Program} {w : World} {base : Nat} {spare : Nat → Bool} {held : Bool}
theorem elem_int {e : TypeId} (he : P.underlying e = some (.int .i64)) (n : Nat) (cs : List Value) (x : DataW H × List MemPlace) (h : DataW.trod enc P w base spare held n e cs = some x) : ∃ y : { n : Int // In64 n }, cs = [.int .i64 y.1] := by
  obtain ⟨y, hy, _, hw⟩ := DataW.trod_int he h
  exact ⟨⟨y, in64_of hw⟩, hy⟩
theorem elem_bool {e : TypeId} (he : P.underlying e = some .bool) (n : Nat) (cs : List Value) (x : DataW H × List MemPlace) (h : DataW.trod enc P w base spare held n e cs = some x) : ∃ y : Bool, cs = [.bool y] := by
  obtain ⟨y, hy, _⟩ := DataW.trod_bool he h
  exact ⟨y, hy⟩
theorem elem_string {e : TypeId} (he : P.underlying e = some .string) (n : Nat) (cs : List Value) (x : DataW H × List MemPlace) (h : DataW.trod enc P w base spare held n e cs = some x) : ∃ y : ByteArray, cs = [.string y] := by
  obtain ⟨y, hy, _⟩ := DataW.trod_string he h
  exact ⟨y, hy⟩
theorem elem_u8 {e : TypeId} (he : P.underlying e = some (.int .u8)) (n : Nat) (cs : List Value) (x : DataW H × List MemPlace) (h : DataW.trod enc P w base spare held n e cs = some x) : ∃ y : { n : Int // 0 ≤ n ∧ n ≤ 255 }, cs = [.int .u8 y.1] := by
  obtain ⟨y, hy, _, hw⟩ := DataW.trod_int he h
  exact ⟨⟨y, by have := bounds_u8 hw; omega⟩, hy⟩
end
section
variable {H : Type} {enc : TypeId × Value → H} {w : World} {base : Nat} {spare : Nat → Bool} {held : Bool}
theorem open_num {r : Reach} {b0 : Nat} {v : Value} {d : DataW H} {p : List MemPlace} (hv : Value.okWide Try.prog w r b0 3 v) (h : DataW.Trod enc Try.prog w base spare held 3 v d p) :
    ∃ n : Int, v = .int .i64 n ∧ In64 n := by
  obtain ⟨x, rfl, _, _, wx⟩ := open_int Try.underlying3 hv h
  exact ⟨x, rfl, in64_of wx⟩
end
end Go.Proofs.Ytiecdlfdfphflaa
