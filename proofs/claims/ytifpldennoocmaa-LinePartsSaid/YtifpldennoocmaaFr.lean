/- opening the arguments of the laws of line: lines of bytes, masks. -/
import Derived.Test.YtifpldennoocmaaSl
import Derived.Test.YtifpldennoocmaaMg
namespace Go.Proofs.Ytifpldennoocmaa
set_option linter.unusedVariables false
open Go.ChangeShapes Go.WideShapes Go.ChangeAt Go.RowKit Go.Deep

/-- all of a row are bytes -/
def Bts (n : Nat) (l : List Int) : Prop := ∀ k, k < n → ∃ m : Nat, l.getD k 0 = (m : Int) ∧ m < 256

section
variable {H : Type} {enc : TypeId × Value → H} {P : Program} {w : World} {base : Nat} {spare : Nat → Bool} {held : Bool}
theorem open_bytes {r : Reach} {b0 n : Nat} {t e : TypeId} {v : Value} {d : DataW H} {p : List MemPlace} (ht : P.underlying t = some (.array n e)) (he : P.underlying e = some (.int .u8)) (hC : P.cellsOf e = 1) (hT : P.cellsOf t = n)
    (hv : Value.okWide P w r b0 t v) (h : DataW.Trod enc P w base spare held t v d p) :
    ∃ l : List Int, v = .agg (ivs .u8 l) ∧ l.length = n ∧ Bts n l := by
  unfold Value.okWide at hv
  simp only [ht] at hv
  obtain ⟨⟨l⟩, rfl, hsz, _⟩ := hv
  have hl : l.length = n := by simpa [hT] using hsz
  obtain ⟨fuel, hf⟩ := h
  obtain ⟨xs, m, _, _, _, hx, hi⟩ := DataW.trod_array ht hf
  have key : ∀ (j : Nat) (hj : j < l.length), ∃ k : Nat, l[j] = .int .u8 (k : Int) ∧ k < 256 := by
    intro j hj
    have h1 := hi j (by omega)
    rw [hC, Nat.mul_one] at h1
    have hone' : (l.drop j).take 1 = [l[j]] := by rw [List.drop_eq_getElem_cons (by omega)]; rfl
    simp only [Value.cells, hone'] at h1
    have hxj : xs[j]? = some (xs[j]'(by omega)) := List.getElem?_eq_getElem (by omega)
    obtain ⟨k, hk, _, hw⟩ := DataW.trod_int he (h1.trans hxj)
    have hb := bounds_u8 hw
    exact ⟨k.toNat, by rw [show ((k.toNat : Nat) : Int) = k by omega]; simpa using hk, by omega⟩
  have em : ∀ (j : Nat) (hj : j < l.length), ∃ k : Nat, (l.map fun v => match v with | .int _ n => n | _ => 0)[j]? = some (k : Int) ∧ l[j] = .int .u8 (k : Int) ∧ k < 256 := by
    intro j hj
    obtain ⟨k, hk, h2⟩ := key j hj
    exact ⟨k, by simp [hj, hk], hk, h2⟩
  refine ⟨l.map fun v => match v with | .int _ n => n | _ => 0, ?_, by simpa using hl, fun k hk => ?_⟩
  · unfold ivs
    congr 2
    refine List.ext_getElem (by simp) fun j hj hj' => ?_
    obtain ⟨k, h1, h2, _⟩ := em j hj
    simp [h2]
  · obtain ⟨m, h1, _, h3⟩ := em k (by omega)
    exact ⟨m, by rw [List.getD, h1]; rfl, h3⟩
theorem open_u64 {r : Reach} {b0 : Nat} {t : TypeId} {v : Value} {d : DataW H} {p : List MemPlace} (ht : P.underlying t = some (.int .u64)) (hv : Value.okWide P w r b0 t v) (h : DataW.Trod enc P w base spare held t v d p) :
    ∃ x : Nat, v = .int .u64 (x : Int) ∧ x < 2 ^ 64 := by
  obtain ⟨x, rfl, _, _, wx⟩ := open_int ht hv h
  have hb := bounds_u64 wx
  exact ⟨x.toNat, by rw [show ((x.toNat : Nat) : Int) = x by omega], by omega⟩
end
end Go.Proofs.Ytifpldennoocmaa
