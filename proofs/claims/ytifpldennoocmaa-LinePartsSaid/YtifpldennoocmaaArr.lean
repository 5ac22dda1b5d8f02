/- two arrays of integers compared. No function of the program in sight. -/
import Derived.WalkKit
import Derived.ChangeKeysEq
namespace Go.Proofs.Ytifpldennoocmaa
set_option linter.unusedVariables false
open Go.RowKit

/-- an array of integers, as cells -/
def ivs (k : IntKind) (xs : List Int) : Array Value := (xs.map (Value.int k)).toArray

section
variable {P : Program}
theorem part_int {e : TypeId} {k : IntKind} (he : P.underlying e = some (.int k)) (xs : List Int) (i : Nat) (hi : i < xs.length) (w : World) : (part e (ivs k xs) (i * 1)).run P w = .ok (.int k xs[i]) w := by
  have hx : (ivs k xs)[i * 1]? = some (.int k xs[i]) := by simp [ivs, hi]
  rw [Nat.mul_one] at hx ⊢
  simp [part, isAgg, run_underlying he, hx]

theorem eqItems_int {e : TypeId} {k : IntKind} (d : Nat) (he : P.underlying e = some (.int k)) (xs ys : List Int) (hl : xs.length = ys.length) (w : World) :
    ∀ is : List Nat, (∀ i ∈ is, i < xs.length) → (Op.eqItems (d + 1) e 1 (ivs k xs) (ivs k ys) is).run P w = .ok (is.all fun i => xs[i]? == ys[i]?) w
  | [], _ => by simp [Op.eqItems]
  | i :: is, h => by
    have hi : i < xs.length := h i (by simp)
    have hi' : i < ys.length := by omega
    have ih := eqItems_int d he xs ys hl w is (fun j hj => h j (by simp [hj]))
    have hr : (Op.equalIn (d + 1) e (.int k xs[i]) (.int k ys[i])).run P w = .ok (xs[i] == ys[i]) w := by simp [Op.equalIn, run_underlying he]
    simp only [Op.eqItems, Sem.run_bind, part_int he xs i hi w, part_int he ys i hi' w, hr, Result.andThen_ok]
    by_cases hxy : xs[i] = ys[i]
    · simp only [hxy, beq_self_eq_true, Bool.not_true, Bool.false_eq_true, if_false]
      rw [ih]
      simp [hi, hi', hxy]
    · have : (xs[i] == ys[i]) = false := by simpa using hxy
      simp only [this, Bool.not_false, if_true]
      simp [hi, hi', hxy]

theorem equalIn_ints {t e : TypeId} {k : IntKind} {n : Nat} {i : TypeInfo} (d : Nat) (ht : P.underlying t = some (.array n e)) (he : P.underlying e = some (.int k)) (hi : P.info? e = some i) (hC : P.cellsOf e = 1) (xs ys : List Int) (hx : xs.length = n) (hy : ys.length = n) (w : World) :
    (Op.equalIn (d + 2) t (.agg (ivs k xs)) (.agg (ivs k ys))).run P w = .ok (decide (xs = ys)) w := by
  rw [run_equalIn_array w (d + 1) _ _ ht hi, hC, eqItems_int d he xs ys (by omega) w _ (fun j hj => by rw [List.mem_range] at hj; omega)]
  congr 1
  rw [Bool.eq_iff_iff]
  simp only [List.all_eq_true, List.mem_range, beq_iff_eq, decide_eq_true_eq]
  constructor
  · intro h
    refine List.ext_getElem? fun j => ?_
    by_cases hj : j < n
    · exact h j hj
    · rw [List.getElem?_eq_none (by omega), List.getElem?_eq_none (by omega)]
  · rintro rfl j _; rfl
end

end Go.Proofs.Ytifpldennoocmaa
