/- the ones of a word of 64 bits, as a list. No program in sight. -/
import Derived.WalkKit
namespace Go.Proofs.Ytifpldennoocmaa
set_option linter.unusedVariables false
open Go.RowKit

/-- is bit k one? -/
def bitOf (x k : Nat) : Bool := decide (x / 2 ^ k % 2 = 1)
/-- how many ones below bit k -/
def cnt (x : Nat) : Nat → Nat
  | 0 => 0
  | k + 1 => cnt x k + if bitOf x k then 1 else 0
/-- the ones, in order -/
def onesL (x : Nat) : List Nat := (List.range 64).filter (bitOf x)
def onesV (x : Nat) : List (Array Value) := (onesL x).map fun i => #[.int .i64 (i : Nat)]

theorem filt_len (x : Nat) : ∀ k, ((List.range k).filter (bitOf x)).length = cnt x k := by
  intro k
  induction k with
  | zero => rfl
  | succ k ih =>
    rw [List.range_succ, List.filter_append, List.length_append, ih, cnt]
    congr 1
    cases h : bitOf x k <;> simp [h]
theorem filt_at (x k : Nat) (hb : bitOf x k = true) : ∀ n, k < n → ((List.range n).filter (bitOf x))[cnt x k]? = some k := by
  intro n
  induction n with
  | zero => intro h; omega
  | succ n ih =>
    intro h
    rw [List.range_succ, List.filter_append]
    by_cases hk : k = n
    · subst hk
      rw [List.getElem?_append_right (by rw [filt_len]; exact Nat.le_refl _), filt_len, Nat.sub_self]
      simp [hb]
    · have := ih (by omega)
      obtain ⟨hlt, _⟩ := List.getElem?_eq_some_iff.1 this
      rw [List.getElem?_append_left hlt]
      exact this
theorem onesV_at (x k : Nat) (hk : k < 64) (hb : bitOf x k = true) : (onesV x)[cnt x k]? = some #[.int .i64 (k : Nat)] := by
  unfold onesV onesL
  rw [List.getElem?_map, filt_at x k hb 64 hk]; rfl
theorem onesV_len (x : Nat) : (onesV x).length = cnt x 64 := by
  unfold onesV onesL
  rw [List.length_map, filt_len]
theorem cnt_yes {x k : Nat} (h : bitOf x k = true) : cnt x (k + 1) = cnt x k + 1 := by rw [cnt, h]; rfl
theorem cnt_no {x k : Nat} (h : bitOf x k = false) : cnt x (k + 1) = cnt x k := by rw [cnt, h]; rfl
theorem cnt_end {x k : Nat} (h : x / 2 ^ k = 0) : ∀ j, cnt x (k + j) = cnt x k := by
  intro j
  induction j with
  | zero => rfl
  | succ j ih =>
    rw [← Nat.add_assoc, cnt_no, ih]
    unfold bitOf
    have : x / 2 ^ (k + j) = 0 := by
      rw [Nat.pow_add, ← Nat.div_div_eq_div_mul, h, Nat.zero_div]
    rw [this]; rfl
theorem half_next (x k : Nat) : x / 2 ^ k / 2 = x / 2 ^ (k + 1) := by rw [Nat.div_div_eq_div_mul, Nat.pow_succ]
theorem half_end {x : Nat} (h : x < 2 ^ 64) : x / 2 ^ 64 = 0 := Nat.div_eq_of_lt h

theorem band64_1 (a : Nat) (ha : a < 2 ^ 64) : bits .and .u64 (a : Int) 1 = ((a % 2 : Nat) : Int) := by
  show IntKind.u64.wrap (((BitVec.ofInt 64 (a : Int) &&& BitVec.ofInt 64 ((1 : Nat) : Int)).toNat : Nat) : Int) = _
  rw [BitVec.ofInt_natCast, BitVec.ofInt_natCast]
  simp only [BitVec.toNat_and, BitVec.toNat_ofNat]
  rw [Nat.mod_eq_of_lt ha, show 1 % 2 ^ 64 = 2 ^ 1 - 1 from rfl, Nat.and_two_pow_sub_one_eq_mod, IntKind.wrap_u64]
  omega

attribute [irreducible] cnt onesV onesL
end Go.Proofs.Ytifpldennoocmaa
