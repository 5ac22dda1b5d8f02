/- plain facts on how many ones a number has. No program in sight. -/
import Derived.Test.YtifpldennoocmaaPlM
namespace Go.Proofs.Ytifpldennoocmaa
set_option linter.unusedVariables false
open Go.RowKit

/-- how many ones, with fuel -/
def popF : Nat → Nat → Nat
  | 0, _ => 0
  | f + 1, n => n % 2 + popF f (n / 2)
theorem popF_zero (f : Nat) : popF f 0 = 0 := by
  induction f with
  | zero => rfl
  | succ f ih => simp [popF, ih]
theorem popF_more (f : Nat) : ∀ n, n < 2 ^ f → popF (f + 1) n = popF f n := by
  induction f with
  | zero => intro n h; have : n = 0 := by omega
            subst this; rfl
  | succ f ih => intro n h; rw [popF, ih (n / 2) (by rw [Nat.pow_succ] at h; omega)]; rfl
/-- how many ones of a word of 64 bits -/
def popc (n : Nat) : Nat := popF 64 n
theorem popc_zero : popc 0 = 0 := popF_zero 64
theorem popc_step {n : Nat} (h : n < 18446744073709551616) : popc n = n % 2 + popc (n / 2) := by
  unfold popc
  rw [← popF_more 64 n h]; rfl
theorem popc_bits (f : Nat) : ∀ n, 0 < n → n < 2 ^ f → popF f (n &&& (n - 1)) + 1 = popF f n := by
  induction f with
  | zero => intro n h h2; omega
  | succ f ih =>
    intro n h h2
    have e1 : (n &&& (n - 1)) / 2 = n / 2 &&& (n - 1) / 2 := Nat.and_div_two
    have e0 : (n &&& (n - 1)) % 2 = 0 := by
      have h3 : ¬ (n &&& (n - 1)) % 2 = 1 := fun h3 => by
        have := Nat.and_mod_two_eq_one.1 h3
        omega
      omega
    simp only [popF]
    rw [e1, e0]
    by_cases hp : n % 2 = 1
    · rw [show (n - 1) / 2 = n / 2 from by omega, Nat.and_self]; omega
    · have e2 : (n - 1) / 2 = n / 2 - 1 := by omega
      rw [e2]
      have := ih (n / 2) (by omega) (by rw [Nat.pow_succ] at h2; omega)
      omega
theorem popc_kern {n : Nat} (h : 0 < n) (h2 : n < 18446744073709551616) : popc (n &&& (n - 1)) + 1 = popc n := popc_bits 64 n h h2
theorem popF_le (f : Nat) : ∀ n, popF f n ≤ f := by
  induction f with
  | zero => intro n; exact Nat.le_refl _
  | succ f ih => intro n; have := ih (n / 2); simp only [popF]; omega
theorem popc_le (n : Nat) : popc n ≤ 64 := popF_le 64 n

theorem popF_full (f : Nat) : ∀ n, n < 2 ^ f → (popF f n = f ↔ n = 2 ^ f - 1) := by
  induction f with
  | zero => intro n h; have : n = 0 := by omega
            subst this; simp [popF]
  | succ f ih =>
    intro n h
    have hl := popF_le f (n / 2)
    have hp : 2 ^ (f + 1) = 2 * 2 ^ f := by rw [Nat.pow_succ]; omega
    have := ih (n / 2) (by omega)
    have h1 : 1 ≤ 2 ^ f := Nat.one_le_two_pow
    simp only [popF]
    constructor
    · intro h3
      have h4 : popF f (n / 2) = f := by omega
      have h5 := this.1 h4
      omega
    · intro h3
      have h5 := this.2 (by omega)
      omega
theorem popc_full {n : Nat} (h : n < 2 ^ 64) : popc n = 64 ↔ n = 18446744073709551615 := popF_full 64 n h

attribute [irreducible] popc popF

theorem band64_nat (a b : Nat) (ha : a < 2 ^ 64) (hb : b < 2 ^ 64) : bits .and .u64 (a : Int) (b : Int) = ((a &&& b : Nat) : Int) := by
  have hab : a &&& b < 2 ^ 64 := Nat.lt_of_le_of_lt Nat.and_le_left ha
  show IntKind.u64.wrap (((BitVec.ofInt 64 (a : Int) &&& BitVec.ofInt 64 (b : Int)).toNat : Nat) : Int) = _
  rw [BitVec.ofInt_natCast, BitVec.ofInt_natCast]
  simp only [BitVec.toNat_and, BitVec.toNat_ofNat]
  rw [Nat.mod_eq_of_lt ha, Nat.mod_eq_of_lt hb, IntKind.wrap_u64]
  omega

/-- merged up to a place -/
def mgTo (a b : List Int) (x k : Nat) : List Int := (List.range k).foldl (fun l i => if bitOf x i then l.set i (b.getD i 0) else l) a
theorem mgTo_zero (a b : List Int) (x : Nat) : mgTo a b x 0 = a := rfl
theorem mgTo_succ (a b : List Int) (x k : Nat) : mgTo a b x (k + 1) = if bitOf x k then (mgTo a b x k).set k (b.getD k 0) else mgTo a b x k := by
  unfold mgTo
  rw [List.range_succ, List.foldl_append]
  rfl
theorem mgTo_len (a b : List Int) (x k : Nat) : (mgTo a b x k).length = a.length := by
  induction k with
  | zero => rfl
  | succ k ih => rw [mgTo_succ]; split <;> simp [ih]
theorem mgTo_all (a b : List Int) (x : Nat) : mgTo a b x 64 = mg a b x := by
  unfold mgTo mg mrgF onesL
  rw [List.foldl_filter]

attribute [irreducible] mgTo
end Go.Proofs.Ytifpldennoocmaa
