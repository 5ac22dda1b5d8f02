/- plain facts on how many ones a number has. No program in sight. -/
import Derived.Test.YtjmcpeobncoinaaPlA
namespace Go.Proofs.Ytjmcpeobncoinaa
set_option linter.unusedVariables false
open Go.RowKit

/-- how many ones, with fuel -/
def popF : Nat → Nat → Nat
  | 0, _ => 0
  | f + 1, n => n % 2 + popF f (n / 2)
theorem popF_zero (f : Nat) : popF f 0 = 0 := by
  induction f with
  | zero => rfl
  | succ f ih => simp [popF, ih]
theorem popF_more (f : Nat) : ∀ n, n < 2 ^ f → popF (f + 1) n = popF f n := by
  induction f with
  | zero => intro n h; have : n = 0 := by omega
            subst this; rfl
  | succ f ih => intro n h; rw [popF, ih (n / 2) (by rw [Nat.pow_succ] at h; omega)]; rfl
/-- how many ones of a word of 64 bits -/
def popc (n : Nat) : Nat := popF 64 n
theorem popc_zero : popc 0 = 0 := popF_zero 64
theorem popc_step {n : Nat} (h : n < 18446744073709551616) : popc n = n % 2 + popc (n / 2) := by
  unfold popc
  rw [← popF_more 64 n h]; rfl
theorem popc_bits (f : Nat) : ∀ n, 0 < n → n < 2 ^ f → popF f (n &&& (n - 1)) + 1 = popF f n := by
  induction f with
  | zero => intro n h h2; omega
  | succ f ih =>
    intro n h h2
    have e1 : (n &&& (n - 1)) / 2 = n / 2 &&& (n - 1) / 2 := Nat.and_div_two
    have e0 : (n &&& (n - 1)) % 2 = 0 := by
      have h3 : ¬ (n &&& (n - 1)) % 2 = 1 := fun h3 => by
        have := Nat.and_mod_two_eq_one.1 h3
        omega
      omega
    simp only [popF]
    rw [e1, e0]
    by_cases hp : n % 2 = 1
    · rw [show (n - 1) / 2 = n / 2 from by omega, Nat.and_self]; omega
    · have e2 : (n - 1) / 2 = n / 2 - 1 := by omega
      rw [e2]
      have := ih (n / 2) (by omega) (by rw [Nat.pow_succ] at h2; omega)
      omega
theorem popc_kern {n : Nat} (h : 0 < n) (h2 : n < 18446744073709551616) : popc (n &&& (n - 1)) + 1 = popc n := popc_bits 64 n h h2
theorem popF_le (f : Nat) : ∀ n, popF f n ≤ f := by
  induction f with
  | zero => intro n; exact Nat.le_refl _
  | succ f ih => intro n; have := ih (n / 2); simp only [popF]; omega
theorem popc_le (n : Nat) : popc n ≤ 64 := popF_le 64 n

attribute [irreducible] popc popF

theorem band32_nat (a b : Nat) (ha : a < 4294967296) (hb : b < 4294967296) : bits .and .u32 (a : Int) (b : Int) = ((a &&& b : Nat) : Int) := by
  have hab : a &&& b < 4294967296 := Nat.lt_of_le_of_lt Nat.and_le_left ha
  show IntKind.u32.wrap (((BitVec.ofInt 32 (a : Int) &&& BitVec.ofInt 32 (b : Int)).toNat : Nat) : Int) = _
  rw [BitVec.ofInt_natCast, BitVec.ofInt_natCast]
  simp only [BitVec.toNat_and, BitVec.toNat_ofNat]
  rw [Nat.mod_eq_of_lt (by omega), Nat.mod_eq_of_lt (by omega), IntKind.wrap_u32]
  omega
theorem band8_127 (a : Int) (h0 : 0 ≤ a) (h1 : a < 256) : bits .and .u8 a 127 = a % 128 := by
  obtain ⟨x, rfl⟩ := Int.eq_ofNat_of_zero_le h0
  show IntKind.u8.wrap (((BitVec.ofInt 8 (x : Int) &&& BitVec.ofInt 8 ((127 : Nat) : Int)).toNat : Nat) : Int) = _
  rw [BitVec.ofInt_natCast, BitVec.ofInt_natCast]
  simp only [BitVec.toNat_and, BitVec.toNat_ofNat]
  rw [Nat.mod_eq_of_lt (by omega), show 127 % 2 ^ 8 = 2 ^ 7 - 1 from rfl, Nat.and_two_pow_sub_one_eq_mod, IntKind.wrap_u8]
  omega
theorem band1 (x : Int) : bits .and .i64 x 1 = x % 2 := band_low x 1 (by decide)

end Go.Proofs.Ytjmcpeobncoinaa
