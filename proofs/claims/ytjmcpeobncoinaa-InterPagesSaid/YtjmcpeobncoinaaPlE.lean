/- plain facts on the laying of pages, further: the page behind one, the exclusive or bit by bit, the page told back. No program in sight. -/
import Derived.Test.YtjmcpeobncoinaaPlC
namespace Go.Proofs.Ytjmcpeobncoinaa
set_option linter.unusedVariables false
open Go.RowKit

theorem carry_dig {n m : Int} (hm : 1 ≤ m) (h : n % m + 1 = m) : (n + 1) % m = 0 ∧ (n + 1) / m = n / m + 1 := by
  have e : n = m * (n / m) + n % m := (Int.mul_ediv_add_emod n m).symm
  have e2 : n + 1 = 0 + m * (n / m + 1) := by rw [Int.mul_add, Int.mul_one]; omega
  constructor
  · rw [e2, Int.add_mul_emod_self_left]; simp
  · rw [e2, Int.add_mul_ediv_left _ _ (by omega)]; simp

theorem dig_n1 {x0 n : Int} (x1 x2 : Int) (g0 : 1 ≤ x0) (h : ¬ n % x0 + 1 = x0) : (n + 1) % x0 = n % x0 + 1 ∧ (n + 1) / x0 % x1 = n / x0 % x1 ∧ (n + 1) / x0 / x1 % x2 = n / x0 / x1 % x2 := by
  have := Int.emod_lt_of_pos n (show 0 < x0 by omega)
  obtain ⟨e1, e2⟩ := succ_dig g0 (show n % x0 < x0 - 1 by omega)
  rw [e1, e2]; exact ⟨rfl, rfl, rfl⟩
theorem dig_n2 {x0 x1 n : Int} (x2 : Int) (g0 : 1 ≤ x0) (g1 : 1 ≤ x1) (h : n % x0 + 1 = x0) (h' : ¬ n / x0 % x1 + 1 = x1) : (n + 1) % x0 = 0 ∧ (n + 1) / x0 % x1 = n / x0 % x1 + 1 ∧ (n + 1) / x0 / x1 % x2 = n / x0 / x1 % x2 := by
  obtain ⟨e1, e2⟩ := carry_dig g0 h
  have := Int.emod_lt_of_pos (n / x0) (show 0 < x1 by omega)
  obtain ⟨e3, e4⟩ := succ_dig g1 (show n / x0 % x1 < x1 - 1 by omega)
  rw [e1, e2, e3, e4]; exact ⟨rfl, rfl, rfl⟩
theorem dig_n3 {x0 x1 x2 n : Int} (g0 : 1 ≤ x0) (g1 : 1 ≤ x1) (hn : 0 ≤ n) (hlt : n + 1 < x2 * x1 * x0) (h : n % x0 + 1 = x0) (h' : n / x0 % x1 + 1 = x1) : (n + 1) % x0 = 0 ∧ (n + 1) / x0 % x1 = 0 ∧ (n + 1) / x0 / x1 % x2 = n / x0 / x1 % x2 + 1 := by
  obtain ⟨e1, e2⟩ := carry_dig g0 h
  obtain ⟨e3, e4⟩ := carry_dig g1 h'
  have f1 : (n + 1) / x0 < x2 * x1 := Int.ediv_lt_of_lt_mul (by omega) hlt
  have f2 : (n + 1) / x0 / x1 < x2 := Int.ediv_lt_of_lt_mul (by omega) f1
  have f3 : 0 ≤ n / x0 / x1 := Int.ediv_nonneg (Int.ediv_nonneg hn (by omega)) (by omega)
  rw [e2, e4] at f2
  rw [e1, e2, e3, e4, Int.emod_eq_of_lt (by omega) f2, Int.emod_eq_of_lt f3 (by omega)]
  exact ⟨rfl, rfl, rfl⟩

/-- the place of the page behind one -/
def nxtB (way r b d rk bk rw : Int) : Int × Int × Int :=
  if way = 0 then (if rw + 1 = d then (if bk + 1 = b then (rk + 1, 0, 0) else (rk, bk + 1, 0)) else (rk, bk, rw + 1))
  else if way = 1 then (if bk + 1 = b then (if rw + 1 = d then (rk + 1, 0, 0) else (rk, 0, rw + 1)) else (rk, bk + 1, rw))
  else (if rk + 1 = r then (if bk + 1 = b then (0, 0, rw + 1) else (0, bk + 1, rw)) else (rk + 1, bk, rw))
theorem nxt_page {r s b d c : Int} (hr : rightB r s b d c = true) (way page : Int) (h0 : 0 ≤ page) (h1 : page + 1 < r * b * d) :
    nxtB way r b d (pRank way r b d page) (pBank0 way r b d page) (pRow way r b d page) = (pRank way r b d (page + 1), pBank0 way r b d (page + 1), pRow way r b d (page + 1)) := by
  obtain ⟨a1, a2, a3, a4, a5, a6, a7, a8, a9⟩ := rightB_bd hr
  unfold nxtB pRank pBank0 pRow
  by_cases w0 : way = 0
  · subst w0
    simp only [if_true]
    by_cases c1 : page % d + 1 = d
    · by_cases c2 : page / d % b + 1 = b
      · obtain ⟨e1, e2, e3⟩ := dig_n3 (x2 := r) a6 a4 h0 h1 c1 c2
        rw [if_pos c1, if_pos c2, e1, e2, e3]
      · obtain ⟨e1, e2, e3⟩ := dig_n2 r a6 a4 c1 c2
        rw [if_pos c1, if_neg c2, e1, e2, e3]
    · obtain ⟨e1, e2, e3⟩ := dig_n1 b r a6 c1
      rw [if_neg c1, e1, e2, e3]
  simp only [if_neg w0]
  by_cases w1 : way = 1
  · subst w1
    simp only [if_true]
    have h1' : page + 1 < r * d * b := by rw [Int.mul_assoc, Int.mul_comm d b, ← Int.mul_assoc]; exact h1
    by_cases c1 : page % b + 1 = b
    · by_cases c2 : page / b % d + 1 = d
      · obtain ⟨e1, e2, e3⟩ := dig_n3 (x2 := r) a4 a6 h0 h1' c1 c2
        rw [if_pos c1, if_pos c2, e1, e2, e3]
      · obtain ⟨e1, e2, e3⟩ := dig_n2 r a4 a6 c1 c2
        rw [if_pos c1, if_neg c2, e1, e2, e3]
    · obtain ⟨e1, e2, e3⟩ := dig_n1 d r a4 c1
      rw [if_neg c1, e1, e2, e3]
  simp only [if_neg w1]
  have h1' : page + 1 < d * b * r := by rw [Int.mul_comm d b, Int.mul_comm (b * d) r, ← Int.mul_assoc]; exact h1
  by_cases c1 : page % r + 1 = r
  · by_cases c2 : page / r % b + 1 = b
    · obtain ⟨e1, e2, e3⟩ := dig_n3 (x2 := d) a1 a4 h0 h1' c1 c2
      rw [if_pos c1, if_pos c2, e1, e2, e3]
    · obtain ⟨e1, e2, e3⟩ := dig_n2 d a1 a4 c1 c2
      rw [if_pos c1, if_neg c2, e1, e2, e3]
  · obtain ⟨e1, e2, e3⟩ := dig_n1 b d a1 c1
    rw [if_neg c1, e1, e2, e3]

/-! the exclusive or, bit by bit -/
theorem bit_of (z k : Nat) : z / 2 ^ k % 2 = (z.testBit k).toNat := (Nat.toNat_testBit z k).symm
theorem xor_more (x y k : Nat) (h : x / 2 ^ k % 2 ≠ y / 2 ^ k % 2) : (x ^^^ y) % 2 ^ (k + 1) = (x ^^^ y) % 2 ^ k + 2 ^ k := by
  rw [Nat.mod_pow_succ, bit_of, Nat.testBit_xor]
  rw [bit_of, bit_of] at h
  cases hx : x.testBit k <;> cases hy : y.testBit k <;> simp_all
theorem xor_same (x y k : Nat) (h : x / 2 ^ k % 2 = y / 2 ^ k % 2) : (x ^^^ y) % 2 ^ (k + 1) = (x ^^^ y) % 2 ^ k := by
  rw [Nat.mod_pow_succ, bit_of, Nat.testBit_xor]
  rw [bit_of, bit_of] at h
  cases hx : x.testBit k <;> cases hy : y.testBit k <;> simp_all
theorem xb_nat (x y k : Nat) (hx : x < 2 ^ k) (hy : y < 1024) (hk : 2 ^ k ≤ 16) : xb (x : Int) (y : Int) ((2 ^ k : Nat) : Int) = (((x ^^^ y) % 2 ^ k : Nat) : Int) := by
  have hk1 : 1 ≤ 2 ^ k := Nat.one_le_two_pow
  have h4 : y % 2 ^ k < 2 ^ k := Nat.mod_lt _ (by omega)
  unfold xb
  rw [show ((2 ^ k : Nat) : Int) - 1 = ((2 ^ k - 1 : Nat) : Int) from by omega, band_nat _ _ (by omega) (by omega), Nat.and_two_pow_sub_one_eq_mod, bxor_nat _ _ (by omega) (by omega), Nat.xor_mod_two_pow, Nat.mod_eq_of_lt hx]

/-- what is told back of a place lies in the system, and is laid there -/
theorem page_back {r s b d c : Int} (hr : rightB r s b d c = true) (way rk bk rw : Int) (h0 : 0 ≤ rk) (h1 : rk < r) (h2 : 0 ≤ bk) (h3 : bk < b) (h4 : 0 ≤ rw) (h5 : rw < d) :
    0 ≤ backB way r b d rk bk rw ∧ backB way r b d rk bk rw < r * b * d ∧ pRank way r b d (backB way r b d rk bk rw) = rk ∧ pBank way r b d (backB way r b d rk bk rw) = bk ∧ pRow way r b d (backB way r b d rk bk rw) = rw := by
  obtain ⟨a1, a2, a3, a4, a5, a6, a7, a8, a9⟩ := rightB_bd hr
  have hb := (rightB_yes hr).2.2.2.1
  have nn : ∀ {u v : Int}, 0 ≤ u → 0 ≤ v → 0 ≤ u * v := fun h h' => Int.mul_nonneg h h'
  unfold backB pRank pBank pBank0 pRow
  by_cases w0 : way = 0
  · subst w0
    simp only [if_true]
    obtain ⟨e1, e2, e3, e4⟩ := dig_of h4 h5 h2 h3 h0 h1
    rw [if_neg (by decide)]
    exact ⟨by have := nn (by omega : 0 ≤ d) (show 0 ≤ bk + b * rk by have := nn (by omega : 0 ≤ b) h0; omega); omega, e4, e3, e2, e1⟩
  simp only [if_neg w0]
  by_cases w1 : way = 1
  · subst w1
    simp only [if_true]
    obtain ⟨e1, e2, e3, e4⟩ := dig_of h2 h3 h4 h5 h0 h1
    rw [if_neg (by decide)]
    refine ⟨by have := nn (by omega : 0 ≤ b) (show 0 ≤ rw + d * rk by have := nn (by omega : 0 ≤ d) h0; omega); omega, ?_, e3, e1, e2⟩
    rw [Int.mul_assoc, Int.mul_comm b d, ← Int.mul_assoc]; exact e4
  simp only [if_neg w1]
  have eb : d * b * r = r * b * d := by rw [Int.mul_comm d b, Int.mul_comm (b * d) r, ← Int.mul_assoc]
  by_cases w3 : way = 3
  · subst w3
    simp only [if_true]
    obtain ⟨x1, x2⟩ := xb_in h2 h3 hb h4 (by omega)
    obtain ⟨e1, e2, e3, e4⟩ := dig_of h0 h1 x1 x2 h4 h5
    rw [eb] at e4
    refine ⟨by have := nn (by omega : 0 ≤ r) (show 0 ≤ xb bk rw b + b * rw by have := nn (by omega : 0 ≤ b) h4; omega); omega, e4, e1, ?_, e3⟩
    rw [e2, e3, xb_back h2 h3 hb h4 (by omega)]
  · simp only [if_neg w3]
    obtain ⟨e1, e2, e3, e4⟩ := dig_of h0 h1 h2 h3 h4 h5
    rw [eb] at e4
    exact ⟨by have := nn (by omega : 0 ≤ r) (show 0 ≤ bk + b * rw by have := nn (by omega : 0 ≤ b) h4; omega); omega, e4, e1, e2, e3⟩

end Go.Proofs.Ytjmcpeobncoinaa
