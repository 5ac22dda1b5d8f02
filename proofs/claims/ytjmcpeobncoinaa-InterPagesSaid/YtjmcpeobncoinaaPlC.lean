/- plain facts on the laying of pages, further: unlike pages are laid to unlike places; which places follow one another. No program in sight. -/
import Derived.Test.YtjmcpeobncoinaaPlB
namespace Go.Proofs.Ytjmcpeobncoinaa
set_option linter.unusedVariables false
open Go.RowKit

/-- three digits make their number again -/
theorem dig_back {x0 x1 x2 n : Int} (h0 : 1 ≤ x0) (h1 : 1 ≤ x1) (h2 : 1 ≤ x2) (hn : 0 ≤ n) (hlt : n < x2 * x1 * x0) :
    n % x0 + x0 * (n / x0 % x1 + x1 * (n / x0 / x1 % x2)) = n := by
  have e1 : n / x0 < x2 * x1 := Int.ediv_lt_of_lt_mul (by omega) hlt
  have e2 : n / x0 / x1 < x2 := Int.ediv_lt_of_lt_mul (by omega) e1
  have e3 : 0 ≤ n / x0 / x1 := Int.ediv_nonneg (Int.ediv_nonneg hn (by omega)) (by omega)
  rw [Int.emod_eq_of_lt e3 e2, Int.emod_add_mul_ediv, Int.emod_add_mul_ediv]

/-- the digits of a number made of three -/
theorem dig_of {x0 x1 x2 t0 t1 t2 : Int} (h0 : 0 ≤ t0) (g0 : t0 < x0) (h1 : 0 ≤ t1) (g1 : t1 < x1) (h2 : 0 ≤ t2) (g2 : t2 < x2) :
    (t0 + x0 * (t1 + x1 * t2)) % x0 = t0 ∧ (t0 + x0 * (t1 + x1 * t2)) / x0 % x1 = t1 ∧ (t0 + x0 * (t1 + x1 * t2)) / x0 / x1 % x2 = t2 ∧ t0 + x0 * (t1 + x1 * t2) < x2 * x1 * x0 := by
  have a : (t0 + x0 * (t1 + x1 * t2)) / x0 = t1 + x1 * t2 := by
    rw [Int.add_mul_ediv_left _ _ (by omega), Int.ediv_eq_zero_of_lt h0 g0, Int.zero_add]
  have a2 : (t1 + x1 * t2) / x1 = t2 := by
    rw [Int.add_mul_ediv_left _ _ (by omega), Int.ediv_eq_zero_of_lt h1 g1, Int.zero_add]
  refine ⟨by rw [Int.add_mul_emod_self_left, Int.emod_eq_of_lt h0 g0], by rw [a, Int.add_mul_emod_self_left, Int.emod_eq_of_lt h1 g1], by rw [a, a2, Int.emod_eq_of_lt h2 g2], ?_⟩
  have b1 : t1 + x1 * t2 + 1 ≤ x2 * x1 := by
    have := Int.mul_le_mul_of_nonneg_left (show t2 + 1 ≤ x2 by omega) (show 0 ≤ x1 by omega)
    rw [Int.mul_add, Int.mul_one, Int.mul_comm x1 x2] at this
    omega
  have := Int.mul_le_mul_of_nonneg_left b1 (show 0 ≤ x0 by omega)
  rw [Int.mul_add, Int.mul_one, Int.mul_comm x0 (x2 * x1)] at this
  omega

theorem xb_back {bank row b : Int} (h0 : 0 ≤ bank) (h1 : bank < b) (hb : pw b 16 = true) (h2 : 0 ≤ row) (h3 : row < 1024) : xb (xb bank row b) row b = bank := by
  obtain ⟨k, hk, rfl⟩ := pw_pow hb
  have hb' := pw_cases hb
  obtain ⟨x, rfl⟩ := Int.eq_ofNat_of_zero_le h0
  obtain ⟨y, rfl⟩ := Int.eq_ofNat_of_zero_le h2
  have hp : (2 : Int) ^ k = ((2 ^ k : Nat) : Int) := by rw [Int.natCast_pow]; rfl
  have h1' : x < 2 ^ k := by rw [hp] at h1; omega
  have hk2 : 2 ^ k ≤ 16 := by have := hb'.2; rw [hp] at this; omega
  have hk1 : 1 ≤ 2 ^ k := Nat.one_le_two_pow
  unfold xb
  rw [hp, show ((2 ^ k : Nat) : Int) - 1 = ((2 ^ k - 1 : Nat) : Int) from by omega, band_nat _ _ (by omega) (by omega), Nat.and_two_pow_sub_one_eq_mod]
  have h4 : y % 2 ^ k < 2 ^ k := Nat.mod_lt _ (by omega)
  have h5 := Nat.xor_lt_two_pow h1' h4
  rw [bxor_nat _ _ (by omega) (by omega), bxor_nat _ _ (by omega) (by omega), Nat.xor_assoc, Nat.xor_self, Nat.xor_zero]

/-- the page that is laid to a place -/
def backB (way r b d rank bank row : Int) : Int :=
  if way = 0 then row + d * (bank + b * rank) else if way = 1 then bank + b * (row + d * rank) else if way = 3 then rank + r * (xb bank row b + b * row) else rank + r * (bank + b * row)

theorem back_page {r s b d c : Int} (h : rightB r s b d c = true) (way page : Int) (h0 : 0 ≤ page) (h1 : page < r * b * d) :
    backB way r b d (pRank way r b d page) (pBank way r b d page) (pRow way r b d page) = page := by
  obtain ⟨a1, a2, a3, a4, a5, a6, a7, a8, a9⟩ := rightB_bd h
  obtain ⟨p1, p2, p3, p4, p5, p6, p7, p8⟩ := p_in h way page h0
  have hb := (rightB_yes h).2.2.2.1
  unfold backB pBank
  by_cases w0 : way = 0
  · subst w0
    exact dig_back a6 a4 a1 h0 h1
  by_cases w1 : way = 1
  · subst w1
    exact dig_back a4 a6 a1 h0 (by rw [show r * d * b = r * b * d from by rw [Int.mul_assoc, Int.mul_comm d b, ← Int.mul_assoc]]; exact h1)
  have e2 : page < d * b * r := by rw [show d * b * r = r * b * d from by rw [Int.mul_comm d b, Int.mul_comm (b * d) r, ← Int.mul_assoc]]; exact h1
  have key := dig_back a1 a4 a6 h0 e2
  rw [if_neg w0, if_neg w1]
  by_cases w3 : way = 3
  · subst w3
    rw [if_pos rfl, if_pos rfl, xb_back p7 p8 hb p5 (by omega)]
    exact key
  · rw [if_neg w3, if_neg w3]
    unfold pRank pBank0 pRow
    rw [if_neg w0, if_neg w1, if_neg w0, if_neg w1, if_neg w0, if_neg w1]
    exact key

theorem phys_parts {r s b d c : Int} (h : rightB r s b d c = true) (way page page' : Int) (h0 : 0 ≤ page) (h0' : 0 ≤ page') (e : phys way r b d page = phys way r b d page') :
    pRank way r b d page = pRank way r b d page' ∧ pBank way r b d page = pBank way r b d page' ∧ pRow way r b d page = pRow way r b d page' := by
  obtain ⟨a1, a2, a3, a4, a5, a6, a7, a8, a9⟩ := rightB_bd h
  obtain ⟨p1, p2, p3, p4, p5, p6, _, _⟩ := p_in h way page h0
  obtain ⟨q1, q2, q3, q4, q5, q6, _, _⟩ := p_in h way page' h0'
  unfold phys at e
  omega
theorem phys_inj {r s b d c : Int} (h : rightB r s b d c = true) (way page page' : Int) (h0 : 0 ≤ page) (h1 : page < r * b * d) (h0' : 0 ≤ page') (h1' : page' < r * b * d) (e : phys way r b d page = phys way r b d page') : page = page' := by
  obtain ⟨e1, e2, e3⟩ := phys_parts h way page page' h0 h0' e
  rw [← back_page h way page h0 h1, ← back_page h way page' h0' h1', e1, e2, e3]
theorem phys_in {r s b d c : Int} (h : rightB r s b d c = true) (way page : Int) (h0 : 0 ≤ page) : 0 ≤ phys way r b d page ∧ phys way r b d page < 131072 := by
  obtain ⟨a1, a2, a3, a4, a5, a6, a7, a8, a9⟩ := rightB_bd h
  obtain ⟨p1, p2, p3, p4, p5, p6, _, _⟩ := p_in h way page h0
  unfold phys; omega
theorem phys_idx (way r b d page : Int) : phys way r b d page * 64 = idx (pRank way r b d page) (pBank way r b d page) (pRow way r b d page) 0 := by unfold phys idx; omega

theorem succ_dig {n m : Int} (hm : 1 ≤ m) (h : n % m < m - 1) : (n + 1) % m = n % m + 1 ∧ (n + 1) / m = n / m := by
  have h0 := Int.emod_nonneg n (show m ≠ 0 by omega)
  have e : n = m * (n / m) + n % m := (Int.mul_ediv_add_emod n m).symm
  have e2 : n + 1 = (n % m + 1) + m * (n / m) := by omega
  constructor
  · rw [e2, Int.add_mul_emod_self_left, Int.emod_eq_of_lt (by omega) (by omega)]
  · rw [e2, Int.add_mul_ediv_left _ _ (by omega), Int.ediv_eq_zero_of_lt (by omega) (by omega), Int.zero_add]
theorem succ_ne {n m : Int} (hm : 1 < m) : n % m ≠ (n + 1) % m := by
  intro h
  have h2 := Int.emod_emod_of_dvd 0 (Int.dvd_refl m)
  have h3 : (n + 1 - n) % m = 0 := by rw [Int.sub_emod, ← h, Int.sub_self, Int.zero_emod]
  rw [show n + 1 - n = 1 from by omega, Int.emod_eq_of_lt (by omega) hm] at h3
  omega

end Go.Proofs.Ytjmcpeobncoinaa
