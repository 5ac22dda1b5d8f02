/- plain facts: ranks and pages part the indices. No program in sight. -/
import Derived.Test.YtjmcpeobncoinaaPlW
namespace Go.Proofs.Ytjmcpeobncoinaa
set_option linter.unusedVariables false
open Go.RowKit

/-- how many ranks -/
def rkN (r s b d c : Int) : Nat := if rightB r s b d c = true then (r + s).toNat else 0
/-- how many lines rank k has -/
def lenR (r s b d c : Int) (k : Nat) : Nat := if k < rkN r s b d c then perN b d c else 0
theorem rkN_le (r s b d c : Int) : rkN r s b d c ≤ 8 := by
  unfold rkN
  split
  · rename_i h; have := rightB_bd h; omega
  · omega
theorem all_sum (r s b d c : Int) : (allL r s b d c).length = rkN r s b d c * perN b d c := by
  unfold rkN
  cases h : rightB r s b d c
  · rw [allL_no h]; simp
  · rw [allL_len h]; simp
theorem rank_sum (r s b d c : Int) (k : Nat) : (rankL r s b d c (k : Nat)).length = lenR r s b d c k := by
  unfold lenR rkN
  cases h : rightB r s b d c
  · rw [rankL_no (by unfold holdsB; rw [h]; rfl)]; simp
  · rw [if_pos rfl]
    by_cases hk : k < (r + s).toNat
    · rw [if_pos hk, rankL_len (by rw [holds_rank h]; exact bel_mk (by omega) (by omega))]; rfl
    · rw [if_neg hk, rankL_no (by rw [holds_rank h]; unfold bel; rw [decide_eq_false (show ¬ ((k : Nat) : Int) < r + s by omega)]; simp)]; rfl
theorem lenR_per (r s b d c : Int) (k : Nat) (h : lenR r s b d c k ≠ 0) : (lenR r s b d c k : Int) = perB r s b d c := by
  have h1 : k < rkN r s b d c := by
    by_cases h2 : k < rkN r s b d c
    · exact h2
    · exfalso; apply h; unfold lenR; rw [if_neg h2]
  have e : lenR r s b d c k = perN b d c := by unfold lenR; rw [if_pos h1]
  cases hr : rightB r s b d c
  · unfold rkN at h1; rw [hr] at h1; simp at h1
  · have bd := rightB_bd hr
    rw [e]
    unfold perB perN
    rw [hr, Int.natCast_mul, Int.natCast_mul, Int.toNat_of_nonneg (show 0 ≤ b by omega), Int.toNat_of_nonneg (show 0 ≤ d by omega), Int.toNat_of_nonneg (show 0 ≤ c by omega), ← Int.mul_assoc]
    rfl
/-- the sum of the first k ranks -/
theorem sum_step (r s b d c : Int) (k : Nat) : min (k + 1) (rkN r s b d c) * perN b d c = min k (rkN r s b d c) * perN b d c + lenR r s b d c k := by
  unfold lenR
  split
  · rename_i h
    rw [Nat.min_eq_left (by omega), Nat.min_eq_left (by omega), Nat.succ_mul]
  · rename_i h
    rw [Nat.min_eq_right (by omega), Nat.min_eq_right (by omega), Nat.add_zero]
theorem allL_le' (r s b d c : Int) : (allL r s b d c).length ≤ 8388608 := by
  cases hh : rightB r s b d c
  · rw [allL_no hh]; simp
  · rw [allL_len hh]
    have := rightB_bd hh
    have e1 : d.toNat * c.toNat ≤ 1024 * 64 := Nat.mul_le_mul (by omega) (by omega)
    have e2 : b.toNat * (d.toNat * c.toNat) ≤ 16 * (1024 * 64) := Nat.mul_le_mul (by omega) e1
    have e3 : (r + s).toNat * (b.toNat * (d.toNat * c.toNat)) ≤ 8 * (16 * (1024 * 64)) := Nat.mul_le_mul (by omega) e2
    unfold perN; omega
theorem sum_le (r s b d c : Int) (k : Nat) : min k (rkN r s b d c) * perN b d c ≤ 8388608 := by
  have h1 : min k (rkN r s b d c) * perN b d c ≤ rkN r s b d c * perN b d c := Nat.mul_le_mul_right _ (Nat.min_le_right _ _)
  have h2 := allL_le' r s b d c
  rw [all_sum] at h2
  omega

theorem ite_le0 (p : Prop) [Decidable p] (x : Nat) : (if p then x else 0) ≤ x := by split; exact Nat.le_refl _; exact Nat.zero_le _
theorem lenR_le (r s b d c : Int) (k : Nat) : lenR r s b d c k ≤ 1048576 := by
  unfold lenR rkN
  cases hh : rightB r s b d c
  · simp
  · have := rightB_bd hh
    have e1 : d.toNat * c.toNat ≤ 1024 * 64 := Nat.mul_le_mul (by omega) (by omega)
    have e2 : b.toNat * (d.toNat * c.toNat) ≤ 16 * (1024 * 64) := Nat.mul_le_mul (by omega) e1
    unfold perN
    exact Nat.le_trans (ite_le0 _ _) (by omega)
/-- pages that were counted behind t lines of a rank -/
def pgc (cn t : Nat) : Nat := (t + cn - 1) / cn * cn
theorem pgc_zero (cn : Nat) : pgc cn 0 = 0 := by
  unfold pgc
  rcases Nat.eq_zero_or_pos cn with h | h
  · subst h; simp
  · rw [Nat.zero_add, Nat.div_eq_of_lt (by omega)]; simp
theorem pgc_hit {cn t : Nat} (hc : 0 < cn) (h : t % cn = 0) : pgc cn (t + 1) = pgc cn t + cn := by
  obtain ⟨q, rfl⟩ := Nat.dvd_of_mod_eq_zero h
  unfold pgc
  have e1 : (cn * q + cn - 1) / cn = q := by
    rw [show cn * q + cn - 1 = cn * q + (cn - 1) from by omega, Nat.mul_add_div hc, Nat.div_eq_of_lt (by omega), Nat.add_zero]
  have e2 : (cn * q + 1 + cn - 1) / cn = q + 1 := by
    rw [show cn * q + 1 + cn - 1 = cn * (q + 1) + 0 from by rw [Nat.mul_add]; omega, Nat.mul_add_div hc, Nat.zero_div, Nat.add_zero]
  rw [e1, e2, Nat.succ_mul]
theorem pgc_miss {cn t : Nat} (hc : 0 < cn) (h : t % cn ≠ 0) : pgc cn (t + 1) = pgc cn t := by
  obtain ⟨q, m, hm, rfl⟩ : ∃ q m, m < cn ∧ t = cn * q + m := ⟨t / cn, t % cn, Nat.mod_lt _ hc, (Nat.div_add_mod t cn).symm⟩
  rw [Nat.mul_add_mod, Nat.mod_eq_of_lt hm] at h
  unfold pgc
  have e1 : (cn * q + m + cn - 1) / cn = q + 1 := by
    rw [show cn * q + m + cn - 1 = cn * (q + 1) + (m - 1) from by rw [Nat.mul_add]; omega, Nat.mul_add_div hc, Nat.div_eq_of_lt (by omega), Nat.add_zero]
  have e2 : (cn * q + m + 1 + cn - 1) / cn = q + 1 := by
    rw [show cn * q + m + 1 + cn - 1 = cn * (q + 1) + m from by rw [Nat.mul_add]; omega, Nat.mul_add_div hc, Nat.div_eq_of_lt hm, Nat.add_zero]
  rw [e1, e2]
theorem pgc_all {cn m : Nat} (hc : 0 < cn) : pgc cn (m * cn) = m * cn := by
  unfold pgc
  rw [show m * cn + cn - 1 = cn * m + (cn - 1) from by rw [Nat.mul_comm]; omega, Nat.mul_add_div hc, Nat.div_eq_of_lt (by omega), Nat.add_zero]
theorem pgc_rank (r s b d c : Int) (k : Nat) : pgc c.toNat (lenR r s b d c k) = lenR r s b d c k := by
  unfold lenR rkN
  cases h : rightB r s b d c
  · simp [pgc_zero]
  · have bd := rightB_bd h
    rw [if_pos rfl]
    by_cases hk : k < (r + s).toNat
    · rw [if_pos hk]; unfold perN; rw [← Nat.mul_assoc]; exact pgc_all (cn := c.toNat) (by omega)
    · rw [if_neg hk]; exact pgc_zero _
theorem pgc_le (cn t : Nat) (h : cn ≤ 64) : pgc cn t ≤ t + 64 := by
  unfold pgc
  have := Nat.div_mul_le_self (t + cn - 1) cn
  omega

/-- what is known of the t-th line of rank k -/
theorem rank_elem (r s b d c : Int) (k t : Nat) (ht : t < (rankL r s b d c (k : Nat)).length) :
    0 ≤ (rankL r s b d c (k : Nat)).getD t 0 ∧ (rankL r s b d c (k : Nat)).getD t 0 < 8388608 ∧ (rankL r s b d c (k : Nat)).getD t 0 / 1048576 = (k : Nat) ∧ ((rankL r s b d c (k : Nat)).getD t 0 % 64 = ((t % c.toNat : Nat) : Int)) ∧ 0 < c.toNat ∧ c.toNat ≤ 64 ∧
    (pageL r s b d c ((rankL r s b d c (k : Nat)).getD t 0 / 64)).length = c.toNat ∧ ∀ j, j < c.toNat → (pageL r s b d c ((rankL r s b d c (k : Nat)).getD t 0 / 64)).getD j 0 / 64 = (rankL r s b d c (k : Nat)).getD t 0 / 64 ∧ 0 ≤ (pageL r s b d c ((rankL r s b d c (k : Nat)).getD t 0 / 64)).getD j 0 ∧ (pageL r s b d c ((rankL r s b d c (k : Nat)).getD t 0 / 64)).getD j 0 < 8388608 := by
  cases hr : rightB r s b d c
  · rw [rankL_no (by unfold holdsB; rw [hr]; rfl)] at ht; simp at ht
  have bd := rightB_bd hr
  by_cases hk : k < (r + s).toNat
  · have hh : holdsB r s b d c (k : Nat) 0 0 0 = true := by rw [holds_rank hr]; exact bel_mk (by omega) (by omega)
    rw [rankL_len hh] at ht
    have ht' : t < perN b d c := ht
    have hal : k * perN b d c + t < (allL r s b d c).length := by rw [allL_len hr]; exact two_lt hk ht'
    have e0 : (rankL r s b d c (k : Nat)).getD t 0 = preI b.toNat d.toNat c.toNat (k * perN b d c + t) := by
      rw [rankL_get hh t ht, ← allL_get hr k t hk ht', all_at hr _ hal]
    have hp := per_pos hr
    obtain ⟨p1, p2, p3⟩ := pre_parts (b := b) (d := d) (c := c) (by omega) (k * perN b d c + t)
    rw [Nat.mul_comm k, Nat.mul_add_div hp, Nat.div_eq_of_lt ht', Nat.add_zero] at p1 p2
    rw [Nat.mul_comm k, Nat.mul_add_mod, Nat.mod_eq_of_lt ht'] at p3
    rw [Nat.mul_add_mod, Nat.mod_eq_of_lt ht'] at p2
    rw [Nat.mul_comm k] at e0
    rw [e0]
    have l1 : t / (d.toNat * c.toNat) < b.toNat := by rw [Nat.div_lt_iff_lt_mul (Nat.mul_pos (by omega) (by omega))]; exact ht'
    have l2 : t / c.toNat % d.toNat < d.toNat := Nat.mod_lt _ (by omega)
    have l3 : t % c.toNat < c.toNat := Nat.mod_lt _ (by omega)
    generalize preI b.toNat d.toNat c.toNat (perN b d c * k + t) = x at *
    generalize t / (d.toNat * c.toNat) = X at *
    generalize t / c.toNat % d.toNat = Y at *
    generalize t % c.toNat = Z at *
    have hok : pageOk r s b d c (x / 64) = true := by
      unfold pageOk
      rw [decide_eq_true (show 0 ≤ x / 64 by omega), decide_eq_true (show x / 64 < 131072 by omega)]
      unfold atB
      rw [decide_eq_true (show 0 ≤ x / 64 * 64 by omega), show x / 64 * 64 / 1048576 = k from by omega, show x / 64 * 64 / 65536 % 16 = X from by omega, show x / 64 * 64 / 64 % 1024 = Y from by omega, show x / 64 * 64 % 64 = 0 from by omega, holdsB_mk hr (by omega) (by omega) (by omega) (by omega) (by omega) (by omega) (by omega) (by omega)]
      rfl
    refine ⟨by omega, by omega, p1, p3, by omega, by omega, pageL_len hok, fun j hj => ?_⟩
    rw [pageL_get hok j hj]
    omega
  · rw [rankL_no (by rw [holds_rank hr]; unfold bel; rw [decide_eq_false (show ¬ ((k : Nat) : Int) < r + s by omega)]; simp)] at ht; simp at ht

end Go.Proofs.Ytjmcpeobncoinaa
