/- plain facts on the laying of pages: no program in sight. -/
import Derived.Test.YtjmcpeobncoinaaPlA
namespace Go.Proofs.Ytjmcpeobncoinaa
set_option linter.unusedVariables false
open Go.RowKit

def perB (r s b d c : Int) : Int := bif rightB r s b d c then b * d * c else 0
def pagesB (r s b d c : Int) : Int := bif rightB r s b d c then r * b * d else 0
/-- is there a way? -/
def wayB (way : Int) : Bool := decide (0 ≤ way) && decide (way < 4)
def irB (r s b d c way : Int) : Bool := rightB r s b d c && wayB way

theorem irB_yes {r s b d c way : Int} (h : irB r s b d c way = true) : rightB r s b d c = true ∧ 0 ≤ way ∧ way < 4 := by
  unfold irB wayB at h
  simp only [Bool.and_eq_true, decide_eq_true_eq] at h
  exact ⟨h.1, h.2.1, h.2.2⟩
theorem irB_mk {r s b d c way : Int} (h : rightB r s b d c = true) (h0 : 0 ≤ way) (h1 : way < 4) : irB r s b d c way = true := by
  unfold irB wayB
  rw [h, decide_eq_true h0, decide_eq_true h1]; rfl
theorem irB_no1 {r s b d c way : Int} (h : ¬ rightB r s b d c = true) : irB r s b d c way = false := by
  unfold irB; rw [Bool.not_eq_true] at h; rw [h]; rfl
theorem irB_no2 {r s b d c way : Int} (h : ¬ (0 ≤ way ∧ way < 4)) : irB r s b d c way = false := by
  unfold irB wayB
  rw [← Bool.not_eq_true]
  simp only [Bool.and_eq_true, decide_eq_true_eq]
  exact fun h' => h h'.2

theorem pages_right {r s b d c : Int} (h : rightB r s b d c = true) : pagesB r s b d c = r * b * d ∧ 1 ≤ r * b * d ∧ r * b * d ≤ 131072 ∧ r * b * d * c ≤ 4096 := by
  obtain ⟨a1, a2, a3, a4, a5, a6, a7, a8, a9⟩ := rightB_bd h
  have m1 := mul_in a1 (show r ≤ 8 by omega) a4 a5
  have m2 := mul_in m1.1 m1.2 a6 a7
  have m3 := mul_in m2.1 m2.2 a8 a9
  refine ⟨by unfold pagesB; rw [h]; rfl, m2.1, m2.2, ?_⟩
  have h7 := (rightB_yes h).2.2.2.2.2.2
  have e : (r + s) * b * d * c = r * b * d * c + s * b * d * c := by rw [Int.add_mul, Int.add_mul, Int.add_mul]
  have e2 : 0 ≤ s * b * d * c := Int.mul_nonneg (Int.mul_nonneg (Int.mul_nonneg a2 (by omega)) (by omega)) (by omega)
  omega
theorem pages_wrong {r s b d c : Int} (h : rightB r s b d c = false) : pagesB r s b d c = 0 := by unfold pagesB; rw [h]; rfl

/-- how many lines -/
def linesB (r s b d c : Int) : Int := pagesB r s b d c * c
theorem lines_right {r s b d c : Int} (h : rightB r s b d c = true) : linesB r s b d c = r * b * d * c := by unfold linesB; rw [(pages_right h).1]
theorem lines_wrong {r s b d c : Int} (h : rightB r s b d c = false) : linesB r s b d c = 0 := by unfold linesB; rw [pages_wrong h]; simp

/-- bank xor the row's lowest bits -/
def xb (bank row b : Int) : Int := bits .xor .i64 bank (bits .and .i64 row (b - 1))
theorem xb_in {bank row b : Int} (h0 : 0 ≤ bank) (h1 : bank < b) (hb : pw b 16 = true) (h2 : 0 ≤ row) (h3 : row < 1024) : 0 ≤ xb bank row b ∧ xb bank row b < b := by
  obtain ⟨k, hk, rfl⟩ := pw_pow hb
  have hb' := pw_cases hb
  obtain ⟨x, rfl⟩ := Int.eq_ofNat_of_zero_le h0
  obtain ⟨y, rfl⟩ := Int.eq_ofNat_of_zero_le h2
  have hp : (2 : Int) ^ k = ((2 ^ k : Nat) : Int) := by rw [Int.natCast_pow]; rfl
  have h1' : x < 2 ^ k := by rw [hp] at h1; omega
  have hk2 : 2 ^ k ≤ 16 := by have := hb'.2; rw [hp] at this; omega
  have hk1 : 1 ≤ 2 ^ k := Nat.one_le_two_pow
  unfold xb
  rw [hp, show ((2 ^ k : Nat) : Int) - 1 = ((2 ^ k - 1 : Nat) : Int) from by omega, band_nat _ _ (by omega) (by omega), Nat.and_two_pow_sub_one_eq_mod]
  have h4 : y % 2 ^ k < 2 ^ k := Nat.mod_lt _ (by omega)
  rw [bxor_nat _ _ (by omega) (by omega)]
  have := Nat.xor_lt_two_pow h1' h4
  omega

/-- the place of a page: rank, bank, row -/
def pRank (way r b d page : Int) : Int := if way = 0 then page / d / b % r else if way = 1 then page / b / d % r else page % r
def pBank0 (way r b d page : Int) : Int := if way = 0 then page / d % b else if way = 1 then page % b else page / r % b
def pRow (way r b d page : Int) : Int := if way = 0 then page % d else if way = 1 then page / b % d else page / r / b % d
def pBank (way r b d page : Int) : Int := if way = 3 then xb (pBank0 way r b d page) (pRow way r b d page) b else pBank0 way r b d page

theorem p_in {r s b d c : Int} (h : rightB r s b d c = true) (way page : Int) (h0 : 0 ≤ page) : 0 ≤ pRank way r b d page ∧ pRank way r b d page < r ∧ 0 ≤ pBank way r b d page ∧ pBank way r b d page < b ∧ 0 ≤ pRow way r b d page ∧ pRow way r b d page < d ∧ 0 ≤ pBank0 way r b d page ∧ pBank0 way r b d page < b := by
  obtain ⟨a1, a2, a3, a4, a5, a6, a7, a8, a9⟩ := rightB_bd h
  have key : ∀ x y : Int, 1 ≤ y → 0 ≤ x % y ∧ x % y < y := fun x y hy => ⟨Int.emod_nonneg _ (by omega), Int.emod_lt_of_pos _ (by omega)⟩
  have h1 : 0 ≤ pRank way r b d page ∧ pRank way r b d page < r := by unfold pRank; split; exact key _ _ a1; split; exact key _ _ a1; exact key _ _ a1
  have h2 : 0 ≤ pBank0 way r b d page ∧ pBank0 way r b d page < b := by unfold pBank0; split; exact key _ _ a4; split; exact key _ _ a4; exact key _ _ a4
  have h3 : 0 ≤ pRow way r b d page ∧ pRow way r b d page < d := by unfold pRow; split; exact key _ _ a6; split; exact key _ _ a6; exact key _ _ a6
  have h4 : 0 ≤ pBank way r b d page ∧ pBank way r b d page < b := by
    unfold pBank; split
    · exact xb_in h2.1 h2.2 (rightB_yes h).2.2.2.1 h3.1 (by omega)
    · exact h2
  exact ⟨h1.1, h1.2, h4.1, h4.2, h3.1, h3.2, h2.1, h2.2⟩

theorem p_holds {r s b d c : Int} (h : rightB r s b d c = true) (way page : Int) (h0 : 0 ≤ page) : holdsB r s b d c (pRank way r b d page) (pBank way r b d page) (pRow way r b d page) 0 = true := by
  obtain ⟨p1, p2, p3, p4, p5, p6, _, _⟩ := p_in h way page h0
  obtain ⟨a1, a2, a3, a4, a5, a6, a7, a8, a9⟩ := rightB_bd h
  exact holdsB_mk h p1 (by omega) p3 p4 p5 p6 (Int.le_refl _) (by omega)

/-- where a page is laid -/
def phys (way r b d page : Int) : Int := 16384 * pRank way r b d page + 1024 * pBank way r b d page + pRow way r b d page
theorem idx_phys (way r b d page : Int) : idx (pRank way r b d page) (pBank way r b d page) (pRow way r b d page) 0 / 64 = phys way r b d page := by unfold idx phys; omega

end Go.Proofs.Ytjmcpeobncoinaa
