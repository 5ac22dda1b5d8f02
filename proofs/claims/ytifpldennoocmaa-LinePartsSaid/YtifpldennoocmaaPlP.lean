/- words of a line: plain facts. No program in sight. -/
import Derived.Test.YtifpldennoocmaaPlR
namespace Go.Proofs.Ytifpldennoocmaa
set_option linter.unusedVariables false
open Go.RowKit

/-- bytes put together, the lowest first -/
def lowS (f : Nat → Nat) : Nat → Nat
  | 0 => 0
  | n + 1 => lowS f n + f n * 256 ^ n
/-- .. the highest first: so many of eight -/
def hiT (f : Nat → Nat) : Nat → Nat
  | 0 => 0
  | r + 1 => 256 * hiT f r + f (7 - r)
theorem lowS_lt (f : Nat → Nat) : ∀ n, (∀ j, j < n → f j < 256) → lowS f n < 256 ^ n
  | 0, _ => by simp [lowS]
  | n + 1, h => by
    have h1 := lowS_lt f n (fun j hj => h j (by omega))
    have h2 := h n (by omega)
    have h3 : f n * 256 ^ n ≤ 255 * 256 ^ n := Nat.mul_le_mul_right _ (by omega)
    rw [lowS, Nat.pow_succ]
    omega
theorem lowS_digit (f : Nat → Nat) (i : Nat) : ∀ n, (∀ j, j < n → f j < 256) → i < n → lowS f n / 256 ^ i % 256 = f i
  | 0, _, h => by omega
  | n + 1, h, hi => by
    rw [lowS]
    by_cases e : i = n
    · subst e
      have h1 := lowS_lt f i (fun j hj => h j (by omega))
      have h2 := h i (by omega)
      rw [Nat.add_mul_div_right _ _ (Nat.pow_pos (by omega)), Nat.div_eq_of_lt h1]
      omega
    · have ih := lowS_digit f i n (fun j hj => h j (by omega)) (by omega)
      have : f n * 256 ^ n = (f n * 256 ^ (n - i - 1) * 256) * 256 ^ i := by
        rw [Nat.mul_assoc, Nat.mul_assoc]
        congr 1
        rw [← Nat.pow_succ', ← Nat.pow_add]
        congr 1
        omega
      rw [this, Nat.add_mul_div_right _ _ (Nat.pow_pos (by omega)), Nat.add_mul_mod_self_right]
      exact ih
theorem low_hi (f : Nat → Nat) (N : Nat) (hN : lowS f 8 = N) (r : Nat) (h : r ≤ 8) : lowS f (8 - r) + 256 ^ (8 - r) * hiT f r = N := by
  induction r with
  | zero => rw [hiT, Nat.mul_zero, Nat.add_zero]; exact hN
  | succ r ih =>
    have ih := ih (by omega)
    obtain ⟨q, hq⟩ : ∃ q, q = 8 - (r + 1) := ⟨_, rfl⟩
    rw [show 8 - r = q + 1 from by omega, lowS, Nat.pow_succ] at ih
    rw [← hq, hiT, show 7 - r = q from by omega, ← ih, Nat.mul_add, Nat.mul_comm (f q), Nat.mul_assoc]
    omega
theorem hi_all (f : Nat → Nat) : hiT f 8 = lowS f 8 := by
  have := low_hi f _ rfl 8 (Nat.le_refl _)
  rw [← this, Nat.sub_self, lowS, Nat.pow_zero, Nat.zero_add, Nat.one_mul]
theorem hiT_le (f : Nat → Nat) (r : Nat) (h : r ≤ 8) (hb : ∀ j, j < 8 → f j < 256) : hiT f r < 256 ^ r := by
  induction r with
  | zero => simp [hiT]
  | succ r ih =>
    have h1 := ih (by omega)
    have h2 := hb (7 - r) (by omega)
    rw [hiT, Nat.pow_succ]
    omega

/-- a byte of a word -/
def wby (l : List Int) (k j : Nat) : Nat := (l.getD (8 * k + j) 0).toNat
theorem wby_lt {l : List Int} (hb : Bts 64 l) {k j : Nat} (hk : k < 8) (hj : j < 8) : wby l k j < 256 ∧ l.getD (8 * k + j) 0 = ((wby l k j : Nat) : Int) := by
  obtain ⟨m, hm, h⟩ := hb (8 * k + j) (by omega)
  unfold wby
  rw [hm]
  exact ⟨by simpa using h, rfl⟩
/-- a line's word -/
def wordV (l : List Int) (k : Nat) : Nat := lowS (wby l k) 8
theorem wordV_lt {l : List Int} (hb : Bts 64 l) {k : Nat} (hk : k < 8) : wordV l k < 2 ^ 64 := lowS_lt (wby l k) 8 (fun j hj => (wby_lt hb hk hj).1)

/-- a list whose first j places are filled -/
def upTo (g : Nat → Int) (n j : Nat) : List Int := (List.range n).map fun t => if t < j then g t else 0
theorem upTo_len (g : Nat → Int) (n j : Nat) : (upTo g n j).length = n := by simp [upTo]
theorem upTo_zero (g : Nat → Int) (n : Nat) : upTo g n 0 = List.replicate n 0 := by
  unfold upTo
  refine List.ext_getElem (by rw [List.length_map, List.length_range, List.length_replicate]) fun i h1 h2 => ?_
  rw [List.getElem_replicate]
  simp
theorem upTo_set (g : Nat → Int) (n j : Nat) (h : j < n) : (upTo g n j).set j (g j) = upTo g n (j + 1) := by
  refine List.ext_getElem (by simp [upTo]) fun i h1 h2 => ?_
  rw [List.getElem_set]
  simp only [upTo, List.getElem_map, List.getElem_range]
  split
  · rename_i e; subst e; rw [if_pos (by omega)]
  · by_cases h3 : i < j
    · rw [if_pos h3, if_pos (by omega)]
    · rw [if_neg h3, if_neg (by omega)]
theorem upTo_get (g : Nat → Int) (n j t : Nat) (h : t < n) : (upTo g n j).getD t 0 = if t < j then g t else 0 := by
  simp [upTo, List.getD, h]
theorem upTo_all (g : Nat → Int) (n : Nat) : upTo g n n = (List.range n).map g := by
  unfold upTo
  refine List.map_congr_left fun t ht => ?_
  rw [if_pos (List.mem_range.1 ht)]

/-- a line out of its words -/
def ofW (ws : List Int) (t : Nat) : Int := (((ws.getD (t / 8) 0).toNat / 256 ^ (t % 8) % 256 : Nat) : Int)
theorem ofW_words (l : List Int) (hl : l.length = 64) (hb : Bts 64 l) : (List.range 64).map (ofW ((List.range 8).map fun k => ((wordV l k : Nat) : Int))) = l := by
  refine ext64 (by simp) hl fun j hj => ?_
  have h1 : ((List.range 64).map (ofW ((List.range 8).map fun k => ((wordV l k : Nat) : Int)))).getD j 0 = ofW ((List.range 8).map fun k => ((wordV l k : Nat) : Int)) j := by
    simp [List.getD, hj]
  rw [h1]
  unfold ofW
  have h2 : ((List.range 8).map fun k => ((wordV l k : Nat) : Int)).getD (j / 8) 0 = ((wordV l (j / 8) : Nat) : Int) := by
    have : j / 8 < 8 := by omega
    simp [List.getD, this]
  rw [h2, Int.toNat_natCast]
  unfold wordV
  rw [lowS_digit _ (j % 8) 8 (fun i hi => (wby_lt hb (by omega) hi).1) (by omega), ← (wby_lt hb (show j / 8 < 8 by omega) (show j % 8 < 8 by omega)).2]
  congr 1
  omega

theorem bor_up (S b i : Nat) (hi : i < 8) (hS : S < 256 ^ i) (hb : b < 256) : bits .or .u64 (S : Int) ((b * 256 ^ i : Nat) : Int) = ((S + b * 256 ^ i : Nat) : Int) := by
  have hp : 256 ^ i = 2 ^ (8 * i) := by rw [Nat.pow_mul]
  have hle : S + b * 256 ^ i < 2 ^ 64 := by
    have h1 : S + b * 256 ^ i < 256 ^ (i + 1) := by
      have h3 : b * 256 ^ i ≤ 255 * 256 ^ i := Nat.mul_le_mul_right _ (by omega)
      rw [Nat.pow_succ]; omega
    have h2 : 256 ^ (i + 1) ≤ 256 ^ 8 := Nat.pow_le_pow_right (by omega) (by omega)
    exact Nat.lt_of_lt_of_le h1 h2
  show IntKind.u64.wrap (((BitVec.ofInt 64 (S : Int) ||| BitVec.ofInt 64 ((b * 256 ^ i : Nat) : Int)).toNat : Nat) : Int) = _
  rw [BitVec.ofInt_natCast, BitVec.ofInt_natCast]
  simp only [BitVec.toNat_or, BitVec.toNat_ofNat]
  rw [Nat.mod_eq_of_lt (by omega), Nat.mod_eq_of_lt (by omega), IntKind.wrap_u64]
  have e : S ||| b * 256 ^ i = S + b * 256 ^ i := by
    rw [hp] at hS ⊢
    rw [Nat.or_comm, Nat.mul_comm b, ← Nat.two_pow_add_eq_or_of_lt hS]
    omega
  rw [e]
  omega
attribute [irreducible] upTo wordV wby
end Go.Proofs.Ytifpldennoocmaa
