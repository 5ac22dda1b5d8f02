/- merged lines, byte by byte. No program in sight. -/
import Derived.Test.YtifpldennoocmaaMg
namespace Go.Proofs.Ytifpldennoocmaa
set_option linter.unusedVariables false
open Go.RowKit

theorem bitOf_eq (x k : Nat) : bitOf x k = x.testBit k := by
  rw [Nat.testBit_eq_decide_div_mod_eq]; rfl

/-- a merged with b by a mask -/
def mg (a b : List Int) (x : Nat) : List Int := mrgF a b (onesL x)
theorem mg_len (a b : List Int) (x : Nat) : (mg a b x).length = a.length := mrgF_len _ _ _

theorem mrgF_get (a b : List Int) (is : List Nat) (j : Nat) (hj : j < a.length) : (mrgF a b is).getD j 0 = if j ∈ is then b.getD j 0 else a.getD j 0 := by
  induction is generalizing a with
  | nil => simp [mrgF]
  | cons i is ih =>
    have e : mrgF a b (i :: is) = mrgF (a.set i (b.getD i 0)) b is := rfl
    rw [e, ih _ (by rw [List.length_set]; exact hj)]
    by_cases h1 : j ∈ is
    · rw [if_pos h1, if_pos (List.mem_cons_of_mem _ h1)]
    · rw [if_neg h1]
      by_cases h2 : j = i
      · subst h2
        rw [if_pos (List.mem_cons_self ..)]
        simp [List.getD, hj]
      · rw [if_neg (by simp [h1, h2])]
        have : ¬ i = j := fun e => h2 e.symm
        simp [List.getD, this]

theorem mem_onesL (x j : Nat) : j ∈ onesL x ↔ j < 64 ∧ x.testBit j = true := by
  unfold onesL
  rw [List.mem_filter, List.mem_range, bitOf_eq]
theorem mg_get (a b : List Int) (x j : Nat) (ha : a.length = 64) (hj : j < 64) : (mg a b x).getD j 0 = if x.testBit j then b.getD j 0 else a.getD j 0 := by
  unfold mg
  rw [mrgF_get _ _ _ _ (by omega)]
  by_cases h : x.testBit j = true
  · rw [if_pos ((mem_onesL x j).2 ⟨hj, h⟩), if_pos h]
  · rw [if_neg (fun hm => h ((mem_onesL x j).1 hm).2), if_neg h]
theorem ext64 {a b : List Int} (ha : a.length = 64) (hb : b.length = 64) (h : ∀ j, j < 64 → a.getD j 0 = b.getD j 0) : a = b := by
  refine List.ext_getElem (by omega) fun j h1 h2 => ?_
  have := h j (by omega)
  simpa [List.getD, h1, h2] using this

theorem mg_or (a b : List Int) (x y : Nat) (ha : a.length = 64) : mg (mg a b x) b y = mg a b (x ||| y) := by
  refine ext64 (by rw [mg_len, mg_len, ha]) (by rw [mg_len, ha]) fun j hj => ?_
  rw [mg_get _ _ _ _ (by rw [mg_len, ha]) hj, mg_get _ _ _ _ ha hj, mg_get _ _ _ _ ha hj, Nat.testBit_or]
  cases x.testBit j <;> cases y.testBit j <;> simp
theorem mg_same (a b c : List Int) (x : Nat) (ha : a.length = 64) : mg (mg a b x) c x = mg a c x := by
  refine ext64 (by rw [mg_len, mg_len, ha]) (by rw [mg_len, ha]) fun j hj => ?_
  rw [mg_get _ _ _ _ (by rw [mg_len, ha]) hj, mg_get _ _ _ _ ha hj, mg_get _ _ _ _ ha hj]
  cases x.testBit j <;> simp
theorem mg_apart (a b c : List Int) (x y : Nat) (ha : a.length = 64) (h : ∀ j, j < 64 → y.testBit j = true → x.testBit j = false) : mg (mg a b x) c y = mg (mg a c y) b x := by
  refine ext64 (by rw [mg_len, mg_len, ha]) (by rw [mg_len, mg_len, ha]) fun j hj => ?_
  have := h j hj
  rw [mg_get _ _ _ _ (by rw [mg_len, ha]) hj, mg_get _ _ _ _ ha hj, mg_get _ _ _ _ (by rw [mg_len, ha]) hj, mg_get _ _ _ _ ha hj]
  cases hx : x.testBit j <;> cases hy : y.testBit j <;> simp_all
theorem mg_zero (a b : List Int) (ha : a.length = 64) : mg a b 0 = a := by
  refine ext64 (by rw [mg_len, ha]) ha fun j hj => ?_
  rw [mg_get _ _ _ _ ha hj, Nat.zero_testBit]; simp
theorem mg_full (a b : List Int) (ha : a.length = 64) (hb : b.length = 64) : mg a b 18446744073709551615 = b := by
  refine ext64 (by rw [mg_len, ha]) hb fun j hj => ?_
  rw [mg_get _ _ _ _ ha hj, show 18446744073709551615 = 2 ^ 64 - 1 from rfl, Nat.testBit_two_pow_sub_one]
  simp [hj]
theorem mg_left (a b : List Int) (x : Nat) (y : Nat) (ha : a.length = 64) (hb : b.length = 64) (h : ∀ j, j < 64 → y.testBit j = !x.testBit j) : mg (mg a b x) b y = b := by
  refine ext64 (by rw [mg_len, mg_len, ha]) hb fun j hj => ?_
  rw [mg_get _ _ _ _ (by rw [mg_len, ha]) hj, mg_get _ _ _ _ ha hj, h j hj]
  cases x.testBit j <;> simp
theorem mg_back (a b : List Int) (x : Nat) (ha : a.length = 64) : mg (mg a b x) a x = a := by
  refine ext64 (by rw [mg_len, mg_len, ha]) ha fun j hj => ?_
  rw [mg_get _ _ _ _ (by rw [mg_len, ha]) hj, mg_get _ _ _ _ ha hj]
  cases x.testBit j <;> simp
attribute [irreducible] mg
end Go.Proofs.Ytifpldennoocmaa
