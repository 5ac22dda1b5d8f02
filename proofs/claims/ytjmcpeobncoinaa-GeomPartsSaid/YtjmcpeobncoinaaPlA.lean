/- plain facts on bits and powers of two: no program in sight. -/
import Derived.WalkKit
namespace Go.Proofs.Ytjmcpeobncoinaa
set_option linter.unusedVariables false
open Go.RowKit

theorem band_nat (a b : Nat) (ha : a < 9223372036854775808) (hb : b < 9223372036854775808) : bits .and .i64 (a : Int) (b : Int) = ((a &&& b : Nat) : Int) := by
  have hab : a &&& b < 9223372036854775808 := Nat.lt_of_le_of_lt Nat.and_le_left ha
  show IntKind.i64.wrap (((BitVec.ofInt 64 (a : Int) &&& BitVec.ofInt 64 (b : Int)).toNat : Nat) : Int) = _
  rw [BitVec.ofInt_natCast, BitVec.ofInt_natCast]
  simp only [BitVec.toNat_and, BitVec.toNat_ofNat]
  rw [Nat.mod_eq_of_lt (by omega), Nat.mod_eq_of_lt (by omega), IntKind.wrap_i64]
  omega

theorem bor_nat (a b : Nat) (ha : a < 9223372036854775808) (hb : b < 9223372036854775808) : bits .or .i64 (a : Int) (b : Int) = ((a ||| b : Nat) : Int) := by
  have hab : a ||| b < 9223372036854775808 := Nat.or_lt_two_pow (n := 63) ha hb
  show IntKind.i64.wrap (((BitVec.ofInt 64 (a : Int) ||| BitVec.ofInt 64 (b : Int)).toNat : Nat) : Int) = _
  rw [BitVec.ofInt_natCast, BitVec.ofInt_natCast]
  simp only [BitVec.toNat_or, BitVec.toNat_ofNat]
  rw [Nat.mod_eq_of_lt (by omega), Nat.mod_eq_of_lt (by omega), IntKind.wrap_i64]
  omega

theorem bxor_nat (a b : Nat) (ha : a < 9223372036854775808) (hb : b < 9223372036854775808) : bits .xor .i64 (a : Int) (b : Int) = ((a ^^^ b : Nat) : Int) := by
  have hab : a ^^^ b < 9223372036854775808 := Nat.xor_lt_two_pow (n := 63) ha hb
  show IntKind.i64.wrap (((BitVec.ofInt 64 (a : Int) ^^^ BitVec.ofInt 64 (b : Int)).toNat : Nat) : Int) = _
  rw [BitVec.ofInt_natCast, BitVec.ofInt_natCast]
  simp only [BitVec.toNat_xor, BitVec.toNat_ofNat]
  rw [Nat.mod_eq_of_lt (by omega), Nat.mod_eq_of_lt (by omega), IntKind.wrap_i64]
  omega

/-- 'x & (2^k - 1)' of any whole number is what is left by 2^k. -/
theorem band_low (x : Int) (k : Nat) (hk : k ≤ 32) : bits .and .i64 x ((2 ^ k - 1 : Nat) : Int) = x % ((2 ^ k : Nat) : Int) := by
  show IntKind.i64.wrap (((BitVec.ofInt 64 x &&& BitVec.ofInt 64 ((2 ^ k - 1 : Nat) : Int)).toNat : Nat) : Int) = _
  have h2 : 2 ^ k ≤ 2 ^ 32 := Nat.pow_le_pow_right (by decide) hk
  have h1 : 1 ≤ 2 ^ k := Nat.one_le_two_pow
  rw [BitVec.ofInt_natCast]
  simp only [BitVec.toNat_and, BitVec.toNat_ofNat, BitVec.toNat_ofInt]
  rw [Nat.mod_eq_of_lt (a := 2 ^ k - 1) (by omega), Nat.and_two_pow_sub_one_eq_mod]
  have hd : ((2 ^ k : Nat) : Int) ∣ ((2 ^ 64 : Nat) : Int) := Int.natCast_dvd_natCast.2 (Nat.pow_dvd_pow 2 (by omega))
  have e1 : (((x % ((2 ^ 64 : Nat) : Int)).toNat % 2 ^ k : Nat) : Int) = x % ((2 ^ k : Nat) : Int) := by
    rw [Int.natCast_emod, Int.toNat_of_nonneg (Int.emod_nonneg _ (by decide)), Int.emod_emod_of_dvd _ hd]
  have e2 := Int.emod_nonneg x (b := ((2 ^ k : Nat) : Int)) (by omega)
  have e3 := Int.emod_lt_of_pos x (b := ((2 ^ k : Nat) : Int)) (by omega)
  rw [e1, IntKind.wrap_i64]
  omega
theorem band15 (x : Int) : bits .and .i64 x 15 = x % 16 := band_low x 4 (by decide)
theorem band63 (x : Int) : bits .and .i64 x 63 = x % 64 := band_low x 6 (by decide)
theorem band1023 (x : Int) : bits .and .i64 x 1023 = x % 1024 := band_low x 10 (by decide)
theorem band23 (x : Int) : bits .and .i64 x 8388607 = x % 8388608 := band_low x 23 (by decide)

/-- a power of 2 up to another one -/
def pw (n m : Int) : Bool := decide (1 ≤ n) && decide (n ≤ m) && (List.range 11).any fun k => decide (n = 2 ^ k)

theorem pow_dec : ∀ n : Nat, n < 1025 → n ≠ 0 → (decide ((n &&& (n - 1)) = 0)) = (List.range 11).any (fun k => decide (n = 2 ^ k)) := by decide +kernel

theorem pw_bits (n m : Int) (h1 : 1 ≤ n) (h2 : n ≤ m) (hm : m ≤ 1024) : (bits .and .i64 n (n - 1) == 0) = pw n m := by
  obtain ⟨k, rfl⟩ := Int.eq_ofNat_of_zero_le (show 0 ≤ n by omega)
  have e : ((k : Int) - 1) = ((k - 1 : Nat) : Int) := by omega
  rw [e, band_nat _ _ (by omega) (by omega)]
  have hp := pow_dec k (by omega) (by omega)
  unfold pw
  rw [show decide (1 ≤ (k : Int)) = true from by simp; omega, show decide ((k : Int) ≤ m) = true from by simpa using h2]
  rw [Bool.true_and, Bool.true_and]
  have e2 : (((k &&& (k - 1) : Nat) : Int) == 0) = decide ((k &&& (k - 1)) = 0) := by
    rw [Bool.eq_iff_iff]; simp
  rw [e2, hp]
  congr 1
  funext j
  rw [Bool.eq_iff_iff]
  simp only [decide_eq_true_eq]
  constructor
  · rintro rfl; norm_cast
  · intro h; exact_mod_cast h

theorem pw_no1 (n m : Int) (h : n < 1) : pw n m = false := by unfold pw; rw [show decide (1 ≤ n) = false from by simp; omega]; rfl
theorem pw_no2 (n m : Int) (h : m < n) : pw n m = false := by unfold pw; rw [show decide (n ≤ m) = false from by simp; omega]; simp
theorem pw_cases {n m : Int} (h : pw n m = true) : 1 ≤ n ∧ n ≤ m := by
  unfold pw at h; simp only [Bool.and_eq_true, decide_eq_true_eq] at h; exact h.1
theorem pw_pow {n m : Int} (h : pw n m = true) : ∃ k : Nat, k < 11 ∧ n = 2 ^ k := by
  unfold pw at h; simp only [Bool.and_eq_true, decide_eq_true_eq, List.any_eq_true, List.mem_range] at h; exact h.2

/-- may a geometry be? -/
def rightB (r s b d c : Int) : Bool := pw r 8 && (decide (0 ≤ s) && (decide (s ≤ 8 - r) && (pw b 16 && (pw d 1024 && (pw c 64 && decide ((r + s) * b * d * c ≤ 4096))))))

theorem mul_in {a b m n : Int} (h1 : 1 ≤ a) (h2 : a ≤ m) (h3 : 1 ≤ b) (h4 : b ≤ n) : 1 ≤ a * b ∧ a * b ≤ m * n := by
  constructor
  · have := Int.mul_le_mul h1 h3 (by decide) (by omega); simpa using this
  · exact Int.mul_le_mul h2 h4 (by omega) (by omega)

theorem prod_in {r s b d c : Int} (h1 : pw r 8 = true) (h2 : 0 ≤ s) (h3 : s ≤ 8 - r) (h4 : pw b 16 = true) (h5 : pw d 1024 = true) (h6 : pw c 64 = true) :
    1 ≤ r ∧ r ≤ 8 ∧ 1 ≤ b ∧ b ≤ 16 ∧ 1 ≤ d ∧ d ≤ 1024 ∧ 1 ≤ c ∧ c ≤ 64 ∧ (1 ≤ (r + s) * b ∧ (r + s) * b ≤ 8 * 16) ∧ (1 ≤ (r + s) * b * d ∧ (r + s) * b * d ≤ 8 * 16 * 1024) ∧ (1 ≤ (r + s) * b * d * c ∧ (r + s) * b * d * c ≤ 8 * 16 * 1024 * 64) := by
  have e1 := pw_cases h1
  have e4 := pw_cases h4
  have e5 := pw_cases h5
  have e6 := pw_cases h6
  have m1 := mul_in (a := r + s) (by omega) (show r + s ≤ 8 by omega) e4.1 e4.2
  have m2 := mul_in m1.1 m1.2 e5.1 e5.2
  have m3 := mul_in m2.1 m2.2 e6.1 e6.2
  exact ⟨e1.1, e1.2, e4.1, e4.2, e5.1, e5.2, e6.1, e6.2, m1, m2, m3⟩

theorem rightB_ok {r s b d c : Int} (h1 : pw r 8 = true) (h2 : 0 ≤ s) (h3 : s ≤ 8 - r) (h4 : pw b 16 = true) (h5 : pw d 1024 = true) (h6 : pw c 64 = true) :
    decide (wrap64 (wrap64 (wrap64 (wrap64 (r + s) * b) * d) * c) ≤ 4096) = rightB r s b d c := by
  obtain ⟨a1, a2, a3, a4, a5, a6, a7, a8, m1, m2, m3⟩ := prod_in h1 h2 h3 h4 h5 h6
  rw [IntWalk.wrap64_in (r + s) ⟨by omega, by omega⟩, IntWalk.wrap64_in ((r + s) * b) ⟨by omega, by omega⟩, IntWalk.wrap64_in ((r + s) * b * d) ⟨by omega, by omega⟩, IntWalk.wrap64_in ((r + s) * b * d * c) ⟨by omega, by omega⟩]
  unfold rightB
  rw [h1, h4, h5, h6, decide_eq_true h2, decide_eq_true h3]; rfl

theorem w8 {r : Int} (h : pw r 8 = true) : wrap64 (8 - r) = 8 - r := by have := pw_cases h; exact IntWalk.wrap64_in _ ⟨by omega, by omega⟩
theorem rightB_no {r s b d c : Int} (h : pw r 8 = true → 0 ≤ s → s ≤ 8 - r → pw b 16 = true → pw d 1024 = true → pw c 64 = true → False) : rightB r s b d c = false := by
  rw [← Bool.not_eq_true]
  intro h'
  unfold rightB at h'
  simp only [Bool.and_eq_true, decide_eq_true_eq] at h'
  obtain ⟨h1, h2, h3, h4, h5, h6, _⟩ := h'
  exact h h1 h2 h3 h4 h5 h6
theorem rightB_yes {r s b d c : Int} (h : rightB r s b d c = true) : pw r 8 = true ∧ 0 ≤ s ∧ s ≤ 8 - r ∧ pw b 16 = true ∧ pw d 1024 = true ∧ pw c 64 = true ∧ (r + s) * b * d * c ≤ 4096 := by
  unfold rightB at h
  simp only [Bool.and_eq_true, decide_eq_true_eq] at h
  exact h

def bel (a b : Int) : Bool := decide (0 ≤ a) && decide (a < b)
theorem bel_yes {a b : Int} (h : bel a b = true) : 0 ≤ a ∧ a < b := by
  unfold bel at h; simp only [Bool.and_eq_true, decide_eq_true_eq] at h; exact h
theorem bel_mk {a b : Int} (h : 0 ≤ a) (h' : a < b) : bel a b = true := by
  unfold bel; simp only [Bool.and_eq_true, decide_eq_true_eq]; exact ⟨h, h'⟩
/-- is a place there? -/
def holdsB (r s b d c pr pb pd pc : Int) : Bool :=
  rightB r s b d c && (bel pr (r + s) && (bel pb b && (bel pd d && bel pc c)))
theorem holdsB_yes {r s b d c pr pb pd pc : Int} (h : holdsB r s b d c pr pb pd pc = true) : rightB r s b d c = true ∧ 0 ≤ pr ∧ pr < r + s ∧ 0 ≤ pb ∧ pb < b ∧ 0 ≤ pd ∧ pd < d ∧ 0 ≤ pc ∧ pc < c := by
  unfold holdsB at h
  simp only [Bool.and_eq_true] at h
  obtain ⟨h1, h2, h3, h4, h5⟩ := h
  have := bel_yes h2
  have := bel_yes h3
  have := bel_yes h4
  have := bel_yes h5
  exact ⟨h1, by omega⟩
theorem holdsB_mk {r s b d c pr pb pd pc : Int} (h0 : rightB r s b d c = true) (h1 : 0 ≤ pr) (h2 : pr < r + s) (h3 : 0 ≤ pb) (h4 : pb < b) (h5 : 0 ≤ pd) (h6 : pd < d) (h7 : 0 ≤ pc) (h8 : pc < c) : holdsB r s b d c pr pb pd pc = true := by
  unfold holdsB
  rw [h0, bel_mk h1 h2, bel_mk h3 h4, bel_mk h5 h6, bel_mk h7 h8]; rfl
theorem holdsB_eq {r s b d c pr pb pd pc : Int} (h : rightB r s b d c = true) : holdsB r s b d c pr pb pd pc = (bel pr (r + s) && (bel pb b && (bel pd d && bel pc c))) := by
  unfold holdsB; rw [h]; rfl
theorem holdsB_right {r s b d c pr pb pd pc : Int} (h : ¬ rightB r s b d c = true) : holdsB r s b d c pr pb pd pc = false := by
  unfold holdsB; rw [Bool.not_eq_true] at h; rw [h]; rfl
theorem holdsB_no {r s b d c pr pb pd pc : Int} (h : rightB r s b d c = true → 0 ≤ pr → pr < r + s → 0 ≤ pb → pb < b → 0 ≤ pd → pd < d → 0 ≤ pc → pc < c → False) : holdsB r s b d c pr pb pd pc = false := by
  rw [← Bool.not_eq_true]
  intro h'
  obtain ⟨h1, h2, h3, h4, h5, h6, h7, h8, h9⟩ := holdsB_yes h'
  exact h h1 h2 h3 h4 h5 h6 h7 h8 h9
theorem rightB_bd {r s b d c : Int} (h : rightB r s b d c = true) : 1 ≤ r ∧ 0 ≤ s ∧ r + s ≤ 8 ∧ 1 ≤ b ∧ b ≤ 16 ∧ 1 ≤ d ∧ d ≤ 1024 ∧ 1 ≤ c ∧ c ≤ 64 := by
  obtain ⟨h1, h2, h3, h4, h5, h6, _⟩ := rightB_yes h
  have := pw_cases h1
  have := pw_cases h4
  have := pw_cases h5
  have := pw_cases h6
  omega
theorem holdsB_bd {r s b d c pr pb pd pc : Int} (h : holdsB r s b d c pr pb pd pc = true) : 0 ≤ pr ∧ pr < 8 ∧ 0 ≤ pb ∧ pb < 16 ∧ 0 ≤ pd ∧ pd < 1024 ∧ 0 ≤ pc ∧ pc < 64 := by
  have h' := holdsB_yes h
  have := rightB_bd h'.1
  omega

theorem wrs {r s b d c : Int} (h : rightB r s b d c = true) : wrap64 (r + s) = r + s := by have := rightB_bd h; exact IntWalk.wrap64_in _ ⟨by omega, by omega⟩

/-- a place's index -/
def idx (pr pb pd pc : Int) : Int := 1048576 * pr + 65536 * pb + 64 * pd + pc
theorem or_add (a b k : Nat) (h : b < 2 ^ k) : a * 2 ^ k ||| b = a * 2 ^ k + b := by
  rw [← Nat.shiftLeft_eq, ← Nat.shiftLeft_add_eq_or_of_lt h]
theorem idx_bits {pr pb pd pc : Int} (h1 : 0 ≤ pr) (h2 : pr < 8) (h3 : 0 ≤ pb) (h4 : pb < 16) (h5 : 0 ≤ pd) (h6 : pd < 1024) (h7 : 0 ≤ pc) (h8 : pc < 64) :
    bits .or .i64 (bits .or .i64 (bits .or .i64 (pr * 1048576) (pb * 65536)) (pd * 64)) pc = idx pr pb pd pc := by
  obtain ⟨a, rfl⟩ := Int.eq_ofNat_of_zero_le h1
  obtain ⟨b, rfl⟩ := Int.eq_ofNat_of_zero_le h3
  obtain ⟨d, rfl⟩ := Int.eq_ofNat_of_zero_le h5
  obtain ⟨c, rfl⟩ := Int.eq_ofNat_of_zero_le h7
  have e1 : a * 1048576 ||| b * 65536 = a * 1048576 + b * 65536 := or_add a (b * 65536) 20 (by omega)
  have e2 : (a * 1048576 + b * 65536) ||| d * 64 = a * 1048576 + b * 65536 + d * 64 := by
    have := or_add (a * 16 + b) (d * 64) 16 (by omega)
    rw [show (a * 16 + b) * 2 ^ 16 = a * 1048576 + b * 65536 from by omega] at this
    exact this
  have e3 : (a * 1048576 + b * 65536 + d * 64) ||| c = a * 1048576 + b * 65536 + d * 64 + c := by
    have := or_add (a * 16384 + b * 1024 + d) c 6 (by omega)
    rw [show (a * 16384 + b * 1024 + d) * 2 ^ 6 = a * 1048576 + b * 65536 + d * 64 from by omega] at this
    exact this
  have c1 : (a : Int) * 1048576 = ((a * 1048576 : Nat) : Int) := by omega
  have c2 : (b : Int) * 65536 = ((b * 65536 : Nat) : Int) := by omega
  have c3 : (d : Int) * 64 = ((d * 64 : Nat) : Int) := by omega
  rw [c1, c2, c3, bor_nat _ _ (by omega) (by omega), e1, bor_nat _ _ (by omega) (by omega), e2, bor_nat _ _ (by omega) (by omega), e3]
  unfold idx
  omega

/-- the reference's search for a power of 2 stands at q, and n is none of the smaller ones -/
def PowAt (n q : Int) : Prop := ∃ k : Nat, q = 2 ^ k ∧ ∀ j : Nat, j < k → n ≠ 2 ^ j
theorem powAt_one (n : Int) : PowAt n 1 := ⟨0, rfl, fun j h => by omega⟩
theorem powAt_next {n q : Int} (h : PowAt n q) (hn : n ≠ q) : PowAt n (q * 2) := by
  obtain ⟨k, rfl, hk⟩ := h
  refine ⟨k + 1, by rw [Int.pow_succ], fun j hj => ?_⟩
  by_cases e : j = k
  · subst e; exact hn
  · exact hk j (by omega)
theorem powAt_hit {n m q : Int} (h : PowAt n q) (hn : n = q) (hq : 1 ≤ q) (hm : q ≤ m) (h1 : m ≤ 1024) : pw n m = true := by
  obtain ⟨k, hk, _⟩ := h
  unfold pw
  rw [decide_eq_true (by omega), decide_eq_true (by omega), Bool.true_and, Bool.true_and, List.any_eq_true]
  refine ⟨k, ?_, by rw [decide_eq_true_eq]; omega⟩
  rw [List.mem_range]
  refine Nat.lt_of_not_le fun hc => ?_
  have h2 : (2 : Nat) ^ 11 ≤ 2 ^ k := Nat.pow_le_pow_right (by decide) hc
  have h3 : q = ((2 ^ k : Nat) : Int) := by rw [hk]; norm_cast
  omega
theorem powAt_end {n m q : Int} (h : PowAt n q) (hm : m < q) : pw n m = false := by
  obtain ⟨k, hk, hj⟩ := h
  rw [← Bool.not_eq_true]
  intro hp
  obtain ⟨j, _, hn⟩ := pw_pow hp
  have := pw_cases hp
  refine hj j (Nat.lt_of_not_le fun hc => ?_) hn
  have h2 : (2 : Nat) ^ k ≤ 2 ^ j := Nat.pow_le_pow_right (by decide) hc
  have h3 : q = ((2 ^ k : Nat) : Int) := by rw [hk]; norm_cast
  have h4 : n = ((2 ^ j : Nat) : Int) := by rw [hn]; norm_cast
  omega

theorem rightB_ref {r s b d c : Int} (h1 : pw r 8 = true) (h2 : 0 ≤ s) (h3 : s ≤ 8 - r) (h4 : pw b 16 = true) (h5 : pw d 1024 = true) (h6 : pw c 64 = true) :
    decide (wrap64 (wrap64 (wrap64 (wrap64 (r + s) * b) * d) * c) ≤ 4096) = rightB r s b d c := rightB_ok h1 h2 h3 h4 h5 h6

/-- of an index from 0 on: its place's index is the index. -/
theorem idx_place (i : Int) : idx (i / 1048576) (i / 65536 % 16) (i / 64 % 1024) (i % 64) = i := by unfold idx; omega
theorem idx_div {pr pb pd pc : Int} (h1 : 0 ≤ pr) (h3 : 0 ≤ pb) (h4 : pb < 16) (h5 : 0 ≤ pd) (h6 : pd < 1024) (h7 : 0 ≤ pc) (h8 : pc < 64) :
    idx pr pb pd pc / 1048576 = pr ∧ idx pr pb pd pc / 65536 % 16 = pb ∧ idx pr pb pd pc / 64 % 1024 = pd ∧ idx pr pb pd pc % 64 = pc := by
  unfold idx; omega

end Go.Proofs.Ytjmcpeobncoinaa
