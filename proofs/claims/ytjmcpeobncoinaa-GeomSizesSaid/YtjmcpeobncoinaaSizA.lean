/- contracts of Weight, Parity, Bytes and the reference's Weight. -/
import Derived.Test.YtjmcpeobncoinaaGeoC
import Derived.Test.YtjmcpeobncoinaaPlD
namespace Go.Proofs.Ytjmcpeobncoinaa
set_option linter.unusedVariables false
open Go.RowKit

set_option maxHeartbeats 1000000 in
theorem weight_any (x : Nat) (hx : x < 4294967296) (w : World) :
    Calls Try.prog 50 #[.int .u32 x] w fun e w' => e = .returned (.int .i64 (popc x : Nat)) ∧ w = w' := by
  have hle := popc_le x
  generalize hP : popc x = P at *
  have HP0 := Lib.hid hP
  clear hP
  go_enter Try.func50, Try.ntmps50
  go_wp2
  go_loop [0, 3] (fun p n => ∃ m k : Nat, p = .int .u32 m ∧ n = .int .i64 k ∧ m < 4294967296 ∧ k + popc m = P) (fun p _ => (intOf p).toNat)
  case atStart => exact ⟨x, 0, rfl, rfl, hx, by have := HP0.out; omega⟩
  case round =>
    obtain ⟨m, k, rfl, rfl, hm, hk⟩ := hrel
    by_cases h0 : m = 0
    · subst h0
      rw [popc_zero] at hk
      have HK := Lib.hid hk
      clear hk
      go_wp2
      go_ret
      exact ⟨ret_int (by have := HK.out; omega), rfl⟩
    · have hp := popc_kern (n := m) (by omega) (by omega)
      have hd : m &&& (m - 1) ≤ m - 1 := Nat.and_le_right
      have hb := band32_nat m (m - 1) (by omega) (by omega)
      have hc : ((m : Int) - 1) = ((m - 1 : Nat) : Int) := by omega
      have hn0 : ((m : Int) == 0) = false := by simp; omega
      have hm1 : 1 ≤ m := by omega
      have hk64 : k ≤ 64 := by omega
      have HH : Hid (k + popc m = P) := hk
      have HP : Hid (popc (m &&& (m - 1)) + 1 = popc m) := hp
      have HB : Hid (bits .and .u32 (m : Int) ((m : Int) - 1) = ((m &&& (m - 1) : Nat) : Int)) := by show _ = _; rw [hc]; exact hb
      clear hk hp hb hc h0
      go_wp2
      go_round
      case rel => exact ⟨m &&& (m - 1), k + 1, by rw [HB.out], by go_num, by omega, by have := HH.out; have := HP.out; omega⟩
      case measure => rw [HB.out]; simp [intOf]; omega

set_option maxHeartbeats 1000000 in
theorem parity_any (x : Nat) (hx : x < 4294967296) (w : World) :
    Calls Try.prog 42 #[.int .u32 x] w fun e w' => e = .returned (.int .i64 ((popc x : Nat) % 2 : Int)) ∧ w = w' := by
  go_enter Try.func42, Try.ntmps42
  go_wp2_with (go_at_call 50; refine (weight_any x hx _).mono ?_; rintro e w' ⟨rfl, rfl⟩)
  go_ret
  exact ⟨ret_int (band1 _), rfl⟩

set_option maxHeartbeats 1000000 in
theorem Parity_any (a : Int) (x : Nat) (hx : a % 8388608 = (x : Int)) (w : World) :
    Calls Try.prog 24 #[.int .i64 a] w fun e w' => e = .returned (.int .i64 ((popc x : Nat) % 2 : Int)) ∧ w = w' := by
  have hlt : x < 8388608 := by have := Int.emod_lt_of_pos a (show (0 : Int) < 8388608 by omega); omega
  have HB : Hid (bits .and .i64 a 8388607 = (x : Int)) := by show _ = _; rw [band23, hx]
  clear hx
  go_enter Try.func24, Try.ntmps24
  go_wp2_with fail
  try rw [HB.out]
  rw [show (x : Int) % 4294967296 = (x : Int) from Int.emod_eq_of_lt (by omega) (by omega)]
  refine (parity_any x (by omega) _).mono ?_; rintro e w' ⟨rfl, rfl⟩
  go_wp2_with fail
  go_ret
  exact ⟨rfl, rfl⟩

set_option maxHeartbeats 1000000 in
theorem rweight_any (x : Nat) (hx : x < 4294967296) (w : World) :
    Calls Try.prog 25 #[.int .u64 x] w fun e w' => e = .returned (.int .i64 (popc x : Nat)) ∧ w = w' := by
  have hle := popc_le x
  generalize hP : popc x = P at *
  have HP0 := Lib.hid hP
  clear hP
  go_enter Try.func25, Try.ntmps25
  go_wp2
  go_loop [0, 3] (fun p n => ∃ m k : Nat, p = .int .u64 m ∧ n = .int .i64 k ∧ m ≤ x ∧ k + popc m = P) (fun p _ => (intOf p).toNat)
  case atStart => exact ⟨x, 0, rfl, rfl, Nat.le_refl _, by have := HP0.out; omega⟩
  case round =>
    obtain ⟨m, k, rfl, rfl, hm, hk⟩ := hrel
    by_cases h0 : m = 0
    · subst h0
      rw [popc_zero] at hk
      have HK := Lib.hid hk
      clear hk
      go_wp2
      go_ret
      exact ⟨ret_int (by have := HK.out; omega), rfl⟩
    · have hp := popc_step (n := m) (by omega)
      have HH : Hid (k + popc m = P) := hk
      have HP : Hid (popc m = m % 2 + popc (m / 2)) := hp
      have hm1 : 1 ≤ m := by omega
      have hk64 : k ≤ 64 := by omega
      clear hk hp h0
      go_wp2
      go_round
      case rel => exact ⟨m / 2, k + m % 2, by go_num, by go_num, by omega, by have := HH.out; have := HP.out; omega⟩
      case measure => simp [intOf]; omega

set_option maxHeartbeats 1000000 in
theorem bytes_any (a : Int) (w : World) :
    Calls Try.prog 21 #[.int .i64 a] w fun e w' => e = .returned (.agg #[.int .u8 (a % 256), .int .u8 (a / 256 % 256), .int .u8 (a / 65536 % 128)]) ∧ Below w.heap.size w w' := by
  have h1 := Int.emod_nonneg (a / 65536) (show (256 : Int) ≠ 0 by omega)
  have h2 := Int.emod_lt_of_pos (a / 65536) (show (0 : Int) < 256 by omega)
  go_enter Try.func21, Try.ntmps21
  go_wp2
  rw [band8_127 _ h1 h2, show a / 65536 % 256 % 128 = a / 65536 % 128 from Int.emod_emod_of_dvd _ (by decide)]
  exact bodyPost_ret (v := .agg #[.int .u8 (a % 256), .int .u8 (a / 256 % 256), .int .u8 (a / 65536 % 128)]) (by simp [results, Try.results21, go_sem]) rfl ⟨rfl, (Below.refl _ _).alloc (Nat.le_refl _) _⟩
end Go.Proofs.Ytjmcpeobncoinaa
