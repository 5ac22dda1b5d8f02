/- How many lines a rank has, and how many pages there are, is the document's; so are parity and bytes of any index, which tell any two apart that are told apart by 23 bits: for every geometry and any two indices. No condition. -/
import Derived.Test.YtjmcpeobncoinaaSizA
import Derived.Test.YtjmcpeobncoinaaFr
import Derived.Test.YtjmcpeobncoinaaArr
namespace Go.Proofs.Ytjmcpeobncoinaa
set_option linter.unusedVariables false
open Go.ChangeShapes Go.WideShapes Go.ChangeAt Go.RowKit
namespace sizes

theorem rright_is {r s b d c : Int} {x : Bool} (h : rightB r s b d c = x) (w : World) :
    Calls Try.prog 15 #[.agg #[.int .i64 r, .int .i64 s, .int .i64 b, .int .i64 d, .int .i64 c]] w fun e w' => e = .returned (.bool x) ∧ Below w.heap.size w w' := by
  have := rright_any r s b d c w; rw [h] at this; exact this
theorem per_is {r s b d c x : Int} (h : perB r s b d c = x) (w : World) :
    Calls Try.prog 22 #[.agg #[.int .i64 r, .int .i64 s, .int .i64 b, .int .i64 d, .int .i64 c]] w fun e w' => e = .returned (.int .i64 x) ∧ Below w.heap.size w w' := by
  have := perRank_any r s b d c w; rw [h] at this; exact this
theorem pages_is {r s b d c x : Int} (h : pagesB r s b d c = x) (w : World) :
    Calls Try.prog 23 #[.agg #[.int .i64 r, .int .i64 s, .int .i64 b, .int .i64 d, .int .i64 c]] w fun e w' => e = .returned (.int .i64 x) ∧ Below w.heap.size w w' := by
  have := pages_any r s b d c w; rw [h] at this; exact this

theorem eq3 (a0 a1 a2 b0 b1 b2 : Int) (w : World) : (Op.equalIn 10000 41 (.agg #[.int .u8 a0, .int .u8 a1, .int .u8 a2]) (.agg #[.int .u8 b0, .int .u8 b1, .int .u8 b2])).run Try.prog w = .ok (a0 == b0 && (a1 == b1 && a2 == b2)) w := by
  have hi : ∃ i, Try.prog.info? 5 = some i := by
    cases h : Try.prog.info? 5 with
    | none => have := Try.underlying5; simp [Program.underlying, h] at this
    | some i => exact ⟨i, rfl⟩
  obtain ⟨i, hi⟩ := hi
  have := equalIn_ints 9998 Try.underlying41 Try.underlying5 hi (by kernel_rfl) [a0, a1, a2] [b0, b1, b2] rfl rfl w
  refine Eq.trans this ?_
  congr 1
  rw [Bool.eq_iff_iff]
  simp

/-- what is known of an index's bytes -/
structure Byt (a : Int) (L : Nat) (x0 x1 x2 : Int) : Prop where
  low : a % 8388608 = (L : Int)
  call : ∀ w, Calls Try.prog 21 #[.int .i64 a] w fun e w' => e = .returned (.agg #[.int .u8 x0, .int .u8 x1, .int .u8 x2]) ∧ Below w.heap.size w w'
  sum : x0 + 256 * x1 + 65536 * x2 = L
  h0 : 0 ≤ x0
  g0 : x0 ≤ 255
  h1 : 0 ≤ x1
  g1 : x1 ≤ 255
  h2 : 0 ≤ x2
  g2 : x2 ≤ 127
theorem byt_of (a : Int) : ∃ L : Nat, L < 8388608 ∧ Byt a L (a % 256) (a / 256 % 256) (a / 65536 % 128) := by
  refine ⟨(a % 8388608).toNat, by omega, ?_⟩
  exact ⟨by omega, bytes_any a, by omega, by omega, by omega, by omega, by omega, by omega, by omega⟩
theorem u64_low {a : Int} {L : Nat} (h : a % 8388608 = (L : Int)) : (IntKind.u64.wrap a).tmod 8388608 = (L : Int) := by
  rw [IntKind.wrap_u64, Int.tmod_eq_emod_of_nonneg (Int.emod_nonneg _ (by decide)), Int.emod_emod_of_dvd a (by decide), h]

set_option maxRecDepth 100000 in
set_option maxHeartbeats 2000000 in
theorem a_same (r s b d c u v x0 x1 x2 : Int) (L : Nat) (hL : L < 8388608) (w : World) (hu : Byt u L x0 x1 x2) (hw : Byt v L x0 x1 x2) (hr : rightB r s b d c = true) :
    Calls Try.prog 5 #[.agg #[.int .i64 r, .int .i64 s, .int .i64 b, .int .i64 d, .int .i64 c], .int .i64 u, .int .i64 v] w fun e w' => e = .returned (.bool true) ∧ Below w.heap.size w w' := by
  have HR := Lib.hid hr
  have HP := Lib.hid (per_is (show perB r s b d c = b * d * c by unfold perB; rw [hr]; rfl))
  have HQ := Lib.hid (pages_is (show pagesB r s b d c = r * b * d by unfold pagesB; rw [hr]; rfl))
  have HU := Lib.hid hu.call
  have HV := Lib.hid hw.call
  have HLu := Lib.hid (u64_low hu.low)
  have HLv := Lib.hid (u64_low hw.low)
  have HY := Lib.hid (Parity_any u L hu.low)
  have HW := Lib.hid (rweight_any L (by omega))
  have HS := Lib.hid hu.sum
  have hS : ((x0 + 256 * x1 + 65536 * x2) == (L : Int)) = true := by rw [HS.out]; simp
  obtain ⟨z1, z2, z3, h0, g0, h1, g1, h2, g2⟩ := hu
  obtain ⟨z4, z5, z6, k0, l0, k1, l1, k2, l2⟩ := hw
  clear z1 z2 z3 z4 z5 z6
  obtain ⟨a1, a2, a3, a4, a5, a6, a7, a8, a9⟩ := rightB_bd hr
  have m1 := mul_in a4 a5 a6 a7
  have m2 := mul_in m1.1 m1.2 a8 a9
  have m3 := mul_in a1 (show r ≤ 8 by omega) a4 a5
  have m4 := mul_in m3.1 m3.2 a6 a7
  obtain ⟨m1a, m1b⟩ := m1
  obtain ⟨m2a, m2b⟩ := m2
  obtain ⟨m3a, m3b⟩ := m3
  obtain ⟨m4a, m4b⟩ := m4
  clear hr
  generalize hPc : popc L = Pc at *
  clear hPc
  have he3 := eq3
  go_enter Try.func5, Try.ntmps5
  go_wp2_with fail
  refine (anchor_any _).mono ?_; rintro e w1 ⟨rfl, hb⟩; obtain ⟨hc, hf⟩ := bcell hb; have hz1 := size_one hb
  go_wp2_with fail
  refine (rright_is HR.out _).mono ?_; rintro e w2 ⟨rfl, hb2⟩; obtain ⟨hc2, hf2⟩ := bcell hb2; have hz2 := Nat.lt_of_lt_of_le hz1 hb2.size
  go_wp2_with fail
  go_quiet (fail)
  go_wp2_with fail
  rw [HLu.out, HLv.out]
  refine (HU.out _).mono ?_; rintro e w4 ⟨rfl, hb4⟩; replace hb4 : Below w2.heap.size w2 w4 := ⟨hb4.os, hb4.tape, hb4.output, hb4.size, hb4.block⟩; obtain ⟨hc4, hf4⟩ := bcell hb4; have hz4 := Nat.lt_of_lt_of_le hz2 (show w2.heap.size ≤ w4.heap.size from hb4.size)
  go_wp2_with fail
  refine (HV.out _).mono ?_; rintro e w5 ⟨rfl, hb5⟩; obtain ⟨hc5, hf5⟩ := bcell hb5; have hz5 := Nat.lt_of_lt_of_le hz4 hb5.size; have hq5 : w.heap.size < w5.heap.size + 1 := Nat.lt_succ_of_lt hz5
  go_wp2_with fail
  refine (HP.out _).mono ?_; rintro e w6 ⟨rfl, hb6⟩; obtain ⟨hc6, hf6⟩ := bcell hb6; obtain ⟨hx6, hy6⟩ := size_two hb6; have hz6 := Nat.lt_trans hz5 hx6
  go_wp2_with fail
  refine (HQ.out _).mono ?_; rintro e w7 ⟨rfl, hb7⟩; obtain ⟨hc7, hf7⟩ := bcell hb7; have hz7 := Nat.lt_of_lt_of_le hz6 hb7.size
  go_wp2_with fail
  refine (HY.out _).mono ?_; rintro e w8 ⟨rfl, rfl⟩
  go_wp2_with fail
  refine (HW.out _).mono ?_; rintro e w9 ⟨rfl, rfl⟩
  go_wp2_with fail
  all_goals go_ret
  all_goals exact ⟨rfl, ((below_next (below_next (below_next (below_next (below_one hb) hb2) hb4) hb5) (below_two hb6)).trans (hb7.mono (Nat.le_of_lt hz6)))⟩

set_option maxRecDepth 100000 in
set_option maxHeartbeats 2000000 in
theorem a_d0 (r s b d c u v x0 x1 x2 y0 y1 y2 : Int) (L : Nat) (hL : L < 8388608) (M : Nat) (hM : M < 8388608) (w : World) (hu : Byt u L x0 x1 x2) (hw : Byt v M y0 y1 y2) (hne : x0 ≠ y0) (hlm : L ≠ M) (hr : rightB r s b d c = true) :
    Calls Try.prog 5 #[.agg #[.int .i64 r, .int .i64 s, .int .i64 b, .int .i64 d, .int .i64 c], .int .i64 u, .int .i64 v] w fun e w' => e = .returned (.bool true) ∧ Below w.heap.size w w' := by
  have HR := Lib.hid hr
  have HP := Lib.hid (per_is (show perB r s b d c = b * d * c by unfold perB; rw [hr]; rfl))
  have HQ := Lib.hid (pages_is (show pagesB r s b d c = r * b * d by unfold pagesB; rw [hr]; rfl))
  have HU := Lib.hid hu.call
  have HV := Lib.hid hw.call
  have HLu := Lib.hid (u64_low hu.low)
  have HLv := Lib.hid (u64_low hw.low)
  have HY := Lib.hid (Parity_any u L hu.low)
  have HW := Lib.hid (rweight_any L (by omega))
  have HS := Lib.hid hu.sum
  have hS : ((x0 + 256 * x1 + 65536 * x2) == (L : Int)) = true := by rw [HS.out]; simp
  obtain ⟨z1, z2, z3, h0, g0, h1, g1, h2, g2⟩ := hu
  obtain ⟨z4, z5, z6, k0, l0, k1, l1, k2, l2⟩ := hw
  clear z1 z2 z3 z4 z5 z6
  have n0 : ((x0 : Int) == y0) = false := by simpa using hne
  have n3 : ((L : Int) == (M : Int)) = false := by simp; omega
  clear hne hlm
  obtain ⟨a1, a2, a3, a4, a5, a6, a7, a8, a9⟩ := rightB_bd hr
  have m1 := mul_in a4 a5 a6 a7
  have m2 := mul_in m1.1 m1.2 a8 a9
  have m3 := mul_in a1 (show r ≤ 8 by omega) a4 a5
  have m4 := mul_in m3.1 m3.2 a6 a7
  obtain ⟨m1a, m1b⟩ := m1
  obtain ⟨m2a, m2b⟩ := m2
  obtain ⟨m3a, m3b⟩ := m3
  obtain ⟨m4a, m4b⟩ := m4
  clear hr
  generalize hPc : popc L = Pc at *
  clear hPc
  have he3 := eq3
  go_enter Try.func5, Try.ntmps5
  go_wp2_with fail
  refine (anchor_any _).mono ?_; rintro e w1 ⟨rfl, hb⟩; obtain ⟨hc, hf⟩ := bcell hb; have hz1 := size_one hb
  go_wp2_with fail
  refine (rright_is HR.out _).mono ?_; rintro e w2 ⟨rfl, hb2⟩; obtain ⟨hc2, hf2⟩ := bcell hb2; have hz2 := Nat.lt_of_lt_of_le hz1 hb2.size
  go_wp2_with fail
  go_quiet (fail)
  go_wp2_with fail
  rw [HLu.out, HLv.out]
  refine (HU.out _).mono ?_; rintro e w4 ⟨rfl, hb4⟩; replace hb4 : Below w2.heap.size w2 w4 := ⟨hb4.os, hb4.tape, hb4.output, hb4.size, hb4.block⟩; obtain ⟨hc4, hf4⟩ := bcell hb4; have hz4 := Nat.lt_of_lt_of_le hz2 (show w2.heap.size ≤ w4.heap.size from hb4.size)
  go_wp2_with fail
  refine (HV.out _).mono ?_; rintro e w5 ⟨rfl, hb5⟩; obtain ⟨hc5, hf5⟩ := bcell hb5; have hz5 := Nat.lt_of_lt_of_le hz4 hb5.size; have hq5 : w.heap.size < w5.heap.size + 1 := Nat.lt_succ_of_lt hz5
  go_wp2_with fail
  refine (HP.out _).mono ?_; rintro e w6 ⟨rfl, hb6⟩; obtain ⟨hc6, hf6⟩ := bcell hb6; obtain ⟨hx6, hy6⟩ := size_two hb6; have hz6 := Nat.lt_trans hz5 hx6
  go_wp2_with fail
  refine (HQ.out _).mono ?_; rintro e w7 ⟨rfl, hb7⟩; obtain ⟨hc7, hf7⟩ := bcell hb7; have hz7 := Nat.lt_of_lt_of_le hz6 hb7.size
  go_wp2_with fail
  refine (HY.out _).mono ?_; rintro e w8 ⟨rfl, rfl⟩
  go_wp2_with fail
  refine (HW.out _).mono ?_; rintro e w9 ⟨rfl, rfl⟩
  go_wp2_with fail
  all_goals go_ret
  all_goals exact ⟨rfl, ((below_next (below_next (below_next (below_next (below_one hb) hb2) hb4) hb5) (below_two hb6)).trans (hb7.mono (Nat.le_of_lt hz6)))⟩

set_option maxRecDepth 100000 in
set_option maxHeartbeats 2000000 in
theorem a_d1 (r s b d c u v x0 x1 x2 y1 y2 : Int) (L : Nat) (hL : L < 8388608) (M : Nat) (hM : M < 8388608) (w : World) (hu : Byt u L x0 x1 x2) (hw : Byt v M x0 y1 y2) (hne : x1 ≠ y1) (hlm : L ≠ M) (hr : rightB r s b d c = true) :
    Calls Try.prog 5 #[.agg #[.int .i64 r, .int .i64 s, .int .i64 b, .int .i64 d, .int .i64 c], .int .i64 u, .int .i64 v] w fun e w' => e = .returned (.bool true) ∧ Below w.heap.size w w' := by
  have HR := Lib.hid hr
  have HP := Lib.hid (per_is (show perB r s b d c = b * d * c by unfold perB; rw [hr]; rfl))
  have HQ := Lib.hid (pages_is (show pagesB r s b d c = r * b * d by unfold pagesB; rw [hr]; rfl))
  have HU := Lib.hid hu.call
  have HV := Lib.hid hw.call
  have HLu := Lib.hid (u64_low hu.low)
  have HLv := Lib.hid (u64_low hw.low)
  have HY := Lib.hid (Parity_any u L hu.low)
  have HW := Lib.hid (rweight_any L (by omega))
  have HS := Lib.hid hu.sum
  have hS : ((x0 + 256 * x1 + 65536 * x2) == (L : Int)) = true := by rw [HS.out]; simp
  obtain ⟨z1, z2, z3, h0, g0, h1, g1, h2, g2⟩ := hu
  obtain ⟨z4, z5, z6, k0, l0, k1, l1, k2, l2⟩ := hw
  clear z1 z2 z3 z4 z5 z6
  have n0 : ((x1 : Int) == y1) = false := by simpa using hne
  have n3 : ((L : Int) == (M : Int)) = false := by simp; omega
  clear hne hlm
  obtain ⟨a1, a2, a3, a4, a5, a6, a7, a8, a9⟩ := rightB_bd hr
  have m1 := mul_in a4 a5 a6 a7
  have m2 := mul_in m1.1 m1.2 a8 a9
  have m3 := mul_in a1 (show r ≤ 8 by omega) a4 a5
  have m4 := mul_in m3.1 m3.2 a6 a7
  obtain ⟨m1a, m1b⟩ := m1
  obtain ⟨m2a, m2b⟩ := m2
  obtain ⟨m3a, m3b⟩ := m3
  obtain ⟨m4a, m4b⟩ := m4
  clear hr
  generalize hPc : popc L = Pc at *
  clear hPc
  have he3 := eq3
  go_enter Try.func5, Try.ntmps5
  go_wp2_with fail
  refine (anchor_any _).mono ?_; rintro e w1 ⟨rfl, hb⟩; obtain ⟨hc, hf⟩ := bcell hb; have hz1 := size_one hb
  go_wp2_with fail
  refine (rright_is HR.out _).mono ?_; rintro e w2 ⟨rfl, hb2⟩; obtain ⟨hc2, hf2⟩ := bcell hb2; have hz2 := Nat.lt_of_lt_of_le hz1 hb2.size
  go_wp2_with fail
  go_quiet (fail)
  go_wp2_with fail
  rw [HLu.out, HLv.out]
  refine (HU.out _).mono ?_; rintro e w4 ⟨rfl, hb4⟩; replace hb4 : Below w2.heap.size w2 w4 := ⟨hb4.os, hb4.tape, hb4.output, hb4.size, hb4.block⟩; obtain ⟨hc4, hf4⟩ := bcell hb4; have hz4 := Nat.lt_of_lt_of_le hz2 (show w2.heap.size ≤ w4.heap.size from hb4.size)
  go_wp2_with fail
  refine (HV.out _).mono ?_; rintro e w5 ⟨rfl, hb5⟩; obtain ⟨hc5, hf5⟩ := bcell hb5; have hz5 := Nat.lt_of_lt_of_le hz4 hb5.size; have hq5 : w.heap.size < w5.heap.size + 1 := Nat.lt_succ_of_lt hz5
  go_wp2_with fail
  refine (HP.out _).mono ?_; rintro e w6 ⟨rfl, hb6⟩; obtain ⟨hc6, hf6⟩ := bcell hb6; obtain ⟨hx6, hy6⟩ := size_two hb6; have hz6 := Nat.lt_trans hz5 hx6
  go_wp2_with fail
  refine (HQ.out _).mono ?_; rintro e w7 ⟨rfl, hb7⟩; obtain ⟨hc7, hf7⟩ := bcell hb7; have hz7 := Nat.lt_of_lt_of_le hz6 hb7.size
  go_wp2_with fail
  refine (HY.out _).mono ?_; rintro e w8 ⟨rfl, rfl⟩
  go_wp2_with fail
  refine (HW.out _).mono ?_; rintro e w9 ⟨rfl, rfl⟩
  go_wp2_with fail
  all_goals go_ret
  all_goals exact ⟨rfl, ((below_next (below_next (below_next (below_next (below_one hb) hb2) hb4) hb5) (below_two hb6)).trans (hb7.mono (Nat.le_of_lt hz6)))⟩

set_option maxRecDepth 100000 in
set_option maxHeartbeats 2000000 in
theorem a_d2 (r s b d c u v x0 x1 x2 y2 : Int) (L : Nat) (hL : L < 8388608) (M : Nat) (hM : M < 8388608) (w : World) (hu : Byt u L x0 x1 x2) (hw : Byt v M x0 x1 y2) (hne : x2 ≠ y2) (hlm : L ≠ M) (hr : rightB r s b d c = true) :
    Calls Try.prog 5 #[.agg #[.int .i64 r, .int .i64 s, .int .i64 b, .int .i64 d, .int .i64 c], .int .i64 u, .int .i64 v] w fun e w' => e = .returned (.bool true) ∧ Below w.heap.size w w' := by
  have HR := Lib.hid hr
  have HP := Lib.hid (per_is (show perB r s b d c = b * d * c by unfold perB; rw [hr]; rfl))
  have HQ := Lib.hid (pages_is (show pagesB r s b d c = r * b * d by unfold pagesB; rw [hr]; rfl))
  have HU := Lib.hid hu.call
  have HV := Lib.hid hw.call
  have HLu := Lib.hid (u64_low hu.low)
  have HLv := Lib.hid (u64_low hw.low)
  have HY := Lib.hid (Parity_any u L hu.low)
  have HW := Lib.hid (rweight_any L (by omega))
  have HS := Lib.hid hu.sum
  have hS : ((x0 + 256 * x1 + 65536 * x2) == (L : Int)) = true := by rw [HS.out]; simp
  obtain ⟨z1, z2, z3, h0, g0, h1, g1, h2, g2⟩ := hu
  obtain ⟨z4, z5, z6, k0, l0, k1, l1, k2, l2⟩ := hw
  clear z1 z2 z3 z4 z5 z6
  have n0 : ((x2 : Int) == y2) = false := by simpa using hne
  have n3 : ((L : Int) == (M : Int)) = false := by simp; omega
  clear hne hlm
  obtain ⟨a1, a2, a3, a4, a5, a6, a7, a8, a9⟩ := rightB_bd hr
  have m1 := mul_in a4 a5 a6 a7
  have m2 := mul_in m1.1 m1.2 a8 a9
  have m3 := mul_in a1 (show r ≤ 8 by omega) a4 a5
  have m4 := mul_in m3.1 m3.2 a6 a7
  obtain ⟨m1a, m1b⟩ := m1
  obtain ⟨m2a, m2b⟩ := m2
  obtain ⟨m3a, m3b⟩ := m3
  obtain ⟨m4a, m4b⟩ := m4
  clear hr
  generalize hPc : popc L = Pc at *
  clear hPc
  have he3 := eq3
  go_enter Try.func5, Try.ntmps5
  go_wp2_with fail
  refine (anchor_any _).mono ?_; rintro e w1 ⟨rfl, hb⟩; obtain ⟨hc, hf⟩ := bcell hb; have hz1 := size_one hb
  go_wp2_with fail
  refine (rright_is HR.out _).mono ?_; rintro e w2 ⟨rfl, hb2⟩; obtain ⟨hc2, hf2⟩ := bcell hb2; have hz2 := Nat.lt_of_lt_of_le hz1 hb2.size
  go_wp2_with fail
  go_quiet (fail)
  go_wp2_with fail
  rw [HLu.out, HLv.out]
  refine (HU.out _).mono ?_; rintro e w4 ⟨rfl, hb4⟩; replace hb4 : Below w2.heap.size w2 w4 := ⟨hb4.os, hb4.tape, hb4.output, hb4.size, hb4.block⟩; obtain ⟨hc4, hf4⟩ := bcell hb4; have hz4 := Nat.lt_of_lt_of_le hz2 (show w2.heap.size ≤ w4.heap.size from hb4.size)
  go_wp2_with fail
  refine (HV.out _).mono ?_; rintro e w5 ⟨rfl, hb5⟩; obtain ⟨hc5, hf5⟩ := bcell hb5; have hz5 := Nat.lt_of_lt_of_le hz4 hb5.size; have hq5 : w.heap.size < w5.heap.size + 1 := Nat.lt_succ_of_lt hz5
  go_wp2_with fail
  refine (HP.out _).mono ?_; rintro e w6 ⟨rfl, hb6⟩; obtain ⟨hc6, hf6⟩ := bcell hb6; obtain ⟨hx6, hy6⟩ := size_two hb6; have hz6 := Nat.lt_trans hz5 hx6
  go_wp2_with fail
  refine (HQ.out _).mono ?_; rintro e w7 ⟨rfl, hb7⟩; obtain ⟨hc7, hf7⟩ := bcell hb7; have hz7 := Nat.lt_of_lt_of_le hz6 hb7.size
  go_wp2_with fail
  refine (HY.out _).mono ?_; rintro e w8 ⟨rfl, rfl⟩
  go_wp2_with fail
  refine (HW.out _).mono ?_; rintro e w9 ⟨rfl, rfl⟩
  go_wp2_with fail
  all_goals go_ret
  all_goals exact ⟨rfl, ((below_next (below_next (below_next (below_next (below_one hb) hb2) hb4) hb5) (below_two hb6)).trans (hb7.mono (Nat.le_of_lt hz6)))⟩

set_option maxRecDepth 100000 in
set_option maxHeartbeats 2000000 in
theorem z_same (r s b d c u v x0 x1 x2 : Int) (L : Nat) (hL : L < 8388608) (w : World) (hu : Byt u L x0 x1 x2) (hw : Byt v L x0 x1 x2) (hr : rightB r s b d c = false) :
    Calls Try.prog 5 #[.agg #[.int .i64 r, .int .i64 s, .int .i64 b, .int .i64 d, .int .i64 c], .int .i64 u, .int .i64 v] w fun e w' => e = .returned (.bool true) ∧ Below w.heap.size w w' := by
  have HR := Lib.hid hr
  have HP := Lib.hid (per_is (show perB r s b d c = 0 by unfold perB; rw [hr]; rfl))
  have HQ := Lib.hid (pages_is (show pagesB r s b d c = 0 by unfold pagesB; rw [hr]; rfl))
  have HU := Lib.hid hu.call
  have HV := Lib.hid hw.call
  have HLu := Lib.hid (u64_low hu.low)
  have HLv := Lib.hid (u64_low hw.low)
  have HY := Lib.hid (Parity_any u L hu.low)
  have HW := Lib.hid (rweight_any L (by omega))
  have HS := Lib.hid hu.sum
  have hS : ((x0 + 256 * x1 + 65536 * x2) == (L : Int)) = true := by rw [HS.out]; simp
  obtain ⟨z1, z2, z3, h0, g0, h1, g1, h2, g2⟩ := hu
  obtain ⟨z4, z5, z6, k0, l0, k1, l1, k2, l2⟩ := hw
  clear z1 z2 z3 z4 z5 z6
  clear hr
  generalize hPc : popc L = Pc at *
  clear hPc
  have he3 := eq3
  go_enter Try.func5, Try.ntmps5
  go_wp2_with fail
  refine (anchor_any _).mono ?_; rintro e w1 ⟨rfl, hb⟩; obtain ⟨hc, hf⟩ := bcell hb; have hz1 := size_one hb
  go_wp2_with fail
  refine (rright_is HR.out _).mono ?_; rintro e w2 ⟨rfl, hb2⟩; obtain ⟨hc2, hf2⟩ := bcell hb2; have hz2 := Nat.lt_of_lt_of_le hz1 hb2.size
  go_wp2_with fail
  rw [HLu.out, HLv.out]
  refine (HU.out _).mono ?_; rintro e w4 ⟨rfl, hb4⟩; replace hb4 : Below w2.heap.size w2 w4 := ⟨hb4.os, hb4.tape, hb4.output, hb4.size, hb4.block⟩; obtain ⟨hc4, hf4⟩ := bcell hb4; have hz4 := Nat.lt_of_lt_of_le hz2 (show w2.heap.size ≤ w4.heap.size from hb4.size)
  go_wp2_with fail
  refine (HV.out _).mono ?_; rintro e w5 ⟨rfl, hb5⟩; obtain ⟨hc5, hf5⟩ := bcell hb5; have hz5 := Nat.lt_of_lt_of_le hz4 hb5.size; have hq5 : w.heap.size < w5.heap.size + 1 := Nat.lt_succ_of_lt hz5
  go_wp2_with fail
  refine (HP.out _).mono ?_; rintro e w6 ⟨rfl, hb6⟩; obtain ⟨hc6, hf6⟩ := bcell hb6; obtain ⟨hx6, hy6⟩ := size_two hb6; have hz6 := Nat.lt_trans hz5 hx6
  go_wp2_with fail
  refine (HQ.out _).mono ?_; rintro e w7 ⟨rfl, hb7⟩; obtain ⟨hc7, hf7⟩ := bcell hb7; have hz7 := Nat.lt_of_lt_of_le hz6 hb7.size
  go_wp2_with fail
  refine (HY.out _).mono ?_; rintro e w8 ⟨rfl, rfl⟩
  go_wp2_with fail
  refine (HW.out _).mono ?_; rintro e w9 ⟨rfl, rfl⟩
  go_wp2_with fail
  all_goals go_ret
  all_goals exact ⟨rfl, ((below_next (below_next (below_next (below_next (below_one hb) hb2) hb4) hb5) (below_two hb6)).trans (hb7.mono (Nat.le_of_lt hz6)))⟩

set_option maxRecDepth 100000 in
set_option maxHeartbeats 2000000 in
theorem z_d0 (r s b d c u v x0 x1 x2 y0 y1 y2 : Int) (L : Nat) (hL : L < 8388608) (M : Nat) (hM : M < 8388608) (w : World) (hu : Byt u L x0 x1 x2) (hw : Byt v M y0 y1 y2) (hne : x0 ≠ y0) (hlm : L ≠ M) (hr : rightB r s b d c = false) :
    Calls Try.prog 5 #[.agg #[.int .i64 r, .int .i64 s, .int .i64 b, .int .i64 d, .int .i64 c], .int .i64 u, .int .i64 v] w fun e w' => e = .returned (.bool true) ∧ Below w.heap.size w w' := by
  have HR := Lib.hid hr
  have HP := Lib.hid (per_is (show perB r s b d c = 0 by unfold perB; rw [hr]; rfl))
  have HQ := Lib.hid (pages_is (show pagesB r s b d c = 0 by unfold pagesB; rw [hr]; rfl))
  have HU := Lib.hid hu.call
  have HV := Lib.hid hw.call
  have HLu := Lib.hid (u64_low hu.low)
  have HLv := Lib.hid (u64_low hw.low)
  have HY := Lib.hid (Parity_any u L hu.low)
  have HW := Lib.hid (rweight_any L (by omega))
  have HS := Lib.hid hu.sum
  have hS : ((x0 + 256 * x1 + 65536 * x2) == (L : Int)) = true := by rw [HS.out]; simp
  obtain ⟨z1, z2, z3, h0, g0, h1, g1, h2, g2⟩ := hu
  obtain ⟨z4, z5, z6, k0, l0, k1, l1, k2, l2⟩ := hw
  clear z1 z2 z3 z4 z5 z6
  have n0 : ((x0 : Int) == y0) = false := by simpa using hne
  have n3 : ((L : Int) == (M : Int)) = false := by simp; omega
  clear hne hlm
  clear hr
  generalize hPc : popc L = Pc at *
  clear hPc
  have he3 := eq3
  go_enter Try.func5, Try.ntmps5
  go_wp2_with fail
  refine (anchor_any _).mono ?_; rintro e w1 ⟨rfl, hb⟩; obtain ⟨hc, hf⟩ := bcell hb; have hz1 := size_one hb
  go_wp2_with fail
  refine (rright_is HR.out _).mono ?_; rintro e w2 ⟨rfl, hb2⟩; obtain ⟨hc2, hf2⟩ := bcell hb2; have hz2 := Nat.lt_of_lt_of_le hz1 hb2.size
  go_wp2_with fail
  rw [HLu.out, HLv.out]
  refine (HU.out _).mono ?_; rintro e w4 ⟨rfl, hb4⟩; replace hb4 : Below w2.heap.size w2 w4 := ⟨hb4.os, hb4.tape, hb4.output, hb4.size, hb4.block⟩; obtain ⟨hc4, hf4⟩ := bcell hb4; have hz4 := Nat.lt_of_lt_of_le hz2 (show w2.heap.size ≤ w4.heap.size from hb4.size)
  go_wp2_with fail
  refine (HV.out _).mono ?_; rintro e w5 ⟨rfl, hb5⟩; obtain ⟨hc5, hf5⟩ := bcell hb5; have hz5 := Nat.lt_of_lt_of_le hz4 hb5.size; have hq5 : w.heap.size < w5.heap.size + 1 := Nat.lt_succ_of_lt hz5
  go_wp2_with fail
  refine (HP.out _).mono ?_; rintro e w6 ⟨rfl, hb6⟩; obtain ⟨hc6, hf6⟩ := bcell hb6; obtain ⟨hx6, hy6⟩ := size_two hb6; have hz6 := Nat.lt_trans hz5 hx6
  go_wp2_with fail
  refine (HQ.out _).mono ?_; rintro e w7 ⟨rfl, hb7⟩; obtain ⟨hc7, hf7⟩ := bcell hb7; have hz7 := Nat.lt_of_lt_of_le hz6 hb7.size
  go_wp2_with fail
  refine (HY.out _).mono ?_; rintro e w8 ⟨rfl, rfl⟩
  go_wp2_with fail
  refine (HW.out _).mono ?_; rintro e w9 ⟨rfl, rfl⟩
  go_wp2_with fail
  all_goals go_ret
  all_goals exact ⟨rfl, ((below_next (below_next (below_next (below_next (below_one hb) hb2) hb4) hb5) (below_two hb6)).trans (hb7.mono (Nat.le_of_lt hz6)))⟩

set_option maxRecDepth 100000 in
set_option maxHeartbeats 2000000 in
theorem z_d1 (r s b d c u v x0 x1 x2 y1 y2 : Int) (L : Nat) (hL : L < 8388608) (M : Nat) (hM : M < 8388608) (w : World) (hu : Byt u L x0 x1 x2) (hw : Byt v M x0 y1 y2) (hne : x1 ≠ y1) (hlm : L ≠ M) (hr : rightB r s b d c = false) :
    Calls Try.prog 5 #[.agg #[.int .i64 r, .int .i64 s, .int .i64 b, .int .i64 d, .int .i64 c], .int .i64 u, .int .i64 v] w fun e w' => e = .returned (.bool true) ∧ Below w.heap.size w w' := by
  have HR := Lib.hid hr
  have HP := Lib.hid (per_is (show perB r s b d c = 0 by unfold perB; rw [hr]; rfl))
  have HQ := Lib.hid (pages_is (show pagesB r s b d c = 0 by unfold pagesB; rw [hr]; rfl))
  have HU := Lib.hid hu.call
  have HV := Lib.hid hw.call
  have HLu := Lib.hid (u64_low hu.low)
  have HLv := Lib.hid (u64_low hw.low)
  have HY := Lib.hid (Parity_any u L hu.low)
  have HW := Lib.hid (rweight_any L (by omega))
  have HS := Lib.hid hu.sum
  have hS : ((x0 + 256 * x1 + 65536 * x2) == (L : Int)) = true := by rw [HS.out]; simp
  obtain ⟨z1, z2, z3, h0, g0, h1, g1, h2, g2⟩ := hu
  obtain ⟨z4, z5, z6, k0, l0, k1, l1, k2, l2⟩ := hw
  clear z1 z2 z3 z4 z5 z6
  have n0 : ((x1 : Int) == y1) = false := by simpa using hne
  have n3 : ((L : Int) == (M : Int)) = false := by simp; omega
  clear hne hlm
  clear hr
  generalize hPc : popc L = Pc at *
  clear hPc
  have he3 := eq3
  go_enter Try.func5, Try.ntmps5
  go_wp2_with fail
  refine (anchor_any _).mono ?_; rintro e w1 ⟨rfl, hb⟩; obtain ⟨hc, hf⟩ := bcell hb; have hz1 := size_one hb
  go_wp2_with fail
  refine (rright_is HR.out _).mono ?_; rintro e w2 ⟨rfl, hb2⟩; obtain ⟨hc2, hf2⟩ := bcell hb2; have hz2 := Nat.lt_of_lt_of_le hz1 hb2.size
  go_wp2_with fail
  rw [HLu.out, HLv.out]
  refine (HU.out _).mono ?_; rintro e w4 ⟨rfl, hb4⟩; replace hb4 : Below w2.heap.size w2 w4 := ⟨hb4.os, hb4.tape, hb4.output, hb4.size, hb4.block⟩; obtain ⟨hc4, hf4⟩ := bcell hb4; have hz4 := Nat.lt_of_lt_of_le hz2 (show w2.heap.size ≤ w4.heap.size from hb4.size)
  go_wp2_with fail
  refine (HV.out _).mono ?_; rintro e w5 ⟨rfl, hb5⟩; obtain ⟨hc5, hf5⟩ := bcell hb5; have hz5 := Nat.lt_of_lt_of_le hz4 hb5.size; have hq5 : w.heap.size < w5.heap.size + 1 := Nat.lt_succ_of_lt hz5
  go_wp2_with fail
  refine (HP.out _).mono ?_; rintro e w6 ⟨rfl, hb6⟩; obtain ⟨hc6, hf6⟩ := bcell hb6; obtain ⟨hx6, hy6⟩ := size_two hb6; have hz6 := Nat.lt_trans hz5 hx6
  go_wp2_with fail
  refine (HQ.out _).mono ?_; rintro e w7 ⟨rfl, hb7⟩; obtain ⟨hc7, hf7⟩ := bcell hb7; have hz7 := Nat.lt_of_lt_of_le hz6 hb7.size
  go_wp2_with fail
  refine (HY.out _).mono ?_; rintro e w8 ⟨rfl, rfl⟩
  go_wp2_with fail
  refine (HW.out _).mono ?_; rintro e w9 ⟨rfl, rfl⟩
  go_wp2_with fail
  all_goals go_ret
  all_goals exact ⟨rfl, ((below_next (below_next (below_next (below_next (below_one hb) hb2) hb4) hb5) (below_two hb6)).trans (hb7.mono (Nat.le_of_lt hz6)))⟩

set_option maxRecDepth 100000 in
set_option maxHeartbeats 2000000 in
theorem z_d2 (r s b d c u v x0 x1 x2 y2 : Int) (L : Nat) (hL : L < 8388608) (M : Nat) (hM : M < 8388608) (w : World) (hu : Byt u L x0 x1 x2) (hw : Byt v M x0 x1 y2) (hne : x2 ≠ y2) (hlm : L ≠ M) (hr : rightB r s b d c = false) :
    Calls Try.prog 5 #[.agg #[.int .i64 r, .int .i64 s, .int .i64 b, .int .i64 d, .int .i64 c], .int .i64 u, .int .i64 v] w fun e w' => e = .returned (.bool true) ∧ Below w.heap.size w w' := by
  have HR := Lib.hid hr
  have HP := Lib.hid (per_is (show perB r s b d c = 0 by unfold perB; rw [hr]; rfl))
  have HQ := Lib.hid (pages_is (show pagesB r s b d c = 0 by unfold pagesB; rw [hr]; rfl))
  have HU := Lib.hid hu.call
  have HV := Lib.hid hw.call
  have HLu := Lib.hid (u64_low hu.low)
  have HLv := Lib.hid (u64_low hw.low)
  have HY := Lib.hid (Parity_any u L hu.low)
  have HW := Lib.hid (rweight_any L (by omega))
  have HS := Lib.hid hu.sum
  have hS : ((x0 + 256 * x1 + 65536 * x2) == (L : Int)) = true := by rw [HS.out]; simp
  obtain ⟨z1, z2, z3, h0, g0, h1, g1, h2, g2⟩ := hu
  obtain ⟨z4, z5, z6, k0, l0, k1, l1, k2, l2⟩ := hw
  clear z1 z2 z3 z4 z5 z6
  have n0 : ((x2 : Int) == y2) = false := by simpa using hne
  have n3 : ((L : Int) == (M : Int)) = false := by simp; omega
  clear hne hlm
  clear hr
  generalize hPc : popc L = Pc at *
  clear hPc
  have he3 := eq3
  go_enter Try.func5, Try.ntmps5
  go_wp2_with fail
  refine (anchor_any _).mono ?_; rintro e w1 ⟨rfl, hb⟩; obtain ⟨hc, hf⟩ := bcell hb; have hz1 := size_one hb
  go_wp2_with fail
  refine (rright_is HR.out _).mono ?_; rintro e w2 ⟨rfl, hb2⟩; obtain ⟨hc2, hf2⟩ := bcell hb2; have hz2 := Nat.lt_of_lt_of_le hz1 hb2.size
  go_wp2_with fail
  rw [HLu.out, HLv.out]
  refine (HU.out _).mono ?_; rintro e w4 ⟨rfl, hb4⟩; replace hb4 : Below w2.heap.size w2 w4 := ⟨hb4.os, hb4.tape, hb4.output, hb4.size, hb4.block⟩; obtain ⟨hc4, hf4⟩ := bcell hb4; have hz4 := Nat.lt_of_lt_of_le hz2 (show w2.heap.size ≤ w4.heap.size from hb4.size)
  go_wp2_with fail
  refine (HV.out _).mono ?_; rintro e w5 ⟨rfl, hb5⟩; obtain ⟨hc5, hf5⟩ := bcell hb5; have hz5 := Nat.lt_of_lt_of_le hz4 hb5.size; have hq5 : w.heap.size < w5.heap.size + 1 := Nat.lt_succ_of_lt hz5
  go_wp2_with fail
  refine (HP.out _).mono ?_; rintro e w6 ⟨rfl, hb6⟩; obtain ⟨hc6, hf6⟩ := bcell hb6; obtain ⟨hx6, hy6⟩ := size_two hb6; have hz6 := Nat.lt_trans hz5 hx6
  go_wp2_with fail
  refine (HQ.out _).mono ?_; rintro e w7 ⟨rfl, hb7⟩; obtain ⟨hc7, hf7⟩ := bcell hb7; have hz7 := Nat.lt_of_lt_of_le hz6 hb7.size
  go_wp2_with fail
  refine (HY.out _).mono ?_; rintro e w8 ⟨rfl, rfl⟩
  go_wp2_with fail
  refine (HW.out _).mono ?_; rintro e w9 ⟨rfl, rfl⟩
  go_wp2_with fail
  all_goals go_ret
  all_goals exact ⟨rfl, ((below_next (below_next (below_next (below_next (below_one hb) hb2) hb4) hb5) (below_two hb6)).trans (hb7.mono (Nat.le_of_lt hz6)))⟩

theorem walk (r s b d c u : Int) (bu : In64 u) (v : Int) (bv : In64 v) (w : World) :
    Calls Try.prog 5 #[.agg #[.int .i64 r, .int .i64 s, .int .i64 b, .int .i64 d, .int .i64 c], .int .i64 u, .int .i64 v] w fun e w' => e = .returned (.bool true) ∧ Below w.heap.size w w' := by
  obtain ⟨L, hL, hu⟩ := byt_of u
  obtain ⟨M, hM, hv⟩ := byt_of v
  cases hr : rightB r s b d c
  · by_cases h0 : u % 256 = v % 256
    · by_cases h1 : u / 256 % 256 = v / 256 % 256
      · by_cases h2 : u / 65536 % 128 = v / 65536 % 128
        · have e : L = M := by have := hu.sum; have := hv.sum; omega
          subst e
          rw [← h0, ← h1, ← h2] at hv
          exact z_same r s b d c u v _ _ _ L hL w hu hv hr
        · have e : L ≠ M := by have := hu.sum; have := hv.sum; omega
          rw [← h0, ← h1] at hv
          exact z_d2 r s b d c u v _ _ _ _ L hL M hM w hu hv h2 e hr
      · have e : L ≠ M := by have := hu.sum; have := hv.sum; omega
        rw [← h0] at hv
        exact z_d1 r s b d c u v _ _ _ _ _ L hL M hM w hu hv h1 e hr
    · have e : L ≠ M := by have := hu.sum; have := hv.sum; omega
      exact z_d0 r s b d c u v _ _ _ _ _ _ L hL M hM w hu hv h0 e hr
  · by_cases h0 : u % 256 = v % 256
    · by_cases h1 : u / 256 % 256 = v / 256 % 256
      · by_cases h2 : u / 65536 % 128 = v / 65536 % 128
        · have e : L = M := by have := hu.sum; have := hv.sum; omega
          subst e
          rw [← h0, ← h1, ← h2] at hv
          exact a_same r s b d c u v _ _ _ L hL w hu hv hr
        · have e : L ≠ M := by have := hu.sum; have := hv.sum; omega
          rw [← h0, ← h1] at hv
          exact a_d2 r s b d c u v _ _ _ _ L hL M hM w hu hv h2 e hr
      · have e : L ≠ M := by have := hu.sum; have := hv.sum; omega
        rw [← h0] at hv
        exact a_d1 r s b d c u v _ _ _ _ _ L hL M hM w hu hv h1 e hr
    · have e : L ≠ M := by have := hu.sum; have := hv.sum; omega
      exact a_d0 r s b d c u v _ _ _ _ _ _ L hL M hM w hu hv h0 e hr
set_option maxRecDepth 100000 in
theorem lifted (os : Os) (started : os.Started) (H : Type) (enc : TypeId × Value → H) :
    ReturnsInHanded {} Try.checked os 5 .any (Rows.geomSizesSpec.pre6 enc Try.prog Try.f5 Rows.geomSizesRow.domain false) (Rows.geomSizesSpec.post enc Try.prog Try.f5 false true false false) := by
  refine returnsInHanded_of_change (C := Try.checked) own started (by kernel_rfl) Try.func5
    (ChangeSpec.witness6 (enc := enc) (C := Try.checked) false ⟨#[], #[.agg #[.int .i64 0, .int .i64 0, .int .i64 0, .int .i64 0, .int .i64 0], .int .i64 0, .int .i64 0], []⟩ 8 (by kernel_rfl) (by kernel_rfl) (by kernel_rfl) (by kernel_rfl)) ?_
  intro W base args ds gs before hval0 hW hcnd _
  have hval : ∀ (j : Nat) t v, Try.f5.params[j]? = some t → args[j]? = some v → Value.okWide Try.prog W .any base t v := hval0
  have hW' := hW
  obtain ⟨p, q, hA0, hV, rfl, hfz, hnd⟩ := hW
  have hA : DataW.TrodAll enc Try.prog W 0 (fun _ => true) true Try.f5.params.toList args.toList ds p := hA0
  rw [Try.params5] at hA hval
  obtain ⟨v0, vs0, d0, ds0, p0, q0, hargs, rfl, rfl, h0, r0⟩ := trodAll_cons hA
  obtain ⟨v1, vs1, d1, ds1, p1, q1, rfl, rfl, rfl, h1, r1⟩ := trodAll_cons r0
  obtain ⟨v2, vs2, d2, ds2, p2, q2, rfl, rfl, rfl, h2, r2⟩ := trodAll_cons r1
  obtain ⟨rfl, rfl, rfl⟩ := trodAll_nil r2
  obtain rfl : args = #[v0, v1, v2] := by cases args; simp_all
  obtain ⟨rfl, rfl⟩ := trodVars_none hV
  have k0 := h0
  have lt0 : ∀ x ∈ p0, x.block < W.heap.size := by obtain ⟨m, hm⟩ := k0; exact DataW.trod_lt m _ _ _ hm
  have k1 := h1
  have lt1 : ∀ x ∈ p1, x.block < W.heap.size := by obtain ⟨m, hm⟩ := k1; exact DataW.trod_lt m _ _ _ hm
  have k2 := h2
  have lt2 : ∀ x ∈ p2, x.block < W.heap.size := by obtain ⟨m, hm⟩ := k2; exact DataW.trod_lt m _ _ _ hm
  obtain ⟨g0, g1, g2, g3, g4, rfl, _, _, _, _, _⟩ := open_geom (hval 0 23 v0 rfl rfl) h0
  obtain ⟨a, rfl, ba⟩ := open_num (hval 1 3 v1 rfl rfl) h1
  obtain ⟨b, rfl, bb⟩ := open_num (hval 2 3 v2 rfl rfl) h2
  clear hA0 hval0
  refine (walk g0 g1 g2 g3 g4 a ba b bb W).mono fun e W' ⟨he, bel⟩ => ?_
  subst he
  exact ⟨_, rfl, _, _, _, [], _, [], hW', trodAll_mk1 (shut_bool Try.underlying4 _), (trodAll_cons_mk (Below.trod laidOut (by kernel_rfl) (of_decide_eq_true (by kernel_rfl)) k0 bel lt0) (trodAll_cons_mk (Below.trod laidOut (by kernel_rfl) (of_decide_eq_true (by kernel_rfl)) k1 bel lt1) (trodAll_cons_mk (Below.trod laidOut (by kernel_rfl) (of_decide_eq_true (by kernel_rfl)) k2 bel lt2) trodAll_mk0))), rfl, bel.frame _, fun h => by cases h⟩

theorem over : Rows.geomSizesRow.holds Try.pinned (OpenSpec.ofChange Rows.geomSizesSpec) :=
  OpenClaim.holds_of_wide 5 Try.f5 rfl rfl rfl rfl rfl rfl rfl ⟨rfl, rfl, rfl, rfl, rfl⟩ rfl rfl rfl rfl rfl (by kernel_rfl) Try.func5 (by kernel_rfl)
    (of_decide_eq_true (by kernel_rfl)) (by unfold Func.isWrapper; first | (rw [if_pos (by decide +kernel)]; kernel_rfl) | (rw [if_neg (by decide +kernel)]; exact ⟨rfl, rfl⟩))
    (fun os started H enc _ => lifted os started H enc)

theorem proved : Rows.GeomSizesSaid := over
#print axioms proved
end sizes
end Go.Proofs.Ytjmcpeobncoinaa
