/- In the ways 2 and 3 pages one behind the other lie in unlike ranks, where there are several; in the way 1 in unlike banks of one rank, as long as the row lasts; in the way 0 in rows one behind the other: for every geometry, way and page. No condition. -/
import Derived.Test.YtjmcpeobncoinaaPages
namespace Go.Proofs.Ytjmcpeobncoinaa
set_option linter.unusedVariables false
open Go.ChangeShapes Go.WideShapes Go.ChangeAt Go.RowKit
namespace spreads

theorem out (r s b d c way page : Int) (w : World) (h : page < 0 ∨ 1048576 < page) :
    Calls Try.prog 8 #[.agg #[.int .i64 r, .int .i64 s, .int .i64 b, .int .i64 d, .int .i64 c], .int .i64 way, .int .i64 page] w fun e w' => e = .returned (.bool true) ∧ Below w.heap.size w w' := by
  rcases h with h | h
  · go_enter Try.func8, Try.ntmps8
    go_wp2_with fail
    refine (anchor8_any _).mono ?_; rintro e w1 ⟨rfl, hb⟩
    go_wp2_with fail
    go_ret
    exact ⟨rfl, below_one hb⟩
  · have h' : ¬ page < 0 := by omega
    go_enter Try.func8, Try.ntmps8
    go_wp2_with fail
    refine (anchor8_any _).mono ?_; rintro e w1 ⟨rfl, hb⟩
    go_wp2_with fail
    go_ret
    exact ⟨rfl, below_one hb⟩

set_option maxHeartbeats 1000000 in
theorem no_a (r s b d c way page : Int) (w : World) (h0 : 0 ≤ page) (h1 : page ≤ 1048576) (h : NoPage r s b d c way page) :
    Calls Try.prog 8 #[.agg #[.int .i64 r, .int .i64 s, .int .i64 b, .int .i64 d, .int .i64 c], .int .i64 way, .int .i64 page] w fun e w' => e = .returned (.bool true) ∧ Below w.heap.size w w' := by
  have HP := Lib.hid (Page_no r s b d c way page h)
  clear h
  go_enter Try.func8, Try.ntmps8
  go_wp2_with fail
  refine (anchor8_any _).mono ?_; rintro e w1 ⟨rfl, hb⟩; obtain ⟨hc, hf⟩ := bcell hb; have hz1 := size_one hb
  go_wp2_with fail
  refine (HP.out _).mono ?_; rintro e w2 ⟨rfl, hb2⟩; obtain ⟨hc2, hf2⟩ := bcell hb2; have hz2 := Nat.lt_of_lt_of_le hz1 hb2.size
  go_wp2_with fail
  refine (Page_some r s b d c way (page + 1) _).mono ?_; rintro e w3 ⟨x, y, rfl, hb3⟩; obtain ⟨hc3, hf3⟩ := bcell hb3; have hz3 := Nat.lt_of_lt_of_le hz2 hb3.size
  go_wp2_with fail
  all_goals go_ret
  all_goals exact ⟨rfl, below_next (below_next (below_one hb) hb2) hb3⟩

set_option maxHeartbeats 1000000 in
theorem no_b (r s b d c way page x1 r1 b1 w1 : Int) (w : World) (g0 : 0 ≤ page) (g1 : page ≤ 1048576) (h1 : Laid r s b d c way page x1 r1 b1 w1) (h : NoPage r s b d c way (page + 1)) :
    Calls Try.prog 8 #[.agg #[.int .i64 r, .int .i64 s, .int .i64 b, .int .i64 d, .int .i64 c], .int .i64 way, .int .i64 page] w fun e w' => e = .returned (.bool true) ∧ Below w.heap.size w w' := by
  have HP := Lib.hid h1.page'
  have HQ := Lib.hid (Page_no r s b d c way (page + 1) h)
  clear h h1
  go_enter Try.func8, Try.ntmps8
  go_wp2_with fail
  refine (anchor8_any _).mono ?_; rintro e w1 ⟨rfl, hb⟩; obtain ⟨hc, hf⟩ := bcell hb; have hz1 := size_one hb
  go_wp2_with fail
  refine (HP.out _).mono ?_; rintro e w2 ⟨rfl, hb2⟩; obtain ⟨hc2, hf2⟩ := bcell hb2; have hz2 := Nat.lt_of_lt_of_le hz1 hb2.size
  go_wp2_with fail
  refine (HQ.out _).mono ?_; rintro e w3 ⟨rfl, hb3⟩; obtain ⟨hc3, hf3⟩ := bcell hb3; have hz3 := Nat.lt_of_lt_of_le hz2 hb3.size
  go_wp2_with fail
  all_goals go_ret
  all_goals exact ⟨rfl, below_next (below_next (below_one hb) hb2) hb3⟩

set_option maxRecDepth 100000 in
set_option maxHeartbeats 2000000 in
theorem rank_2 (r s b d c page x1 r1 b1 w1 x2 r2 b2 w2 : Int) (w : World) (z0 : 0 ≤ page) (z1 : page ≤ 1048576) (h1 : Laid r s b d c 2 page x1 r1 b1 w1) (h2 : Laid r s b d c 2 (page + 1) x2 r2 b2 w2) (hbb : b ≤ 16) (hdd : d ≤ 1024) (hr : 1 < r) (hxe : r1 ≠ r2) :
    Calls Try.prog 8 #[.agg #[.int .i64 r, .int .i64 s, .int .i64 b, .int .i64 d, .int .i64 c], .int .i64 2, .int .i64 page] w fun e w' => e = .returned (.bool true) ∧ Below w.heap.size w w' := by
  have HP := Lib.hid h1.page'
  have HQ := Lib.hid h2.page'
  have HA := Lib.hid h1.at'
  have HB := Lib.hid h2.at'
  obtain ⟨_, _, g0, g1, g2, g3, g4, g5, g6, g7⟩ := h1
  obtain ⟨_, _, k0, k1, k2, k3, k4, k5, k6, k7⟩ := h2
  have n1 : ((r1 : Int) != r2) = true := by simpa using hxe
  clear hxe
  go_enter Try.func8, Try.ntmps8
  go_wp2_with fail
  refine (anchor8_any _).mono ?_; rintro e w1 ⟨rfl, hb⟩; obtain ⟨hc, hf⟩ := bcell hb; have hz1 := size_one hb
  go_wp2_with fail
  refine (HP.out _).mono ?_; rintro e w2 ⟨rfl, hb2⟩; obtain ⟨hc2, hf2⟩ := bcell hb2; have hz2 := Nat.lt_of_lt_of_le hz1 hb2.size
  go_wp2_with fail
  refine (HQ.out _).mono ?_; rintro e w3 ⟨rfl, hb3⟩; obtain ⟨hc3, hf3⟩ := bcell hb3; have hz3 := Nat.lt_of_lt_of_le hz2 hb3.size
  go_wp2_with fail
  refine (HA.out _).mono ?_; rintro e w4 ⟨rfl, hb4⟩; obtain ⟨hc4, hf4⟩ := bcell hb4; have hz4 := Nat.lt_of_lt_of_le hz3 hb4.size
  go_wp2_with fail
  refine (HB.out _).mono ?_; rintro e w5 ⟨rfl, hb5⟩; obtain ⟨hc5, hf5⟩ := bcell hb5; have hy5 := size_one hb5; have hz5 := Nat.lt_trans hz4 hy5
  go_wp2_with fail
  all_goals go_ret
  all_goals exact ⟨rfl, (below_next (below_next (below_next (below_next (below_one hb) hb2) hb3) hb4) (below_one hb5)).alloc (Nat.le_of_lt hz5) _⟩

set_option maxRecDepth 100000 in
set_option maxHeartbeats 2000000 in
theorem one_2 (r s b d c page x1 r1 b1 w1 x2 r2 b2 w2 : Int) (w : World) (z0 : 0 ≤ page) (z1 : page ≤ 1048576) (h1 : Laid r s b d c 2 page x1 r1 b1 w1) (h2 : Laid r s b d c 2 (page + 1) x2 r2 b2 w2) (hbb : b ≤ 16) (hdd : d ≤ 1024) (hr : r ≤ 1) (hxe : x1 ≠ x2) :
    Calls Try.prog 8 #[.agg #[.int .i64 r, .int .i64 s, .int .i64 b, .int .i64 d, .int .i64 c], .int .i64 2, .int .i64 page] w fun e w' => e = .returned (.bool true) ∧ Below w.heap.size w w' := by
  have HP := Lib.hid h1.page'
  have HQ := Lib.hid h2.page'
  have HA := Lib.hid h1.at'
  have HB := Lib.hid h2.at'
  obtain ⟨_, _, g0, g1, g2, g3, g4, g5, g6, g7⟩ := h1
  obtain ⟨_, _, k0, k1, k2, k3, k4, k5, k6, k7⟩ := h2
  have n1 : ((x1 : Int) != x2) = true := by simpa using hxe
  clear hxe
  go_enter Try.func8, Try.ntmps8
  go_wp2_with fail
  refine (anchor8_any _).mono ?_; rintro e w1 ⟨rfl, hb⟩; obtain ⟨hc, hf⟩ := bcell hb; have hz1 := size_one hb
  go_wp2_with fail
  refine (HP.out _).mono ?_; rintro e w2 ⟨rfl, hb2⟩; obtain ⟨hc2, hf2⟩ := bcell hb2; have hz2 := Nat.lt_of_lt_of_le hz1 hb2.size
  go_wp2_with fail
  refine (HQ.out _).mono ?_; rintro e w3 ⟨rfl, hb3⟩; obtain ⟨hc3, hf3⟩ := bcell hb3; have hz3 := Nat.lt_of_lt_of_le hz2 hb3.size
  go_wp2_with fail
  refine (HA.out _).mono ?_; rintro e w4 ⟨rfl, hb4⟩; obtain ⟨hc4, hf4⟩ := bcell hb4; have hz4 := Nat.lt_of_lt_of_le hz3 hb4.size
  go_wp2_with fail
  refine (HB.out _).mono ?_; rintro e w5 ⟨rfl, hb5⟩; obtain ⟨hc5, hf5⟩ := bcell hb5; have hy5 := size_one hb5; have hz5 := Nat.lt_trans hz4 hy5
  go_wp2_with fail
  all_goals go_ret
  all_goals exact ⟨rfl, (below_next (below_next (below_next (below_next (below_one hb) hb2) hb3) hb4) (below_one hb5)).alloc (Nat.le_of_lt hz5) _⟩

set_option maxRecDepth 100000 in
set_option maxHeartbeats 2000000 in
theorem rank_3 (r s b d c page x1 r1 b1 w1 x2 r2 b2 w2 : Int) (w : World) (z0 : 0 ≤ page) (z1 : page ≤ 1048576) (h1 : Laid r s b d c 3 page x1 r1 b1 w1) (h2 : Laid r s b d c 3 (page + 1) x2 r2 b2 w2) (hbb : b ≤ 16) (hdd : d ≤ 1024) (hr : 1 < r) (hxe : r1 ≠ r2) :
    Calls Try.prog 8 #[.agg #[.int .i64 r, .int .i64 s, .int .i64 b, .int .i64 d, .int .i64 c], .int .i64 3, .int .i64 page] w fun e w' => e = .returned (.bool true) ∧ Below w.heap.size w w' := by
  have HP := Lib.hid h1.page'
  have HQ := Lib.hid h2.page'
  have HA := Lib.hid h1.at'
  have HB := Lib.hid h2.at'
  obtain ⟨_, _, g0, g1, g2, g3, g4, g5, g6, g7⟩ := h1
  obtain ⟨_, _, k0, k1, k2, k3, k4, k5, k6, k7⟩ := h2
  have n1 : ((r1 : Int) != r2) = true := by simpa using hxe
  clear hxe
  go_enter Try.func8, Try.ntmps8
  go_wp2_with fail
  refine (anchor8_any _).mono ?_; rintro e w1 ⟨rfl, hb⟩; obtain ⟨hc, hf⟩ := bcell hb; have hz1 := size_one hb
  go_wp2_with fail
  refine (HP.out _).mono ?_; rintro e w2 ⟨rfl, hb2⟩; obtain ⟨hc2, hf2⟩ := bcell hb2; have hz2 := Nat.lt_of_lt_of_le hz1 hb2.size
  go_wp2_with fail
  refine (HQ.out _).mono ?_; rintro e w3 ⟨rfl, hb3⟩; obtain ⟨hc3, hf3⟩ := bcell hb3; have hz3 := Nat.lt_of_lt_of_le hz2 hb3.size
  go_wp2_with fail
  refine (HA.out _).mono ?_; rintro e w4 ⟨rfl, hb4⟩; obtain ⟨hc4, hf4⟩ := bcell hb4; have hz4 := Nat.lt_of_lt_of_le hz3 hb4.size
  go_wp2_with fail
  refine (HB.out _).mono ?_; rintro e w5 ⟨rfl, hb5⟩; obtain ⟨hc5, hf5⟩ := bcell hb5; have hy5 := size_one hb5; have hz5 := Nat.lt_trans hz4 hy5
  go_wp2_with fail
  all_goals go_ret
  all_goals exact ⟨rfl, (below_next (below_next (below_next (below_next (below_one hb) hb2) hb3) hb4) (below_one hb5)).alloc (Nat.le_of_lt hz5) _⟩

set_option maxRecDepth 100000 in
set_option maxHeartbeats 2000000 in
theorem one_3 (r s b d c page x1 r1 b1 w1 x2 r2 b2 w2 : Int) (w : World) (z0 : 0 ≤ page) (z1 : page ≤ 1048576) (h1 : Laid r s b d c 3 page x1 r1 b1 w1) (h2 : Laid r s b d c 3 (page + 1) x2 r2 b2 w2) (hbb : b ≤ 16) (hdd : d ≤ 1024) (hr : r ≤ 1) (hxe : x1 ≠ x2) :
    Calls Try.prog 8 #[.agg #[.int .i64 r, .int .i64 s, .int .i64 b, .int .i64 d, .int .i64 c], .int .i64 3, .int .i64 page] w fun e w' => e = .returned (.bool true) ∧ Below w.heap.size w w' := by
  have HP := Lib.hid h1.page'
  have HQ := Lib.hid h2.page'
  have HA := Lib.hid h1.at'
  have HB := Lib.hid h2.at'
  obtain ⟨_, _, g0, g1, g2, g3, g4, g5, g6, g7⟩ := h1
  obtain ⟨_, _, k0, k1, k2, k3, k4, k5, k6, k7⟩ := h2
  have n1 : ((x1 : Int) != x2) = true := by simpa using hxe
  clear hxe
  go_enter Try.func8, Try.ntmps8
  go_wp2_with fail
  refine (anchor8_any _).mono ?_; rintro e w1 ⟨rfl, hb⟩; obtain ⟨hc, hf⟩ := bcell hb; have hz1 := size_one hb
  go_wp2_with fail
  refine (HP.out _).mono ?_; rintro e w2 ⟨rfl, hb2⟩; obtain ⟨hc2, hf2⟩ := bcell hb2; have hz2 := Nat.lt_of_lt_of_le hz1 hb2.size
  go_wp2_with fail
  refine (HQ.out _).mono ?_; rintro e w3 ⟨rfl, hb3⟩; obtain ⟨hc3, hf3⟩ := bcell hb3; have hz3 := Nat.lt_of_lt_of_le hz2 hb3.size
  go_wp2_with fail
  refine (HA.out _).mono ?_; rintro e w4 ⟨rfl, hb4⟩; obtain ⟨hc4, hf4⟩ := bcell hb4; have hz4 := Nat.lt_of_lt_of_le hz3 hb4.size
  go_wp2_with fail
  refine (HB.out _).mono ?_; rintro e w5 ⟨rfl, hb5⟩; obtain ⟨hc5, hf5⟩ := bcell hb5; have hy5 := size_one hb5; have hz5 := Nat.lt_trans hz4 hy5
  go_wp2_with fail
  all_goals go_ret
  all_goals exact ⟨rfl, (below_next (below_next (below_next (below_next (below_one hb) hb2) hb3) hb4) (below_one hb5)).alloc (Nat.le_of_lt hz5) _⟩

set_option maxRecDepth 100000 in
set_option maxHeartbeats 2000000 in
theorem bank_1 (r s b d c page x1 r1 b1 w1 x2 r2 b2 w2 : Int) (w : World) (z0 : 0 ≤ page) (z1 : page ≤ 1048576) (h1 : Laid r s b d c 1 page x1 r1 b1 w1) (h2 : Laid r s b d c 1 (page + 1) x2 r2 b2 w2) (hbb : b ≤ 16) (hdd : d ≤ 1024) (hb1 : b1 < b - 1) (e1 : b2 = b1 + 1) (e2 : w2 = w1) (e3 : r2 = r1) :
    Calls Try.prog 8 #[.agg #[.int .i64 r, .int .i64 s, .int .i64 b, .int .i64 d, .int .i64 c], .int .i64 1, .int .i64 page] w fun e w' => e = .returned (.bool true) ∧ Below w.heap.size w w' := by
  have HP := Lib.hid h1.page'
  have HQ := Lib.hid h2.page'
  have HA := Lib.hid h1.at'
  have HB := Lib.hid h2.at'
  obtain ⟨_, _, g0, g1, g2, g3, g4, g5, g6, g7⟩ := h1
  obtain ⟨_, _, k0, k1, k2, k3, k4, k5, k6, k7⟩ := h2
  subst e1 e2 e3
  go_enter Try.func8, Try.ntmps8
  go_wp2_with fail
  refine (anchor8_any _).mono ?_; rintro e w1 ⟨rfl, hb⟩; obtain ⟨hc, hf⟩ := bcell hb; have hz1 := size_one hb
  go_wp2_with fail
  refine (HP.out _).mono ?_; rintro e w2 ⟨rfl, hb2⟩; obtain ⟨hc2, hf2⟩ := bcell hb2; have hz2 := Nat.lt_of_lt_of_le hz1 hb2.size
  go_wp2_with fail
  refine (HQ.out _).mono ?_; rintro e w3 ⟨rfl, hb3⟩; obtain ⟨hc3, hf3⟩ := bcell hb3; have hz3 := Nat.lt_of_lt_of_le hz2 hb3.size
  go_wp2_with fail
  refine (HA.out _).mono ?_; rintro e w4 ⟨rfl, hb4⟩; obtain ⟨hc4, hf4⟩ := bcell hb4; have hz4 := Nat.lt_of_lt_of_le hz3 hb4.size
  go_wp2_with fail
  refine (HB.out _).mono ?_; rintro e w5 ⟨rfl, hb5⟩; obtain ⟨hc5, hf5⟩ := bcell hb5; have hy5 := size_one hb5; have hz5 := Nat.lt_trans hz4 hy5
  go_wp2_with fail
  all_goals go_ret
  all_goals exact ⟨rfl, (below_next (below_next (below_next (below_next (below_one hb) hb2) hb3) hb4) (below_one hb5)).alloc (Nat.le_of_lt hz5) _⟩

set_option maxRecDepth 100000 in
set_option maxHeartbeats 2000000 in
theorem end_1 (r s b d c page x1 r1 b1 w1 x2 r2 b2 w2 : Int) (w : World) (z0 : 0 ≤ page) (z1 : page ≤ 1048576) (h1 : Laid r s b d c 1 page x1 r1 b1 w1) (h2 : Laid r s b d c 1 (page + 1) x2 r2 b2 w2) (hbb : b ≤ 16) (hdd : d ≤ 1024) (hb1 : b - 1 ≤ b1) (hxe : x1 ≠ x2) :
    Calls Try.prog 8 #[.agg #[.int .i64 r, .int .i64 s, .int .i64 b, .int .i64 d, .int .i64 c], .int .i64 1, .int .i64 page] w fun e w' => e = .returned (.bool true) ∧ Below w.heap.size w w' := by
  have HP := Lib.hid h1.page'
  have HQ := Lib.hid h2.page'
  have HA := Lib.hid h1.at'
  have HB := Lib.hid h2.at'
  obtain ⟨_, _, g0, g1, g2, g3, g4, g5, g6, g7⟩ := h1
  obtain ⟨_, _, k0, k1, k2, k3, k4, k5, k6, k7⟩ := h2
  have n1 : ((x1 : Int) != x2) = true := by simpa using hxe
  clear hxe
  go_enter Try.func8, Try.ntmps8
  go_wp2_with fail
  refine (anchor8_any _).mono ?_; rintro e w1 ⟨rfl, hb⟩; obtain ⟨hc, hf⟩ := bcell hb; have hz1 := size_one hb
  go_wp2_with fail
  refine (HP.out _).mono ?_; rintro e w2 ⟨rfl, hb2⟩; obtain ⟨hc2, hf2⟩ := bcell hb2; have hz2 := Nat.lt_of_lt_of_le hz1 hb2.size
  go_wp2_with fail
  refine (HQ.out _).mono ?_; rintro e w3 ⟨rfl, hb3⟩; obtain ⟨hc3, hf3⟩ := bcell hb3; have hz3 := Nat.lt_of_lt_of_le hz2 hb3.size
  go_wp2_with fail
  refine (HA.out _).mono ?_; rintro e w4 ⟨rfl, hb4⟩; obtain ⟨hc4, hf4⟩ := bcell hb4; have hz4 := Nat.lt_of_lt_of_le hz3 hb4.size
  go_wp2_with fail
  refine (HB.out _).mono ?_; rintro e w5 ⟨rfl, hb5⟩; obtain ⟨hc5, hf5⟩ := bcell hb5; have hy5 := size_one hb5; have hz5 := Nat.lt_trans hz4 hy5
  go_wp2_with fail
  all_goals go_ret
  all_goals exact ⟨rfl, (below_next (below_next (below_next (below_next (below_one hb) hb2) hb3) hb4) (below_one hb5)).alloc (Nat.le_of_lt hz5) _⟩

set_option maxRecDepth 100000 in
set_option maxHeartbeats 2000000 in
theorem row_0 (r s b d c page x1 r1 b1 w1 x2 r2 b2 w2 : Int) (w : World) (z0 : 0 ≤ page) (z1 : page ≤ 1048576) (h1 : Laid r s b d c 0 page x1 r1 b1 w1) (h2 : Laid r s b d c 0 (page + 1) x2 r2 b2 w2) (hbb : b ≤ 16) (hdd : d ≤ 1024) (hb1 : w1 < d - 1) (e1 : w2 = w1 + 1) (e2 : b2 = b1) (e3 : r2 = r1) :
    Calls Try.prog 8 #[.agg #[.int .i64 r, .int .i64 s, .int .i64 b, .int .i64 d, .int .i64 c], .int .i64 0, .int .i64 page] w fun e w' => e = .returned (.bool true) ∧ Below w.heap.size w w' := by
  have HP := Lib.hid h1.page'
  have HQ := Lib.hid h2.page'
  have HA := Lib.hid h1.at'
  have HB := Lib.hid h2.at'
  obtain ⟨_, _, g0, g1, g2, g3, g4, g5, g6, g7⟩ := h1
  obtain ⟨_, _, k0, k1, k2, k3, k4, k5, k6, k7⟩ := h2
  subst e1 e2 e3
  go_enter Try.func8, Try.ntmps8
  go_wp2_with fail
  refine (anchor8_any _).mono ?_; rintro e w1 ⟨rfl, hb⟩; obtain ⟨hc, hf⟩ := bcell hb; have hz1 := size_one hb
  go_wp2_with fail
  refine (HP.out _).mono ?_; rintro e w2 ⟨rfl, hb2⟩; obtain ⟨hc2, hf2⟩ := bcell hb2; have hz2 := Nat.lt_of_lt_of_le hz1 hb2.size
  go_wp2_with fail
  refine (HQ.out _).mono ?_; rintro e w3 ⟨rfl, hb3⟩; obtain ⟨hc3, hf3⟩ := bcell hb3; have hz3 := Nat.lt_of_lt_of_le hz2 hb3.size
  go_wp2_with fail
  refine (HA.out _).mono ?_; rintro e w4 ⟨rfl, hb4⟩; obtain ⟨hc4, hf4⟩ := bcell hb4; have hz4 := Nat.lt_of_lt_of_le hz3 hb4.size
  go_wp2_with fail
  refine (HB.out _).mono ?_; rintro e w5 ⟨rfl, hb5⟩; obtain ⟨hc5, hf5⟩ := bcell hb5; have hy5 := size_one hb5; have hz5 := Nat.lt_trans hz4 hy5
  go_wp2_with fail
  all_goals go_ret
  all_goals exact ⟨rfl, (below_next (below_next (below_next (below_next (below_one hb) hb2) hb3) hb4) (below_one hb5)).alloc (Nat.le_of_lt hz5) _⟩

set_option maxRecDepth 100000 in
set_option maxHeartbeats 2000000 in
theorem end_0 (r s b d c page x1 r1 b1 w1 x2 r2 b2 w2 : Int) (w : World) (z0 : 0 ≤ page) (z1 : page ≤ 1048576) (h1 : Laid r s b d c 0 page x1 r1 b1 w1) (h2 : Laid r s b d c 0 (page + 1) x2 r2 b2 w2) (hbb : b ≤ 16) (hdd : d ≤ 1024) (hb1 : d - 1 ≤ w1) (hxe : x1 ≠ x2) :
    Calls Try.prog 8 #[.agg #[.int .i64 r, .int .i64 s, .int .i64 b, .int .i64 d, .int .i64 c], .int .i64 0, .int .i64 page] w fun e w' => e = .returned (.bool true) ∧ Below w.heap.size w w' := by
  have HP := Lib.hid h1.page'
  have HQ := Lib.hid h2.page'
  have HA := Lib.hid h1.at'
  have HB := Lib.hid h2.at'
  obtain ⟨_, _, g0, g1, g2, g3, g4, g5, g6, g7⟩ := h1
  obtain ⟨_, _, k0, k1, k2, k3, k4, k5, k6, k7⟩ := h2
  have n1 : ((x1 : Int) != x2) = true := by simpa using hxe
  clear hxe
  go_enter Try.func8, Try.ntmps8
  go_wp2_with fail
  refine (anchor8_any _).mono ?_; rintro e w1 ⟨rfl, hb⟩; obtain ⟨hc, hf⟩ := bcell hb; have hz1 := size_one hb
  go_wp2_with fail
  refine (HP.out _).mono ?_; rintro e w2 ⟨rfl, hb2⟩; obtain ⟨hc2, hf2⟩ := bcell hb2; have hz2 := Nat.lt_of_lt_of_le hz1 hb2.size
  go_wp2_with fail
  refine (HQ.out _).mono ?_; rintro e w3 ⟨rfl, hb3⟩; obtain ⟨hc3, hf3⟩ := bcell hb3; have hz3 := Nat.lt_of_lt_of_le hz2 hb3.size
  go_wp2_with fail
  refine (HA.out _).mono ?_; rintro e w4 ⟨rfl, hb4⟩; obtain ⟨hc4, hf4⟩ := bcell hb4; have hz4 := Nat.lt_of_lt_of_le hz3 hb4.size
  go_wp2_with fail
  refine (HB.out _).mono ?_; rintro e w5 ⟨rfl, hb5⟩; obtain ⟨hc5, hf5⟩ := bcell hb5; have hy5 := size_one hb5; have hz5 := Nat.lt_trans hz4 hy5
  go_wp2_with fail
  all_goals go_ret
  all_goals exact ⟨rfl, (below_next (below_next (below_next (below_next (below_one hb) hb2) hb3) hb4) (below_one hb5)).alloc (Nat.le_of_lt hz5) _⟩

theorem walk (r s b d c way : Int) (bway : In64 way) (page : Int) (bpage : In64 page) (w : World) :
    Calls Try.prog 8 #[.agg #[.int .i64 r, .int .i64 s, .int .i64 b, .int .i64 d, .int .i64 c], .int .i64 way, .int .i64 page] w fun e w' => e = .returned (.bool true) ∧ Below w.heap.size w w' := by
  by_cases ho : page < 0 ∨ 1048576 < page
  · exact out r s b d c way page w ho
  have z0 : 0 ≤ page := by omega
  have z1 : page ≤ 1048576 := by omega
  clear ho
  rcases page_or r s b d c way page with h1 | h1
  rotate_left
  · exact no_a r s b d c way page w z0 z1 h1
  rcases page_or r s b d c way (page + 1) with h2 | h2
  rotate_left
  · exact no_b r s b d c way page _ _ _ _ w z0 z1 (laid_of h1) h2
  have l1 := laid_of h1
  have l2 := laid_of h2
  obtain ⟨hr, hw0, hw4⟩ := irB_yes h1.1
  obtain ⟨a1, a2, a3, a4, a5, a6, a7, a8, a9⟩ := rightB_bd hr
  have hp := (pages_right hr).1
  have g1 := h1.2.2
  have g2 := h2.2.2
  rw [hp] at g1 g2
  have hxe : phys way r b d page ≠ phys way r b d (page + 1) := fun e => by
    have := phys_inj hr way page (page + 1) z0 g1 (by omega) g2 e
    omega
  have hw : way = 0 ∨ way = 1 ∨ way = 2 ∨ way = 3 := by omega
  rcases hw with rfl | rfl | rfl | rfl
  · by_cases hb1 : pRow 0 r b d page < d - 1
    · have e := succ_dig a6 (show page % d < d - 1 from hb1)
      refine row_0 r s b d c page _ _ _ _ _ _ _ _ w z0 z1 l1 l2 a5 a7 hb1 e.1 ?_ ?_
      · show (page + 1) / d % b = page / d % b; rw [e.2]
      · show (page + 1) / d / b % r = page / d / b % r; rw [e.2]
    · exact end_0 r s b d c page _ _ _ _ _ _ _ _ w z0 z1 l1 l2 a5 a7 (by omega) hxe
  · by_cases hb1 : pBank 1 r b d page < b - 1
    · have e := succ_dig a4 (show page % b < b - 1 from hb1)
      refine bank_1 r s b d c page _ _ _ _ _ _ _ _ w z0 z1 l1 l2 a5 a7 hb1 e.1 ?_ ?_
      · show (page + 1) / b % d = page / b % d; rw [e.2]
      · show (page + 1) / b / d % r = page / b / d % r; rw [e.2]
    · exact end_1 r s b d c page _ _ _ _ _ _ _ _ w z0 z1 l1 l2 a5 a7 (by omega) hxe
  · by_cases hr1 : 1 < r
    · exact rank_2 r s b d c page _ _ _ _ _ _ _ _ w z0 z1 l1 l2 a5 a7 hr1 (succ_ne hr1)
    · exact one_2 r s b d c page _ _ _ _ _ _ _ _ w z0 z1 l1 l2 a5 a7 (by omega) hxe
  · by_cases hr1 : 1 < r
    · exact rank_3 r s b d c page _ _ _ _ _ _ _ _ w z0 z1 l1 l2 a5 a7 hr1 (succ_ne hr1)
    · exact one_3 r s b d c page _ _ _ _ _ _ _ _ w z0 z1 l1 l2 a5 a7 (by omega) hxe

set_option maxRecDepth 100000 in
theorem lifted (os : Os) (started : os.Started) (H : Type) (enc : TypeId × Value → H) :
    ReturnsInHanded {} Try.checked os 8 .any (Rows.interSpreadsSpec.pre6 enc Try.prog Try.f8 Rows.interSpreadsRow.domain false) (Rows.interSpreadsSpec.post enc Try.prog Try.f8 false true false false) := by
  refine returnsInHanded_of_change (C := Try.checked) own started (by kernel_rfl) Try.func8
    (ChangeSpec.witness6 (enc := enc) (C := Try.checked) false ⟨#[], #[.agg #[.int .i64 0, .int .i64 0, .int .i64 0, .int .i64 0, .int .i64 0], .int .i64 0, .int .i64 0], []⟩ 8 (by kernel_rfl) (by kernel_rfl) (by kernel_rfl) (by kernel_rfl)) ?_
  intro W base args ds gs before hval0 hW hcnd _
  have hval : ∀ (j : Nat) t v, Try.f8.params[j]? = some t → args[j]? = some v → Value.okWide Try.prog W .any base t v := hval0
  have hW' := hW
  obtain ⟨p, q, hA0, hV, rfl, hfz, hnd⟩ := hW
  have hA : DataW.TrodAll enc Try.prog W 0 (fun _ => true) true Try.f8.params.toList args.toList ds p := hA0
  rw [Try.params8] at hA hval
  obtain ⟨v0, vs0, d0, ds0, p0, q0, hargs, rfl, rfl, h0, r0⟩ := trodAll_cons hA
  obtain ⟨v1, vs1, d1, ds1, p1, q1, rfl, rfl, rfl, h1, r1⟩ := trodAll_cons r0
  obtain ⟨v2, vs2, d2, ds2, p2, q2, rfl, rfl, rfl, h2, r2⟩ := trodAll_cons r1
  obtain ⟨rfl, rfl, rfl⟩ := trodAll_nil r2
  obtain rfl : args = #[v0, v1, v2] := by cases args; simp_all
  obtain ⟨rfl, rfl⟩ := trodVars_none hV
  have k0 := h0
  have lt0 : ∀ x ∈ p0, x.block < W.heap.size := by obtain ⟨m, hm⟩ := k0; exact DataW.trod_lt m _ _ _ hm
  have k1 := h1
  have lt1 : ∀ x ∈ p1, x.block < W.heap.size := by obtain ⟨m, hm⟩ := k1; exact DataW.trod_lt m _ _ _ hm
  have k2 := h2
  have lt2 : ∀ x ∈ p2, x.block < W.heap.size := by obtain ⟨m, hm⟩ := k2; exact DataW.trod_lt m _ _ _ hm
  obtain ⟨g0, g1, g2, g3, g4, rfl, _, _, _, _, _⟩ := open_geom (hval 0 23 v0 rfl rfl) h0
  obtain ⟨way, rfl, bway⟩ := open_num (hval 1 3 v1 rfl rfl) h1
  obtain ⟨page, rfl, bpage⟩ := open_num (hval 2 3 v2 rfl rfl) h2
  clear hA0 hval0
  refine (walk g0 g1 g2 g3 g4 way bway page bpage W).mono fun e W' ⟨he, bel⟩ => ?_
  subst he
  exact ⟨_, rfl, _, _, _, [], _, [], hW', trodAll_mk1 (shut_bool Try.underlying4 _), (trodAll_cons_mk (Below.trod laidOut (by kernel_rfl) (of_decide_eq_true (by kernel_rfl)) k0 bel lt0) (trodAll_cons_mk (Below.trod laidOut (by kernel_rfl) (of_decide_eq_true (by kernel_rfl)) k1 bel lt1) (trodAll_cons_mk (Below.trod laidOut (by kernel_rfl) (of_decide_eq_true (by kernel_rfl)) k2 bel lt2) trodAll_mk0))), rfl, bel.frame _, fun h => by cases h⟩

theorem over : Rows.interSpreadsRow.holds Try.pinned (OpenSpec.ofChange Rows.interSpreadsSpec) :=
  OpenClaim.holds_of_wide 8 Try.f8 rfl rfl rfl rfl rfl rfl rfl ⟨rfl, rfl, rfl, rfl, rfl⟩ rfl rfl rfl rfl rfl (by kernel_rfl) Try.func8 (by kernel_rfl)
    (of_decide_eq_true (by kernel_rfl)) (by unfold Func.isWrapper; first | (rw [if_pos (by decide +kernel)]; kernel_rfl) | (rw [if_neg (by decide +kernel)]; exact ⟨rfl, rfl⟩))
    (fun os started H enc _ => lifted os started H enc)

theorem proved : Rows.InterSpreadsSaid := over
#print axioms proved
end spreads
end Go.Proofs.Ytjmcpeobncoinaa
