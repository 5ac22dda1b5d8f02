/- Unlike places of one geometry have unlike indices, below 2^23, and the order of indices is that of ranks, banks, rows, columns: for every geometry and every two places. No condition. -/
import Derived.Test.YtjmcpeobncoinaaGeoC
import Derived.Test.YtjmcpeobncoinaaFr
namespace Go.Proofs.Ytjmcpeobncoinaa
open Go.ChangeShapes Go.WideShapes Go.ChangeAt Go.RowKit
namespace unlike

theorem Index_some (r s b d c pr pb pd pc : Int) (w : World) :
    Calls Try.prog 13 #[.agg #[.int .i64 r, .int .i64 s, .int .i64 b, .int .i64 d, .int .i64 c], .agg #[.int .i64 pr, .int .i64 pb, .int .i64 pd, .int .i64 pc]] w fun e w' => ∃ x y : Int, e = .returned (.tuple #[.int .i64 x, .int .i64 y]) ∧ Below w.heap.size w w' :=
  (Index_any r s b d c pr pb pd pc w).mono fun e w' ⟨he, hb⟩ => by
    cases h : holdsB r s b d c pr pb pd pc
    · rw [h] at he; exact ⟨_, _, he, hb⟩
    · rw [h] at he; exact ⟨_, _, he, hb⟩

set_option maxHeartbeats 1000000 in
theorem no_p (r s b d c pr pb pd pc qr qb qd qc : Int) (w : World) (hp : holdsB r s b d c pr pb pd pc = false) :
    Calls Try.prog 3 #[.agg #[.int .i64 r, .int .i64 s, .int .i64 b, .int .i64 d, .int .i64 c], .agg #[.int .i64 pr, .int .i64 pb, .int .i64 pd, .int .i64 pc], .agg #[.int .i64 qr, .int .i64 qb, .int .i64 qd, .int .i64 qc]] w fun e w' => e = .returned (.bool true) ∧ Below w.heap.size w w' := by
  have HP := Lib.hid hp
  clear hp
  go_enter Try.func3, Try.ntmps3
  go_wp2_with fail
  refine (anchor_any _).mono ?_; rintro e w1 ⟨rfl, hb⟩; obtain ⟨hc, hf⟩ := bcell hb; obtain ⟨hz, hz', hz''⟩ := size_three hb
  go_wp2_with fail
  refine (Index_no HP.out _).mono ?_; rintro e w2 ⟨rfl, hb2⟩; obtain ⟨hc2, hf2⟩ := bcell hb2; have hz2 := Nat.lt_of_lt_of_le hz hb2.size; have hz2' := Nat.lt_of_lt_of_le hz' hb2.size; have hz2'' := Nat.lt_of_lt_of_le hz'' hb2.size
  go_wp2_with fail
  refine (Index_some _ _ _ _ _ _ _ _ _ _).mono ?_; rintro e w3 ⟨x, y, rfl, hb3⟩; obtain ⟨hc3, hf3⟩ := bcell hb3; have hz3 := Nat.lt_of_lt_of_le hz2 hb3.size; have hz3' := Nat.lt_of_lt_of_le hz2' hb3.size; have hz3'' := Nat.lt_of_lt_of_le hz2'' hb3.size
  go_wp2_with fail
  all_goals go_ret
  all_goals clear hc hf hc2 hf2 hc3 hf3
  all_goals exact ⟨ret_bool (by first | rfl | (simp; omega) | (simp [*]; done)), below_next (below_next (below_three hb) hb2) hb3⟩

set_option maxHeartbeats 1000000 in
theorem no_q (r s b d c pr pb pd pc qr qb qd qc : Int) (w : World) (hp : holdsB r s b d c pr pb pd pc = true) (hq : holdsB r s b d c qr qb qd qc = false) :
    Calls Try.prog 3 #[.agg #[.int .i64 r, .int .i64 s, .int .i64 b, .int .i64 d, .int .i64 c], .agg #[.int .i64 pr, .int .i64 pb, .int .i64 pd, .int .i64 pc], .agg #[.int .i64 qr, .int .i64 qb, .int .i64 qd, .int .i64 qc]] w fun e w' => e = .returned (.bool true) ∧ Below w.heap.size w w' := by
  have HP := Lib.hid hp
  have HQ := Lib.hid hq
  clear hp hq
  go_enter Try.func3, Try.ntmps3
  go_wp2_with fail
  refine (anchor_any _).mono ?_; rintro e w1 ⟨rfl, hb⟩; obtain ⟨hc, hf⟩ := bcell hb; obtain ⟨hz, hz', hz''⟩ := size_three hb
  go_wp2_with fail
  refine (Index_yes HP.out _).mono ?_; rintro e w2 ⟨rfl, hb2⟩; obtain ⟨hc2, hf2⟩ := bcell hb2; have hz2 := Nat.lt_of_lt_of_le hz hb2.size; have hz2' := Nat.lt_of_lt_of_le hz' hb2.size; have hz2'' := Nat.lt_of_lt_of_le hz'' hb2.size
  go_wp2_with fail
  refine (Index_no HQ.out _).mono ?_; rintro e w3 ⟨rfl, hb3⟩; obtain ⟨hc3, hf3⟩ := bcell hb3; have hz3 := Nat.lt_of_lt_of_le hz2 hb3.size; have hz3' := Nat.lt_of_lt_of_le hz2' hb3.size; have hz3'' := Nat.lt_of_lt_of_le hz2'' hb3.size
  go_wp2_with fail
  all_goals go_ret
  all_goals clear hc hf hc2 hf2 hc3 hf3
  all_goals exact ⟨ret_bool (by first | rfl | (simp; omega) | (simp [*]; done)), below_next (below_next (below_three hb) hb2) hb3⟩

set_option maxHeartbeats 1000000 in
theorem case0a (r s b d c pr pb pd pc qr qb qd qc : Int) (w : World) (hp : holdsB r s b d c pr pb pd pc = true) (hq : holdsB r s b d c qr qb qd qc = true) (hlt : pr < qr) :
    Calls Try.prog 3 #[.agg #[.int .i64 r, .int .i64 s, .int .i64 b, .int .i64 d, .int .i64 c], .agg #[.int .i64 pr, .int .i64 pb, .int .i64 pd, .int .i64 pc], .agg #[.int .i64 qr, .int .i64 qb, .int .i64 qd, .int .i64 qc]] w fun e w' => e = .returned (.bool true) ∧ Below w.heap.size w w' := by
  obtain ⟨h1, h2, h3, h4, h5, h6, h7, h8⟩ := holdsB_bd hp
  obtain ⟨g1, g2, g3, g4, g5, g6, g7, g8⟩ := holdsB_bd hq
  have HP := Lib.hid hp
  have HQ := Lib.hid hq
  clear hp hq
  have ip : 0 ≤ idx pr pb pd pc ∧ idx pr pb pd pc < 8388608 := by unfold idx; omega
  obtain ⟨ip1, ip2⟩ := ip
  have iq : 0 ≤ idx qr qb qd qc ∧ idx qr qb qd qc < 8388608 := by unfold idx; omega
  obtain ⟨iq1, iq2⟩ := iq
  have il : idx pr pb pd pc < idx qr qb qd qc := by unfold idx; omega
  go_enter Try.func3, Try.ntmps3
  go_wp2_with fail
  refine (anchor_any _).mono ?_; rintro e w1 ⟨rfl, hb⟩; obtain ⟨hc, hf⟩ := bcell hb; obtain ⟨hz, hz', hz''⟩ := size_three hb
  go_wp2_with fail
  refine (Index_yes HP.out _).mono ?_; rintro e w2 ⟨rfl, hb2⟩; obtain ⟨hc2, hf2⟩ := bcell hb2; have hz2 := Nat.lt_of_lt_of_le hz hb2.size; have hz2' := Nat.lt_of_lt_of_le hz' hb2.size; have hz2'' := Nat.lt_of_lt_of_le hz'' hb2.size
  go_wp2_with fail
  refine (Index_yes HQ.out _).mono ?_; rintro e w3 ⟨rfl, hb3⟩; obtain ⟨hc3, hf3⟩ := bcell hb3; have hz3 := Nat.lt_of_lt_of_le hz2 hb3.size; have hz3' := Nat.lt_of_lt_of_le hz2' hb3.size; have hz3'' := Nat.lt_of_lt_of_le hz2'' hb3.size
  go_wp2_with fail
  all_goals go_ret
  all_goals clear hc hf hc2 hf2 hc3 hf3
  all_goals exact ⟨ret_bool (by first | rfl | (simp; omega) | (simp [*]; done)), below_next (below_next (below_three hb) hb2) hb3⟩

set_option maxHeartbeats 1000000 in
theorem case0b (r s b d c pr pb pd pc qr qb qd qc : Int) (w : World) (hp : holdsB r s b d c pr pb pd pc = true) (hq : holdsB r s b d c qr qb qd qc = true) (hlt : qr < pr) :
    Calls Try.prog 3 #[.agg #[.int .i64 r, .int .i64 s, .int .i64 b, .int .i64 d, .int .i64 c], .agg #[.int .i64 pr, .int .i64 pb, .int .i64 pd, .int .i64 pc], .agg #[.int .i64 qr, .int .i64 qb, .int .i64 qd, .int .i64 qc]] w fun e w' => e = .returned (.bool true) ∧ Below w.heap.size w w' := by
  obtain ⟨h1, h2, h3, h4, h5, h6, h7, h8⟩ := holdsB_bd hp
  obtain ⟨g1, g2, g3, g4, g5, g6, g7, g8⟩ := holdsB_bd hq
  have HP := Lib.hid hp
  have HQ := Lib.hid hq
  clear hp hq
  have ip : 0 ≤ idx pr pb pd pc ∧ idx pr pb pd pc < 8388608 := by unfold idx; omega
  obtain ⟨ip1, ip2⟩ := ip
  have iq : 0 ≤ idx qr qb qd qc ∧ idx qr qb qd qc < 8388608 := by unfold idx; omega
  obtain ⟨iq1, iq2⟩ := iq
  have il : idx qr qb qd qc < idx pr pb pd pc := by unfold idx; omega
  go_enter Try.func3, Try.ntmps3
  go_wp2_with fail
  refine (anchor_any _).mono ?_; rintro e w1 ⟨rfl, hb⟩; obtain ⟨hc, hf⟩ := bcell hb; obtain ⟨hz, hz', hz''⟩ := size_three hb
  go_wp2_with fail
  refine (Index_yes HP.out _).mono ?_; rintro e w2 ⟨rfl, hb2⟩; obtain ⟨hc2, hf2⟩ := bcell hb2; have hz2 := Nat.lt_of_lt_of_le hz hb2.size; have hz2' := Nat.lt_of_lt_of_le hz' hb2.size; have hz2'' := Nat.lt_of_lt_of_le hz'' hb2.size
  go_wp2_with fail
  refine (Index_yes HQ.out _).mono ?_; rintro e w3 ⟨rfl, hb3⟩; obtain ⟨hc3, hf3⟩ := bcell hb3; have hz3 := Nat.lt_of_lt_of_le hz2 hb3.size; have hz3' := Nat.lt_of_lt_of_le hz2' hb3.size; have hz3'' := Nat.lt_of_lt_of_le hz2'' hb3.size
  go_wp2_with fail
  all_goals go_ret
  all_goals clear hc hf hc2 hf2 hc3 hf3
  all_goals exact ⟨ret_bool (by first | rfl | (simp; omega) | (simp [*]; done)), below_next (below_next (below_three hb) hb2) hb3⟩

set_option maxHeartbeats 1000000 in
theorem case1a (r s b d c pr pb pd pc qb qd qc : Int) (w : World) (hp : holdsB r s b d c pr pb pd pc = true) (hq : holdsB r s b d c pr qb qd qc = true) (hlt : pb < qb) :
    Calls Try.prog 3 #[.agg #[.int .i64 r, .int .i64 s, .int .i64 b, .int .i64 d, .int .i64 c], .agg #[.int .i64 pr, .int .i64 pb, .int .i64 pd, .int .i64 pc], .agg #[.int .i64 pr, .int .i64 qb, .int .i64 qd, .int .i64 qc]] w fun e w' => e = .returned (.bool true) ∧ Below w.heap.size w w' := by
  obtain ⟨h1, h2, h3, h4, h5, h6, h7, h8⟩ := holdsB_bd hp
  obtain ⟨g1, g2, g3, g4, g5, g6, g7, g8⟩ := holdsB_bd hq
  have HP := Lib.hid hp
  have HQ := Lib.hid hq
  clear hp hq
  have ip : 0 ≤ idx pr pb pd pc ∧ idx pr pb pd pc < 8388608 := by unfold idx; omega
  obtain ⟨ip1, ip2⟩ := ip
  have iq : 0 ≤ idx pr qb qd qc ∧ idx pr qb qd qc < 8388608 := by unfold idx; omega
  obtain ⟨iq1, iq2⟩ := iq
  have il : idx pr pb pd pc < idx pr qb qd qc := by unfold idx; omega
  go_enter Try.func3, Try.ntmps3
  go_wp2_with fail
  refine (anchor_any _).mono ?_; rintro e w1 ⟨rfl, hb⟩; obtain ⟨hc, hf⟩ := bcell hb; obtain ⟨hz, hz', hz''⟩ := size_three hb
  go_wp2_with fail
  refine (Index_yes HP.out _).mono ?_; rintro e w2 ⟨rfl, hb2⟩; obtain ⟨hc2, hf2⟩ := bcell hb2; have hz2 := Nat.lt_of_lt_of_le hz hb2.size; have hz2' := Nat.lt_of_lt_of_le hz' hb2.size; have hz2'' := Nat.lt_of_lt_of_le hz'' hb2.size
  go_wp2_with fail
  refine (Index_yes HQ.out _).mono ?_; rintro e w3 ⟨rfl, hb3⟩; obtain ⟨hc3, hf3⟩ := bcell hb3; have hz3 := Nat.lt_of_lt_of_le hz2 hb3.size; have hz3' := Nat.lt_of_lt_of_le hz2' hb3.size; have hz3'' := Nat.lt_of_lt_of_le hz2'' hb3.size
  go_wp2_with fail
  all_goals go_ret
  all_goals clear hc hf hc2 hf2 hc3 hf3
  all_goals exact ⟨ret_bool (by first | rfl | (simp; omega) | (simp [*]; done)), below_next (below_next (below_three hb) hb2) hb3⟩

set_option maxHeartbeats 1000000 in
theorem case1b (r s b d c pr pb pd pc qb qd qc : Int) (w : World) (hp : holdsB r s b d c pr pb pd pc = true) (hq : holdsB r s b d c pr qb qd qc = true) (hlt : qb < pb) :
    Calls Try.prog 3 #[.agg #[.int .i64 r, .int .i64 s, .int .i64 b, .int .i64 d, .int .i64 c], .agg #[.int .i64 pr, .int .i64 pb, .int .i64 pd, .int .i64 pc], .agg #[.int .i64 pr, .int .i64 qb, .int .i64 qd, .int .i64 qc]] w fun e w' => e = .returned (.bool true) ∧ Below w.heap.size w w' := by
  obtain ⟨h1, h2, h3, h4, h5, h6, h7, h8⟩ := holdsB_bd hp
  obtain ⟨g1, g2, g3, g4, g5, g6, g7, g8⟩ := holdsB_bd hq
  have HP := Lib.hid hp
  have HQ := Lib.hid hq
  clear hp hq
  have ip : 0 ≤ idx pr pb pd pc ∧ idx pr pb pd pc < 8388608 := by unfold idx; omega
  obtain ⟨ip1, ip2⟩ := ip
  have iq : 0 ≤ idx pr qb qd qc ∧ idx pr qb qd qc < 8388608 := by unfold idx; omega
  obtain ⟨iq1, iq2⟩ := iq
  have il : idx pr qb qd qc < idx pr pb pd pc := by unfold idx; omega
  go_enter Try.func3, Try.ntmps3
  go_wp2_with fail
  refine (anchor_any _).mono ?_; rintro e w1 ⟨rfl, hb⟩; obtain ⟨hc, hf⟩ := bcell hb; obtain ⟨hz, hz', hz''⟩ := size_three hb
  go_wp2_with fail
  refine (Index_yes HP.out _).mono ?_; rintro e w2 ⟨rfl, hb2⟩; obtain ⟨hc2, hf2⟩ := bcell hb2; have hz2 := Nat.lt_of_lt_of_le hz hb2.size; have hz2' := Nat.lt_of_lt_of_le hz' hb2.size; have hz2'' := Nat.lt_of_lt_of_le hz'' hb2.size
  go_wp2_with fail
  refine (Index_yes HQ.out _).mono ?_; rintro e w3 ⟨rfl, hb3⟩; obtain ⟨hc3, hf3⟩ := bcell hb3; have hz3 := Nat.lt_of_lt_of_le hz2 hb3.size; have hz3' := Nat.lt_of_lt_of_le hz2' hb3.size; have hz3'' := Nat.lt_of_lt_of_le hz2'' hb3.size
  go_wp2_with fail
  all_goals go_ret
  all_goals clear hc hf hc2 hf2 hc3 hf3
  all_goals exact ⟨ret_bool (by first | rfl | (simp; omega) | (simp [*]; done)), below_next (below_next (below_three hb) hb2) hb3⟩

set_option maxHeartbeats 1000000 in
theorem case2a (r s b d c pr pb pd pc qd qc : Int) (w : World) (hp : holdsB r s b d c pr pb pd pc = true) (hq : holdsB r s b d c pr pb qd qc = true) (hlt : pd < qd) :
    Calls Try.prog 3 #[.agg #[.int .i64 r, .int .i64 s, .int .i64 b, .int .i64 d, .int .i64 c], .agg #[.int .i64 pr, .int .i64 pb, .int .i64 pd, .int .i64 pc], .agg #[.int .i64 pr, .int .i64 pb, .int .i64 qd, .int .i64 qc]] w fun e w' => e = .returned (.bool true) ∧ Below w.heap.size w w' := by
  obtain ⟨h1, h2, h3, h4, h5, h6, h7, h8⟩ := holdsB_bd hp
  obtain ⟨g1, g2, g3, g4, g5, g6, g7, g8⟩ := holdsB_bd hq
  have HP := Lib.hid hp
  have HQ := Lib.hid hq
  clear hp hq
  have ip : 0 ≤ idx pr pb pd pc ∧ idx pr pb pd pc < 8388608 := by unfold idx; omega
  obtain ⟨ip1, ip2⟩ := ip
  have iq : 0 ≤ idx pr pb qd qc ∧ idx pr pb qd qc < 8388608 := by unfold idx; omega
  obtain ⟨iq1, iq2⟩ := iq
  have il : idx pr pb pd pc < idx pr pb qd qc := by unfold idx; omega
  go_enter Try.func3, Try.ntmps3
  go_wp2_with fail
  refine (anchor_any _).mono ?_; rintro e w1 ⟨rfl, hb⟩; obtain ⟨hc, hf⟩ := bcell hb; obtain ⟨hz, hz', hz''⟩ := size_three hb
  go_wp2_with fail
  refine (Index_yes HP.out _).mono ?_; rintro e w2 ⟨rfl, hb2⟩; obtain ⟨hc2, hf2⟩ := bcell hb2; have hz2 := Nat.lt_of_lt_of_le hz hb2.size; have hz2' := Nat.lt_of_lt_of_le hz' hb2.size; have hz2'' := Nat.lt_of_lt_of_le hz'' hb2.size
  go_wp2_with fail
  refine (Index_yes HQ.out _).mono ?_; rintro e w3 ⟨rfl, hb3⟩; obtain ⟨hc3, hf3⟩ := bcell hb3; have hz3 := Nat.lt_of_lt_of_le hz2 hb3.size; have hz3' := Nat.lt_of_lt_of_le hz2' hb3.size; have hz3'' := Nat.lt_of_lt_of_le hz2'' hb3.size
  go_wp2_with fail
  all_goals go_ret
  all_goals clear hc hf hc2 hf2 hc3 hf3
  all_goals exact ⟨ret_bool (by first | rfl | (simp; omega) | (simp [*]; done)), below_next (below_next (below_three hb) hb2) hb3⟩

set_option maxHeartbeats 1000000 in
theorem case2b (r s b d c pr pb pd pc qd qc : Int) (w : World) (hp : holdsB r s b d c pr pb pd pc = true) (hq : holdsB r s b d c pr pb qd qc = true) (hlt : qd < pd) :
    Calls Try.prog 3 #[.agg #[.int .i64 r, .int .i64 s, .int .i64 b, .int .i64 d, .int .i64 c], .agg #[.int .i64 pr, .int .i64 pb, .int .i64 pd, .int .i64 pc], .agg #[.int .i64 pr, .int .i64 pb, .int .i64 qd, .int .i64 qc]] w fun e w' => e = .returned (.bool true) ∧ Below w.heap.size w w' := by
  obtain ⟨h1, h2, h3, h4, h5, h6, h7, h8⟩ := holdsB_bd hp
  obtain ⟨g1, g2, g3, g4, g5, g6, g7, g8⟩ := holdsB_bd hq
  have HP := Lib.hid hp
  have HQ := Lib.hid hq
  clear hp hq
  have ip : 0 ≤ idx pr pb pd pc ∧ idx pr pb pd pc < 8388608 := by unfold idx; omega
  obtain ⟨ip1, ip2⟩ := ip
  have iq : 0 ≤ idx pr pb qd qc ∧ idx pr pb qd qc < 8388608 := by unfold idx; omega
  obtain ⟨iq1, iq2⟩ := iq
  have il : idx pr pb qd qc < idx pr pb pd pc := by unfold idx; omega
  go_enter Try.func3, Try.ntmps3
  go_wp2_with fail
  refine (anchor_any _).mono ?_; rintro e w1 ⟨rfl, hb⟩; obtain ⟨hc, hf⟩ := bcell hb; obtain ⟨hz, hz', hz''⟩ := size_three hb
  go_wp2_with fail
  refine (Index_yes HP.out _).mono ?_; rintro e w2 ⟨rfl, hb2⟩; obtain ⟨hc2, hf2⟩ := bcell hb2; have hz2 := Nat.lt_of_lt_of_le hz hb2.size; have hz2' := Nat.lt_of_lt_of_le hz' hb2.size; have hz2'' := Nat.lt_of_lt_of_le hz'' hb2.size
  go_wp2_with fail
  refine (Index_yes HQ.out _).mono ?_; rintro e w3 ⟨rfl, hb3⟩; obtain ⟨hc3, hf3⟩ := bcell hb3; have hz3 := Nat.lt_of_lt_of_le hz2 hb3.size; have hz3' := Nat.lt_of_lt_of_le hz2' hb3.size; have hz3'' := Nat.lt_of_lt_of_le hz2'' hb3.size
  go_wp2_with fail
  all_goals go_ret
  all_goals clear hc hf hc2 hf2 hc3 hf3
  all_goals exact ⟨ret_bool (by first | rfl | (simp; omega) | (simp [*]; done)), below_next (below_next (below_three hb) hb2) hb3⟩

set_option maxHeartbeats 1000000 in
theorem case3a (r s b d c pr pb pd pc qc : Int) (w : World) (hp : holdsB r s b d c pr pb pd pc = true) (hq : holdsB r s b d c pr pb pd qc = true) (hlt : pc < qc) :
    Calls Try.prog 3 #[.agg #[.int .i64 r, .int .i64 s, .int .i64 b, .int .i64 d, .int .i64 c], .agg #[.int .i64 pr, .int .i64 pb, .int .i64 pd, .int .i64 pc], .agg #[.int .i64 pr, .int .i64 pb, .int .i64 pd, .int .i64 qc]] w fun e w' => e = .returned (.bool true) ∧ Below w.heap.size w w' := by
  obtain ⟨h1, h2, h3, h4, h5, h6, h7, h8⟩ := holdsB_bd hp
  obtain ⟨g1, g2, g3, g4, g5, g6, g7, g8⟩ := holdsB_bd hq
  have HP := Lib.hid hp
  have HQ := Lib.hid hq
  clear hp hq
  have ip : 0 ≤ idx pr pb pd pc ∧ idx pr pb pd pc < 8388608 := by unfold idx; omega
  obtain ⟨ip1, ip2⟩ := ip
  have iq : 0 ≤ idx pr pb pd qc ∧ idx pr pb pd qc < 8388608 := by unfold idx; omega
  obtain ⟨iq1, iq2⟩ := iq
  have il : idx pr pb pd pc < idx pr pb pd qc := by unfold idx; omega
  go_enter Try.func3, Try.ntmps3
  go_wp2_with fail
  refine (anchor_any _).mono ?_; rintro e w1 ⟨rfl, hb⟩; obtain ⟨hc, hf⟩ := bcell hb; obtain ⟨hz, hz', hz''⟩ := size_three hb
  go_wp2_with fail
  refine (Index_yes HP.out _).mono ?_; rintro e w2 ⟨rfl, hb2⟩; obtain ⟨hc2, hf2⟩ := bcell hb2; have hz2 := Nat.lt_of_lt_of_le hz hb2.size; have hz2' := Nat.lt_of_lt_of_le hz' hb2.size; have hz2'' := Nat.lt_of_lt_of_le hz'' hb2.size
  go_wp2_with fail
  refine (Index_yes HQ.out _).mono ?_; rintro e w3 ⟨rfl, hb3⟩; obtain ⟨hc3, hf3⟩ := bcell hb3; have hz3 := Nat.lt_of_lt_of_le hz2 hb3.size; have hz3' := Nat.lt_of_lt_of_le hz2' hb3.size; have hz3'' := Nat.lt_of_lt_of_le hz2'' hb3.size
  go_wp2_with fail
  all_goals go_ret
  all_goals clear hc hf hc2 hf2 hc3 hf3
  all_goals exact ⟨ret_bool (by first | rfl | (simp; omega) | (simp [*]; done)), below_next (below_next (below_three hb) hb2) hb3⟩

set_option maxHeartbeats 1000000 in
theorem case3b (r s b d c pr pb pd pc qc : Int) (w : World) (hp : holdsB r s b d c pr pb pd pc = true) (hq : holdsB r s b d c pr pb pd qc = true) (hlt : qc < pc) :
    Calls Try.prog 3 #[.agg #[.int .i64 r, .int .i64 s, .int .i64 b, .int .i64 d, .int .i64 c], .agg #[.int .i64 pr, .int .i64 pb, .int .i64 pd, .int .i64 pc], .agg #[.int .i64 pr, .int .i64 pb, .int .i64 pd, .int .i64 qc]] w fun e w' => e = .returned (.bool true) ∧ Below w.heap.size w w' := by
  obtain ⟨h1, h2, h3, h4, h5, h6, h7, h8⟩ := holdsB_bd hp
  obtain ⟨g1, g2, g3, g4, g5, g6, g7, g8⟩ := holdsB_bd hq
  have HP := Lib.hid hp
  have HQ := Lib.hid hq
  clear hp hq
  have ip : 0 ≤ idx pr pb pd pc ∧ idx pr pb pd pc < 8388608 := by unfold idx; omega
  obtain ⟨ip1, ip2⟩ := ip
  have iq : 0 ≤ idx pr pb pd qc ∧ idx pr pb pd qc < 8388608 := by unfold idx; omega
  obtain ⟨iq1, iq2⟩ := iq
  have il : idx pr pb pd qc < idx pr pb pd pc := by unfold idx; omega
  go_enter Try.func3, Try.ntmps3
  go_wp2_with fail
  refine (anchor_any _).mono ?_; rintro e w1 ⟨rfl, hb⟩; obtain ⟨hc, hf⟩ := bcell hb; obtain ⟨hz, hz', hz''⟩ := size_three hb
  go_wp2_with fail
  refine (Index_yes HP.out _).mono ?_; rintro e w2 ⟨rfl, hb2⟩; obtain ⟨hc2, hf2⟩ := bcell hb2; have hz2 := Nat.lt_of_lt_of_le hz hb2.size; have hz2' := Nat.lt_of_lt_of_le hz' hb2.size; have hz2'' := Nat.lt_of_lt_of_le hz'' hb2.size
  go_wp2_with fail
  refine (Index_yes HQ.out _).mono ?_; rintro e w3 ⟨rfl, hb3⟩; obtain ⟨hc3, hf3⟩ := bcell hb3; have hz3 := Nat.lt_of_lt_of_le hz2 hb3.size; have hz3' := Nat.lt_of_lt_of_le hz2' hb3.size; have hz3'' := Nat.lt_of_lt_of_le hz2'' hb3.size
  go_wp2_with fail
  all_goals go_ret
  all_goals clear hc hf hc2 hf2 hc3 hf3
  all_goals exact ⟨ret_bool (by first | rfl | (simp; omega) | (simp [*]; done)), below_next (below_next (below_three hb) hb2) hb3⟩

set_option maxHeartbeats 1000000 in
theorem case4c (r s b d c pr pb pd pc : Int) (w : World) (hp : holdsB r s b d c pr pb pd pc = true) (hq : holdsB r s b d c pr pb pd pc = true) :
    Calls Try.prog 3 #[.agg #[.int .i64 r, .int .i64 s, .int .i64 b, .int .i64 d, .int .i64 c], .agg #[.int .i64 pr, .int .i64 pb, .int .i64 pd, .int .i64 pc], .agg #[.int .i64 pr, .int .i64 pb, .int .i64 pd, .int .i64 pc]] w fun e w' => e = .returned (.bool true) ∧ Below w.heap.size w w' := by
  obtain ⟨h1, h2, h3, h4, h5, h6, h7, h8⟩ := holdsB_bd hp
  have HP := Lib.hid hp
  have HQ := Lib.hid hq
  clear hp hq
  have ip : 0 ≤ idx pr pb pd pc ∧ idx pr pb pd pc < 8388608 := by unfold idx; omega
  obtain ⟨ip1, ip2⟩ := ip
  go_enter Try.func3, Try.ntmps3
  go_wp2_with fail
  refine (anchor_any _).mono ?_; rintro e w1 ⟨rfl, hb⟩; obtain ⟨hc, hf⟩ := bcell hb; obtain ⟨hz, hz', hz''⟩ := size_three hb
  go_wp2_with fail
  refine (Index_yes HP.out _).mono ?_; rintro e w2 ⟨rfl, hb2⟩; obtain ⟨hc2, hf2⟩ := bcell hb2; have hz2 := Nat.lt_of_lt_of_le hz hb2.size; have hz2' := Nat.lt_of_lt_of_le hz' hb2.size; have hz2'' := Nat.lt_of_lt_of_le hz'' hb2.size
  go_wp2_with fail
  refine (Index_yes HQ.out _).mono ?_; rintro e w3 ⟨rfl, hb3⟩; obtain ⟨hc3, hf3⟩ := bcell hb3; have hz3 := Nat.lt_of_lt_of_le hz2 hb3.size; have hz3' := Nat.lt_of_lt_of_le hz2' hb3.size; have hz3'' := Nat.lt_of_lt_of_le hz2'' hb3.size
  go_wp2_with fail
  all_goals go_ret
  all_goals clear hc hf hc2 hf2 hc3 hf3
  all_goals exact ⟨ret_bool (by first | rfl | (simp; omega) | (simp [*]; done)), below_next (below_next (below_three hb) hb2) hb3⟩

theorem walk (r s b d c pr pb pd pc qr qb qd qc : Int) (w : World) :
    Calls Try.prog 3 #[.agg #[.int .i64 r, .int .i64 s, .int .i64 b, .int .i64 d, .int .i64 c], .agg #[.int .i64 pr, .int .i64 pb, .int .i64 pd, .int .i64 pc], .agg #[.int .i64 qr, .int .i64 qb, .int .i64 qd, .int .i64 qc]] w fun e w' => e = .returned (.bool true) ∧ Below w.heap.size w w' := by
  cases hp : holdsB r s b d c pr pb pd pc
  · exact no_p r s b d c pr pb pd pc qr qb qd qc w hp
  cases hq : holdsB r s b d c qr qb qd qc
  · exact no_q r s b d c pr pb pd pc qr qb qd qc w hp hq
  rcases Int.lt_trichotomy pr qr with h0 | rfl | h0
  · exact case0a r s b d c pr pb pd pc qr qb qd qc w hp hq h0
  rotate_left
  · exact case0b r s b d c pr pb pd pc qr qb qd qc w hp hq h0
  rcases Int.lt_trichotomy pb qb with h1 | rfl | h1
  · exact case1a r s b d c pr pb pd pc qb qd qc w hp hq h1
  rotate_left
  · exact case1b r s b d c pr pb pd pc qb qd qc w hp hq h1
  rcases Int.lt_trichotomy pd qd with h2 | rfl | h2
  · exact case2a r s b d c pr pb pd pc qd qc w hp hq h2
  rotate_left
  · exact case2b r s b d c pr pb pd pc qd qc w hp hq h2
  rcases Int.lt_trichotomy pc qc with h3 | rfl | h3
  · exact case3a r s b d c pr pb pd pc qc w hp hq h3
  rotate_left
  · exact case3b r s b d c pr pb pd pc qc w hp hq h3
  exact case4c r s b d c pr pb pd pc w hp hq

set_option maxRecDepth 100000 in
theorem lifted (os : Os) (started : os.Started) (H : Type) (enc : TypeId × Value → H) :
    ReturnsInHanded {} Try.checked os 3 .any (Rows.geomUnlikeSpec.pre6 enc Try.prog Try.f3 Rows.geomUnlikeRow.domain false) (Rows.geomUnlikeSpec.post enc Try.prog Try.f3 false true false false) := by
  refine returnsInHanded_of_change (C := Try.checked) own started (by kernel_rfl) Try.func3
    (ChangeSpec.witness6 (enc := enc) (C := Try.checked) false ⟨#[], #[.agg #[.int .i64 0, .int .i64 0, .int .i64 0, .int .i64 0, .int .i64 0], .agg #[.int .i64 0, .int .i64 0, .int .i64 0, .int .i64 0], .agg #[.int .i64 0, .int .i64 0, .int .i64 0, .int .i64 0]], []⟩ 8 (by kernel_rfl) (by kernel_rfl) (by kernel_rfl) (by kernel_rfl)) ?_
  intro W base args ds gs before hval0 hW hcnd _
  have hval : ∀ (j : Nat) t v, Try.f3.params[j]? = some t → args[j]? = some v → Value.okWide Try.prog W .any base t v := hval0
  have hW' := hW
  obtain ⟨p, q, hA0, hV, rfl, hfz, hnd⟩ := hW
  have hA : DataW.TrodAll enc Try.prog W 0 (fun _ => true) true Try.f3.params.toList args.toList ds p := hA0
  rw [Try.params3] at hA hval
  obtain ⟨v0, vs0, d0, ds0, p0, q0, hargs, rfl, rfl, h0, r0⟩ := trodAll_cons hA
  obtain ⟨v1, vs1, d1, ds1, p1, q1, rfl, rfl, rfl, h1, r1⟩ := trodAll_cons r0
  obtain ⟨v2, vs2, d2, ds2, p2, q2, rfl, rfl, rfl, h2, r2⟩ := trodAll_cons r1
  obtain ⟨rfl, rfl, rfl⟩ := trodAll_nil r2
  obtain rfl : args = #[v0, v1, v2] := by cases args; simp_all
  obtain ⟨rfl, rfl⟩ := trodVars_none hV
  have k0 := h0
  have lt0 : ∀ x ∈ p0, x.block < W.heap.size := by obtain ⟨m, hm⟩ := k0; exact DataW.trod_lt m _ _ _ hm
  have k1 := h1
  have lt1 : ∀ x ∈ p1, x.block < W.heap.size := by obtain ⟨m, hm⟩ := k1; exact DataW.trod_lt m _ _ _ hm
  have k2 := h2
  have lt2 : ∀ x ∈ p2, x.block < W.heap.size := by obtain ⟨m, hm⟩ := k2; exact DataW.trod_lt m _ _ _ hm
  obtain ⟨g0, g1, g2, g3, g4, rfl, _, _, _, _, _⟩ := open_geom (hval 0 23 v0 rfl rfl) h0
  obtain ⟨s0, s1, s2, s3, rfl, _, _, _, _⟩ := open_place (hval 1 25 v1 rfl rfl) h1
  obtain ⟨t0, t1, t2, t3, rfl, _, _, _, _⟩ := open_place (hval 2 25 v2 rfl rfl) h2
  clear hA0 hval0
  refine (walk g0 g1 g2 g3 g4 s0 s1 s2 s3 t0 t1 t2 t3 W).mono fun e W' ⟨he, bel⟩ => ?_
  subst he
  exact ⟨_, rfl, _, _, _, [], _, [], hW', trodAll_mk1 (shut_bool Try.underlying4 _), (trodAll_cons_mk (Below.trod laidOut (by kernel_rfl) (of_decide_eq_true (by kernel_rfl)) k0 bel lt0) (trodAll_cons_mk (Below.trod laidOut (by kernel_rfl) (of_decide_eq_true (by kernel_rfl)) k1 bel lt1) (trodAll_cons_mk (Below.trod laidOut (by kernel_rfl) (of_decide_eq_true (by kernel_rfl)) k2 bel lt2) trodAll_mk0))), rfl, bel.frame _, fun h => by cases h⟩

theorem over : Rows.geomUnlikeRow.holds Try.pinned (OpenSpec.ofChange Rows.geomUnlikeSpec) :=
  OpenClaim.holds_of_wide 3 Try.f3 rfl rfl rfl rfl rfl rfl rfl ⟨rfl, rfl, rfl, rfl, rfl⟩ rfl rfl rfl rfl rfl (by kernel_rfl) Try.func3 (by kernel_rfl)
    (of_decide_eq_true (by kernel_rfl)) (by unfold Func.isWrapper; first | (rw [if_pos (by decide +kernel)]; kernel_rfl) | (rw [if_neg (by decide +kernel)]; exact ⟨rfl, rfl⟩))
    (fun os started H enc _ => lifted os started H enc)

theorem proved : Rows.GeomUnlikeSaid := over
#print axioms proved
end unlike
end Go.Proofs.Ytjmcpeobncoinaa
