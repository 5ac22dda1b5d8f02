/- inter.Back. -/
import Derived.Test.YtjmcpeobncoinaaInterC
import Derived.Test.YtjmcpeobncoinaaInterB
namespace Go.Proofs.Ytjmcpeobncoinaa
set_option linter.unusedVariables false
open Go.RowKit

set_option maxRecDepth 100000 in
set_option maxHeartbeats 4000000 in
theorem Back_0 (r s b d c ph rk bk rw cl : Int) (hr : rightB r s b d c = true) (p0 : 0 ≤ ph) (p1 : ph < 131072) (HA : ∀ w, Calls Try.prog 18 #[.agg #[.int .i64 r, .int .i64 s, .int .i64 b, .int .i64 d, .int .i64 c], .int .i64 (ph * 64)] w fun e w' => e = .returned (.tuple #[.agg #[.int .i64 rk, .int .i64 bk, .int .i64 rw, .int .i64 cl], .int .i64 0]) ∧ Below w.heap.size w w')
    (h0 : 0 ≤ rk) (h1 : rk < r) (h2 : 0 ≤ bk) (h3 : bk < b) (h4 : 0 ≤ rw) (h5 : rw < d) (w : World) :
    Calls Try.prog 33 #[.agg #[.int .i64 r, .int .i64 s, .int .i64 b, .int .i64 d, .int .i64 c], .int .i64 0, .int .i64 ph] w fun e w' => e = .returned (.tuple #[.int .i64 (backB 0 r b d rk bk rw), .int .i64 0]) ∧ Below w.heap.size w w' := by
  have HI := Lib.hid (irB_mk (way := 0) hr (by omega) (by omega))
  obtain ⟨a1, a2, a3, a4, a5, a6, a7, a8, a9⟩ := rightB_bd hr
  obtain ⟨x1, x2⟩ := xb_in h2 h3 (rightB_yes hr).2.2.2.1 h4 (by omega)
  have hv : backB 0 r b d rk bk rw = ((rk) * b + (bk)) * d + (rw) := by
    unfold backB
    rw [if_pos rfl]
    rw [Int.add_comm, Int.mul_comm d, Int.add_comm (bk), Int.mul_comm b]
  rw [hv]
  have HX : Hid (bits .xor .i64 bk (bits .and .i64 rw (b - 1)) = xb bk rw b) := rfl
  have HA' := Lib.hid HA
  have HN := Lib.hid (fun D B w u1 u2 u3 u4 u5 u6 u7 u8 => number_any D B (rw) (bk) (rk) d b r h4 (by omega) h2 (by omega) h0 (by omega) a6 (by omega) a4 (by omega) w u1 u2 u3 u4 u5 u6 u7 u8)
  clear HA hr hv
  go_enter Try.func33, Try.ntmps33
  go_wp2_with fail
  refine (iright_is HI.out _).mono ?_; rintro e w1 ⟨rfl, hb⟩; obtain ⟨hc, hf⟩ := bcell hb; have hz1 := size_one hb
  go_wp2_with fail
  refine (HA'.out _).mono ?_; rintro e w2 ⟨rfl, hb2⟩; obtain ⟨hc2, hf2⟩ := bcell hb2; have hz2 := Nat.lt_of_lt_of_le hz1 hb2.size
  have l2 := Lib.hid (below_next (below_one hb) hb2)
  have g0 : w2.cell? ⟨w.heap.size, 0, none⟩ = some (.int .i64 r) := by rw [hc2 _ _ hz1, hc _ _ (by simp)]; simp [go_sem]
  have g1 : w2.cell? ⟨w.heap.size, 1, none⟩ = some (.int .i64 s) := by rw [hc2 _ _ hz1, hc _ _ (by simp)]; simp [go_sem]
  have g2 : w2.cell? ⟨w.heap.size, 2, none⟩ = some (.int .i64 b) := by rw [hc2 _ _ hz1, hc _ _ (by simp)]; simp [go_sem]
  have g3 : w2.cell? ⟨w.heap.size, 3, none⟩ = some (.int .i64 d) := by rw [hc2 _ _ hz1, hc _ _ (by simp)]; simp [go_sem]
  have g4 : w2.cell? ⟨w.heap.size, 4, none⟩ = some (.int .i64 c) := by rw [hc2 _ _ hz1, hc _ _ (by simp)]; simp [go_sem]
  clear hc hf hc2 hf2 hb hb2 hz1
  have n4 : w.heap.size ≠ w2.heap.size := by omega
  have n5 : w2.heap.size ≠ w.heap.size := by omega
  go_wp2_with fail
  refine (HN.out (w2.heap.size + 1) (w2.heap.size + 1 + 1) _ (by simp) (by simp) (by simp [go_sem]) (by simp [go_sem]) (by simp [go_sem]) (by simp [go_sem]) (by simp [go_sem]) (by simp [go_sem])).mono ?_
  rintro e w3 ⟨rfl, hb3⟩
  go_wp2_with fail
  go_ret2
  exact ⟨rfl, l2.out.trans ((below_three hb3).mono (Nat.le_of_lt hz2))⟩

set_option maxRecDepth 100000 in
set_option maxHeartbeats 4000000 in
theorem Back_1 (r s b d c ph rk bk rw cl : Int) (hr : rightB r s b d c = true) (p0 : 0 ≤ ph) (p1 : ph < 131072) (HA : ∀ w, Calls Try.prog 18 #[.agg #[.int .i64 r, .int .i64 s, .int .i64 b, .int .i64 d, .int .i64 c], .int .i64 (ph * 64)] w fun e w' => e = .returned (.tuple #[.agg #[.int .i64 rk, .int .i64 bk, .int .i64 rw, .int .i64 cl], .int .i64 0]) ∧ Below w.heap.size w w')
    (h0 : 0 ≤ rk) (h1 : rk < r) (h2 : 0 ≤ bk) (h3 : bk < b) (h4 : 0 ≤ rw) (h5 : rw < d) (w : World) :
    Calls Try.prog 33 #[.agg #[.int .i64 r, .int .i64 s, .int .i64 b, .int .i64 d, .int .i64 c], .int .i64 1, .int .i64 ph] w fun e w' => e = .returned (.tuple #[.int .i64 (backB 1 r b d rk bk rw), .int .i64 0]) ∧ Below w.heap.size w w' := by
  have HI := Lib.hid (irB_mk (way := 1) hr (by omega) (by omega))
  obtain ⟨a1, a2, a3, a4, a5, a6, a7, a8, a9⟩ := rightB_bd hr
  obtain ⟨x1, x2⟩ := xb_in h2 h3 (rightB_yes hr).2.2.2.1 h4 (by omega)
  have hv : backB 1 r b d rk bk rw = ((rk) * d + (rw)) * b + (bk) := by
    unfold backB
    rw [if_neg (by decide), if_pos rfl]
    rw [Int.add_comm, Int.mul_comm b, Int.add_comm (rw), Int.mul_comm d]
  rw [hv]
  have HX : Hid (bits .xor .i64 bk (bits .and .i64 rw (b - 1)) = xb bk rw b) := rfl
  have HA' := Lib.hid HA
  have HN := Lib.hid (fun D B w u1 u2 u3 u4 u5 u6 u7 u8 => number_any D B (bk) (rw) (rk) b d r h2 (by omega) h4 (by omega) h0 (by omega) a4 (by omega) a6 (by omega) w u1 u2 u3 u4 u5 u6 u7 u8)
  clear HA hr hv
  go_enter Try.func33, Try.ntmps33
  go_wp2_with fail
  refine (iright_is HI.out _).mono ?_; rintro e w1 ⟨rfl, hb⟩; obtain ⟨hc, hf⟩ := bcell hb; have hz1 := size_one hb
  go_wp2_with fail
  refine (HA'.out _).mono ?_; rintro e w2 ⟨rfl, hb2⟩; obtain ⟨hc2, hf2⟩ := bcell hb2; have hz2 := Nat.lt_of_lt_of_le hz1 hb2.size
  have l2 := Lib.hid (below_next (below_one hb) hb2)
  have g0 : w2.cell? ⟨w.heap.size, 0, none⟩ = some (.int .i64 r) := by rw [hc2 _ _ hz1, hc _ _ (by simp)]; simp [go_sem]
  have g1 : w2.cell? ⟨w.heap.size, 1, none⟩ = some (.int .i64 s) := by rw [hc2 _ _ hz1, hc _ _ (by simp)]; simp [go_sem]
  have g2 : w2.cell? ⟨w.heap.size, 2, none⟩ = some (.int .i64 b) := by rw [hc2 _ _ hz1, hc _ _ (by simp)]; simp [go_sem]
  have g3 : w2.cell? ⟨w.heap.size, 3, none⟩ = some (.int .i64 d) := by rw [hc2 _ _ hz1, hc _ _ (by simp)]; simp [go_sem]
  have g4 : w2.cell? ⟨w.heap.size, 4, none⟩ = some (.int .i64 c) := by rw [hc2 _ _ hz1, hc _ _ (by simp)]; simp [go_sem]
  clear hc hf hc2 hf2 hb hb2 hz1
  have n4 : w.heap.size ≠ w2.heap.size := by omega
  have n5 : w2.heap.size ≠ w.heap.size := by omega
  go_wp2_with fail
  refine (HN.out (w2.heap.size + 1) (w2.heap.size + 1 + 1) _ (by simp) (by simp) (by simp [go_sem]) (by simp [go_sem]) (by simp [go_sem]) (by simp [go_sem]) (by simp [go_sem]) (by simp [go_sem])).mono ?_
  rintro e w3 ⟨rfl, hb3⟩
  go_wp2_with fail
  go_ret2
  exact ⟨rfl, l2.out.trans ((below_three hb3).mono (Nat.le_of_lt hz2))⟩

set_option maxRecDepth 100000 in
set_option maxHeartbeats 4000000 in
theorem Back_2 (r s b d c ph rk bk rw cl : Int) (hr : rightB r s b d c = true) (p0 : 0 ≤ ph) (p1 : ph < 131072) (HA : ∀ w, Calls Try.prog 18 #[.agg #[.int .i64 r, .int .i64 s, .int .i64 b, .int .i64 d, .int .i64 c], .int .i64 (ph * 64)] w fun e w' => e = .returned (.tuple #[.agg #[.int .i64 rk, .int .i64 bk, .int .i64 rw, .int .i64 cl], .int .i64 0]) ∧ Below w.heap.size w w')
    (h0 : 0 ≤ rk) (h1 : rk < r) (h2 : 0 ≤ bk) (h3 : bk < b) (h4 : 0 ≤ rw) (h5 : rw < d) (w : World) :
    Calls Try.prog 33 #[.agg #[.int .i64 r, .int .i64 s, .int .i64 b, .int .i64 d, .int .i64 c], .int .i64 2, .int .i64 ph] w fun e w' => e = .returned (.tuple #[.int .i64 (backB 2 r b d rk bk rw), .int .i64 0]) ∧ Below w.heap.size w w' := by
  have HI := Lib.hid (irB_mk (way := 2) hr (by omega) (by omega))
  obtain ⟨a1, a2, a3, a4, a5, a6, a7, a8, a9⟩ := rightB_bd hr
  obtain ⟨x1, x2⟩ := xb_in h2 h3 (rightB_yes hr).2.2.2.1 h4 (by omega)
  have hv : backB 2 r b d rk bk rw = ((rw) * b + (bk)) * r + (rk) := by
    unfold backB
    rw [if_neg (by decide), if_neg (by decide), if_neg (by decide)]
    rw [Int.add_comm, Int.mul_comm r, Int.add_comm (bk), Int.mul_comm b]
  rw [hv]
  have HX : Hid (bits .xor .i64 bk (bits .and .i64 rw (b - 1)) = xb bk rw b) := rfl
  have HA' := Lib.hid HA
  have HN := Lib.hid (fun D B w u1 u2 u3 u4 u5 u6 u7 u8 => number_any D B (rk) (bk) (rw) r b d h0 (by omega) h2 (by omega) h4 (by omega) a1 (by omega) a4 (by omega) w u1 u2 u3 u4 u5 u6 u7 u8)
  clear HA hr hv
  go_enter Try.func33, Try.ntmps33
  go_wp2_with fail
  refine (iright_is HI.out _).mono ?_; rintro e w1 ⟨rfl, hb⟩; obtain ⟨hc, hf⟩ := bcell hb; have hz1 := size_one hb
  go_wp2_with fail
  refine (HA'.out _).mono ?_; rintro e w2 ⟨rfl, hb2⟩; obtain ⟨hc2, hf2⟩ := bcell hb2; have hz2 := Nat.lt_of_lt_of_le hz1 hb2.size
  have l2 := Lib.hid (below_next (below_one hb) hb2)
  have g0 : w2.cell? ⟨w.heap.size, 0, none⟩ = some (.int .i64 r) := by rw [hc2 _ _ hz1, hc _ _ (by simp)]; simp [go_sem]
  have g1 : w2.cell? ⟨w.heap.size, 1, none⟩ = some (.int .i64 s) := by rw [hc2 _ _ hz1, hc _ _ (by simp)]; simp [go_sem]
  have g2 : w2.cell? ⟨w.heap.size, 2, none⟩ = some (.int .i64 b) := by rw [hc2 _ _ hz1, hc _ _ (by simp)]; simp [go_sem]
  have g3 : w2.cell? ⟨w.heap.size, 3, none⟩ = some (.int .i64 d) := by rw [hc2 _ _ hz1, hc _ _ (by simp)]; simp [go_sem]
  have g4 : w2.cell? ⟨w.heap.size, 4, none⟩ = some (.int .i64 c) := by rw [hc2 _ _ hz1, hc _ _ (by simp)]; simp [go_sem]
  clear hc hf hc2 hf2 hb hb2 hz1
  have n4 : w.heap.size ≠ w2.heap.size := by omega
  have n5 : w2.heap.size ≠ w.heap.size := by omega
  go_wp2_with fail
  refine (HN.out (w2.heap.size + 1) (w2.heap.size + 1 + 1) _ (by simp) (by simp) (by simp [go_sem]) (by simp [go_sem]) (by simp [go_sem]) (by simp [go_sem]) (by simp [go_sem]) (by simp [go_sem])).mono ?_
  rintro e w3 ⟨rfl, hb3⟩
  go_wp2_with fail
  go_ret2
  exact ⟨rfl, l2.out.trans ((below_three hb3).mono (Nat.le_of_lt hz2))⟩

set_option maxRecDepth 100000 in
set_option maxHeartbeats 4000000 in
theorem Back_3 (r s b d c ph rk bk rw cl : Int) (hr : rightB r s b d c = true) (p0 : 0 ≤ ph) (p1 : ph < 131072) (HA : ∀ w, Calls Try.prog 18 #[.agg #[.int .i64 r, .int .i64 s, .int .i64 b, .int .i64 d, .int .i64 c], .int .i64 (ph * 64)] w fun e w' => e = .returned (.tuple #[.agg #[.int .i64 rk, .int .i64 bk, .int .i64 rw, .int .i64 cl], .int .i64 0]) ∧ Below w.heap.size w w')
    (h0 : 0 ≤ rk) (h1 : rk < r) (h2 : 0 ≤ bk) (h3 : bk < b) (h4 : 0 ≤ rw) (h5 : rw < d) (w : World) :
    Calls Try.prog 33 #[.agg #[.int .i64 r, .int .i64 s, .int .i64 b, .int .i64 d, .int .i64 c], .int .i64 3, .int .i64 ph] w fun e w' => e = .returned (.tuple #[.int .i64 (backB 3 r b d rk bk rw), .int .i64 0]) ∧ Below w.heap.size w w' := by
  have HI := Lib.hid (irB_mk (way := 3) hr (by omega) (by omega))
  obtain ⟨a1, a2, a3, a4, a5, a6, a7, a8, a9⟩ := rightB_bd hr
  obtain ⟨x1, x2⟩ := xb_in h2 h3 (rightB_yes hr).2.2.2.1 h4 (by omega)
  have hv : backB 3 r b d rk bk rw = ((rw) * b + (xb bk rw b)) * r + (rk) := by
    unfold backB
    rw [if_neg (by decide), if_neg (by decide), if_pos rfl]
    rw [Int.add_comm, Int.mul_comm r, Int.add_comm (xb bk rw b), Int.mul_comm b]
  rw [hv]
  have HX : Hid (bits .xor .i64 bk (bits .and .i64 rw (b - 1)) = xb bk rw b) := rfl
  have HA' := Lib.hid HA
  have HN := Lib.hid (fun D B w u1 u2 u3 u4 u5 u6 u7 u8 => number_any D B (rk) (xb bk rw b) (rw) r b d h0 (by omega) x1 (by omega) h4 (by omega) a1 (by omega) a4 (by omega) w u1 u2 u3 u4 u5 u6 u7 u8)
  clear HA hr hv
  go_enter Try.func33, Try.ntmps33
  go_wp2_with fail
  refine (iright_is HI.out _).mono ?_; rintro e w1 ⟨rfl, hb⟩; obtain ⟨hc, hf⟩ := bcell hb; have hz1 := size_one hb
  go_wp2_with fail
  refine (HA'.out _).mono ?_; rintro e w2 ⟨rfl, hb2⟩; obtain ⟨hc2, hf2⟩ := bcell hb2; have hz2 := Nat.lt_of_lt_of_le hz1 hb2.size
  have l2 := Lib.hid (below_next (below_one hb) hb2)
  have g0 : w2.cell? ⟨w.heap.size, 0, none⟩ = some (.int .i64 r) := by rw [hc2 _ _ hz1, hc _ _ (by simp)]; simp [go_sem]
  have g1 : w2.cell? ⟨w.heap.size, 1, none⟩ = some (.int .i64 s) := by rw [hc2 _ _ hz1, hc _ _ (by simp)]; simp [go_sem]
  have g2 : w2.cell? ⟨w.heap.size, 2, none⟩ = some (.int .i64 b) := by rw [hc2 _ _ hz1, hc _ _ (by simp)]; simp [go_sem]
  have g3 : w2.cell? ⟨w.heap.size, 3, none⟩ = some (.int .i64 d) := by rw [hc2 _ _ hz1, hc _ _ (by simp)]; simp [go_sem]
  have g4 : w2.cell? ⟨w.heap.size, 4, none⟩ = some (.int .i64 c) := by rw [hc2 _ _ hz1, hc _ _ (by simp)]; simp [go_sem]
  clear hc hf hc2 hf2 hb hb2 hz1
  have n4 : w.heap.size ≠ w2.heap.size := by omega
  have n5 : w2.heap.size ≠ w.heap.size := by omega
  go_wp2_with fail
  rw [HX.out]
  refine (HN.out (w2.heap.size + 1) (w2.heap.size + 1 + 1) _ (by simp) (by simp) (by simp [go_sem]) (by simp [go_sem]) (by simp [go_sem]) (by simp [go_sem]) (by simp [go_sem]) (by simp [go_sem])).mono ?_
  rintro e w3 ⟨rfl, hb3⟩
  go_wp2_with fail
  go_ret2
  exact ⟨rfl, l2.out.trans ((below_three hb3).mono (Nat.le_of_lt hz2))⟩

/-- a place that holds a page -/
def BackOk (r s b d c way ph : Int) : Prop := irB r s b d c way = true ∧ 0 ≤ ph ∧ ph < 131072 ∧ atB r s b d c (ph * 64) = true ∧ ph / 16384 < r
theorem Back_yes (r s b d c way ph : Int) (h : BackOk r s b d c way ph) (w : World) :
    Calls Try.prog 33 #[.agg #[.int .i64 r, .int .i64 s, .int .i64 b, .int .i64 d, .int .i64 c], .int .i64 way, .int .i64 ph] w fun e w' => e = .returned (.tuple #[.int .i64 (backB way r b d (ph / 16384) (ph / 1024 % 16) (ph % 1024)), .int .i64 0]) ∧ Below w.heap.size w w' := by
  obtain ⟨hi, p0, p1, ha, hlt⟩ := h
  have hA := At_any r s b d c (ph * 64)
  rw [ha] at hA
  unfold plB at hA
  have e1 : ph * 64 / 1048576 = ph / 16384 := by omega
  have e2 : ph * 64 / 65536 % 16 = ph / 1024 % 16 := by omega
  have e3 : ph * 64 / 64 % 1024 = ph % 1024 := by omega
  unfold atB at ha
  simp only [Bool.and_eq_true] at ha
  have hh := ha.2
  rw [e1, e2, e3] at hA hh
  obtain ⟨hr, h0, _, h2, h3, h4, h5, _, _⟩ := holdsB_yes hh
  obtain ⟨_, w0, w4⟩ := irB_yes hi
  have hw : way = 0 ∨ way = 1 ∨ way = 2 ∨ way = 3 := by omega
  rcases hw with rfl | rfl | rfl | rfl
  · exact Back_0 r s b d c ph _ _ _ _ hr p0 p1 hA h0 hlt h2 h3 h4 h5 w
  · exact Back_1 r s b d c ph _ _ _ _ hr p0 p1 hA h0 hlt h2 h3 h4 h5 w
  · exact Back_2 r s b d c ph _ _ _ _ hr p0 p1 hA h0 hlt h2 h3 h4 h5 w
  · exact Back_3 r s b d c ph _ _ _ _ hr p0 p1 hA h0 hlt h2 h3 h4 h5 w

set_option maxHeartbeats 1000000 in
theorem Back_no (r s b d c way ph : Int) (h : ¬ BackOk r s b d c way ph) (w : World) :
    Calls Try.prog 33 #[.agg #[.int .i64 r, .int .i64 s, .int .i64 b, .int .i64 d, .int .i64 c], .int .i64 way, .int .i64 ph] w fun e w' => e = .returned (.tuple #[.int .i64 0, .int .i64 12]) ∧ Below w.heap.size w w' := by
  cases hi : irB r s b d c way
  · have HI := Lib.hid hi
    clear hi h
    go_enter Try.func33, Try.ntmps33
    go_wp2_with (go_at_call 34; refine (iright_is HI.out _).mono ?_; rintro e w1 ⟨rfl, hb⟩)
    go_ret2
    exact ⟨rfl, below_one hb⟩
  have HI := Lib.hid hi
  by_cases h0 : ph < 0
  · clear hi h
    go_enter Try.func33, Try.ntmps33
    go_wp2_with (go_at_call 34; refine (iright_is HI.out _).mono ?_; rintro e w1 ⟨rfl, hb⟩)
    go_ret2
    exact ⟨rfl, below_one hb⟩
  by_cases h1 : 131072 ≤ ph
  · clear hi h
    go_enter Try.func33, Try.ntmps33
    go_wp2_with (go_at_call 34; refine (iright_is HI.out _).mono ?_; rintro e w1 ⟨rfl, hb⟩)
    go_ret2
    exact ⟨rfl, below_one hb⟩
  cases ha : atB r s b d c (ph * 64)
  · have hA := At_any r s b d c (ph * 64)
    rw [ha] at hA
    have HA := Lib.hid hA
    clear hi h ha hA
    go_enter Try.func33, Try.ntmps33
    go_wp2_with (first
      | (go_at_call 34; refine (iright_is HI.out _).mono ?_; rintro e w1 ⟨rfl, hb⟩; obtain ⟨hc, hf⟩ := bcell hb; have hz1 := size_one hb)
      | (go_at_call 18; refine (HA.out _).mono ?_; rintro e w2 ⟨rfl, hb2⟩; have hz2 := Nat.lt_of_lt_of_le hz1 hb2.size))
    go_ret2
    exact ⟨rfl, (below_next (below_one hb) hb2).alloc (Nat.le_of_lt hz2) _⟩
  · have hge : r ≤ ph * 64 / 1048576 := by
      have : ¬ ph / 16384 < r := fun h' => h ⟨hi, by omega, by omega, ha, h'⟩
      omega
    have hA := At_any r s b d c (ph * 64)
    rw [ha] at hA
    unfold plB at hA
    generalize ph * 64 / 1048576 = x at *
    generalize ph * 64 / 65536 % 16 = y at *
    generalize ph * 64 / 64 % 1024 = z at *
    generalize ph * 64 % 64 = q at *
    have HA := Lib.hid hA
    clear hi h ha hA
    go_enter Try.func33, Try.ntmps33
    go_wp2_with (first
      | (go_at_call 34; refine (iright_is HI.out _).mono ?_; rintro e w1 ⟨rfl, hb⟩; obtain ⟨hc, hf⟩ := bcell hb; have hz1 := size_one hb)
      | (go_at_call 18; refine (HA.out _).mono ?_; rintro e w2 ⟨rfl, hb2⟩; obtain ⟨hc2, hf2⟩ := bcell hb2; have hz2 := Nat.lt_of_lt_of_le hz1 hb2.size))
    go_ret2
    exact ⟨rfl, (below_next (below_one hb) hb2).alloc (Nat.le_of_lt hz2) _⟩
end Go.Proofs.Ytjmcpeobncoinaa
