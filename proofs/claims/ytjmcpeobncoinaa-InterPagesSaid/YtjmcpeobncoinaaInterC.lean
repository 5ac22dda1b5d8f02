/- inter's number; the reference's exclusive or, and its page behind one. -/
import Derived.Test.YtjmcpeobncoinaaInterA
import Derived.Test.YtjmcpeobncoinaaPlE
namespace Go.Proofs.Ytjmcpeobncoinaa
set_option linter.unusedVariables false
open Go.RowKit

theorem digs_in {d0 d1 d2 b0 b1 : Int} (h0 : 0 ≤ d0) (g0 : d0 < 1024) (h1 : 0 ≤ d1) (g1 : d1 < 1024) (h2 : 0 ≤ d2) (g2 : d2 < 1024) (k0 : 1 ≤ b0) (k0' : b0 ≤ 1024) (k1 : 1 ≤ b1) (k1' : b1 ≤ 1024) :
    0 ≤ d2 * b1 ∧ d2 * b1 ≤ 1048576 ∧ 0 ≤ (d2 * b1 + d1) * b0 ∧ (d2 * b1 + d1) * b0 ≤ 1074791424 := by
  have e1 : 0 ≤ d2 * b1 := Int.mul_nonneg h2 (by omega)
  have e2 : d2 * b1 ≤ 1024 * 1024 := Int.mul_le_mul (by omega) k1' (by omega) (by omega)
  have e3 : 0 ≤ (d2 * b1 + d1) * b0 := Int.mul_nonneg (by omega) (by omega)
  have e4 : (d2 * b1 + d1) * b0 ≤ 1049600 * 1024 := Int.mul_le_mul (by omega) k0' (by omega) (by omega)
  exact ⟨e1, by omega, e3, by omega⟩

set_option maxHeartbeats 4000000 in
theorem number_any (D B : Nat) (d0 d1 d2 b0 b1 b2 : Int) (h0 : 0 ≤ d0) (g0 : d0 < 1024) (h1 : 0 ≤ d1) (g1 : d1 < 1024) (h2 : 0 ≤ d2) (g2 : d2 < 1024) (k0 : 1 ≤ b0) (k0' : b0 ≤ 1024) (k1 : 1 ≤ b1) (k1' : b1 ≤ 1024)
    (w : World) (hD : D < w.heap.size) (hB : B < w.heap.size)
    (c0 : w.cell? ⟨D, 0, none⟩ = some (.int .i64 d0)) (c1 : w.cell? ⟨D, 1, none⟩ = some (.int .i64 d1)) (c2 : w.cell? ⟨D, 2, none⟩ = some (.int .i64 d2))
    (e0 : w.cell? ⟨B, 0, none⟩ = some (.int .i64 b0)) (e1 : w.cell? ⟨B, 1, none⟩ = some (.int .i64 b1)) (e2 : w.cell? ⟨B, 2, none⟩ = some (.int .i64 b2)) :
    Calls Try.prog 47 #[.slice (some ⟨D, 0, none⟩) 3 3, .slice (some ⟨B, 0, none⟩) 3 3] w fun e w' => e = .returned (.int .i64 ((d2 * b1 + d1) * b0 + d0)) ∧ Below w.heap.size w w' := by
  obtain ⟨q1, q2, q3, q4⟩ := digs_in h0 g0 h1 g1 h2 g2 k0 k0' k1 k1'
  go_enter Try.func47, Try.ntmps47
  go_wp2_with fail
  go_loopw [5, 6] (fun n i wr => ((i = .int .i64 2 ∧ n = .int .i64 0) ∨ (i = .int .i64 1 ∧ n = .int .i64 d2) ∨ (i = .int .i64 0 ∧ n = .int .i64 (d2 * b1 + d1)) ∨ (i = .int .i64 (-1) ∧ n = .int .i64 ((d2 * b1 + d1) * b0 + d0))) ∧ Below w.heap.size w wr) (fun _ i _ => (intOf i + 1).toNat)
  case atStart => exact ⟨.inl ⟨rfl, rfl⟩, Below.refl _ _⟩
  case round =>
    obtain ⟨hcase, hB'⟩ := hrel
    have f0 := (hB'.cell (p := ⟨D, 0, none⟩) hD).trans c0
    have f1 := (hB'.cell (p := ⟨D, 1, none⟩) hD).trans c1
    have f2 := (hB'.cell (p := ⟨D, 2, none⟩) hD).trans c2
    have v0 := (hB'.cell (p := ⟨B, 0, none⟩) hB).trans e0
    have v1 := (hB'.cell (p := ⟨B, 1, none⟩) hB).trans e1
    have v2 := (hB'.cell (p := ⟨B, 2, none⟩) hB).trans e2
    have HB := Lib.hid hB'
    clear hB' c0 c1 c2 e0 e1 e2
    rcases hcase with ⟨rfl, rfl⟩ | ⟨rfl, rfl⟩ | ⟨rfl, rfl⟩ | ⟨rfl, rfl⟩
    · go_wp2_with fail
      go_quiet (fail)
      go_wp2_with fail
      go_roundw
      case rel => exact ⟨.inr (.inl ⟨rfl, rfl⟩), HB.out.trans ⟨rfl, rfl, rfl, Nat.le_refl _, fun _ _ => rfl⟩⟩
      case measure => simp [intOf]
    · go_wp2_with fail
      go_quiet (fail)
      go_wp2_with fail
      go_roundw
      case rel => exact ⟨.inr (.inr (.inl ⟨rfl, rfl⟩)), HB.out.trans ⟨rfl, rfl, rfl, Nat.le_refl _, fun _ _ => rfl⟩⟩
      case measure => simp [intOf]
    · go_wp2_with fail
      go_quiet (fail)
      go_wp2_with fail
      go_roundw
      case rel => exact ⟨.inr (.inr (.inr ⟨rfl, rfl⟩)), HB.out.trans ⟨rfl, rfl, rfl, Nat.le_refl _, fun _ _ => rfl⟩⟩
      case measure => simp [intOf]
    · go_wp2_with fail
      go_ret
      exact ⟨rfl, HB.out⟩

set_option maxHeartbeats 4000000 in
theorem rxor_any (x y m : Nat) (hx : x < 2 ^ m) (hy : y < 1024) (hm : 2 ^ m ≤ 16) (w : World) :
    Calls Try.prog 48 #[.int .i64 x, .int .i64 y, .int .i64 ((2 ^ m : Nat) : Int)] w fun e w' => e = .returned (.int .i64 (xb x y ((2 ^ m : Nat) : Int))) ∧ Below w.heap.size w w' := by
  rw [xb_nat x y m hx hy hm]
  obtain ⟨M, hM⟩ : ∃ M, M = 2 ^ m := ⟨_, rfl⟩
  have HX := Lib.hid hM
  rw [← hM] at hx hm ⊢
  have hx16 : (x : Int) < 16 := by omega
  have hy2 : (y : Int) < 1024 := by omega
  clear hM
  go_enter Try.func48, Try.ntmps48
  go_wp2_with fail
  go_loopw [7, 8] (fun n q wr => (∃ k : Nat, k ≤ m ∧ n = .int .i64 (((x ^^^ y) % 2 ^ k : Nat) : Int) ∧ q = .int .i64 ((2 ^ k : Nat) : Int)) ∧ Below w.heap.size w wr) (fun _ q _ => (32 - intOf q).toNat)
  case atStart => exact ⟨⟨0, by omega, by simp [Nat.mod_one], rfl⟩, Below.refl _ _⟩
  case round =>
    obtain ⟨⟨k, hk, rfl, rfl⟩, hB'⟩ := hrel
    have HB := Lib.hid hB'
    clear hB'
    by_cases hlt : k < m
    · have p1 : 2 ^ (k + 1) ≤ 2 ^ m := Nat.pow_le_pow_right (by decide) hlt
      have p2 : 2 ^ (k + 1) = 2 ^ k * 2 := Nat.pow_succ ..
      have p3 : 1 ≤ 2 ^ k := Nat.one_le_two_pow
      have hz : (x ^^^ y) % 2 ^ k < 2 ^ k := Nat.mod_lt _ (by omega)
      rw [← HX.out, p2] at p1
      by_cases he : x / 2 ^ k % 2 = y / 2 ^ k % 2
      · have hs := xor_same x y k he
        obtain ⟨q, hq⟩ : ∃ q, q = 2 ^ k := ⟨_, rfl⟩
        rw [← hq] at he hz p2 p3 hs ⊢
        have hb1 : ((x : Int) / q % 2 != (y : Int) / q % 2) = false := by simp; exact_mod_cast he
        have HE := Lib.hid (And.intro hs (And.intro p1 (And.intro p2 hq)))
        have r1 : (q : Int) < M := by omega
        have r2 : (1 : Int) ≤ q := by omega
        have r3 : (q : Int) ≤ 8 := by omega
        have r4 : 0 ≤ (x : Int) / q := Int.ediv_nonneg (by omega) (by omega)
        have r5 : 0 ≤ (y : Int) / q := Int.ediv_nonneg (by omega) (by omega)
        have r6 : (x : Int) / q ≤ x := Int.ediv_le_self _ (by omega)
        have r7 : (y : Int) / q ≤ y := Int.ediv_le_self _ (by omega)
        clear he hs hq p1 p2 p3
        generalize (x ^^^ y) % q = z at *
        have r8 : (z : Int) < 8 := by omega
        go_wp2_with fail

        go_quiet (fail)
        go_wp2_with fail
        go_roundw
        case rel =>
          obtain ⟨hs, p1, p2, hq⟩ := HE.out
          refine ⟨⟨k + 1, hlt, ?_, ?_⟩, HB.out.trans ⟨rfl, rfl, rfl, Nat.le_refl _, fun _ _ => rfl⟩⟩
          · rw [hs]; try rfl
          · rw [p2]; go_num
        case measure => simp [intOf]; omega
      · have hs := xor_more x y k he
        obtain ⟨q, hq⟩ : ∃ q, q = 2 ^ k := ⟨_, rfl⟩
        rw [← hq] at he hz p2 p3 hs ⊢
        have hb1 : ((x : Int) / q % 2 != (y : Int) / q % 2) = true := by simp; exact fun h => he (by exact_mod_cast h)
        have HE := Lib.hid (And.intro hs (And.intro p1 (And.intro p2 hq)))
        have r1 : (q : Int) < M := by omega
        have r2 : (1 : Int) ≤ q := by omega
        have r3 : (q : Int) ≤ 8 := by omega
        have r4 : 0 ≤ (x : Int) / q := Int.ediv_nonneg (by omega) (by omega)
        have r5 : 0 ≤ (y : Int) / q := Int.ediv_nonneg (by omega) (by omega)
        have r6 : (x : Int) / q ≤ x := Int.ediv_le_self _ (by omega)
        have r7 : (y : Int) / q ≤ y := Int.ediv_le_self _ (by omega)
        clear he hs hq p1 p2 p3
        generalize (x ^^^ y) % q = z at *
        have r8 : (z : Int) < 8 := by omega
        go_wp2_with fail

        go_quiet (fail)
        go_wp2_with fail
        go_roundw
        case rel =>
          obtain ⟨hs, p1, p2, hq⟩ := HE.out
          refine ⟨⟨k + 1, hlt, ?_, ?_⟩, HB.out.trans ⟨rfl, rfl, rfl, Nat.le_refl _, fun _ _ => rfl⟩⟩
          · rw [hs]; go_num
          · rw [p2]; go_num
        case measure => simp [intOf]; omega
    · have hkm : k = m := by omega
      subst hkm
      rw [← HX.out]
      have r1 : ¬ (M : Int) < M := by omega
      go_wp2_with fail
      go_ret
      exact ⟨rfl, HB.out⟩

set_option maxHeartbeats 1000000 in
theorem next_01 (r s b d c rk bk rw : Int) (a1 : r ≤ 8) (a2 : b ≤ 16) (a3 : d ≤ 1024) (h0 : 0 ≤ rk) (h1 : rk < r) (h2 : 0 ≤ bk) (h3 : bk < b) (h4 : 0 ≤ rw) (h5 : rw < d) (c1 : ¬ rw + 1 = d) (w : World) :
    Calls Try.prog 49 #[.agg #[.int .i64 r, .int .i64 s, .int .i64 b, .int .i64 d, .int .i64 c], .int .i64 0, .agg #[.int .i64 rk, .int .i64 bk, .int .i64 rw, .int .i64 0]] w fun e w' => e = .returned (.agg #[.int .i64 (rk), .int .i64 (bk), .int .i64 (rw + 1), .int .i64 0]) ∧ Below w.heap.size w w' := by
  have f0 : ((rw + 1 == d) = false) := by simp; omega
  have f1 : ((bk == b) = false) := by simp; omega
  clear c1
  go_enter Try.func49, Try.ntmps49
  go_wp2_with fail
  refine bodyPost_ret (v := .agg #[.int .i64 (rk), .int .i64 (bk), .int .i64 (rw + 1), .int .i64 0]) (by simp [results, Try.results49, go_sem]) rfl ⟨rfl, (((Below.refl _ _).alloc (Nat.le_refl _) _).alloc (by simp) _).alloc (by simp; omega) _⟩

set_option maxHeartbeats 1000000 in
theorem next_02 (r s b d c rk bk rw : Int) (a1 : r ≤ 8) (a2 : b ≤ 16) (a3 : d ≤ 1024) (h0 : 0 ≤ rk) (h1 : rk < r) (h2 : 0 ≤ bk) (h3 : bk < b) (h4 : 0 ≤ rw) (h5 : rw < d) (c1 : rw + 1 = d) (c2 : ¬ bk + 1 = b) (w : World) :
    Calls Try.prog 49 #[.agg #[.int .i64 r, .int .i64 s, .int .i64 b, .int .i64 d, .int .i64 c], .int .i64 0, .agg #[.int .i64 rk, .int .i64 bk, .int .i64 rw, .int .i64 0]] w fun e w' => e = .returned (.agg #[.int .i64 (rk), .int .i64 (bk + 1), .int .i64 (0), .int .i64 0]) ∧ Below w.heap.size w w' := by
  have f0 : ((rw + 1 == d) = true) := by simp; omega
  have f1 : ((bk + 1 == b) = false) := by simp; omega
  clear c1 c2
  go_enter Try.func49, Try.ntmps49
  go_wp2_with fail
  refine bodyPost_ret (v := .agg #[.int .i64 (rk), .int .i64 (bk + 1), .int .i64 (0), .int .i64 0]) (by simp [results, Try.results49, go_sem]) rfl ⟨rfl, (((Below.refl _ _).alloc (Nat.le_refl _) _).alloc (by simp) _).alloc (by simp; omega) _⟩

set_option maxHeartbeats 1000000 in
theorem next_03 (r s b d c rk bk rw : Int) (a1 : r ≤ 8) (a2 : b ≤ 16) (a3 : d ≤ 1024) (h0 : 0 ≤ rk) (h1 : rk < r) (h2 : 0 ≤ bk) (h3 : bk < b) (h4 : 0 ≤ rw) (h5 : rw < d) (c1 : rw + 1 = d) (c2 : bk + 1 = b) (w : World) :
    Calls Try.prog 49 #[.agg #[.int .i64 r, .int .i64 s, .int .i64 b, .int .i64 d, .int .i64 c], .int .i64 0, .agg #[.int .i64 rk, .int .i64 bk, .int .i64 rw, .int .i64 0]] w fun e w' => e = .returned (.agg #[.int .i64 (rk + 1), .int .i64 (0), .int .i64 (0), .int .i64 0]) ∧ Below w.heap.size w w' := by
  have f0 : ((rw + 1 == d) = true) := by simp; omega
  have f1 : ((bk + 1 == b) = true) := by simp; omega
  clear c1 c2
  go_enter Try.func49, Try.ntmps49
  go_wp2_with fail
  refine bodyPost_ret (v := .agg #[.int .i64 (rk + 1), .int .i64 (0), .int .i64 (0), .int .i64 0]) (by simp [results, Try.results49, go_sem]) rfl ⟨rfl, (((Below.refl _ _).alloc (Nat.le_refl _) _).alloc (by simp) _).alloc (by simp; omega) _⟩

set_option maxHeartbeats 1000000 in
theorem next_11 (r s b d c rk bk rw : Int) (a1 : r ≤ 8) (a2 : b ≤ 16) (a3 : d ≤ 1024) (h0 : 0 ≤ rk) (h1 : rk < r) (h2 : 0 ≤ bk) (h3 : bk < b) (h4 : 0 ≤ rw) (h5 : rw < d) (c1 : ¬ bk + 1 = b) (w : World) :
    Calls Try.prog 49 #[.agg #[.int .i64 r, .int .i64 s, .int .i64 b, .int .i64 d, .int .i64 c], .int .i64 1, .agg #[.int .i64 rk, .int .i64 bk, .int .i64 rw, .int .i64 0]] w fun e w' => e = .returned (.agg #[.int .i64 (rk), .int .i64 (bk + 1), .int .i64 (rw), .int .i64 0]) ∧ Below w.heap.size w w' := by
  have f0 : ((bk + 1 == b) = false) := by simp; omega
  have f1 : ((rw == d) = false) := by simp; omega
  clear c1
  go_enter Try.func49, Try.ntmps49
  go_wp2_with fail
  refine bodyPost_ret (v := .agg #[.int .i64 (rk), .int .i64 (bk + 1), .int .i64 (rw), .int .i64 0]) (by simp [results, Try.results49, go_sem]) rfl ⟨rfl, (((Below.refl _ _).alloc (Nat.le_refl _) _).alloc (by simp) _).alloc (by simp; omega) _⟩

set_option maxHeartbeats 1000000 in
theorem next_12 (r s b d c rk bk rw : Int) (a1 : r ≤ 8) (a2 : b ≤ 16) (a3 : d ≤ 1024) (h0 : 0 ≤ rk) (h1 : rk < r) (h2 : 0 ≤ bk) (h3 : bk < b) (h4 : 0 ≤ rw) (h5 : rw < d) (c1 : bk + 1 = b) (c2 : ¬ rw + 1 = d) (w : World) :
    Calls Try.prog 49 #[.agg #[.int .i64 r, .int .i64 s, .int .i64 b, .int .i64 d, .int .i64 c], .int .i64 1, .agg #[.int .i64 rk, .int .i64 bk, .int .i64 rw, .int .i64 0]] w fun e w' => e = .returned (.agg #[.int .i64 (rk), .int .i64 (0), .int .i64 (rw + 1), .int .i64 0]) ∧ Below w.heap.size w w' := by
  have f0 : ((bk + 1 == b) = true) := by simp; omega
  have f1 : ((rw + 1 == d) = false) := by simp; omega
  clear c1 c2
  go_enter Try.func49, Try.ntmps49
  go_wp2_with fail
  refine bodyPost_ret (v := .agg #[.int .i64 (rk), .int .i64 (0), .int .i64 (rw + 1), .int .i64 0]) (by simp [results, Try.results49, go_sem]) rfl ⟨rfl, (((Below.refl _ _).alloc (Nat.le_refl _) _).alloc (by simp) _).alloc (by simp; omega) _⟩

set_option maxHeartbeats 1000000 in
theorem next_13 (r s b d c rk bk rw : Int) (a1 : r ≤ 8) (a2 : b ≤ 16) (a3 : d ≤ 1024) (h0 : 0 ≤ rk) (h1 : rk < r) (h2 : 0 ≤ bk) (h3 : bk < b) (h4 : 0 ≤ rw) (h5 : rw < d) (c1 : bk + 1 = b) (c2 : rw + 1 = d) (w : World) :
    Calls Try.prog 49 #[.agg #[.int .i64 r, .int .i64 s, .int .i64 b, .int .i64 d, .int .i64 c], .int .i64 1, .agg #[.int .i64 rk, .int .i64 bk, .int .i64 rw, .int .i64 0]] w fun e w' => e = .returned (.agg #[.int .i64 (rk + 1), .int .i64 (0), .int .i64 (0), .int .i64 0]) ∧ Below w.heap.size w w' := by
  have f0 : ((bk + 1 == b) = true) := by simp; omega
  have f1 : ((rw + 1 == d) = true) := by simp; omega
  clear c1 c2
  go_enter Try.func49, Try.ntmps49
  go_wp2_with fail
  refine bodyPost_ret (v := .agg #[.int .i64 (rk + 1), .int .i64 (0), .int .i64 (0), .int .i64 0]) (by simp [results, Try.results49, go_sem]) rfl ⟨rfl, (((Below.refl _ _).alloc (Nat.le_refl _) _).alloc (by simp) _).alloc (by simp; omega) _⟩

set_option maxHeartbeats 1000000 in
theorem next_21 (r s b d c way rk bk rw : Int) (a1 : r ≤ 8) (a2 : b ≤ 16) (a3 : d ≤ 1024) (h0 : 0 ≤ rk) (h1 : rk < r) (h2 : 0 ≤ bk) (h3 : bk < b) (h4 : 0 ≤ rw) (h5 : rw < d) (hw0 : ¬ way = 0) (hw1 : ¬ way = 1) (c1 : ¬ rk + 1 = r) (w : World) :
    Calls Try.prog 49 #[.agg #[.int .i64 r, .int .i64 s, .int .i64 b, .int .i64 d, .int .i64 c], .int .i64 way, .agg #[.int .i64 rk, .int .i64 bk, .int .i64 rw, .int .i64 0]] w fun e w' => e = .returned (.agg #[.int .i64 (rk + 1), .int .i64 (bk), .int .i64 (rw), .int .i64 0]) ∧ Below w.heap.size w w' := by
  have t0 : ((way : Int) == 0) = false := by simpa using hw0
  have t1 : ((way : Int) == 1) = false := by simpa using hw1
  have f0 : ((rk + 1 == r) = false) := by simp; omega
  have f1 : ((bk == b) = false) := by simp; omega
  clear c1 hw0 hw1
  go_enter Try.func49, Try.ntmps49
  go_wp2_with fail
  refine bodyPost_ret (v := .agg #[.int .i64 (rk + 1), .int .i64 (bk), .int .i64 (rw), .int .i64 0]) (by simp [results, Try.results49, go_sem]) rfl ⟨rfl, (((Below.refl _ _).alloc (Nat.le_refl _) _).alloc (by simp) _).alloc (by simp; omega) _⟩

set_option maxHeartbeats 1000000 in
theorem next_22 (r s b d c way rk bk rw : Int) (a1 : r ≤ 8) (a2 : b ≤ 16) (a3 : d ≤ 1024) (h0 : 0 ≤ rk) (h1 : rk < r) (h2 : 0 ≤ bk) (h3 : bk < b) (h4 : 0 ≤ rw) (h5 : rw < d) (hw0 : ¬ way = 0) (hw1 : ¬ way = 1) (c1 : rk + 1 = r) (c2 : ¬ bk + 1 = b) (w : World) :
    Calls Try.prog 49 #[.agg #[.int .i64 r, .int .i64 s, .int .i64 b, .int .i64 d, .int .i64 c], .int .i64 way, .agg #[.int .i64 rk, .int .i64 bk, .int .i64 rw, .int .i64 0]] w fun e w' => e = .returned (.agg #[.int .i64 (0), .int .i64 (bk + 1), .int .i64 (rw), .int .i64 0]) ∧ Below w.heap.size w w' := by
  have t0 : ((way : Int) == 0) = false := by simpa using hw0
  have t1 : ((way : Int) == 1) = false := by simpa using hw1
  have f0 : ((rk + 1 == r) = true) := by simp; omega
  have f1 : ((bk + 1 == b) = false) := by simp; omega
  clear c1 c2 hw0 hw1
  go_enter Try.func49, Try.ntmps49
  go_wp2_with fail
  refine bodyPost_ret (v := .agg #[.int .i64 (0), .int .i64 (bk + 1), .int .i64 (rw), .int .i64 0]) (by simp [results, Try.results49, go_sem]) rfl ⟨rfl, (((Below.refl _ _).alloc (Nat.le_refl _) _).alloc (by simp) _).alloc (by simp; omega) _⟩

set_option maxHeartbeats 1000000 in
theorem next_23 (r s b d c way rk bk rw : Int) (a1 : r ≤ 8) (a2 : b ≤ 16) (a3 : d ≤ 1024) (h0 : 0 ≤ rk) (h1 : rk < r) (h2 : 0 ≤ bk) (h3 : bk < b) (h4 : 0 ≤ rw) (h5 : rw < d) (hw0 : ¬ way = 0) (hw1 : ¬ way = 1) (c1 : rk + 1 = r) (c2 : bk + 1 = b) (w : World) :
    Calls Try.prog 49 #[.agg #[.int .i64 r, .int .i64 s, .int .i64 b, .int .i64 d, .int .i64 c], .int .i64 way, .agg #[.int .i64 rk, .int .i64 bk, .int .i64 rw, .int .i64 0]] w fun e w' => e = .returned (.agg #[.int .i64 (0), .int .i64 (0), .int .i64 (rw + 1), .int .i64 0]) ∧ Below w.heap.size w w' := by
  have t0 : ((way : Int) == 0) = false := by simpa using hw0
  have t1 : ((way : Int) == 1) = false := by simpa using hw1
  have f0 : ((rk + 1 == r) = true) := by simp; omega
  have f1 : ((bk + 1 == b) = true) := by simp; omega
  clear c1 c2 hw0 hw1
  go_enter Try.func49, Try.ntmps49
  go_wp2_with fail
  refine bodyPost_ret (v := .agg #[.int .i64 (0), .int .i64 (0), .int .i64 (rw + 1), .int .i64 0]) (by simp [results, Try.results49, go_sem]) rfl ⟨rfl, (((Below.refl _ _).alloc (Nat.le_refl _) _).alloc (by simp) _).alloc (by simp; omega) _⟩

theorem next_any (r s b d c way rk bk rw : Int) (a1 : r ≤ 8) (a2 : b ≤ 16) (a3 : d ≤ 1024) (h0 : 0 ≤ rk) (h1 : rk < r) (h2 : 0 ≤ bk) (h3 : bk < b) (h4 : 0 ≤ rw) (h5 : rw < d) (w : World) :
    Calls Try.prog 49 #[.agg #[.int .i64 r, .int .i64 s, .int .i64 b, .int .i64 d, .int .i64 c], .int .i64 way, .agg #[.int .i64 rk, .int .i64 bk, .int .i64 rw, .int .i64 0]] w fun e w' => e = .returned (.agg #[.int .i64 (nxtB way r b d rk bk rw).1, .int .i64 (nxtB way r b d rk bk rw).2.1, .int .i64 (nxtB way r b d rk bk rw).2.2, .int .i64 0]) ∧ Below w.heap.size w w' := by
  unfold nxtB
  by_cases w0 : way = 0
  · subst w0
    rw [if_pos rfl]
    by_cases c1 : rw + 1 = d
    · rw [if_pos c1]
      by_cases c2 : bk + 1 = b
      · rw [if_pos c2]; exact next_03 r s b d c rk bk rw a1 a2 a3 h0 h1 h2 h3 h4 h5 c1 c2 w
      · rw [if_neg c2]; exact next_02 r s b d c rk bk rw a1 a2 a3 h0 h1 h2 h3 h4 h5 c1 c2 w
    · rw [if_neg c1]; exact next_01 r s b d c rk bk rw a1 a2 a3 h0 h1 h2 h3 h4 h5 c1 w
  rw [if_neg w0]
  by_cases w1 : way = 1
  · subst w1
    rw [if_pos rfl]
    by_cases c1 : bk + 1 = b
    · rw [if_pos c1]
      by_cases c2 : rw + 1 = d
      · rw [if_pos c2]; exact next_13 r s b d c rk bk rw a1 a2 a3 h0 h1 h2 h3 h4 h5 c1 c2 w
      · rw [if_neg c2]; exact next_12 r s b d c rk bk rw a1 a2 a3 h0 h1 h2 h3 h4 h5 c1 c2 w
    · rw [if_neg c1]; exact next_11 r s b d c rk bk rw a1 a2 a3 h0 h1 h2 h3 h4 h5 c1 w
  rw [if_neg w1]
  by_cases c1 : rk + 1 = r
  · rw [if_pos c1]
    by_cases c2 : bk + 1 = b
    · rw [if_pos c2]; exact next_23 r s b d c way rk bk rw a1 a2 a3 h0 h1 h2 h3 h4 h5 w0 w1 c1 c2 w
    · rw [if_neg c2]; exact next_22 r s b d c way rk bk rw a1 a2 a3 h0 h1 h2 h3 h4 h5 w0 w1 c1 c2 w
  · rw [if_neg c1]; exact next_21 r s b d c way rk bk rw a1 a2 a3 h0 h1 h2 h3 h4 h5 w0 w1 c1 w

end Go.Proofs.Ytjmcpeobncoinaa
