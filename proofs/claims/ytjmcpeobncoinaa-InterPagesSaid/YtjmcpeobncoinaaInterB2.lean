/- inter.Page. -/
import Derived.Test.YtjmcpeobncoinaaInterB
namespace Go.Proofs.Ytjmcpeobncoinaa
set_option linter.unusedVariables false
open Go.RowKit

set_option maxRecDepth 100000 in
set_option maxHeartbeats 4000000 in
theorem Page_0 (r s b d c page : Int) (hr : rightB r s b d c = true) (h0 : 0 ≤ page) (h1 : page < pagesB r s b d c) (w : World) :
    Calls Try.prog 28 #[.agg #[.int .i64 r, .int .i64 s, .int .i64 b, .int .i64 d, .int .i64 c], .int .i64 0, .int .i64 page] w fun e w' => e = .returned (.tuple #[.int .i64 (phys 0 r b d page), .int .i64 0]) ∧ Below w.heap.size w w' := by
  have HI := Lib.hid (irB_mk (way := 0) hr (by omega) (by omega))
  obtain ⟨a1, a2, a3, a4, a5, a6, a7, a8, a9⟩ := rightB_bd hr
  have hpg := pages_right hr
  have HX := Lib.hid (Index_yes (p_holds hr 0 page h0))
  have HP := Lib.hid (idx_phys 0 r b d page)
  rw [show pRank 0 r b d page = page / d / b % r from rfl, show pBank 0 r b d page = page / d % b from rfl, show pRow 0 r b d page = page % d from rfl] at HX HP
  have hle : page ≤ 131072 := by omega
  clear hr hpg
  go_enter Try.func28, Try.ntmps28
  go_wp2_with fail
  refine (iright_is HI.out _).mono ?_; rintro e w1 ⟨rfl, hb⟩; obtain ⟨hc, hf⟩ := bcell hb; have hz1 := size_one hb
  go_wp2_with fail
  refine (pages_any r s b d c _).mono ?_; rintro e w2 ⟨rfl, hb2⟩; obtain ⟨hc2, hf2⟩ := bcell hb2; have hz2 := Nat.lt_of_lt_of_le hz1 hb2.size
  go_wp2_with fail
  refine (digits_any _ page d b r h0 (by omega) a6 a4 a1 a7 (by omega) (by omega) _ (by simp) (by simp [go_sem]) (by simp [go_sem]) (by simp [go_sem])).mono ?_; rintro e w3 ⟨g, cap, rfl, hg, e0, e1, e2, hb3⟩
  simp only [World.size_alloc] at hg
  obtain ⟨hc3, hf3⟩ := bcell hb3; obtain ⟨hz3, hz3'⟩ := size_two hb3; have hy3 := Nat.lt_trans hz2 hz3
  have n1 : g ≠ w2.heap.size := by omega
  have n2 : w2.heap.size ≠ g := by omega
  have n3 : g ≠ w.heap.size := by omega
  have n4 : w.heap.size ≠ w2.heap.size := by omega
  have n5 : w2.heap.size ≠ w.heap.size := by omega
  have y2 : w.heap.size < w2.heap.size + 1 + 1 := by omega
  have y3 : w2.heap.size < w2.heap.size + 1 + 1 := by omega
  go_wp2_with fail
  go_region_held3 (fun w' => w'.cell? ⟨g, 0, none⟩ = some (.int .i64 (page % d)) ∧ w'.cell? ⟨g, 1, none⟩ = some (.int .i64 (page / d % b)) ∧ w'.cell? ⟨g, 2, none⟩ = some (.int .i64 (page / d / b % r))) (go_keep) (fail)
  go_wp2_with fail
  refine (HX.out _).mono ?_; rintro e w4 ⟨rfl, hb4⟩
  go_wp2_with fail
  go_ret2
  refine ⟨congrArg (fun x => Ending.returned (.tuple #[.int .i64 x, .int .i64 0])) HP.out, ?_⟩
  have l2 := below_next (below_one hb) hb2
  have hz := Nat.le_of_lt hz2
  have l3 := l2.trans (below_two hb3 |>.mono hz)
  exact (((l3.setCell hz _).setCell hz _).setCell hz _).drew.trans (hb4.mono (by simp; omega))

set_option maxRecDepth 100000 in
set_option maxHeartbeats 4000000 in
theorem Page_1 (r s b d c page : Int) (hr : rightB r s b d c = true) (h0 : 0 ≤ page) (h1 : page < pagesB r s b d c) (w : World) :
    Calls Try.prog 28 #[.agg #[.int .i64 r, .int .i64 s, .int .i64 b, .int .i64 d, .int .i64 c], .int .i64 1, .int .i64 page] w fun e w' => e = .returned (.tuple #[.int .i64 (phys 1 r b d page), .int .i64 0]) ∧ Below w.heap.size w w' := by
  have HI := Lib.hid (irB_mk (way := 1) hr (by omega) (by omega))
  obtain ⟨a1, a2, a3, a4, a5, a6, a7, a8, a9⟩ := rightB_bd hr
  have hpg := pages_right hr
  have HX := Lib.hid (Index_yes (p_holds hr 1 page h0))
  have HP := Lib.hid (idx_phys 1 r b d page)
  rw [show pRank 1 r b d page = page / b / d % r from rfl, show pBank 1 r b d page = page % b from rfl, show pRow 1 r b d page = page / b % d from rfl] at HX HP
  have hle : page ≤ 131072 := by omega
  clear hr hpg
  go_enter Try.func28, Try.ntmps28
  go_wp2_with fail
  refine (iright_is HI.out _).mono ?_; rintro e w1 ⟨rfl, hb⟩; obtain ⟨hc, hf⟩ := bcell hb; have hz1 := size_one hb
  go_wp2_with fail
  refine (pages_any r s b d c _).mono ?_; rintro e w2 ⟨rfl, hb2⟩; obtain ⟨hc2, hf2⟩ := bcell hb2; have hz2 := Nat.lt_of_lt_of_le hz1 hb2.size
  go_wp2_with fail
  refine (digits_any _ page b d r h0 (by omega) a4 a6 a1 (by omega) a7 (by omega) _ (by simp) (by simp [go_sem]) (by simp [go_sem]) (by simp [go_sem])).mono ?_; rintro e w3 ⟨g, cap, rfl, hg, e0, e1, e2, hb3⟩
  simp only [World.size_alloc] at hg
  obtain ⟨hc3, hf3⟩ := bcell hb3; obtain ⟨hz3, hz3'⟩ := size_two hb3; have hy3 := Nat.lt_trans hz2 hz3
  have n1 : g ≠ w2.heap.size := by omega
  have n2 : w2.heap.size ≠ g := by omega
  have n3 : g ≠ w.heap.size := by omega
  have n4 : w.heap.size ≠ w2.heap.size := by omega
  have n5 : w2.heap.size ≠ w.heap.size := by omega
  have y2 : w.heap.size < w2.heap.size + 1 + 1 := by omega
  have y3 : w2.heap.size < w2.heap.size + 1 + 1 := by omega
  go_wp2_with fail
  go_region_held3 (fun w' => w'.cell? ⟨g, 0, none⟩ = some (.int .i64 (page % b)) ∧ w'.cell? ⟨g, 1, none⟩ = some (.int .i64 (page / b % d)) ∧ w'.cell? ⟨g, 2, none⟩ = some (.int .i64 (page / b / d % r))) (go_keep) (fail)
  go_wp2_with fail
  refine (HX.out _).mono ?_; rintro e w4 ⟨rfl, hb4⟩
  go_wp2_with fail
  go_ret2
  refine ⟨congrArg (fun x => Ending.returned (.tuple #[.int .i64 x, .int .i64 0])) HP.out, ?_⟩
  have l2 := below_next (below_one hb) hb2
  have hz := Nat.le_of_lt hz2
  have l3 := l2.trans (below_two hb3 |>.mono hz)
  exact (((l3.setCell hz _).setCell hz _).setCell hz _).drew.trans (hb4.mono (by simp; omega))

set_option maxRecDepth 100000 in
set_option maxHeartbeats 4000000 in
theorem Page_2 (r s b d c page : Int) (hr : rightB r s b d c = true) (h0 : 0 ≤ page) (h1 : page < pagesB r s b d c) (w : World) :
    Calls Try.prog 28 #[.agg #[.int .i64 r, .int .i64 s, .int .i64 b, .int .i64 d, .int .i64 c], .int .i64 2, .int .i64 page] w fun e w' => e = .returned (.tuple #[.int .i64 (phys 2 r b d page), .int .i64 0]) ∧ Below w.heap.size w w' := by
  have HI := Lib.hid (irB_mk (way := 2) hr (by omega) (by omega))
  obtain ⟨a1, a2, a3, a4, a5, a6, a7, a8, a9⟩ := rightB_bd hr
  have hpg := pages_right hr
  have HX := Lib.hid (Index_yes (p_holds hr 2 page h0))
  have HP := Lib.hid (idx_phys 2 r b d page)
  rw [show pRank 2 r b d page = page % r from rfl, show pBank 2 r b d page = page / r % b from rfl, show pRow 2 r b d page = page / r / b % d from rfl] at HX HP
  have hle : page ≤ 131072 := by omega
  clear hr hpg
  go_enter Try.func28, Try.ntmps28
  go_wp2_with fail
  refine (iright_is HI.out _).mono ?_; rintro e w1 ⟨rfl, hb⟩; obtain ⟨hc, hf⟩ := bcell hb; have hz1 := size_one hb
  go_wp2_with fail
  refine (pages_any r s b d c _).mono ?_; rintro e w2 ⟨rfl, hb2⟩; obtain ⟨hc2, hf2⟩ := bcell hb2; have hz2 := Nat.lt_of_lt_of_le hz1 hb2.size
  go_wp2_with fail
  refine (digits_any _ page r b d h0 (by omega) a1 a4 a6 (by omega) (by omega) a7 _ (by simp) (by simp [go_sem]) (by simp [go_sem]) (by simp [go_sem])).mono ?_; rintro e w3 ⟨g, cap, rfl, hg, e0, e1, e2, hb3⟩
  simp only [World.size_alloc] at hg
  obtain ⟨hc3, hf3⟩ := bcell hb3; obtain ⟨hz3, hz3'⟩ := size_two hb3; have hy3 := Nat.lt_trans hz2 hz3
  have n1 : g ≠ w2.heap.size := by omega
  have n2 : w2.heap.size ≠ g := by omega
  have n3 : g ≠ w.heap.size := by omega
  have n4 : w.heap.size ≠ w2.heap.size := by omega
  have n5 : w2.heap.size ≠ w.heap.size := by omega
  have y2 : w.heap.size < w2.heap.size + 1 + 1 := by omega
  have y3 : w2.heap.size < w2.heap.size + 1 + 1 := by omega
  go_wp2_with fail
  go_region_held3 (fun w' => w'.cell? ⟨g, 0, none⟩ = some (.int .i64 (page % r)) ∧ w'.cell? ⟨g, 1, none⟩ = some (.int .i64 (page / r % b)) ∧ w'.cell? ⟨g, 2, none⟩ = some (.int .i64 (page / r / b % d))) (go_keep) (fail)
  go_wp2_with fail
  refine (HX.out _).mono ?_; rintro e w4 ⟨rfl, hb4⟩
  go_wp2_with fail
  go_ret2
  refine ⟨congrArg (fun x => Ending.returned (.tuple #[.int .i64 x, .int .i64 0])) HP.out, ?_⟩
  have l2 := below_next (below_one hb) hb2
  have hz := Nat.le_of_lt hz2
  have l3 := l2.trans (below_two hb3 |>.mono hz)
  exact (((l3.setCell hz _).setCell hz _).setCell hz _).drew.trans (hb4.mono (by simp; omega))

set_option maxRecDepth 100000 in
set_option maxHeartbeats 4000000 in
theorem Page_3 (r s b d c page : Int) (hr : rightB r s b d c = true) (h0 : 0 ≤ page) (h1 : page < pagesB r s b d c) (w : World) :
    Calls Try.prog 28 #[.agg #[.int .i64 r, .int .i64 s, .int .i64 b, .int .i64 d, .int .i64 c], .int .i64 3, .int .i64 page] w fun e w' => e = .returned (.tuple #[.int .i64 (phys 3 r b d page), .int .i64 0]) ∧ Below w.heap.size w w' := by
  have HI := Lib.hid (irB_mk (way := 3) hr (by omega) (by omega))
  obtain ⟨a1, a2, a3, a4, a5, a6, a7, a8, a9⟩ := rightB_bd hr
  have hpg := pages_right hr
  have HX := Lib.hid (Index_yes (p_holds hr 3 page h0))
  have HP := Lib.hid (idx_phys 3 r b d page)
  rw [show pRank 3 r b d page = page % r from rfl, show pBank 3 r b d page = bits .xor .i64 (page / r % b) (bits .and .i64 (page / r / b % d) (b - 1)) from rfl, show pRow 3 r b d page = page / r / b % d from rfl] at HX HP
  have hle : page ≤ 131072 := by omega
  clear hr hpg
  go_enter Try.func28, Try.ntmps28
  go_wp2_with fail
  refine (iright_is HI.out _).mono ?_; rintro e w1 ⟨rfl, hb⟩; obtain ⟨hc, hf⟩ := bcell hb; have hz1 := size_one hb
  go_wp2_with fail
  refine (pages_any r s b d c _).mono ?_; rintro e w2 ⟨rfl, hb2⟩; obtain ⟨hc2, hf2⟩ := bcell hb2; have hz2 := Nat.lt_of_lt_of_le hz1 hb2.size
  go_wp2_with fail
  refine (digits_any _ page r b d h0 (by omega) a1 a4 a6 (by omega) (by omega) a7 _ (by simp) (by simp [go_sem]) (by simp [go_sem]) (by simp [go_sem])).mono ?_; rintro e w3 ⟨g, cap, rfl, hg, e0, e1, e2, hb3⟩
  simp only [World.size_alloc] at hg
  obtain ⟨hc3, hf3⟩ := bcell hb3; obtain ⟨hz3, hz3'⟩ := size_two hb3; have hy3 := Nat.lt_trans hz2 hz3
  have n1 : g ≠ w2.heap.size := by omega
  have n2 : w2.heap.size ≠ g := by omega
  have n3 : g ≠ w.heap.size := by omega
  have n4 : w.heap.size ≠ w2.heap.size := by omega
  have n5 : w2.heap.size ≠ w.heap.size := by omega
  have y2 : w.heap.size < w2.heap.size + 1 + 1 := by omega
  have y3 : w2.heap.size < w2.heap.size + 1 + 1 := by omega
  go_wp2_with fail
  go_region_held3 (fun w' => w'.cell? ⟨g, 0, none⟩ = some (.int .i64 (page % r)) ∧ w'.cell? ⟨g, 1, none⟩ = some (.int .i64 (page / r % b)) ∧ w'.cell? ⟨g, 2, none⟩ = some (.int .i64 (page / r / b % d))) (go_keep) (fail)
  obtain ⟨w5, hw5⟩ : ∃ w5, w5 = (((w3.setCell ⟨w2.heap.size, 0, none⟩ (.int .i64 (page % r))).setCell ⟨w2.heap.size, 1, none⟩ (.int .i64 (page / r % b))).setCell ⟨w2.heap.size, 2, none⟩ (.int .i64 (page / r / b % d))).drew := ⟨_, rfl⟩
  have l2 := below_next (below_one hb) hb2
  have hz := Nat.le_of_lt hz2
  have l3 := l2.trans (below_two hb3 |>.mono hz)
  have l5 : Below w.heap.size w w5 := by rw [hw5]; exact (((l3.setCell hz _).setCell hz _).setCell hz _).drew
  have s5 : w.heap.size ≤ w5.heap.size := l5.size
  have z0 : w3.cell? ⟨w2.heap.size, 0, none⟩ = some (.int .i64 0) := by simp [go_sem, hc3]
  have z1 : w3.cell? ⟨w2.heap.size, 1, none⟩ = some (.int .i64 0) := by simp [go_sem, hc3]
  have z2 : w3.cell? ⟨w2.heap.size, 2, none⟩ = some (.int .i64 0) := by simp [go_sem, hc3]
  have z3 : w3.cell? ⟨w2.heap.size, 3, none⟩ = some (.int .i64 0) := by simp [go_sem, hc3]
  have q0 : w5.cell? ⟨w2.heap.size, 0, none⟩ = some (.int .i64 (page % r)) := by rw [hw5]; simp [go_sem, z0]
  have q1 : w5.cell? ⟨w2.heap.size, 1, none⟩ = some (.int .i64 (page / r % b)) := by rw [hw5]; simp [go_sem, z1]
  have q2 : w5.cell? ⟨w2.heap.size, 2, none⟩ = some (.int .i64 (page / r / b % d)) := by rw [hw5]; simp [go_sem, z2]
  have q3 : w5.cell? ⟨w2.heap.size, 3, none⟩ = some (.int .i64 0) := by rw [hw5]; simp [go_sem, z3]
  have qf : w5.frozen? ⟨w2.heap.size, 1, none⟩ = false := by rw [hw5]; simp [go_sem, hf3]
  have qg : ∀ o, w5.cell? ⟨w.heap.size, o, none⟩ = (w.alloc (.cells #[.int .i64 r, .int .i64 s, .int .i64 b, .int .i64 d, .int .i64 c] 23)).cell? ⟨w.heap.size, o, none⟩ := fun o => by rw [hw5]; simp [go_sem, hc3, y2, hc2, hz1, hc, hz2]
  have g0 : w5.cell? ⟨w.heap.size, 0, none⟩ = some (.int .i64 r) := by rw [qg]; simp [go_sem]
  have g1 : w5.cell? ⟨w.heap.size, 1, none⟩ = some (.int .i64 s) := by rw [qg]; simp [go_sem]
  have g2 : w5.cell? ⟨w.heap.size, 2, none⟩ = some (.int .i64 b) := by rw [qg]; simp [go_sem]
  have g3 : w5.cell? ⟨w.heap.size, 3, none⟩ = some (.int .i64 d) := by rw [qg]; simp [go_sem]
  have g4 : w5.cell? ⟨w.heap.size, 4, none⟩ = some (.int .i64 c) := by rw [qg]; simp [go_sem]
  rw [← hw5]
  clear qg hw5 hc hf hc2 hf2 hc3 hf3 e0 e1 e2 z0 z1 z2 z3
  go_wp2_with fail
  refine (HX.out _).mono ?_; rintro e w4 ⟨rfl, hb4⟩
  go_wp2_with fail
  go_ret2
  refine ⟨congrArg (fun x => Ending.returned (.tuple #[.int .i64 x, .int .i64 0])) HP.out, ?_⟩
  exact (l5.setCell hz _).trans (hb4.mono (by simp; omega))

theorem Page_yes (r s b d c way page : Int) (hi : irB r s b d c way = true) (h0 : 0 ≤ page) (h1 : page < pagesB r s b d c) (w : World) :
    Calls Try.prog 28 #[.agg #[.int .i64 r, .int .i64 s, .int .i64 b, .int .i64 d, .int .i64 c], .int .i64 way, .int .i64 page] w fun e w' => e = .returned (.tuple #[.int .i64 (phys way r b d page), .int .i64 0]) ∧ Below w.heap.size w w' := by
  obtain ⟨hr, w0, w4⟩ := irB_yes hi
  have hw : way = 0 ∨ way = 1 ∨ way = 2 ∨ way = 3 := by omega
  rcases hw with rfl | rfl | rfl | rfl
  · exact Page_0 r s b d c page hr h0 h1 w
  · exact Page_1 r s b d c page hr h0 h1 w
  · exact Page_2 r s b d c page hr h0 h1 w
  · exact Page_3 r s b d c page hr h0 h1 w

theorem anchor_page (w : World) :
    Calls Try.prog 28 #[.agg #[.int .i64 2, .int .i64 0, .int .i64 2, .int .i64 4, .int .i64 1], .int .i64 1, .int .i64 3] w fun e w' => e = .returned (.tuple #[.int .i64 1025, .int .i64 0]) ∧ Below w.heap.size w w' :=
  Page_yes 2 0 2 4 1 1 3 (by decide) (by decide) (by decide) w

set_option maxHeartbeats 1000000 in
theorem anchor8_any (w : World) : Calls Try.prog 26 #[] w fun e w' => e = .returned (.bool true) ∧ Below w.heap.size w w' := by
  go_enter Try.func26, Try.ntmps26
  go_wp2_with (go_at_call 28; refine (anchor_page _).mono ?_; rintro e w1 ⟨rfl, hb⟩)
  go_ret
  exact ⟨rfl, hb⟩
end Go.Proofs.Ytjmcpeobncoinaa
