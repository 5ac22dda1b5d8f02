/- the anchor of chapter 07, and the law GeomUnlike's walk. -/
import Derived.Test.YtjmcpeobncoinaaGeoB
namespace Go.Proofs.Ytjmcpeobncoinaa
set_option linter.unusedVariables false
open Go.RowKit

theorem Index_yes {r s b d c pr pb pd pc : Int} (h : holdsB r s b d c pr pb pd pc = true) (w : World) :
    Calls Try.prog 13 #[.agg #[.int .i64 r, .int .i64 s, .int .i64 b, .int .i64 d, .int .i64 c], .agg #[.int .i64 pr, .int .i64 pb, .int .i64 pd, .int .i64 pc]] w fun e w' => e = .returned (.tuple #[.int .i64 (idx pr pb pd pc), .int .i64 0]) ∧ Below w.heap.size w w' := by
  have := Index_any r s b d c pr pb pd pc w; rw [h] at this; exact this
theorem Index_no {r s b d c pr pb pd pc : Int} (h : holdsB r s b d c pr pb pd pc = false) (w : World) :
    Calls Try.prog 13 #[.agg #[.int .i64 r, .int .i64 s, .int .i64 b, .int .i64 d, .int .i64 c], .agg #[.int .i64 pr, .int .i64 pb, .int .i64 pd, .int .i64 pc]] w fun e w' => e = .returned (.tuple #[.int .i64 0, .int .i64 12]) ∧ Below w.heap.size w w' := by
  have := Index_any r s b d c pr pb pd pc w; rw [h] at this; exact this

theorem anchor_index (w : World) :
    Calls Try.prog 13 #[.agg #[.int .i64 2, .int .i64 0, .int .i64 4, .int .i64 4, .int .i64 8], .agg #[.int .i64 1, .int .i64 2, .int .i64 3, .int .i64 4]] w fun e w' => e = .returned (.tuple #[.int .i64 1179844, .int .i64 0]) ∧ Below w.heap.size w w' :=
  Index_yes (by decide) w
theorem anchor_right (w : World) :
    Calls Try.prog 14 #[.agg #[.int .i64 2, .int .i64 0, .int .i64 4, .int .i64 4, .int .i64 8]] w fun e w' => e = .returned (.bool true) ∧ Below w.heap.size w w' :=
  right_yes (by decide) w
theorem anchor_per (w : World) :
    Calls Try.prog 22 #[.agg #[.int .i64 2, .int .i64 0, .int .i64 4, .int .i64 4, .int .i64 8]] w fun e w' => e = .returned (.int .i64 128) ∧ Below w.heap.size w w' :=
  perRank_any 2 0 4 4 8 w
theorem anchor_pages (w : World) :
    Calls Try.prog 23 #[.agg #[.int .i64 2, .int .i64 0, .int .i64 4, .int .i64 4, .int .i64 8]] w fun e w' => e = .returned (.int .i64 32) ∧ Below w.heap.size w w' :=
  pages_any 2 0 4 4 8 w

set_option maxHeartbeats 1000000 in
theorem anchor_any (w : World) : Calls Try.prog 12 #[] w fun e w' => e = .returned (.bool true) ∧ Below w.heap.size w w' := by
  go_enter Try.func12, Try.ntmps12
  go_wp2_with (first
    | (go_at_call 13; refine (anchor_index _).mono ?_; rintro e w1 ⟨rfl, hb⟩; obtain ⟨hc, hf⟩ := bcell hb; have hz := size_one hb)
    | (go_at_call 14; refine (anchor_right _).mono ?_; rintro e w2 ⟨rfl, hb2⟩; obtain ⟨hc2, hf2⟩ := bcell hb2; have hz2 := Nat.lt_of_lt_of_le hz hb2.size)
    | (go_at_call 22; refine (anchor_per _).mono ?_; rintro e w3 ⟨rfl, hb3⟩; obtain ⟨hc3, hf3⟩ := bcell hb3; have hz3 := Nat.lt_of_lt_of_le hz2 hb3.size)
    | (go_at_call 23; refine (anchor_pages _).mono ?_; rintro e w4 ⟨rfl, hb4⟩))
  go_ret
  exact ⟨rfl, below_next (below_next (below_next (below_one hb) hb2) hb3) hb4⟩

end Go.Proofs.Ytjmcpeobncoinaa
