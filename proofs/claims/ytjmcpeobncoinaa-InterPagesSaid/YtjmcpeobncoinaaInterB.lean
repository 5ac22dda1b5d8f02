/- contracts of inter: Right, Lines, Line, Page. -/
import Derived.Test.YtjmcpeobncoinaaInterA
namespace Go.Proofs.Ytjmcpeobncoinaa
set_option linter.unusedVariables false
open Go.RowKit

set_option maxHeartbeats 1000000 in
theorem iright_any (r s b d c way : Int) (w : World) :
    Calls Try.prog 34 #[.agg #[.int .i64 r, .int .i64 s, .int .i64 b, .int .i64 d, .int .i64 c], .int .i64 way] w fun e w' => e = .returned (.bool (irB r s b d c way)) ∧ Below w.heap.size w w' := by
  cases hr : rightB r s b d c
  · have HR := Lib.hid hr
    have hi : irB r s b d c way = false := irB_no1 (by rw [hr]; simp)
    rw [hi]
    clear hr hi
    go_enter Try.func34, Try.ntmps34
    go_wp2_with (go_at_call 14; refine (right_no HR.out _).mono ?_; rintro e w1 ⟨rfl, hb⟩)
    go_ret
    exact ⟨rfl, below_one hb⟩
  · have HR := Lib.hid hr
    have HI : Hid (irB r s b d c way = wayB way) := by show irB r s b d c way = wayB way; unfold irB; rw [hr]; rfl
    rw [HI.out]
    clear hr
    by_cases h0 : 0 ≤ way
    · go_enter Try.func34, Try.ntmps34
      go_wp2_with (go_at_call 14; refine (right_yes HR.out _).mono ?_; rintro e w1 ⟨rfl, hb⟩)
      go_ret
      exact ⟨ret_bool (by simp [wayB, h0]), below_one hb⟩
    · go_enter Try.func34, Try.ntmps34
      go_wp2_with (go_at_call 14; refine (right_yes HR.out _).mono ?_; rintro e w1 ⟨rfl, hb⟩)
      go_ret
      exact ⟨ret_bool (by unfold wayB; rw [decide_eq_false (by omega)]; rfl), below_one hb⟩
theorem iright_is {r s b d c way : Int} {x : Bool} (h : irB r s b d c way = x) (w : World) :
    Calls Try.prog 34 #[.agg #[.int .i64 r, .int .i64 s, .int .i64 b, .int .i64 d, .int .i64 c], .int .i64 way] w fun e w' => e = .returned (.bool x) ∧ Below w.heap.size w w' := by
  have := iright_any r s b d c way w; rw [h] at this; exact this

set_option maxHeartbeats 1000000 in
theorem lines_any (r s b d c : Int) (w : World) :
    Calls Try.prog 35 #[.agg #[.int .i64 r, .int .i64 s, .int .i64 b, .int .i64 d, .int .i64 c]] w fun e w' => e = .returned (.int .i64 (linesB r s b d c)) ∧ Below w.heap.size w w' := by
  have hwr : wrap64 (pagesB r s b d c * c) = linesB r s b d c := by
    unfold linesB
    cases hr : rightB r s b d c
    · rw [pages_wrong hr]; simp [wrap64]
    · have h := pages_right hr
      have h2 := rightB_bd hr
      have h3 : 0 ≤ r * b * d * c := Int.mul_nonneg (by omega) (by omega)
      rw [h.1]; exact IntWalk.wrap64_in _ ⟨by omega, by omega⟩
  have HW := Lib.hid hwr
  clear hwr
  go_enter Try.func35, Try.ntmps35
  go_wp2_with fail
  refine wp_region_keeps (by kernel_rfl) (by kernel_rfl) ?_
  repeat (first
    | (refine wpQuiet_step (fun K hK => ?_); go_simp; refine hK _ ?_; clear hK K)
    | (refine wpQuiet_step (fun K hK => ?_); go_simp
       apply Exists.intro
       refine ⟨fun w' hw' => ?_, hK _ ?_⟩
       focus
         obtain ⟨hcq, hfq⟩ := hw'.cells
         go_simp
         first
           | rfl
           | (go_at_call 23; exact hw'.call (pages_any r s b d c _))
       clear hK K))
  refine wpQuiet_nil ?_
  intro w3 hw3
  go_wp2_with fail
  go_ret
  exact ⟨ret_int (by first | exact HW.out | (rw [← IntWalk.i64_left] at HW; exact HW.out)), below_one hw3⟩

/-- a page that isn't there -/
def NoPage (r s b d c way page : Int) : Prop := irB r s b d c way = false ∨ page < 0 ∨ (irB r s b d c way = true ∧ pagesB r s b d c ≤ page)
set_option maxHeartbeats 1000000 in
theorem Page_no (r s b d c way page : Int) (h : NoPage r s b d c way page) (w : World) :
    Calls Try.prog 28 #[.agg #[.int .i64 r, .int .i64 s, .int .i64 b, .int .i64 d, .int .i64 c], .int .i64 way, .int .i64 page] w fun e w' => e = .returned (.tuple #[.int .i64 0, .int .i64 12]) ∧ Below w.heap.size w w' := by
  cases hi : irB r s b d c way
  · have HI := Lib.hid hi
    clear hi h
    go_enter Try.func28, Try.ntmps28
    go_wp2_with (go_at_call 34; refine (iright_is HI.out _).mono ?_; rintro e w1 ⟨rfl, hb⟩)
    go_ret2
    exact ⟨rfl, below_one hb⟩
  · have HI := Lib.hid hi
    by_cases h0 : page < 0
    · clear hi h
      go_enter Try.func28, Try.ntmps28
      go_wp2_with (go_at_call 34; refine (iright_is HI.out _).mono ?_; rintro e w1 ⟨rfl, hb⟩)
      go_ret2
      exact ⟨rfl, below_one hb⟩
    · have hp : pagesB r s b d c ≤ page := by
        rcases h with h | h | h
        · rw [hi] at h; cases h
        · exact absurd h h0
        · exact h.2
      clear hi h
      go_enter Try.func28, Try.ntmps28
      go_wp2_with (first
        | (go_at_call 34; refine (iright_is HI.out _).mono ?_; rintro e w1 ⟨rfl, hb⟩; obtain ⟨hc, hf⟩ := bcell hb)
        | (go_at_call 23; refine (pages_any r s b d c _).mono ?_; rintro e w2 ⟨rfl, hb2⟩))
      go_ret2
      exact ⟨rfl, below_next (below_one hb) hb2⟩

end Go.Proofs.Ytjmcpeobncoinaa
