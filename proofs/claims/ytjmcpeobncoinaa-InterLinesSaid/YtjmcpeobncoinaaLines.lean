/- Any line has its page and column just if it is there: for every geometry, way and line. No condition. -/
import Derived.Test.YtjmcpeobncoinaaInterB2
import Derived.Test.YtjmcpeobncoinaaFr
namespace Go.Proofs.Ytjmcpeobncoinaa
set_option linter.unusedVariables false
open Go.ChangeShapes Go.WideShapes Go.ChangeAt Go.RowKit
namespace lines

theorem rright_is {r s b d c : Int} {x : Bool} (h : rightB r s b d c = x) (w : World) :
    Calls Try.prog 15 #[.agg #[.int .i64 r, .int .i64 s, .int .i64 b, .int .i64 d, .int .i64 c]] w fun e w' => e = .returned (.bool x) ∧ Below w.heap.size w w' := by
  have := rright_any r s b d c w; rw [h] at this; exact this

theorem below_drewN {B : Nat} {a w : World} (h : Below B a w) (n : Nat) : Below B a (w.drewN n) := ⟨h.os, h.tape, h.output, h.size, h.block⟩

/-- Line's answer where the line isn't there -/
theorem Line_no (r s b d c way line : Int) (h : irB r s b d c way = true → line < 0 ∨ linesB r s b d c ≤ line) (w : World) :
    Calls Try.prog 27 #[.agg #[.int .i64 r, .int .i64 s, .int .i64 b, .int .i64 d, .int .i64 c], .int .i64 way, .int .i64 line] w fun e w' => e = .returned (.tuple #[.int .i64 0, .int .i64 0, .int .i64 12]) ∧ Below w.heap.size w w' := by
  cases hi : irB r s b d c way
  · have HI := Lib.hid hi
    clear hi h
    go_enter Try.func27, Try.ntmps27
    go_wp2_with (go_at_call 34; refine (iright_is HI.out _).mono ?_; rintro e w1 ⟨rfl, hb⟩)
    go_ret3
    exact ⟨rfl, below_one hb⟩
  · have HI := Lib.hid hi
    have h' := h hi
    by_cases h0 : line < 0
    · clear hi h h'
      go_enter Try.func27, Try.ntmps27
      go_wp2_with (go_at_call 34; refine (iright_is HI.out _).mono ?_; rintro e w1 ⟨rfl, hb⟩)
      go_ret3
      exact ⟨rfl, below_one hb⟩
    · have hp : linesB r s b d c ≤ line := by omega
      clear hi h h'
      go_enter Try.func27, Try.ntmps27
      go_wp2_with (first
        | (go_at_call 34; refine (iright_is HI.out _).mono ?_; rintro e w1 ⟨rfl, hb⟩; obtain ⟨hc, hf⟩ := bcell hb)
        | (go_at_call 35; refine (lines_any r s b d c _).mono ?_; rintro e w2 ⟨rfl, hb2⟩))
      go_ret3
      exact ⟨rfl, below_next (below_one hb) hb2⟩

theorem Line_yes (r s b d c way line : Int) (hi : irB r s b d c way = true) (h0 : 0 ≤ line) (h1 : line < linesB r s b d c) (w : World) :
    Calls Try.prog 27 #[.agg #[.int .i64 r, .int .i64 s, .int .i64 b, .int .i64 d, .int .i64 c], .int .i64 way, .int .i64 line] w fun e w' => e = .returned (.tuple #[.int .i64 (line / c), .int .i64 (line % c), .int .i64 0]) ∧ Below w.heap.size w w' := by
  have HI := Lib.hid hi
  have hr := (irB_yes hi).1
  obtain ⟨a1, a2, a3, a4, a5, a6, a7, a8, a9⟩ := rightB_bd hr
  have hle : line ≤ 4096 := by have := pages_right hr; rw [lines_right hr] at h1; omega
  have hq0 : 0 ≤ line / c := Int.ediv_nonneg h0 (by omega)
  have hq1 : line / c ≤ line := Int.ediv_le_self _ h0
  have hc0 : ((c : Int) == 0) = false := by simp; omega
  clear hi hr
  go_enter Try.func27, Try.ntmps27
  go_wp2_with fail
  refine (iright_is HI.out _).mono ?_; rintro e w1 ⟨rfl, hb⟩; obtain ⟨hc, hf⟩ := bcell hb; have hz1 := size_one hb
  go_wp2_with fail
  refine (lines_any r s b d c _).mono ?_; rintro e w2 ⟨rfl, hb2⟩; obtain ⟨hc2, hf2⟩ := bcell hb2; have hz2 := Nat.lt_of_lt_of_le hz1 hb2.size
  go_wp2_with fail
  go_quiet (fail)
  go_wp2_with fail
  go_ret3
  exact ⟨rfl, below_drewN (below_next (below_one hb) hb2) _⟩

set_option maxRecDepth 100000 in
set_option maxHeartbeats 2000000 in
theorem wrong (r s b d c way line : Int) (w : World) (hr : rightB r s b d c = false) :
    Calls Try.prog 6 #[.agg #[.int .i64 r, .int .i64 s, .int .i64 b, .int .i64 d, .int .i64 c], .int .i64 way, .int .i64 line] w fun e w' => e = .returned (.bool true) ∧ Below w.heap.size w w' := by
  have HL := Lib.hid (Line_no r s b d c way line (fun h => by rw [irB_no1 (by rw [hr]; simp)] at h; cases h))
  have HR := Lib.hid hr
  clear hr
  go_enter Try.func6, Try.ntmps6
  go_wp2_with fail
  refine (anchor8_any _).mono ?_; rintro e w1 ⟨rfl, hb⟩; obtain ⟨hc, hf⟩ := bcell hb; have hz1 := size_one hb
  go_wp2_with fail
  refine (HL.out _).mono ?_; rintro e w2 ⟨rfl, hb2⟩; obtain ⟨hc2, hf2⟩ := bcell hb2; have hz2 := Nat.lt_of_lt_of_le hz1 hb2.size
  go_wp2_with fail
  refine (rright_is HR.out _).mono ?_; rintro e w3 ⟨rfl, hb3⟩; obtain ⟨hc3, hf3⟩ := bcell hb3; have hz3 := Nat.lt_of_lt_of_le hz2 hb3.size
  go_wp2_with fail
  all_goals go_ret
  all_goals exact ⟨rfl, below_next (below_next (below_one hb) hb2) hb3⟩

set_option maxRecDepth 100000 in
set_option maxHeartbeats 2000000 in
theorem way_lo (r s b d c way line : Int) (w : World) (hr : rightB r s b d c = true) (hw : way < 0) :
    Calls Try.prog 6 #[.agg #[.int .i64 r, .int .i64 s, .int .i64 b, .int .i64 d, .int .i64 c], .int .i64 way, .int .i64 line] w fun e w' => e = .returned (.bool true) ∧ Below w.heap.size w w' := by
  have HL := Lib.hid (Line_no r s b d c way line (fun h => by have := irB_yes h; omega))
  have HR := Lib.hid hr
  clear hr
  go_enter Try.func6, Try.ntmps6
  go_wp2_with fail
  refine (anchor8_any _).mono ?_; rintro e w1 ⟨rfl, hb⟩; obtain ⟨hc, hf⟩ := bcell hb; have hz1 := size_one hb
  go_wp2_with fail
  refine (HL.out _).mono ?_; rintro e w2 ⟨rfl, hb2⟩; obtain ⟨hc2, hf2⟩ := bcell hb2; have hz2 := Nat.lt_of_lt_of_le hz1 hb2.size
  go_wp2_with fail
  refine (rright_is HR.out _).mono ?_; rintro e w3 ⟨rfl, hb3⟩; obtain ⟨hc3, hf3⟩ := bcell hb3; have hz3 := Nat.lt_of_lt_of_le hz2 hb3.size
  go_wp2_with fail
  all_goals go_ret
  all_goals exact ⟨rfl, below_next (below_next (below_one hb) hb2) hb3⟩

set_option maxRecDepth 100000 in
set_option maxHeartbeats 2000000 in
theorem way_hi (r s b d c way line : Int) (w : World) (hr : rightB r s b d c = true) (hw0 : 0 ≤ way) (hw : 4 ≤ way) :
    Calls Try.prog 6 #[.agg #[.int .i64 r, .int .i64 s, .int .i64 b, .int .i64 d, .int .i64 c], .int .i64 way, .int .i64 line] w fun e w' => e = .returned (.bool true) ∧ Below w.heap.size w w' := by
  have HL := Lib.hid (Line_no r s b d c way line (fun h => by have := irB_yes h; omega))
  have HR := Lib.hid hr
  have hw' : 3 < way := by omega
  clear hr
  go_enter Try.func6, Try.ntmps6
  go_wp2_with fail
  refine (anchor8_any _).mono ?_; rintro e w1 ⟨rfl, hb⟩; obtain ⟨hc, hf⟩ := bcell hb; have hz1 := size_one hb
  go_wp2_with fail
  refine (HL.out _).mono ?_; rintro e w2 ⟨rfl, hb2⟩; obtain ⟨hc2, hf2⟩ := bcell hb2; have hz2 := Nat.lt_of_lt_of_le hz1 hb2.size
  go_wp2_with fail
  refine (rright_is HR.out _).mono ?_; rintro e w3 ⟨rfl, hb3⟩; obtain ⟨hc3, hf3⟩ := bcell hb3; have hz3 := Nat.lt_of_lt_of_le hz2 hb3.size
  go_wp2_with fail
  all_goals go_ret
  all_goals exact ⟨rfl, below_next (below_next (below_one hb) hb2) hb3⟩

set_option maxRecDepth 100000 in
set_option maxHeartbeats 2000000 in
theorem line_lo (r s b d c way line : Int) (w : World) (hr : rightB r s b d c = true) (hw0 : 0 ≤ way) (hw : way < 4) (hl : line < 0) :
    Calls Try.prog 6 #[.agg #[.int .i64 r, .int .i64 s, .int .i64 b, .int .i64 d, .int .i64 c], .int .i64 way, .int .i64 line] w fun e w' => e = .returned (.bool true) ∧ Below w.heap.size w w' := by
  have HL := Lib.hid (Line_no r s b d c way line (fun h => .inl hl))
  have HR := Lib.hid hr
  have hw' : way ≤ 3 := by omega
  clear hr
  go_enter Try.func6, Try.ntmps6
  go_wp2_with fail
  refine (anchor8_any _).mono ?_; rintro e w1 ⟨rfl, hb⟩; obtain ⟨hc, hf⟩ := bcell hb; have hz1 := size_one hb
  go_wp2_with fail
  refine (HL.out _).mono ?_; rintro e w2 ⟨rfl, hb2⟩; obtain ⟨hc2, hf2⟩ := bcell hb2; have hz2 := Nat.lt_of_lt_of_le hz1 hb2.size
  go_wp2_with fail
  refine (rright_is HR.out _).mono ?_; rintro e w3 ⟨rfl, hb3⟩; obtain ⟨hc3, hf3⟩ := bcell hb3; have hz3 := Nat.lt_of_lt_of_le hz2 hb3.size
  go_wp2_with fail
  all_goals go_ret
  all_goals exact ⟨rfl, below_next (below_next (below_one hb) hb2) hb3⟩

set_option maxRecDepth 100000 in
set_option maxHeartbeats 2000000 in
theorem line_hi (r s b d c way line : Int) (w : World) (hr : rightB r s b d c = true) (hw0 : 0 ≤ way) (hw : way < 4) (hl0 : 0 ≤ line) (hl : r * b * d * c ≤ line) :
    Calls Try.prog 6 #[.agg #[.int .i64 r, .int .i64 s, .int .i64 b, .int .i64 d, .int .i64 c], .int .i64 way, .int .i64 line] w fun e w' => e = .returned (.bool true) ∧ Below w.heap.size w w' := by
  have HL := Lib.hid (Line_no r s b d c way line (fun h => .inr (by rw [lines_right hr]; exact hl)))
  have HR := Lib.hid hr
  have hw' : way ≤ 3 := by omega
  obtain ⟨a1, a2, a3, a4, a5, a6, a7, a8, a9⟩ := rightB_bd hr
  have m1 := mul_in a1 (show r ≤ 8 by omega) a4 a5
  have m2 := mul_in m1.1 m1.2 a6 a7
  have m3 := mul_in m2.1 m2.2 a8 a9
  obtain ⟨m1a, m1b⟩ := m1
  obtain ⟨m2a, m2b⟩ := m2
  obtain ⟨m3a, m3b⟩ := m3
  clear hr
  go_enter Try.func6, Try.ntmps6
  go_wp2_with fail
  refine (anchor8_any _).mono ?_; rintro e w1 ⟨rfl, hb⟩; obtain ⟨hc, hf⟩ := bcell hb; have hz1 := size_one hb
  go_wp2_with fail
  refine (HL.out _).mono ?_; rintro e w2 ⟨rfl, hb2⟩; obtain ⟨hc2, hf2⟩ := bcell hb2; have hz2 := Nat.lt_of_lt_of_le hz1 hb2.size
  go_wp2_with fail
  refine (rright_is HR.out _).mono ?_; rintro e w3 ⟨rfl, hb3⟩; obtain ⟨hc3, hf3⟩ := bcell hb3; have hz3 := Nat.lt_of_lt_of_le hz2 hb3.size
  go_wp2_with fail
  all_goals go_ret
  all_goals exact ⟨rfl, below_next (below_next (below_one hb) hb2) hb3⟩

set_option maxRecDepth 100000 in
set_option maxHeartbeats 2000000 in
theorem line_in (r s b d c way line : Int) (w : World) (hr : rightB r s b d c = true) (hw0 : 0 ≤ way) (hw : way < 4) (hl0 : 0 ≤ line) (hl : line < r * b * d * c) :
    Calls Try.prog 6 #[.agg #[.int .i64 r, .int .i64 s, .int .i64 b, .int .i64 d, .int .i64 c], .int .i64 way, .int .i64 line] w fun e w' => e = .returned (.bool true) ∧ Below w.heap.size w w' := by
  have HL := Lib.hid (Line_yes r s b d c way line (irB_mk hr hw0 hw) hl0 (by rw [lines_right hr]; exact hl))
  have HR := Lib.hid hr
  have hw' : way ≤ 3 := by omega
  obtain ⟨a1, a2, a3, a4, a5, a6, a7, a8, a9⟩ := rightB_bd hr
  have m1 := mul_in a1 (show r ≤ 8 by omega) a4 a5
  have m2 := mul_in m1.1 m1.2 a6 a7
  have m3 := mul_in m2.1 m2.2 a8 a9
  obtain ⟨m1a, m1b⟩ := m1
  obtain ⟨m2a, m2b⟩ := m2
  obtain ⟨m3a, m3b⟩ := m3
  have q0 := Int.emod_nonneg line (show c ≠ 0 by omega)
  have q1 := Int.emod_lt_of_pos line (show 0 < c by omega)
  have q2 : line / c * c + line % c = line := by have := Int.mul_ediv_add_emod line c; rw [Int.mul_comm] at this; exact this
  have q3 : 0 ≤ line / c := Int.ediv_nonneg hl0 (by omega)
  have q4 : 0 ≤ line / c * c := Int.mul_nonneg q3 (by omega)
  have q5 : line / c * c ≤ line := by omega
  have Q2 : ((line / c * c + line % c) == line) = true := by rw [q2]; simp
  have hle : line ≤ 8 * 16 * 1024 * 64 := by omega
  have hq1 : line / c ≤ line := Int.ediv_le_self _ hl0
  clear q2 hr
  go_enter Try.func6, Try.ntmps6
  go_wp2_with fail
  refine (anchor8_any _).mono ?_; rintro e w1 ⟨rfl, hb⟩; obtain ⟨hc, hf⟩ := bcell hb; have hz1 := size_one hb
  go_wp2_with fail
  refine (HL.out _).mono ?_; rintro e w2 ⟨rfl, hb2⟩; obtain ⟨hc2, hf2⟩ := bcell hb2; have hz2 := Nat.lt_of_lt_of_le hz1 hb2.size
  go_wp2_with fail
  refine (rright_is HR.out _).mono ?_; rintro e w3 ⟨rfl, hb3⟩; obtain ⟨hc3, hf3⟩ := bcell hb3; have hz3 := Nat.lt_of_lt_of_le hz2 hb3.size
  go_wp2_with fail
  all_goals go_ret
  all_goals exact ⟨rfl, below_next (below_next (below_one hb) hb2) hb3⟩

theorem walk (r s b d c way : Int) (bway : In64 way) (line : Int) (bline : In64 line) (w : World) :
    Calls Try.prog 6 #[.agg #[.int .i64 r, .int .i64 s, .int .i64 b, .int .i64 d, .int .i64 c], .int .i64 way, .int .i64 line] w fun e w' => e = .returned (.bool true) ∧ Below w.heap.size w w' := by
  cases hr : rightB r s b d c
  · exact wrong r s b d c way line w hr
  by_cases h1 : way < 0
  · exact way_lo r s b d c way line w hr h1
  by_cases h2 : 4 ≤ way
  · exact way_hi r s b d c way line w hr (by omega) h2
  by_cases h3 : line < 0
  · exact line_lo r s b d c way line w hr (by omega) (by omega) h3
  by_cases h4 : r * b * d * c ≤ line
  · exact line_hi r s b d c way line w hr (by omega) (by omega) (by omega) h4
  · exact line_in r s b d c way line w hr (by omega) (by omega) (by omega) (by omega)

set_option maxRecDepth 100000 in
theorem lifted (os : Os) (started : os.Started) (H : Type) (enc : TypeId × Value → H) :
    ReturnsInHanded {} Try.checked os 6 .any (Rows.interLinesSpec.pre6 enc Try.prog Try.f6 Rows.interLinesRow.domain false) (Rows.interLinesSpec.post enc Try.prog Try.f6 false true false false) := by
  refine returnsInHanded_of_change (C := Try.checked) own started (by kernel_rfl) Try.func6
    (ChangeSpec.witness6 (enc := enc) (C := Try.checked) false ⟨#[], #[.agg #[.int .i64 0, .int .i64 0, .int .i64 0, .int .i64 0, .int .i64 0], .int .i64 0, .int .i64 0], []⟩ 8 (by kernel_rfl) (by kernel_rfl) (by kernel_rfl) (by kernel_rfl)) ?_
  intro W base args ds gs before hval0 hW hcnd _
  have hval : ∀ (j : Nat) t v, Try.f6.params[j]? = some t → args[j]? = some v → Value.okWide Try.prog W .any base t v := hval0
  have hW' := hW
  obtain ⟨p, q, hA0, hV, rfl, hfz, hnd⟩ := hW
  have hA : DataW.TrodAll enc Try.prog W 0 (fun _ => true) true Try.f6.params.toList args.toList ds p := hA0
  rw [Try.params6] at hA hval
  obtain ⟨v0, vs0, d0, ds0, p0, q0, hargs, rfl, rfl, h0, r0⟩ := trodAll_cons hA
  obtain ⟨v1, vs1, d1, ds1, p1, q1, rfl, rfl, rfl, h1, r1⟩ := trodAll_cons r0
  obtain ⟨v2, vs2, d2, ds2, p2, q2, rfl, rfl, rfl, h2, r2⟩ := trodAll_cons r1
  obtain ⟨rfl, rfl, rfl⟩ := trodAll_nil r2
  obtain rfl : args = #[v0, v1, v2] := by cases args; simp_all
  obtain ⟨rfl, rfl⟩ := trodVars_none hV
  have k0 := h0
  have lt0 : ∀ x ∈ p0, x.block < W.heap.size := by obtain ⟨m, hm⟩ := k0; exact DataW.trod_lt m _ _ _ hm
  have k1 := h1
  have lt1 : ∀ x ∈ p1, x.block < W.heap.size := by obtain ⟨m, hm⟩ := k1; exact DataW.trod_lt m _ _ _ hm
  have k2 := h2
  have lt2 : ∀ x ∈ p2, x.block < W.heap.size := by obtain ⟨m, hm⟩ := k2; exact DataW.trod_lt m _ _ _ hm
  obtain ⟨g0, g1, g2, g3, g4, rfl, _, _, _, _, _⟩ := open_geom (hval 0 23 v0 rfl rfl) h0
  obtain ⟨way, rfl, bway⟩ := open_num (hval 1 3 v1 rfl rfl) h1
  obtain ⟨line, rfl, bline⟩ := open_num (hval 2 3 v2 rfl rfl) h2
  clear hA0 hval0
  refine (walk g0 g1 g2 g3 g4 way bway line bline W).mono fun e W' ⟨he, bel⟩ => ?_
  subst he
  exact ⟨_, rfl, _, _, _, [], _, [], hW', trodAll_mk1 (shut_bool Try.underlying4 _), (trodAll_cons_mk (Below.trod laidOut (by kernel_rfl) (of_decide_eq_true (by kernel_rfl)) k0 bel lt0) (trodAll_cons_mk (Below.trod laidOut (by kernel_rfl) (of_decide_eq_true (by kernel_rfl)) k1 bel lt1) (trodAll_cons_mk (Below.trod laidOut (by kernel_rfl) (of_decide_eq_true (by kernel_rfl)) k2 bel lt2) trodAll_mk0))), rfl, bel.frame _, fun h => by cases h⟩

theorem over : Rows.interLinesRow.holds Try.pinned (OpenSpec.ofChange Rows.interLinesSpec) :=
  OpenClaim.holds_of_wide 6 Try.f6 rfl rfl rfl rfl rfl rfl rfl ⟨rfl, rfl, rfl, rfl, rfl⟩ rfl rfl rfl rfl rfl (by kernel_rfl) Try.func6 (by kernel_rfl)
    (of_decide_eq_true (by kernel_rfl)) (by unfold Func.isWrapper; first | (rw [if_pos (by decide +kernel)]; kernel_rfl) | (rw [if_neg (by decide +kernel)]; exact ⟨rfl, rfl⟩))
    (fun os started H enc _ => lifted os started H enc)

theorem proved : Rows.InterLinesSaid := over
#print axioms proved
end lines
end Go.Proofs.Ytjmcpeobncoinaa
