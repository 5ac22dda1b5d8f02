/- A geometry may be just if the document says so; any place has its index, and any index its place, just if the geometry has it: for every geometry, place and index. No condition. -/
import Derived.Test.YtjmcpeobncoinaaGeoC
import Derived.Test.YtjmcpeobncoinaaFr
import Derived.Test.YtjmcpeobncoinaaQb
namespace Go.Proofs.Ytjmcpeobncoinaa
open Go.ChangeShapes Go.WideShapes Go.ChangeAt Go.RowKit
namespace places

theorem holds_is {r s b d c pr pb pd pc : Int} {x : Bool} (h : holdsB r s b d c pr pb pd pc = x) (w : World) :
    Calls Try.prog 16 #[.agg #[.int .i64 r, .int .i64 s, .int .i64 b, .int .i64 d, .int .i64 c], .agg #[.int .i64 pr, .int .i64 pb, .int .i64 pd, .int .i64 pc]] w fun e w' => e = .returned (.bool x) ∧ Below w.heap.size w w' := by
  have := holds_any r s b d c pr pb pd pc w; rw [h] at this; exact this
theorem rholds_is {r s b d c pr pb pd pc : Int} {x : Bool} (h : holdsB r s b d c pr pb pd pc = x) (w : World) :
    Calls Try.prog 17 #[.agg #[.int .i64 r, .int .i64 s, .int .i64 b, .int .i64 d, .int .i64 c], .agg #[.int .i64 pr, .int .i64 pb, .int .i64 pd, .int .i64 pc]] w fun e w' => e = .returned (.bool x) ∧ Below w.heap.size w w' := by
  have := rholds_any r s b d c pr pb pd pc w; rw [h] at this; exact this

theorem atB_idx {r s b d c pr pb pd pc : Int} (h : holdsB r s b d c pr pb pd pc = true) : atB r s b d c (idx pr pb pd pc) = true ∧ plB (idx pr pb pd pc) = .agg #[.int .i64 pr, .int .i64 pb, .int .i64 pd, .int .i64 pc] := by
  obtain ⟨h1, h2, h3, h4, h5, h6, h7, h8⟩ := holdsB_bd h
  obtain ⟨e1, e2, e3, e4⟩ := idx_div h1 h3 h4 h5 h6 h7 h8
  have e0 : 0 ≤ idx pr pb pd pc := by unfold idx; omega
  unfold atB plB
  rw [e1, e2, e3, e4, decide_eq_true e0, h]
  exact ⟨rfl, rfl⟩

/-- what the calls answer where the index is there -/
theorem there {r s b d c i : Int} (h : atB r s b d c i = true) (hi : In64 i) : ∃ a0 a1 a2 a3 : Int,
    (∀ w, Calls Try.prog 18 #[.agg #[.int .i64 r, .int .i64 s, .int .i64 b, .int .i64 d, .int .i64 c], .int .i64 i] w fun e w' => e = .returned (.tuple #[.agg #[.int .i64 a0, .int .i64 a1, .int .i64 a2, .int .i64 a3], .int .i64 0]) ∧ Below w.heap.size w w') ∧
    (∀ w, Calls Try.prog 13 #[.agg #[.int .i64 r, .int .i64 s, .int .i64 b, .int .i64 d, .int .i64 c], .agg #[.int .i64 a0, .int .i64 a1, .int .i64 a2, .int .i64 a3]] w fun e w' => e = .returned (.tuple #[.int .i64 i, .int .i64 0]) ∧ Below w.heap.size w w') ∧
    (∀ w, Calls Try.prog 20 #[.int .i64 i] w fun e w' => e = .returned (.agg #[.int .i64 a0, .int .i64 a1, .int .i64 a2, .int .i64 a3]) ∧ Below w.heap.size w w') := by
  refine ⟨i / 1048576, i / 65536 % 16, i / 64 % 1024, i % 64, fun w => ?_, fun w => ?_, fun w => ?_⟩
  · have := At_any r s b d c i w; rw [h] at this; exact this
  · unfold atB at h
    rw [Bool.and_eq_true] at h
    have := Index_yes h.2 w
    rw [idx_place] at this
    exact this
  · unfold atB at h
    rw [Bool.and_eq_true, decide_eq_true_eq] at h
    exact rplace_any i h.1 hi.2 w
/-- .. and where it is not -/
theorem off {r s b d c i : Int} (h : atB r s b d c i = false) (w : World) :
    Calls Try.prog 18 #[.agg #[.int .i64 r, .int .i64 s, .int .i64 b, .int .i64 d, .int .i64 c], .int .i64 i] w fun e w' => e = .returned (.tuple #[.agg #[.int .i64 0, .int .i64 0, .int .i64 0, .int .i64 0], .int .i64 12]) ∧ Below w.heap.size w w' := by
  have := At_any r s b d c i w; rw [h] at this; exact this
theorem offr {r s b d c i : Int} (h : atB r s b d c i = false) (h0 : 0 ≤ i) (hi : In64 i) : ∃ a0 a1 a2 a3 : Int,
    (∀ w, Calls Try.prog 20 #[.int .i64 i] w fun e w' => e = .returned (.agg #[.int .i64 a0, .int .i64 a1, .int .i64 a2, .int .i64 a3]) ∧ Below w.heap.size w w') ∧ (∀ w, Calls Try.prog 17 #[.agg #[.int .i64 r, .int .i64 s, .int .i64 b, .int .i64 d, .int .i64 c], .agg #[.int .i64 a0, .int .i64 a1, .int .i64 a2, .int .i64 a3]] w fun e w' => e = .returned (.bool false) ∧ Below w.heap.size w w') := by
  refine ⟨i / 1048576, i / 65536 % 16, i / 64 % 1024, i % 64, fun w => rplace_any i h0 hi.2 w, fun w => ?_⟩
  unfold atB at h
  rw [decide_eq_true h0, Bool.true_and] at h
  exact rholds_is h w

set_option maxHeartbeats 2000000 in
theorem w_true_yes (r s b d c pr pb pd pc i : Int) (w : World) (hi : In64 i) (hh : holdsB r s b d c pr pb pd pc = true) (hA : atB r s b d c i = true) :
    Calls Try.prog 4 #[.agg #[.int .i64 r, .int .i64 s, .int .i64 b, .int .i64 d, .int .i64 c], .agg #[.int .i64 pr, .int .i64 pb, .int .i64 pd, .int .i64 pc], .int .i64 i] w fun e w' => e = .returned (.bool true) ∧ Below w.heap.size w w' := by
  have H := Lib.hid hh
  have HI := Lib.hid (Index_yes hh)
  obtain ⟨h1, h2, h3, h4, h5, h6, h7, h8⟩ := holdsB_bd hh
  have HX := Lib.hid (rindex_any pr pb pd pc h1 h2 h3 h4 h5 h6 h7 h8)
  have HT := Lib.hid (show ∀ w, Calls Try.prog 18 #[.agg #[.int .i64 r, .int .i64 s, .int .i64 b, .int .i64 d, .int .i64 c], .int .i64 (idx pr pb pd pc)] w fun e w' => e = .returned (.tuple #[.agg #[.int .i64 pr, .int .i64 pb, .int .i64 pd, .int .i64 pc], .int .i64 0]) ∧ Below w.heap.size w w' from fun w => by
    have := At_any r s b d c (idx pr pb pd pc) w; rw [(atB_idx hh).1, (atB_idx hh).2] at this; exact this)
  clear h1 h2 h3 h4 h5 h6 h7 h8
  obtain ⟨a0, a1, a2, a3, t1, t2, t3⟩ := there hA hi
  have T1 := Lib.hid t1
  have T2 := Lib.hid t2
  have T3 := Lib.hid t3
  clear t1 t2 t3 hA hi hh
  go_enter Try.func4, Try.ntmps4
  go_wp2_with fail
  refine (anchor_any _).mono ?_; rintro e w1 ⟨rfl, hb⟩; obtain ⟨hc, hf⟩ := bcell hb; obtain ⟨hz, hz'⟩ := size_two hb
  go_wp2_with fail
  refine (HI.out _).mono ?_; rintro e w2 ⟨rfl, hb2⟩; obtain ⟨hc2, hf2⟩ := bcell hb2; have hz2 := size_one hb2; have hy2 := Nat.lt_trans hz hz2; have hy2' := Nat.lt_trans hz' hz2
  go_wp2_with fail
  refine wp_region_keeps (by kernel_rfl) (by kernel_rfl) ?_
  repeat (first
      | (refine wpQuiet_step (fun K hK => ?_); go_simp; refine hK _ ?_; clear hK K)
      | (refine wpQuiet_step (fun K hK => ?_); go_simp
         apply Exists.intro
         refine ⟨fun w' hw' => ?_, hK _ ?_⟩
         focus
           obtain ⟨hcq, hfq⟩ := hw'.cells
           go_simp
           first
             | rfl
             | (go_at_call 14; exact hw'.call (right_any r s b d c _))
             | (go_at_call 15; exact hw'.call (rright_any r s b d c _))
             | (go_at_call 16; exact hw'.call (holds_is H.out _))
             | (go_at_call 17; exact hw'.call (rholds_is H.out _))
         clear hK K))
  refine wpQuiet_nil ?_
  intro w3 hw3
  obtain ⟨hc3, hf3⟩ := hw3.cells; have hz3 := Nat.lt_of_lt_of_le hz2 (Below.size hw3); have hy3 := Nat.lt_of_lt_of_le hy2 (Below.size hw3); have hy3' := Nat.lt_of_lt_of_le hy2' (Below.size hw3)
  go_wp2_with fail
  refine (rholds_is H.out _).mono ?_; rintro e w4 ⟨rfl, hb4⟩; obtain ⟨hc4, hf4⟩ := bcell hb4; have hz4 := Nat.lt_of_lt_of_le hz3 hb4.size; have hy4 := Nat.lt_of_lt_of_le hy3 hb4.size; have hy4' := Nat.lt_of_lt_of_le hy3' hb4.size
  go_wp2_with fail
  refine (HT.out _).mono ?_; rintro e w5 ⟨rfl, hb5⟩; obtain ⟨hc5, hf5⟩ := bcell hb5; have hz5 := Nat.lt_of_lt_of_le hz4 hb5.size; have hy5 := Nat.lt_of_lt_of_le hy4 hb5.size; have hy5' := Nat.lt_of_lt_of_le hy4' hb5.size
  go_wp2_with fail
  refine (HX.out _).mono ?_; rintro e w6 ⟨rfl, hb6⟩; obtain ⟨hc6, hf6⟩ := bcell hb6; have hx6 := size_one hb6; have hz6 := Nat.lt_trans hz5 hx6; have hy6 := Nat.lt_trans hy5 hx6; have hy6' := Nat.lt_trans hy5' hx6
  go_wp2_with fail
  refine (T1.out _).mono ?_; rintro e w7 ⟨rfl, hb7⟩; obtain ⟨hc7, hf7⟩ := bcell hb7; have hz7 := Nat.lt_of_lt_of_le hz6 hb7.size; have hy7 := Nat.lt_of_lt_of_le hy6 hb7.size; have hy7' := Nat.lt_of_lt_of_le hy6' hb7.size
  go_wp2_with fail
  refine (T2.out _).mono ?_; rintro e w8 ⟨rfl, hb8⟩; obtain ⟨hc8, hf8⟩ := bcell hb8; have hx8 := size_one hb8; have hz8 := Nat.lt_trans hz7 hx8; have hy8 := Nat.lt_trans hy7 hx8; have hy8' := Nat.lt_trans hy7' hx8
  go_wp2_with fail
  refine wp_region_keeps (by kernel_rfl) (by kernel_rfl) ?_
  repeat (first
      | (refine wpQuiet_step (fun K hK => ?_); go_simp; refine hK _ ?_; clear hK K)
      | (refine wpQuiet_step (fun K hK => ?_); go_simp
         apply Exists.intro
         refine ⟨fun w' hw' => ?_, hK _ ?_⟩
         focus
           obtain ⟨hcq, hfq⟩ := hw'.cells
           go_simp
           first
             | rfl
             | (go_at_call 20; exact hw'.call (T3.out _))
         clear hK K))
  refine wpQuiet_nil ?_
  intro w9 hw9
  go_wp2_with fail
  go_ret
  exact ⟨rfl, below_next (below_next (below_next (below_next (below_next (below_next (below_next (below_next (below_two hb) (below_one hb2)) hw3) hb4) hb5) (below_one hb6)) hb7) (below_one hb8)) hw9⟩

set_option maxHeartbeats 2000000 in
theorem w_true_neg (r s b d c pr pb pd pc i : Int) (w : World) (hi : In64 i) (hh : holdsB r s b d c pr pb pd pc = true) (hA : atB r s b d c i = false) (hneg : i < 0) :
    Calls Try.prog 4 #[.agg #[.int .i64 r, .int .i64 s, .int .i64 b, .int .i64 d, .int .i64 c], .agg #[.int .i64 pr, .int .i64 pb, .int .i64 pd, .int .i64 pc], .int .i64 i] w fun e w' => e = .returned (.bool true) ∧ Below w.heap.size w w' := by
  have H := Lib.hid hh
  have HI := Lib.hid (Index_yes hh)
  obtain ⟨h1, h2, h3, h4, h5, h6, h7, h8⟩ := holdsB_bd hh
  have HX := Lib.hid (rindex_any pr pb pd pc h1 h2 h3 h4 h5 h6 h7 h8)
  have HT := Lib.hid (show ∀ w, Calls Try.prog 18 #[.agg #[.int .i64 r, .int .i64 s, .int .i64 b, .int .i64 d, .int .i64 c], .int .i64 (idx pr pb pd pc)] w fun e w' => e = .returned (.tuple #[.agg #[.int .i64 pr, .int .i64 pb, .int .i64 pd, .int .i64 pc], .int .i64 0]) ∧ Below w.heap.size w w' from fun w => by
    have := At_any r s b d c (idx pr pb pd pc) w; rw [(atB_idx hh).1, (atB_idx hh).2] at this; exact this)
  clear h1 h2 h3 h4 h5 h6 h7 h8
  have T1 := Lib.hid (off hA)
  clear hA hi hh
  go_enter Try.func4, Try.ntmps4
  go_wp2_with fail
  refine (anchor_any _).mono ?_; rintro e w1 ⟨rfl, hb⟩; obtain ⟨hc, hf⟩ := bcell hb; obtain ⟨hz, hz'⟩ := size_two hb
  go_wp2_with fail
  refine (HI.out _).mono ?_; rintro e w2 ⟨rfl, hb2⟩; obtain ⟨hc2, hf2⟩ := bcell hb2; have hz2 := size_one hb2; have hy2 := Nat.lt_trans hz hz2; have hy2' := Nat.lt_trans hz' hz2
  go_wp2_with fail
  refine wp_region_keeps (by kernel_rfl) (by kernel_rfl) ?_
  repeat (first
      | (refine wpQuiet_step (fun K hK => ?_); go_simp; refine hK _ ?_; clear hK K)
      | (refine wpQuiet_step (fun K hK => ?_); go_simp
         apply Exists.intro
         refine ⟨fun w' hw' => ?_, hK _ ?_⟩
         focus
           obtain ⟨hcq, hfq⟩ := hw'.cells
           go_simp
           first
             | rfl
             | (go_at_call 14; exact hw'.call (right_any r s b d c _))
             | (go_at_call 15; exact hw'.call (rright_any r s b d c _))
             | (go_at_call 16; exact hw'.call (holds_is H.out _))
             | (go_at_call 17; exact hw'.call (rholds_is H.out _))
         clear hK K))
  refine wpQuiet_nil ?_
  intro w3 hw3
  obtain ⟨hc3, hf3⟩ := hw3.cells; have hz3 := Nat.lt_of_lt_of_le hz2 (Below.size hw3); have hy3 := Nat.lt_of_lt_of_le hy2 (Below.size hw3); have hy3' := Nat.lt_of_lt_of_le hy2' (Below.size hw3)
  go_wp2_with fail
  refine (rholds_is H.out _).mono ?_; rintro e w4 ⟨rfl, hb4⟩; obtain ⟨hc4, hf4⟩ := bcell hb4; have hz4 := Nat.lt_of_lt_of_le hz3 hb4.size; have hy4 := Nat.lt_of_lt_of_le hy3 hb4.size; have hy4' := Nat.lt_of_lt_of_le hy3' hb4.size
  go_wp2_with fail
  refine (HT.out _).mono ?_; rintro e w5 ⟨rfl, hb5⟩; obtain ⟨hc5, hf5⟩ := bcell hb5; have hz5 := Nat.lt_of_lt_of_le hz4 hb5.size; have hy5 := Nat.lt_of_lt_of_le hy4 hb5.size; have hy5' := Nat.lt_of_lt_of_le hy4' hb5.size
  go_wp2_with fail
  refine (HX.out _).mono ?_; rintro e w6 ⟨rfl, hb6⟩; obtain ⟨hc6, hf6⟩ := bcell hb6; have hx6 := size_one hb6; have hz6 := Nat.lt_trans hz5 hx6; have hy6 := Nat.lt_trans hy5 hx6; have hy6' := Nat.lt_trans hy5' hx6
  go_wp2_with fail
  refine (T1.out _).mono ?_; rintro e w7 ⟨rfl, hb7⟩; obtain ⟨hc7, hf7⟩ := bcell hb7; have hz7 := Nat.lt_of_lt_of_le hz6 hb7.size; have hy7 := Nat.lt_of_lt_of_le hy6 hb7.size; have hy7' := Nat.lt_of_lt_of_le hy6' hb7.size
  go_wp2_with fail
  refine wp_region_keeps (by kernel_rfl) (by kernel_rfl) ?_
  repeat (first
      | (refine wpQuiet_step (fun K hK => ?_); go_simp; refine hK _ ?_; clear hK K)
      | (refine wpQuiet_step (fun K hK => ?_); go_simp
         apply Exists.intro
         refine ⟨fun w' hw' => ?_, hK _ ?_⟩
         focus
           obtain ⟨hcq, hfq⟩ := hw'.cells
           go_simp
           first
             | rfl
         clear hK K))
  refine wpQuiet_nil ?_
  intro w9 hw9
  go_wp2_with fail
  go_ret
  exact ⟨rfl, below_next (below_next (below_next (below_next (below_next (below_next (below_next (below_two hb) (below_one hb2)) hw3) hb4) hb5) (below_one hb6)) hb7) (below_one hw9)⟩

set_option maxHeartbeats 2000000 in
theorem w_true_off (r s b d c pr pb pd pc i : Int) (w : World) (hi : In64 i) (hh : holdsB r s b d c pr pb pd pc = true) (hA : atB r s b d c i = false) (hpos : 0 ≤ i) :
    Calls Try.prog 4 #[.agg #[.int .i64 r, .int .i64 s, .int .i64 b, .int .i64 d, .int .i64 c], .agg #[.int .i64 pr, .int .i64 pb, .int .i64 pd, .int .i64 pc], .int .i64 i] w fun e w' => e = .returned (.bool true) ∧ Below w.heap.size w w' := by
  have H := Lib.hid hh
  have HI := Lib.hid (Index_yes hh)
  obtain ⟨h1, h2, h3, h4, h5, h6, h7, h8⟩ := holdsB_bd hh
  have HX := Lib.hid (rindex_any pr pb pd pc h1 h2 h3 h4 h5 h6 h7 h8)
  have HT := Lib.hid (show ∀ w, Calls Try.prog 18 #[.agg #[.int .i64 r, .int .i64 s, .int .i64 b, .int .i64 d, .int .i64 c], .int .i64 (idx pr pb pd pc)] w fun e w' => e = .returned (.tuple #[.agg #[.int .i64 pr, .int .i64 pb, .int .i64 pd, .int .i64 pc], .int .i64 0]) ∧ Below w.heap.size w w' from fun w => by
    have := At_any r s b d c (idx pr pb pd pc) w; rw [(atB_idx hh).1, (atB_idx hh).2] at this; exact this)
  clear h1 h2 h3 h4 h5 h6 h7 h8
  have T1 := Lib.hid (off hA)
  obtain ⟨a0, a1, a2, a3, t2, t3⟩ := offr hA hpos hi
  have T2 := Lib.hid t2
  have T3 := Lib.hid t3
  clear t2 t3 hA hi hh
  go_enter Try.func4, Try.ntmps4
  go_wp2_with fail
  refine (anchor_any _).mono ?_; rintro e w1 ⟨rfl, hb⟩; obtain ⟨hc, hf⟩ := bcell hb; obtain ⟨hz, hz'⟩ := size_two hb
  go_wp2_with fail
  refine (HI.out _).mono ?_; rintro e w2 ⟨rfl, hb2⟩; obtain ⟨hc2, hf2⟩ := bcell hb2; have hz2 := size_one hb2; have hy2 := Nat.lt_trans hz hz2; have hy2' := Nat.lt_trans hz' hz2
  go_wp2_with fail
  refine wp_region_keeps (by kernel_rfl) (by kernel_rfl) ?_
  repeat (first
      | (refine wpQuiet_step (fun K hK => ?_); go_simp; refine hK _ ?_; clear hK K)
      | (refine wpQuiet_step (fun K hK => ?_); go_simp
         apply Exists.intro
         refine ⟨fun w' hw' => ?_, hK _ ?_⟩
         focus
           obtain ⟨hcq, hfq⟩ := hw'.cells
           go_simp
           first
             | rfl
             | (go_at_call 14; exact hw'.call (right_any r s b d c _))
             | (go_at_call 15; exact hw'.call (rright_any r s b d c _))
             | (go_at_call 16; exact hw'.call (holds_is H.out _))
             | (go_at_call 17; exact hw'.call (rholds_is H.out _))
         clear hK K))
  refine wpQuiet_nil ?_
  intro w3 hw3
  obtain ⟨hc3, hf3⟩ := hw3.cells; have hz3 := Nat.lt_of_lt_of_le hz2 (Below.size hw3); have hy3 := Nat.lt_of_lt_of_le hy2 (Below.size hw3); have hy3' := Nat.lt_of_lt_of_le hy2' (Below.size hw3)
  go_wp2_with fail
  refine (rholds_is H.out _).mono ?_; rintro e w4 ⟨rfl, hb4⟩; obtain ⟨hc4, hf4⟩ := bcell hb4; have hz4 := Nat.lt_of_lt_of_le hz3 hb4.size; have hy4 := Nat.lt_of_lt_of_le hy3 hb4.size; have hy4' := Nat.lt_of_lt_of_le hy3' hb4.size
  go_wp2_with fail
  refine (HT.out _).mono ?_; rintro e w5 ⟨rfl, hb5⟩; obtain ⟨hc5, hf5⟩ := bcell hb5; have hz5 := Nat.lt_of_lt_of_le hz4 hb5.size; have hy5 := Nat.lt_of_lt_of_le hy4 hb5.size; have hy5' := Nat.lt_of_lt_of_le hy4' hb5.size
  go_wp2_with fail
  refine (HX.out _).mono ?_; rintro e w6 ⟨rfl, hb6⟩; obtain ⟨hc6, hf6⟩ := bcell hb6; have hx6 := size_one hb6; have hz6 := Nat.lt_trans hz5 hx6; have hy6 := Nat.lt_trans hy5 hx6; have hy6' := Nat.lt_trans hy5' hx6
  go_wp2_with fail
  refine (T1.out _).mono ?_; rintro e w7 ⟨rfl, hb7⟩; obtain ⟨hc7, hf7⟩ := bcell hb7; have hz7 := Nat.lt_of_lt_of_le hz6 hb7.size; have hy7 := Nat.lt_of_lt_of_le hy6 hb7.size; have hy7' := Nat.lt_of_lt_of_le hy6' hb7.size
  go_wp2_with fail
  refine wp_region_keeps (by kernel_rfl) (by kernel_rfl) ?_
  repeat (first
      | (refine wpQuiet_step (fun K hK => ?_); go_simp; refine hK _ ?_; clear hK K)
      | (refine wpQuiet_step (fun K hK => ?_); go_simp
         apply Exists.intro
         refine ⟨fun w' hw' => ?_, hK _ ?_⟩
         focus
           obtain ⟨hcq, hfq⟩ := hw'.cells
           go_simp
           first
             | rfl
             | (go_at_call 20; exact hw'.call (T2.out _))
             | (go_at_call 17; exact hw'.call (T3.out _))
         clear hK K))
  refine wpQuiet_nil ?_
  intro w9 hw9
  go_wp2_with fail
  go_ret
  exact ⟨rfl, below_next (below_next (below_next (below_next (below_next (below_next (below_next (below_two hb) (below_one hb2)) hw3) hb4) hb5) (below_one hb6)) hb7) (below_one hw9)⟩

set_option maxHeartbeats 2000000 in
theorem w_false_yes (r s b d c pr pb pd pc i : Int) (w : World) (hi : In64 i) (hh : holdsB r s b d c pr pb pd pc = false) (hA : atB r s b d c i = true) :
    Calls Try.prog 4 #[.agg #[.int .i64 r, .int .i64 s, .int .i64 b, .int .i64 d, .int .i64 c], .agg #[.int .i64 pr, .int .i64 pb, .int .i64 pd, .int .i64 pc], .int .i64 i] w fun e w' => e = .returned (.bool true) ∧ Below w.heap.size w w' := by
  have H := Lib.hid hh
  have HI := Lib.hid (Index_no hh)
  obtain ⟨a0, a1, a2, a3, t1, t2, t3⟩ := there hA hi
  have T1 := Lib.hid t1
  have T2 := Lib.hid t2
  have T3 := Lib.hid t3
  clear t1 t2 t3 hA hi hh
  go_enter Try.func4, Try.ntmps4
  go_wp2_with fail
  refine (anchor_any _).mono ?_; rintro e w1 ⟨rfl, hb⟩; obtain ⟨hc, hf⟩ := bcell hb; obtain ⟨hz, hz'⟩ := size_two hb
  go_wp2_with fail
  refine (HI.out _).mono ?_; rintro e w2 ⟨rfl, hb2⟩; obtain ⟨hc2, hf2⟩ := bcell hb2; have hz2 := size_one hb2; have hy2 := Nat.lt_trans hz hz2; have hy2' := Nat.lt_trans hz' hz2
  go_wp2_with fail
  refine wp_region_keeps (by kernel_rfl) (by kernel_rfl) ?_
  repeat (first
      | (refine wpQuiet_step (fun K hK => ?_); go_simp; refine hK _ ?_; clear hK K)
      | (refine wpQuiet_step (fun K hK => ?_); go_simp
         apply Exists.intro
         refine ⟨fun w' hw' => ?_, hK _ ?_⟩
         focus
           obtain ⟨hcq, hfq⟩ := hw'.cells
           go_simp
           first
             | rfl
             | (go_at_call 14; exact hw'.call (right_any r s b d c _))
             | (go_at_call 15; exact hw'.call (rright_any r s b d c _))
             | (go_at_call 16; exact hw'.call (holds_is H.out _))
             | (go_at_call 17; exact hw'.call (rholds_is H.out _))
         clear hK K))
  refine wpQuiet_nil ?_
  intro w3 hw3
  obtain ⟨hc3, hf3⟩ := hw3.cells; have hz3 := Nat.lt_of_lt_of_le hz2 (Below.size hw3); have hy3 := Nat.lt_of_lt_of_le hy2 (Below.size hw3); have hy3' := Nat.lt_of_lt_of_le hy2' (Below.size hw3)
  go_wp2_with fail
  refine (rholds_is H.out _).mono ?_; rintro e w4 ⟨rfl, hb4⟩; obtain ⟨hc4, hf4⟩ := bcell hb4; have hz4 := Nat.lt_of_lt_of_le hz3 hb4.size; have hy4 := Nat.lt_of_lt_of_le hy3 hb4.size; have hy4' := Nat.lt_of_lt_of_le hy3' hb4.size
  go_wp2_with fail
  refine (T1.out _).mono ?_; rintro e w7 ⟨rfl, hb7⟩; obtain ⟨hc7, hf7⟩ := bcell hb7; have hz7 := Nat.lt_of_lt_of_le hz4 hb7.size; have hy7 := Nat.lt_of_lt_of_le hy4 hb7.size; have hy7' := Nat.lt_of_lt_of_le hy4' hb7.size
  go_wp2_with fail
  refine (T2.out _).mono ?_; rintro e w8 ⟨rfl, hb8⟩; obtain ⟨hc8, hf8⟩ := bcell hb8; have hx8 := size_one hb8; have hz8 := Nat.lt_trans hz7 hx8; have hy8 := Nat.lt_trans hy7 hx8; have hy8' := Nat.lt_trans hy7' hx8
  go_wp2_with fail
  refine wp_region_keeps (by kernel_rfl) (by kernel_rfl) ?_
  repeat (first
      | (refine wpQuiet_step (fun K hK => ?_); go_simp; refine hK _ ?_; clear hK K)
      | (refine wpQuiet_step (fun K hK => ?_); go_simp
         apply Exists.intro
         refine ⟨fun w' hw' => ?_, hK _ ?_⟩
         focus
           obtain ⟨hcq, hfq⟩ := hw'.cells
           go_simp
           first
             | rfl
             | (go_at_call 20; exact hw'.call (T3.out _))
         clear hK K))
  refine wpQuiet_nil ?_
  intro w9 hw9
  go_wp2_with fail
  go_ret
  exact ⟨rfl, below_next (below_next (below_next (below_next (below_next (below_next (below_two hb) (below_one hb2)) hw3) hb4) hb7) (below_one hb8)) hw9⟩

set_option maxHeartbeats 2000000 in
theorem w_false_neg (r s b d c pr pb pd pc i : Int) (w : World) (hi : In64 i) (hh : holdsB r s b d c pr pb pd pc = false) (hA : atB r s b d c i = false) (hneg : i < 0) :
    Calls Try.prog 4 #[.agg #[.int .i64 r, .int .i64 s, .int .i64 b, .int .i64 d, .int .i64 c], .agg #[.int .i64 pr, .int .i64 pb, .int .i64 pd, .int .i64 pc], .int .i64 i] w fun e w' => e = .returned (.bool true) ∧ Below w.heap.size w w' := by
  have H := Lib.hid hh
  have HI := Lib.hid (Index_no hh)
  have T1 := Lib.hid (off hA)
  clear hA hi hh
  go_enter Try.func4, Try.ntmps4
  go_wp2_with fail
  refine (anchor_any _).mono ?_; rintro e w1 ⟨rfl, hb⟩; obtain ⟨hc, hf⟩ := bcell hb; obtain ⟨hz, hz'⟩ := size_two hb
  go_wp2_with fail
  refine (HI.out _).mono ?_; rintro e w2 ⟨rfl, hb2⟩; obtain ⟨hc2, hf2⟩ := bcell hb2; have hz2 := size_one hb2; have hy2 := Nat.lt_trans hz hz2; have hy2' := Nat.lt_trans hz' hz2
  go_wp2_with fail
  refine wp_region_keeps (by kernel_rfl) (by kernel_rfl) ?_
  repeat (first
      | (refine wpQuiet_step (fun K hK => ?_); go_simp; refine hK _ ?_; clear hK K)
      | (refine wpQuiet_step (fun K hK => ?_); go_simp
         apply Exists.intro
         refine ⟨fun w' hw' => ?_, hK _ ?_⟩
         focus
           obtain ⟨hcq, hfq⟩ := hw'.cells
           go_simp
           first
             | rfl
             | (go_at_call 14; exact hw'.call (right_any r s b d c _))
             | (go_at_call 15; exact hw'.call (rright_any r s b d c _))
             | (go_at_call 16; exact hw'.call (holds_is H.out _))
             | (go_at_call 17; exact hw'.call (rholds_is H.out _))
         clear hK K))
  refine wpQuiet_nil ?_
  intro w3 hw3
  obtain ⟨hc3, hf3⟩ := hw3.cells; have hz3 := Nat.lt_of_lt_of_le hz2 (Below.size hw3); have hy3 := Nat.lt_of_lt_of_le hy2 (Below.size hw3); have hy3' := Nat.lt_of_lt_of_le hy2' (Below.size hw3)
  go_wp2_with fail
  refine (rholds_is H.out _).mono ?_; rintro e w4 ⟨rfl, hb4⟩; obtain ⟨hc4, hf4⟩ := bcell hb4; have hz4 := Nat.lt_of_lt_of_le hz3 hb4.size; have hy4 := Nat.lt_of_lt_of_le hy3 hb4.size; have hy4' := Nat.lt_of_lt_of_le hy3' hb4.size
  go_wp2_with fail
  refine (T1.out _).mono ?_; rintro e w7 ⟨rfl, hb7⟩; obtain ⟨hc7, hf7⟩ := bcell hb7; have hz7 := Nat.lt_of_lt_of_le hz4 hb7.size; have hy7 := Nat.lt_of_lt_of_le hy4 hb7.size; have hy7' := Nat.lt_of_lt_of_le hy4' hb7.size
  go_wp2_with fail
  refine wp_region_keeps (by kernel_rfl) (by kernel_rfl) ?_
  repeat (first
      | (refine wpQuiet_step (fun K hK => ?_); go_simp; refine hK _ ?_; clear hK K)
      | (refine wpQuiet_step (fun K hK => ?_); go_simp
         apply Exists.intro
         refine ⟨fun w' hw' => ?_, hK _ ?_⟩
         focus
           obtain ⟨hcq, hfq⟩ := hw'.cells
           go_simp
           first
             | rfl
         clear hK K))
  refine wpQuiet_nil ?_
  intro w9 hw9
  go_wp2_with fail
  go_ret
  exact ⟨rfl, below_next (below_next (below_next (below_next (below_next (below_two hb) (below_one hb2)) hw3) hb4) hb7) (below_one hw9)⟩

set_option maxHeartbeats 2000000 in
theorem w_false_off (r s b d c pr pb pd pc i : Int) (w : World) (hi : In64 i) (hh : holdsB r s b d c pr pb pd pc = false) (hA : atB r s b d c i = false) (hpos : 0 ≤ i) :
    Calls Try.prog 4 #[.agg #[.int .i64 r, .int .i64 s, .int .i64 b, .int .i64 d, .int .i64 c], .agg #[.int .i64 pr, .int .i64 pb, .int .i64 pd, .int .i64 pc], .int .i64 i] w fun e w' => e = .returned (.bool true) ∧ Below w.heap.size w w' := by
  have H := Lib.hid hh
  have HI := Lib.hid (Index_no hh)
  have T1 := Lib.hid (off hA)
  obtain ⟨a0, a1, a2, a3, t2, t3⟩ := offr hA hpos hi
  have T2 := Lib.hid t2
  have T3 := Lib.hid t3
  clear t2 t3 hA hi hh
  go_enter Try.func4, Try.ntmps4
  go_wp2_with fail
  refine (anchor_any _).mono ?_; rintro e w1 ⟨rfl, hb⟩; obtain ⟨hc, hf⟩ := bcell hb; obtain ⟨hz, hz'⟩ := size_two hb
  go_wp2_with fail
  refine (HI.out _).mono ?_; rintro e w2 ⟨rfl, hb2⟩; obtain ⟨hc2, hf2⟩ := bcell hb2; have hz2 := size_one hb2; have hy2 := Nat.lt_trans hz hz2; have hy2' := Nat.lt_trans hz' hz2
  go_wp2_with fail
  refine wp_region_keeps (by kernel_rfl) (by kernel_rfl) ?_
  repeat (first
      | (refine wpQuiet_step (fun K hK => ?_); go_simp; refine hK _ ?_; clear hK K)
      | (refine wpQuiet_step (fun K hK => ?_); go_simp
         apply Exists.intro
         refine ⟨fun w' hw' => ?_, hK _ ?_⟩
         focus
           obtain ⟨hcq, hfq⟩ := hw'.cells
           go_simp
           first
             | rfl
             | (go_at_call 14; exact hw'.call (right_any r s b d c _))
             | (go_at_call 15; exact hw'.call (rright_any r s b d c _))
             | (go_at_call 16; exact hw'.call (holds_is H.out _))
             | (go_at_call 17; exact hw'.call (rholds_is H.out _))
         clear hK K))
  refine wpQuiet_nil ?_
  intro w3 hw3
  obtain ⟨hc3, hf3⟩ := hw3.cells; have hz3 := Nat.lt_of_lt_of_le hz2 (Below.size hw3); have hy3 := Nat.lt_of_lt_of_le hy2 (Below.size hw3); have hy3' := Nat.lt_of_lt_of_le hy2' (Below.size hw3)
  go_wp2_with fail
  refine (rholds_is H.out _).mono ?_; rintro e w4 ⟨rfl, hb4⟩; obtain ⟨hc4, hf4⟩ := bcell hb4; have hz4 := Nat.lt_of_lt_of_le hz3 hb4.size; have hy4 := Nat.lt_of_lt_of_le hy3 hb4.size; have hy4' := Nat.lt_of_lt_of_le hy3' hb4.size
  go_wp2_with fail
  refine (T1.out _).mono ?_; rintro e w7 ⟨rfl, hb7⟩; obtain ⟨hc7, hf7⟩ := bcell hb7; have hz7 := Nat.lt_of_lt_of_le hz4 hb7.size; have hy7 := Nat.lt_of_lt_of_le hy4 hb7.size; have hy7' := Nat.lt_of_lt_of_le hy4' hb7.size
  go_wp2_with fail
  refine wp_region_keeps (by kernel_rfl) (by kernel_rfl) ?_
  repeat (first
      | (refine wpQuiet_step (fun K hK => ?_); go_simp; refine hK _ ?_; clear hK K)
      | (refine wpQuiet_step (fun K hK => ?_); go_simp
         apply Exists.intro
         refine ⟨fun w' hw' => ?_, hK _ ?_⟩
         focus
           obtain ⟨hcq, hfq⟩ := hw'.cells
           go_simp
           first
             | rfl
             | (go_at_call 20; exact hw'.call (T2.out _))
             | (go_at_call 17; exact hw'.call (T3.out _))
         clear hK K))
  refine wpQuiet_nil ?_
  intro w9 hw9
  go_wp2_with fail
  go_ret
  exact ⟨rfl, below_next (below_next (below_next (below_next (below_next (below_two hb) (below_one hb2)) hw3) hb4) hb7) (below_one hw9)⟩

theorem walk (r s b d c pr pb pd pc i : Int) (hi : In64 i) (w : World) :
    Calls Try.prog 4 #[.agg #[.int .i64 r, .int .i64 s, .int .i64 b, .int .i64 d, .int .i64 c], .agg #[.int .i64 pr, .int .i64 pb, .int .i64 pd, .int .i64 pc], .int .i64 i] w fun e w' => e = .returned (.bool true) ∧ Below w.heap.size w w' := by
  cases hh : holdsB r s b d c pr pb pd pc <;> cases hA : atB r s b d c i
  · by_cases h0 : 0 ≤ i
    · exact w_false_off r s b d c pr pb pd pc i w hi hh hA h0
    · exact w_false_neg r s b d c pr pb pd pc i w hi hh hA (by omega)
  · exact w_false_yes r s b d c pr pb pd pc i w hi hh hA
  · by_cases h0 : 0 ≤ i
    · exact w_true_off r s b d c pr pb pd pc i w hi hh hA h0
    · exact w_true_neg r s b d c pr pb pd pc i w hi hh hA (by omega)
  · exact w_true_yes r s b d c pr pb pd pc i w hi hh hA

set_option maxRecDepth 100000 in
theorem lifted (os : Os) (started : os.Started) (H : Type) (enc : TypeId × Value → H) :
    ReturnsInHanded {} Try.checked os 4 .any (Rows.geomPlacesSpec.pre6 enc Try.prog Try.f4 Rows.geomPlacesRow.domain false) (Rows.geomPlacesSpec.post enc Try.prog Try.f4 false true false false) := by
  refine returnsInHanded_of_change (C := Try.checked) own started (by kernel_rfl) Try.func4
    (ChangeSpec.witness6 (enc := enc) (C := Try.checked) false ⟨#[], #[.agg #[.int .i64 0, .int .i64 0, .int .i64 0, .int .i64 0, .int .i64 0], .agg #[.int .i64 0, .int .i64 0, .int .i64 0, .int .i64 0], .int .i64 0], []⟩ 8 (by kernel_rfl) (by kernel_rfl) (by kernel_rfl) (by kernel_rfl)) ?_
  intro W base args ds gs before hval0 hW hcnd _
  have hval : ∀ (j : Nat) t v, Try.f4.params[j]? = some t → args[j]? = some v → Value.okWide Try.prog W .any base t v := hval0
  have hW' := hW
  obtain ⟨p, q, hA0, hV, rfl, hfz, hnd⟩ := hW
  have hA : DataW.TrodAll enc Try.prog W 0 (fun _ => true) true Try.f4.params.toList args.toList ds p := hA0
  rw [Try.params4] at hA hval
  obtain ⟨v0, vs0, d0, ds0, p0, q0, hargs, rfl, rfl, h0, r0⟩ := trodAll_cons hA
  obtain ⟨v1, vs1, d1, ds1, p1, q1, rfl, rfl, rfl, h1, r1⟩ := trodAll_cons r0
  obtain ⟨v2, vs2, d2, ds2, p2, q2, rfl, rfl, rfl, h2, r2⟩ := trodAll_cons r1
  obtain ⟨rfl, rfl, rfl⟩ := trodAll_nil r2
  obtain rfl : args = #[v0, v1, v2] := by cases args; simp_all
  obtain ⟨rfl, rfl⟩ := trodVars_none hV
  have k0 := h0
  have lt0 : ∀ x ∈ p0, x.block < W.heap.size := by obtain ⟨m, hm⟩ := k0; exact DataW.trod_lt m _ _ _ hm
  have k1 := h1
  have lt1 : ∀ x ∈ p1, x.block < W.heap.size := by obtain ⟨m, hm⟩ := k1; exact DataW.trod_lt m _ _ _ hm
  have k2 := h2
  have lt2 : ∀ x ∈ p2, x.block < W.heap.size := by obtain ⟨m, hm⟩ := k2; exact DataW.trod_lt m _ _ _ hm
  obtain ⟨g0, g1, g2, g3, g4, rfl, _, _, _, _, _⟩ := open_geom (hval 0 23 v0 rfl rfl) h0
  obtain ⟨s0, s1, s2, s3, rfl, _, _, _, _⟩ := open_place (hval 1 25 v1 rfl rfl) h1
  obtain ⟨i, rfl, bi⟩ := open_num (hval 2 3 v2 rfl rfl) h2
  clear hA0 hval0
  refine (walk g0 g1 g2 g3 g4 s0 s1 s2 s3 i bi W).mono fun e W' ⟨he, bel⟩ => ?_
  subst he
  exact ⟨_, rfl, _, _, _, [], _, [], hW', trodAll_mk1 (shut_bool Try.underlying4 _), (trodAll_cons_mk (Below.trod laidOut (by kernel_rfl) (of_decide_eq_true (by kernel_rfl)) k0 bel lt0) (trodAll_cons_mk (Below.trod laidOut (by kernel_rfl) (of_decide_eq_true (by kernel_rfl)) k1 bel lt1) (trodAll_cons_mk (Below.trod laidOut (by kernel_rfl) (of_decide_eq_true (by kernel_rfl)) k2 bel lt2) trodAll_mk0))), rfl, bel.frame _, fun h => by cases h⟩

theorem over : Rows.geomPlacesRow.holds Try.pinned (OpenSpec.ofChange Rows.geomPlacesSpec) :=
  OpenClaim.holds_of_wide 4 Try.f4 rfl rfl rfl rfl rfl rfl rfl ⟨rfl, rfl, rfl, rfl, rfl⟩ rfl rfl rfl rfl rfl (by kernel_rfl) Try.func4 (by kernel_rfl)
    (of_decide_eq_true (by kernel_rfl)) (by unfold Func.isWrapper; first | (rw [if_pos (by decide +kernel)]; kernel_rfl) | (rw [if_neg (by decide +kernel)]; exact ⟨rfl, rfl⟩))
    (fun os started H enc _ => lifted os started H enc)

theorem proved : Rows.GeomPlacesSaid := over
#print axioms proved
end places
end Go.Proofs.Ytjmcpeobncoinaa
