/- contracts of geom, further, and of the reference of chapter 07. -/
import Derived.Test.YtjmcpeobncoinaaGeoA
import Derived.Test.YtjmcpeobncoinaaPlB
namespace Go.Proofs.Ytjmcpeobncoinaa
set_option linter.unusedVariables false
open Go.RowKit

theorem right_yes {r s b d c : Int} (h : rightB r s b d c = true) (w : World) :
    Calls Try.prog 14 #[.agg #[.int .i64 r, .int .i64 s, .int .i64 b, .int .i64 d, .int .i64 c]] w fun e w' => e = .returned (.bool true) ∧ Below w.heap.size w w' := by
  have := right_any r s b d c w; rw [h] at this; exact this
theorem right_no {r s b d c : Int} (h : rightB r s b d c = false) (w : World) :
    Calls Try.prog 14 #[.agg #[.int .i64 r, .int .i64 s, .int .i64 b, .int .i64 d, .int .i64 c]] w fun e w' => e = .returned (.bool false) ∧ Below w.heap.size w w' := by
  have := right_any r s b d c w; rw [h] at this; exact this


set_option maxHeartbeats 1000000 in
theorem perRank_any (r s b d c : Int) (w : World) :
    Calls Try.prog 22 #[.agg #[.int .i64 r, .int .i64 s, .int .i64 b, .int .i64 d, .int .i64 c]] w fun e w' => e = .returned (.int .i64 (perB r s b d c)) ∧ Below w.heap.size w w' := by
  unfold perB
  cases hh : rightB r s b d c
  · have HK := Lib.hid hh
    clear hh
    go_enter Try.func22, Try.ntmps22
    go_wp2_with (go_at_call 14; refine (right_no HK.out _).mono ?_; rintro e w1 ⟨rfl, hb⟩; obtain ⟨hc, hf⟩ := bcell hb)
    go_ret
    exact ⟨rfl, below_one hb⟩
  · have HK := Lib.hid hh
    obtain ⟨a1, a2, a3, a4, a5, a6, a7, a8, a9⟩ := rightB_bd hh
    have m1 := mul_in a4 a5 a6 a7
    have m2 := mul_in m1.1 m1.2 a8 a9
    have e1 := Lib.hid (IntWalk.wrap64_in (b * d) ⟨by omega, by omega⟩)
    have e2 := Lib.hid (IntWalk.wrap64_in (b * d * c) ⟨by omega, by omega⟩)
    clear hh
    go_enter Try.func22, Try.ntmps22
    go_wp2_with (go_at_call 14; refine (right_yes HK.out _).mono ?_; rintro e w1 ⟨rfl, hb⟩; obtain ⟨hc, hf⟩ := bcell hb)
    go_ret
    exact ⟨ret_int (by first | rfl | (rw [e1.out, e2.out]; rfl)), below_one hb⟩

set_option maxHeartbeats 1000000 in
theorem pages_any (r s b d c : Int) (w : World) :
    Calls Try.prog 23 #[.agg #[.int .i64 r, .int .i64 s, .int .i64 b, .int .i64 d, .int .i64 c]] w fun e w' => e = .returned (.int .i64 (pagesB r s b d c)) ∧ Below w.heap.size w w' := by
  unfold pagesB
  cases hh : rightB r s b d c
  · have HK := Lib.hid hh
    clear hh
    go_enter Try.func23, Try.ntmps23
    go_wp2_with (go_at_call 14; refine (right_no HK.out _).mono ?_; rintro e w1 ⟨rfl, hb⟩; obtain ⟨hc, hf⟩ := bcell hb)
    go_ret
    exact ⟨rfl, below_one hb⟩
  · have HK := Lib.hid hh
    obtain ⟨a1, a2, a3, a4, a5, a6, a7, a8, a9⟩ := rightB_bd hh
    have m1 := mul_in a1 (show r ≤ 8 by omega) a4 a5
    have m2 := mul_in m1.1 m1.2 a6 a7
    have e1 := Lib.hid (IntWalk.wrap64_in (r * b) ⟨by omega, by omega⟩)
    have e2 := Lib.hid (IntWalk.wrap64_in (r * b * d) ⟨by omega, by omega⟩)
    clear hh
    go_enter Try.func23, Try.ntmps23
    go_wp2_with (go_at_call 14; refine (right_yes HK.out _).mono ?_; rintro e w1 ⟨rfl, hb⟩; obtain ⟨hc, hf⟩ := bcell hb)
    go_ret
    exact ⟨ret_int (by first | rfl | (rw [e1.out, e2.out]; rfl)), below_one hb⟩

/-- an index's place -/
def plB (i : Int) : Value := .agg #[.int .i64 (i / 1048576), .int .i64 (i / 65536 % 16), .int .i64 (i / 64 % 1024), .int .i64 (i % 64)]
def atB (r s b d c i : Int) : Bool := decide (0 ≤ i) && holdsB r s b d c (i / 1048576) (i / 65536 % 16) (i / 64 % 1024) (i % 64)

set_option maxHeartbeats 1000000 in
theorem At_any (r s b d c i : Int) (w : World) :
    Calls Try.prog 18 #[.agg #[.int .i64 r, .int .i64 s, .int .i64 b, .int .i64 d, .int .i64 c], .int .i64 i] w fun e w' => e = .returned (.tuple (bif atB r s b d c i then #[plB i, .int .i64 0] else #[.agg #[.int .i64 0, .int .i64 0, .int .i64 0, .int .i64 0], .int .i64 12])) ∧ Below w.heap.size w w' := by
  unfold atB
  by_cases h0 : 0 ≤ i
  · rw [decide_eq_true h0, Bool.true_and]
    cases hh : holdsB r s b d c (i / 1048576) (i / 65536 % 16) (i / 64 % 1024) (i % 64)
    · have hk := holds_any r s b d c (i / 1048576) (i / 65536 % 16) (i / 64 % 1024) (i % 64)
      rw [hh] at hk
      have HK := Lib.hid hk
      clear hk hh
      go_enter Try.func18, Try.ntmps18
      go_wp2_with (first
        | (go_at_call 41; refine (place_any _ _).mono ?_; rintro e w1 ⟨rfl, hb⟩; obtain ⟨hc, hf⟩ := bcell hb; obtain ⟨hz, hz1⟩ := size_two hb)
        | (go_at_call 16; refine (HK.out _).mono ?_; rintro e w2 ⟨rfl, hb2⟩; obtain ⟨hc2, hf2⟩ := bcell hb2))
      refine bodyPost_ret (v := .tuple #[.agg #[.int .i64 0, .int .i64 0, .int .i64 0, .int .i64 0], .int .i64 12]) (by simp [results, Try.results18, go_sem, hc, hc2, hz, hz1]) rfl ⟨rfl, ?_⟩
      exact (((((below_two hb).trans (below_one hb2 |>.mono (Nat.le_of_lt hz))).setCell (Nat.le_succ _) _).setCell (Nat.le_succ _) _).setCell (Nat.le_succ _) _).setCell (Nat.le_succ _) _
    · have hk := holds_any r s b d c (i / 1048576) (i / 65536 % 16) (i / 64 % 1024) (i % 64)
      rw [hh] at hk
      have HK := Lib.hid hk
      clear hk hh
      go_enter Try.func18, Try.ntmps18
      go_wp2_with (first
        | (go_at_call 41; refine (place_any _ _).mono ?_; rintro e w1 ⟨rfl, hb⟩; obtain ⟨hc, hf⟩ := bcell hb; obtain ⟨hz, hz1⟩ := size_two hb)
        | (go_at_call 16; refine (HK.out _).mono ?_; rintro e w2 ⟨rfl, hb2⟩; obtain ⟨hc2, hf2⟩ := bcell hb2))
      refine bodyPost_ret (v := .tuple #[plB i, .int .i64 0]) (by simp [results, Try.results18, go_sem, hc, hc2, hz, hz1, plB]) rfl ⟨rfl, ?_⟩
      exact (((((below_two hb).trans (below_one hb2 |>.mono (Nat.le_of_lt hz))).setCell (Nat.le_succ _) _).setCell (Nat.le_succ _) _).setCell (Nat.le_succ _) _).setCell (Nat.le_succ _) _
  · rw [decide_eq_false h0, Bool.false_and]
    go_enter Try.func18, Try.ntmps18
    go_wp2_with (go_at_call 41; refine (place_any _ _).mono ?_; rintro e w1 ⟨rfl, hb⟩; obtain ⟨hc, hf⟩ := bcell hb; obtain ⟨hz, hz1⟩ := size_two hb)
    refine bodyPost_ret (v := .tuple #[.agg #[.int .i64 0, .int .i64 0, .int .i64 0, .int .i64 0], .int .i64 12]) (by simp [results, Try.results18, go_sem, hc, hz1]) rfl ⟨rfl, ?_⟩
    exact (((((below_two hb).setCell (Nat.le_succ _) _).setCell (Nat.le_succ _) _).setCell (Nat.le_succ _) _).setCell (Nat.le_succ _) _).alloc (by simp; omega) _

/-! the reference -/
set_option maxHeartbeats 1000000 in
theorem rpower_any (n m : Int) (h0 : 0 ≤ m) (h1 : m ≤ 1024) (w : World) :
    Calls Try.prog 39 #[.int .i64 n, .int .i64 m] w fun e w' => e = .returned (.bool (pw n m)) ∧ w = w' := by
  go_enter Try.func39, Try.ntmps39
  go_wp2
  go_loop [5] (fun p => ∃ q : Int, p = .int .i64 q ∧ 1 ≤ q ∧ q ≤ 2048 ∧ PowAt n q) (fun p => (2049 - intOf p).toNat)
  case atStart => exact ⟨1, rfl, by omega, by omega, powAt_one n⟩
  case round =>
    obtain ⟨q, rfl, hq1, hq2, hp⟩ := hrel
    by_cases hlt : q ≤ m
    · by_cases he : n = q
      · subst he
        go_wp2
        go_ret
        exact ⟨ret_bool (powAt_hit hp rfl hq1 hlt h1).symm, rfl⟩
      · go_wp2
        go_round
        case rel => exact ⟨q * 2, rfl, by omega, by omega, powAt_next hp he⟩
        case measure => simp [intOf]; omega
    · go_wp2
      go_ret
      exact ⟨ret_bool (powAt_end hp (by omega)).symm, rfl⟩

set_option maxHeartbeats 1000000 in
theorem rright_any (r s b d c : Int) (w : World) :
    Calls Try.prog 15 #[.agg #[.int .i64 r, .int .i64 s, .int .i64 b, .int .i64 d, .int .i64 c]] w fun e w' => e = .returned (.bool (rightB r s b d c)) ∧ Below w.heap.size w w' := by
  go_enter Try.func15, Try.ntmps15
  go_wp2_with (go_at_call 39; refine (rpower_any _ _ (by omega) (by omega) _).mono ?_; rintro e w' ⟨rfl, rfl⟩)
  all_goals go_ret
  · rename_i h1 h2 h3 h4 h5 h6
    exact ⟨ret_bool (rightB_no fun k _ k2 _ _ _ => by rw [w8 k] at h6; omega).symm, (Below.refl _ _).alloc (Nat.le_refl _) _⟩
  · rename_i h1 h2 h3 h4 h5 h6
    exact ⟨ret_bool (rightB_ok h1 h5 (by rw [← w8 h1]; exact h6.2) h2 h3 h4), (Below.refl _ _).alloc (Nat.le_refl _) _⟩
  · rename_i h1 h2 h3 h4 h5
    exact ⟨ret_bool (rightB_no fun _ k _ _ _ _ => by omega).symm, (Below.refl _ _).alloc (Nat.le_refl _) _⟩
  · rename_i h1 h2 h3 h4
    exact ⟨ret_bool (rightB_no fun _ _ _ _ _ k => h4 k).symm, (Below.refl _ _).alloc (Nat.le_refl _) _⟩
  · rename_i h1 h2 h3
    exact ⟨ret_bool (rightB_no fun _ _ _ _ k _ => h3 k).symm, (Below.refl _ _).alloc (Nat.le_refl _) _⟩
  · rename_i h1 h2
    exact ⟨ret_bool (rightB_no fun _ _ _ k _ _ => h2 k).symm, (Below.refl _ _).alloc (Nat.le_refl _) _⟩
  · rename_i h1
    exact ⟨ret_bool (rightB_no fun k _ _ _ _ _ => h1 k).symm, (Below.refl _ _).alloc (Nat.le_refl _) _⟩

set_option maxHeartbeats 1000000 in
theorem rholds_any (r s b d c pr pb pd pc : Int) (w : World) :
    Calls Try.prog 17 #[.agg #[.int .i64 r, .int .i64 s, .int .i64 b, .int .i64 d, .int .i64 c], .agg #[.int .i64 pr, .int .i64 pb, .int .i64 pd, .int .i64 pc]] w fun e w' => e = .returned (.bool (holdsB r s b d c pr pb pd pc)) ∧ Below w.heap.size w w' := by
  go_enter Try.func17, Try.ntmps17
  go_wp2_with (go_at_call 15; refine (rright_any _ _ _ _ _ _).mono ?_; rintro e w1 ⟨rfl, hb⟩; obtain ⟨hc, hf⟩ := bcell hb)
  all_goals go_ret
  · rename_i h0 h1 h2 h3 h4
    exact ⟨ret_bool (holdsB_no fun _ k1 _ k2 _ k3 _ k4 _ => by omega).symm, below_two hb⟩
  · rename_i h0 h1 h2 h3 h4 h5 h6 h7
    rw [wrs h0] at h5
    refine ⟨ret_bool ?_, below_two hb⟩
    rw [holdsB_eq h0, bel_mk h1 h5, bel_mk h2 h6, bel_mk h3 h7]
    simp [bel, h4.2]
  · rename_i h0 h1 h2 h3 h4 h5 h6 h7
    exact ⟨ret_bool (holdsB_no fun _ k1 _ k2 _ k3 _ k4 _ => by omega).symm, below_two hb⟩
  · rename_i h0 h1 h2 h3 h4 h5 h6
    exact ⟨ret_bool (holdsB_no fun _ k1 _ k2 _ k3 _ k4 _ => by omega).symm, below_two hb⟩
  · rename_i h0 h1 h2 h3 h4 h5
    rw [wrs h0] at h5
    exact ⟨ret_bool (holdsB_no fun _ k1 _ k2 _ k3 _ k4 _ => by omega).symm, below_two hb⟩
  · exact ⟨ret_bool (holdsB_no fun _ k1 _ k2 _ k3 _ k4 _ => by omega).symm, below_two hb⟩
  · exact ⟨ret_bool (holdsB_no fun _ k1 _ k2 _ k3 _ k4 _ => by omega).symm, below_two hb⟩
  · exact ⟨ret_bool (holdsB_no fun _ k1 _ k2 _ k3 _ k4 _ => by omega).symm, below_two hb⟩
  · rename_i h0
    exact ⟨ret_bool (holdsB_right h0).symm, below_two hb⟩

set_option maxHeartbeats 1000000 in
theorem rindex_any (pr pb pd pc : Int) (h1 : 0 ≤ pr) (h2 : pr < 8) (h3 : 0 ≤ pb) (h4 : pb < 16) (h5 : 0 ≤ pd) (h6 : pd < 1024) (h7 : 0 ≤ pc) (h8 : pc < 64) (w : World) :
    Calls Try.prog 19 #[.agg #[.int .i64 pr, .int .i64 pb, .int .i64 pd, .int .i64 pc]] w fun e w' => e = .returned (.int .i64 (idx pr pb pd pc)) ∧ Below w.heap.size w w' := by
  go_enter Try.func19, Try.ntmps19
  go_wp2
  go_ret
  exact ⟨ret_int (by unfold idx; omega), (Below.refl _ _).alloc (Nat.le_refl _) _⟩

set_option maxHeartbeats 1000000 in
theorem rplace_any (i : Int) (h : 0 ≤ i) (h' : i ≤ 9223372036854775807) (w : World) :
    Calls Try.prog 20 #[.int .i64 i] w fun e w' => e = .returned (plB i) ∧ Below w.heap.size w w' := by
  go_enter Try.func20, Try.ntmps20
  go_wp2
  exact bodyPost_ret (v := plB i) (by simp [results, Try.results20, go_sem, plB]) rfl ⟨rfl, (Below.refl _ _).alloc (Nat.le_refl _) _⟩

end Go.Proofs.Ytjmcpeobncoinaa
