/- contracts of the small functions of geom. -/
import Derived.Test.YtjmcpeobncoinaaRows
import Derived.Test.YtjmcpeobncoinaaPlA
import Derived.WalkKit
import Derived.WalkSpells
import Derived.WalkLawsBesides
import Derived.BigQuiet
import Derived.Deep.QuietTactic
import Derived.Deep.DeepCutAuto
import Derived.Deep.RegionHeld3
import Derived.Lib.Hide
namespace Go.Proofs.Ytjmcpeobncoinaa
set_option linter.unusedVariables false
open Go.RowKit

theorem ret_bool {a b : Bool} (h : a = b) : Ending.returned (.bool a) = .returned (.bool b) := by rw [h]

set_option maxHeartbeats 400000 in
theorem below_any (a b : Int) (w : World) :
    Calls Try.prog 40 #[.int .i64 a, .int .i64 b] w fun e w' => e = .returned (.bool (bel a b)) ∧ w = w' := by
  by_cases h1 : 0 ≤ a
  · go_enter Try.func40, Try.ntmps40
    go_wp2
    go_ret
    exact ⟨ret_bool (by simp [bel, h1]), rfl⟩
  · go_enter Try.func40, Try.ntmps40
    go_wp2
    go_ret
    exact ⟨ret_bool (by unfold bel; rw [show decide (0 ≤ a) = false from by simp; omega]; rfl), rfl⟩

set_option maxHeartbeats 400000 in
theorem power_any (n m : Int) (h : m ≤ 1024) (w : World) :
    Calls Try.prog 38 #[.int .i64 n, .int .i64 m] w fun e w' => e = .returned (.bool (pw n m)) ∧ w = w' := by
  by_cases h1 : 1 ≤ n
  · by_cases h2 : n ≤ m
    · go_enter Try.func38, Try.ntmps38
      go_wp2
      go_ret
      exact ⟨ret_bool (pw_bits n m h1 h2 h), rfl⟩
    · go_enter Try.func38, Try.ntmps38
      go_wp2
      go_ret
      exact ⟨ret_bool (pw_no2 n m (by omega)).symm, rfl⟩
  · go_enter Try.func38, Try.ntmps38
    go_wp2
    go_ret
    exact ⟨ret_bool (pw_no1 n m (by omega)).symm, rfl⟩

theorem power_yes (n m : Int) (h : m ≤ 1024) (hp : pw n m = true) (w : World) :
    Calls Try.prog 38 #[.int .i64 n, .int .i64 m] w fun e w' => e = .returned (.bool true) ∧ w = w' := by
  have := power_any n m h w; rw [hp] at this; exact this
theorem power_no (n m : Int) (h : m ≤ 1024) (hp : pw n m = false) (w : World) :
    Calls Try.prog 38 #[.int .i64 n, .int .i64 m] w fun e w' => e = .returned (.bool false) ∧ w = w' := by
  have := power_any n m h w; rw [hp] at this; exact this

theorem bcell {W w1 : World} (hb : Below W.heap.size W w1) : (∀ b o, b < W.heap.size → w1.cell? ⟨b, o, none⟩ = W.cell? ⟨b, o, none⟩) ∧ (∀ b o, b < W.heap.size → w1.frozen? ⟨b, o, none⟩ = W.frozen? ⟨b, o, none⟩) :=
  ⟨fun b o h => hb.cell (p := ⟨b, o, none⟩) h, fun b o h => hb.frozen (p := ⟨b, o, none⟩) h⟩

theorem below_one {w w1 : World} {o : Obj} (hb : Below (w.alloc o).heap.size (w.alloc o) w1) : Below w.heap.size w w1 := ((Below.refl _ _).alloc (Nat.le_refl _) _).trans (hb.mono (by simp))
theorem below_two {w w1 : World} {o p : Obj} (hb : Below ((w.alloc o).alloc p).heap.size ((w.alloc o).alloc p) w1) : Below w.heap.size w w1 := (((Below.refl _ _).alloc (Nat.le_refl _) _).alloc (by simp) _).trans (hb.mono (by simp; omega))
theorem below_three {w w1 : World} {o p q : Obj} (hb : Below (((w.alloc o).alloc p).alloc q).heap.size (((w.alloc o).alloc p).alloc q) w1) : Below w.heap.size w w1 := ((((Below.refl _ _).alloc (Nat.le_refl _) _).alloc (by simp) _).alloc (by simp; omega) _).trans (hb.mono (by simp; omega))
theorem size_one {w w1 : World} {o : Obj} (hb : Below (w.alloc o).heap.size (w.alloc o) w1) : w.heap.size < w1.heap.size := by have := hb.size; simp at this; omega
theorem size_two {w w1 : World} {o p : Obj} (hb : Below ((w.alloc o).alloc p).heap.size ((w.alloc o).alloc p) w1) : w.heap.size < w1.heap.size ∧ w.heap.size + 1 < w1.heap.size := by have := hb.size; simp at this; omega
theorem size_three {w w1 : World} {o p q : Obj} (hb : Below (((w.alloc o).alloc p).alloc q).heap.size (((w.alloc o).alloc p).alloc q) w1) : w.heap.size < w1.heap.size ∧ w.heap.size + 1 < w1.heap.size ∧ w.heap.size + 1 + 1 < w1.heap.size := by have := hb.size; simp at this; omega
theorem below_next {w w1 w2 : World} (h : Below w.heap.size w w1) (h2 : Below w1.heap.size w1 w2) : Below w.heap.size w w2 := h.trans (h2.mono h.size)

set_option maxHeartbeats 1000000 in
theorem right_any (r s b d c : Int) (w : World) :
    Calls Try.prog 14 #[.agg #[.int .i64 r, .int .i64 s, .int .i64 b, .int .i64 d, .int .i64 c]] w fun e w' => e = .returned (.bool (rightB r s b d c)) ∧ Below w.heap.size w w' := by
  go_enter Try.func14, Try.ntmps14
  go_wp2_with (go_at_call 38; refine (power_any _ _ (by omega) _).mono ?_; rintro e w' ⟨rfl, rfl⟩)
  all_goals go_ret
  · rename_i h1 h2 h3 h4 h5 h6
    exact ⟨ret_bool (rightB_ok h1 h2 (by rw [← w8 h1]; exact h3) h4 h5 h6), (Below.refl _ _).alloc (Nat.le_refl _) _⟩
  · rename_i h1 h2 h3 h4 h5 h6
    exact ⟨ret_bool (rightB_no fun _ _ _ _ _ k => h6 k).symm, (Below.refl _ _).alloc (Nat.le_refl _) _⟩
  · rename_i h1 h2 h3 h4 h5
    exact ⟨ret_bool (rightB_no fun _ _ _ _ k _ => h5 k).symm, (Below.refl _ _).alloc (Nat.le_refl _) _⟩
  · rename_i h1 h2 h3 h4
    exact ⟨ret_bool (rightB_no fun _ _ _ k _ _ => h4 k).symm, (Below.refl _ _).alloc (Nat.le_refl _) _⟩
  · rename_i h1 h2 h3
    exact ⟨ret_bool (rightB_no fun k _ k2 _ _ _ => by rw [w8 k] at h3; omega).symm, (Below.refl _ _).alloc (Nat.le_refl _) _⟩
  · rename_i h1 h2
    exact ⟨ret_bool (rightB_no fun _ k _ _ _ _ => by omega).symm, (Below.refl _ _).alloc (Nat.le_refl _) _⟩
  · rename_i h1
    exact ⟨ret_bool (rightB_no fun k _ _ _ _ _ => h1 k).symm, (Below.refl _ _).alloc (Nat.le_refl _) _⟩

set_option maxHeartbeats 1000000 in
theorem holds_any (r s b d c pr pb pd pc : Int) (w : World) :
    Calls Try.prog 16 #[.agg #[.int .i64 r, .int .i64 s, .int .i64 b, .int .i64 d, .int .i64 c], .agg #[.int .i64 pr, .int .i64 pb, .int .i64 pd, .int .i64 pc]] w fun e w' => e = .returned (.bool (holdsB r s b d c pr pb pd pc)) ∧ Below w.heap.size w w' := by
  go_enter Try.func16, Try.ntmps16
  go_wp2_with (first
    | (go_at_call 14; refine (right_any _ _ _ _ _ _).mono ?_; rintro e w1 ⟨rfl, hb⟩; obtain ⟨hc, hf⟩ := bcell hb)
    | (go_at_call 40; refine (below_any _ _ _).mono ?_; rintro e w2 ⟨rfl, rfl⟩))
  all_goals go_ret
  · rename_i h0 h1 h2 h3
    refine ⟨ret_bool ?_, (((Below.refl _ _).alloc (Nat.le_refl _) _).alloc (by simp) _).trans (hb.mono (by simp; omega))⟩
    rw [wrs h0] at h1
    rw [holdsB_eq h0, h1, h2, h3]; rfl
  · rename_i h0 h1 h2 h3
    refine ⟨ret_bool ?_, (((Below.refl _ _).alloc (Nat.le_refl _) _).alloc (by simp) _).trans (hb.mono (by simp; omega))⟩
    rw [Bool.not_eq_true] at h3
    rw [holdsB_eq h0, h3]; simp
  · rename_i h0 h1 h2
    refine ⟨ret_bool ?_, (((Below.refl _ _).alloc (Nat.le_refl _) _).alloc (by simp) _).trans (hb.mono (by simp; omega))⟩
    rw [Bool.not_eq_true] at h2
    rw [holdsB_eq h0, h2]; simp
  · rename_i h0 h1
    refine ⟨ret_bool ?_, (((Below.refl _ _).alloc (Nat.le_refl _) _).alloc (by simp) _).trans (hb.mono (by simp; omega))⟩
    rw [Bool.not_eq_true, wrs h0] at h1
    rw [holdsB_eq h0, h1]; simp
  · rename_i h0
    exact ⟨ret_bool (holdsB_right h0).symm, (((Below.refl _ _).alloc (Nat.le_refl _) _).alloc (by simp) _).trans (hb.mono (by simp; omega))⟩

theorem ret_int {k : IntKind} {a b : Int} (h : a = b) : Ending.returned (.int k a) = .returned (.int k b) := by rw [h]
set_option maxHeartbeats 1000000 in
theorem index_any (pr pb pd pc : Int) (h1 : 0 ≤ pr) (h2 : pr < 8) (h3 : 0 ≤ pb) (h4 : pb < 16) (h5 : 0 ≤ pd) (h6 : pd < 1024) (h7 : 0 ≤ pc) (h8 : pc < 64) (w : World) :
    Calls Try.prog 37 #[.agg #[.int .i64 pr, .int .i64 pb, .int .i64 pd, .int .i64 pc]] w fun e w' => e = .returned (.int .i64 (idx pr pb pd pc)) ∧ Below w.heap.size w w' := by
  go_enter Try.func37, Try.ntmps37
  go_wp2
  go_ret
  exact ⟨ret_int (idx_bits h1 h2 h3 h4 h5 h6 h7 h8), (Below.refl _ _).alloc (Nat.le_refl _) _⟩

set_option maxHeartbeats 1000000 in
theorem place_any (i : Int) (w : World) :
    Calls Try.prog 41 #[.int .i64 i] w fun e w' => e = .returned (.agg #[.int .i64 (i / 1048576), .int .i64 (i / 65536 % 16), .int .i64 (i / 64 % 1024), .int .i64 (i % 64)]) ∧ Below w.heap.size w w' := by
  go_enter Try.func41, Try.ntmps41
  go_wp2
  rw [band15, band1023, band63]
  exact bodyPost_ret (v := .agg #[.int .i64 (i / 1048576), .int .i64 (i / 65536 % 16), .int .i64 (i / 64 % 1024), .int .i64 (i % 64)]) (by simp [results, Try.results41, go_sem]) rfl ⟨rfl, (Below.refl _ _).alloc (Nat.le_refl _) _⟩

set_option maxHeartbeats 1000000 in
theorem Index_any (r s b d c pr pb pd pc : Int) (w : World) :
    Calls Try.prog 13 #[.agg #[.int .i64 r, .int .i64 s, .int .i64 b, .int .i64 d, .int .i64 c], .agg #[.int .i64 pr, .int .i64 pb, .int .i64 pd, .int .i64 pc]] w fun e w' => e = .returned (.tuple (bif holdsB r s b d c pr pb pd pc then #[.int .i64 (idx pr pb pd pc), .int .i64 0] else #[.int .i64 0, .int .i64 12])) ∧ Below w.heap.size w w' := by
  cases hh : holdsB r s b d c pr pb pd pc
  · have hk := holds_any r s b d c pr pb pd pc
    rw [hh] at hk
    have HK := Lib.hid hk
    clear hk hh
    go_enter Try.func13, Try.ntmps13
    go_wp2_with (go_at_call 16; refine (HK.out _).mono ?_; rintro e w1 ⟨rfl, hb⟩; obtain ⟨hc, hf⟩ := bcell hb)
    go_ret2
    exact ⟨rfl, (((Below.refl _ _).alloc (Nat.le_refl _) _).alloc (by simp) _).trans (hb.mono (by simp; omega))⟩
  · have hk := holds_any r s b d c pr pb pd pc
    rw [hh] at hk
    have HK := Lib.hid hk
    obtain ⟨h1, h2, h3, h4, h5, h6, h7, h8⟩ := holdsB_bd hh
    clear hk hh
    go_enter Try.func13, Try.ntmps13
    go_wp2_with (first
      | (go_at_call 16; refine (HK.out _).mono ?_; rintro e w1 ⟨rfl, hb⟩; obtain ⟨hc, hf⟩ := bcell hb)
      | (go_at_call 37; refine (index_any _ _ _ _ h1 h2 h3 h4 h5 h6 h7 h8 _).mono ?_; rintro e w2 ⟨rfl, hb2⟩))
    go_ret2
    exact ⟨rfl, below_next (below_two hb) hb2⟩

end Go.Proofs.Ytjmcpeobncoinaa
