/- the document's Merge; Full. -/
import Derived.Test.YtifpldennoocmaaPlW
import Derived.Test.YtifpldennoocmaaFl
namespace Go.Proofs.Ytifpldennoocmaa
set_option linter.unusedVariables false
open Go.RowKit Go.Shelf

theorem ret_int {a b : Int} (h : a = b) : Ending.returned (.int .i64 a) = Ending.returned (.int .i64 b) := by rw [h]

set_option maxHeartbeats 1000000 in
theorem weight_any (x : Nat) (hx : x < 2 ^ 64) (w : World) :
    Calls Try.prog 23 #[.int .u64 x] w fun e w' => e = .returned (.int .i64 (popc x : Nat)) ∧ w = w' := by
  have hle := popc_le x
  generalize hP : popc x = P at *
  have HP0 := Lib.hid hP
  clear hP
  go_enter Try.func23, Try.ntmps23
  go_wp2
  go_loop [0, 3] (fun p n => ∃ m k : Nat, p = .int .u64 m ∧ n = .int .i64 k ∧ m < 18446744073709551616 ∧ k + popc m = P) (fun p _ => (intOf p).toNat)
  case atStart => exact ⟨x, 0, rfl, rfl, hx, by have := HP0.out; omega⟩
  case round =>
    obtain ⟨m, k, rfl, rfl, hm, hk⟩ := hrel
    by_cases h0 : m = 0
    · subst h0
      rw [popc_zero] at hk
      have HK := Lib.hid hk
      clear hk
      go_wp2
      go_ret
      exact ⟨ret_int (by have := HK.out; omega), rfl⟩
    · have hp := popc_kern (n := m) (by omega) (by omega)
      have hd : m &&& (m - 1) ≤ m - 1 := Nat.and_le_right
      have hb := band64_nat m (m - 1) (by omega) (by omega)
      have hc : ((m : Int) - 1) = ((m - 1 : Nat) : Int) := by omega
      have hn0 : ((m : Int) == 0) = false := by simp; omega
      have hm1 : 1 ≤ m := by omega
      have hk64 : k ≤ 64 := by omega
      have HH : Hid (k + popc m = P) := hk
      have HP : Hid (popc (m &&& (m - 1)) + 1 = popc m) := hp
      have HB : Hid (bits .and .u64 (m : Int) ((m : Int) - 1) = ((m &&& (m - 1) : Nat) : Int)) := by show _ = _; rw [hc]; exact hb
      clear hk hp hb hc h0
      go_wp2
      go_round
      case rel => exact ⟨m &&& (m - 1), k + 1, by rw [HB.out], by go_num, by omega, by have := HH.out; have := HP.out; omega⟩
      case measure => rw [HB.out]; simp [intOf]; omega

set_option maxHeartbeats 1000000 in
theorem full_any (x : Nat) (hx : x < 2 ^ 64) (w : World) :
    Calls Try.prog 10 #[.int .u64 x] w fun e w' => e = .returned (.bool (decide (x = 18446744073709551615))) ∧ w = w' := by
  have he : (((popc x : Nat) : Int) == 64) = decide (x = 18446744073709551615) := by
    rw [Bool.eq_iff_iff]
    simp only [beq_iff_eq, decide_eq_true_eq]
    rw [← popc_full hx]
    omega
  have HE := Lib.hid he
  clear he
  go_enter Try.func10, Try.ntmps10
  go_wp2_with (go_at_call 23; refine (weight_any x hx _).mono ?_; rintro e w' ⟨rfl, rfl⟩)
  go_ret
  rw [HE.out]
  exact ⟨rfl, rfl⟩

set_option maxHeartbeats 1000000 in
theorem rbit_any (x : Nat) (hx : x < 2 ^ 64) (i : Nat) (hi : i < 64) (w : World) :
    Calls Try.prog 22 #[.int .u64 x, .int .i64 i] w fun e w' => e = .returned (.int .i64 ((x / 2 ^ i % 2 : Nat) : Int)) ∧ w = w' := by
  go_enter Try.func22, Try.ntmps22
  go_wp2
  go_loop [0, 5] (fun p n => ∃ k : Nat, p = .int .u64 ((x / 2 ^ k : Nat) : Int) ∧ n = .int .i64 k ∧ k ≤ i) (fun _ n => i - (intOf n).toNat)
  case atStart => exact ⟨0, by simp, rfl, Nat.zero_le _⟩
  case round =>
    obtain ⟨k, rfl, rfl, hk⟩ := hrel
    have hd : x / 2 ^ k ≤ x := Nat.div_le_self _ _
    have hnx := half_next x k
    generalize hq : x / 2 ^ k = q at *
    by_cases hlt : k < i
    · have hkI : (k : Int) < i := by omega
      have HN := Lib.hid hnx
      have hlt0 := hlt
      clear hnx hq
      go_wp2
      go_round
      case rel => exact ⟨k + 1, by rw [← HN.out]; go_num, by go_num, by omega⟩
      case measure => simp [intOf]; omega
    · have : k = i := by omega
      subst this
      have HQ := Lib.hid hq
      clear hq hnx
      go_wp2
      go_ret
      exact ⟨(ret_int (a := (q : Int) % 2) (by rw [← HQ.out]; simp)), rfl⟩

def RmPost (w : World) (a b : List Int) (x : Nat) (e : Ending) (w' : World) : Prop := e = .returned (.agg (ivs .u8 (mg a b x))) ∧ Below w.heap.size w w'
def RmI (w : World) (a b : List Int) (x k : Nat) (W : World) : Prop :=
  W.heap[w.heap.size]? = some (.cells (ivs .u8 (mgTo a b x k)) 22 (0, 0)) ∧ W.heap[w.heap.size + 1]? = some (.cells (ivs .u8 b) 22 (0, 0)) ∧
    W.heap[w.heap.size + 1 + 1]? = some (.cells (ivs .u8 (List.replicate 64 0)) 22 (0, 0)) ∧ Below w.heap.size w W

attribute [local simp] ld_row st_row
attribute [local go_sem] run_storeCells_one
set_option maxHeartbeats 4000000 in
theorem rmerge_any (a b : List Int) (ha : a.length = 64) (hb : b.length = 64) (x : Nat) (hx : x < 2 ^ 64) (w : World) :
    Calls Try.prog 9 #[.agg (ivs .u8 a), .agg (ivs .u8 b), .int .u64 x] w (RmPost w a b x) := by
  have HA := Lib.hid ha
  have HB := Lib.hid hb
  have HX := Lib.hid hx
  clear ha hb hx
  go_enter Try.func9, Try.ntmps9
  go_wp2_with fail
  rw [zeros64]
  obtain ⟨w0, hw0⟩ : ∃ w0, w0 = ((w.alloc (.cells (ivs .u8 a) 22)).alloc (.cells (ivs .u8 b) 22)).alloc (.cells (ivs .u8 (List.replicate 64 0)) 22) := ⟨_, rfl⟩
  have h0 : RmI w a b x 0 w0 := by
    rw [hw0]
    refine ⟨?_, ?_, ?_, (((Below.refl _ _).alloc (Nat.le_refl _) _).alloc (by simp) _).alloc (by simp; omega) _⟩
    · rw [heap_alloc_old _ _ _ (by simp; omega), heap_alloc_old _ _ _ (by simp), heap_alloc_new, mgTo_zero]
    · rw [heap_alloc_old _ _ _ (by simp), heap_alloc2_new]
    · have := heap_alloc_new ((w.alloc (.cells (ivs .u8 a) 22)).alloc (.cells (ivs .u8 b) 22)) (.cells (ivs .u8 (List.replicate 64 0)) 22)
      simpa only [World.size_alloc] using this
  rw [← hw0]
  clear hw0
  go_loopw [7] (fun i wr => ∃ k : Nat, k ≤ 64 ∧ i = .int .i64 k ∧ RmI w a b x k wr) (fun i _ => 64 - (intOf i).toNat)
  case atStart => exact ⟨0, by omega, rfl, h0⟩
  case round =>
    obtain ⟨k, hk, rfl, r1, r2, r3, r4⟩ := hrel
    by_cases hlt : k < 64
    · have hkI : (k : Int) < 64 := by omega
      have hlt0 := hlt
      have e1 := rbit_any x HX.out k hlt
      have m1 := ivs_cell wr _ k _ 22 r1 (by rw [mgTo_len, HA.out]; exact hlt)
      have m2 := ivs_cell wr _ k _ 22 r2 (by rw [HB.out]; exact hlt)
      have f1 := frozen_of_row wr _ k _ 22 r1
      have R := Lib.hid (And.intro r1 (And.intro r2 (And.intro r3 r4)))
      have hbt : bitOf x k = decide (x / 2 ^ k % 2 = 1) := rfl
      clear r1 r2 r3 r4
      generalize hbv : x / 2 ^ k % 2 = bv at *
      have hbv2 : bv < 2 := by omega
      clear hbv
      by_cases h1 : bv = 1
      · subst h1
        have HT : Hid (bitOf x k = true) := by show _ = _; rw [hbt]; rfl
        clear hbt
        go_wp2_with (go_at_call 22; refine (e1 _).mono ?_; rintro e w' ⟨rfl, rfl⟩)
        go_roundw
        case rel =>
          obtain ⟨r1, r2, r3, r4⟩ := R.out
          refine ⟨k + 1, by omega, by go_num, ?_, (heap_setCell_other _ _ _ _ (by show _ ≠ w.heap.size; omega)).trans r2, (heap_setCell_other _ _ _ _ (by show _ ≠ w.heap.size; omega)).trans r3, r4.setCell (Nat.le_refl _) _⟩
          rw [mgTo_succ, HT.out, if_pos rfl, ← ivs_set]
          exact heap_setCell_same _ _ _ _ _ _ r1
        case measure => simp [intOf]; omega
      · have : bv = 0 := by omega
        subst this
        have HT : Hid (bitOf x k = false) := by show _ = _; rw [hbt]; rfl
        clear hbt h1
        go_wp2_with (go_at_call 22; refine (e1 _).mono ?_; rintro e w' ⟨rfl, rfl⟩)
        go_roundw
        case rel =>
          obtain ⟨r1, r2, r3, r4⟩ := R.out
          refine ⟨k + 1, by omega, by go_num, ?_, r2, r3, r4⟩
          rw [mgTo_succ, HT.out]
          exact r1
        case measure => simp [intOf]; omega
    · have : k = 64 := by omega
      subst this
      rw [mgTo_all] at r1
      obtain ⟨lx, hlx⟩ : ∃ lx, lx = mg a b x := ⟨_, rfl⟩
      have hl : lx.length = 64 := by rw [hlx, mg_len, HA.out]
      rw [← hlx] at r1
      have HX := Lib.hid hlx
      have L := run_loadFrom_row (P := Try.prog) wr _ _ 22 (0, 0) r1 64 (by rw [ivs_size, hl])
      have S := run_storeRow (P := Try.prog) wr _ _ (ivs .u8 lx) 22 r3 (by rw [ivs_size, ivs_size, hl]; simp) (ivs_one _ _)
      have r5 := setRow_heap wr _ _ (ivs .u8 lx) 22 (0, 0) r3
      have hz : (ivs .u8 lx).size = 64 := by rw [ivs_size, hl]
      have R := Lib.hid r4
      clear r1 r2 r3 r4 hlx hl
      go_wp2_with fail
      refine bodyPost_ret (results_cell_row (P := Try.prog) rfl _ _ (w.heap.size + 1 + 1) 22 (ivs .u8 lx) (0, 0) (.array 64 5) rfl r5 (by kernel_rfl) rfl (by rw [hz]; kernel_rfl)) rfl ?_
      exact ⟨by rw [HX.out], below_setRow R.out (by omega) _⟩
end Go.Proofs.Ytifpldennoocmaa
