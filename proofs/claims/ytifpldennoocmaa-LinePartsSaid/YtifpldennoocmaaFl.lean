/- line.Fill, the anchor. -/
import Derived.Test.YtifpldennoocmaaHx
namespace Go.Proofs.Ytifpldennoocmaa
set_option linter.unusedVariables false
open Go.RowKit Go.Shelf

def fillF (k : Nat) (x : Int) : List Int := List.replicate k x ++ List.replicate (64 - k) 0
theorem fillF_len (k : Nat) (x : Int) (h : k ≤ 64) : (fillF k x).length = 64 := by unfold fillF; simp; omega
theorem fillF_set (k : Nat) (x : Int) (h : k < 64) : (fillF k x).set k x = fillF (k + 1) x := by
  unfold fillF
  rw [List.set_append_right _ _ (by simp), List.length_replicate, Nat.sub_self, show 64 - k = (64 - (k + 1)) + 1 from by omega, List.replicate_succ, List.set_cons_zero, List.replicate_succ', List.append_assoc]
  rfl
theorem fillF_full (x : Int) : fillF 64 x = List.replicate 64 x := by unfold fillF; simp

def FillPost (w : World) (x : Int) (e : Ending) (w' : World) : Prop := e = .returned (.agg (ivs .u8 (List.replicate 64 x))) ∧ Below w.heap.size w w'

def FlI (w : World) (x : Int) (k : Nat) (W : World) : Prop :=
  W.heap[w.heap.size]? = some (.cells (ivs .u8 (List.replicate 64 0)) 23 (0, 0)) ∧ W.heap[w.heap.size + 1]? = some (.cells (ivs .u8 (fillF k x)) 23 (0, 0)) ∧ Below w.heap.size w W

attribute [local simp] ld_row st_row
attribute [local go_sem] run_storeCells_one
set_option maxHeartbeats 4000000 in
theorem fill_any (x : Int) (w : World) : Calls Try.prog 20 #[.int .u8 x] w (FillPost w x) := by
  go_enter Try.func20, Try.ntmps20
  go_wp2_with fail
  rw [zeros64]
  obtain ⟨w0, hw0⟩ : ∃ w0, w0 = (w.alloc (.cells (ivs .u8 (List.replicate 64 0)) 23)).alloc (.cells (ivs .u8 (List.replicate 64 0)) 23) := ⟨_, rfl⟩
  have h0 : FlI w x 0 w0 := by
    rw [hw0]
    exact ⟨heap_alloc2_old _ _ _, heap_alloc2_new _ _ _, ((Below.refl _ _).alloc (Nat.le_refl _) _).alloc (by simp) _⟩
  rw [← hw0]
  clear hw0
  go_loopw [5] (fun i wr => ∃ k : Nat, k ≤ 64 ∧ i = .int .i64 k ∧ FlI w x k wr) (fun i _ => 64 - (intOf i).toNat)
  case atStart => exact ⟨0, by omega, rfl, h0⟩
  case round =>
    obtain ⟨k, hk, rfl, r1, r2, r3⟩ := hrel
    by_cases hlt : k < 64
    · have hkI : (k : Int) < 64 := by omega
      have m1 : ∃ v, wr.cell? ⟨w.heap.size + 1, k, none⟩ = some v := ⟨_, ivs_cell wr _ k _ 23 r2 (by rw [fillF_len _ _ hk]; exact hlt)⟩
      obtain ⟨v, m1⟩ := m1
      have f1 := frozen_of_row wr _ k _ 23 r2
      have R := Lib.hid (And.intro r1 (And.intro r2 r3))
      have hlt0 := hlt
      clear r1 r2 r3
      go_wp2_with fail
      go_roundw
      case rel =>
        obtain ⟨r1, r2, r3⟩ := R.out
        refine ⟨k + 1, by omega, by go_num, (heap_setCell_other _ _ _ _ (by show w.heap.size ≠ w.heap.size + 1; omega)).trans r1, ?_, r3.setCell (by show w.heap.size ≤ w.heap.size + 1; omega) _⟩
        rw [← fillF_set _ _ hlt0, ← ivs_set]
        exact heap_setCell_same _ _ _ _ _ _ r2
      case measure => simp [intOf]; omega
    · have : k = 64 := by omega
      subst this
      rw [fillF_full] at r2
      obtain ⟨lx, hlx⟩ : ∃ lx, lx = List.replicate 64 x := ⟨_, rfl⟩
      have hl : lx.length = 64 := by rw [hlx]; simp
      rw [← hlx] at r2
      have HX := Lib.hid hlx
      have L := run_loadFrom_row (P := Try.prog) wr _ _ 23 (0, 0) r2 64 (by rw [ivs_size, hl])
      have S := run_storeRow (P := Try.prog) wr _ _ (ivs .u8 lx) 23 r1 (by rw [ivs_size, ivs_size, hl]; simp) (ivs_one _ _)
      have r5 := setRow_heap wr _ _ (ivs .u8 lx) 23 (0, 0) r1
      have hz : (ivs .u8 lx).size = 64 := by rw [ivs_size, hl]
      have R := Lib.hid r3
      clear r1 r2 r3 hlx hl
      go_wp2_with fail
      refine bodyPost_ret (results_cell_row (P := Try.prog) rfl _ _ w.heap.size 23 (ivs .u8 lx) (0, 0) (.array 64 5) rfl r5 (by kernel_rfl) rfl (by rw [hz]; kernel_rfl)) rfl ?_
      exact ⟨by rw [HX.out], below_setRow R.out (Nat.le_refl _) _⟩
end Go.Proofs.Ytifpldennoocmaa
