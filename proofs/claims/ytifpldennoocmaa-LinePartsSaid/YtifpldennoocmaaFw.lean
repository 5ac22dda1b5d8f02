/- a line out of its words. -/
import Derived.Test.YtifpldennoocmaaWd
import Derived.Test.YtifpldennoocmaaRd
namespace Go.Proofs.Ytifpldennoocmaa
set_option linter.unusedVariables false
open Go.RowKit Go.Shelf

theorem info24 : ∃ i, Try.prog.info? 24 = some i ∧ i.size = 1 := by
  have h : (Try.prog.info? 24).map (fun i => i.size) = some 1 := by kernel_rfl
  cases e : Try.prog.info? 24 with
  | none => rw [e] at h; cases h
  | some i => rw [e] at h; exact ⟨i, rfl, Option.some.inj h⟩
def FwI (w : World) (ws : List Int) (j : Nat) (W : World) : Prop :=
  W.heap[w.heap.size + 1]? = some (.cells (ivs .u8 (List.replicate 64 0)) 23 (0, 0)) ∧ W.heap[w.heap.size + 1 + 1]? = some (.cells (ivs .u8 (upTo (ofW ws) 64 j)) 23 (0, 0)) ∧ Below w.heap.size w W
def FwPost (w : World) (ws : List Int) (e : Ending) (w' : World) : Prop := e = .returned (.agg (ivs .u8 ((List.range 64).map (ofW ws)))) ∧ Below w.heap.size w w'

attribute [local simp] ld_row st_row
attribute [local go_sem] run_storeCells_one
set_option maxHeartbeats 4000000 in
theorem fromw_any (ws : List Int) (hw : ws.length = 8) (hb : ∀ k, k < 8 → ∃ n : Nat, ws.getD k 0 = (n : Int) ∧ n < 2 ^ 64) (w : World) :
    Calls Try.prog 18 #[.agg (ivs .u64 ws)] w (FwPost w ws) := by
  obtain ⟨i0, hi, hi1⟩ := info24
  have HW := Lib.hid hw
  have HB := Lib.hid hb
  have L0 := fun (W : World) (h : Keeps (w.alloc (.cells (ivs .u64 ws) 39)) W) => run_loadFrom_row (P := Try.prog) W _ _ 39 (0, 0) (old_at h (heap_alloc_new w _)) 8 (by rw [ivs_size, hw])
  clear hw hb
  have L1 := L0 (((w.alloc (.cells (ivs .u64 ws) 39)).alloc (.cells (ivs .u8 (List.replicate 64 0)) 23)).alloc (.cells (ivs .u8 (List.replicate 64 0)) 23)) (((Below.refl _ _).alloc (Nat.le_refl _) _).alloc (by simp) _)
  rw [← zeros64] at L1
  clear L0
  go_enter Try.func18, Try.ntmps18
  go_wp2_with fail
  rw [zeros64]
  obtain ⟨w0, hw0⟩ : ∃ w0, w0 = ((w.alloc (.cells (ivs .u64 ws) 39)).alloc (.cells (ivs .u8 (List.replicate 64 0)) 23)).alloc (.cells (ivs .u8 (List.replicate 64 0)) 23) := ⟨_, rfl⟩
  have h0 : FwI w ws 0 w0 := by
    rw [hw0]
    refine ⟨?_, ?_, (((Below.refl _ _).alloc (Nat.le_refl _) _).alloc (by simp) _).alloc (by simp; omega) _⟩
    · rw [hao _ _ _ (by simp)]; exact han _ _ _ (by simp)
    · rw [upTo_zero]; exact han _ _ _ (by simp)
  rw [← hw0]
  clear hw0 L1
  go_loopw [8] (fun i wr => ∃ k : Nat, k ≤ 8 ∧ i = .int .i64 k ∧ FwI w ws (8 * k) wr) (fun i _ => 8 - (intOf i).toNat)
  case atStart => exact ⟨0, by omega, rfl, h0⟩
  case round =>
    obtain ⟨k, hk, rfl, hF⟩ := hrel
    by_cases hlt : k < 8
    · obtain ⟨n, hn, hn64⟩ := HB.out k hlt
      have hcell : (Instr.index 39 (.agg (ivs .u64 ws)) (.int .i64 (k : Nat))).run Try.prog wr = .ok (.int .u64 (n : Nat)) wr := by rw [← hn]; exact run_index_ints (n := 8) Try.underlying39 Try.underlying24 hi hi1 ws HW.out k hlt wr
      have hkI : (k : Int) < 8 := by omega
      have HN := Lib.hid (And.intro hn hlt)
      have HF := Lib.hid hF
      clear hn hlt hF
      go_wp2_with fail
      go_loopw [12] (fun i wq => ∃ j : Nat, j ≤ 8 ∧ i = .int .i64 j ∧ FwI w ws (8 * k + j) wq) (fun i _ => 8 - (intOf i).toNat)
      case atStart => exact ⟨0, by omega, rfl, HF.out⟩
      case round =>
        obtain ⟨j, hj, rfl, hG⟩ := hrel
        by_cases hjl : j < 8
        · have hjI : (j : Int) < 8 := by omega
          obtain ⟨r1, r2, r3⟩ := hG
          have m1 := ivs_cell wr _ (8 * k + j) _ 23 r2 (by rw [upTo_len]; have := HN.out.2; omega)
          have f1 := frozen_of_row wr _ (8 * k + j) _ 23 r2
          generalize (upTo (ofW ws) 64 (8 * k + j)).getD (8 * k + j) 0 = old at *
          have R := Lib.hid (And.intro r1 (And.intro r2 (And.intro r3 hjl)))
          clear r1 r2 r3 hjl
          go_wp2_with fail
          go_roundw
          case rel =>
            obtain ⟨r1, r2, r3, hjl⟩ := R.out
            have hv : ((n : Int) / 2 ^ (8 * j) % 256) = ofW ws (8 * k + j) := by
              unfold ofW
              rw [show (8 * k + j) / 8 = k from by omega, show (8 * k + j) % 8 = j from by omega, HN.out.1, Int.toNat_natCast]
              have e2 : (2 : Int) ^ (8 * j) = ((256 ^ j : Nat) : Int) := by rw [Int.pow_mul]; simp
              rw [e2]; simp
            rw [hv]
            refine ⟨j + 1, by omega, by go_num, (heap_setCell_other _ _ _ _ (by show _ ≠ w.heap.size + 1 + 1; omega)).trans r1, ?_, r3.setCell (by show _ ≤ w.heap.size + 1 + 1; omega) _⟩
            rw [← Nat.add_assoc, ← upTo_set _ _ _ (by have := HN.out.2; omega), ← ivs_set]
            exact heap_setCell_same _ _ _ _ _ _ r2
          case measure => simp [intOf]; omega
        · have : j = 8 := by omega
          subst this
          have HG := Lib.hid hG
          have hkk := Lib.hid HN.out.2
          clear hG
          go_wp2_with fail
          go_roundw
          case rel => exact ⟨k + 1, by have := hkk.out; omega, by go_num, by rw [Nat.mul_add]; exact HG.out⟩
          case measure => have := hkk.out; simp [intOf]; omega
    · have : k = 8 := by omega
      subst this
      obtain ⟨r1, r2, r4⟩ := hF
      obtain ⟨lx, hlx⟩ : ∃ lx, lx = (List.range 64).map (ofW ws) := ⟨_, rfl⟩
      have hl : lx.length = 64 := by rw [hlx]; simp
      rw [upTo_all, ← hlx] at r2
      have HX := Lib.hid hlx
      have L := run_loadFrom_row (P := Try.prog) wr _ _ 23 (0, 0) r2 64 (by rw [ivs_size, hl])
      have S := run_storeRow (P := Try.prog) wr _ _ (ivs .u8 lx) 23 r1 (by rw [ivs_size, ivs_size, hl]; simp) (ivs_one _ _)
      have r6 := setRow_heap wr _ _ (ivs .u8 lx) 23 (0, 0) r1
      have hz2 : (ivs .u8 lx).size = 64 := by rw [ivs_size, hl]
      have R := Lib.hid (And.intro r4 r6)
      clear r1 r2 r4 r6 hlx hl hlt
      go_wp2_with fail
      obtain ⟨r4, r6⟩ := R.out
      refine bodyPost_ret (results_cell_row (P := Try.prog) rfl _ _ (w.heap.size + 1) 23 (ivs .u8 lx) (0, 0) (.array 64 5) rfl r6 (by kernel_rfl) rfl (by rw [hz2]; kernel_rfl)) rfl ?_
      exact ⟨by rw [HX.out], below_setRow r4 (by omega) _⟩
end Go.Proofs.Ytifpldennoocmaa
