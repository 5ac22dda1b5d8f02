/- the iterator bit.Ones. -/
import Derived.Test.YtifpldennoocmaaRows
import Derived.Test.YtifpldennoocmaaRf
import Derived.Test.YtifpldennoocmaaPlO
import Derived.RangeFuncNested
import Derived.RangeFuncBound
import Derived.RangeFuncCalls
import Derived.RangeFuncLeaves
import Derived.Shelf.Abstract
import Derived.Shelf.RegionOpen
import Derived.WalkKit
import Derived.OwnWalkIn
import Derived.TacticsInMore
import Derived.LoopNIn
import Derived.LoopIn
import Derived.Lib.Hide
namespace Go.Proofs.Ytifpldennoocmaa
set_option linter.unusedVariables false
open Go.RowKit Go.Shelf
attribute [local go_sem] Oper.semAt_some

set_option maxHeartbeats 1000000 in
theorem ones_call (B x : Nat) (hx : x < 2 ^ 64) (W : World) (hB : B < W.heap.size) (hc : W.cell? ⟨B, 0, none⟩ = some (.int .u64 x)) (hf : W.frozen? ⟨B, 0, none⟩ = false) :
    ItCall Try.prog 28 #[.pointer (some ⟨B, 0, none⟩)] (onesV x) (fun b => b = B) W := by
  intro l cw J Jx hl hcw sJ sJx hY h0
  have HX := Lib.hid hx
  have HY := Lib.hid hY
  have HJ := Lib.hid sJ
  have HJx := Lib.hid sJx
  have HC := Lib.hid hcw
  clear hx hY sJ sJx hcw
  refine (callsIn_wide (n := 9)).1 ?_
  refine callsIn_of_wp Try.func28 rfl trivial ?_ rfl
  simp only [Try.ntmps28, List.size_toArray, List.length_cons, List.length_nil, Nat.reduceAdd, Nat.reduceSub, Array.replicate_succ, Array.replicate_zero, List.push_toArray, List.append_toArray, List.nil_append, List.cons_append]
  gi_wp2
  gi_loopw [3] (fun i wr => ∃ k : Nat, k ≤ 64 ∧ i = .int .i64 k ∧ wr.cell? ⟨B, 0, none⟩ = some (.int .u64 (x / 2 ^ k : Nat)) ∧ wr.frozen? ⟨B, 0, none⟩ = false ∧ J (cnt x k) wr ∧ W.heap.size ≤ wr.heap.size) (fun i _ => 65 - (intOf i).toNat)
  case atStart => exact ⟨0, by omega, rfl, by rw [hc]; simp, hf, by unfold cnt; exact h0, Nat.le_refl _⟩
  case round =>
    obtain ⟨k, hk, rfl, hcell, hfr, hJ, hsz⟩ := hrel
    have hx64 : x / 2 ^ k < 2 ^ 64 := Nat.lt_of_le_of_lt (Nat.div_le_self _ _) HX.out
    have HT : Hid (J (cnt x k) wr) := hJ
    clear hJ
    by_cases h0 : x / 2 ^ k = 0
    · have HD : Hid (J (onesV x).length wr) := by
        have e := cnt_end h0 (64 - k)
        rw [show k + (64 - k) = 64 from by omega] at e
        show J _ wr
        rw [onesV_len, e]; exact HT.out
      rw [h0] at hcell
      clear h0 hx64
      gi_wp2
      go_end0
      exact ⟨⟨_, rfl⟩, .inl HD.out⟩
    · have hk64 : k < 64 := by
        refine Nat.lt_of_not_le fun hc => h0 ?_
        have : k = 64 := by omega
        subst this
        exact half_end HX.out
      have HB : Hid (bits .and .u64 ((x / 2 ^ k : Nat) : Int) 1 = ((x / 2 ^ k % 2 : Nat) : Int)) := band64_1 _ hx64
      have HN := Lib.hid (half_next x k)
      have H64 := Lib.hid hx64
      have HH : Hid (bitOf x k = decide (x / 2 ^ k % 2 = 1)) := rfl
      clear hx64
      generalize hv : x / 2 ^ k = v at *
      have HV := Lib.hid hv
      clear hv
      have hv0 : ((v : Int) == 0) = false := by simp; omega
      clear h0
      cases hbit : bitOf x k
      · have b0 : bits .and .u64 (v : Int) 1 = 0 := by rw [HB.out]; have := HH.out; rw [hbit] at this; have := of_decide_eq_false this.symm; omega
        have HJ2 := Lib.hid (cnt_no hbit)
        clear hbit
        gi_wp2
        all_goals
          refine ⟨fun _ _ => trivial, ?_⟩
          gi_wp2
          go_roundw
          case rel => exact ⟨k + 1, by omega, by go_num, by rw [← HN.out]; exact World.cell?_setCell_same' _ _ _ (by rw [hcell]; rfl), by rw [World.frozen?_setCell]; exact hfr, by rw [HJ2.out]; exact HJ.out _ _ _ HT.out ((Chg.refl _ _).setCell (.inl (.inl rfl)) _), by simpa [World.setCell] using hsz⟩
          case measure => simp [intOf]; omega
      · have b1 : bits .and .u64 (v : Int) 1 = 1 := by rw [HB.out]; have := HH.out; rw [hbit] at this; have := of_decide_eq_true this.symm; omega
        have HJ2 := Lib.hid (cnt_yes hbit)
        obtain ⟨fn, tmps, assign, body, hy, hR⟩ := HY.out (cnt x k) _ wr 8 (onesV_at x k hk64 hbit) HT.out hsz
        clear hbit
        gi_wp2
        refine hR.mono ?_
        rintro e W3 ⟨hchg, ⟨rfl, hJ3⟩ | ⟨rfl, hJx⟩⟩
        · have nB : ¬ cw B := fun h => (HC.out B h).2 rfl
          have hBr : B < wr.heap.size := Nat.lt_of_lt_of_le hB hsz
          have hc3 : W3.cell? ⟨B, 0, none⟩ = some (.int .u64 (v : Nat)) := (hchg.cell (p := ⟨B, 0, none⟩) hBr nB).trans hcell
          have hf3 : W3.frozen? ⟨B, 0, none⟩ = false := (hchg.frozen (p := ⟨B, 0, none⟩) hBr nB).trans hfr
          have hs3 : W.heap.size ≤ W3.heap.size := Nat.le_trans hsz hchg.size
          have HT3 := Lib.hid hJ3
          clear hJ3 nB
          gi_wp2
          go_roundw
          case rel => exact ⟨k + 1, by omega, by go_num, by rw [← HN.out]; exact World.cell?_setCell_same' _ _ _ (by rw [hc3]; rfl), by rw [World.frozen?_setCell]; exact hf3, by rw [HJ2.out]; exact HJ.out _ _ _ HT3.out ((Chg.refl _ _).setCell (.inl (.inl rfl)) _), by simpa [World.setCell] using hs3⟩
          case measure => simp [intOf]; omega
        · have HT3 := Lib.hid hJx
          clear hJx
          gi_wp2
          refine bodyPost_ret (results_none rfl _ _ _) rfl ?_
          exact ⟨⟨_, rfl⟩, .inr HT3.out⟩
end Go.Proofs.Ytifpldennoocmaa
