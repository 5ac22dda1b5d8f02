/- halves of a line, one by one. -/
import Derived.Test.YtifpldennoocmaaWc
import Derived.Test.YtifpldennoocmaaRe
namespace Go.Proofs.Ytifpldennoocmaa
set_option linter.unusedVariables false
open Go.RowKit Go.Shelf
attribute [local go_sem] Oper.semAt_some

set_option maxHeartbeats 400000 in
theorem halves_any (l : List Int) (w : World) :
    Calls Try.prog 17 #[.agg (ivs .u8 l)] w fun e w' => e = .returned (.func (.func 27) #[] #[.pointer (some ⟨w.heap.size, 0, none⟩)]) ∧ w' = w.alloc (.cells (ivs .u8 l) 23) := by
  go_enter Try.func17, Try.ntmps17
  go_wp2
  go_ret
  exact ⟨rfl, rfl⟩

/-- a half of a line -/
def halfV (l : List Int) (k : Nat) : List Int := (List.range 32).map fun j => l.getD (32 * k + j) 0
theorem halfV_len (l : List Int) (k : Nat) : (halfV l k).length = 32 := by simp [halfV]
theorem halfV_get (l : List Int) (k j : Nat) (h : j < 32) : (halfV l k).getD j 0 = l.getD (32 * k + j) 0 := by simp [halfV, List.getD, h]
attribute [irreducible] halfV
def halvesV (l : List Int) : List (Array Value) := (List.range 2).map fun k => #[.int .i64 (k : Nat), .agg (ivs .u8 (halfV l k))]
theorem halvesV_len (l : List Int) : (halvesV l).length = 2 := by simp [halvesV]
theorem halvesV_at (l : List Int) (k : Nat) (h : k < 2) : (halvesV l)[k]? = some #[.int .i64 (k : Nat), .agg (ivs .u8 (halfV l k))] := by unfold halvesV; rw [List.getElem?_map, List.getElem?_range h]; rfl
theorem halvesV_get (l : List Int) (k : Nat) (v : Array Value) (h : (halvesV l)[k]? = some v) : k < 2 ∧ v = #[.int .i64 (k : Nat), .agg (ivs .u8 (halfV l k))] := by
  have hk : k < 2 := by
    have := (List.getElem?_eq_some_iff.1 h).1
    rw [halvesV_len] at this; exact this
  rw [halvesV_at l k hk] at h
  exact ⟨hk, (Option.some.inj h).symm⟩
attribute [irreducible] halvesV

theorem cut_half (B k : Nat) (hk : k < 2) (W : World) : (Instr.sliceAt 23 (.pointer (some ⟨B, 0, none⟩)) (some (.int .i64 (32 * (k : Int)))) none none).run Try.prog W = .ok (.slice (some ⟨B, 32 * k, none⟩) (64 - 32 * k) (64 - 32 * k)) W := by
  obtain ⟨i0, hi, hz0, hz1, hz2⟩ := info_parts info5
  match k, hk with
  | 0, _ => simp [Instr.sliceAt, Instr.sliceBounds, Instr.sliceBound, Instr.sureAddr, asIntOf, run_underlying Try.underlying23, sizeOf, typeInfo, hi, Addr.add]
  | 1, _ => simp [Instr.sliceAt, Instr.sliceBounds, Instr.sliceBound, Instr.sureAddr, asIntOf, run_underlying Try.underlying23, sizeOf, typeInfo, hi, hz1, Addr.add]
theorem arr_half (a : Option Addr) (k : Nat) (hk : k < 2) (W : World) : (Instr.arrayAt 44 (.slice a (64 - 32 * k) (64 - 32 * k))).run Try.prog W = .ok (.pointer a) W := by
  have : ¬ (64 - 32 * k < 32) := by omega
  simp [Instr.arrayAt, run_underlying Try.underlying44, this]

attribute [local simp] ld_row st_row
attribute [local go_sem] run_storeCells_one
set_option maxHeartbeats 1000000 in
theorem halves_call (l : List Int) (hl : l.length = 64) (B : Nat) (W : World) (hB : B < W.heap.size) (hg : W.heap[B]? = some (.cells (ivs .u8 l) 23 (0, 0))) :
    ItCall Try.prog 27 #[.pointer (some ⟨B, 0, none⟩)] (halvesV l) (fun b => b = B) W := by
  intro lp cw J Jx hlp hcw sJ sJx hY h0
  have HL := Lib.hid hl
  have HY := Lib.hid hY
  have HC := Lib.hid hcw
  clear hl hY sJ sJx hcw
  refine (callsIn_wide (n := 9)).1 ?_
  refine callsIn_of_wp Try.func27 rfl trivial ?_ rfl
  simp only [Try.ntmps27, List.size_toArray, List.length_cons, List.length_nil, Nat.reduceAdd, Nat.reduceSub, Array.replicate_succ, Array.replicate_zero, List.push_toArray, List.append_toArray, List.nil_append, List.cons_append]
  gi_wp2
  gi_loopw [4] (fun i wr => ∃ k : Nat, k ≤ 2 ∧ i = .int .i64 k ∧ wr.heap[B]? = some (.cells (ivs .u8 l) 23 (0, 0)) ∧ J k wr ∧ W.heap.size ≤ wr.heap.size) (fun i _ => 2 - (intOf i).toNat)
  case atStart => exact ⟨0, by omega, rfl, hg, h0, Nat.le_refl _⟩
  case round =>
    obtain ⟨k, hk, rfl, hcell, hJ, hsz⟩ := hrel
    have HT : Hid (J k wr) := hJ
    clear hJ
    by_cases hlt : k < 2
    · have hkI : (k : Int) < 2 := by omega
      have hz : (halfV l k).length = 32 := halfV_len l k
      have L := run_loadFrom_at (P := Try.prog) wr B (32 * k) (halfV l k) (fun i hi => by
        rw [hz] at hi
        rw [halfV_get _ _ _ hi]
        exact ivs_cell wr B _ l 23 hcell (by rw [HL.out]; omega))
      rw [hz] at L
      have hc1 := cut_half B k hlt
      have hc2 := arr_half (some ⟨B, 32 * k, none⟩) k hlt
      obtain ⟨fn, tmps, assign, body, hy, hR⟩ := HY.out k _ wr 8 (halvesV_at l k hlt) HT.out hsz
      have HCE := Lib.hid hcell
      have HLT := Lib.hid hlt
      clear hcell hlt hz
      generalize 64 - 32 * k = q at *
      generalize 32 * k = off at *
      gi_wp2
      refine hR.mono ?_
      rintro e W3 ⟨hchg, ⟨rfl, hJ3⟩ | ⟨rfl, hJx⟩⟩
      · have nB : ¬ cw B := fun h => (HC.out B h).2 rfl
        have hlt2 : B < wr.heap.size := (Array.getElem?_eq_some_iff.1 HCE.out).1
        have hc3 : W3.heap[B]? = some (.cells (ivs .u8 l) 23 (0, 0)) := (hchg.block B hlt2 nB).trans HCE.out
        have hs3 : W.heap.size ≤ W3.heap.size := Nat.le_trans hsz hchg.size
        have HT3 := Lib.hid hJ3
        have HK := Lib.hid HLT.out
        clear hJ3 nB
        gi_wp2
        go_roundw
        case rel => exact ⟨k + 1, by have := HK.out; omega, by go_num, hc3, HT3.out, hs3⟩
        case measure => have := HK.out; simp [intOf]; omega
      · have HT3 := Lib.hid hJx
        clear hJx
        gi_wp2
        refine bodyPost_ret (results_none rfl _ _ _) rfl ?_
        exact ⟨⟨_, rfl⟩, .inr HT3.out⟩
    · have : k = 2 := by omega
      subst this
      have HD : Hid (J (halvesV l).length wr) := by show J _ wr; rw [halvesV_len]; exact HT.out
      gi_wp2
      go_end0
      exact ⟨⟨_, rfl⟩, .inl HD.out⟩
end Go.Proofs.Ytifpldennoocmaa
