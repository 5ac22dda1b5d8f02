/- words of a line, one by one. -/
import Derived.Test.YtifpldennoocmaaWd
import Derived.Test.YtifpldennoocmaaOnes
namespace Go.Proofs.Ytifpldennoocmaa
set_option linter.unusedVariables false
open Go.RowKit Go.Shelf
attribute [local go_sem] Oper.semAt_some

set_option maxHeartbeats 400000 in
theorem words_any (l : List Int) (w : World) :
    Calls Try.prog 15 #[.agg (ivs .u8 l)] w fun e w' => e = .returned (.func (.func 25) #[] #[.pointer (some ⟨w.heap.size, 0, none⟩)]) ∧ w' = w.alloc (.cells (ivs .u8 l) 23) := by
  go_enter Try.func15, Try.ntmps15
  go_wp2
  go_ret
  exact ⟨rfl, rfl⟩

def wordsV (l : List Int) : List (Array Value) := (List.range 8).map fun k => #[.int .i64 (k : Nat), .int .u64 ((wordV l k : Nat) : Int)]
theorem wordsV_len (l : List Int) : (wordsV l).length = 8 := by simp [wordsV]
theorem wordsV_at (l : List Int) (k : Nat) (h : k < 8) : (wordsV l)[k]? = some #[.int .i64 (k : Nat), .int .u64 ((wordV l k : Nat) : Int)] := by simp [wordsV, h]
theorem wordsV_get (l : List Int) (k : Nat) (v : Array Value) (h : (wordsV l)[k]? = some v) : k < 8 ∧ v = #[.int .i64 (k : Nat), .int .u64 ((wordV l k : Nat) : Int)] := by
  have hk : k < 8 := by
    have := (List.getElem?_eq_some_iff.1 h).1
    rw [wordsV_len] at this; exact this
  rw [wordsV_at l k hk] at h
  exact ⟨hk, (Option.some.inj h).symm⟩
attribute [irreducible] wordsV

attribute [local simp] ld_row st_row
attribute [local go_sem] run_storeCells_one
set_option maxHeartbeats 1000000 in
theorem words_call (l : List Int) (hl : l.length = 64) (hb : Bts 64 l) (B : Nat) (W : World) (hB : B < W.heap.size) (hg : W.heap[B]? = some (.cells (ivs .u8 l) 23 (0, 0))) :
    ItCall Try.prog 25 #[.pointer (some ⟨B, 0, none⟩)] (wordsV l) (fun b => b = B) W := by
  intro lp cw J Jx hlp hcw sJ sJx hY h0
  have HL := Lib.hid hl
  have HBt := Lib.hid hb
  have HY := Lib.hid hY
  have HJ := Lib.hid sJ
  have HJx := Lib.hid sJx
  have HC := Lib.hid hcw
  have hz : (ivs .u8 l).size = 64 := by rw [ivs_size, hl]
  clear hl hb hY sJ sJx hcw
  refine (callsIn_wide (n := 9)).1 ?_
  refine callsIn_of_wp Try.func25 rfl trivial ?_ rfl
  simp only [Try.ntmps25, List.size_toArray, List.length_cons, List.length_nil, Nat.reduceAdd, Nat.reduceSub, Array.replicate_succ, Array.replicate_zero, List.push_toArray, List.append_toArray, List.nil_append, List.cons_append]
  gi_wp2
  gi_loopw [4] (fun i wr => ∃ k : Nat, k ≤ 8 ∧ i = .int .i64 k ∧ wr.heap[B]? = some (.cells (ivs .u8 l) 23 (0, 0)) ∧ J k wr ∧ W.heap.size ≤ wr.heap.size) (fun i _ => 8 - (intOf i).toNat)
  case atStart => exact ⟨0, by omega, rfl, hg, h0, Nat.le_refl _⟩
  case round =>
    obtain ⟨k, hk, rfl, hcell, hJ, hsz⟩ := hrel
    have HT : Hid (J k wr) := hJ
    clear hJ
    by_cases hlt : k < 8
    · have hkI : (k : Int) < 8 := by omega
      have L := run_loadFrom_row (P := Try.prog) wr _ _ 23 (0, 0) hcell 64 hz
      have HCE := Lib.hid hcell
      have HLT := Lib.hid hlt
      clear hcell hlt
      gi_wp2_with (refine ⟨trivial, ?_⟩; gi_at_call 26; refine ((callsIn_wide (n := 8)).2 (word_any l HL.out HBt.out k HLT.out _)).mono ?_; rintro e w2 ⟨rfl, hb2⟩; obtain ⟨fn, tmps, assign, body, hy, hR⟩ := HY.out k _ w2 8 (wordsV_at l k HLT.out) (HJ.out _ _ _ HT.out ((Chg.of_below hb2 _).mono (fun i hi h => h))) (Nat.le_trans hsz hb2.size))
      refine hR.mono ?_
      rintro e W3 ⟨hchg, ⟨rfl, hJ3⟩ | ⟨rfl, hJx⟩⟩
      · have nB : ¬ cw B := fun h => (HC.out B h).2 rfl
        have hlt2 : B < wr.heap.size := (Array.getElem?_eq_some_iff.1 HCE.out).1
        have hc2 : w2.heap[B]? = some (.cells (ivs .u8 l) 23 (0, 0)) := (hb2.block B hlt2).trans HCE.out
        have hc3 : W3.heap[B]? = some (.cells (ivs .u8 l) 23 (0, 0)) := (hchg.block B (Nat.lt_of_lt_of_le hlt2 hb2.size) nB).trans hc2
        have hs3 : W.heap.size ≤ W3.heap.size := Nat.le_trans (Nat.le_trans hsz hb2.size) hchg.size
        have HT3 := Lib.hid hJ3
        have HK := Lib.hid HLT.out
        clear hJ3 nB hc2
        gi_wp2
        go_roundw
        case rel => exact ⟨k + 1, by have := HK.out; omega, by go_num, hc3, HT3.out, hs3⟩
        case measure => have := HK.out; simp [intOf]; omega
      · have HT3 := Lib.hid hJx
        clear hJx
        gi_wp2
        refine bodyPost_ret (results_none rfl _ _ _) rfl ?_
        exact ⟨⟨_, rfl⟩, .inr HT3.out⟩
    · have : k = 8 := by omega
      subst this
      have HD : Hid (J (wordsV l).length wr) := by show J _ wr; rw [wordsV_len]; exact HT.out
      gi_wp2
      go_end0
      exact ⟨⟨_, rfl⟩, .inl HD.out⟩
end Go.Proofs.Ytifpldennoocmaa
