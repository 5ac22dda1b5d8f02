/- a line out of its halves. -/
import Derived.Test.YtifpldennoocmaaHv
import Derived.Test.YtifpldennoocmaaFw
import Derived.Laws.CopyOwn
import Derived.Deep.RegionLaw
set_option linter.unusedSimpArgs false
namespace Go.Proofs.Ytifpldennoocmaa
set_option linter.unusedVariables false
open Go.RowKit Go.Shelf

theorem splice_map {α β : Type} (f : α → β) (L : List α) (off : Nat) (cs : List α) : splice (L.map f) off (cs.map f) = (splice L off cs).map f := by
  simp [splice]
theorem splice_half (hs : List Int) (k : Nat) (hk : k < 2) : splice (upTo (fun t => hs.getD t 0) 64 (32 * k)) (32 * k) (halfV hs k) = upTo (fun t => hs.getD t 0) 64 (32 * (k + 1)) := by
  have hl : (splice (upTo (fun t => hs.getD t 0) 64 (32 * k)) (32 * k) (halfV hs k)).length = 64 := by
    rw [length_splice _ _ _ (by rw [halfV_len, upTo_len]; omega), upTo_len]
  refine ext64 hl (upTo_len _ _ _) fun j hj => ?_
  rw [upTo_get _ _ _ _ hj]
  have e1 : (splice (upTo (fun t => hs.getD t 0) 64 (32 * k)) (32 * k) (halfV hs k)).getD j 0 = if j < 32 * k then (upTo (fun t => hs.getD t 0) 64 (32 * k)).getD j 0 else if j < 32 * k + 32 then (halfV hs k).getD (j - 32 * k) 0 else (upTo (fun t => hs.getD t 0) 64 (32 * k)).getD j 0 := by
    have hL := upTo_len (fun t => hs.getD t 0) 64 (32 * k)
    have hH := halfV_len hs k
    generalize upTo (fun t => hs.getD t 0) 64 (32 * k) = L at *
    generalize halfV hs k = H at *
    unfold splice
    simp only [List.getD]
    by_cases h1 : j < 32 * k
    · rw [if_pos h1, List.getElem?_append_left (by rw [List.length_take]; omega), List.getElem?_take_of_lt h1]
    · rw [if_neg h1, List.getElem?_append_right (by rw [List.length_take]; omega), List.length_take, Nat.min_eq_left (by omega)]
      by_cases h2 : j < 32 * k + 32
      · rw [if_pos h2, List.getElem?_append_left (by omega)]
      · rw [if_neg h2, List.getElem?_append_right (by omega), List.getElem?_drop]
        congr 2
        omega
  rw [e1, upTo_get _ _ _ _ hj]
  by_cases h1 : j < 32 * k
  · rw [if_pos h1, if_pos h1, if_pos (by omega)]
  · rw [if_neg h1]
    by_cases h2 : j < 32 * k + 32
    · rw [if_pos h2, if_pos (by omega), halfV_get _ _ _ (by omega), show 32 * k + (j - 32 * k) = j from by omega]
    · rw [if_neg h2, if_neg h1, if_neg (by omega)]
theorem splice_row (hs : List Int) (k : Nat) (hk : k < 2) : (splice (ivs .u8 (upTo (fun t => hs.getD t 0) 64 (32 * k))).toList (32 * k) (ivs .u8 (halfV hs k)).toList).toArray = ivs .u8 (upTo (fun t => hs.getD t 0) 64 (32 * (k + 1))) := by
  unfold ivs
  simp only [List.toList_toArray]
  rw [splice_map, splice_half hs k hk]

theorem info44 : ∃ i, Try.prog.info? 44 = some i ∧ i.size = 32 := by
  have h : (Try.prog.info? 44).map (fun i => i.size) = some 32 := by kernel_rfl
  cases e : Try.prog.info? 44 with
  | none => rw [e] at h; cases h
  | some i => rw [e] at h; exact ⟨i, rfl, Option.some.inj h⟩
theorem index_half (hs : List Int) (hl : hs.length = 64) (k : Nat) (hk : k < 2) (W : World) : (Instr.index 45 (.agg (ivs .u8 hs)) (.int .i64 (k : Nat))).run Try.prog W = .ok (.agg (ivs .u8 (halfV hs k))) W := by
  obtain ⟨i0, hi, hi1⟩ := info44
  have e : (ivs .u8 hs).extract (k * 32) (k * 32 + 32) = ivs .u8 (halfV hs k) := by
    have e0 : (hs.drop (k * 32)).take 32 = halfV hs k := by
      refine List.ext_getElem (by rw [halfV_len, List.length_take, List.length_drop]; omega) fun j h1 h2 => ?_
      have hj : j < 32 := by rw [halfV_len] at h2; exact h2
      have e3 : (halfV hs k)[j] = (halfV hs k).getD j 0 := by simp [List.getD, h2]
      have h3 : 32 * k + j < hs.length := by omega
      rw [e3, halfV_get _ _ _ hj]
      simp only [List.getElem_take, List.getElem_drop, List.getD]
      rw [List.getElem?_eq_getElem h3]
      simp only [Option.getD_some, Nat.mul_comm]
    unfold ivs
    rw [List.extract_toArray, ← e0, List.extract_eq_take_drop, show k * 32 + 32 - k * 32 = 32 from by omega, List.map_take, List.map_drop]
  simp [e, Instr.index, asIntOf, run_underlying Try.underlying45, sizeOf, typeInfo, hi, hi1, hk, part, isAgg, run_underlying Try.underlying44]
theorem cut_all (c : Nat) (W : World) : (Instr.sliceAt 44 (.pointer (some ⟨c, 0, none⟩)) none none none).run Try.prog W = .ok (.slice (some ⟨c, 0, none⟩) 32 32) W := by
  obtain ⟨i0, hi, hz0, hz1, hz2⟩ := info_parts info5
  simp [Instr.sliceAt, Instr.sliceBounds, Instr.sliceBound, Instr.sureAddr, asIntOf, run_underlying Try.underlying44, sizeOf, typeInfo, hi, hz1, Addr.add]
theorem zeros32 : #[Value.int IntKind.u8 0, Value.int IntKind.u8 0, Value.int IntKind.u8 0, Value.int IntKind.u8 0, Value.int IntKind.u8 0, Value.int IntKind.u8 0, Value.int IntKind.u8 0, Value.int IntKind.u8 0, Value.int IntKind.u8 0, Value.int IntKind.u8 0, Value.int IntKind.u8 0, Value.int IntKind.u8 0, Value.int IntKind.u8 0, Value.int IntKind.u8 0, Value.int IntKind.u8 0, Value.int IntKind.u8 0, Value.int IntKind.u8 0, Value.int IntKind.u8 0, Value.int IntKind.u8 0, Value.int IntKind.u8 0, Value.int IntKind.u8 0, Value.int IntKind.u8 0, Value.int IntKind.u8 0, Value.int IntKind.u8 0, Value.int IntKind.u8 0, Value.int IntKind.u8 0, Value.int IntKind.u8 0, Value.int IntKind.u8 0, Value.int IntKind.u8 0, Value.int IntKind.u8 0, Value.int IntKind.u8 0, Value.int IntKind.u8 0] = ivs .u8 (List.replicate 32 0) := rfl
theorem store_new32 (M : List Int) (hz : (ivs .u8 M).size = 32) (W : World) : (stRow ⟨W.heap.size, 0, none⟩ (ivs .u8 M).toList 0).run Try.prog (W.alloc (.cells (ivs .u8 (List.replicate 32 0)) 44)) = .ok () (W.alloc (.cells (ivs .u8 M) 44)) :=
  run_storeCells_new (P := Try.prog) W 44 (ivs .u8 (List.replicate 32 0)) (ivs .u8 M) (by rw [hz]; kernel_rfl) (by rw [hz, ivs_size]; exact List.length_replicate) (ivs_one _ _)
theorem hsz5 : (Try.prog.info? 5).map (·.size) = some 1 := by kernel_rfl
theorem add_zero_addr (b j : Nat) : (⟨b, 0, none⟩ : Addr).add j = ⟨b, j, none⟩ := by unfold Addr.add; split <;> simp_all
def FhI (w : World) (hs : List Int) (j : Nat) (W : World) : Prop :=
  W.heap[w.heap.size + 1]? = some (.cells (ivs .u8 (List.replicate 64 0)) 23 (0, 0)) ∧ W.heap[w.heap.size + 1 + 1]? = some (.cells (ivs .u8 (upTo (fun t => hs.getD t 0) 64 j)) 23 (0, 0)) ∧ Below w.heap.size w W
def FhPost (w : World) (hs : List Int) (e : Ending) (w' : World) : Prop := e = .returned (.agg (ivs .u8 hs)) ∧ Below w.heap.size w w'

attribute [local simp] ld_row st_row
attribute [local go_sem] run_storeCells_one
set_option maxHeartbeats 4000000 in
theorem fromh_any (hs : List Int) (hl : hs.length = 64) (w : World) :
    Calls Try.prog 19 #[.agg (ivs .u8 hs)] w (FhPost w hs) := by
  have HL := Lib.hid hl
  have L0 := fun (W : World) (h : Keeps (w.alloc (.cells (ivs .u8 hs) 45)) W) => run_loadFrom_row (P := Try.prog) W _ _ 45 (0, 0) (old_at h (heap_alloc_new w _)) 64 (by rw [ivs_size, hl])
  clear hl
  have L1 := L0 (((w.alloc (.cells (ivs .u8 hs) 45)).alloc (.cells (ivs .u8 (List.replicate 64 0)) 23)).alloc (.cells (ivs .u8 (List.replicate 64 0)) 23)) (((Below.refl _ _).alloc (Nat.le_refl _) _).alloc (by simp) _)
  rw [← zeros64] at L1
  clear L0
  go_enter Try.func19, Try.ntmps19
  go_wp2_with fail
  rw [zeros64]
  obtain ⟨w0, hw0⟩ : ∃ w0, w0 = ((w.alloc (.cells (ivs .u8 hs) 45)).alloc (.cells (ivs .u8 (List.replicate 64 0)) 23)).alloc (.cells (ivs .u8 (List.replicate 64 0)) 23) := ⟨_, rfl⟩
  have h0 : FhI w hs 0 w0 := by
    rw [hw0]
    refine ⟨?_, ?_, (((Below.refl _ _).alloc (Nat.le_refl _) _).alloc (by simp) _).alloc (by simp; omega) _⟩
    · rw [hao _ _ _ (by simp)]; exact han _ _ _ (by simp)
    · rw [upTo_zero]; exact han _ _ _ (by simp)
  rw [← hw0]
  clear hw0 L1
  go_loopw [7] (fun i wr => ∃ k : Nat, k ≤ 2 ∧ i = .int .i64 k ∧ FhI w hs (32 * k) wr) (fun i _ => 2 - (intOf i).toNat)
  case atStart => exact ⟨0, by omega, rfl, h0⟩
  case round =>
    obtain ⟨k, hk, rfl, hF⟩ := hrel
    by_cases hlt : k < 2
    · have hcell := index_half hs HL.out k hlt wr
      have hkI : (k : Int) < 2 := by omega
      have hz : (halfV hs k).length = 32 := halfV_len hs k
      have hc1 := cut_half (w.heap.size + 1 + 1) k hlt
      have hc2 := cut_all wr.heap.size
      have HF := Lib.hid (And.intro hF hlt)
      have hsp := Lib.hid (splice_row hs k hlt)
      clear hlt hF
      have hz2 : (ivs .u8 (halfV hs k)).size = 32 := by rw [ivs_size, hz]
      have hS := store_new32 (halfV hs k) hz2 wr
      rw [← zeros32] at hS
      go_wp2_with fail
      obtain ⟨⟨r1, r2, r3⟩, hlt⟩ := HF.out
      have g2 : (wr.alloc (.cells (ivs .u8 (halfV hs k)) 44)).heap[w.heap.size + 1 + 1]? = some (.cells (ivs .u8 (upTo (fun t => hs.getD t 0) 64 (32 * k))).toList.toArray 23 (0, 0)) := by
        rw [hao _ _ _ (Array.getElem?_eq_some_iff.1 r2).1, Array.toArray_toList]; exact r2
      have B2 : Below w.heap.size w (wr.alloc (.cells (ivs .u8 (halfV hs k)) 44)) := r3.alloc r3.size _
      have n1 : (w.heap.size + 1 + 1) < wr.heap.size := (Array.getElem?_eq_some_iff.1 r2).1
      have pn : (ivs .u8 (halfV hs k)).toList.length = Nat.min 32 (64 - 32 * k) := by
        rw [Array.length_toList, hz2]; show 32 = min 32 (64 - 32 * k); omega
      have pp : 0 < (ivs .u8 (halfV hs k)).toList.length → (some (⟨w.heap.size + 1 + 1, 32 * k, none⟩ : Addr)) = some ⟨w.heap.size + 1 + 1, 32 * k, none⟩ ∧ ∃ ad : Addr, some (⟨wr.heap.size, 0, none⟩ : Addr) = some ad ∧ ∀ j v, (ivs .u8 (halfV hs k)).toList[j]? = some v → (wr.alloc (.cells (ivs .u8 (halfV hs k)) 44)).drew.cell? (ad.add j) = some v := fun _ => by
        refine ⟨rfl, _, rfl, fun j v hv => ?_⟩
        have hadd := add_zero_addr wr.heap.size j
        rw [hadd]
        show (wr.alloc (.cells (ivs .u8 (halfV hs k)) 44)).cell? ⟨wr.heap.size, j, none⟩ = some v
        rw [cell_of_row _ _ j _ 44 (0, 0) (heap_alloc_new wr _)]
        simpa using hv
      have pf : 32 * k + (ivs .u8 (halfV hs k)).toList.length ≤ (ivs .u8 (upTo (fun t => hs.getD t 0) 64 (32 * k))).toList.length := by
        rw [Array.length_toList, Array.length_toList, hz2, ivs_size, upTo_len]; omega
      have p1 : ∀ v ∈ (ivs .u8 (halfV hs k)).toList, v.oneCell' = true := by
        intro v hv
        have := ivs_one .u8 (halfV hs k)
        rw [Array.all_eq_true'] at this
        exact this v (by simpa using hv)
      have hwr : IntKind.i64.wrap (32 * (k : Int)) = 32 * k := by rw [IntKind.wrap_i64]; omega
      have G2 := Lib.hid g2
      have BB2 := Lib.hid B2
      have R1 := Lib.hid r1
      have HP := Lib.hid (And.intro pn (And.intro pp (And.intro pf p1)))
      have HD := Lib.hid (Below.drew (Below.refl (w.heap.size + 1 + 1) (wr.alloc (.cells (ivs .u8 (halfV hs k)) 44))))
      clear g2 B2 r1 r2 r3 HF pn pp pf p1
      go_region_law (refine step_copy_splice rfl (.tmp 13) (.tmp 14) 31 31 rfl 5 Try.underlying31 hsz5 (some ⟨w.heap.size + 1 + 1, 32 * k, none⟩) (some ⟨wr.heap.size, 0, none⟩) (64 - 32 * k) (64 - 32 * k) 32 32 rfl rfl (w.heap.size + 1 + 1) (32 * k) (ivs .u8 (upTo (fun t => hs.getD t 0) 64 (32 * k))).toList 23 G2.out (ivs .u8 (halfV hs k)).toList HP.out.1 HP.out.2.1 HP.out.2.2.1 HP.out.2.2.2 (w.heap.size + 1 + 1) (wr.alloc (.cells (ivs .u8 (halfV hs k)) 44)) HD.out (Nat.le_refl _) ?_; intro w4 hg4 hb4)
      all_goals
        have HG4 := hg4
        have HB4 := Lib.hid hb4
        have hlt4 := Lib.hid hlt
        clear hg4 hb4 hlt
        go_wp2_with fail
        go_roundw
        case rel =>
          have hr : w4.heap[w.heap.size + 1 + 1]? = some (.cells (ivs .u8 (upTo (fun t => hs.getD t 0) 64 (32 * (k + 1)))) 23 (0, 0)) := by rw [← hsp.out]; exact HG4.out
          have hlt := hlt4.out
          refine ⟨k + 1, by omega, by go_num, ?_, hr, BB2.out.trans (HB4.out.mono (by omega))⟩
          exact (HB4.out.block _ (by omega)).trans ((hao _ _ _ (by omega)).trans R1.out)
        case measure => have := hlt4.out; simp [intOf]; omega
    · have : k = 2 := by omega
      subst this
      obtain ⟨r1, r2, r4⟩ := hF
      have e : upTo (fun t => hs.getD t 0) 64 (32 * 2) = hs := by
        refine ext64 (upTo_len _ _ _) HL.out fun j hj => ?_
        rw [upTo_get _ _ _ _ hj, if_pos (by omega)]
      rw [e] at r2
      have hl := HL.out
      have L := run_loadFrom_row (P := Try.prog) wr _ _ 23 (0, 0) r2 64 (by rw [ivs_size, hl])
      have S := run_storeRow (P := Try.prog) wr _ _ (ivs .u8 hs) 23 r1 (by rw [ivs_size, ivs_size, hl]; simp) (ivs_one _ _)
      have r6 := setRow_heap wr _ _ (ivs .u8 hs) 23 (0, 0) r1
      have hz2 : (ivs .u8 hs).size = 64 := by rw [ivs_size, hl]
      have R := Lib.hid (And.intro r4 r6)
      clear r1 r2 r4 r6 hl hlt e
      go_wp2_with fail
      obtain ⟨r4, r6⟩ := R.out
      refine bodyPost_ret (results_cell_row (P := Try.prog) rfl _ _ (w.heap.size + 1) 23 (ivs .u8 hs) (0, 0) (.array 64 5) rfl r6 (by kernel_rfl) rfl (by rw [hz2]; kernel_rfl)) rfl ?_
      exact ⟨rfl, below_setRow r4 (by omega) _⟩
end Go.Proofs.Ytifpldennoocmaa
