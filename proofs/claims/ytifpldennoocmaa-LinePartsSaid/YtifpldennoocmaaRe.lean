/- Of and the document's Hex. -/
import Derived.Test.YtifpldennoocmaaRd
import Derived.Laws.Concat
namespace Go.Proofs.Ytifpldennoocmaa
set_option linter.unusedVariables false
open Go.RowKit Go.Shelf

attribute [local simp] ld_row st_row
attribute [local go_sem] run_storeCells_one

theorem of_other (a : Option Addr) (len cap : Nat) (hl : len ≠ 64) (w : World) :
    Calls Try.prog 13 #[.slice a len cap] w fun e w' => e = .returned (.tuple #[.agg (ivs .u8 (List.replicate 64 0)), .int .i64 11]) ∧ Below w.heap.size w w' := by
  have hne : ((len : Int) == 64) = false := by simp; omega
  have S := run_storeRow (P := Try.prog) (w.alloc (.cells (ivs .u8 (List.replicate 64 0)) 23)) w.heap.size _ (ivs .u8 (List.replicate 64 0)) 23 (heap_alloc_new _ _) rfl (ivs_one _ _)
  have r6 := setRow_heap (w.alloc (.cells (ivs .u8 (List.replicate 64 0)) 23)) w.heap.size _ (ivs .u8 (List.replicate 64 0)) 23 (0, 0) (heap_alloc_new _ _)
  have B := below_setRow ((Below.refl w.heap.size w).alloc (Nat.le_refl _) (.cells (ivs .u8 (List.replicate 64 0)) 23)) (Nat.le_refl w.heap.size) (ivs .u8 (List.replicate 64 0))
  rw [← zeros64] at S
  have R := Lib.hid (And.intro r6 B)
  clear r6 B hl
  go_enter Try.func13, Try.ntmps13
  go_wp2_with fail
  obtain ⟨r6, B⟩ := R.out
  rw [zeros64]
  exact bodyPost_ret (results_row_tmp (P := Try.prog) Try.results13 _ _ w.heap.size 23 (ivs .u8 (List.replicate 64 0)) (0, 0) (.array 64 5) rfl r6 (by kernel_rfl) rfl z64) rfl ⟨rfl, B⟩

theorem run_loadFrom_at {P : Program} (w : World) (b off : Nat) (l : List Int) (h : ∀ i, i < l.length → w.cell? ⟨b, off + i, none⟩ = some (.int .u8 (l.getD i 0))) :
    (ldRow ⟨b, off, none⟩ 0 l.length #[]).run P w = .ok (ivs .u8 l) w := by
  have := run_loadCells_list (P := P) w ⟨b, off, none⟩ (ivs .u8 l).toList (fun j v hv => by
    have hadd : (⟨b, off, none⟩ : Addr).add j = ⟨b, off + j, none⟩ := by unfold Addr.add; split <;> simp_all
    have hj : j < l.length := by
      have := (List.getElem?_eq_some_iff.1 hv).1
      simpa [ivs] using this
    rw [hadd, h j hj]
    simp [ivs, hj] at hv
    simp [hj, hv])
  have hz : (ivs .u8 l).size = l.length := ivs_size _ _
  simpa [loadCells, hz] using this
theorem run_arrayAt (a : Option Addr) (cap : Nat) (W : World) : (Instr.arrayAt 23 (.slice a 64 cap)).run Try.prog W = .ok (.pointer a) W := by
  simp [Instr.arrayAt, run_underlying Try.underlying23]
theorem of_row (b off cap : Nat) (l : List Int) (hl : l.length = 64) (w : World) (hb : b < w.heap.size) (h : ∀ i, i < 64 → w.cell? ⟨b, off + i, none⟩ = some (.int .u8 (l.getD i 0))) :
    Calls Try.prog 13 #[.slice (some ⟨b, off, none⟩) 64 cap] w fun e w' => e = .returned (.tuple #[.agg (ivs .u8 l), .int .i64 0]) ∧ Below w.heap.size w w' := by
  have hz : (ivs .u8 l).size = 64 := by rw [ivs_size, hl]
  have hA := run_arrayAt (some ⟨b, off, none⟩) cap
  have B0 := (Below.refl w.heap.size w).alloc (Nat.le_refl _) (.cells (ivs .u8 (List.replicate 64 0)) 23)
  have L := run_loadFrom_at (P := Try.prog) (w.alloc (.cells (ivs .u8 (List.replicate 64 0)) 23)) b off l (fun i hi => (B0.cell (p := ⟨b, off + i, none⟩) hb).trans (h i (by omega)))
  rw [hl] at L
  have S := run_storeRow (P := Try.prog) (w.alloc (.cells (ivs .u8 (List.replicate 64 0)) 23)) w.heap.size _ (ivs .u8 l) 23 (heap_alloc_new _ _) (by rw [hz]; rfl) (ivs_one _ _)
  have r6 := setRow_heap (w.alloc (.cells (ivs .u8 (List.replicate 64 0)) 23)) w.heap.size _ (ivs .u8 l) 23 (0, 0) (heap_alloc_new _ _)
  have B := below_setRow B0 (Nat.le_refl w.heap.size) (ivs .u8 l)
  rw [← zeros64] at S L
  have R := Lib.hid (And.intro r6 B)
  clear r6 B hl B0 h hb
  go_enter Try.func13, Try.ntmps13
  go_wp2_with fail
  obtain ⟨r6, B⟩ := R.out
  rw [zeros64]
  exact bodyPost_ret (results_row_tmp (P := Try.prog) Try.results13 _ _ w.heap.size 23 (ivs .u8 l) (0, 0) (.array 64 5) rfl r6 (by kernel_rfl) rfl (by rw [hz]; kernel_rfl)) rfl ⟨rfl, B⟩

def txt (l : List UInt8) : ByteArray := ⟨l.toArray⟩
theorem txt_append (a b : List UInt8) : txt a ++ txt b = txt (a ++ b) := ByteArray.mk_append_mk a b
theorem txt_size (l : List UInt8) : (txt l).size = l.length := by simp [txt, ByteArray.size]
theorem sgn_cut (j : Nat) (hj : j < 16) : ({ data := #[48, 49, 50, 51, 52, 53, 54, 55, 56, 57, 97, 98, 99, 100, 101, 102] } : ByteArray).extract j (j + 1) = txt [sgn j] := by
  have : ∀ m : Fin 16, (({ data := #[48, 49, 50, 51, 52, 53, 54, 55, 56, 57, 97, 98, 99, 100, 101, 102] } : ByteArray).extract m.val (m.val + 1)).data = (txt [sgn m.val]).data := by decide +kernel
  exact ByteArray.ext (this ⟨j, hj⟩)

theorem cut_at (j : Nat) (x : Int) (hx : x = (j : Int)) (hj : j < 16) (W : World) :
    (Instr.slice 9 (.string { data := #[48, 49, 50, 51, 52, 53, 54, 55, 56, 57, 97, 98, 99, 100, 101, 102] }) (some (.int .i64 x)) (some (.int .i64 (x + 1))) none).run Try.prog W = .ok (.string (txt [sgn j])) W := by
  subst hx
  have hz : ({ data := #[48, 49, 50, 51, 52, 53, 54, 55, 56, 57, 97, 98, 99, 100, 101, 102] } : ByteArray).size = 16 := rfl
  have e : ((j : Int) + 1).toNat = j + 1 := by omega
  rw [run_slice_string W _ _ _ _ _ _ Try.underlying9 (by omega) (by omega) (by rw [hz]; omega), ← sgn_cut j hj, e, Int.toNat_natCast]
theorem add_at (a b c : List UInt8) (h : a ++ b = c) (hl : c.length ≤ 1000) (W : World) : (Op.stringOp .add (txt a) (txt b)).run Try.prog W = .ok (.string (txt c)) W := by
  subst h
  rw [run_string_add_sum W _ _ (by rw [txt_size, txt_size]; rw [List.length_append] at hl; omega), txt_append]

set_option maxHeartbeats 4000000 in
theorem rhex_any (l : List Int) (hl : l.length = 64) (hr : Bts 64 l) (w : World) :
    Calls Try.prog 14 #[.agg (ivs .u8 l)] w (HxPost w l) := by
  have HL := Lib.hid hl
  have HR := Lib.hid hr
  clear hl hr
  go_enter Try.func14, Try.ntmps14
  go_wp2_with fail
  obtain ⟨W, hW⟩ : ∃ W, W = w.alloc (.cells (ivs .u8 l) 22) := ⟨_, rfl⟩
  have hB : Below w.heap.size w W := by rw [hW]; exact (Below.refl _ _).alloc (Nat.le_refl _) _
  have hR : W.heap[w.heap.size]? = some (.cells (ivs .u8 l) 22 (0, 0)) := by rw [hW]; exact heap_alloc_new _ _
  rw [← hW]
  clear hW
  go_loopw [3, 4] (fun s i wr => ∃ k : Nat, k ≤ 64 ∧ i = .int .i64 k ∧ s = .string (txt (hexB (l.take k))) ∧ wr.heap[w.heap.size]? = some (.cells (ivs .u8 l) 22 (0, 0)) ∧ Below w.heap.size w wr) (fun _ i _ => 64 - (intOf i).toNat)
  case atStart => exact ⟨0, by omega, rfl, rfl, hR, hB⟩
  case round =>
    obtain ⟨k, hk, rfl, rfl, r1, r2⟩ := hrel
    by_cases hlt : k < 64
    · obtain ⟨n, hn, hn256⟩ := HR.out k hlt
      have hlt0 := hlt
      have hkI : (k : Int) < 64 := by omega
      have m1 := ivs_cell wr _ k _ 22 r1 (by rw [HL.out]; exact hlt)
      rw [hn] at m1
      have hnx : hexB (l.take (k + 1)) = hexB (l.take k) ++ ([sgn (n / 16)] ++ [sgn (n % 16)]) := by
        rw [take_snocI (by rw [HL.out]; exact hlt0), hn, hexB_snoc]; rfl
      have hlen : (hexB (l.take k)).length ≤ 128 := by rw [hexB_len, List.length_take]; omega
      generalize hexB (l.take k) = T at *
      have c1 := cut_at (n / 16) ((n : Int) / 16) (by omega) (by omega)
      have c2 := cut_at (n % 16) ((n : Int) % 16) (by omega) (by omega)
      generalize sgn (n / 16) = d1 at *
      generalize sgn (n % 16) = d2 at *
      obtain ⟨D, hD⟩ : ∃ D, [d1] ++ [d2] = D := ⟨_, rfl⟩
      obtain ⟨T2, hT⟩ : ∃ T2, T ++ D = T2 := ⟨_, rfl⟩
      have hDl : D.length = 2 := by rw [← hD]; rfl
      have a1 := add_at [d1] [d2] D hD (by omega)
      have a2 := add_at T D T2 hT (by rw [← hT, List.length_append]; omega)
      have X := Lib.hid (show hexB (l.take (k + 1)) = T2 by rw [hnx, hD, hT])
      have R := Lib.hid (And.intro r1 r2)
      have HN := Lib.hid hn
      clear r1 r2 hnx hn hlt hD hT hDl hlen
      go_wp2_with fail
      go_quiet (fail)
      go_wp2_with fail
      go_roundw
      case rel => 
        obtain ⟨r1, r2⟩ := R.out
        exact ⟨k + 1, by omega, by go_num, by rw [X.out], r1, r2.trans ⟨rfl, rfl, rfl, Nat.le_refl _, fun _ _ => rfl⟩⟩
      case measure => simp [intOf]; omega
    · have : k = 64 := by omega
      subst this
      have e : l.take 64 = l := List.take_of_length_le (by rw [HL.out]; exact Nat.le_refl _)
      rw [e]
      have R := Lib.hid r2
      clear r1 r2 e
      generalize hT : hexB l = T at *
      have HT := Lib.hid hT
      clear hT
      go_wp2_with fail
      go_ret
      exact ⟨by rw [HT.out]; rfl, R.out⟩
end Go.Proofs.Ytifpldennoocmaa
