/- words of a line: the functions. -/
import Derived.Test.YtifpldennoocmaaPlP
import Derived.Test.YtifpldennoocmaaMasks
import Derived.Test.YtifpldennoocmaaMgR
namespace Go.Proofs.Ytifpldennoocmaa
set_option linter.unusedVariables false
open Go.RowKit Go.Shelf

set_option maxHeartbeats 1000000 in
theorem word_any (l : List Int) (hl : l.length = 64) (hb : Bts 64 l) (k : Nat) (hk : k < 8) (w : World) :
    Calls Try.prog 26 #[.agg (ivs .u8 l), .int .i64 k] w fun e w' => e = .returned (.int .u64 ((wordV l k : Nat) : Int)) ∧ Below w.heap.size w w' := by
  have HL := Lib.hid hl
  have HB := Lib.hid hb
  have hkI : (k : Int) < 8 := by omega
  clear hl hb
  go_enter Try.func26, Try.ntmps26
  go_wp2_with fail
  obtain ⟨W, hW⟩ : ∃ W, W = w.alloc (.cells (ivs .u8 l) 23) := ⟨_, rfl⟩
  have hR : W.heap[w.heap.size]? = some (.cells (ivs .u8 l) 23 (0, 0)) := by rw [hW]; exact heap_alloc_new _ _
  have hBl : Below w.heap.size w W := by rw [hW]; exact (Below.refl _ _).alloc (Nat.le_refl _) _
  rw [← hW]
  clear hW
  go_loop [5, 7] (fun x i => ∃ j : Nat, j ≤ 8 ∧ i = .int .i64 j ∧ x = .int .u64 ((lowS (wby l k) j : Nat) : Int)) (fun _ i => 8 - (intOf i).toNat)
  case atStart => exact ⟨0, by omega, rfl, rfl⟩
  case round =>
    obtain ⟨j, hj, rfl, rfl⟩ := hrel
    by_cases hlt : j < 8
    · obtain ⟨h1, h2⟩ := wby_lt HB.out hk hlt
      have m1 := ivs_cell W _ (8 * k + j) _ 23 hR (by rw [HL.out]; omega)
      rw [h2] at m1
      have hjI : (j : Int) < 8 := by omega
      have R := Lib.hid (And.intro hR (And.intro h1 hlt))
      clear hR h1 h2 hBl
      generalize hS : lowS (wby l k) j = S at *
      generalize hV : wby l k j = v at *
      have HS := Lib.hid hS
      have HV := Lib.hid hV
      clear hS hV
      go_wp2_with fail
      go_round
      case rel =>
        refine ⟨j + 1, by omega, by go_num, ?_⟩
        obtain ⟨_, h1, hlt⟩ := R.out
        have hS8 : S < 256 ^ j := by rw [← HS.out]; exact lowS_lt _ _ (fun i hi => (wby_lt HB.out hk (show i < 8 by omega)).1)
        have e1 : IntKind.u64.wrap (IntKind.u64.wrap (v : Int) * 2 ^ (8 * j)) = ((v * 256 ^ j : Nat) : Int) := by
          have h4 : v * 256 ^ j < 2 ^ 64 := by
            have h5 : v * 256 ^ j ≤ 255 * 256 ^ j := Nat.mul_le_mul_right _ (by omega)
            have h6 : 256 ^ (j + 1) ≤ 256 ^ 8 := Nat.pow_le_pow_right (by omega) (by omega)
            rw [Nat.pow_succ] at h6
            have h7 := Nat.pow_pos (n := j) (show 0 < 256 by omega)
            omega
          have e2 : (2 : Int) ^ (8 * j) = ((256 ^ j : Nat) : Int) := by
            rw [Int.pow_mul]; simp
          rw [IntKind.wrap_u64, IntKind.wrap_u64, e2, Int.emod_eq_of_lt (show (0 : Int) ≤ v by omega) (by omega), ← Int.natCast_mul]
          omega
        rw [e1, bor_up S v j hlt hS8 h1, lowS, HS.out, HV.out]
      case measure => simp [intOf]; omega
    · have : j = 8 := by omega
      subst this
      generalize hS : lowS (wby l k) 8 = S at *
      have HS := Lib.hid hS
      have HBl := Lib.hid hBl
      clear hS hR hBl
      go_wp2_with fail
      go_ret
      exact ⟨by rw [wordV, HS.out]; rfl, HBl.out⟩

set_option maxHeartbeats 1000000 in
theorem rword_any (l : List Int) (hl : l.length = 64) (hb : Bts 64 l) (k : Nat) (hk : k < 8) (w : World) :
    Calls Try.prog 16 #[.agg (ivs .u8 l), .int .i64 k] w fun e w' => e = .returned (.int .u64 ((wordV l k : Nat) : Int)) ∧ Below w.heap.size w w' := by
  have HL := Lib.hid hl
  have HB := Lib.hid hb
  have hkI : (k : Int) < 8 := by omega
  clear hl hb
  go_enter Try.func16, Try.ntmps16
  go_wp2_with fail
  obtain ⟨W, hW⟩ : ∃ W, W = w.alloc (.cells (ivs .u8 l) 22) := ⟨_, rfl⟩
  have hR : W.heap[w.heap.size]? = some (.cells (ivs .u8 l) 22 (0, 0)) := by rw [hW]; exact heap_alloc_new _ _
  have hBl : Below w.heap.size w W := by rw [hW]; exact (Below.refl _ _).alloc (Nat.le_refl _) _
  rw [← hW]
  clear hW
  go_loop [5, 6] (fun x i => ∃ r : Nat, r ≤ 8 ∧ i = .int .i64 (7 - (r : Int)) ∧ x = .int .u64 ((hiT (wby l k) r : Nat) : Int)) (fun _ i => (intOf i + 1).toNat)
  case atStart => exact ⟨0, by omega, rfl, rfl⟩
  case round =>
    obtain ⟨r, hr, rfl, rfl⟩ := hrel
    by_cases hlt : r < 8
    · obtain ⟨h1, h2⟩ := wby_lt HB.out hk (show 7 - r < 8 by omega)
      obtain ⟨q, hq⟩ : ∃ q, q = 7 - r := ⟨_, rfl⟩
      rw [← hq] at h1 h2
      have hi : (7 : Int) - r = (q : Int) := by omega
      have m1 := ivs_cell W _ (8 * k + q) _ 22 hR (by rw [HL.out]; omega)
      rw [h2] at m1
      have hqI : (q : Int) < 8 := by omega
      have hT := hiT_le (wby l k) r hr (fun j hj => (wby_lt HB.out hk hj).1)
      have hT2 : hiT (wby l k) r < 256 ^ 7 := Nat.lt_of_lt_of_le hT (Nat.pow_le_pow_right (by omega) (by omega))
      have R := Lib.hid (And.intro hR (And.intro h1 hlt))
      have HQ := Lib.hid hq
      have hT3 : hiT (wby l k) r < 72057594037927936 := hT2
      rw [hi]
      clear hR h2 hBl hT hT2 hi hq
      generalize hS : hiT (wby l k) r = S at *
      generalize hV : wby l k q = v at *
      have HS := Lib.hid hS
      have HV := Lib.hid hV
      clear hS hV
      go_wp2_with fail
      go_round
      case rel =>
        refine ⟨r + 1, by omega, ?_, ?_⟩
        · have := HQ.out; go_num
        · rw [hiT, HS.out, ← HQ.out, HV.out]; go_num
      case measure => simp [intOf]
    · have : r = 8 := by omega
      subst this
      have hV := wordV_lt HB.out hk
      rw [hi_all]
      generalize hS : lowS (wby l k) 8 = S at *
      have HS := Lib.hid hS
      have HBl := Lib.hid hBl
      clear hS hR hBl hV
      go_wp2_with fail
      go_ret
      exact ⟨by rw [wordV, HS.out]; rfl, HBl.out⟩
end Go.Proofs.Ytifpldennoocmaa
