/- the anchor of chapter 14, and the walk of the law RingTexts. -/
import Derived.Test.YtiecdlfdfphflaaRingA
namespace Go.Proofs.Ytiecdlfdfphflaa
open Go.RowKit
set_option linter.unusedVariables false

/-- what New leaves -/
structure NewRing (w w' : World) (S b n : Nat) : Prop where
  ring : RingIs w' S b n []
  below : Below w.heap.size w w'
  hS : w.heap.size ≤ S
  hb : w.heap.size ≤ b
  lS : S < w'.heap.size
  lb : b < w'.heap.size

theorem numbers.New_is (n : Int) (h1 : 1 ≤ n) (h2 : n ≤ 4096) (w : World) :
    Calls Try.prog 11 #[.int .i64 n] w fun e w' => ∃ S b, e = .returned (.tuple #[.pointer (some ⟨S, 0, none⟩), .int .i64 0]) ∧ NewRing w w' S b n.toNat := by
  obtain ⟨k, rfl⟩ := Int.eq_ofNat_of_zero_le (show 0 ≤ n by omega)
  refine (numbers.New_yes k (by omega) (by omega) w).mono ?_
  rintro e w' ⟨rfl, rfl⟩
  exact ⟨_, _, rfl, numbers.New_ring k (by omega) (by omega) w, ((Below.refl _ _).alloc (Nat.le_refl _) _).alloc (by simp) _, by omega, Nat.le_refl _, by simp, by simp; omega⟩
theorem texts.New_is (n : Int) (h1 : 1 ≤ n) (h2 : n ≤ 4096) (w : World) :
    Calls Try.prog 7 #[.int .i64 n] w fun e w' => ∃ S b, e = .returned (.tuple #[.pointer (some ⟨S, 0, none⟩), .int .i64 0]) ∧ NewRing w w' S b n.toNat := by
  obtain ⟨k, rfl⟩ := Int.eq_ofNat_of_zero_le (show 0 ≤ n by omega)
  refine (texts.New_yes k (by omega) (by omega) w).mono ?_
  rintro e w' ⟨rfl, rfl⟩
  exact ⟨_, _, rfl, texts.New_ring k (by omega) (by omega) w, ((Below.refl _ _).alloc (Nat.le_refl _) _).alloc (by simp) _, by omega, Nat.le_refl _, by simp, by simp; omega⟩

theorem two_ge {S b B : Nat} (hS : B ≤ S) (hb : B ≤ b) : ∀ i, numbers.Two S b i → B ≤ i := fun i h => by
  unfold numbers.Two at h; omega
theorem two_ge' {S b B : Nat} (hS : B ≤ S) (hb : B ≤ b) : ∀ i, texts.Two S b i → B ≤ i := fun i h => by
  unfold texts.Two at h; omega

set_option maxHeartbeats 1000000 in
theorem anchor_any (w : World) : Calls Try.prog 6 #[] w fun e w' => e = .returned (.bool true) ∧ Below w.heap.size w w' := by
  go_enter Try.func6, Try.ntmps6
  go_wp2_with fail
  refine (numbers.New_is 4 (by omega) (by omega) _).mono ?_; rintro e w1 ⟨S, b, rfl, ring1, bel1, hS, hb, lS, lb⟩
  go_wp2_with fail
  refine (numbers.push_is S b 4 [] 1 _ ring1 (by simp)).mono ?_; rintro e w2 ⟨rfl, ring2, chg2⟩
  go_wp2_with fail
  refine (numbers.push_is S b 4 _ 2 _ ring2 (by simp)).mono ?_; rintro e w3 ⟨rfl, ring3, chg3⟩
  go_wp2_with fail
  refine (numbers.pop_is S b 4 _ 1 _ ring3).mono ?_; rintro e w4 ⟨rfl, ring4, chg4⟩
  go_wp2_with fail
  refine (numbers.Len_is S b 4 _ _ ring4).mono ?_; rintro e w5 ⟨rfl, rfl⟩
  go_wp2_with fail
  go_ret
  exact ⟨rfl, bel1.trans ((chg2.trans (chg3.trans chg4)).below bel1.size (two_ge hS hb))⟩

namespace ringTexts
theorem walk_no (a : Option Addr) (len cap : Nat) (h : len < 1 ∨ 40 < len) (hm : len ≤ 9223372036854775807) (w : World) :
    Calls Try.prog 3 #[.slice a len cap] w fun e w' => e = .returned (.bool true) ∧ Below w.heap.size w w' := by
  rcases h with h | h
  · go_enter Try.func3, Try.ntmps3
    go_wp2_with fail
    refine (anchor_any _).mono ?_; rintro e w1 ⟨rfl, hb⟩
    go_wp2_with fail
    go_ret
    exact ⟨rfl, hb⟩
  · have h' : ¬ (len : Int) < 1 := by omega
    go_enter Try.func3, Try.ntmps3
    go_wp2_with fail
    refine (anchor_any _).mono ?_; rintro e w1 ⟨rfl, hb⟩
    go_wp2_with fail
    go_ret
    exact ⟨rfl, hb⟩

/-- the texts, as values -/
def tx (f : Nat → ByteArray) (len : Nat) : List Value := (List.range len).map fun i => .string (f i)
theorem tx_len (f : Nat → ByteArray) (len : Nat) : (tx f len).length = len := by simp [tx]
theorem tx_get (f : Nat → ByteArray) (len k : Nat) (h : k < (tx f len).length) : (tx f len)[k] = .string (f k) := by simp [tx]
theorem tx_take (f : Nat → ByteArray) (len k : Nat) (h : k < len) : (tx f len).take (k + 1) = (tx f len).take k ++ [.string (f k)] := by
  rw [List.take_succ_eq_append_getElem (by rw [tx_len]; exact h), tx_get]
theorem tx_drop (f : Nat → ByteArray) (len k : Nat) (h : k < len) : (tx f len).drop k = .string (f k) :: (tx f len).drop (k + 1) := by
  rw [List.drop_eq_getElem_cons (by rw [tx_len]; exact h), tx_get]

set_option maxHeartbeats 2000000 in
theorem walk_yes (b0 off len cap : Nat) (f : Nat → ByteArray) (h1 : 1 ≤ len) (h2 : len ≤ 40) (w : World) (hb0 : b0 < w.heap.size) (hcell : ∀ i, i < len → w.cell? ⟨b0, off + i, none⟩ = some (.string (f i))) :
    Calls Try.prog 3 #[.slice (some ⟨b0, off, none⟩) len cap] w fun e w' => e = .returned (.bool true) ∧ Below w.heap.size w w' := by
  have HC := Lib.hid hcell
  clear hcell
  have t1 : ¬ (len : Int) < 1 := by omega
  have t2 : ¬ (40 : Int) < len := by omega
  go_enter Try.func3, Try.ntmps3
  go_wp2_with fail
  refine (anchor_any _).mono ?_; rintro e w0 ⟨rfl, bel0⟩
  go_wp2_with fail
  refine (texts.New_is len (by omega) (by omega) _).mono ?_; rintro e w1 ⟨S, b, rfl, ring1, bel1, hS, hb, lS, lb⟩
  rw [Int.toNat_natCast] at ring1
  have bel01 : Below w.heap.size w w1 := bel0.trans (bel1.mono bel0.size)
  have hS' : w.heap.size ≤ S := Nat.le_trans bel0.size hS
  have hb' : w.heap.size ≤ b := Nat.le_trans bel0.size hb
  have hn0 : ¬ texts.Two S b b0 := fun h => by have := two_ge' hS' hb' _ h; omega
  have hb1 : b0 < w1.heap.size := Nat.lt_of_lt_of_le hb0 bel01.size
  have HC1 : Hid (∀ i, i < len → w1.cell? ⟨b0, off + i, none⟩ = some (.string (f i))) := fun i hi => (bel01.cell (p := ⟨b0, off + i, none⟩) hb0).trans (HC.out i hi)
  clear bel0 bel1 HC
  have HN := Lib.hid hn0
  clear hn0
  go_wp2_with fail
  go_loopw [35] (fun i wr => ∃ k : Nat, k ≤ len ∧ i = .int .i64 k ∧ RingIs wr S b len ((tx f len).take k) ∧ Chg (texts.Two S b) w1 wr) (fun i _ => len - (intOf i).toNat)
  case atStart => exact ⟨0, Nat.zero_le _, rfl, ring1, Chg.refl _ _⟩
  case round =>
    obtain ⟨k, hk, rfl, hring, hchg⟩ := hrel
    by_cases hlt : k < len
    · have hc : wr.cell? ⟨b0, off + k, none⟩ = some (.string (f k)) := (hchg.cell (p := ⟨b0, off + k, none⟩) hb1 HN.out).trans (HC1.out k hlt)
      go_wp2_with fail
      refine (texts.push_is S b len _ (f k) _ hring (by rw [List.length_take, tx_len]; omega)).mono ?_; rintro e w2 ⟨rfl, ring2, chg2⟩
      rw [← tx_take f len k hlt] at ring2
      go_wp2_with fail
      go_roundw
      case rel => exact ⟨k + 1, by omega, by go_num, ring2, hchg.trans chg2⟩
      case measure => simp [intOf]; omega
    · obtain rfl : k = len := by omega
      rw [List.take_of_length_le (by rw [tx_len]; exact Nat.le_refl _)] at hring
      go_wp2_with fail
      refine (texts.push_no S b k _ ⟨#[]⟩ _ hring (tx_len _ _)).mono ?_; rintro e w2 ⟨rfl, ring2, chg2⟩
      have hchg2 := hchg.trans chg2
      go_wp2_with fail
      go_loopw [49] (fun i wr => ∃ j : Nat, j ≤ k ∧ i = .int .i64 j ∧ RingIs wr S b k ((tx f k).drop j) ∧ Chg (texts.Two S b) w1 wr) (fun i _ => k - (intOf i).toNat)
      case atStart => exact ⟨0, Nat.zero_le _, rfl, ring2, hchg2⟩
      case round =>
        obtain ⟨j, hj, rfl, hring3, hchg3⟩ := hrel
        by_cases hlt3 : j < k
        · have hc3 : wr.cell? ⟨b0, off + j, none⟩ = some (.string (f j)) := (hchg3.cell (p := ⟨b0, off + j, none⟩) hb1 HN.out).trans (HC1.out j hlt3)
          rw [tx_drop f k j hlt3] at hring3
          go_wp2_with fail
          refine (texts.pop_is S b k _ (f j) _ hring3).mono ?_; rintro e w4 ⟨rfl, ring4, chg4⟩
          go_wp2_with fail
          go_roundw
          case rel => exact ⟨j + 1, by omega, by go_num, ring4, hchg3.trans chg4⟩
          case measure => simp [intOf]; omega
        · obtain rfl : j = k := by omega
          rw [List.drop_of_length_le (by rw [tx_len]; exact Nat.le_refl _)] at hring3
          go_wp2_with fail
          refine (texts.Len_is S b j _ _ hring3).mono ?_; rintro e w4 ⟨rfl, rfl⟩
          go_wp2_with fail
          go_ret
          exact ⟨rfl, bel01.trans (hchg3.below bel01.size (two_ge' hS' hb'))⟩
end ringTexts
end Go.Proofs.Ytiecdlfdfphflaa
