/- digits and lines: plain facts. No program in sight. -/
import Derived.Test.YtifpldennoocmaaHx
import Derived.Test.YtifpldennoocmaaFr
import Derived.Test.YtifpldennoocmaaPlM
namespace Go.Proofs.Ytifpldennoocmaa
set_option linter.unusedVariables false
open Go.RowKit

/-- a digit's value -/
def digN (c : Nat) : Nat := if 48 ≤ c ∧ c ≤ 57 then c - 48 else c - 87
def digOk (c : Nat) : Bool := (decide (48 ≤ c) && decide (c ≤ 57)) || (decide (97 ≤ c) && decide (c ≤ 102))
theorem dig_sgn (d : Nat) (h : d < 16) : digN (sgn d).toNat = d ∧ digOk (sgn d).toNat = true := by
  have : ∀ d : Fin 16, digN (sgn d.val).toNat = d.val ∧ digOk (sgn d.val).toNat = true := by decide
  exact this ⟨d, h⟩
theorem dig_lt (c : Nat) (h : digOk c = true) : digN c < 16 ∧ c < 128 := by
  unfold digOk at h
  unfold digN
  simp only [Bool.or_eq_true, Bool.and_eq_true, decide_eq_true_eq] at h
  split <;> omega
theorem sgn_dig (c : UInt8) (h : digOk c.toNat = true) : sgn (digN c.toNat) = c := by
  have : ∀ c : Fin 256, digOk c.val = true → (sgn (digN c.val)).toNat = c.val := by decide +kernel
  have := this ⟨c.toNat, c.toNat_lt⟩ h
  exact UInt8.toNat_inj.1 this

/-- a text's byte -/
def cb (bs : List UInt8) (k : Nat) : Nat := (bs.getD k 0).toNat
/-- a line's byte when so many digits are read -/
def ent (bs : List UInt8) (k i : Nat) : Int := if 2 * i + 1 < k then ((16 * digN (cb bs (2 * i)) + digN (cb bs (2 * i + 1)) : Nat) : Int) else if 2 * i < k then ((digN (cb bs (2 * i)) : Nat) : Int) else 0
def rdR (bs : List UInt8) (k : Nat) : List Int := (List.range 64).map (ent bs k)
theorem rdR_len (bs : List UInt8) (k : Nat) : (rdR bs k).length = 64 := by simp [rdR]
theorem rdR_zero (bs : List UInt8) : rdR bs 0 = List.replicate 64 0 := by
  unfold rdR
  refine List.ext_getElem (by rw [List.length_map, List.length_range, List.length_replicate]) fun i h1 h2 => ?_
  rw [List.getElem_replicate]
  simp [ent]
theorem rdR_get (bs : List UInt8) (k i : Nat) (h : i < 64) : (rdR bs k).getD i 0 = ent bs k i := by
  simp [rdR, List.getD, h]
/-- the value that is stored when digit k is read -/
def nib (bs : List UInt8) (k : Nat) : Nat := if k % 2 = 0 then digN (cb bs k) else 16 * digN (cb bs (k - 1)) + digN (cb bs k)
theorem rdR_set (bs : List UInt8) (k : Nat) (hk : k < 128) : (rdR bs k).set (k / 2) (nib bs k : Nat) = rdR bs (k + 1) := by
  refine List.ext_getElem (by simp [rdR]) fun i h1 h2 => ?_
  have hi : i < 64 := by simpa [rdR] using h2
  rw [List.getElem_set]
  simp only [rdR, List.getElem_map, List.getElem_range]
  unfold ent nib
  split
  · rename_i e
    subst e
    by_cases hp : k % 2 = 0
    · rw [if_pos hp, if_neg (by omega), if_pos (by omega), show 2 * (k / 2) = k from by omega]
    · rw [if_neg hp, if_pos (by omega), show 2 * (k / 2) = k - 1 from by omega, show k - 1 + 1 = k from by omega]
  · by_cases h3 : 2 * i + 1 < k
    · rw [if_pos h3, if_pos (by omega)]
    · rw [if_neg h3]
      by_cases h4 : 2 * i < k
      · rw [if_pos h4]
        have : 2 * i + 1 = k := by omega
        omega
      · rw [if_neg h4, if_neg (by omega), if_neg (by omega)]

/-- a text is a line's digits -/
def readOk (bs : List UInt8) : Bool := decide (bs.length = 128) && (List.range 128).all fun j => digOk (cb bs j)
def readL (bs : List UInt8) : List Int := if readOk bs then rdR bs 128 else List.replicate 64 0
def readE (bs : List UInt8) : Int := if readOk bs then 0 else 10
theorem readOk_iff (bs : List UInt8) : readOk bs = true ↔ bs.length = 128 ∧ ∀ j, j < 128 → digOk (cb bs j) = true := by
  unfold readOk
  simp only [Bool.and_eq_true, decide_eq_true_eq, List.all_eq_true, List.mem_range]
theorem readL_len (bs : List UInt8) : (readL bs).length = 64 := by
  unfold readL; split
  · exact rdR_len _ _
  · simp

theorem hexB_even (l : List Int) : ∀ i, i < l.length → (hexB l).getD (2 * i) 0 = sgn ((l.getD i 0).toNat / 16) ∧ (hexB l).getD (2 * i + 1) 0 = sgn ((l.getD i 0).toNat % 16) := by
  induction l with
  | nil => intro i h; simp at h
  | cons x l ih =>
    intro i h
    have e : hexB (x :: l) = sgn (x.toNat / 16) :: sgn (x.toNat % 16) :: hexB l := rfl
    rw [e]
    cases i with
    | zero => exact ⟨rfl, rfl⟩
    | succ i =>
      have := ih i (by simpa using h)
      rw [show 2 * (i + 1) = 2 * i + 1 + 1 from by omega]
      simpa [List.getD] using this
theorem bts_div {l : List Int} (hb : Bts 64 l) {i : Nat} (h : i < 64) : (l.getD i 0).toNat / 16 < 16 ∧ (l.getD i 0).toNat % 16 < 16 ∧ (((l.getD i 0).toNat : Nat) : Int) = l.getD i 0 := by
  obtain ⟨m, hm, hl⟩ := hb i h
  have e : (l.getD i 0).toNat = m := by rw [hm]; rfl
  rw [e, hm]
  exact ⟨by omega, by omega, rfl⟩
theorem readOk_hex (l : List Int) (hl : l.length = 64) (hb : Bts 64 l) : readOk (hexB l) = true := by
  rw [readOk_iff]
  refine ⟨by rw [hexB_len, hl], fun j hj => ?_⟩
  obtain ⟨a, b, _⟩ := bts_div hb (show j / 2 < 64 by omega)
  have h2 := hexB_even l (j / 2) (by omega)
  unfold cb
  rcases Nat.mod_two_eq_zero_or_one j with h | h
  · rw [show 2 * (j / 2) = j from by omega] at h2
    rw [h2.1]; exact (dig_sgn _ a).2
  · rw [show 2 * (j / 2) + 1 = j from by omega] at h2
    rw [h2.2]; exact (dig_sgn _ b).2
theorem readL_hex (l : List Int) (hl : l.length = 64) (hb : Bts 64 l) : readL (hexB l) = l := by
  unfold readL
  rw [if_pos (readOk_hex l hl hb)]
  refine ext64 (rdR_len _ _) hl fun j hj => ?_
  rw [rdR_get _ _ _ hj]
  obtain ⟨a, b, c⟩ := bts_div hb hj
  have h2 := hexB_even l j (by omega)
  unfold ent cb
  rw [if_pos (by omega), h2.1, h2.2, (dig_sgn _ a).1, (dig_sgn _ b).1]
  omega
theorem readE_hex (l : List Int) (hl : l.length = 64) (hb : Bts 64 l) : readE (hexB l) = 0 := by
  unfold readE
  rw [if_pos (readOk_hex l hl hb)]
theorem readL_bts (bs : List UInt8) : Bts 64 (readL bs) := by
  intro k hk
  unfold readL
  by_cases h : readOk bs = true
  · rw [if_pos h, rdR_get _ _ _ hk]
    have hd := (readOk_iff bs).1 h
    have h1 := dig_lt _ (hd.2 (2 * k) (by omega))
    have h2 := dig_lt _ (hd.2 (2 * k + 1) (by omega))
    unfold ent
    rw [if_pos (by omega)]
    exact ⟨_, rfl, by omega⟩
  · rw [if_neg h]
    refine ⟨0, ?_, by omega⟩
    rw [List.getD, List.getElem?_replicate]
    simp [hk]
theorem hex_read (bs : List UInt8) (h : readOk bs = true) : hexB (readL bs) = bs := by
  have hd := (readOk_iff bs).1 h
  refine List.ext_getElem (by rw [hexB_len, readL_len, hd.1]) fun j h1 h2 => ?_
  have hj : j < 128 := by rw [hd.1] at h2; exact h2
  have e1 : (hexB (readL bs))[j] = (hexB (readL bs)).getD j 0 := by simp [List.getD, h1]
  have e2 : bs[j] = bs.getD j 0 := by simp [List.getD, h2]
  have hh := hexB_even (readL bs) (j / 2) (by rw [readL_len]; omega)
  have hr : (readL bs).getD (j / 2) 0 = ((16 * digN (cb bs (2 * (j / 2))) + digN (cb bs (2 * (j / 2) + 1)) : Nat) : Int) := by
    unfold readL
    rw [if_pos h, rdR_get _ _ _ (by omega)]
    unfold ent
    rw [if_pos (by omega)]
  have d1 := dig_lt _ (hd.2 (2 * (j / 2)) (by omega))
  have d2 := dig_lt _ (hd.2 (2 * (j / 2) + 1) (by omega))
  rw [hr, Int.toNat_natCast, show (16 * digN (cb bs (2 * (j / 2))) + digN (cb bs (2 * (j / 2) + 1))) / 16 = digN (cb bs (2 * (j / 2))) from by omega, show (16 * digN (cb bs (2 * (j / 2))) + digN (cb bs (2 * (j / 2) + 1))) % 16 = digN (cb bs (2 * (j / 2) + 1)) from by omega] at hh
  rw [e1, e2]
  have hjd := hd.2 j hj
  rcases Nat.mod_two_eq_zero_or_one j with hp | hp
  · rw [show 2 * (j / 2) = j from by omega] at hh
    rw [hh.1]; exact sgn_dig _ hjd
  · rw [show 2 * (j / 2) + 1 = j from by omega] at hh
    rw [hh.2]; exact sgn_dig _ hjd

theorem bor8 (a b : Nat) (ha : a < 16) (hb : b < 16) : bits .or .u8 ((16 * a : Nat) : Int) (b : Int) = ((16 * a + b : Nat) : Int) := by
  show IntKind.u8.wrap (((BitVec.ofInt 8 ((16 * a : Nat) : Int) ||| BitVec.ofInt 8 (b : Int)).toNat : Nat) : Int) = _
  rw [BitVec.ofInt_natCast, BitVec.ofInt_natCast]
  simp only [BitVec.toNat_or, BitVec.toNat_ofNat]
  rw [Nat.mod_eq_of_lt (by omega), Nat.mod_eq_of_lt (by omega), IntKind.wrap_u8, show 16 * a = 2 ^ 4 * a from rfl, ← Nat.two_pow_add_eq_or_of_lt hb]
  omega
attribute [irreducible] rdR readOk readL readE digOk digN cb
end Go.Proofs.Ytifpldennoocmaa
