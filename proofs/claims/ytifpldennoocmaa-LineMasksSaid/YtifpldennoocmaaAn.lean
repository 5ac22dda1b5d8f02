/- the anchor of the laws of line. -/
import Derived.Test.YtifpldennoocmaaFl
namespace Go.Proofs.Ytifpldennoocmaa
set_option linter.unusedVariables false
open Go.RowKit Go.Shelf

theorem ones5 : onesL 5 = [0, 2] := by unfold onesL; decide +kernel
def ancL : List Int := mrgF (List.replicate 64 0) (List.replicate 64 7) [0, 2]
theorem ancL_hex : hexB ancL = [48, 55, 48, 48, 48, 55] ++ List.replicate 122 48 := by decide +kernel
theorem ancL_len : ancL.length = 64 := by decide +kernel
theorem ancL_at : ancL[0]? = some 7 ∧ ancL[1]? = some 0 ∧ ancL[2]? = some 7 ∧ ancL[3]? = some 0 := by decide +kernel
theorem ivs_at {k : IntKind} {l : List Int} {i : Nat} {x : Int} (h : l[i]? = some x) : (ivs k l)[i]? = some (.int k x) := by simp [ivs, h]
theorem ancL_any : ∀ k, k < 64 → ∃ n : Nat, ancL.getD k 0 = (n : Int) ∧ n < 256 := by
  have : ∀ k : Fin 64, 0 ≤ ancL.getD k.val 0 ∧ ancL.getD k.val 0 < 256 := by decide +kernel
  intro k hk
  have h := this ⟨k, hk⟩
  exact ⟨(ancL.getD k 0).toNat, by have := h.1; simp only at this; omega, by have := h.2; simp only at this; omega⟩

theorem ancL_eq : ancL = mrgF (List.replicate 64 0) (List.replicate 64 7) [0, 2] := rfl
attribute [irreducible] ancL
attribute [local irreducible] mrgF hexB
theorem ret_any (x : Int) (L : List Int) (h : L = List.replicate 64 x) (W : World) : Calls Try.prog 20 #[.int .u8 x] W fun e w' => e = .returned (.agg (ivs .u8 L)) ∧ Below W.heap.size W w' := by
  subst h; exact fill_any x W
theorem mrg_any (A B M : List Int) (hA : A = List.replicate 64 0) (hB : B = List.replicate 64 7) (hM : M = ancL) (W : World) : Calls Try.prog 8 #[.agg (ivs .u8 A), .agg (ivs .u8 B), .int .u64 5] W fun e w' => e = .returned (.agg (ivs .u8 M)) ∧ Below W.heap.size W w' := by
  have e : M = mrgF A B (onesL 5) := by rw [hM, hA, hB, ones5, ancL_eq]
  rw [e]
  exact merge_any A B (by rw [hA]; exact List.length_replicate) (by rw [hB]; exact List.length_replicate) 5 (by decide) W
theorem hxa_any (M : List Int) (s : ByteArray) (hM : M = ancL) (hs : s = ⟨(hexB ancL).toArray⟩) (W : World) : Calls Try.prog 12 #[.agg (ivs .u8 M)] W fun e w' => e = .returned (.string s) ∧ Below W.heap.size W w' := by
  rw [hs, ← hM]
  exact hex_any M (by rw [hM]; exact ancL_len) (by rw [hM]; exact ancL_any) W
theorem store_anc (M : List Int) (hz : (ivs .u8 M).size = 64) (W : World) : (stRow ⟨W.heap.size, 0, none⟩ (ivs .u8 M).toList 0).run Try.prog (W.alloc (.cells (ivs .u8 (List.replicate 64 0)) 23)) = .ok () (W.alloc (.cells (ivs .u8 M) 23)) :=
  run_storeCells_new (P := Try.prog) W 23 (ivs .u8 (List.replicate 64 0)) (ivs .u8 M) (by rw [hz]; kernel_rfl) (by rw [hz, ivs_size]; exact List.length_replicate) (ivs_one _ _)

theorem ivs_get {k : IntKind} {l : List Int} {i : Nat} {x : Int} (h : l[i]? = some x) (hi : i < (ivs k l).size) : (ivs k l)[i]'hi = .int k x := by
  have := ivs_at (k := k) h
  rw [Array.getElem?_eq_getElem hi] at this
  exact Option.some.inj this

theorem ancS_six : (6 : Int) ≤ ((⟨(hexB ancL).toArray⟩ : ByteArray).size : Nat) ∧ ((⟨(hexB ancL).toArray⟩ : ByteArray).extract 0 6).toList = [48, 55, 48, 48, 48, 55] := by
  rw [ancL_hex]; decide +kernel

def AncPost (w : World) (e : Ending) (w' : World) : Prop := e = .returned (.bool true) ∧ Below w.heap.size w w'

attribute [local simp] ld_row st_row
attribute [local go_sem] run_storeCells_one
set_option maxHeartbeats 800000 in
theorem anchor_any (w : World) : Calls Try.prog 7 #[] w (AncPost w) := by
  obtain ⟨A, hA⟩ : ∃ A : Int → List Int, A = fun x => List.replicate 64 x := ⟨_, rfl⟩
  obtain ⟨M, hM⟩ : ∃ M : List Int, M = ancL := ⟨_, rfl⟩
  obtain ⟨s, hs⟩ : ∃ s : ByteArray, s = ⟨(hexB ancL).toArray⟩ := ⟨_, rfl⟩
  have lM : M.length = 64 := by rw [hM]; exact ancL_len
  have e1 : ∀ x W, Calls Try.prog 20 #[.int .u8 x] W fun e w' => e = .returned (.agg (ivs .u8 (A x))) ∧ Below W.heap.size W w' := fun x => ret_any x (A x) (by rw [hA])
  have e3 := mrg_any (A 0) (A 7) M (by rw [hA]) (by rw [hA]) hM
  have e4 := hxa_any M s hM hs
  have k0 : ∀ h : 0 < (ivs .u8 M).size, (ivs .u8 M)[0]'h = .int .u8 7 := by rw [hM]; exact ivs_get ancL_at.1
  have k1 : ∀ h : 1 < (ivs .u8 M).size, (ivs .u8 M)[1]'h = .int .u8 0 := by rw [hM]; exact ivs_get ancL_at.2.1
  have k2 : ∀ h : 2 < (ivs .u8 M).size, (ivs .u8 M)[2]'h = .int .u8 7 := by rw [hM]; exact ivs_get ancL_at.2.2.1
  have k3 : ∀ h : 3 < (ivs .u8 M).size, (ivs .u8 M)[3]'h = .int .u8 0 := by rw [hM]; exact ivs_get ancL_at.2.2.2
  have hz : (ivs .u8 M).size = 64 := by rw [ivs_size, lM]
  have s6 : (6 : Int) ≤ (s.size : Nat) := by rw [hs]; exact ancS_six.1
  have s7 : (s.extract 0 6).toList = [48, 55, 48, 48, 48, 55] := by rw [hs]; exact ancS_six.2
  have HS := Lib.hid hs
  clear hA hM hs lM
  go_enter Try.func7, Try.ntmps7
  have hS := store_anc M hz
  rw [← zeros64] at hS
  have hL : ∀ W : World, (ldRow ⟨W.heap.size, 0, none⟩ 0 64 #[]).run Try.prog (W.alloc (.cells (ivs .u8 M) 23)) = .ok (ivs .u8 M) (W.alloc (.cells (ivs .u8 M) 23)) := fun W =>
    run_loadFrom_row (P := Try.prog) _ _ _ 23 (0, 0) (heap_alloc_new W _) 64 hz
  go_wp2_with (first
    | (go_at_call 20; refine (e1 _ _).mono ?_; rintro e w1 ⟨rfl, hb1⟩; have hbb := Lib.hid hb1; clear hb1)
    | (go_at_call 8; refine (e3 _).mono ?_; rintro e w3 ⟨rfl, hb3⟩; have hbb := Lib.hid hb3; clear hb3)
    | (go_at_call 12; refine (e4 _).mono ?_; rintro e w4 ⟨rfl, hb4⟩; have hbb := Lib.hid hb4; clear hb4))
  go_ret
  rename_i wA ha hb hc
  exact ⟨rfl, Keeps.next (Keeps.next (Keeps.next (Keeps.next (show Keeps w wA from ha.out) hb.out) hc.out) ((Below.refl _ _).alloc (Nat.le_refl _) _)) hbb.out⟩
end Go.Proofs.Ytifpldennoocmaa
