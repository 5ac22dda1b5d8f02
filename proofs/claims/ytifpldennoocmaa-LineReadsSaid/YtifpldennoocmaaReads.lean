/- Any line is read from its digits; any text is a line's digits just if it has them; just 64 bytes are a line: for any line, any text and any bytes. No condition. -/
import Derived.Test.YtifpldennoocmaaMasks
import Derived.Test.YtifpldennoocmaaRe
namespace Go.Proofs.Ytifpldennoocmaa
set_option linter.unusedVariables false
open Go.ChangeShapes Go.WideShapes Go.ChangeAt Go.RowKit Go.Shelf
attribute [local simp] ld_row st_row
attribute [local go_sem] run_storeCells_one

theorem store_new64 (M : List Int) (hz : (ivs .u8 M).size = 64) (W : World) : (stRow ⟨W.heap.size, 0, none⟩ (ivs .u8 M).toList 0).run Try.prog (W.alloc (.cells (ivs .u8 (List.replicate 64 0)) 23)) = .ok () (W.alloc (.cells (ivs .u8 M) 23)) :=
  run_storeCells_new (P := Try.prog) W 23 (ivs .u8 (List.replicate 64 0)) (ivs .u8 M) (by rw [hz]; kernel_rfl) (by rw [hz, ivs_size]; exact List.length_replicate) (ivs_one _ _)

/-- what a text is read as -/
structure RdIs (s : ByteArray) (y : List Int) (f : Int) : Prop where
  is : ∃ bs, s = txt bs ∧ readL bs = y ∧ readE bs = f
theorem rd_is (s : ByteArray) (y : List Int) (f : Int) (h : RdIs s y f) (w : World) : Calls Try.prog 11 #[.string s] w fun e w' => e = .returned (.tuple #[.agg (ivs .u8 y), .int .i64 f]) ∧ Below w.heap.size w w' := by
  obtain ⟨bs, rfl, rfl, rfl⟩ := h
  exact read_any bs w
/-- a line's digits -/
structure HxIs (y : List Int) (s : ByteArray) : Prop where
  len : y.length = 64
  bts : Bts 64 y
  is : s = txt (hexB y)
theorem hx_is (y : List Int) (s : ByteArray) (h : HxIs y s) (w : World) : Calls Try.prog 12 #[.agg (ivs .u8 y)] w fun e w' => e = .returned (.string s) ∧ Below w.heap.size w w' := by
  obtain ⟨a, b, rfl⟩ := h
  exact hex_any y a b w
theorem rhx_is (y : List Int) (s : ByteArray) (h : HxIs y s) (w : World) : Calls Try.prog 14 #[.agg (ivs .u8 y)] w fun e w' => e = .returned (.string s) ∧ Below w.heap.size w w' := by
  obtain ⟨a, b, rfl⟩ := h
  exact rhex_any y a b w
theorem ld64 (a : List Int) (za : (ivs .u8 a).size = 64) (g : Nat) (W w' : World) (hg : W.heap[g]? = some (.cells (ivs .u8 a) 23 (0, 0))) (h : Keeps W w') : (ldRow ⟨g, 0, none⟩ 0 64 #[]).run Try.prog w' = .ok (ivs .u8 a) w' :=
  run_loadFrom_row w' _ _ 23 (0, 0) (old_at h hg) 64 za

theorem ite_no {c : Prop} [Decidable c] {A B : Prop} (h : ¬ c) (hB : B) : if c then A else B := by rw [if_neg h]; exact hB

namespace reads
set_option maxHeartbeats 1000000 in
theorem long (l : List Int) (s : ByteArray) (ba : Option Addr) (bn bc : Nat) (hs : (300 : Int) < s.size) (w : World) :
    Calls Try.prog 5 #[.agg (ivs .u8 l), .string s, .slice ba bn bc] w fun e w' => e = .returned (.bool true) ∧ Below w.heap.size w w' := by
  go_enter Try.func5, Try.ntmps5
  go_wp2_with (go_at_call 7; refine (anchor_any _).mono ?_; rintro e w1 ⟨rfl, hb1⟩)
  go_ret
  exact ⟨rfl, Keeps.next ((Below.refl _ _).alloc (Nat.le_refl _) _) hb1⟩

set_option maxRecDepth 100000 in
set_option maxHeartbeats 4000000 in
theorem w_ok_row (l : List Int) (ll : l.length = 64) (s T : ByteArray) (y z : List Int) (ly : y.length = 64) (h1 : HxIs l T) (h2 : RdIs T l 0) (h3 : RdIs s y 0) (hh : HxIs y s) (bc : Nat) (w : World) (b off : Nat) (hb : b < w.heap.size) (hf : ∀ i, i < 64 → w.cell? ⟨b, off + i, none⟩ = some (.int .u8 (z.getD i 0))) (lz : z.length = 64) (hs : ¬ (300 : Int) < s.size) :
    Calls Try.prog 5 #[.agg (ivs .u8 l), .string s, .slice (some ⟨b, off, none⟩) 64 bc] w fun e w' => e = .returned (.bool true) ∧ Below w.heap.size w w' := by
  have cH := hx_is
  have cG := rhx_is
  have cs := rd_is
  have ql := same64 l ll
  have qy := same64 y ly
  have za : (ivs .u8 l).size = 64 := by rw [ivs_size, ll]
  have zy : (ivs .u8 y).size = 64 := by rw [ivs_size, ly]
  have zz : (ivs .u8 z).size = 64 := by rw [ivs_size, lz]
  have HF := Lib.hid (And.intro hb hf)
  have HLZ := Lib.hid lz
  clear hb hf lz
  have hS1 := store_new64 l za
  have hS2 := store_new64 y zy
  have hS3 := store_new64 z zz
  rw [← zeros64] at hS1 hS2 hS3
  have HLL := Lib.hid ll
  clear ll ly
  have hL1 : ∀ W : World, Keeps (w.alloc (.cells (ivs .u8 l) 23)) W → (ldRow ⟨w.heap.size, 0, none⟩ 0 64 #[]).run Try.prog W = .ok (ivs .u8 l) W := fun W h => ld64 l za _ _ W (heap_alloc_new _ _) h
  go_enter Try.func5, Try.ntmps5
  go_wp2_with (first
    | (go_at_call 7; refine (anchor_any _).mono ?_; rintro e w1 ⟨rfl, hb1⟩; have l1 := hL1 w1 hb1; have HB1 := Lib.hid hb1; clear hb1)
    | (go_at_call 12; refine (cH _ _ h1 _).mono ?_; rintro e w2 ⟨rfl, hb2⟩; have HB2 := Lib.hid hb2; clear hb2))
  refine (cs _ _ _ h2 _).mono ?_; rintro e w3 ⟨rfl, hb3⟩; have HB3 := Lib.hid hb3; clear hb3
  go_wp2_with fail
  refine (cs _ _ _ h3 _).mono ?_; rintro e w4 ⟨rfl, hb4⟩; have HB4 := Lib.hid hb4; clear hb4
  go_wp2_with fail
  have k1 : Keeps (w.alloc (.cells (ivs .u8 l) 23)) (w3.alloc (.cells (ivs .u8 l) 23)) := (Keeps.next (Keeps.next HB1.out HB2.out) HB3.out).next ((Below.refl _ _).alloc (Nat.le_refl _) _)
  have k2 : Keeps (w3.alloc (.cells (ivs .u8 l) 23)) (w4.alloc (.cells (ivs .u8 y) 23)) := Keeps.next HB4.out ((Below.refl _ _).alloc (Nat.le_refl _) _)
  have k4 : Keeps w (w4.alloc (.cells (ivs .u8 y) 23)) := (Keeps.next ((Below.refl _ _).alloc (Nat.le_refl _) _) k1).next k2
  have c13 := of_row b off bc z HLZ.out (w4.alloc (.cells (ivs .u8 y) 23)) (Nat.lt_of_lt_of_le HF.out.1 k4.size) (fun i hi => (Below.cell (p := ⟨b, off + i, none⟩) k4 HF.out.1).trans (HF.out.2 i hi))
  refine (c13).mono ?_; rintro e w5 ⟨rfl, hb5⟩
  have k3 : Keeps (w4.alloc (.cells (ivs .u8 y) 23)) (w5.alloc (.cells (ivs .u8 z) 23)) := Keeps.next hb5 ((Below.refl _ _).alloc (Nat.le_refl _) _)
  have hb5s := hb5.size
  have K := Lib.hid (And.intro k1 (And.intro k2 (And.intro k3 k4)))
  clear k1 k2 k3 k4 hb5 c13
  go_wp2_with fail
  obtain ⟨k1, k2, k3, k4⟩ := K.out
  obtain ⟨w6, h6⟩ : ∃ w6, w6 = w5.alloc (.cells (ivs .u8 z) 23) := ⟨_, rfl⟩
  rw [← h6] at k3
  have hA : ∀ w', Keeps w6 w' → (ldRow ⟨w.heap.size, 0, none⟩ 0 64 #[]).run Try.prog w' = .ok (ivs .u8 l) w' := fun w' h' => hL1 w' (((k1.next k2).next k3).next h')
  have hX : ∀ w', Keeps w6 w' → (ldRow ⟨w3.heap.size, 0, none⟩ 0 64 #[]).run Try.prog w' = .ok (ivs .u8 l) w' := fun w' h' => ld64 l za _ _ w' (heap_alloc_new _ _) ((k2.next k3).next h')
  have hY : ∀ w', Keeps w6 w' → (ldRow ⟨w4.heap.size, 0, none⟩ 0 64 #[]).run Try.prog w' = .ok (ivs .u8 y) w' := fun w' h' => ld64 y zy _ _ w' (heap_alloc_new _ _) (k3.next h')
  have gz : w6.heap[w5.heap.size]? = some (.cells (ivs .u8 z) 23 (0, 0)) := by rw [h6]; exact heap_alloc_new _ _
  have hZ : ∀ w', Keeps w6 w' → (ldRow ⟨w5.heap.size, 0, none⟩ 0 64 #[]).run Try.prog w' = .ok (ivs .u8 z) w' := fun w' h' => ld64 z zz _ _ w' gz h'
  have kk : Keeps w w6 := k4.next k3
  rw [← h6]
  have KK := Lib.hid (And.intro kk gz)
  clear h6 hL1 k1 k2 k3 k4 kk gz K
  refine wp_region_keeps (by kernel_rfl) (by kernel_rfl) ?_
  repeat (first
      | (with_reducible refine wpQuiet_step (fun K hK => ?_); go_simp; refine hK _ ?_; clear hK K)
      | (with_reducible refine wpQuiet_step (fun K hK => ?_); go_simp
         apply Exists.intro
         refine ⟨fun w' hw' => ?_, hK _ ?_⟩
         focus
           obtain ⟨hcq, hfq⟩ := hw'.cells
           go_simp
           first
             | (simp only [hA w' hw'])
             | (simp only [hY w' hw'])
             | (simp only [hX w' hw'])
             | (go_at_call 12; exact hw'.call (cH _ _ (by assumption) _))
             | (go_at_call 14; exact hw'.call (cG _ _ (by assumption) _))
             | rfl
         clear hK K)
      | (with_reducible refine wpQuiet_step (fun K hK => ?_); go_simp; with_reducible refine ite_no ?_ ?_; (exact (by decide)); refine hK _ ?_; clear hK K))
  with_reducible refine wpQuiet_nil ?_
  intro w7 hw7
  go_wp2_with fail
  go_loopw [82] (fun i wr => ∃ k : Nat, k ≤ 64 ∧ i = .int .i64 k ∧ Keeps w6 wr) (fun i _ => 64 - (intOf i).toNat)
  case atStart => exact ⟨0, by omega, rfl, hw7⟩
  case round =>
    obtain ⟨k, hk, rfl, hw8⟩ := hrel
    by_cases hlt : k < 64
    · have m1 := ivs_cell wr _ k _ 23 (old_at hw8 KK.out.2) (by rw [HLZ.out]; exact hlt)
      have m2 : wr.cell? ⟨b, off + k, none⟩ = some (.int .u8 (z.getD k 0)) := (Below.cell (p := ⟨b, off + k, none⟩) (KK.out.1.next hw8) HF.out.1).trans (HF.out.2 k hlt)
      generalize z.getD k 0 = v at *
      have hkI : (k : Int) < 64 := by omega
      have hlt0 := hlt
      have H8 := Lib.hid hw8
      clear hw8 hw7
      go_wp2_with fail
      go_quiet (fail)
      go_wp2_with fail
      go_roundw
      case rel => exact ⟨k + 1, by omega, by go_num, H8.out.trans ⟨rfl, rfl, rfl, Nat.le_refl _, fun _ _ => rfl⟩⟩
      case measure => simp [intOf]; omega
    · have : k = 64 := by omega
      subst this
      clear hlt
      go_wp2_with fail
      go_ret
      exact ⟨rfl, KK.out.1.next hw8⟩

set_option maxRecDepth 100000 in
set_option maxHeartbeats 4000000 in
theorem w_ok_no (l : List Int) (ll : l.length = 64) (s T : ByteArray) (y z : List Int) (ly : y.length = 64) (h1 : HxIs l T) (h2 : RdIs T l 0) (h3 : RdIs s y 0) (hh : HxIs y s) (bc : Nat) (w : World) (ba : Option Addr) (bn : Nat) (hbn : bn ≠ 64) (hz : z = List.replicate 64 0) (hs : ¬ (300 : Int) < s.size) :
    Calls Try.prog 5 #[.agg (ivs .u8 l), .string s, .slice ba bn bc] w fun e w' => e = .returned (.bool true) ∧ Below w.heap.size w w' := by
  have cH := hx_is
  have cG := rhx_is
  have cs := rd_is
  have ql := same64 l ll
  have qy := same64 y ly
  have za : (ivs .u8 l).size = 64 := by rw [ivs_size, ll]
  have zy : (ivs .u8 y).size = 64 := by rw [ivs_size, ly]
  have lz : z.length = 64 := by rw [hz]; exact List.length_replicate
  have zz : (ivs .u8 z).size = 64 := by rw [ivs_size, lz]
  have qz := same64 z lz
  have qz0 : ∀ w, (Op.equalIn 10000 23 (.agg (ivs .u8 z)) (.agg (ivs .u8 (List.replicate 64 0)))).run Try.prog w = .ok true w := fun w => by rw [← hz]; exact qz w
  rw [← zeros64] at qz0
  have hne : ((bn : Int) == 64) = false := by simp; omega
  have HZ := Lib.hid hz
  have HBN := Lib.hid hbn
  clear hz hbn lz qz
  have hS1 := store_new64 l za
  have hS2 := store_new64 y zy
  have hS3 := store_new64 z zz
  rw [← zeros64] at hS1 hS2 hS3
  have HLL := Lib.hid ll
  clear ll ly
  have hL1 : ∀ W : World, Keeps (w.alloc (.cells (ivs .u8 l) 23)) W → (ldRow ⟨w.heap.size, 0, none⟩ 0 64 #[]).run Try.prog W = .ok (ivs .u8 l) W := fun W h => ld64 l za _ _ W (heap_alloc_new _ _) h
  go_enter Try.func5, Try.ntmps5
  go_wp2_with (first
    | (go_at_call 7; refine (anchor_any _).mono ?_; rintro e w1 ⟨rfl, hb1⟩; have l1 := hL1 w1 hb1; have HB1 := Lib.hid hb1; clear hb1)
    | (go_at_call 12; refine (cH _ _ h1 _).mono ?_; rintro e w2 ⟨rfl, hb2⟩; have HB2 := Lib.hid hb2; clear hb2))
  refine (cs _ _ _ h2 _).mono ?_; rintro e w3 ⟨rfl, hb3⟩; have HB3 := Lib.hid hb3; clear hb3
  go_wp2_with fail
  refine (cs _ _ _ h3 _).mono ?_; rintro e w4 ⟨rfl, hb4⟩; have HB4 := Lib.hid hb4; clear hb4
  go_wp2_with fail
  have k1 : Keeps (w.alloc (.cells (ivs .u8 l) 23)) (w3.alloc (.cells (ivs .u8 l) 23)) := (Keeps.next (Keeps.next HB1.out HB2.out) HB3.out).next ((Below.refl _ _).alloc (Nat.le_refl _) _)
  have k2 : Keeps (w3.alloc (.cells (ivs .u8 l) 23)) (w4.alloc (.cells (ivs .u8 y) 23)) := Keeps.next HB4.out ((Below.refl _ _).alloc (Nat.le_refl _) _)
  have k4 : Keeps w (w4.alloc (.cells (ivs .u8 y) 23)) := (Keeps.next ((Below.refl _ _).alloc (Nat.le_refl _) _) k1).next k2
  have c13 := of_other ba bn bc HBN.out (w4.alloc (.cells (ivs .u8 y) 23))
  rw [← HZ.out] at c13
  refine (c13).mono ?_; rintro e w5 ⟨rfl, hb5⟩
  have k3 : Keeps (w4.alloc (.cells (ivs .u8 y) 23)) (w5.alloc (.cells (ivs .u8 z) 23)) := Keeps.next hb5 ((Below.refl _ _).alloc (Nat.le_refl _) _)
  have hb5s := hb5.size
  have K := Lib.hid (And.intro k1 (And.intro k2 (And.intro k3 k4)))
  clear k1 k2 k3 k4 hb5 c13
  go_wp2_with fail
  obtain ⟨k1, k2, k3, k4⟩ := K.out
  obtain ⟨w6, h6⟩ : ∃ w6, w6 = w5.alloc (.cells (ivs .u8 z) 23) := ⟨_, rfl⟩
  rw [← h6] at k3
  have hA : ∀ w', Keeps w6 w' → (ldRow ⟨w.heap.size, 0, none⟩ 0 64 #[]).run Try.prog w' = .ok (ivs .u8 l) w' := fun w' h' => hL1 w' (((k1.next k2).next k3).next h')
  have hX : ∀ w', Keeps w6 w' → (ldRow ⟨w3.heap.size, 0, none⟩ 0 64 #[]).run Try.prog w' = .ok (ivs .u8 l) w' := fun w' h' => ld64 l za _ _ w' (heap_alloc_new _ _) ((k2.next k3).next h')
  have hY : ∀ w', Keeps w6 w' → (ldRow ⟨w4.heap.size, 0, none⟩ 0 64 #[]).run Try.prog w' = .ok (ivs .u8 y) w' := fun w' h' => ld64 y zy _ _ w' (heap_alloc_new _ _) (k3.next h')
  have gz : w6.heap[w5.heap.size]? = some (.cells (ivs .u8 z) 23 (0, 0)) := by rw [h6]; exact heap_alloc_new _ _
  have hZ : ∀ w', Keeps w6 w' → (ldRow ⟨w5.heap.size, 0, none⟩ 0 64 #[]).run Try.prog w' = .ok (ivs .u8 z) w' := fun w' h' => ld64 z zz _ _ w' gz h'
  have kk : Keeps w w6 := k4.next k3
  rw [← h6]
  have KK := Lib.hid (And.intro kk gz)
  clear h6 hL1 k1 k2 k3 k4 kk gz K
  refine wp_region_keeps (by kernel_rfl) (by kernel_rfl) ?_
  repeat (first
      | (with_reducible refine wpQuiet_step (fun K hK => ?_); go_simp; refine hK _ ?_; clear hK K)
      | (with_reducible refine wpQuiet_step (fun K hK => ?_); go_simp
         apply Exists.intro
         refine ⟨fun w' hw' => ?_, hK _ ?_⟩
         focus
           obtain ⟨hcq, hfq⟩ := hw'.cells
           go_simp
           first
             | (simp only [hA w' hw'])
             | (simp only [hY w' hw'])
             | (simp only [hX w' hw'])
             | (go_at_call 12; exact hw'.call (cH _ _ (by assumption) _))
             | (go_at_call 14; exact hw'.call (cG _ _ (by assumption) _))
             | rfl
         clear hK K)
      | (with_reducible refine wpQuiet_step (fun K hK => ?_); go_simp; with_reducible refine ite_no ?_ ?_; (exact (by decide)); refine hK _ ?_; clear hK K))
  with_reducible refine wpQuiet_nil ?_
  intro w7 hw7
  go_wp2_with fail
  go_ret
  exact ⟨rfl, KK.out.1.next hw7⟩

set_option maxRecDepth 100000 in
set_option maxHeartbeats 4000000 in
theorem w_er_row (l : List Int) (ll : l.length = 64) (s T : ByteArray) (y z : List Int) (ly : y.length = 64) (h1 : HxIs l T) (h2 : RdIs T l 0) (h3 : RdIs s y 10) (hy : y = List.replicate 64 0) (bc : Nat) (w : World) (b off : Nat) (hb : b < w.heap.size) (hf : ∀ i, i < 64 → w.cell? ⟨b, off + i, none⟩ = some (.int .u8 (z.getD i 0))) (lz : z.length = 64) (hs : ¬ (300 : Int) < s.size) :
    Calls Try.prog 5 #[.agg (ivs .u8 l), .string s, .slice (some ⟨b, off, none⟩) 64 bc] w fun e w' => e = .returned (.bool true) ∧ Below w.heap.size w w' := by
  have cH := hx_is
  have cG := rhx_is
  have cs := rd_is
  have ql := same64 l ll
  have qy := same64 y ly
  have za : (ivs .u8 l).size = 64 := by rw [ivs_size, ll]
  have zy : (ivs .u8 y).size = 64 := by rw [ivs_size, ly]
  have qy0 : ∀ w, (Op.equalIn 10000 23 (.agg (ivs .u8 y)) (.agg (ivs .u8 (List.replicate 64 0)))).run Try.prog w = .ok true w := fun w => by rw [← hy]; exact qy w
  rw [← zeros64] at qy0
  clear hy
  have zz : (ivs .u8 z).size = 64 := by rw [ivs_size, lz]
  have HF := Lib.hid (And.intro hb hf)
  have HLZ := Lib.hid lz
  clear hb hf lz
  have hS1 := store_new64 l za
  have hS2 := store_new64 y zy
  have hS3 := store_new64 z zz
  rw [← zeros64] at hS1 hS2 hS3
  have HLL := Lib.hid ll
  clear ll ly
  have hL1 : ∀ W : World, Keeps (w.alloc (.cells (ivs .u8 l) 23)) W → (ldRow ⟨w.heap.size, 0, none⟩ 0 64 #[]).run Try.prog W = .ok (ivs .u8 l) W := fun W h => ld64 l za _ _ W (heap_alloc_new _ _) h
  go_enter Try.func5, Try.ntmps5
  go_wp2_with (first
    | (go_at_call 7; refine (anchor_any _).mono ?_; rintro e w1 ⟨rfl, hb1⟩; have l1 := hL1 w1 hb1; have HB1 := Lib.hid hb1; clear hb1)
    | (go_at_call 12; refine (cH _ _ h1 _).mono ?_; rintro e w2 ⟨rfl, hb2⟩; have HB2 := Lib.hid hb2; clear hb2))
  refine (cs _ _ _ h2 _).mono ?_; rintro e w3 ⟨rfl, hb3⟩; have HB3 := Lib.hid hb3; clear hb3
  go_wp2_with fail
  refine (cs _ _ _ h3 _).mono ?_; rintro e w4 ⟨rfl, hb4⟩; have HB4 := Lib.hid hb4; clear hb4
  go_wp2_with fail
  have k1 : Keeps (w.alloc (.cells (ivs .u8 l) 23)) (w3.alloc (.cells (ivs .u8 l) 23)) := (Keeps.next (Keeps.next HB1.out HB2.out) HB3.out).next ((Below.refl _ _).alloc (Nat.le_refl _) _)
  have k2 : Keeps (w3.alloc (.cells (ivs .u8 l) 23)) (w4.alloc (.cells (ivs .u8 y) 23)) := Keeps.next HB4.out ((Below.refl _ _).alloc (Nat.le_refl _) _)
  have k4 : Keeps w (w4.alloc (.cells (ivs .u8 y) 23)) := (Keeps.next ((Below.refl _ _).alloc (Nat.le_refl _) _) k1).next k2
  have c13 := of_row b off bc z HLZ.out (w4.alloc (.cells (ivs .u8 y) 23)) (Nat.lt_of_lt_of_le HF.out.1 k4.size) (fun i hi => (Below.cell (p := ⟨b, off + i, none⟩) k4 HF.out.1).trans (HF.out.2 i hi))
  refine (c13).mono ?_; rintro e w5 ⟨rfl, hb5⟩
  have k3 : Keeps (w4.alloc (.cells (ivs .u8 y) 23)) (w5.alloc (.cells (ivs .u8 z) 23)) := Keeps.next hb5 ((Below.refl _ _).alloc (Nat.le_refl _) _)
  have hb5s := hb5.size
  have K := Lib.hid (And.intro k1 (And.intro k2 (And.intro k3 k4)))
  clear k1 k2 k3 k4 hb5 c13
  go_wp2_with fail
  obtain ⟨k1, k2, k3, k4⟩ := K.out
  obtain ⟨w6, h6⟩ : ∃ w6, w6 = w5.alloc (.cells (ivs .u8 z) 23) := ⟨_, rfl⟩
  rw [← h6] at k3
  have hA : ∀ w', Keeps w6 w' → (ldRow ⟨w.heap.size, 0, none⟩ 0 64 #[]).run Try.prog w' = .ok (ivs .u8 l) w' := fun w' h' => hL1 w' (((k1.next k2).next k3).next h')
  have hX : ∀ w', Keeps w6 w' → (ldRow ⟨w3.heap.size, 0, none⟩ 0 64 #[]).run Try.prog w' = .ok (ivs .u8 l) w' := fun w' h' => ld64 l za _ _ w' (heap_alloc_new _ _) ((k2.next k3).next h')
  have hY : ∀ w', Keeps w6 w' → (ldRow ⟨w4.heap.size, 0, none⟩ 0 64 #[]).run Try.prog w' = .ok (ivs .u8 y) w' := fun w' h' => ld64 y zy _ _ w' (heap_alloc_new _ _) (k3.next h')
  have gz : w6.heap[w5.heap.size]? = some (.cells (ivs .u8 z) 23 (0, 0)) := by rw [h6]; exact heap_alloc_new _ _
  have hZ : ∀ w', Keeps w6 w' → (ldRow ⟨w5.heap.size, 0, none⟩ 0 64 #[]).run Try.prog w' = .ok (ivs .u8 z) w' := fun w' h' => ld64 z zz _ _ w' gz h'
  have kk : Keeps w w6 := k4.next k3
  rw [← h6]
  have KK := Lib.hid (And.intro kk gz)
  clear h6 hL1 k1 k2 k3 k4 kk gz K
  refine wp_region_keeps (by kernel_rfl) (by kernel_rfl) ?_
  repeat (first
      | (with_reducible refine wpQuiet_step (fun K hK => ?_); go_simp; refine hK _ ?_; clear hK K)
      | (with_reducible refine wpQuiet_step (fun K hK => ?_); go_simp
         apply Exists.intro
         refine ⟨fun w' hw' => ?_, hK _ ?_⟩
         focus
           obtain ⟨hcq, hfq⟩ := hw'.cells
           go_simp
           first
             | (simp only [hA w' hw'])
             | (simp only [hY w' hw'])
             | (simp only [hX w' hw'])
             | (go_at_call 12; exact hw'.call (cH _ _ (by assumption) _))
             | (go_at_call 14; exact hw'.call (cG _ _ (by assumption) _))
             | rfl
         clear hK K)
      | (with_reducible refine wpQuiet_step (fun K hK => ?_); go_simp; with_reducible refine ite_no ?_ ?_; (exact (by decide)); refine hK _ ?_; clear hK K))
  with_reducible refine wpQuiet_nil ?_
  intro w7 hw7
  go_wp2_with fail
  go_loopw [82] (fun i wr => ∃ k : Nat, k ≤ 64 ∧ i = .int .i64 k ∧ Keeps w6 wr) (fun i _ => 64 - (intOf i).toNat)
  case atStart => exact ⟨0, by omega, rfl, hw7⟩
  case round =>
    obtain ⟨k, hk, rfl, hw8⟩ := hrel
    by_cases hlt : k < 64
    · have m1 := ivs_cell wr _ k _ 23 (old_at hw8 KK.out.2) (by rw [HLZ.out]; exact hlt)
      have m2 : wr.cell? ⟨b, off + k, none⟩ = some (.int .u8 (z.getD k 0)) := (Below.cell (p := ⟨b, off + k, none⟩) (KK.out.1.next hw8) HF.out.1).trans (HF.out.2 k hlt)
      generalize z.getD k 0 = v at *
      have hkI : (k : Int) < 64 := by omega
      have hlt0 := hlt
      have H8 := Lib.hid hw8
      clear hw8 hw7
      go_wp2_with fail
      go_quiet (fail)
      go_wp2_with fail
      go_roundw
      case rel => exact ⟨k + 1, by omega, by go_num, H8.out.trans ⟨rfl, rfl, rfl, Nat.le_refl _, fun _ _ => rfl⟩⟩
      case measure => simp [intOf]; omega
    · have : k = 64 := by omega
      subst this
      clear hlt
      go_wp2_with fail
      go_ret
      exact ⟨rfl, KK.out.1.next hw8⟩

set_option maxRecDepth 100000 in
set_option maxHeartbeats 4000000 in
theorem w_er_no (l : List Int) (ll : l.length = 64) (s T : ByteArray) (y z : List Int) (ly : y.length = 64) (h1 : HxIs l T) (h2 : RdIs T l 0) (h3 : RdIs s y 10) (hy : y = List.replicate 64 0) (bc : Nat) (w : World) (ba : Option Addr) (bn : Nat) (hbn : bn ≠ 64) (hz : z = List.replicate 64 0) (hs : ¬ (300 : Int) < s.size) :
    Calls Try.prog 5 #[.agg (ivs .u8 l), .string s, .slice ba bn bc] w fun e w' => e = .returned (.bool true) ∧ Below w.heap.size w w' := by
  have cH := hx_is
  have cG := rhx_is
  have cs := rd_is
  have ql := same64 l ll
  have qy := same64 y ly
  have za : (ivs .u8 l).size = 64 := by rw [ivs_size, ll]
  have zy : (ivs .u8 y).size = 64 := by rw [ivs_size, ly]
  have qy0 : ∀ w, (Op.equalIn 10000 23 (.agg (ivs .u8 y)) (.agg (ivs .u8 (List.replicate 64 0)))).run Try.prog w = .ok true w := fun w => by rw [← hy]; exact qy w
  rw [← zeros64] at qy0
  clear hy
  have lz : z.length = 64 := by rw [hz]; exact List.length_replicate
  have zz : (ivs .u8 z).size = 64 := by rw [ivs_size, lz]
  have qz := same64 z lz
  have qz0 : ∀ w, (Op.equalIn 10000 23 (.agg (ivs .u8 z)) (.agg (ivs .u8 (List.replicate 64 0)))).run Try.prog w = .ok true w := fun w => by rw [← hz]; exact qz w
  rw [← zeros64] at qz0
  have hne : ((bn : Int) == 64) = false := by simp; omega
  have HZ := Lib.hid hz
  have HBN := Lib.hid hbn
  clear hz hbn lz qz
  have hS1 := store_new64 l za
  have hS2 := store_new64 y zy
  have hS3 := store_new64 z zz
  rw [← zeros64] at hS1 hS2 hS3
  have HLL := Lib.hid ll
  clear ll ly
  have hL1 : ∀ W : World, Keeps (w.alloc (.cells (ivs .u8 l) 23)) W → (ldRow ⟨w.heap.size, 0, none⟩ 0 64 #[]).run Try.prog W = .ok (ivs .u8 l) W := fun W h => ld64 l za _ _ W (heap_alloc_new _ _) h
  go_enter Try.func5, Try.ntmps5
  go_wp2_with (first
    | (go_at_call 7; refine (anchor_any _).mono ?_; rintro e w1 ⟨rfl, hb1⟩; have l1 := hL1 w1 hb1; have HB1 := Lib.hid hb1; clear hb1)
    | (go_at_call 12; refine (cH _ _ h1 _).mono ?_; rintro e w2 ⟨rfl, hb2⟩; have HB2 := Lib.hid hb2; clear hb2))
  refine (cs _ _ _ h2 _).mono ?_; rintro e w3 ⟨rfl, hb3⟩; have HB3 := Lib.hid hb3; clear hb3
  go_wp2_with fail
  refine (cs _ _ _ h3 _).mono ?_; rintro e w4 ⟨rfl, hb4⟩; have HB4 := Lib.hid hb4; clear hb4
  go_wp2_with fail
  have k1 : Keeps (w.alloc (.cells (ivs .u8 l) 23)) (w3.alloc (.cells (ivs .u8 l) 23)) := (Keeps.next (Keeps.next HB1.out HB2.out) HB3.out).next ((Below.refl _ _).alloc (Nat.le_refl _) _)
  have k2 : Keeps (w3.alloc (.cells (ivs .u8 l) 23)) (w4.alloc (.cells (ivs .u8 y) 23)) := Keeps.next HB4.out ((Below.refl _ _).alloc (Nat.le_refl _) _)
  have k4 : Keeps w (w4.alloc (.cells (ivs .u8 y) 23)) := (Keeps.next ((Below.refl _ _).alloc (Nat.le_refl _) _) k1).next k2
  have c13 := of_other ba bn bc HBN.out (w4.alloc (.cells (ivs .u8 y) 23))
  rw [← HZ.out] at c13
  refine (c13).mono ?_; rintro e w5 ⟨rfl, hb5⟩
  have k3 : Keeps (w4.alloc (.cells (ivs .u8 y) 23)) (w5.alloc (.cells (ivs .u8 z) 23)) := Keeps.next hb5 ((Below.refl _ _).alloc (Nat.le_refl _) _)
  have hb5s := hb5.size
  have K := Lib.hid (And.intro k1 (And.intro k2 (And.intro k3 k4)))
  clear k1 k2 k3 k4 hb5 c13
  go_wp2_with fail
  obtain ⟨k1, k2, k3, k4⟩ := K.out
  obtain ⟨w6, h6⟩ : ∃ w6, w6 = w5.alloc (.cells (ivs .u8 z) 23) := ⟨_, rfl⟩
  rw [← h6] at k3
  have hA : ∀ w', Keeps w6 w' → (ldRow ⟨w.heap.size, 0, none⟩ 0 64 #[]).run Try.prog w' = .ok (ivs .u8 l) w' := fun w' h' => hL1 w' (((k1.next k2).next k3).next h')
  have hX : ∀ w', Keeps w6 w' → (ldRow ⟨w3.heap.size, 0, none⟩ 0 64 #[]).run Try.prog w' = .ok (ivs .u8 l) w' := fun w' h' => ld64 l za _ _ w' (heap_alloc_new _ _) ((k2.next k3).next h')
  have hY : ∀ w', Keeps w6 w' → (ldRow ⟨w4.heap.size, 0, none⟩ 0 64 #[]).run Try.prog w' = .ok (ivs .u8 y) w' := fun w' h' => ld64 y zy _ _ w' (heap_alloc_new _ _) (k3.next h')
  have gz : w6.heap[w5.heap.size]? = some (.cells (ivs .u8 z) 23 (0, 0)) := by rw [h6]; exact heap_alloc_new _ _
  have hZ : ∀ w', Keeps w6 w' → (ldRow ⟨w5.heap.size, 0, none⟩ 0 64 #[]).run Try.prog w' = .ok (ivs .u8 z) w' := fun w' h' => ld64 z zz _ _ w' gz h'
  have kk : Keeps w w6 := k4.next k3
  rw [← h6]
  have KK := Lib.hid (And.intro kk gz)
  clear h6 hL1 k1 k2 k3 k4 kk gz K
  refine wp_region_keeps (by kernel_rfl) (by kernel_rfl) ?_
  repeat (first
      | (with_reducible refine wpQuiet_step (fun K hK => ?_); go_simp; refine hK _ ?_; clear hK K)
      | (with_reducible refine wpQuiet_step (fun K hK => ?_); go_simp
         apply Exists.intro
         refine ⟨fun w' hw' => ?_, hK _ ?_⟩
         focus
           obtain ⟨hcq, hfq⟩ := hw'.cells
           go_simp
           first
             | (simp only [hA w' hw'])
             | (simp only [hY w' hw'])
             | (simp only [hX w' hw'])
             | (go_at_call 12; exact hw'.call (cH _ _ (by assumption) _))
             | (go_at_call 14; exact hw'.call (cG _ _ (by assumption) _))
             | rfl
         clear hK K)
      | (with_reducible refine wpQuiet_step (fun K hK => ?_); go_simp; with_reducible refine ite_no ?_ ?_; (exact (by decide)); refine hK _ ?_; clear hK K))
  with_reducible refine wpQuiet_nil ?_
  intro w7 hw7
  go_wp2_with fail
  go_ret
  exact ⟨rfl, KK.out.1.next hw7⟩

theorem walk (l : List Int) (ll : l.length = 64) (hl : Bts 64 l) (s : ByteArray) (ba : Option Addr) (bn bc : Nat) (f : Nat → Int) (w : World)
    (hb : bn = 0 ∨ ∃ b off, ba = some ⟨b, off, none⟩ ∧ b < w.heap.size ∧ ∀ i, i < bn → w.cell? ⟨b, off + i, none⟩ = some (.int .u8 (f i))) :
    Calls Try.prog 5 #[.agg (ivs .u8 l), .string s, .slice ba bn bc] w fun e w' => e = .returned (.bool true) ∧ Below w.heap.size w w' := by
  by_cases hs : (300 : Int) < s.size
  · exact long l s ba bn bc hs w
  obtain ⟨bs, rfl⟩ : ∃ bs, s = txt bs := ⟨s.data.toList, by apply ByteArray.ext; simp [txt]⟩
  have h1 : HxIs l (txt (hexB l)) := ⟨ll, hl, rfl⟩
  have h2 : RdIs (txt (hexB l)) l 0 := ⟨hexB l, rfl, readL_hex l ll hl, readE_hex l ll hl⟩
  by_cases hok : readOk bs = true
  · have h3 : RdIs (txt bs) (readL bs) 0 := ⟨bs, rfl, rfl, by rw [readE, if_pos hok]⟩
    have hh : HxIs (readL bs) (txt bs) := ⟨readL_len bs, readL_bts bs, by rw [hex_read bs hok]⟩
    by_cases hn : bn = 64
    · subst hn
      rcases hb with h0 | ⟨b, off, rfl, hlt, hf⟩
      · exact absurd h0 (by decide)
      · exact w_ok_row l ll (txt bs) _ _ ((List.range 64).map f) (readL_len bs) h1 h2 h3 hh bc w b off hlt (fun i hi => by rw [hf i hi]; simp [List.getD, hi]) (by simp) hs
    · exact w_ok_no l ll (txt bs) _ _ _ (readL_len bs) h1 h2 h3 hh bc w ba bn hn rfl hs
  · have h3 : RdIs (txt bs) (List.replicate 64 0) 10 := ⟨bs, rfl, by rw [readL, if_neg hok], by rw [readE, if_neg hok]⟩
    by_cases hn : bn = 64
    · subst hn
      rcases hb with h0 | ⟨b, off, rfl, hlt, hf⟩
      · exact absurd h0 (by decide)
      · exact w_er_row l ll (txt bs) _ _ ((List.range 64).map f) (by simp) h1 h2 h3 rfl bc w b off hlt (fun i hi => by rw [hf i hi]; simp [List.getD, hi]) (by simp) hs
    · exact w_er_no l ll (txt bs) _ _ _ (by simp) h1 h2 h3 rfl bc w ba bn hn rfl hs

set_option maxRecDepth 100000 in
theorem lifted (os : Os) (started : os.Started) (H : Type) (enc : TypeId × Value → H) :
    ReturnsInHanded {} Try.checked os 5 .any (Rows.lineReadsSpec.pre6 enc Try.prog Try.f5 Rows.lineReadsRow.domain false) (Rows.lineReadsSpec.post enc Try.prog Try.f5 false true false false) := by
  refine returnsInHanded_of_change (C := Try.checked) own started (by kernel_rfl) Try.func5
    (ChangeSpec.witness6 (enc := enc) (C := Try.checked) false ⟨#[], #[.agg #[.int .u8 0, .int .u8 0, .int .u8 0, .int .u8 0, .int .u8 0, .int .u8 0, .int .u8 0, .int .u8 0, .int .u8 0, .int .u8 0, .int .u8 0, .int .u8 0, .int .u8 0, .int .u8 0, .int .u8 0, .int .u8 0, .int .u8 0, .int .u8 0, .int .u8 0, .int .u8 0, .int .u8 0, .int .u8 0, .int .u8 0, .int .u8 0, .int .u8 0, .int .u8 0, .int .u8 0, .int .u8 0, .int .u8 0, .int .u8 0, .int .u8 0, .int .u8 0, .int .u8 0, .int .u8 0, .int .u8 0, .int .u8 0, .int .u8 0, .int .u8 0, .int .u8 0, .int .u8 0, .int .u8 0, .int .u8 0, .int .u8 0, .int .u8 0, .int .u8 0, .int .u8 0, .int .u8 0, .int .u8 0, .int .u8 0, .int .u8 0, .int .u8 0, .int .u8 0, .int .u8 0, .int .u8 0, .int .u8 0, .int .u8 0, .int .u8 0, .int .u8 0, .int .u8 0, .int .u8 0, .int .u8 0, .int .u8 0, .int .u8 0, .int .u8 0], .string ⟨#[]⟩, .slice none 0 0], []⟩ 8 (by kernel_rfl) (by kernel_rfl) (by kernel_rfl) (by kernel_rfl)) ?_
  intro W base args ds gs before hval0 hW hcnd _
  have hval : ∀ (j : Nat) t v, Try.f5.params[j]? = some t → args[j]? = some v → Value.okWide Try.prog W .any base t v := hval0
  have hW' := hW
  obtain ⟨p, q, hA0, hV, rfl, hfz, hnd⟩ := hW
  have hA : DataW.TrodAll enc Try.prog W 0 (fun _ => true) true Try.f5.params.toList args.toList ds p := hA0
  rw [Try.params5] at hA hval
  obtain ⟨v0, vs0, d0, ds0, p0, q0, hargs, rfl, rfl, h0, r0⟩ := trodAll_cons hA
  obtain ⟨v1, vs1, d1, ds1, p1, q1, rfl, rfl, rfl, h1, r1⟩ := trodAll_cons r0
  obtain ⟨v2, vs2, d2, ds2, p2, q2, rfl, rfl, rfl, h2, r2⟩ := trodAll_cons r1
  obtain ⟨rfl, rfl, rfl⟩ := trodAll_nil r2
  obtain rfl : args = #[v0, v1, v2] := by cases args; simp_all
  obtain ⟨rfl, rfl⟩ := trodVars_none hV
  have k0 := h0
  have lt0 : ∀ x ∈ p0, x.block < W.heap.size := by obtain ⟨m, hm⟩ := k0; exact DataW.trod_lt m _ _ _ hm
  have k1 := h1
  have lt1 : ∀ x ∈ p1, x.block < W.heap.size := by obtain ⟨m, hm⟩ := k1; exact DataW.trod_lt m _ _ _ hm
  have k2 := h2
  have lt2 : ∀ x ∈ p2, x.block < W.heap.size := by obtain ⟨m, hm⟩ := k2; exact DataW.trod_lt m _ _ _ hm
  obtain ⟨l, rfl, ll, hl⟩ := open_bytes Try.underlying23 Try.underlying5 (by kernel_rfl) (by kernel_rfl) (hval 0 23 v0 rfl rfl) h0
  obtain ⟨s, rfl⟩ := okWide_string Try.underlying9 (hval 1 9 v1 rfl rfl)
  obtain ⟨ba, bn, bc, bf, rfl, b1, b2, b3⟩ := open_slarg (fun n : { n : Int // 0 ≤ n ∧ n ≤ 255 } => Value.int .u8 n.1) ⟨0, by omega⟩ Try.underlying31 (by kernel_rfl) (elem_u8 Try.underlying5) (hval 2 31 v2 rfl rfl) h2
  clear hA0 hval0
  refine (walk l ll hl s ba bn bc (fun i => (bf i).1) W b3).mono fun e W' ⟨he, bel⟩ => ?_
  subst he
  exact ⟨_, rfl, _, _, _, [], _, [], hW', trodAll_mk1 (shut_bool Try.underlying4 _), (trodAll_cons_mk (Below.trod laidOut (by kernel_rfl) (of_decide_eq_true (by kernel_rfl)) k0 bel lt0) (trodAll_cons_mk (Below.trod laidOut (by kernel_rfl) (of_decide_eq_true (by kernel_rfl)) k1 bel lt1) (trodAll_cons_mk (Below.trod laidOut (by kernel_rfl) (of_decide_eq_true (by kernel_rfl)) k2 bel lt2) trodAll_mk0))), rfl, bel.frame _, fun h => by cases h⟩

theorem over : Rows.lineReadsRow.holds Try.pinned (OpenSpec.ofChange Rows.lineReadsSpec) :=
  OpenClaim.holds_of_wide 5 Try.f5 rfl rfl rfl rfl rfl rfl rfl ⟨rfl, rfl, rfl, rfl, rfl⟩ rfl rfl rfl rfl rfl (by kernel_rfl) Try.func5 (by kernel_rfl)
    (of_decide_eq_true (by kernel_rfl)) (by unfold Func.isWrapper; first | (rw [if_pos (by decide +kernel)]; kernel_rfl) | (rw [if_neg (by decide +kernel)]; exact ⟨rfl, rfl⟩))
    (fun os started H enc _ => lifted os started H enc)

theorem proved : Rows.LineReadsSaid := over
#print axioms proved

end reads
end Go.Proofs.Ytifpldennoocmaa
