/- is a ring a list? -/
import Derived.Test.YtiecdlfdfphflaaRingW
namespace Go.Proofs.Ytiecdlfdfphflaa
set_option linter.unusedVariables false
open Go.RowKit Go.Shelf
attribute [local go_sem] Oper.semAt_some
namespace numbers

theorem finish17 (T : Array Value) (w w9 : World) (R D : Nat) (hT : T.getD 6 undef = .pointer (some ⟨R, 0, none⟩)) (g9 : w9.heap[R]? = some (.cells #[.bool true] 4 (0, 0))) (k1 : w9.heap[D]? = some (.deferred (some []))) (n1 : R < D) (hw : w.heap.size ≤ R) (hB : Below w.heap.size w w9) :
    bodyPostM Fence.wide 9 Try.prog Try.f17 (fun e w' => e = .returned (.bool true) ∧ Below w.heap.size w w') .ret { tmps := T, defers := [{ target := .collected D, args := #[] }] } w9 := by
  refine ⟨by simp, .inl ⟨_, _, rfl, run_takeDeferred k1, ?_⟩⟩
  have e3 : (w9.putObj D (.deferred none)).heap[R]? = some (.cells #[.bool true] 4 (0, 0)) := (World.putObj_heap_other (by omega)).trans g9
  have c3 := cell_of_row _ R 0 _ 4 (0, 0) e3
  simp only [List.getElem?_toArray, List.getElem?_cons_zero] at c3
  have hB3 : Below w.heap.size w (w9.putObj D (.deferred none)) := hB.trans ⟨rfl, rfl, rfl, by simp, fun k hk => World.putObj_heap_other (by omega)⟩
  generalize w9.putObj D (.deferred none) = w13 at *
  have hT' : T[6]?.getD undef = .pointer (some ⟨R, 0, none⟩) := by simpa using hT
  refine ⟨.bool true, ?_, rfl, hB3⟩
  simp [results, Try.results17, go_sem, hT', c3]
def SmI (w : World) (S : Nat) (v : Value) (k : Nat) (W : World) : Prop :=
  W.heap[w.heap.size]? = some (.cells #[.pointer (some ⟨S, 0, none⟩)] 35 (0, 0)) ∧ W.heap[w.heap.size + 1]? = some (.cells #[v] 33 (0, 0)) ∧ W.heap[w.heap.size + 1 + 1]? = some (.cells #[.bool false] 4 (0, 0)) ∧ W.heap[w.heap.size + 1 + 1 + 1]? = some (.cells #[.int .i64 k] 3 (0, 0)) ∧ Below w.heap.size w W
theorem SmI.chg {w : World} {S k : Nat} {v : Value} {cw : Nat → Prop} {A B : World} (h : SmI w S v k A) (hc : Chg cw A B) (h0 : ∀ i, cw i → w.heap.size + 1 + 1 + 1 < i) : SmI w S v k B := by
  obtain ⟨h1, h2, h3, h4, h5⟩ := h
  have lt := fun (i : Nat) (o : Obj) (e : A.heap[i]? = some o) => (Array.getElem?_eq_some_iff.1 e).1
  exact ⟨(hc.block _ (lt _ _ h1) (fun h => by have := h0 _ h; omega)).trans h1, (hc.block _ (lt _ _ h2) (fun h => by have := h0 _ h; omega)).trans h2, (hc.block _ (lt _ _ h3) (fun h => by have := h0 _ h; omega)).trans h3, (hc.block _ (lt _ _ h4) (fun h => by have := h0 _ h; omega)).trans h4, h5.trans (hc.below h5.size (fun i h => by have := h0 _ h; omega))⟩

set_option maxRecDepth 100000 in
set_option maxHeartbeats 4000000 in
theorem same_any (S b room base : Nat) (v : Value) (L : List Int) (w : World) (hring : RingI w S b room L) (hsl : SlI w base v L) (sS : S < w.heap.size) (sb : b < w.heap.size) (hl : L.length ≤ 4096) :
    Calls Try.prog 17 #[.pointer (some ⟨S, 0, none⟩), v, .int .i64 room] w fun e w' => e = .returned (.bool true) ∧ Below w.heap.size w w' := by
  have HRI := Lib.hid hring
  have HSL := Lib.hid hsl
  obtain ⟨a, cap, hv⟩ := hsl.slice
  have hv1 : v.oneCell' = true := by rw [hv]; rfl
  obtain ⟨n, hn⟩ : ∃ n, n = L.length := ⟨_, rfl⟩
  have HV := Lib.hid hv
  have HN := Lib.hid hn
  have HL := Lib.hid hl
  rw [← hn] at hv
  subst hv
  clear hring hsl hn hl HV hv1
  refine (callsIn_wide (n := 9)).1 ?_
  refine callsIn_of_wp_marks Try.func17 rfl trivial ?_
  simp only [Try.ntmps17, List.size_toArray, List.length_cons, List.length_nil, Nat.reduceAdd, Nat.reduceSub, Array.replicate_succ, Array.replicate_zero, List.push_toArray, List.append_toArray, List.nil_append, List.cons_append]
  gi_wp2_with fail
  refine ⟨trivial, ?_⟩
  refine ((callsIn_wide (n := 8)).2 (All_any _ _)).mono ?_
  rintro e w2 ⟨rfl, rfl⟩
  obtain ⟨w0, hw0⟩ : ∃ w0, w0 = (((((w.alloc (.cells #[.pointer (some ⟨S, 0, none⟩)] 35)).alloc (.cells #[.slice a n cap] 33)).alloc (.cells #[.bool false] 4)).alloc (.cells #[.int .i64 0] 3)).alloc (.cells #[.pointer (some ⟨S, 0, none⟩)] 35)) := ⟨_, rfl⟩
  have hs0 : w0.heap.size = w.heap.size + 1 + 1 + 1 + 1 + 1 := by rw [hw0]; simp
  have hB0 : Below w.heap.size w w0 := by rw [hw0]; exact (((((Below.refl _ _).alloc (Nat.le_refl _) _).alloc (by simp) _).alloc (by simp; omega) _).alloc (by simp; omega) _).alloc (by simp; omega) _
  have hI0 : SmI w S (.slice a n cap) 0 w0 := by
    refine ⟨?_, ?_, ?_, ?_, hB0⟩
    · rw [hw0, hao _ _ _ (by first | (simp; done) | (simp; omega)), hao _ _ _ (by first | (simp; done) | (simp; omega)), hao _ _ _ (by first | (simp; done) | (simp; omega)), hao _ _ _ (by first | (simp; done) | (simp; omega))]; exact han _ _ _ rfl
    · rw [hw0, hao _ _ _ (by first | (simp; done) | (simp; omega)), hao _ _ _ (by first | (simp; done) | (simp; omega)), hao _ _ _ (by first | (simp; done) | (simp; omega))]; exact han _ _ _ (by simp)
    · rw [hw0, hao _ _ _ (by first | (simp; done) | (simp; omega)), hao _ _ _ (by first | (simp; done) | (simp; omega))]; exact han _ _ _ (by simp)
    · rw [hw0, hao _ _ _ (by first | (simp; done) | (simp; omega))]; exact han _ _ _ (by simp)
  have hsq : w0.heap[w.heap.size + 1 + 1 + 1 + 1]? = some (.cells #[.pointer (some ⟨S, 0, none⟩)] 35 (0, 0)) := by rw [hw0]; exact han _ _ _ (by simp)
  have HBX := Lib.hid (And.intro hB0 (And.intro hI0 hsq))
  rw [← hw0]
  clear hw0 hB0 hI0 hsq
  gi_wp2
  obtain ⟨hB0, hI0, hsq⟩ := HBX.out
  refine wpIn_rangeFunc_it3 9 9 (gf := 30) (lb := #[.pointer (some ⟨w.heap.size + 1 + 1 + 1 + 1, 0, none⟩)]) rfl (enters_of Try.func30 (by kernel_rfl) rfl) (ringV L) (fun i => i = w.heap.size + 1 + 1 + 1 + 1 ∨ i = S ∨ i = b) (fun _ => False) (fun i e => by rw [hs0]; omega) (fun i e => e.elim)
    (fun W1 hW1 => all_call (w.heap.size + 1 + 1 + 1 + 1) S b room L W1 (HRI.out.keeps (Keeps.next hB0 hW1) sS sb) (by rw [cell_of_row W1 _ 0 _ 35 (0, 0) (old_at hW1 hsq)]; rfl) (by have := hW1.size; omega) (by have := hW1.size; omega) (by have := hW1.size; omega))
    (fun k v hv => by obtain ⟨_, rfl⟩ := ringV_get L k v hv; rfl)
    (fun i => i = w.heap.size + 1 + 1 + 1) (fun i e => by rw [hs0]; omega)
    (fun k W => SmI w S (.slice a n cap) k W) (fun c W => False)
    (fun _ k a₁ _ => k < L.length ∧ a₁ = { tmps := #[.pointer (some ⟨S, 0, none⟩), .slice a n cap, .int .i64 room, .pointer (some ⟨w.heap.size, 0, none⟩), .pointer (some ⟨w.heap.size + 1, 0, none⟩), undef, .pointer (some ⟨w.heap.size + 1 + 1, 0, none⟩), .pointer (some ⟨w.heap.size + 1 + 1 + 1, 0, none⟩), .int .i64 (k : Nat), .int .i64 (L.getD k 0), undef, undef, .pointer (some ⟨S, 0, none⟩), .func (.func 30) #[] #[.pointer (some ⟨w.heap.size + 1 + 1 + 1 + 1, 0, none⟩)], .int .i64 (k : Nat), .int .i64 (L.getD k 0), undef, undef, undef, undef, undef, undef, undef, undef, undef, undef, undef, undef, undef, undef, undef, undef, undef, undef, undef, undef, undef, undef, undef, undef, undef, undef, undef, undef, undef, undef, undef, undef, undef, undef, undef, undef, undef, undef, undef, undef, undef, undef, undef, undef, undef, undef, undef, undef, undef, undef, undef, undef, undef, undef, undef, undef, undef, undef, undef, undef, undef, undef, undef, undef, undef, undef, undef, undef, undef, undef, undef, undef, undef, undef, undef, undef, undef, undef, undef, undef, undef], defers := [] })
    (fun k A B h hc => h.chg hc (fun i h => by rcases h with h | h; exact h.elim; omega)) (fun c A B h hc => h) (fun _ _ _ _ _ h _ => h) hI0 ?assign ?body ?done (fun _ _ _ _ h _ => h.elim)
  case assign =>
    intro lp k v W hv hlp hW hi
    obtain ⟨hk, rfl⟩ := ringV_get L k v hv
    have HK := Lib.hid hk
    clear hk hv
    generalize L.getD k 0 = y
    gi_wp2
    first
      | exact ⟨Chg.refl _ _, hi, HK.out, trivial⟩
      | exact ⟨Chg.refl _ _, hi, HK.out, rfl⟩
  case body =>
    rintro lp k v' a₁ W hv hlp hW hr hI ⟨hk, rfl⟩
    clear hv hr
    rcases HSL.out.cases with ⟨_, hnil⟩ | ⟨g, cap', e, hg, hgs, hlc, hcm, hcell⟩
    · rw [hnil] at hk; simp at hk
    injection e with e1 e2 e3
    subst e1
    clear e2 e3
    obtain ⟨h1, h2, h3, h4, h5⟩ := id hI
    have m1 := cell_of_row W w.heap.size 0 _ 35 (0, 0) h1
    have m2 := cell_of_row W (w.heap.size + 1) 0 _ 33 (0, 0) h2
    have m4 := cell_of_row W (w.heap.size + 1 + 1 + 1) 0 _ 3 (0, 0) h4
    simp at m1 m2 m4
    have v1 : W.cell? ⟨g, k, none⟩ = some (.int .i64 (L.getD k 0)) := (Below.cell (p := ⟨g, k, none⟩) h5 hgs).trans (hcell k hk)
    have hkn : (k : Int) < n := by have := HN.out; omega
    have hk4 : (k : Int) < 4096 := by have := HL.out; omega
    have hm : L.getD k 0 ∈ L := by simp [List.getD, hk]
    have hd : decide (L.getD k 0 ∈ L) = true := decide_eq_true hm
    have hh := has_any S b room L (L.getD k 0) W (HRI.out.keeps h5 sS sb) (by have := h5.size; omega) (by have := h5.size; omega)
    rw [hd] at hh
    have HHH := Lib.hid hh
    have HI := Lib.hid (And.intro hI hk)
    clear hh hd hm hcell h1 h2 h3 h4 h5 hI hk hlc hcm hg
    generalize L.getD k 0 = y at *
    gi_wp2_with (refine ⟨trivial, ?_⟩; gi_at_call 18; refine ((callsIn_wide (n := 8)).2 HHH.out).mono ?_; rintro e w3 ⟨rfl, hb3⟩; have H3 := HI.out.1.chg (cw := fun _ => False) (Chg.of_below hb3 _) (fun _ h => h.elim); have q4 := cell_of_row w3 (w.heap.size + 1 + 1 + 1) 0 _ 3 (0, 0) H3.2.2.2.1; have q5 := frozen_of_row w3 (w.heap.size + 1 + 1 + 1) 0 _ 3 H3.2.2.2.1; simp at q4; have HB3 := Lib.hid (And.intro H3 hb3); clear H3 hb3)
    obtain ⟨⟨h1, h2, h3, h4, h5⟩, hb3⟩ := HB3.out
    refine ⟨Chg.setCell (cw := fun i => i = w.heap.size + 1 + 1 + 1) (Chg.of_below hb3 _) (p := ⟨w.heap.size + 1 + 1 + 1, 0, none⟩) (.inl rfl) _, (heap_setCell_other _ _ _ _ (by show _ ≠ w.heap.size + 1 + 1 + 1; omega)).trans h1, (heap_setCell_other _ _ _ _ (by show _ ≠ w.heap.size + 1 + 1 + 1; omega)).trans h2, (heap_setCell_other _ _ _ _ (by show _ ≠ w.heap.size + 1 + 1 + 1; omega)).trans h3, ?_, h5.setCell (by show w.heap.size ≤ w.heap.size + 1 + 1 + 1; omega) _⟩
    have e := heap_setCell_same w3 (w.heap.size + 1 + 1 + 1) 0 _ _ (.int .i64 ((k : Int) + 1)) h4
    rw [e, Int.natCast_add]
    rfl
  case done =>
    rintro D W hD hJ hK
    have hJ : SmI w S (.slice a n cap) L.length W := by rwa [ringV_len] at hJ
    rw [← HN.out] at hJ
    have hrW := Lib.hid (HRI.out.keeps hJ.2.2.2.2 sS sb)
    have zW := hJ.2.2.2.2.size
    have m1 := cell_of_row W w.heap.size 0 _ 35 (0, 0) hJ.1
    have m2 := cell_of_row W (w.heap.size + 1) 0 _ 33 (0, 0) hJ.2.1
    have m4 := cell_of_row W (w.heap.size + 1 + 1 + 1) 0 _ 3 (0, 0) hJ.2.2.2.1
    have m5 := cell_of_row W (w.heap.size + 1 + 1) 0 _ 4 (0, 0) hJ.2.2.1
    have m6 := frozen_of_row W (w.heap.size + 1 + 1) 0 _ 4 hJ.2.2.1
    simp at m1 m2 m4 m5
    have HJ := Lib.hid (And.intro hJ hK)
    clear hJ hK
    cases hL : L with
    | nil =>
      have hn0 : n = 0 := by rw [HN.out, hL]; rfl
      subst hn0
      rw [hL] at hrW
      have hlen := Len_is S b room [] W hrW.out
      have hroom := Room_is S b room [] W hrW.out
      have hfst := First_no S b room W hrW.out
      have HF := Lib.hid (And.intro hfst (And.intro hlen hroom))
      clear hlen hroom hfst hL
      gi_wp2_with (first
        | (refine ⟨trivial, ?_⟩; gi_at_call 28; refine ((callsIn_wide (n := 8)).2 HF.out.1).mono ?_; rintro e w3 ⟨rfl, rfl⟩)
        | (refine ⟨trivial, ?_⟩; gi_at_call 14; refine ((callsIn_wide (n := 8)).2 HF.out.2.1).mono ?_; rintro e w4 ⟨rfl, rfl⟩)
        | (refine ⟨trivial, ?_⟩; gi_at_call 29; refine ((callsIn_wide (n := 8)).2 HF.out.2.2).mono ?_; rintro e w5 ⟨rfl, rfl⟩))
      obtain ⟨⟨h1, h2, h3, h4, h5⟩, hK⟩ := HJ.out
      exact finish17 _ w _ (w.heap.size + 1 + 1) D rfl (heap_setCell_same W (w.heap.size + 1 + 1) 0 _ _ (.bool true) h3) ((heap_setCell_other _ _ _ _ (by show D ≠ w.heap.size + 1 + 1; omega)).trans hK) (by omega) (by omega) (h5.setCell (by show w.heap.size ≤ w.heap.size + 1 + 1; omega) _)
    | cons x L' =>
      rw [hL] at hrW
      rcases HSL.out.cases with ⟨_, hnil⟩ | ⟨g, cap', e, hg, hgs, hlc, hcm, hcell⟩
      · rw [hnil] at hL; cases hL
      injection e with e1 e2 e3
      subst e1
      clear e2 e3 hlc hcm hg
      have hnp : 0 < n := by rw [HN.out, hL]; simp
      have hnI : (0 : Int) < n := by omega
      have hn0 : ((n : Int) == 0) = false := by simp; omega
      have v1 : W.cell? ⟨g, 0, none⟩ = some (.int .i64 x) := by
        rw [Below.cell (p := ⟨g, 0, none⟩) HJ.out.1.2.2.2.2 hgs, hcell 0 (by rw [hL]; simp), hL]; rfl
      have hL2 := Lib.hid hL
      have hfst := First_is S b room x (L'.map (Value.int .i64)) W hrW.out
      have HF := Lib.hid hfst
      clear hfst
      gi_wp2_with fail
      refine ⟨trivial, ?_⟩
      refine ((callsIn_wide (n := 8)).2 HF.out).mono ?_
      rintro e w3 ⟨rfl, kq, hq⟩
      have k3 : Keeps W w3 := by rw [hq]; exact ⟨rfl, rfl, rfl, Nat.le_refl _, fun _ _ => rfl⟩
      have J3 : SmI w S (.slice (some ⟨g, 0, none⟩) n cap) n w3 := HJ.out.1.chg (cw := fun _ => False) (Chg.of_below k3 _) (fun _ h => h.elim)
      have K3 : w3.heap[D]? = some (.deferred (some [])) := old_at k3 HJ.out.2
      have r3 := hrW.out.keeps k3 (by omega) (by omega)
      have v3 : w3.cell? ⟨g, 0, none⟩ = some (.int .i64 x) := (k3.cells.1 g 0 (by omega)).trans v1
      have y3 : W.heap.size ≤ w3.heap.size := k3.size
      clear hq v1 m1 m2 m4 m5 m6 k3 hcell hL
      have HJ3 := Lib.hid (And.intro J3 (And.intro K3 r3))
      have m1 := cell_of_row w3 w.heap.size 0 _ 35 (0, 0) J3.1
      have m2 := cell_of_row w3 (w.heap.size + 1) 0 _ 33 (0, 0) J3.2.1
      have m4 := cell_of_row w3 (w.heap.size + 1 + 1 + 1) 0 _ 3 (0, 0) J3.2.2.2.1
      have z1 : w.heap.size < w3.heap.size := (Array.getElem?_eq_some_iff.1 J3.1).1
      have z2 : w.heap.size + 1 < w3.heap.size := (Array.getElem?_eq_some_iff.1 J3.2.1).1
      have z4 : w.heap.size + 1 + 1 + 1 < w3.heap.size := (Array.getElem?_eq_some_iff.1 J3.2.2.2.1).1
      have zg : g < w3.heap.size := by omega
      have zL : (Value.int .i64 x :: L'.map (Value.int .i64)).length = n := by rw [HN.out, hL2.out]; simp
      have HLn := Lib.hid (fun (w' : World) (hk : Keeps w3 w') => (show Calls Try.prog 14 #[.pointer (some ⟨S, 0, none⟩)] w' (fun e w'' => e = .returned (.int .i64 n) ∧ w' = w'') by
        have := Len_is S b room _ w' (HJ3.out.2.2.keeps hk (by omega) (by omega))
        rw [map_len, List.length_cons] at this
        rw [← zL, List.length_cons, map_len]
        exact this))
      have HRm := Lib.hid (fun (w' : World) (hk : Keeps w3 w') => Room_is S b room _ w' (HJ3.out.2.2.keeps hk (by omega) (by omega)))
      simp at m1 m2 m4
      clear J3 K3 r3 y3 zL
      gi_wp2
      refine wpIn_wide.2 ?_
      refine wp_region_keeps_last _ (by kernel_rfl) (by kernel_rfl) rfl ?_
      simp only [List.dropLast]
      repeat (first
          | (with_reducible refine wpQuiet_step (fun K hK => ?_); go_simp; refine hK _ ?_; clear hK K)
          | (with_reducible refine wpQuiet_step (fun K hK => ?_); go_simp
             apply Exists.intro
             refine ⟨fun w' hw' => ?_, hK _ ?_⟩
             focus
               obtain ⟨hcq, hfq⟩ := hw'.cells
               go_simp
               first
                 | (go_at_call 14; exact hw'.same (HLn.out w' hw'))
                 | (go_at_call 29; exact hw'.same (HRm.out w' hw'))
                 | rfl
             clear hK K)
          | (with_reducible refine wpQuiet_step (fun K hK => ?_); go_simp; with_reducible refine ite_no ?_ ?_; (exact (by decide)); refine hK _ ?_; clear hK K))
      with_reducible refine wpQuiet_nil ?_
      intro w9 hw9
      have g9 := old_at hw9 HJ3.out.1.2.2.1
      have g5 := cell_of_row w9 (w.heap.size + 1 + 1) 0 _ 4 (0, 0) g9
      have g6 := frozen_of_row w9 (w.heap.size + 1 + 1) 0 _ 4 g9
      simp at g5
      have G9 := Lib.hid (And.intro g9 hw9)
      clear g9 hw9
      go_wp2_with fail
      gi_wp2
      obtain ⟨g9, hw9⟩ := G9.out
      exact finish17 _ w _ (w.heap.size + 1 + 1) D rfl (heap_setCell_same w9 (w.heap.size + 1 + 1) 0 _ _ (.bool true) g9) ((heap_setCell_other _ _ _ _ (by show D ≠ w.heap.size + 1 + 1; omega)).trans (old_at hw9 HJ3.out.2.1)) (by omega) (by omega) ((Keeps.next HJ3.out.1.2.2.2.2 hw9).setCell (by show w.heap.size ≤ w.heap.size + 1 + 1; omega) _)
end numbers
end Go.Proofs.Ytiecdlfdfphflaa
