/- Has and Once of a ring of numbers. -/
import Derived.Test.YtiecdlfdfphflaaRingQ
namespace Go.Proofs.Ytiecdlfdfphflaa
set_option linter.unusedVariables false
open Go.RowKit Go.Shelf
attribute [local go_sem] Oper.semAt_some

theorem hao (w : World) (o : Obj) (i : Nat) (h : i < w.heap.size) : (w.alloc o).heap[i]? = w.heap[i]? := by
  show (w.heap.push o)[i]? = _
  rw [Array.getElem?_push, if_neg (by omega)]
theorem han (w : World) (o : Obj) (n : Nat) (h : n = w.heap.size) : (w.alloc o).heap[n]? = some o := by
  subst h; show (w.heap.push o)[w.heap.size]? = _; simp
theorem old_at {w w' : World} {g : Nat} {o : Obj} (h : Keeps w w') (hg : w.heap[g]? = some o) : w'.heap[g]? = some o :=
  (RowKit.Below.block h g (Array.getElem?_eq_some_iff.1 hg).1).trans hg

namespace numbers
theorem RingI.keeps {w w' : World} {S b room : Nat} {L : List Int} (h : RingI w S b room L) (hk : Keeps w w') (hS : S < w.heap.size) (hb : b < w.heap.size) : RingI w' S b room L :=
  RingIs.chg (cw := fun _ => False) h (Chg.of_below hk _) hS hb (fun h => h) (fun h => h)

/-- a function's word lies in a cell; one loop over an iterator behind it -/
theorem finish18 (T : Array Value) (w w9 : World) (R D : Nat) (v : Bool) (hT : T.getD 4 undef = .pointer (some ⟨R, 0, none⟩)) (g9 : w9.heap[R]? = some (.cells #[.bool v] 4 (0, 0))) (k1 : w9.heap[D]? = some (.deferred (some []))) (n1 : R < D) (hw : w.heap.size ≤ R) (hB : Below w.heap.size w w9) (y : Bool) (hy : v = y) :
    bodyPostM Fence.wide 9 Try.prog Try.f18 (fun e w' => e = .returned (.bool y) ∧ Below w.heap.size w w') .ret { tmps := T, defers := [{ target := .collected D, args := #[] }] } w9 := by
  subst hy
  refine ⟨by simp, .inl ⟨_, _, rfl, run_takeDeferred k1, ?_⟩⟩
  have e3 : (w9.putObj D (.deferred none)).heap[R]? = some (.cells #[.bool v] 4 (0, 0)) := (World.putObj_heap_other (by omega)).trans g9
  have c3 := cell_of_row _ R 0 _ 4 (0, 0) e3
  simp only [List.getElem?_toArray, List.getElem?_cons_zero] at c3
  have hB3 : Below w.heap.size w (w9.putObj D (.deferred none)) := hB.trans ⟨rfl, rfl, rfl, by simp, fun k hk => World.putObj_heap_other (by omega)⟩
  generalize w9.putObj D (.deferred none) = w13 at *
  have hT' : T[4]?.getD undef = .pointer (some ⟨R, 0, none⟩) := by simpa using hT
  refine ⟨.bool v, ?_, rfl, hB3⟩
  simp [results, Try.results18, go_sem, hT', c3]

def HsI (w : World) (x : Int) (L : List Int) (k : Nat) (W : World) : Prop :=
  W.heap[w.heap.size]? = some (.cells #[.int .i64 x] 3 (0, 0)) ∧ W.heap[w.heap.size + 1]? = some (.cells #[.bool false] 4 (0, 0)) ∧ Below w.heap.size w W ∧ ∀ j, j < k → L.getD j 0 ≠ x
def HsX (w : World) (x : Int) (L : List Int) (W : World) : Prop :=
  W.heap[w.heap.size + 1]? = some (.cells #[.bool true] 4 (0, 0)) ∧ Below w.heap.size w W ∧ x ∈ L
theorem HsI.chg {w : World} {x : Int} {L : List Int} {k : Nat} {cw : Nat → Prop} {A B : World} (h : HsI w x L k A) (hc : Chg cw A B) (h0 : ∀ i, cw i → w.heap.size + 1 < i) : HsI w x L k B := by
  obtain ⟨h1, h2, h3, h4⟩ := h
  have lt := fun (i : Nat) (o : Obj) (e : A.heap[i]? = some o) => (Array.getElem?_eq_some_iff.1 e).1
  exact ⟨(hc.block _ (lt _ _ h1) (fun h => by have := h0 _ h; omega)).trans h1, (hc.block _ (lt _ _ h2) (fun h => by have := h0 _ h; omega)).trans h2, h3.trans (hc.below h3.size (fun i h => by have := h0 _ h; omega)), h4⟩
theorem HsX.chg {w : World} {x : Int} {L : List Int} {cw : Nat → Prop} {A B : World} (h : HsX w x L A) (hc : Chg cw A B) (h0 : ∀ i, cw i → w.heap.size + 1 < i) : HsX w x L B := by
  obtain ⟨h2, h3, h4⟩ := h
  have lt := fun (i : Nat) (o : Obj) (e : A.heap[i]? = some o) => (Array.getElem?_eq_some_iff.1 e).1
  exact ⟨(hc.block _ (lt _ _ h2) (fun h => by have := h0 _ h; omega)).trans h2, h3.trans (hc.below h3.size (fun i h => by have := h0 _ h; omega)), h4⟩

set_option maxRecDepth 100000 in
set_option maxHeartbeats 2000000 in
theorem has_any (S b room : Nat) (L : List Int) (x : Int) (w : World) (hring : RingI w S b room L) (sS : S < w.heap.size) (sb : b < w.heap.size) :
    Calls Try.prog 18 #[.pointer (some ⟨S, 0, none⟩), .int .i64 x] w fun e w' => e = .returned (.bool (decide (x ∈ L))) ∧ Below w.heap.size w w' := by
  have HRI := Lib.hid hring
  clear hring
  refine (callsIn_wide (n := 9)).1 ?_
  refine callsIn_of_wp_marks Try.func18 rfl trivial ?_
  simp only [Try.ntmps18, List.size_toArray, List.length_cons, List.length_nil, Nat.reduceAdd, Nat.reduceSub, Array.replicate_succ, Array.replicate_zero, List.push_toArray, List.append_toArray, List.nil_append, List.cons_append]
  gi_wp2_with fail
  refine ⟨trivial, ?_⟩
  refine ((callsIn_wide (n := 8)).2 (All_any _ _)).mono ?_
  rintro e w2 ⟨rfl, rfl⟩
  obtain ⟨w0, hw0⟩ : ∃ w0, w0 = (((w.alloc (.cells #[.int .i64 x] 3)).alloc (.cells #[.bool false] 4)).alloc (.cells #[.pointer (some ⟨S, 0, none⟩)] 35)) := ⟨_, rfl⟩
  have hs0 : w0.heap.size = w.heap.size + 1 + 1 + 1 := by rw [hw0]; simp
  have hB0 : Below w.heap.size w w0 := by rw [hw0]; exact (((Below.refl _ _).alloc (Nat.le_refl _) _).alloc (by simp) _).alloc (by simp; omega) _
  have hI0 : HsI w x L 0 w0 := by
    refine ⟨?_, ?_, hB0, fun j hj => by omega⟩
    · rw [hw0, hao _ _ _ (by simp; omega), hao _ _ _ (by simp)]; exact han _ _ _ rfl
    · rw [hw0, hao _ _ _ (by simp)]; exact han _ _ _ (by simp)
  have hsq : w0.heap[w.heap.size + 1 + 1]? = some (.cells #[.pointer (some ⟨S, 0, none⟩)] 35 (0, 0)) := by rw [hw0]; exact han _ _ _ (by simp)
  have HBX := Lib.hid (And.intro hB0 (And.intro hI0 hsq))
  rw [← hw0]
  clear hw0 hB0 hI0 hsq
  gi_wp2
  obtain ⟨hB0, hI0, hsq⟩ := HBX.out
  refine wpIn_rangeFunc_it3 9 9 (gf := 30) (lb := #[.pointer (some ⟨w.heap.size + 1 + 1, 0, none⟩)]) rfl (enters_of Try.func30 (by kernel_rfl) rfl) (ringV L) (fun i => i = w.heap.size + 1 + 1 ∨ i = S ∨ i = b) (fun _ => False) (fun i e => by rw [hs0]; omega) (fun i e => e.elim)
    (fun W1 hW1 => all_call (w.heap.size + 1 + 1) S b room L W1 (HRI.out.keeps (Keeps.next hB0 hW1) sS sb) (by rw [cell_of_row W1 _ 0 _ 35 (0, 0) (old_at hW1 hsq)]; rfl) (by have := hW1.size; omega) (by have := hW1.size; omega) (by have := hW1.size; omega))
    (fun k v hv => by obtain ⟨_, rfl⟩ := ringV_get L k v hv; rfl)
    (fun i => i = w.heap.size + 1) (fun i e => by rw [hs0]; omega)
    (fun k W => HsI w x L k W) (fun c W => c = .ret ∧ HsX w x L W)
    (fun _ k a₁ _ => k < L.length ∧ a₁ = { tmps := #[.pointer (some ⟨S, 0, none⟩), .int .i64 x, undef, .pointer (some ⟨w.heap.size, 0, none⟩), .pointer (some ⟨w.heap.size + 1, 0, none⟩), undef, .int .i64 (L.getD k 0), .pointer (some ⟨S, 0, none⟩), .func (.func 30) #[] #[.pointer (some ⟨w.heap.size + 1 + 1, 0, none⟩)], .int .i64 (k : Nat), .int .i64 (L.getD k 0), undef, undef, undef], defers := [] })
    (fun k A B h hc => h.chg hc (fun i h => by rcases h with h | h; exact h.elim; omega)) (fun c A B h hc => ⟨h.1, h.2.chg hc (fun i h => by rcases h with h | h; exact h.elim; omega)⟩) (fun _ _ _ _ _ h _ => h) hI0 ?assign ?body ?done ?stop
  case assign =>
    intro lp k v W hv hlp hW hi
    obtain ⟨hk, rfl⟩ := ringV_get L k v hv
    have HK := Lib.hid hk
    clear hk hv
    generalize L.getD k 0 = y
    gi_wp2
    first
      | exact ⟨Chg.refl _ _, hi, HK.out, trivial⟩
      | exact ⟨Chg.refl _ _, hi, HK.out, rfl⟩
  case body =>
    rintro lp k v a₁ W hv hlp hW hr ⟨h1, h2, h3, h4⟩ ⟨hk, rfl⟩
    clear hv hr
    have m1 := cell_of_row W w.heap.size 0 _ 3 (0, 0) h1
    have m2 := frozen_of_row W (w.heap.size + 1) 0 _ 4 h2
    have m3 := cell_of_row W (w.heap.size + 1) 0 _ 4 (0, 0) h2
    simp at m1 m3
    have HH := Lib.hid (And.intro h1 (And.intro h2 (And.intro h3 h4)))
    have HK := Lib.hid hk
    clear h1 h2 h3 h4 hk
    generalize hy : L.getD k 0 = y at *
    have HY := Lib.hid hy
    clear hy
    by_cases hxy : x = y
    · have hb1 : (x == y) = true := by simpa using hxy
      have HXY := Lib.hid hxy
      clear hxy
      gi_wp2
      obtain ⟨h1, h2, h3, h4⟩ := HH.out
      refine ⟨Chg.setCell (cw := fun i => i = w.heap.size + 1) (Chg.refl _ _) (p := ⟨w.heap.size + 1, 0, none⟩) (.inl rfl) _, rfl, ?_, h3.setCell (by show w.heap.size ≤ w.heap.size + 1; omega) _, ?_⟩
      · exact heap_setCell_same W (w.heap.size + 1) 0 _ _ (.bool true) h2
      · rw [HXY.out, ← HY.out]
        have := HK.out
        simp [List.getD, this]
    · have hb1 : (x == y) = false := by simpa using hxy
      have HXY := Lib.hid hxy
      clear hxy
      gi_wp2
      obtain ⟨h1, h2, h3, h4⟩ := HH.out
      refine ⟨Chg.refl _ _, h1, h2, h3, fun j hj => ?_⟩
      by_cases e : j = k
      · subst e; rw [HY.out]; exact fun e => HXY.out e.symm
      · exact h4 j (by omega)
  case done =>
    rintro D W hD hJ hK
    have hJ : HsI w x L L.length W := by rwa [ringV_len] at hJ
    obtain ⟨h1, h2, h3, h4⟩ := hJ
    have m2 := frozen_of_row W (w.heap.size + 1) 0 _ 4 h2
    have m3 := cell_of_row W (w.heap.size + 1) 0 _ 4 (0, 0) h2
    simp at m3
    have HH := Lib.hid (And.intro h2 (And.intro h3 (And.intro h4 hK)))
    clear h1 h2 h3 h4 hK
    gi_wp2
    obtain ⟨h2, h3, h4, hK⟩ := HH.out
    refine finish18 _ w _ (w.heap.size + 1) D false rfl (heap_setCell_same W (w.heap.size + 1) 0 _ _ (.bool false) h2) ((heap_setCell_other _ _ _ _ (by show D ≠ w.heap.size + 1; omega)).trans hK) (by omega) (by omega) (h3.setCell (by show w.heap.size ≤ w.heap.size + 1; omega) _) _ ?_
    refine (decide_eq_false ?_).symm
    intro hm
    obtain ⟨j, hj, rfl⟩ := List.getElem_of_mem hm
    exact h4 j hj (by simp [List.getD, hj])
  case stop =>
    rintro D c W hD ⟨rfl, h2, h3, h4⟩ hK
    have HH := Lib.hid (And.intro h2 (And.intro h3 (And.intro h4 hK)))
    clear h2 h3 h4 hK
    gi_wp2
    obtain ⟨h2, h3, h4, hK⟩ := HH.out
    exact finish18 _ w _ (w.heap.size + 1) D true rfl h2 hK (by omega) (by omega) h3 _ (decide_eq_true h4).symm
end numbers
end Go.Proofs.Ytiecdlfdfphflaa
