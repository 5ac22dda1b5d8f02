/- Copy of a ring of numbers. -/
import Derived.Test.YtiecdlfdfphflaaRingR
namespace Go.Proofs.Ytiecdlfdfphflaa
set_option linter.unusedVariables false
open Go.RowKit Go.Shelf
attribute [local go_sem] Oper.semAt_some
namespace numbers

/-- between two rounds of Copy -/
def CpI (w : World) (room : Nat) (L : List Int) (k : Nat) (W : World) : Prop :=
  (∃ vs, RingAt W (w.heap.size + 1) w.heap.size room vs 0 k ∧ ∀ j, j < k → vs j = .int .i64 (L.getD j 0)) ∧ W.heap[w.heap.size + 1 + 1]? = some (.cells #[.pointer (some ⟨w.heap.size + 1, 0, none⟩)] 35 (0, 0)) ∧ Below w.heap.size w W
theorem CpI.chg {w : World} {room : Nat} {L : List Int} {k : Nat} {cw : Nat → Prop} {A B : World} (h : CpI w room L k A) (hc : Chg cw A B) (h0 : ∀ i, cw i → w.heap.size + 1 + 1 < i) : CpI w room L k B := by
  obtain ⟨⟨vs, h1, h2⟩, h3, h4⟩ := h
  have hl := (Array.getElem?_eq_some_iff.1 h3).1
  exact ⟨⟨vs, h1.chg hc (by omega) (by omega) (fun h => by have := h0 _ h; omega) (fun h => by have := h0 _ h; omega), h2⟩, (hc.block _ hl (fun h => by have := h0 _ h; omega)).trans h3, h4.trans (hc.below h4.size (fun i h => by have := h0 _ h; omega))⟩

set_option maxRecDepth 100000 in
set_option maxHeartbeats 2000000 in
theorem copy_any (S b room : Nat) (L : List Int) (w : World) (hring : RingI w S b room L) (sS : S < w.heap.size) (sb : b < w.heap.size) :
    Calls Try.prog 15 #[.pointer (some ⟨S, 0, none⟩)] w fun e w' => e = .returned (.pointer (some ⟨w.heap.size + 1, 0, none⟩)) ∧ RingI w' (w.heap.size + 1) w.heap.size room L ∧ Below w.heap.size w w' ∧ w.heap.size + 1 < w'.heap.size := by
  have HRI := Lib.hid hring
  obtain ⟨vs0, at0, hr0, _⟩ := hring
  have hLr : L.length ≤ room := by have := hr0.nle; rwa [map_len] at this
  have c0 := hr0.c0
  have r1 := hr0.room1
  have r2 := hr0.room2
  have hmk := run_make_row' (P := Try.prog) 33 3 (.int .i64 0) 8 Try.underlying33 info rfl .i64 .i64 room (by omega) (by omega)
  clear hr0
  refine (callsIn_wide (n := 9)).1 ?_
  refine callsIn_of_wp_marks Try.func15 rfl trivial ?_
  simp only [Try.ntmps15, List.size_toArray, List.length_cons, List.length_nil, Nat.reduceAdd, Nat.reduceSub, Array.replicate_succ, Array.replicate_zero, List.push_toArray, List.append_toArray, List.nil_append, List.cons_append]
  gi_wp2_with fail
  refine ⟨trivial, ?_⟩
  refine ((callsIn_wide (n := 8)).2 (All_any _ _)).mono ?_
  rintro e w2 ⟨rfl, rfl⟩
  obtain ⟨w0, hw0⟩ : ∃ w0, w0 = ((((w.alloc (.cells (madeCells #[.int .i64 0] room) 3)).alloc (.cells #[.slice (some ⟨w.heap.size, 0, none⟩) room room, .int .i64 0, .int .i64 0] 60)).alloc (.cells #[.pointer (some ⟨w.heap.size + 1, 0, none⟩)] 35)).alloc (.cells #[.pointer (some ⟨S, 0, none⟩)] 35)) := ⟨_, rfl⟩
  have hs0 : w0.heap.size = w.heap.size + 1 + 1 + 1 + 1 := by rw [hw0]; simp
  have hB0 : Below w.heap.size w w0 := by rw [hw0]; exact ((((Below.refl _ _).alloc (Nat.le_refl _) _).alloc (by simp) _).alloc (by simp; omega) _).alloc (by simp; omega) _
  have hI0 : CpI w room L 0 w0 := by
    refine ⟨?_, ?_, hB0⟩
    · obtain ⟨vs, at', hr, _⟩ := New_ring room r1 r2 w
      have hat : at' = 0 := by
        have := hr.c1
        simp [go_sem] at this
        omega
      subst hat
      refine ⟨vs, ?_, fun j hj => by omega⟩
      rw [hw0]
      refine RingAt.chg (cw := fun _ => False) hr (((Chg.refl _ _).alloc _).alloc _) (by simp) (by simp; omega) (fun h => h) (fun h => h)
    · rw [hw0, hao _ _ _ (by simp)]; exact han _ _ _ (by simp)
  have hsq : w0.heap[w.heap.size + 1 + 1 + 1]? = some (.cells #[.pointer (some ⟨S, 0, none⟩)] 35 (0, 0)) := by rw [hw0]; exact han _ _ _ (by simp)
  have HBX := Lib.hid (And.intro hB0 (And.intro hI0 hsq))
  rw [← hw0]
  clear hw0 hB0 hI0 hsq c0 hmk
  gi_wp2
  obtain ⟨hB0, hI0, hsq⟩ := HBX.out
  refine wpIn_rangeFunc_it3 9 9 (gf := 30) (lb := #[.pointer (some ⟨w.heap.size + 1 + 1 + 1, 0, none⟩)]) rfl (enters_of Try.func30 (by kernel_rfl) rfl) (ringV L) (fun i => i = w.heap.size + 1 + 1 + 1 ∨ i = S ∨ i = b) (fun _ => False) (fun i e => by rw [hs0]; omega) (fun i e => e.elim)
    (fun W1 hW1 => all_call (w.heap.size + 1 + 1 + 1) S b room L W1 (HRI.out.keeps (Keeps.next hB0 hW1) sS sb) (by rw [cell_of_row W1 _ 0 _ 35 (0, 0) (old_at hW1 hsq)]; rfl) (by have := hW1.size; omega) (by have := hW1.size; omega) (by have := hW1.size; omega))
    (fun k v hv => by obtain ⟨_, rfl⟩ := ringV_get L k v hv; rfl)
    (fun i => i = w.heap.size + 1 ∨ i = w.heap.size) (fun i e => by rw [hs0]; omega)
    (fun k W => CpI w room L k W) (fun c W => False)
    (fun _ k a₁ _ => k < L.length ∧ a₁ = { tmps := #[.pointer (some ⟨S, 0, none⟩), undef, .pointer none, .pointer (some ⟨w.heap.size + 1 + 1, 0, none⟩), .int .i64 (k : Nat), .int .i64 (L.getD k 0), .pointer (some ⟨S, 0, none⟩), .pointer (some ⟨S, 0, none⟩), .pointer (some ⟨S, 0, none⟩), .slice (some ⟨b, 0, none⟩) room room, .int .i64 room, .slice (some ⟨w.heap.size, 0, none⟩) room room, .agg #[.slice (some ⟨w.heap.size, 0, none⟩) room room, .int .i64 0, .int .i64 0], .pointer (some ⟨w.heap.size + 1, 0, none⟩), .pointer (some ⟨S, 0, none⟩), .func (.func 30) #[] #[.pointer (some ⟨w.heap.size + 1 + 1 + 1, 0, none⟩)], .int .i64 (k : Nat), .int .i64 (L.getD k 0), undef, undef, undef, undef, undef, undef, undef, undef, undef, undef, undef, undef, undef, undef, undef], defers := [] })
    (fun k A B h hc => h.chg hc (fun i h => by rcases h with h | h; exact h.elim; omega)) (fun c A B h hc => h) (fun _ _ _ _ _ h _ => h) hI0 ?assign ?body ?done (fun _ _ _ _ h _ => h.elim)
  case assign =>
    intro lp k v W hv hlp hW hi
    obtain ⟨hk, rfl⟩ := ringV_get L k v hv
    have HK := Lib.hid hk
    clear hk hv
    generalize L.getD k 0 = y
    gi_wp2
    first
      | exact ⟨Chg.refl _ _, hi, HK.out, trivial⟩
      | exact ⟨Chg.refl _ _, hi, HK.out, rfl⟩
  case body =>
    rintro lp k v a₁ W hv hlp hW hr ⟨⟨vs, h1, h2⟩, h3, h4⟩ ⟨hk, rfl⟩
    clear hv hr
    obtain ⟨c0, c1, c2, f1, f2, vc, vf, ne, _, _, al, nl⟩ := id h1
    have hkr : k < room := by omega
    have hkI : (k : Int) < room := by omega
    have m3 := cell_of_row W (w.heap.size + 1 + 1) 0 _ 35 (0, 0) h3
    simp at m3
    have v1 := vc k hkr
    have v2 := vf k hkr
    have HH := Lib.hid (And.intro h1 (And.intro h2 (And.intro h3 (And.intro h4 hkr))))
    have HK := Lib.hid hk
    clear h1 h2 h3 h4 hk vc vf nl hkr
    generalize hy : L.getD k 0 = y at *
    have HY := Lib.hid hy
    clear hy
    gi_wp2
    obtain ⟨h1, h2, h3, h4, hkr⟩ := HH.out
    have g1 := (h1.set_place hkr (.int .i64 y)).set_n (m := k + 1) hkr
    have hch : Chg (fun i => i = w.heap.size + 1 ∨ i = w.heap.size) W ((W.setCell ⟨w.heap.size, k, none⟩ (.int .i64 y)).setCell ⟨w.heap.size + 1, 2, none⟩ (.int .i64 ((k : Int) + 1))) := ((Chg.refl _ _).setCell (p := ⟨w.heap.size, k, none⟩) (.inl (.inr rfl)) _).setCell (p := ⟨w.heap.size + 1, 2, none⟩) (.inl (.inl rfl)) _
    refine ⟨hch, ⟨_, g1, fun j hj => ?_⟩, (hch.block _ (Array.getElem?_eq_some_iff.1 h3).1 (by omega)).trans h3, h4.trans (hch.below h4.size (fun i h => by omega))⟩
    unfold upd
    by_cases e : j = k
    · subst e; rw [if_pos rfl, HY.out]
    · rw [if_neg e, h2 j (by omega)]
  case done =>
    rintro D W hD hJ hK
    have hJ : CpI w room L L.length W := by rwa [ringV_len] at hJ
    have m3 := cell_of_row W (w.heap.size + 1 + 1) 0 _ 35 (0, 0) hJ.2.1
    simp at m3
    have HH := Lib.hid (And.intro hJ hK)
    clear hJ hK
    gi_wp2
    obtain ⟨⟨⟨vs, h1, h2⟩, h3, h4⟩, hK⟩ := HH.out
    refine ⟨by simp, .inl ⟨_, _, rfl, run_takeDeferred hK, ?_⟩⟩
    have hc : Chg (fun i => i = D) W (W.putObj D (.deferred none)) := Chg.putObj (cw := fun i => i = D) (Chg.refl _ _) (.inl rfl) _
    have hz := (Array.getElem?_eq_some_iff.1 h3).1
    refine ⟨.pointer (some ⟨w.heap.size + 1, 0, none⟩), by simp [results, Try.results15, go_sem], rfl, ⟨vs, 0, ?_, fun i hi => ?_⟩, h4.trans (hc.below h4.size (fun i h => by omega)), by simp; omega⟩
    · rw [map_len]; exact h1.chg hc (by omega) (by omega) (by omega) (by omega)
    · have hi' : i < L.length := by simpa using hi
      rw [Nat.zero_add, Nat.mod_eq_of_lt (by omega), h2 i hi']
      simp [List.getD, hi']
end numbers
end Go.Proofs.Ytiecdlfdfphflaa
