/- a step of a ring and of the document's list. -/
import Derived.Test.YtiecdlfdfphflaaRingS
namespace Go.Proofs.Ytiecdlfdfphflaa
set_option linter.unusedVariables false
open Go.RowKit Go.Shelf
namespace numbers

theorem SlI.mono {W : World} {base base' : Nat} {v : Value} {L : List Int} (h : SlI W base v L) (hb : base' ≤ base) : SlI W base' v L := by
  obtain ⟨h1, ⟨rfl, h2⟩ | ⟨g, cap, cur, rfl, hg, rest⟩⟩ := h
  · exact ⟨h1, .inl ⟨rfl, h2⟩⟩
  · exact ⟨h1, .inr ⟨g, cap, cur, rfl, by omega, rest⟩⟩
theorem SlI.chg {W W' : World} {base : Nat} {v : Value} {L : List Int} {cw : Nat → Prop} (h : SlI W base v L) (hc : Chg cw W W') (h0 : ∀ g, cw g → g < base) : SlI W' base v L := by
  obtain ⟨h1, ⟨rfl, h2⟩ | ⟨g, cap, cur, rfl, hg, hh, rest⟩⟩ := h
  · exact ⟨h1, .inl ⟨rfl, h2⟩⟩
  · exact ⟨h1, .inr ⟨g, cap, cur, rfl, hg, (hc.block g (Array.getElem?_eq_some_iff.1 hh).1 (fun h => by have := h0 _ h; omega)).trans hh, rest⟩⟩
theorem SlI.slice {W : World} {base : Nat} {v : Value} {L : List Int} (h : SlI W base v L) : ∃ a cap, v = .slice a L.length cap := by
  rcases h.cases with ⟨rfl, rfl⟩ | ⟨g, cap, rfl, _⟩
  · exact ⟨_, _, rfl⟩
  · exact ⟨_, _, rfl⟩

/-- a slice is the elder one, or lies in new memory -/
def Fresh (B : Nat) (v v' : Value) : Prop := v' = v ∨ ∀ g, v'.ownBlock = some g → B ≤ g
theorem Fresh.mono {B B' : Nat} {v v' : Value} (h : Fresh B v v') (hb : B' ≤ B) : Fresh B' v v' := h.imp id (fun h g hg => Nat.le_trans hb (h g hg))
theorem SlI.fresh {W : World} {base : Nat} {v v' : Value} {L : List Int} (h : SlI W base v' L) : Fresh base v v' := .inr (fun g hg => (World.ownsRow.lt h g hg).1)
theorem rpush_any (base : Nat) (v : Value) (L : List Int) (room : Nat) (x : Int) (w : World) (h : SlI w base v L) (hb : base ≤ w.heap.size) (hl : L.length ≤ 4096) :
    Calls Try.prog 25 #[v, .int .i64 room, .int .i64 x] w fun e w' => ∃ v', e = .returned (.tuple #[v', .int .i64 (pushE L room)]) ∧ SlI w' base v' (pushL L room x) ∧ Below w.heap.size w w' ∧ Fresh w.heap.size v v' := by
  by_cases hn : L.length < room
  · refine (rpush_room base v L room x w h hl (by omega)).mono ?_
    rintro e w' ⟨v', rfl, h1, h2⟩
    unfold pushE pushL
    rw [if_pos hn, if_pos hn]
    exact ⟨v', rfl, h1.mono hb, h2, h1.fresh⟩
  · obtain ⟨a, cap, hv⟩ := h.slice
    refine (rpush_full v L.length L room x a cap hv (by omega) w).mono ?_
    rintro e w' ⟨rfl, rfl⟩
    unfold pushE pushL
    rw [if_neg hn, if_neg hn]
    exact ⟨v, rfl, h, Below.refl _ _, .inl rfl⟩

def remL (L : List Int) (j : Int) : List Int := if 0 ≤ j ∧ j < L.length then L.eraseIdx j.toNat else L
def remX (L : List Int) (j : Int) : Int := if 0 ≤ j ∧ j < L.length then L.getD j.toNat 0 else 0
def remE (L : List Int) (j : Int) : Int := if 0 ≤ j ∧ j < L.length then 0 else 13
theorem rrem_any (base : Nat) (v : Value) (L : List Int) (j : Int) (w : World) (h : SlI w base v L) (hb : base ≤ w.heap.size) (hl : L.length ≤ 4096) :
    Calls Try.prog 27 #[v, .int .i64 j] w fun e w' => ∃ v', e = .returned (.tuple #[v', .int .i64 (remX L j), .int .i64 (remE L j)]) ∧ SlI w' base v' (remL L j) ∧ Below w.heap.size w w' ∧ Fresh w.heap.size v v' := by
  unfold remL remX remE
  by_cases hj : 0 ≤ j ∧ j < L.length
  · obtain ⟨i, rfl⟩ := Int.eq_ofNat_of_zero_le hj.1
    refine (rrem_at base v L i w h hl (by omega)).mono ?_
    rintro e w' ⟨v', rfl, h1, h2⟩
    rw [if_pos hj, if_pos hj, if_pos hj]
    exact ⟨v', rfl, h1.mono hb, h2, h1.fresh⟩
  · obtain ⟨a, cap, hv⟩ := h.slice
    refine (rrem_none v L.length j a cap hv (by omega) w).mono ?_
    rintro e w' ⟨rfl, rfl⟩
    rw [if_neg hj, if_neg hj, if_neg hj]
    exact ⟨v, rfl, h, Below.refl _ _, .inl rfl⟩
theorem rem_any (S b room : Nat) (L : List Int) (j : Int) (w : World) (h : RingI w S b room L) :
    Calls Try.prog 23 #[.pointer (some ⟨S, 0, none⟩), .int .i64 j] w fun e w' => e = .returned (.tuple #[.int .i64 (remX L j), .int .i64 (remE L j)]) ∧ (RingI w' S b room (remL L j) ∧ Chg (Two S b) w w') := by
  unfold remL remX remE
  by_cases hj : 0 ≤ j ∧ j < L.length
  · obtain ⟨i, rfl⟩ := Int.eq_ofNat_of_zero_le hj.1
    refine (remove_at S b room L i (by omega) w h).mono ?_
    rintro e w' ⟨rfl, h1, h2⟩
    rw [if_pos hj, if_pos hj, if_pos hj]
    exact ⟨rfl, h1, h2⟩
  · obtain ⟨vs, at', hr, hl⟩ := id h
    rw [map_len] at hr
    refine (remove_none S b room at' L.length vs j (by omega) w hr).mono ?_
    rintro e w' ⟨rfl, rfl⟩
    rw [if_neg hj, if_neg hj, if_neg hj]
    exact ⟨rfl, h, Chg.refl _ _⟩
theorem pop_any (S b room : Nat) (L : List Int) (w : World) (h : RingI w S b room L) :
    Calls Try.prog 12 #[.pointer (some ⟨S, 0, none⟩)] w fun e w' => e = .returned (.tuple #[.int .i64 (remX L 0), .int .i64 (remE L 0)]) ∧ (RingI w' S b room (remL L 0) ∧ Chg (Two S b) w w') :=
  Pop_of S _ _ w _ (rem_any S b room L 0 w h)

/-- a step of the list -/
def stepL (L : List Int) (room : Nat) (kind x : Int) : List Int :=
  if kind = 1 then pushL L room x else if kind = 2 then onceL L room x else if kind = 3 then remL L 0 else if kind = 4 then remL L x else L
theorem stepL_le (L : List Int) (room : Nat) (kind x : Int) (h : L.length ≤ room) : (stepL L room kind x).length ≤ room := by
  have hp : ∀ L : List Int, L.length ≤ room → (pushL L room x).length ≤ room := fun L h => by
    unfold pushL; split
    · rw [List.length_append]; simpa using by omega
    · exact h
  have hr : ∀ j, (remL L j).length ≤ room := fun j => by
    unfold remL; split
    · have := List.length_eraseIdx_le L j.toNat; omega
    · exact h
  unfold stepL onceL
  split
  · exact hp L h
  · split
    · split
      · exact h
      · exact hp L h
    · split
      · exact hr 0
      · split
        · exact hr x
        · exact h

/-- what a step leaves -/
def StepPost (S b room base : Nat) (v : Value) (L' : List Int) (w : World) (e : Ending) (w' : World) : Prop :=
  ∃ v', e = .returned (.tuple #[v', .bool true]) ∧ RingI w' S b room L' ∧ SlI w' base v' L' ∧ Chg (Two S b) w w' ∧ Fresh w.heap.size v v'

/-- a call that leaves what lay: the ring, the list, a box -/
theorem box_at {w W : World} {k x : Int} (h : Keeps (w.alloc (.cells #[.int .i64 k, .int .i64 x] 44)) W) : W.cell? ⟨w.heap.size, 1, none⟩ = some (.int .i64 x) ∧ W.cell? ⟨w.heap.size, 0, none⟩ = some (.int .i64 k) := by
  have hg := old_at h (heap_alloc_new w _)
  exact ⟨by rw [cell_of_row W _ 1 _ 44 (0, 0) hg]; rfl, by rw [cell_of_row W _ 0 _ 44 (0, 0) hg]; rfl⟩
theorem box_chg {w W : World} {k x : Int} {cw : Nat → Prop} (h : Chg cw (w.alloc (.cells #[.int .i64 k, .int .i64 x] 44)) W) (hn : ¬ cw w.heap.size) : W.cell? ⟨w.heap.size, 1, none⟩ = some (.int .i64 x) ∧ W.cell? ⟨w.heap.size, 0, none⟩ = some (.int .i64 k) := by
  have hg := (h.block w.heap.size (by simp) hn).trans (heap_alloc_new w _)
  exact ⟨by rw [cell_of_row W _ 1 _ 44 (0, 0) hg]; rfl, by rw [cell_of_row W _ 0 _ 44 (0, 0) hg]; rfl⟩


set_option maxRecDepth 100000 in
set_option maxHeartbeats 2000000 in
theorem step_push (S b room base : Nat) (v : Value) (L : List Int) (x : Int) (w : World) (h : RingI w S b room L) (hs : SlI w base v L) (hb : base ≤ w.heap.size) (sS : S < base) (sb : b < base) (hl : L.length ≤ 4096) :
    Calls Try.prog 16 #[.pointer (some ⟨S, 0, none⟩), v, .int .i64 room, .agg #[.int .i64 1, .int .i64 x]] w (StepPost S b room base v (pushL L room x) w) := by
  have kA : Keeps w (w.alloc (.cells #[.int .i64 1, .int .i64 x] 44)) := (Below.refl _ _).alloc (Nat.le_refl _) _
  have cA : Chg (fun _ => False) w (w.alloc (.cells #[.int .i64 1, .int .i64 x] 44)) := Chg.of_below kA _
  have hsA := Lib.hid (hs.chg cA (fun _ h => h.elim))
  have hrA := Lib.hid (h.keeps kA (by omega) (by omega))
  have bA : base ≤ (w.alloc (.cells #[.int .i64 1, .int .i64 x] 44)).heap.size := Nat.le_trans hb kA.size
  have H0 := Lib.hid (And.intro hb (And.intro sS (And.intro sb (And.intro hl (And.intro kA (And.intro cA bA))))))
  have two : ∀ g, Two S b g → g < base := fun g hg => by rcases hg with h | h <;> omega
  have TW := Lib.hid two
  have nbox : ¬ Two S b w.heap.size := fun hg => by rcases hg with h | h <;> omega
  have NB := Lib.hid nbox
  clear h hs hb sS sb hl kA cA bA two nbox
  have pe := Lib.hid (rfl : pushE L room = pushE L room)
  go_enter Try.func16, Try.ntmps16
  go_wp2_with fail
  refine (rpush_any base v L room x _ hsA.out H0.out.2.2.2.2.2.2 H0.out.2.2.2.1).mono ?_
  rintro e w2 ⟨v', rfl, h1, h2, hfr⟩
  have HFR := Lib.hid hfr
  clear hfr
  obtain ⟨b1, b0⟩ := box_at h2
  have hr2 := Lib.hid (hrA.out.keeps h2 (by have := H0.out; simp; omega) (by have := H0.out; simp; omega))
  have X2 := Lib.hid (And.intro h1 h2)
  clear h1 h2 b0
  go_wp2_with fail
  refine (push_any S b room L x _ hr2.out).mono ?_
  rintro e w3 ⟨rfl, h3, h4⟩
  have X3 := Lib.hid (And.intro h3 h4)
  clear h3 h4
  generalize pushE L room = q at *
  go_wp2_with fail
  go_ret2
  obtain ⟨h1, h2⟩ := X2.out
  obtain ⟨h3, h4⟩ := X3.out
  exact ⟨v', rfl, h3, h1.chg h4 TW.out, ((H0.out.2.2.2.2.2.1.mono (fun _ _ h => h.elim)).trans (Chg.of_below h2 _)).trans h4, HFR.out.mono (by simp)⟩

set_option maxRecDepth 100000 in
set_option maxHeartbeats 2000000 in
theorem step_rem (S b room base : Nat) (v : Value) (L : List Int) (x : Int) (w : World) (h : RingI w S b room L) (hs : SlI w base v L) (hb : base ≤ w.heap.size) (sS : S < base) (sb : b < base) (hl : L.length ≤ 4096) :
    Calls Try.prog 16 #[.pointer (some ⟨S, 0, none⟩), v, .int .i64 room, .agg #[.int .i64 4, .int .i64 x]] w (StepPost S b room base v (remL L x) w) := by
  have kA : Keeps w (w.alloc (.cells #[.int .i64 4, .int .i64 x] 44)) := (Below.refl _ _).alloc (Nat.le_refl _) _
  have cA : Chg (fun _ => False) w (w.alloc (.cells #[.int .i64 4, .int .i64 x] 44)) := Chg.of_below kA _
  have hsA := Lib.hid (hs.chg cA (fun _ h => h.elim))
  have hrA := Lib.hid (h.keeps kA (by omega) (by omega))
  have bA : base ≤ (w.alloc (.cells #[.int .i64 4, .int .i64 x] 44)).heap.size := Nat.le_trans hb kA.size
  have H0 := Lib.hid (And.intro hb (And.intro sS (And.intro sb (And.intro hl (And.intro kA (And.intro cA bA))))))
  have two : ∀ g, Two S b g → g < base := fun g hg => by rcases hg with h | h <;> omega
  have TW := Lib.hid two
  have nbox : ¬ Two S b w.heap.size := fun hg => by rcases hg with h | h <;> omega
  have NB := Lib.hid nbox
  clear h hs hb sS sb hl kA cA bA two nbox
  go_enter Try.func16, Try.ntmps16
  go_wp2_with fail
  refine (rem_any S b room L x _ hrA.out).mono ?_
  rintro e w2 ⟨rfl, h3, h4⟩
  obtain ⟨b1, b0⟩ := box_chg h4 NB.out
  have X2 := Lib.hid (And.intro h3 h4)
  have hs2 := Lib.hid (hsA.out.chg h4 TW.out)
  have hz2 := Lib.hid h4.size
  clear h3 h4 b0
  go_wp2_with fail
  refine (rrem_any base v L x _ hs2.out (Nat.le_trans H0.out.2.2.2.2.2.2 hz2.out) H0.out.2.2.2.1).mono ?_
  rintro e w3 ⟨v', rfl, h1, h2, hfr⟩
  have HFR := Lib.hid hfr
  clear hfr
  have X3 := Lib.hid (And.intro h1 h2)
  clear h1 h2
  go_wp2_with fail
  go_ret2
  obtain ⟨h3, h4⟩ := X2.out
  obtain ⟨h1, h2⟩ := X3.out
  have hz := h4.size
  exact ⟨v', rfl, h3.keeps h2 (by have := H0.out; simp at hz; omega) (by have := H0.out; simp at hz; omega), h1, ((H0.out.2.2.2.2.2.1.mono (fun _ _ h => h.elim)).trans h4).trans (Chg.of_below h2 _), HFR.out.mono (by simp at hz; omega)⟩

set_option maxRecDepth 100000 in
set_option maxHeartbeats 2000000 in
theorem step_pop (S b room base : Nat) (v : Value) (L : List Int) (x : Int) (w : World) (h : RingI w S b room L) (hs : SlI w base v L) (hb : base ≤ w.heap.size) (sS : S < base) (sb : b < base) (hl : L.length ≤ 4096) :
    Calls Try.prog 16 #[.pointer (some ⟨S, 0, none⟩), v, .int .i64 room, .agg #[.int .i64 3, .int .i64 x]] w (StepPost S b room base v (remL L 0) w) := by
  have kA : Keeps w (w.alloc (.cells #[.int .i64 3, .int .i64 x] 44)) := (Below.refl _ _).alloc (Nat.le_refl _) _
  have cA : Chg (fun _ => False) w (w.alloc (.cells #[.int .i64 3, .int .i64 x] 44)) := Chg.of_below kA _
  have hsA := Lib.hid (hs.chg cA (fun _ h => h.elim))
  have hrA := Lib.hid (h.keeps kA (by omega) (by omega))
  have bA : base ≤ (w.alloc (.cells #[.int .i64 3, .int .i64 x] 44)).heap.size := Nat.le_trans hb kA.size
  have H0 := Lib.hid (And.intro hb (And.intro sS (And.intro sb (And.intro hl (And.intro kA (And.intro cA bA))))))
  have two : ∀ g, Two S b g → g < base := fun g hg => by rcases hg with h | h <;> omega
  have TW := Lib.hid two
  have nbox : ¬ Two S b w.heap.size := fun hg => by rcases hg with h | h <;> omega
  have NB := Lib.hid nbox
  clear h hs hb sS sb hl kA cA bA two nbox
  go_enter Try.func16, Try.ntmps16
  go_wp2_with fail
  refine (pop_any S b room L _ hrA.out).mono ?_
  rintro e w2 ⟨rfl, h3, h4⟩
  obtain ⟨b1, b0⟩ := box_chg h4 NB.out
  have X2 := Lib.hid (And.intro h3 h4)
  have hs2 := Lib.hid (hsA.out.chg h4 TW.out)
  have hz2 := Lib.hid h4.size
  clear h3 h4 b0
  go_wp2_with fail
  refine (rrem_any base v L 0 _ hs2.out (Nat.le_trans H0.out.2.2.2.2.2.2 hz2.out) H0.out.2.2.2.1).mono ?_
  rintro e w3 ⟨v', rfl, h1, h2, hfr⟩
  have HFR := Lib.hid hfr
  clear hfr
  have X3 := Lib.hid (And.intro h1 h2)
  clear h1 h2
  go_wp2_with fail
  go_ret2
  obtain ⟨h3, h4⟩ := X2.out
  obtain ⟨h1, h2⟩ := X3.out
  have hz := h4.size
  exact ⟨v', rfl, h3.keeps h2 (by have := H0.out; simp at hz; omega) (by have := H0.out; simp at hz; omega), h1, ((H0.out.2.2.2.2.2.1.mono (fun _ _ h => h.elim)).trans h4).trans (Chg.of_below h2 _), HFR.out.mono (by simp at hz; omega)⟩

set_option maxRecDepth 100000 in
set_option maxHeartbeats 2000000 in
theorem step_once_in (S b room base : Nat) (v : Value) (L : List Int) (x : Int) (w : World) (h : RingI w S b room L) (hs : SlI w base v L) (hb : base ≤ w.heap.size) (sS : S < base) (sb : b < base) (hl : L.length ≤ 4096) (hx : x ∈ L):
    Calls Try.prog 16 #[.pointer (some ⟨S, 0, none⟩), v, .int .i64 room, .agg #[.int .i64 2, .int .i64 x]] w (StepPost S b room base v (onceL L room x) w) := by
  have kA : Keeps w (w.alloc (.cells #[.int .i64 2, .int .i64 x] 44)) := (Below.refl _ _).alloc (Nat.le_refl _) _
  have cA : Chg (fun _ => False) w (w.alloc (.cells #[.int .i64 2, .int .i64 x] 44)) := Chg.of_below kA _
  have hsA := Lib.hid (hs.chg cA (fun _ h => h.elim))
  have hrA := Lib.hid (h.keeps kA (by omega) (by omega))
  have bA : base ≤ (w.alloc (.cells #[.int .i64 2, .int .i64 x] 44)).heap.size := Nat.le_trans hb kA.size
  have H0 := Lib.hid (And.intro hb (And.intro sS (And.intro sb (And.intro hl (And.intro kA (And.intro cA bA))))))
  have two : ∀ g, Two S b g → g < base := fun g hg => by rcases hg with h | h <;> omega
  have TW := Lib.hid two
  have nbox : ¬ Two S b w.heap.size := fun hg => by rcases hg with h | h <;> omega
  have NB := Lib.hid nbox
  clear h hs hb sS sb hl kA cA bA two nbox
  have hcE : onceE L room x = 15 := by unfold onceE; rw [if_pos hx]
  have hcL : onceL L room x = L := by unfold onceL; rw [if_pos hx]
  have hdd : decide (x ∈ L) = true := decide_eq_true hx
  have onc := Lib.hid (once_any S b room L x (w.alloc (.cells #[.int .i64 2, .int .i64 x] 44)) hrA.out (by have := H0.out; simp; omega) (by have := H0.out; simp; omega))
  rw [hcE, hcL] at onc
  rw [hcL]
  clear hcE hcL hx
  go_enter Try.func16, Try.ntmps16
  go_wp2_with fail
  refine onc.out.mono ?_
  rintro e w2 ⟨rfl, h3, h4⟩
  obtain ⟨b1, b0⟩ := box_chg h4 NB.out
  have X2 := Lib.hid (And.intro h3 h4)
  have hs2 := Lib.hid (hsA.out.chg h4 TW.out)
  have hz2 := Lib.hid h4.size
  clear h3 h4 b0
  go_wp2_with fail
  have rh := rhas_any base v L x w2 hs2.out H0.out.2.2.2.1
  rw [hdd] at rh
  refine rh.mono ?_
  rintro e w3 ⟨rfl, rfl⟩
  clear rh hdd
  go_wp2_with fail
  go_ret2
  obtain ⟨h3, h4⟩ := X2.out
  exact ⟨v, rfl, h3, hs2.out, (H0.out.2.2.2.2.2.1.mono (fun _ _ h => h.elim)).trans h4, .inl rfl⟩

set_option maxRecDepth 100000 in
set_option maxHeartbeats 2000000 in
theorem step_once_new (S b room base : Nat) (v : Value) (L : List Int) (x : Int) (w : World) (h : RingI w S b room L) (hs : SlI w base v L) (hb : base ≤ w.heap.size) (sS : S < base) (sb : b < base) (hl : L.length ≤ 4096) (hx : x ∉ L):
    Calls Try.prog 16 #[.pointer (some ⟨S, 0, none⟩), v, .int .i64 room, .agg #[.int .i64 2, .int .i64 x]] w (StepPost S b room base v (onceL L room x) w) := by
  have kA : Keeps w (w.alloc (.cells #[.int .i64 2, .int .i64 x] 44)) := (Below.refl _ _).alloc (Nat.le_refl _) _
  have cA : Chg (fun _ => False) w (w.alloc (.cells #[.int .i64 2, .int .i64 x] 44)) := Chg.of_below kA _
  have hsA := Lib.hid (hs.chg cA (fun _ h => h.elim))
  have hrA := Lib.hid (h.keeps kA (by omega) (by omega))
  have bA : base ≤ (w.alloc (.cells #[.int .i64 2, .int .i64 x] 44)).heap.size := Nat.le_trans hb kA.size
  have H0 := Lib.hid (And.intro hb (And.intro sS (And.intro sb (And.intro hl (And.intro kA (And.intro cA bA))))))
  have two : ∀ g, Two S b g → g < base := fun g hg => by rcases hg with h | h <;> omega
  have TW := Lib.hid two
  have nbox : ¬ Two S b w.heap.size := fun hg => by rcases hg with h | h <;> omega
  have NB := Lib.hid nbox
  clear h hs hb sS sb hl kA cA bA two nbox
  have hcE : onceE L room x = pushE L room := by unfold onceE; rw [if_neg hx]
  have hcL : onceL L room x = pushL L room x := by unfold onceL; rw [if_neg hx]
  have hdd : decide (x ∈ L) = false := decide_eq_false hx
  have onc := Lib.hid (once_any S b room L x (w.alloc (.cells #[.int .i64 2, .int .i64 x] 44)) hrA.out (by have := H0.out; simp; omega) (by have := H0.out; simp; omega))
  rw [hcE, hcL] at onc
  rw [hcL]
  clear hcE hcL hx
  go_enter Try.func16, Try.ntmps16
  go_wp2_with fail
  refine onc.out.mono ?_
  rintro e w2 ⟨rfl, h3, h4⟩
  obtain ⟨b1, b0⟩ := box_chg h4 NB.out
  have X2 := Lib.hid (And.intro h3 h4)
  have hs2 := Lib.hid (hsA.out.chg h4 TW.out)
  have hz2 := Lib.hid h4.size
  clear h3 h4 b0
  go_wp2_with fail
  have rh := rhas_any base v L x w2 hs2.out H0.out.2.2.2.1
  rw [hdd] at rh
  refine rh.mono ?_
  rintro e w3 ⟨rfl, rfl⟩
  clear rh hdd
  go_wp2_with fail
  refine (rpush_any base v L room x _ hs2.out (Nat.le_trans H0.out.2.2.2.2.2.2 hz2.out) H0.out.2.2.2.1).mono ?_
  rintro e w4 ⟨v', rfl, h1, h2, hfr⟩
  have HFR := Lib.hid hfr
  clear hfr
  have X3 := Lib.hid (And.intro h1 h2)
  clear h1 h2
  go_wp2_with fail
  go_ret2
  obtain ⟨h3, h4⟩ := X2.out
  obtain ⟨h1, h2⟩ := X3.out
  have hz := h4.size
  exact ⟨v', rfl, h3.keeps h2 (by have := H0.out; simp at hz; omega) (by have := H0.out; simp at hz; omega), h1, ((H0.out.2.2.2.2.2.1.mono (fun _ _ h => h.elim)).trans h4).trans (Chg.of_below h2 _), HFR.out.mono (by simp at hz; omega)⟩

set_option maxRecDepth 100000 in
set_option maxHeartbeats 2000000 in
theorem step_none (S b room base : Nat) (v : Value) (L : List Int) (x : Int) (w : World) (h : RingI w S b room L) (hs : SlI w base v L) (hb : base ≤ w.heap.size) (sS : S < base) (sb : b < base) (hl : L.length ≤ 4096) (kd : Int) (h1 : kd ≠ 1) (h2 : kd ≠ 2) (h3 : kd ≠ 3) (h4 : kd ≠ 4):
    Calls Try.prog 16 #[.pointer (some ⟨S, 0, none⟩), v, .int .i64 room, .agg #[.int .i64 kd, .int .i64 x]] w (StepPost S b room base v (L) w) := by
  have kA : Keeps w (w.alloc (.cells #[.int .i64 kd, .int .i64 x] 44)) := (Below.refl _ _).alloc (Nat.le_refl _) _
  have cA : Chg (fun _ => False) w (w.alloc (.cells #[.int .i64 kd, .int .i64 x] 44)) := Chg.of_below kA _
  have hsA := Lib.hid (hs.chg cA (fun _ h => h.elim))
  have hrA := Lib.hid (h.keeps kA (by omega) (by omega))
  have bA : base ≤ (w.alloc (.cells #[.int .i64 kd, .int .i64 x] 44)).heap.size := Nat.le_trans hb kA.size
  have H0 := Lib.hid (And.intro hb (And.intro sS (And.intro sb (And.intro hl (And.intro kA (And.intro cA bA))))))
  have two : ∀ g, Two S b g → g < base := fun g hg => by rcases hg with h | h <;> omega
  have TW := Lib.hid two
  have nbox : ¬ Two S b w.heap.size := fun hg => by rcases hg with h | h <;> omega
  have NB := Lib.hid nbox
  clear h hs hb sS sb hl kA cA bA two nbox
  have e1 : (kd == 1) = false := by simpa using h1
  have e2 : (kd == 2) = false := by simpa using h2
  have e3 : (kd == 3) = false := by simpa using h3
  have e4 : (kd == 4) = false := by simpa using h4
  clear h1 h2 h3 h4
  go_enter Try.func16, Try.ntmps16
  go_wp2_with fail
  go_ret2
  exact ⟨v, rfl, hrA.out, hsA.out, H0.out.2.2.2.2.2.1.mono (fun _ _ h => h.elim), .inl rfl⟩

theorem step_any (S b room base : Nat) (v : Value) (L : List Int) (kd x : Int) (w : World) (h : RingI w S b room L) (hs : SlI w base v L) (hb : base ≤ w.heap.size) (sS : S < base) (sb : b < base) (hl : L.length ≤ 4096) :
    Calls Try.prog 16 #[.pointer (some ⟨S, 0, none⟩), v, .int .i64 room, .agg #[.int .i64 kd, .int .i64 x]] w (StepPost S b room base v (stepL L room kd x) w) := by
  unfold stepL
  by_cases h1 : kd = 1
  · subst h1; rw [if_pos rfl]; exact step_push S b room base v L x w h hs hb sS sb hl
  · rw [if_neg h1]
    by_cases h2 : kd = 2
    · subst h2; rw [if_pos rfl]
      by_cases hx : x ∈ L
      · exact step_once_in S b room base v L x w h hs hb sS sb hl hx
      · exact step_once_new S b room base v L x w h hs hb sS sb hl hx
    · rw [if_neg h2]
      by_cases h3 : kd = 3
      · subst h3; rw [if_pos rfl]; exact step_pop S b room base v L x w h hs hb sS sb hl
      · rw [if_neg h3]
        by_cases h4 : kd = 4
        · subst h4; rw [if_pos rfl]; exact step_rem S b room base v L x w h hs hb sS sb hl
        · rw [if_neg h4]; exact step_none S b room base v L x w h hs hb sS sb hl kd h1 h2 h3 h4
end numbers
end Go.Proofs.Ytiecdlfdfphflaa
