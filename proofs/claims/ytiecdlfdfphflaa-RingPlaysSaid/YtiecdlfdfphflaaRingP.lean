/- a ring in memory as a list: what a push and a pop make of it. No function of the program in sight. -/
import Derived.Test.YtiecdlfdfphflaaRf
import Derived.WalkKit
import Derived.WalkSpells
namespace Go.Proofs.Ytiecdlfdfphflaa
set_option linter.unusedVariables false
open Go.RowKit

/-- a ring at block S, its places in block b: room of them, 'at' the first one's, n things; vs: what stands at each place -/
structure RingAt (w : World) (S b room : Nat) (vs : Nat → Value) (at' n : Nat) : Prop where
  c0 : w.cell? ⟨S, 0, none⟩ = some (.slice (some ⟨b, 0, none⟩) room room)
  c1 : w.cell? ⟨S, 1, none⟩ = some (.int .i64 at')
  c2 : w.cell? ⟨S, 2, none⟩ = some (.int .i64 n)
  f1 : w.frozen? ⟨S, 1, none⟩ = false
  f2 : w.frozen? ⟨S, 2, none⟩ = false
  vc : ∀ i, i < room → w.cell? ⟨b, i, none⟩ = some (vs i)
  vf : ∀ i, i < room → w.frozen? ⟨b, i, none⟩ = false
  ne : S ≠ b
  room1 : 1 ≤ room
  room2 : room ≤ 4096
  atlt : at' < room
  nle : n ≤ room

theorem RingAt.drewN {w : World} {S b room : Nat} {vs : Nat → Value} {at' n : Nat} (h : RingAt w S b room vs at' n) (k : Nat) : RingAt (w.drewN k) S b room vs at' n := ⟨h.1, h.2, h.3, h.4, h.5, h.6, h.7, h.8, h.9, h.10, h.11, h.12⟩
theorem RingAt.chg {w w' : World} {S b room : Nat} {vs : Nat → Value} {at' n : Nat} {cw : Nat → Prop} (h : RingAt w S b room vs at' n) (hc : Chg cw w w') (hS : S < w.heap.size) (hb : b < w.heap.size) (nS : ¬ cw S) (nb : ¬ cw b) : RingAt w' S b room vs at' n :=
  ⟨(hc.cell (p := ⟨S, 0, none⟩) hS nS).trans h.1, (hc.cell (p := ⟨S, 1, none⟩) hS nS).trans h.2, (hc.cell (p := ⟨S, 2, none⟩) hS nS).trans h.3, (hc.frozen (p := ⟨S, 1, none⟩) hS nS).trans h.4, (hc.frozen (p := ⟨S, 2, none⟩) hS nS).trans h.5,
    fun i hi => (hc.cell (p := ⟨b, i, none⟩) hb nb).trans (h.6 i hi), fun i hi => (hc.frozen (p := ⟨b, i, none⟩) hb nb).trans (h.7 i hi), h.8, h.9, h.10, h.11, h.12⟩

/-- a place of a function's argument taken by another value -/
def upd (vs : Nat → Value) (p : Nat) (x : Value) : Nat → Value := fun i => if i = p then x else vs i

theorem cell_set_same {w : World} {a : Addr} {u v : Value} (h : w.cell? a = some u) : (w.setCell a v).cell? a = some v := World.cell?_setCell_same w a v h
theorem cell_set_ne {w : World} {b o b' o' : Nat} {v : Value} (h : b ≠ b' ∨ o ≠ o') : (w.setCell ⟨b, o, none⟩ v).cell? ⟨b', o', none⟩ = w.cell? ⟨b', o', none⟩ :=
  World.cell?_setCell_other w _ _ v (fun e => by injection e; omega)

theorem RingAt.set_place {w : World} {S b room : Nat} {vs : Nat → Value} {at' n : Nat} (h : RingAt w S b room vs at' n) {p : Nat} (hp : p < room) (x : Value) : RingAt (w.setCell ⟨b, p, none⟩ x) S b room (upd vs p x) at' n := by
  obtain ⟨c0, c1, c2, f1, f2, vc, vf, ne, r1, r2, al, nl⟩ := h
  refine ⟨(cell_set_ne (.inl ne.symm)).trans c0, (cell_set_ne (.inl ne.symm)).trans c1, (cell_set_ne (.inl ne.symm)).trans c2, by rw [World.frozen?_setCell]; exact f1, by rw [World.frozen?_setCell]; exact f2, fun i hi => ?_, fun i hi => by rw [World.frozen?_setCell]; exact vf i hi, ne, r1, r2, al, nl⟩
  unfold upd
  by_cases e : i = p
  · subst e; rw [if_pos rfl]; exact cell_set_same (vc i hi)
  · rw [if_neg e]; exact (cell_set_ne (.inr (fun h => e h.symm))).trans (vc i hi)
theorem RingAt.set_n {w : World} {S b room : Nat} {vs : Nat → Value} {at' n : Nat} (h : RingAt w S b room vs at' n) {m : Nat} (hm : m ≤ room) : RingAt (w.setCell ⟨S, 2, none⟩ (.int .i64 m)) S b room vs at' m := by
  obtain ⟨c0, c1, c2, f1, f2, vc, vf, ne, r1, r2, al, nl⟩ := h
  exact ⟨(cell_set_ne (.inr (by omega))).trans c0, (cell_set_ne (.inr (by omega))).trans c1, cell_set_same c2, by rw [World.frozen?_setCell]; exact f1, by rw [World.frozen?_setCell]; exact f2, fun i hi => (cell_set_ne (.inl ne)).trans (vc i hi), fun i hi => by rw [World.frozen?_setCell]; exact vf i hi, ne, r1, r2, al, hm⟩
theorem RingAt.set_at {w : World} {S b room : Nat} {vs : Nat → Value} {at' n : Nat} (h : RingAt w S b room vs at' n) {m : Nat} (hm : m < room) : RingAt (w.setCell ⟨S, 1, none⟩ (.int .i64 m)) S b room vs m n := by
  obtain ⟨c0, c1, c2, f1, f2, vc, vf, ne, r1, r2, al, nl⟩ := h
  exact ⟨(cell_set_ne (.inr (by omega))).trans c0, cell_set_same c1, (cell_set_ne (.inr (by omega))).trans c2, by rw [World.frozen?_setCell]; exact f1, by rw [World.frozen?_setCell]; exact f2, fun i hi => (cell_set_ne (.inl ne)).trans (vc i hi), fun i hi => by rw [World.frozen?_setCell]; exact vf i hi, ne, r1, r2, hm, nl⟩

/-- THE RING AS A LIST -/
def RingIs (w : World) (S b room : Nat) (L : List Value) : Prop := ∃ vs at', RingAt w S b room vs at' L.length ∧ ∀ i, (hi : i < L.length) → vs ((at' + i) % room) = L[i]

theorem RingIs.chg {w w' : World} {S b room : Nat} {L : List Value} {cw : Nat → Prop} (h : RingIs w S b room L) (hc : Chg cw w w') (hS : S < w.heap.size) (hb : b < w.heap.size) (nS : ¬ cw S) (nb : ¬ cw b) : RingIs w' S b room L := by
  obtain ⟨vs, at', hr, hl⟩ := h
  exact ⟨vs, at', hr.chg hc hS hb nS nb, hl⟩

theorem mod_inj {a i j m : Nat} (hi : i < m) (hj : j < m) (h : (a + i) % m = (a + j) % m) : i = j := by
  have h1 := Nat.div_add_mod (a + i) m
  have h2 := Nat.div_add_mod (a + j) m
  have hm : 0 < m := by omega
  rcases Nat.lt_trichotomy ((a + i) / m) ((a + j) / m) with h3 | h3 | h3
  · have h4 : m * ((a + i) / m + 1) ≤ m * ((a + j) / m) := Nat.mul_le_mul_left m h3
    rw [Nat.mul_add] at h4; omega
  · rw [h3] at h1; omega
  · have h4 : m * ((a + j) / m + 1) ≤ m * ((a + i) / m) := Nat.mul_le_mul_left m h3
    rw [Nat.mul_add] at h4; omega

/-- a push, in memory -/
theorem RingAt.pushed {w : World} {S b room : Nat} {vs : Nat → Value} {at' : Nat} {L : List Value} (h : RingAt w S b room vs at' L.length) (hl : ∀ i, (hi : i < L.length) → vs ((at' + i) % room) = L[i]) (hn : L.length < room) (x : Value) (k : Nat) :
    RingIs (((w.drewN k).setCell ⟨b, (at' + L.length) % room, none⟩ x).setCell ⟨S, 2, none⟩ (.int .i64 (L.length + 1 : Nat))) S b room (L ++ [x]) := by
  have hp : (at' + L.length) % room < room := Nat.mod_lt _ (by have := h.room1; omega)
  have h1 := ((h.drewN k).set_place hp x).set_n (m := L.length + 1) hn
  refine ⟨_, at', by simpa using h1, fun i hi => ?_⟩
  unfold upd
  by_cases e : i = L.length
  · subst e; rw [if_pos rfl]; simp
  · have hi' : i < L.length := by simp at hi; omega
    rw [if_neg (fun h' => e (mod_inj (by omega) hn h')), hl i hi', List.getElem_append_left hi']

/-- a pop, in memory -/
theorem RingAt.popped {w : World} {S b room : Nat} {vs : Nat → Value} {at' : Nat} {x : Value} {L : List Value} (h : RingAt w S b room vs at' (x :: L).length) (hl : ∀ i, (hi : i < (x :: L).length) → vs ((at' + i) % room) = (x :: L)[i]) (z : Value) (k k2 : Nat) :
    RingIs (((((w.drewN k).setCell ⟨b, at', none⟩ z).drewN k2).setCell ⟨S, 1, none⟩ (.int .i64 ((at' + 1) % room : Nat))).setCell ⟨S, 2, none⟩ (.int .i64 (L.length : Nat))) S b room L ∧ vs at' = x := by
  have hal := h.atlt
  have hp : (at' + 1) % room < room := Nat.mod_lt _ (by omega)
  have hnl := h.nle
  simp only [List.length_cons] at hnl
  have h1 := ((((h.drewN k).set_place hal z).drewN k2).set_at hp).set_n (m := L.length) (by omega)
  have h0 := hl 0 (by simp)
  rw [Nat.add_zero, Nat.mod_eq_of_lt hal] at h0
  refine ⟨⟨_, _, h1, fun i hi => ?_⟩, h0⟩
  have e1 : ((at' + 1) % room + i) % room = (at' + (i + 1)) % room := by rw [Nat.mod_add_mod]; congr 1; omega
  have e2 : (at' + (i + 1)) % room ≠ at' := fun h' => by
    have := mod_inj (a := at') (i := i + 1) (j := 0) (m := room) (by omega) (by omega) (by rw [h', Nat.add_zero, Nat.mod_eq_of_lt hal])
    omega
  rw [e1]
  unfold upd
  rw [if_neg e2, hl (i + 1) (by simp; omega)]
  rfl

end Go.Proofs.Ytiecdlfdfphflaa
