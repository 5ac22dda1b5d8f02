/- Every play of a ring is the document's list; a copy is the same, and stands by itself; things come as far as they are asked: for any room, any play, any thing and any number. No condition. -/
import Derived.Test.YtiecdlfdfphflaaRingE
import Derived.Test.YtiecdlfdfphflaaRingT
import Derived.Test.YtiecdlfdfphflaaOpA
namespace Go.Proofs.Ytiecdlfdfphflaa
set_option linter.unusedVariables false
open Go.ChangeShapes Go.WideShapes Go.ChangeAt Go.RowKit Go.Shelf
attribute [local go_sem] Oper.semAt_some
namespace plays

set_option maxHeartbeats 1000000 in
theorem walk_bad (room : Int) (a : Option Addr) (len cap : Nat) (x st : Int) (h : room < 1 ∨ 4096 < room) (w : World) :
    Calls Try.prog 5 #[.int .i64 room, .slice a len cap, .int .i64 x, .int .i64 st] w fun e w' => e = .returned (.bool true) ∧ Below w.heap.size w w' := by
  have hno := numbers.New_no room h
  rcases h with h | h
  · go_enter Try.func5, Try.ntmps5
    go_wp2_with (first
      | (go_at_call 6; refine (anchor_any _).mono ?_; rintro e w1 ⟨rfl, hb1⟩; have HB := Lib.hid hb1; clear hb1)
      | (go_at_call 11; refine (hno _).mono ?_; rintro e w2 ⟨rfl, rfl⟩))
    go_ret
    exact ⟨rfl, Keeps.next ((Below.refl _ _).alloc (Nat.le_refl _) _) HB.out⟩
  · have h' : ¬ room < 1 := by omega
    go_enter Try.func5, Try.ntmps5
    go_wp2_with (first
      | (go_at_call 6; refine (anchor_any _).mono ?_; rintro e w1 ⟨rfl, hb1⟩; have HB := Lib.hid hb1; clear hb1)
      | (go_at_call 11; refine (hno _).mono ?_; rintro e w2 ⟨rfl, rfl⟩))
    go_ret
    exact ⟨rfl, Keeps.next ((Below.refl _ _).alloc (Nat.le_refl _) _) HB.out⟩

set_option maxHeartbeats 1000000 in
theorem walk_long (room : Int) (a : Option Addr) (len cap : Nat) (x st : Int) (h1 : 1 ≤ room) (h2 : room ≤ 4096) (hl : 60 < len) (w : World) :
    Calls Try.prog 5 #[.int .i64 room, .slice a len cap, .int .i64 x, .int .i64 st] w fun e w' => e = .returned (.bool true) ∧ Below w.heap.size w w' := by
  have hn := numbers.New_is room h1 h2
  have t1 : ¬ room < 1 := by omega
  have t2 : ¬ 4096 < room := by omega
  have hlI : (60 : Int) < len := by omega
  go_enter Try.func5, Try.ntmps5
  go_wp2_with (first
    | (go_at_call 6; refine (anchor_any _).mono ?_; rintro e w1 ⟨rfl, hb1⟩; have HB := Lib.hid hb1; clear hb1)
    | (go_at_call 11; refine (hn _).mono ?_; rintro e w2 ⟨S, b, rfl, hnew⟩; have HNW := Lib.hid hnew; clear hnew))
  go_ret
  exact ⟨rfl, Keeps.next (Keeps.next ((Below.refl _ _).alloc (Nat.le_refl _) _) HB.out) HNW.out.below⟩

open numbers in
theorem SlI.chg2 {W W' : World} {base : Nat} {v : Value} {L : List Int} {cw : Nat → Prop} (h : SlI W base v L) (hc : Chg cw W W') (h0 : ∀ g, v.ownBlock = some g → ¬ cw g) : SlI W' base v L := by
  obtain ⟨h1, ⟨rfl, h2⟩ | ⟨g, cap, cur, rfl, hg, hh, rest⟩⟩ := h
  · exact ⟨h1, .inl ⟨rfl, h2⟩⟩
  · exact ⟨h1, .inr ⟨g, cap, cur, rfl, hg, (hc.block g (Array.getElem?_eq_some_iff.1 hh).1 (h0 g rfl)).trans hh, rest⟩⟩

def CtI (w : World) (N : Nat) (st : Int) (k : Nat) (W : World) : Prop :=
  W.heap[w.heap.size]? = some (.cells #[.int .i64 st] 3 (0, 0)) ∧ W.heap[N]? = some (.cells #[.int .i64 k] 3 (0, 0)) ∧ Below w.heap.size w W
theorem CtI.chg {w : World} {N : Nat} {st : Int} {k : Nat} {cw : Nat → Prop} {A B : World} (h : CtI w N st k A) (hN : w.heap.size < N) (hc : Chg cw A B) (h0 : ∀ i, cw i → N < i) : CtI w N st k B := by
  obtain ⟨h1, h2, h3⟩ := h
  have lt := fun (i : Nat) (o : Obj) (e : A.heap[i]? = some o) => (Array.getElem?_eq_some_iff.1 e).1
  exact ⟨(hc.block _ (lt _ _ h1) (fun h => by have := h0 _ h; omega)).trans h1, (hc.block _ (lt _ _ h2) (fun h => by have := h0 _ h; omega)).trans h2, h3.trans (hc.below h3.size (fun i h => by have := h0 _ h; omega))⟩
theorem CtI.step {w : World} {N : Nat} {st : Int} {k : Nat} {U : World} (h : CtI w N st k U) (hN : w.heap.size < N) : CtI w N st (k + 1) (U.setCell ⟨N, 0, none⟩ (.int .i64 ((k : Int) + 1))) := by
  obtain ⟨h1, h2, h3⟩ := h
  refine ⟨(heap_setCell_other _ _ _ _ (by show w.heap.size ≠ N; omega)).trans h1, ?_, h3.setCell (by show w.heap.size ≤ N; omega) _⟩
  have e := heap_setCell_same U N 0 _ _ (.int .i64 ((k : Int) + 1)) h2
  rw [e, Int.natCast_add]
  rfl

theorem finish5 (T : Array Value) (w w9 : World) (D : Nat) (hT : T.getD 8 undef = .bool true) (k1 : w9.heap[D]? = some (.deferred (some []))) (hw : w.heap.size ≤ D) (hB : Below w.heap.size w w9) :
    bodyPostM Fence.wide 9 Try.prog Try.f5 (fun e w' => e = .returned (.bool true) ∧ Below w.heap.size w w') .ret { tmps := T, defers := [{ target := .collected D, args := #[] }] } w9 := by
  refine ⟨by simp, .inl ⟨_, _, rfl, run_takeDeferred k1, ?_⟩⟩
  have hB3 : Below w.heap.size w (w9.putObj D (.deferred none)) := hB.trans ⟨rfl, rfl, rfl, by simp, fun k hk => World.putObj_heap_other (by omega)⟩
  generalize w9.putObj D (.deferred none) = w13 at *
  have hT' : T[8]?.getD undef = .bool true := by simpa using hT
  refine ⟨.bool true, ?_, rfl, hB3⟩
  simp [results, Try.results5, go_sem, hT']

open numbers in
set_option maxRecDepth 100000 in
set_option maxHeartbeats 4000000 in
theorem walk_main (room : Nat) (a : Option Addr) (len cap : Nat) (f g : Nat → Int) (x st : Int) (h1 : 1 ≤ room) (h2 : room ≤ 4096) (hl : len ≤ 60) (w : World)
    (hcell : ∀ i, i < len → ∃ b0 off, a = some ⟨b0, off, none⟩ ∧ b0 < w.heap.size ∧ w.cell? ⟨b0, off + i * 2, none⟩ = some (.int .i64 (f i)) ∧ w.cell? ⟨b0, off + (i * 2 + 1), none⟩ = some (.int .i64 (g i))) :
    Calls Try.prog 5 #[.int .i64 room, .slice a len cap, .int .i64 x, .int .i64 st] w fun e w' => e = .returned (.bool true) ∧ Below w.heap.size w w' := by
  have hn := New_is room (by omega) (by omega)
  rw [Int.toNat_natCast] at hn
  have t1 : ¬ (room : Int) < 1 := by omega
  have t2 : ¬ (4096 : Int) < room := by omega
  have hlI : (len : Int) ≤ 60 := by omega
  have HC := Lib.hid hcell
  clear hcell
  refine (callsIn_wide (n := 9)).1 ?_
  refine callsIn_of_wp_marks Try.func5 rfl trivial ?_
  simp only [Try.ntmps5, List.size_toArray, List.length_cons, List.length_nil, Nat.reduceAdd, Nat.reduceSub, Array.replicate_succ, Array.replicate_zero, List.push_toArray, List.append_toArray, List.nil_append, List.cons_append]
  gi_wp2_with (first
    | (refine ⟨trivial, ?_⟩; gi_at_call 6; refine ((callsIn_wide (n := 8)).2 (anchor_any _)).mono ?_; rintro e w1 ⟨rfl, hb1⟩; have HB := Lib.hid hb1; clear hb1)
    | (refine ⟨trivial, ?_⟩; gi_at_call 11; refine ((callsIn_wide (n := 8)).2 (hn _)).mono ?_; rintro e w2 ⟨S, b, rfl, hnew⟩; have HNW := Lib.hid hnew; clear hnew))
  have hNS := HNW.out.hS
  have hNb := HNW.out.hb
  have lS := HNW.out.lS
  have lb := HNW.out.lb
  have hw1 := HB.out.size
  simp only [World.size_alloc] at hw1
  have kw2 : Keeps (w.alloc (.cells #[.int .i64 st] 3)) w2 := Keeps.next HB.out HNW.out.below
  have KW := Lib.hid kw2
  clear kw2
  gi_loopw [11, 48] (fun v i wr => ∃ (k : Nat) (L : List Int), k ≤ len ∧ i = .int .i64 k ∧ L.length ≤ room ∧ RingI wr S b room L ∧ SlI wr w2.heap.size v L ∧ Keeps (w.alloc (.cells #[.int .i64 st] 3)) wr ∧ w2.heap.size ≤ wr.heap.size) (fun _ i _ => len - (intOf i).toNat)
  case atStart => exact ⟨0, [], by omega, rfl, by simp, HNW.out.ring, SlI.nil _ _, KW.out, Nat.le_refl _⟩
  case round =>
    obtain ⟨k, L, hk, rfl, hLr, hring, hsl, hkp, hsz⟩ := hrel
    by_cases hlt : k < len
    · obtain ⟨b0, off, ha, hb0, e1, e2⟩ := HC.out k hlt
      subst ha
      have zb0 : b0 < (w.alloc (.cells #[.int .i64 st] 3)).heap.size := by simp; omega
      have kk : Keeps w wr := Keeps.next ((Below.refl _ _).alloc (Nat.le_refl _) _) hkp
      have c1 : wr.cell? ⟨b0, off + k * 2, none⟩ = some (.int .i64 (f k)) := (kk.cells.1 b0 _ hb0).trans e1
      have c2 : wr.cell? ⟨b0, off + k * 2 + 1, none⟩ = some (.int .i64 (g k)) := (kk.cells.1 b0 _ hb0).trans (by rw [Nat.add_assoc]; exact e2)
      have hkI : (k : Int) < len := by omega
      have HH := Lib.hid (And.intro hk (And.intro hLr (And.intro hring (And.intro hsl (And.intro hkp (And.intro hsz hlt))))))
      clear hk hLr hring hsl hkp hsz hlt e1 e2 kk zb0
      generalize f k = fk at *
      generalize g k = gk at *
      gi_wp2_with fail
      -- the copy
      obtain ⟨hk, hLr, hring, hsl, hkp, hsz, hlt⟩ := HH.out
      have hzw : w.heap.size + 1 ≤ wr.heap.size := by have := hkp.size; simpa using this
      obtain ⟨wA, hwA⟩ : ∃ wA, wA = wr.alloc (.cells #[.int .i64 fk, .int .i64 gk] 44) := ⟨_, rfl⟩
      have zA : wA.heap.size = wr.heap.size + 1 := by rw [hwA]; simp
      have kA : Keeps wr wA := by rw [hwA]; exact (Below.refl _ _).alloc (Nat.le_refl _) _
      have bA : wA.heap[wr.heap.size]? = some (.cells #[.int .i64 fk, .int .i64 gk] 44 (0, 0)) := by rw [hwA]; exact han _ _ _ rfl
      have rA := hring.keeps kA (by omega) (by omega)
      have cp := copy_any S b room L wA rA (by omega) (by omega)
      rw [← hwA]
      clear hwA
      refine ⟨trivial, ?_⟩
      refine ((callsIn_wide (n := 8)).2 cp).mono ?_
      rintro e w3 ⟨rfl, rC3, k3, zC3⟩
      have r3 := rA.keeps k3 (by omega) (by omega)
      have s3 : SlI w3 w2.heap.size u11 L := (hsl.chg (cw := fun _ => False) (Chg.of_below kA _) (fun _ h => h.elim)).chg (cw := fun _ => False) (Chg.of_below k3 _) (fun _ h => h.elim)
      have b3 := old_at k3 bA
      have d1 := cell_of_row w3 wr.heap.size 0 _ 44 (0, 0) b3
      have d2 := cell_of_row w3 wr.heap.size 1 _ 44 (0, 0) b3
      simp at d1 d2
      have sto := step_any S b room w2.heap.size u11 L fk gk w3 r3 s3 (by have := k3.size; omega) lS lb (by omega)
      have A3 := Lib.hid (And.intro sto (And.intro rC3 (And.intro k3 (And.intro zC3 (And.intro kA (And.intro s3 zA))))))
      have lt0 : ∀ g, u11.ownBlock = some g → g < wr.heap.size := fun g hg => (World.ownsRow.lt hsl g hg).2
      have A9 := Lib.hid lt0
      have A0 := Lib.hid (And.intro hk (And.intro hLr (And.intro hkp (And.intro hsz (And.intro hlt hzw)))))
      clear lt0
      clear sto rC3 k3 zC3 r3 s3 b3 hk hLr hring hsl hkp hsz hlt cp rA bA kA hzw HH c1 c2
      gi_wp2_with fail
      -- the step
      refine ⟨trivial, ?_⟩
      refine ((callsIn_wide (n := 8)).2 A3.out.1).mono ?_
      rintro e w4 ⟨v', rfl, r4, s4, ch4, fr4⟩
      have A4 := Lib.hid (And.intro r4 (And.intro s4 (And.intro ch4 fr4)))
      clear r4 s4 ch4 fr4 d1 d2
      gi_wp2_with fail
      -- the two looks
      obtain ⟨hk, hLr, hkp, hsz, hlt, hzw⟩ := A0.out
      obtain ⟨_, rC3, k3, zC3, kA, s3, zA⟩ := A3.out
      obtain ⟨r4, s4, ch4, fr4⟩ := A4.out
      have hL' : (stepL L room fk gk).length ≤ room := stepL_le L room fk gk hLr
      have z3 := k3.size
      have z4 := ch4.size
      have sm1 := same_any S b room w2.heap.size v' (stepL L room fk gk) w4 r4 s4 (by omega) (by omega) (by omega)
      refine ⟨trivial, ?_⟩
      refine ((callsIn_wide (n := 8)).2 sm1).mono ?_
      rintro e w5 ⟨rfl, k5⟩
      have rC4 : RingI w4 (wA.heap.size + 1) wA.heap.size room L := RingIs.chg rC3 ch4 zC3 (by omega) (fun h => by rcases h with h | h <;> omega) (fun h => by rcases h with h | h <;> omega)
      have rC5 := rC4.keeps k5 (by omega) (by omega)
      have s5 := (s3.chg ch4 (fun g hg => by rcases hg with h | h <;> omega)).chg (cw := fun _ => False) (Chg.of_below k5 _) (fun _ h => h.elim)
      have z5 := k5.size
      have sm2 := same_any (wA.heap.size + 1) wA.heap.size room w2.heap.size u11 L w5 rC5 s5 (by omega) (by omega) (by omega)
      rw [zA] at sm2
      have A5 := Lib.hid (And.intro k5 (And.intro rC5 sm2))
      clear hk hLr hkp hsz hlt hzw rC3 k3 zC3 kA s3 r4 s4 ch4 fr4 sm1 rC4 rC5 s5 sm2 hL' z3 z4 z5 k5 zA
      gi_wp2_with fail
      refine ⟨trivial, ?_⟩
      refine ((callsIn_wide (n := 8)).2 A5.out.2.2).mono ?_
      rintro e w6 ⟨rfl, k6⟩
      have A6 := Lib.hid k6
      clear k6
      gi_wp2_with fail
      -- is the thing there?
      obtain ⟨hk, hLr, hkp, hsz, hlt, hzw⟩ := A0.out
      obtain ⟨_, rC3, k3, zC3, kA, s3, zA⟩ := A3.out
      obtain ⟨r4, s4, ch4, fr4⟩ := A4.out
      obtain ⟨k5, rC5, _⟩ := A5.out
      have k6 := A6.out
      have hL' : (stepL L room fk gk).length ≤ room := stepL_le L room fk gk hLr
      have z3 := k3.size
      have z4 := ch4.size
      have z5 := k5.size
      have z6 := k6.size
      have r5 := r4.keeps k5 (by omega) (by omega)
      have r6 := r5.keeps k6 (by omega) (by omega)
      have hs := has_any S b room (stepL L room fk gk) x w6 r6 (by omega) (by omega)
      refine ⟨trivial, ?_⟩
      refine ((callsIn_wide (n := 8)).2 hs).mono ?_
      rintro e w7 ⟨rfl, k7⟩
      have z7 := k7.size
      have s7 : SlI w7 w2.heap.size v' (stepL L room fk gk) := ((s4.chg (cw := fun _ => False) (Chg.of_below k5 _) (fun _ h => h.elim)).chg (cw := fun _ => False) (Chg.of_below k6 _) (fun _ h => h.elim)).chg (cw := fun _ => False) (Chg.of_below k7 _) (fun _ h => h.elim)
      have r7 := r6.keeps k7 (by omega) (by omega)
      have rC6 := rC5.keeps k6 (by omega) (by omega)
      have rC7 := rC6.keeps k7 (by omega) (by omega)
      have rh := rhas_any w2.heap.size v' (stepL L room fk gk) x w7 s7 (by omega)
      have pp := pop_any (wA.heap.size + 1) wA.heap.size room L w7 rC7
      rw [zA] at pp
      have A7 := Lib.hid (And.intro k7 (And.intro s7 (And.intro r7 (And.intro rh pp))))
      clear hk hLr hkp hsz hlt hzw rC3 k3 zC3 kA s3 r4 s4 ch4 fr4 hL' z3 z4 z5 k5 zA rC5 k6 z6 r5 r6 hs k7 z7 s7 r7 rC6 rC7 rh pp
      gi_wp2_with fail
      refine ⟨trivial, ?_⟩
      refine ((callsIn_wide (n := 8)).2 A7.out.2.2.2.1).mono ?_
      rintro e w7' ⟨rfl, rfl⟩
      gi_wp2_with fail
      refine ⟨trivial, ?_⟩
      refine ((callsIn_wide (n := 8)).2 A7.out.2.2.2.2).mono ?_
      rintro e w8 ⟨rfl, rC8, ch8⟩
      have A8 := Lib.hid ch8
      clear rC8 ch8
      gi_wp2_with fail
      go_roundw
      case rel =>
        obtain ⟨hk, hLr, hkp, hsz, hlt, hzw⟩ := A0.out
        obtain ⟨_, rC3, k3, zC3, kA, s3, zA⟩ := A3.out
        obtain ⟨r4, s4, ch4, fr4⟩ := A4.out
        obtain ⟨k5, rC5, _⟩ := A5.out
        have k6 := A6.out
        obtain ⟨k7, s7, r7, _⟩ := A7.out
        have ch8 := A8.out
        have z3 := k3.size
        have z4 := ch4.size
        have z5 := k5.size
        have z6 := k6.size
        have z7 := k7.size
        have z8 := ch8.size
        refine ⟨k + 1, stepL L room fk gk, by omega, by go_num, stepL_le L room fk gk hLr, ?_, ?_, ?_, by omega⟩
        · exact RingIs.chg r7 ch8 (by omega) (by omega) (fun h => by rcases h with h | h <;> omega) (fun h => by rcases h with h | h <;> omega)
        · refine SlI.chg2 s7 ch8 (fun gg hg h => ?_)
          have hin : gg = wA.heap.size + 1 ∨ gg = wA.heap.size := by rcases h with h | h <;> omega
          rcases fr4 with e | e
          · rw [e] at hg
            have := A9.out gg hg
            omega
          · have := e gg hg
            omega
        · have q3 : Keeps (w.alloc (.cells #[.int .i64 st] 3)) w3 := (hkp.next kA).next k3
          have zs : (w.alloc (.cells #[.int .i64 st] 3)).heap.size = w.heap.size + 1 := by simp
          have q4 : Keeps (w.alloc (.cells #[.int .i64 st] 3)) w4 := Below.trans q3 (ch4.below (by omega) (fun i h => by rcases h with h | h <;> omega))
          have q7 := ((q4.next k5).next k6).next k7
          exact Below.trans q7 (ch8.below (by omega) (fun i h => by rcases h with h | h <;> omega))
      case measure => have := A0.out.2.2.2.2.1; simp [intOf]; omega
    · have hkl : k = len := by omega
      subst hkl
      have HH := Lib.hid (And.intro hLr (And.intro hring (And.intro hsl (And.intro hkp hsz))))
      clear hLr hring hkp hlt hk
      gi_wp2_with fail
      refine ⟨trivial, ?_⟩
      refine ((callsIn_wide (n := 8)).2 (All_any _ _)).mono ?_
      rintro e w3 ⟨rfl, rfl⟩
      obtain ⟨hLr, hring, hsl, hkp, hsz⟩ := HH.out
      obtain ⟨al, cl, hv⟩ := hsl.slice
      obtain ⟨n, hn⟩ : ∃ n, n = L.length := ⟨_, rfl⟩
      rw [← hn] at hv
      subst hv
      have zs : (w.alloc (.cells #[.int .i64 st] 3)).heap.size = w.heap.size + 1 := by simp
      have hzw : w.heap.size + 1 ≤ wr.heap.size := by have := hkp.size; omega
      obtain ⟨w0, hw0⟩ : ∃ w0, w0 = ((wr.alloc (.cells #[.int .i64 0] 3)).alloc (.cells #[.pointer (some ⟨S, 0, none⟩)] 35)) := ⟨_, rfl⟩
      have hs0 : w0.heap.size = wr.heap.size + 1 + 1 := by rw [hw0]; simp
      have hB0 : Keeps wr w0 := by rw [hw0]; exact ((Below.refl _ _).alloc (Nat.le_refl _) _).alloc (by simp) _
      have kw : Below w.heap.size w wr := Keeps.next ((Below.refl _ _).alloc (Nat.le_refl _) _) hkp
      have hst : wr.heap[w.heap.size]? = some (.cells #[.int .i64 st] 3 (0, 0)) := old_at hkp (han _ _ _ rfl)
      have hI0 : CtI w wr.heap.size st 0 w0 := by
        refine ⟨old_at hB0 hst, ?_, Keeps.next kw hB0⟩
        rw [hw0, hao _ _ _ (by simp)]; exact han _ _ _ rfl
      have hsq : w0.heap[wr.heap.size + 1]? = some (.cells #[.pointer (some ⟨S, 0, none⟩)] 35 (0, 0)) := by rw [hw0]; exact han _ _ _ (by simp)
      have HBX := Lib.hid (And.intro hB0 (And.intro hI0 (And.intro hsq (And.intro hring (And.intro hn (And.intro hzw (And.intro hsz hs0)))))))
      rw [← hw0]
      clear hw0 hB0 hI0 hsq hring hn hLr hsl hkp hsz hst kw hzw hs0 zs
      gi_wp2
      obtain ⟨hB0, hI0, hsq, hring, hn, hzw, hsz, hs0⟩ := HBX.out
      have HN := Lib.hid hn
      clear hn
      refine wpIn_rangeFunc_it3 9 9 (gf := 30) (lb := #[.pointer (some ⟨wr.heap.size + 1, 0, none⟩)]) rfl (enters_of Try.func30 (by kernel_rfl) rfl) (ringV L) (fun i => i = wr.heap.size + 1 ∨ i = S ∨ i = b) (fun _ => False) (fun i e => by rw [hs0]; omega) (fun i e => e.elim)
        (fun W1 hW1 => all_call (wr.heap.size + 1) S b room L W1 (hring.keeps (Keeps.next hB0 hW1) (by omega) (by omega)) (by rw [cell_of_row W1 _ 0 _ 35 (0, 0) (old_at hW1 hsq)]; rfl) (by have := hW1.size; omega) (by have := hW1.size; omega) (by have := hW1.size; omega))
        (fun k v hv => by obtain ⟨_, rfl⟩ := ringV_get L k v hv; rfl)
        (fun i => i = wr.heap.size) (fun i e => by rw [hs0]; omega)
        (fun j W => CtI w wr.heap.size st j W ∧ ∀ t : Nat, 1 ≤ t → t ≤ j → ((t : Nat) : Int) ≠ st)
        (fun c W => c = .exit 2 ∧ ∃ j : Nat, 1 ≤ j ∧ j ≤ n ∧ ((j : Nat) : Int) = st ∧ CtI w wr.heap.size st j W)
        (fun _ j a₁ _ => j < n ∧ ∃ y, a₁ = { tmps := #[.int .i64 (room : Nat), .slice a k cap, .int .i64 x, .int .i64 st, undef, undef, undef, .pointer (some ⟨w.heap.size, 0, none⟩), u8, .pointer (some ⟨S, 0, none⟩), .int .i64 0, .slice al n cl, undef, u13, u14, u15, u16, .pointer (some ⟨wr.heap.size, 0, none⟩), .bool true, .bool false, .tuple #[.pointer (some ⟨S, 0, none⟩), .int .i64 0], .int .i64 (room : Nat), .tuple #[.pointer (some ⟨S, 0, none⟩), .int .i64 0], .pointer (some ⟨S, 0, none⟩), .int .i64 0, .int .i64 (room : Nat), .bool (decide ((room : Int) < 1)), .bool (decide ((room : Int) < 1)), .int .i64 (room : Nat), .bool (decide (4096 < (room : Int))), .bool (decide ((room : Int) < 1) || decide (4096 < (room : Int))), undef, undef, undef, undef, undef, undef, .int .i64 0, .bool false, .bool false, .pointer (some ⟨S, 0, none⟩), .bool false, .bool false, .slice a k cap, .int .i64 (k : Nat), .bool (decide (60 < (k : Int))), .slice a k cap, .int .i64 (k : Nat), .int .i64 (k : Nat), .bool false, u50, u51, u52, u53, u54, u55, u56, u57, u58, u59, u60, u61, u62, u63, u64, u65, u66, u67, u68, u69, u70, u71, u72, u73, u74, u75, u76, u77, u78, u79, u80, u81, u82, u83, u84, u85, u86, u87, u88, u89, u90, .pointer (some ⟨S, 0, none⟩), .func (.func 30) #[] #[.pointer (some ⟨wr.heap.size + 1, 0, none⟩)], .int .i64 (j : Nat), .int .i64 y, undef, undef, undef, undef, undef, undef, undef, undef, undef, undef, undef, undef, undef, undef, undef, undef, undef, undef, undef, undef], defers := [] })
        (fun j A B h hc => ⟨h.1.chg (by omega) hc (fun i h => by rcases h with h | h; exact h.elim; omega), h.2⟩)
        (fun c A B h hc => by obtain ⟨h1, j, h2, h3, h4, h5⟩ := h; exact ⟨h1, j, h2, h3, h4, h5.chg (by omega) hc (fun i h => by rcases h with h | h; exact h.elim; omega)⟩)
        (fun _ _ _ _ _ h _ => h) ⟨hI0, fun t h1 h2 => by omega⟩ ?assign ?body ?done ?stop
      case assign =>
        intro lp j v W hv hlp hW hi
        obtain ⟨hj, rfl⟩ := ringV_get L j v hv
        rw [← HN.out] at hj
        have HK := Lib.hid hj
        clear hj hv
        generalize L.getD j 0 = y
        gi_wp2
        refine ⟨Chg.refl _ _, hi, HK.out, y, ?_⟩
        go_simp
      case body =>
        rintro lp j v a₁ W hv hlp hW hr ⟨hi, hne⟩ ⟨hj, y, rfl⟩
        clear hv hr
        have m1 := cell_of_row W w.heap.size 0 _ 3 (0, 0) hi.1
        have m2 := cell_of_row W wr.heap.size 0 _ 3 (0, 0) hi.2.1
        have m3 := frozen_of_row W wr.heap.size 0 _ 3 hi.2.1
        simp at m1 m2
        have q1 : ¬ (w.heap.size = wr.heap.size) := by omega
        have q2 : ¬ (wr.heap.size = w.heap.size) := by omega
        have hnr : n ≤ 4096 := by have := HH.out.1; have := HN.out; omega
        have hjI : (j : Int) < 4096 := by omega
        have HII := Lib.hid (And.intro hi (And.intro hne (And.intro hzw hj)))
        clear hi hne hj
        by_cases hst : (j : Int) + 1 = st
        · have hst2 : ((j : Int) + 1 == st) = true := by simpa using hst
          have HST := Lib.hid hst
          clear hst
          gi_wp2
          obtain ⟨hi, hne, hzw, hj⟩ := HII.out
          exact ⟨Chg.setCell (cw := fun i => i = wr.heap.size) (Chg.refl _ _) (p := ⟨wr.heap.size, 0, none⟩) (.inl rfl) _, rfl, j + 1, by omega, by omega, by have := HST.out; omega, hi.step (by omega)⟩
        · have hst2 : ((j : Int) + 1 == st) = false := by simpa using hst
          have HST := Lib.hid hst
          clear hst
          gi_wp2
          obtain ⟨hi, hne, hzw, hj⟩ := HII.out
          refine ⟨Chg.setCell (cw := fun i => i = wr.heap.size) (Chg.refl _ _) (p := ⟨wr.heap.size, 0, none⟩) (.inl rfl) _, hi.step (by omega), fun t h1 h2 => ?_⟩
          by_cases e : t = j + 1
          · subst e; have := HST.out; omega
          · exact hne t h1 (by omega)
      case done =>
        rintro D W hD hJ hK
        have hJ : CtI w wr.heap.size st n W := by have := hJ.1; rwa [ringV_len, ← HN.out] at this
        have m1 := cell_of_row W w.heap.size 0 _ 3 (0, 0) hJ.1
        have m2 := cell_of_row W wr.heap.size 0 _ 3 (0, 0) hJ.2.1
        simp at m1 m2
        have HJ := Lib.hid (And.intro hJ hK)
        clear hJ hK
        have hnn : ((n : Int) == (n : Int)) = true := by simp
        gi_wp2
        any_goals (exfalso; rename_i hu _; revert hu; simp [undef]; done)
        obtain ⟨hJ, hK⟩ := HJ.out
        exact finish5 _ w _ D rfl hK (by omega) hJ.2.2
      case stop =>
        rintro D c W hD ⟨rfl, j, hj1, hjn, hst, hJ⟩ hK
        have m1 := cell_of_row W w.heap.size 0 _ 3 (0, 0) hJ.1
        have m2 := cell_of_row W wr.heap.size 0 _ 3 (0, 0) hJ.2.1
        simp at m1 m2
        have HJ := Lib.hid (And.intro hJ hK)
        clear hJ hK
        by_cases hjn' : j = n
        · subst hjn'
          have hnn : ((j : Int) == (j : Int)) = true := by simp
          clear hst
          gi_wp2
          any_goals (exfalso; rename_i hu _; revert hu; simp [undef]; done)
          obtain ⟨hJ, hK⟩ := HJ.out
          exact finish5 _ w _ D rfl hK (by omega) hJ.2.2
        · have hjI : ((j : Int) == n) = false := by simp; omega
          have hjs : ((j : Int) == st) = true := by simpa using hst
          have hsn : st < (n : Int) := by omega
          clear hst
          gi_wp2
          obtain ⟨hJ, hK⟩ := HJ.out
          exact finish5 _ w _ D rfl hK (by omega) hJ.2.2

theorem walk (room : Int) (a : Option Addr) (len cap : Nat) (f g : Nat → Int) (x st : Int) (w : World)
    (ha : len = 0 ∨ ∃ b off, a = some ⟨b, off, none⟩ ∧ b < w.heap.size ∧ ∀ i, i < len → w.cell? ⟨b, off + i * 2, none⟩ = some (.int .i64 (f i)) ∧ w.cell? ⟨b, off + (i * 2 + 1), none⟩ = some (.int .i64 (g i))) :
    Calls Try.prog 5 #[.int .i64 room, .slice a len cap, .int .i64 x, .int .i64 st] w fun e w' => e = .returned (.bool true) ∧ Below w.heap.size w w' := by
  by_cases h1 : room < 1 ∨ 4096 < room
  · exact walk_bad room a len cap x st h1 w
  by_cases h2 : 60 < len
  · exact walk_long room a len cap x st (by omega) (by omega) h2 w
  obtain ⟨n, rfl⟩ := Int.eq_ofNat_of_zero_le (show 0 ≤ room by omega)
  refine walk_main n a len cap f g x st (by omega) (by omega) (by omega) w fun i hi => ?_
  rcases ha with h | ⟨b, off, h1, h2, h3⟩
  · omega
  · exact ⟨b, off, h1, h2, (h3 i hi).1, (h3 i hi).2⟩

set_option maxRecDepth 100000 in
theorem lifted (os : Os) (started : os.Started) (H : Type) (enc : TypeId × Value → H) :
    ReturnsInHanded {} Try.checked os 5 .any (Rows.ringPlaysSpec.pre6 enc Try.prog Try.f5 Rows.ringPlaysRow.domain false) (Rows.ringPlaysSpec.post enc Try.prog Try.f5 false true false false) := by
  refine returnsInHanded_of_change (C := Try.checked) own started (by kernel_rfl) Try.func5
    (ChangeSpec.witness6 (enc := enc) (C := Try.checked) false ⟨#[], #[.int .i64 0, .slice none 0 0, .int .i64 0, .int .i64 0], []⟩ 8 (by kernel_rfl) (by kernel_rfl) (by kernel_rfl) (by kernel_rfl)) ?_
  intro W base args ds gs before hval0 hW hcnd _
  have hval : ∀ (j : Nat) t v, Try.f5.params[j]? = some t → args[j]? = some v → Value.okWide Try.prog W .any base t v := hval0
  have hW' := hW
  obtain ⟨p, q, hA0, hV, rfl, hfz, hnd⟩ := hW
  have hA : DataW.TrodAll enc Try.prog W 0 (fun _ => true) true Try.f5.params.toList args.toList ds p := hA0
  rw [Try.params5] at hA hval
  obtain ⟨v0, vs0, d0, ds0, p0, q0, hargs, rfl, rfl, h0, r0⟩ := trodAll_cons hA
  obtain ⟨v1, vs1, d1, ds1, p1, q1, rfl, rfl, rfl, h1, r1⟩ := trodAll_cons r0
  obtain ⟨v2, vs2, d2, ds2, p2, q2, rfl, rfl, rfl, h2, r2⟩ := trodAll_cons r1
  obtain ⟨v3, vs3, d3, ds3, p3, q3, rfl, rfl, rfl, h3, r3⟩ := trodAll_cons r2
  obtain ⟨rfl, rfl, rfl⟩ := trodAll_nil r3
  obtain rfl : args = #[v0, v1, v2, v3] := by cases args; simp_all
  obtain ⟨rfl, rfl⟩ := trodVars_none hV
  have k0 := h0
  have lt0 : ∀ x ∈ p0, x.block < W.heap.size := by obtain ⟨m, hm⟩ := k0; exact DataW.trod_lt m _ _ _ hm
  have k1 := h1
  have lt1 : ∀ x ∈ p1, x.block < W.heap.size := by obtain ⟨m, hm⟩ := k1; exact DataW.trod_lt m _ _ _ hm
  have k2 := h2
  have lt2 : ∀ x ∈ p2, x.block < W.heap.size := by obtain ⟨m, hm⟩ := k2; exact DataW.trod_lt m _ _ _ hm
  have k3 := h3
  have lt3 : ∀ x ∈ p3, x.block < W.heap.size := by obtain ⟨m, hm⟩ := k3; exact DataW.trod_lt m _ _ _ hm
  obtain ⟨room, rfl, _⟩ := open_num (hval 0 3 v0 rfl rfl) h0
  obtain ⟨a1, l1, c1, f, g, rfl, ho⟩ := open_ops (hval 1 42 v1 rfl rfl) h1
  obtain ⟨x, rfl, _⟩ := open_num (hval 2 3 v2 rfl rfl) h2
  obtain ⟨st, rfl, _⟩ := open_num (hval 3 3 v3 rfl rfl) h3
  clear hA0 hval0
  refine (walk room a1 l1 c1 f g x st W ho).mono fun e W' ⟨he, bel⟩ => ?_
  subst he
  exact ⟨_, rfl, _, _, _, [], _, [], hW', trodAll_mk1 (shut_bool Try.underlying4 _), (trodAll_cons_mk (Below.trod laidOut (by kernel_rfl) (of_decide_eq_true (by kernel_rfl)) k0 bel lt0) (trodAll_cons_mk (Below.trod laidOut (by kernel_rfl) (of_decide_eq_true (by kernel_rfl)) k1 bel lt1) (trodAll_cons_mk (Below.trod laidOut (by kernel_rfl) (of_decide_eq_true (by kernel_rfl)) k2 bel lt2) (trodAll_cons_mk (Below.trod laidOut (by kernel_rfl) (of_decide_eq_true (by kernel_rfl)) k3 bel lt3) trodAll_mk0)))), rfl, bel.frame _, fun h => by cases h⟩

theorem over : Rows.ringPlaysRow.holds Try.pinned (OpenSpec.ofChange Rows.ringPlaysSpec) :=
  OpenClaim.holds_of_wide 5 Try.f5 rfl rfl rfl rfl rfl rfl rfl ⟨rfl, rfl, rfl, rfl, rfl⟩ rfl rfl rfl rfl rfl (by kernel_rfl) Try.func5 (by kernel_rfl)
    (of_decide_eq_true (by kernel_rfl)) (by unfold Func.isWrapper; first | (rw [if_pos (by decide +kernel)]; kernel_rfl) | (rw [if_neg (by decide +kernel)]; exact ⟨rfl, rfl⟩))
    (fun os started H enc _ => lifted os started H enc)

theorem proved : Rows.RingPlaysSaid := over
#print axioms proved
end plays
end Go.Proofs.Ytiecdlfdfphflaa
