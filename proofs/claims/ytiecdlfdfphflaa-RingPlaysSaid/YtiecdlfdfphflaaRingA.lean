/- contracts of the ring's methods. -/
import Derived.Test.YtiecdlfdfphflaaRows
import Derived.Test.YtiecdlfdfphflaaRingP
import Derived.Test.YtiecdlfdfphflaaQb
import Derived.WalkKit
import Derived.WalkSpells
import Derived.WalkLawsBesides
import Derived.Deep.RegionHeld3
import Derived.Deep.OwnRows
import Derived.Lib.Hide
namespace Go.Proofs.Ytiecdlfdfphflaa
set_option linter.unusedVariables false
open Go.RowKit

theorem ret_int {k : IntKind} {a b : Int} (h : a = b) : Ending.returned (.int k a) = .returned (.int k b) := by rw [h]

/-! ### the ring of numbers -/
namespace numbers

theorem info : (Try.prog.info? 3).map (fun i => (i.zero, i.size, i.bytes)) = some (some (.int .i64 0), 1, 8) := by kernel_rfl

set_option maxHeartbeats 1000000 in
theorem New_no (n : Int) (h : n < 1 ∨ 4096 < n) (w : World) :
    Calls Try.prog 11 #[.int .i64 n] w fun e w' => e = .returned (.tuple #[.pointer none, .int .i64 12]) ∧ w = w' := by
  rcases h with h | h
  · go_enter Try.func11, Try.ntmps11
    go_wp2
    go_ret2
    exact ⟨rfl, rfl⟩
  · have h' : ¬ n < 1 := by omega
    go_enter Try.func11, Try.ntmps11
    go_wp2
    go_ret2
    exact ⟨rfl, rfl⟩

set_option maxHeartbeats 1000000 in
theorem New_yes (n : Nat) (h1 : 1 ≤ n) (h2 : n ≤ 4096) (w : World) :
    Calls Try.prog 11 #[.int .i64 n] w fun e w' => e = .returned (.tuple #[.pointer (some ⟨w.heap.size + 1, 0, none⟩), .int .i64 0]) ∧ w' = (w.alloc (.cells (madeCells #[.int .i64 0] n) 3)).alloc (.cells #[.slice (some ⟨w.heap.size, 0, none⟩) n n, .int .i64 0, .int .i64 0] 60) := by
  have hmk := run_make_row' (P := Try.prog) 33 3 (.int .i64 0) 8 Try.underlying33 info rfl .i64 .i64 n (by omega) (by omega)
  have t1 : ¬ (n : Int) < 1 := by omega
  have t2 : ¬ (4096 : Int) < n := by omega
  go_enter Try.func11, Try.ntmps11
  go_wp2
  go_ret2
  exact ⟨rfl, rfl⟩

theorem New_ring (n : Nat) (h1 : 1 ≤ n) (h2 : n ≤ 4096) (w : World) :
    RingIs ((w.alloc (.cells (madeCells #[.int .i64 0] n) 3)).alloc (.cells #[.slice (some ⟨w.heap.size, 0, none⟩) n n, .int .i64 0, .int .i64 0] 60)) (w.heap.size + 1) w.heap.size n [] := by
  have hr := (World.rowIs_made w (.int .i64 0) n 3).alloc (.cells #[.slice (some ⟨w.heap.size, 0, none⟩) n n, .int .i64 0, .int .i64 0] 60)
  refine ⟨fun _ => .int .i64 0, 0, ⟨?_, ?_, ?_, ?_, ?_, fun i hi => hr.cell hi, fun i _ => hr.frozen i, by omega, h1, h2, by omega, by simp⟩, fun i hi => by simp at hi⟩ <;> simp [go_sem]

set_option maxHeartbeats 1000000 in
theorem place_at (S b room at' p : Nat) (i : Int) (hp : (at' + i.toNat) % room = p) (h0 : 0 ≤ i) (hi : i ≤ 4096) (r1 : 1 ≤ room) (r2 : room ≤ 4096) (al : at' < room) (w : World)
    (c0 : w.cell? ⟨S, 0, none⟩ = some (.slice (some ⟨b, 0, none⟩) room room)) (c1 : w.cell? ⟨S, 1, none⟩ = some (.int .i64 at')) :
    Calls Try.prog 24 #[.pointer (some ⟨S, 0, none⟩), .int .i64 i] w fun e w' => e = .returned (.int .i64 p) ∧ ∃ k, w' = w.drewN k := by
  have HP := Lib.hid hp
  clear hp
  have e1 : IntKind.i64.wrap ((at' : Int) + i) = (at' : Int) + i := IntWalk.i64_in _ (by omega)
  have e2 : (0 : Int) ≤ (at' : Int) + i := by omega
  have e3 : ((room : Int) == 0) = false := by simp; omega
  go_enter Try.func24, Try.ntmps24
  go_wp2_with fail
  go_quiet (fail)
  go_wp2
  go_ret
  exact ⟨ret_int (by rw [← HP.out]; have : ((i.toNat : Nat) : Int) = i := Int.toNat_of_nonneg h0; rw [Int.natCast_emod, Int.natCast_add, this]), nq, rfl⟩

set_option maxHeartbeats 1000000 in
theorem Len_at (S b room at' n : Nat) (vs : Nat → Value) (w : World) (h : RingAt w S b room vs at' n) :
    Calls Try.prog 14 #[.pointer (some ⟨S, 0, none⟩)] w fun e w' => e = .returned (.int .i64 n) ∧ w = w' := by
  obtain ⟨c0, c1, c2, f1, f2, vc, vf, ne, r1, r2, al, nl⟩ := h
  clear vc vf c0 c1
  go_enter Try.func14, Try.ntmps14
  go_wp2
  go_ret
  exact ⟨rfl, rfl⟩

set_option maxHeartbeats 1000000 in
theorem push_full (S b room at' : Nat) (vs : Nat → Value) (x : Int) (w : World) (h : RingAt w S b room vs at' room) :
    Calls Try.prog 13 #[.pointer (some ⟨S, 0, none⟩), .int .i64 x] w fun e w' => e = .returned (.int .i64 14) ∧ ∃ k, w' = w.drewN k := by
  obtain ⟨c0, c1, c2, f1, f2, vc, vf, ne, r1, r2, al, nl⟩ := h
  clear vc vf
  go_enter Try.func13, Try.ntmps13
  go_wp2_with fail
  go_quiet (fail)
  go_wp2
  go_ret
  exact ⟨rfl, nq, rfl⟩

set_option maxHeartbeats 1000000 in
theorem push_room (S b room at' n p : Nat) (vs : Nat → Value) (x : Int) (w : World) (h : RingAt w S b room vs at' n) (hn : n < room) (hp : (at' + n) % room = p) :
    Calls Try.prog 13 #[.pointer (some ⟨S, 0, none⟩), .int .i64 x] w fun e w' => e = .returned (.int .i64 0) ∧ ∃ k, w' = ((w.drewN k).setCell ⟨b, p, none⟩ (.int .i64 x)).setCell ⟨S, 2, none⟩ (.int .i64 (n + 1 : Nat)) := by
  obtain ⟨c0, c1, c2, f1, f2, vc, vf, ne, r1, r2, al, nl⟩ := h
  have hpl : p < room := by rw [← hp]; exact Nat.mod_lt _ (by omega)
  have v1 := vc p hpl
  have v2 := vf p hpl
  have HP := Lib.hid hp
  clear vc vf hp
  have en : ((n : Int) == (room : Int)) = false := by simp; omega
  have ne' : b ≠ S := fun e => ne e.symm
  go_enter Try.func13, Try.ntmps13
  go_wp2_with fail
  go_quiet (fail)
  go_wp2_with fail
  go_region_held3 (fun w' => w'.cell? ⟨S, 0, none⟩ = some (.slice (some ⟨b, 0, none⟩) room room) ∧ w'.cell? ⟨S, 1, none⟩ = some (.int .i64 at') ∧ w'.cell? ⟨S, 2, none⟩ = some (.int .i64 n)) (go_keep)
    (first | (go_at_call 24; refine (place_at S b room at' p n HP.out (by omega) (by omega) r1 r2 al _ (by simp [*]) (by simp [*])).mono ?_; rintro e w' ⟨rfl, kq, rfl⟩))
  all_goals go_wp2
  all_goals go_ret
  all_goals exact ⟨rfl, _, by rw [Int.natCast_add]; rfl⟩

set_option maxHeartbeats 1000000 in
theorem remove_none (S b room at' n : Nat) (vs : Nat → Value) (i : Int) (hi : i < 0 ∨ (n : Int) ≤ i) (w : World) (h : RingAt w S b room vs at' n) :
    Calls Try.prog 23 #[.pointer (some ⟨S, 0, none⟩), .int .i64 i] w fun e w' => e = .returned (.tuple #[.int .i64 0, .int .i64 13]) ∧ w = w' := by
  obtain ⟨c0, c1, c2, f1, f2, vc, vf, ne, r1, r2, al, nl⟩ := h
  clear vc vf
  rcases hi with hi | hi
  · go_enter Try.func23, Try.ntmps23
    go_wp2
    go_ret2
    exact ⟨rfl, rfl⟩
  · have hi' : ¬ i < 0 := by omega
    go_enter Try.func23, Try.ntmps23
    go_wp2
    go_ret2
    exact ⟨rfl, rfl⟩

set_option maxHeartbeats 2000000 in
theorem remove_first (S b room at' n p : Nat) (vs : Nat → Value) (x : Int) (hx : vs at' = .int .i64 x) (w : World) (h : RingAt w S b room vs at' (n + 1)) (hp : (at' + 1) % room = p) :
    Calls Try.prog 23 #[.pointer (some ⟨S, 0, none⟩), .int .i64 0] w fun e w' => e = .returned (.tuple #[.int .i64 x, .int .i64 0]) ∧ ∃ k k2, w' = ((((w.drewN k).setCell ⟨b, at', none⟩ (.int .i64 0)).drewN k2).setCell ⟨S, 1, none⟩ (.int .i64 (p : Nat))).setCell ⟨S, 2, none⟩ (.int .i64 (n : Nat)) := by
  obtain ⟨c0, c1, c2, f1, f2, vc, vf, ne, r1, r2, al, nl⟩ := h
  have v1 := vc at' al
  have v2 := vf at' al
  rw [hx] at v1
  rw [Int.natCast_add] at c2
  have hq : (at' + (0 : Int).toNat) % room = at' := by simpa using Nat.mod_eq_of_lt al
  have HP := Lib.hid hp
  have HQ := Lib.hid hq
  clear vc vf hp hq hx
  have ne' : b ≠ S := fun e => ne e.symm
  go_enter Try.func23, Try.ntmps23
  go_wp2_with fail
  go_quiet ((go_at_call 24; refine Calls.quiet_of (place_at S b room at' at' 0 HQ.out (by omega) (by omega) r1 r2 al _ ?_ ?_) <;> simp [*]))
  go_wp2_with fail
  refine wp_loop_rounds 1 ?_
  rw [rounds_succ]
  go_wp2_with fail
  go_region_held3 (fun w' => w'.cell? ⟨S, 0, none⟩ = some (.slice (some ⟨b, 0, none⟩) room room) ∧ w'.cell? ⟨S, 1, none⟩ = some (.int .i64 at') ∧ w'.cell? ⟨S, 2, none⟩ = some (.int .i64 ((n : Int) + 1))) (go_keep) (fail)
  go_wp2_with (go_at_call 24; refine (place_at S b room at' p 1 HP.out (by omega) (by omega) r1 r2 al _ (by simp [go_sem, *]) (by simp [go_sem, *])).mono ?_; rintro e w' ⟨rfl, kq, rfl⟩)
  go_ret2
  exact ⟨rfl, _, _, rfl⟩

/-! the same, of the ring as a list: a push, a pop, how many there are -/
/-- what a call on the ring may write -/
def Two (S b : Nat) : Nat → Prop := fun i => i = S ∨ i = b

theorem chg_two {w : World} {S b : Nat} (k : Nat) (p : Nat) (x y : Value) : Chg (Two S b) w (((w.drewN k).setCell ⟨b, p, none⟩ x).setCell ⟨S, 2, none⟩ y) :=
  (((Chg.refl _ _).drewN k).setCell (.inl (.inr rfl)) _).setCell (.inl (.inl rfl)) _
theorem chg_pop {w : World} {S b : Nat} (k k2 : Nat) (p : Nat) (x y z : Value) : Chg (Two S b) w (((((w.drewN k).setCell ⟨b, p, none⟩ x).drewN k2).setCell ⟨S, 1, none⟩ y).setCell ⟨S, 2, none⟩ z) :=
  (((((Chg.refl _ _).drewN k).setCell (.inl (.inr rfl)) _).drewN k2).setCell (.inl (.inl rfl)) _).setCell (.inl (.inl rfl)) _

theorem push_is (S b room : Nat) (L : List Value) (x : Int) (w : World) (h : RingIs w S b room L) (hn : L.length < room) :
    Calls Try.prog 13 #[.pointer (some ⟨S, 0, none⟩), .int .i64 x] w fun e w' => e = .returned (.int .i64 0) ∧ RingIs w' S b room (L ++ [.int .i64 x]) ∧ Chg (Two S b) w w' := by
  obtain ⟨vs, at', hr, hl⟩ := h
  refine (push_room S b room at' L.length _ vs x w hr hn rfl).mono ?_
  rintro e w' ⟨rfl, k, rfl⟩
  exact ⟨rfl, hr.pushed hl hn _ k, chg_two _ _ _ _⟩
theorem push_no (S b room : Nat) (L : List Value) (x : Int) (w : World) (h : RingIs w S b room L) (hn : L.length = room) :
    Calls Try.prog 13 #[.pointer (some ⟨S, 0, none⟩), .int .i64 x] w fun e w' => e = .returned (.int .i64 14) ∧ RingIs w' S b room L ∧ Chg (Two S b) w w' := by
  obtain ⟨vs, at', hr, hl⟩ := h
  have hr' := hr
  rw [hn] at hr'
  refine (push_full S b room at' vs x w hr').mono ?_
  rintro e w' ⟨rfl, k, rfl⟩
  exact ⟨rfl, ⟨vs, at', hr.drewN k, hl⟩, (Chg.refl _ _).drewN k⟩

set_option maxHeartbeats 400000 in
theorem Pop_of (S : Nat) (v : Int) (n : Int) (w : World) (R : World → Prop)
    (h : Calls Try.prog 23 #[.pointer (some ⟨S, 0, none⟩), .int .i64 0] w fun e w' => e = .returned (.tuple #[.int .i64 v, .int .i64 n]) ∧ R w') :
    Calls Try.prog 12 #[.pointer (some ⟨S, 0, none⟩)] w fun e w' => e = .returned (.tuple #[.int .i64 v, .int .i64 n]) ∧ R w' := by
  have H := Lib.hid h
  clear h
  go_enter Try.func12, Try.ntmps12
  go_wp2_with (go_at_call 23; refine H.out.mono ?_; rintro e w' ⟨rfl, hr⟩)
  go_ret2
  exact ⟨rfl, hr⟩

theorem pop_is (S b room : Nat) (L : List Value) (x : Int) (w : World) (h : RingIs w S b room (.int .i64 x :: L)) :
    Calls Try.prog 12 #[.pointer (some ⟨S, 0, none⟩)] w fun e w' => e = .returned (.tuple #[.int .i64 x, .int .i64 0]) ∧ RingIs w' S b room L ∧ Chg (Two S b) w w' := by
  obtain ⟨vs, at', hr, hl⟩ := h
  refine Pop_of S x 0 w _ ((remove_first S b room at' L.length _ vs x (hr.popped hl (.int .i64 0) 0 0).2 w (by simpa using hr) rfl).mono ?_)
  rintro e w' ⟨rfl, k, k2, rfl⟩
  exact ⟨rfl, (hr.popped hl _ k k2).1, chg_pop _ _ _ _ _ _⟩
theorem pop_no (S b room : Nat) (w : World) (h : RingIs w S b room []) :
    Calls Try.prog 12 #[.pointer (some ⟨S, 0, none⟩)] w fun e w' => e = .returned (.tuple #[.int .i64 0, .int .i64 13]) ∧ w = w' := by
  obtain ⟨vs, at', hr, hl⟩ := h
  exact Pop_of S 0 13 w _ (remove_none S b room at' 0 vs 0 (.inr (by simp)) w (by simpa using hr))

theorem Len_is (S b room : Nat) (L : List Value) (w : World) (h : RingIs w S b room L) :
    Calls Try.prog 14 #[.pointer (some ⟨S, 0, none⟩)] w fun e w' => e = .returned (.int .i64 (L.length : Nat)) ∧ w = w' := by
  obtain ⟨vs, at', hr, hl⟩ := h
  exact Len_at S b room at' L.length vs w hr
end numbers

/-! ### the ring of texts -/
namespace texts

theorem info : (Try.prog.info? 9).map (fun i => (i.zero, i.size, i.bytes)) = some (some (.string ⟨#[]⟩), 1, 16) := by kernel_rfl

set_option maxHeartbeats 1000000 in
theorem New_no (n : Int) (h : n < 1 ∨ 4096 < n) (w : World) :
    Calls Try.prog 7 #[.int .i64 n] w fun e w' => e = .returned (.tuple #[.pointer none, .int .i64 12]) ∧ w = w' := by
  rcases h with h | h
  · go_enter Try.func7, Try.ntmps7
    go_wp2
    go_ret2
    exact ⟨rfl, rfl⟩
  · have h' : ¬ n < 1 := by omega
    go_enter Try.func7, Try.ntmps7
    go_wp2
    go_ret2
    exact ⟨rfl, rfl⟩

set_option maxHeartbeats 1000000 in
theorem New_yes (n : Nat) (h1 : 1 ≤ n) (h2 : n ≤ 4096) (w : World) :
    Calls Try.prog 7 #[.int .i64 n] w fun e w' => e = .returned (.tuple #[.pointer (some ⟨w.heap.size + 1, 0, none⟩), .int .i64 0]) ∧ w' = (w.alloc (.cells (madeCells #[.string ⟨#[]⟩] n) 9)).alloc (.cells #[.slice (some ⟨w.heap.size, 0, none⟩) n n, .int .i64 0, .int .i64 0] 56) := by
  have hmk := run_make_row' (P := Try.prog) 22 9 (.string ⟨#[]⟩) 16 Try.underlying22 info rfl .i64 .i64 n (by omega) (by omega)
  have t1 : ¬ (n : Int) < 1 := by omega
  have t2 : ¬ (4096 : Int) < n := by omega
  go_enter Try.func7, Try.ntmps7
  go_wp2
  go_ret2
  exact ⟨rfl, rfl⟩

theorem New_ring (n : Nat) (h1 : 1 ≤ n) (h2 : n ≤ 4096) (w : World) :
    RingIs ((w.alloc (.cells (madeCells #[.string ⟨#[]⟩] n) 9)).alloc (.cells #[.slice (some ⟨w.heap.size, 0, none⟩) n n, .int .i64 0, .int .i64 0] 56)) (w.heap.size + 1) w.heap.size n [] := by
  have hr := (World.rowIs_made w (.string ⟨#[]⟩) n 9).alloc (.cells #[.slice (some ⟨w.heap.size, 0, none⟩) n n, .int .i64 0, .int .i64 0] 56)
  refine ⟨fun _ => .string ⟨#[]⟩, 0, ⟨?_, ?_, ?_, ?_, ?_, fun i hi => hr.cell hi, fun i _ => hr.frozen i, by omega, h1, h2, by omega, by simp⟩, fun i hi => by simp at hi⟩ <;> simp [go_sem]

set_option maxHeartbeats 1000000 in
theorem place_at (S b room at' p : Nat) (i : Int) (hp : (at' + i.toNat) % room = p) (h0 : 0 ≤ i) (hi : i ≤ 4096) (r1 : 1 ≤ room) (r2 : room ≤ 4096) (al : at' < room) (w : World)
    (c0 : w.cell? ⟨S, 0, none⟩ = some (.slice (some ⟨b, 0, none⟩) room room)) (c1 : w.cell? ⟨S, 1, none⟩ = some (.int .i64 at')) :
    Calls Try.prog 21 #[.pointer (some ⟨S, 0, none⟩), .int .i64 i] w fun e w' => e = .returned (.int .i64 p) ∧ ∃ k, w' = w.drewN k := by
  have HP := Lib.hid hp
  clear hp
  have e1 : IntKind.i64.wrap ((at' : Int) + i) = (at' : Int) + i := IntWalk.i64_in _ (by omega)
  have e2 : (0 : Int) ≤ (at' : Int) + i := by omega
  have e3 : ((room : Int) == 0) = false := by simp; omega
  go_enter Try.func21, Try.ntmps21
  go_wp2_with fail
  go_quiet (fail)
  go_wp2
  go_ret
  exact ⟨ret_int (by rw [← HP.out]; have : ((i.toNat : Nat) : Int) = i := Int.toNat_of_nonneg h0; rw [Int.natCast_emod, Int.natCast_add, this]), nq, rfl⟩

set_option maxHeartbeats 1000000 in
theorem Len_at (S b room at' n : Nat) (vs : Nat → Value) (w : World) (h : RingAt w S b room vs at' n) :
    Calls Try.prog 10 #[.pointer (some ⟨S, 0, none⟩)] w fun e w' => e = .returned (.int .i64 n) ∧ w = w' := by
  obtain ⟨c0, c1, c2, f1, f2, vc, vf, ne, r1, r2, al, nl⟩ := h
  clear vc vf c0 c1
  go_enter Try.func10, Try.ntmps10
  go_wp2
  go_ret
  exact ⟨rfl, rfl⟩

set_option maxHeartbeats 1000000 in
theorem push_full (S b room at' : Nat) (vs : Nat → Value) (x : ByteArray) (w : World) (h : RingAt w S b room vs at' room) :
    Calls Try.prog 8 #[.pointer (some ⟨S, 0, none⟩), .string x] w fun e w' => e = .returned (.int .i64 14) ∧ ∃ k, w' = w.drewN k := by
  obtain ⟨c0, c1, c2, f1, f2, vc, vf, ne, r1, r2, al, nl⟩ := h
  clear vc vf
  go_enter Try.func8, Try.ntmps8
  go_wp2_with fail
  go_quiet (fail)
  go_wp2
  go_ret
  exact ⟨rfl, nq, rfl⟩

set_option maxHeartbeats 1000000 in
theorem push_room (S b room at' n p : Nat) (vs : Nat → Value) (x : ByteArray) (w : World) (h : RingAt w S b room vs at' n) (hn : n < room) (hp : (at' + n) % room = p) :
    Calls Try.prog 8 #[.pointer (some ⟨S, 0, none⟩), .string x] w fun e w' => e = .returned (.int .i64 0) ∧ ∃ k, w' = ((w.drewN k).setCell ⟨b, p, none⟩ (.string x)).setCell ⟨S, 2, none⟩ (.int .i64 (n + 1 : Nat)) := by
  obtain ⟨c0, c1, c2, f1, f2, vc, vf, ne, r1, r2, al, nl⟩ := h
  have hpl : p < room := by rw [← hp]; exact Nat.mod_lt _ (by omega)
  have v1 := vc p hpl
  have v2 := vf p hpl
  have HP := Lib.hid hp
  clear vc vf hp
  have en : ((n : Int) == (room : Int)) = false := by simp; omega
  have ne' : b ≠ S := fun e => ne e.symm
  go_enter Try.func8, Try.ntmps8
  go_wp2_with fail
  go_quiet (fail)
  go_wp2_with fail
  go_region_held3 (fun w' => w'.cell? ⟨S, 0, none⟩ = some (.slice (some ⟨b, 0, none⟩) room room) ∧ w'.cell? ⟨S, 1, none⟩ = some (.int .i64 at') ∧ w'.cell? ⟨S, 2, none⟩ = some (.int .i64 n)) (go_keep)
    (first | (go_at_call 21; refine (place_at S b room at' p n HP.out (by omega) (by omega) r1 r2 al _ (by simp [*]) (by simp [*])).mono ?_; rintro e w' ⟨rfl, kq, rfl⟩))
  all_goals go_wp2
  all_goals go_ret
  all_goals exact ⟨rfl, _, by rw [Int.natCast_add]; rfl⟩

set_option maxHeartbeats 1000000 in
theorem remove_none (S b room at' n : Nat) (vs : Nat → Value) (i : Int) (hi : i < 0 ∨ (n : Int) ≤ i) (w : World) (h : RingAt w S b room vs at' n) :
    Calls Try.prog 22 #[.pointer (some ⟨S, 0, none⟩), .int .i64 i] w fun e w' => e = .returned (.tuple #[.string ⟨#[]⟩, .int .i64 13]) ∧ w = w' := by
  obtain ⟨c0, c1, c2, f1, f2, vc, vf, ne, r1, r2, al, nl⟩ := h
  clear vc vf
  rcases hi with hi | hi
  · go_enter Try.func22, Try.ntmps22
    go_wp2
    go_ret2
    exact ⟨rfl, rfl⟩
  · have hi' : ¬ i < 0 := by omega
    go_enter Try.func22, Try.ntmps22
    go_wp2
    go_ret2
    exact ⟨rfl, rfl⟩

set_option maxHeartbeats 2000000 in
theorem remove_first (S b room at' n p : Nat) (vs : Nat → Value) (x : ByteArray) (hx : vs at' = .string x) (w : World) (h : RingAt w S b room vs at' (n + 1)) (hp : (at' + 1) % room = p) :
    Calls Try.prog 22 #[.pointer (some ⟨S, 0, none⟩), .int .i64 0] w fun e w' => e = .returned (.tuple #[.string x, .int .i64 0]) ∧ ∃ k k2, w' = ((((w.drewN k).setCell ⟨b, at', none⟩ (.string ⟨#[]⟩)).drewN k2).setCell ⟨S, 1, none⟩ (.int .i64 (p : Nat))).setCell ⟨S, 2, none⟩ (.int .i64 (n : Nat)) := by
  obtain ⟨c0, c1, c2, f1, f2, vc, vf, ne, r1, r2, al, nl⟩ := h
  have v1 := vc at' al
  have v2 := vf at' al
  rw [hx] at v1
  rw [Int.natCast_add] at c2
  have hq : (at' + (0 : Int).toNat) % room = at' := by simpa using Nat.mod_eq_of_lt al
  have HP := Lib.hid hp
  have HQ := Lib.hid hq
  clear vc vf hp hq hx
  have ne' : b ≠ S := fun e => ne e.symm
  go_enter Try.func22, Try.ntmps22
  go_wp2_with fail
  go_quiet ((go_at_call 21; refine Calls.quiet_of (place_at S b room at' at' 0 HQ.out (by omega) (by omega) r1 r2 al _ ?_ ?_) <;> simp [*]))
  go_wp2_with fail
  refine wp_loop_rounds 1 ?_
  rw [rounds_succ]
  go_wp2_with fail
  go_region_held3 (fun w' => w'.cell? ⟨S, 0, none⟩ = some (.slice (some ⟨b, 0, none⟩) room room) ∧ w'.cell? ⟨S, 1, none⟩ = some (.int .i64 at') ∧ w'.cell? ⟨S, 2, none⟩ = some (.int .i64 ((n : Int) + 1))) (go_keep) (fail)
  go_wp2_with (go_at_call 21; refine (place_at S b room at' p 1 HP.out (by omega) (by omega) r1 r2 al _ (by simp [go_sem, *]) (by simp [go_sem, *])).mono ?_; rintro e w' ⟨rfl, kq, rfl⟩)
  go_ret2
  exact ⟨rfl, _, _, rfl⟩

/-! the same, of the ring as a list: a push, a pop, how many there are -/
/-- what a call on the ring may write -/
def Two (S b : Nat) : Nat → Prop := fun i => i = S ∨ i = b

theorem chg_two {w : World} {S b : Nat} (k : Nat) (p : Nat) (x y : Value) : Chg (Two S b) w (((w.drewN k).setCell ⟨b, p, none⟩ x).setCell ⟨S, 2, none⟩ y) :=
  (((Chg.refl _ _).drewN k).setCell (.inl (.inr rfl)) _).setCell (.inl (.inl rfl)) _
theorem chg_pop {w : World} {S b : Nat} (k k2 : Nat) (p : Nat) (x y z : Value) : Chg (Two S b) w (((((w.drewN k).setCell ⟨b, p, none⟩ x).drewN k2).setCell ⟨S, 1, none⟩ y).setCell ⟨S, 2, none⟩ z) :=
  (((((Chg.refl _ _).drewN k).setCell (.inl (.inr rfl)) _).drewN k2).setCell (.inl (.inl rfl)) _).setCell (.inl (.inl rfl)) _

theorem push_is (S b room : Nat) (L : List Value) (x : ByteArray) (w : World) (h : RingIs w S b room L) (hn : L.length < room) :
    Calls Try.prog 8 #[.pointer (some ⟨S, 0, none⟩), .string x] w fun e w' => e = .returned (.int .i64 0) ∧ RingIs w' S b room (L ++ [.string x]) ∧ Chg (Two S b) w w' := by
  obtain ⟨vs, at', hr, hl⟩ := h
  refine (push_room S b room at' L.length _ vs x w hr hn rfl).mono ?_
  rintro e w' ⟨rfl, k, rfl⟩
  exact ⟨rfl, hr.pushed hl hn _ k, chg_two _ _ _ _⟩
theorem push_no (S b room : Nat) (L : List Value) (x : ByteArray) (w : World) (h : RingIs w S b room L) (hn : L.length = room) :
    Calls Try.prog 8 #[.pointer (some ⟨S, 0, none⟩), .string x] w fun e w' => e = .returned (.int .i64 14) ∧ RingIs w' S b room L ∧ Chg (Two S b) w w' := by
  obtain ⟨vs, at', hr, hl⟩ := h
  have hr' := hr
  rw [hn] at hr'
  refine (push_full S b room at' vs x w hr').mono ?_
  rintro e w' ⟨rfl, k, rfl⟩
  exact ⟨rfl, ⟨vs, at', hr.drewN k, hl⟩, (Chg.refl _ _).drewN k⟩

set_option maxHeartbeats 400000 in
theorem Pop_of (S : Nat) (v : ByteArray) (n : Int) (w : World) (R : World → Prop)
    (h : Calls Try.prog 22 #[.pointer (some ⟨S, 0, none⟩), .int .i64 0] w fun e w' => e = .returned (.tuple #[.string v, .int .i64 n]) ∧ R w') :
    Calls Try.prog 9 #[.pointer (some ⟨S, 0, none⟩)] w fun e w' => e = .returned (.tuple #[.string v, .int .i64 n]) ∧ R w' := by
  have H := Lib.hid h
  clear h
  go_enter Try.func9, Try.ntmps9
  go_wp2_with (go_at_call 22; refine H.out.mono ?_; rintro e w' ⟨rfl, hr⟩)
  go_ret2
  exact ⟨rfl, hr⟩

theorem pop_is (S b room : Nat) (L : List Value) (x : ByteArray) (w : World) (h : RingIs w S b room (.string x :: L)) :
    Calls Try.prog 9 #[.pointer (some ⟨S, 0, none⟩)] w fun e w' => e = .returned (.tuple #[.string x, .int .i64 0]) ∧ RingIs w' S b room L ∧ Chg (Two S b) w w' := by
  obtain ⟨vs, at', hr, hl⟩ := h
  refine Pop_of S x 0 w _ ((remove_first S b room at' L.length _ vs x (hr.popped hl (.string ⟨#[]⟩) 0 0).2 w (by simpa using hr) rfl).mono ?_)
  rintro e w' ⟨rfl, k, k2, rfl⟩
  exact ⟨rfl, (hr.popped hl _ k k2).1, chg_pop _ _ _ _ _ _⟩
theorem pop_no (S b room : Nat) (w : World) (h : RingIs w S b room []) :
    Calls Try.prog 9 #[.pointer (some ⟨S, 0, none⟩)] w fun e w' => e = .returned (.tuple #[.string ⟨#[]⟩, .int .i64 13]) ∧ w = w' := by
  obtain ⟨vs, at', hr, hl⟩ := h
  exact Pop_of S ⟨#[]⟩ 13 w _ (remove_none S b room at' 0 vs 0 (.inr (by simp)) w (by simpa using hr))

theorem Len_is (S b room : Nat) (L : List Value) (w : World) (h : RingIs w S b room L) :
    Calls Try.prog 10 #[.pointer (some ⟨S, 0, none⟩)] w fun e w' => e = .returned (.int .i64 (L.length : Nat)) ∧ w = w' := by
  obtain ⟨vs, at', hr, hl⟩ := h
  exact Len_at S b room at' L.length vs w hr
end texts

end Go.Proofs.Ytiecdlfdfphflaa
