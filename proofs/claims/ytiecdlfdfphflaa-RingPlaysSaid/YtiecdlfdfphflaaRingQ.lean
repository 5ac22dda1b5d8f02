/- the ring's iterator; Room, First. -/
import Derived.Test.YtiecdlfdfphflaaRingA
import Derived.Test.YtiecdlfdfphflaaQy
import Derived.Test.YtiecdlfdfphflaaRf3
import Derived.RangeFuncNested
import Derived.RangeFuncBound
import Derived.RangeFuncCalls
import Derived.RangeFuncLeaves
import Derived.Shelf.Abstract
import Derived.Shelf.RegionOpen
import Derived.OwnWalkIn
import Derived.TacticsInMore
import Derived.LoopNIn
import Derived.LoopIn
namespace Go.Proofs.Ytiecdlfdfphflaa
set_option linter.unusedVariables false
open Go.RowKit Go.Shelf
attribute [local go_sem] Oper.semAt_some
namespace numbers

theorem ite_no {c : Prop} [Decidable c] {A B : Prop} (h : ¬ c) (hB : B) : if c then A else B := by rw [if_neg h]; exact hB

/-- a ring of numbers, as a list of numbers -/
def RingI (w : World) (S b room : Nat) (L : List Int) : Prop := RingIs w S b room (L.map (Value.int .i64))

set_option maxHeartbeats 400000 in
theorem Room_is (S b room : Nat) (L : List Value) (w : World) (h : RingIs w S b room L) :
    Calls Try.prog 29 #[.pointer (some ⟨S, 0, none⟩)] w fun e w' => e = .returned (.int .i64 room) ∧ w = w' := by
  obtain ⟨vs, at', ⟨c0, c1, c2, f1, f2, vc, vf, ne, r1, r2, al, nl⟩, _⟩ := h
  clear vc vf
  go_enter Try.func29, Try.ntmps29
  go_wp2
  go_ret
  exact ⟨rfl, rfl⟩

set_option maxHeartbeats 400000 in
theorem First_no (S b room : Nat) (w : World) (h : RingIs w S b room []) :
    Calls Try.prog 28 #[.pointer (some ⟨S, 0, none⟩)] w fun e w' => e = .returned (.tuple #[.int .i64 0, .int .i64 13]) ∧ w = w' := by
  obtain ⟨vs, at', ⟨c0, c1, c2, f1, f2, vc, vf, ne, r1, r2, al, nl⟩, _⟩ := h
  clear vc vf
  simp only [List.length_nil] at c2
  go_enter Try.func28, Try.ntmps28
  go_wp2
  go_ret2
  exact ⟨rfl, rfl⟩

set_option maxHeartbeats 400000 in
theorem First_is (S b room : Nat) (x : Int) (L : List Value) (w : World) (h : RingIs w S b room (.int .i64 x :: L)) :
    Calls Try.prog 28 #[.pointer (some ⟨S, 0, none⟩)] w fun e w' => e = .returned (.tuple #[.int .i64 x, .int .i64 0]) ∧ ∃ k, w' = w.drewN k := by
  obtain ⟨vs, at', ⟨c0, c1, c2, f1, f2, vc, vf, ne, r1, r2, al, nl⟩, hl⟩ := h
  have h0 := hl 0 (by simp)
  rw [Nat.add_zero, Nat.mod_eq_of_lt al] at h0
  have v1 := vc at' al
  rw [h0] at v1
  simp only [List.getElem_cons_zero] at v1
  have hn0 : ((((Value.int .i64 x :: L).length : Nat) : Int) == 0) = false := by simp; omega
  clear vc vf hl h0
  generalize (Value.int .i64 x :: L).length = n at *
  go_enter Try.func28, Try.ntmps28
  go_wp2_with fail
  go_quiet (fail)
  go_wp2
  go_ret2
  exact ⟨rfl, nq, rfl⟩

set_option maxHeartbeats 400000 in
theorem All_any (p : Option Addr) (w : World) :
    Calls Try.prog 20 #[.pointer p] w fun e w' => e = .returned (.func (.func 30) #[] #[.pointer (some ⟨w.heap.size, 0, none⟩)]) ∧ w' = w.alloc (.cells #[.pointer p] 35) := by
  go_enter Try.func20, Try.ntmps20
  go_wp2
  go_ret
  exact ⟨rfl, rfl⟩

/-- what a ring's iterator gives -/
def ringV (L : List Int) : List (Array Value) := (List.range L.length).map fun i => #[.int .i64 (i : Nat), .int .i64 (L.getD i 0)]
theorem ringV_len (L : List Int) : (ringV L).length = L.length := by simp [ringV]
theorem ringV_at (L : List Int) (k : Nat) (h : k < L.length) : (ringV L)[k]? = some #[.int .i64 (k : Nat), .int .i64 (L.getD k 0)] := by unfold ringV; rw [List.getElem?_map, List.getElem?_range h]; rfl
theorem ringV_get (L : List Int) (k : Nat) (v : Array Value) (h : (ringV L)[k]? = some v) : k < L.length ∧ v = #[.int .i64 (k : Nat), .int .i64 (L.getD k 0)] := by
  have hk : k < L.length := by
    have := (List.getElem?_eq_some_iff.1 h).1
    rw [ringV_len] at this; exact this
  rw [ringV_at L k hk] at h
  exact ⟨hk, (Option.some.inj h).symm⟩
attribute [irreducible] ringV

theorem place_keeps (S b room at' p : Nat) (i : Int) (hp : (at' + i.toNat) % room = p) (h0 : 0 ≤ i) (hi : i ≤ 4096) (r1 : 1 ≤ room) (r2 : room ≤ 4096) (al : at' < room) (U : World)
    (c0 : U.cell? ⟨S, 0, none⟩ = some (.slice (some ⟨b, 0, none⟩) room room)) (c1 : U.cell? ⟨S, 1, none⟩ = some (.int .i64 at')) (hS : S < U.heap.size) (w' : World) (hk : Keeps U w') :
    Calls Try.prog 24 #[.pointer (some ⟨S, 0, none⟩), .int .i64 i] w' fun e w'' => e = .returned (.int .i64 p) ∧ Keeps U w'' := by
  obtain ⟨hc, _⟩ := hk.cells
  refine (place_at S b room at' p i hp h0 hi r1 r2 al w' ((hc S 0 hS).trans c0) ((hc S 1 hS).trans c1)).mono ?_
  rintro e w'' ⟨rfl, k, rfl⟩
  exact ⟨rfl, hk.trans ⟨rfl, rfl, rfl, Nat.le_refl _, fun _ _ => rfl⟩⟩

set_option maxRecDepth 100000 in
set_option maxHeartbeats 2000000 in
theorem all_call (B S b room : Nat) (L : List Int) (W : World) (hring : RingI W S b room L) (hB : W.cell? ⟨B, 0, none⟩ = some (.pointer (some ⟨S, 0, none⟩))) (sB : B < W.heap.size) (sS : S < W.heap.size) (sb : b < W.heap.size) :
    ItCall2 Try.prog 30 #[.pointer (some ⟨B, 0, none⟩)] (ringV L) (fun x => x = B ∨ x = S ∨ x = b) (fun _ => False) W := by
  intro l cw J Jx hl hcw sJ sJx hY h0
  obtain ⟨vs, at', hr, hvs⟩ := hring
  rw [List.length_map] at hr
  have hval : ∀ k, k < L.length → vs ((at' + k) % room) = .int .i64 (L.getD k 0) := fun k hk => by
    rw [hvs k (by simpa using hk)]; simp [List.getD, hk]
  have HV := Lib.hid hval
  have HY := Lib.hid hY
  have HJ := Lib.hid sJ
  have HC := Lib.hid hcw
  have c2 := hr.c2
  have HR := Lib.hid hr
  obtain ⟨n, hn⟩ : ∃ n, n = L.length := ⟨_, rfl⟩
  rw [← hn] at c2
  have HN := Lib.hid hn
  clear hvs hval hY sJ sJx hcw hr hn
  refine (callsIn_wide (n := 9)).1 ?_
  refine callsIn_of_wp Try.func30 rfl trivial ?_ rfl
  simp only [Try.ntmps30, List.size_toArray, List.length_cons, List.length_nil, Nat.reduceAdd, Nat.reduceSub, Array.replicate_succ, Array.replicate_zero, List.push_toArray, List.append_toArray, List.nil_append, List.cons_append]
  gi_wp2
  clear c2
  gi_loopw [8] (fun i wr => ∃ k : Nat, k ≤ n ∧ i = .int .i64 k ∧ wr.cell? ⟨B, 0, none⟩ = some (.pointer (some ⟨S, 0, none⟩)) ∧ RingAt wr S b room vs at' n ∧ J k wr ∧ W.heap.size ≤ wr.heap.size) (fun i _ => n - (intOf i).toNat)
  case atStart => exact ⟨0, by omega, rfl, hB, by rw [HN.out]; exact HR.out, h0, Nat.le_refl _⟩
  case round =>
    obtain ⟨k, hk, rfl, cB, hr, hJ, hsz⟩ := hrel
    have HT := Lib.hid hJ
    clear hJ hB h0
    by_cases hlt : k < n
    · have hkI : (k : Int) < n := by omega
      obtain ⟨c0, c1, c2, f1, f2, vc, vf, ne, r1, r2, al, nl⟩ := id hr
      obtain ⟨p, hp⟩ : ∃ p, p = (at' + k) % room := ⟨_, rfl⟩
      have hpl : p < room := by rw [hp]; exact Nat.mod_lt _ (by omega)
      have v1 := vc p hpl
      rw [hp, HV.out k (by rw [← HN.out]; exact hlt), ← hp] at v1
      have plc := Lib.hid (place_keeps S b room at' p (k : Int) (by simpa using hp.symm) (by omega) (by omega) r1 r2 al wr c0 c1 (by omega))
      have qB : B < wr.heap.size := by omega
      have qS : S < wr.heap.size := by omega
      have qb : b < wr.heap.size := by omega
      have hpI : (p : Int) < room := by omega
      have HRR := Lib.hid hr
      have HLT := Lib.hid hlt
      generalize hx : L.getD k 0 = x at *
      have HX := Lib.hid hx
      clear vc vf hr hp hlt hx c1 c2 f1 f2
      gi_wp2
      refine wpIn_region_yield 11 (by kernel_rfl) (by kernel_rfl) ?_
      simp only [List.take, List.drop]
      repeat (first
          | (with_reducible refine wpQuiet_step (fun K hK => ?_); go_simp; refine hK _ ?_; clear hK K)
          | (with_reducible refine wpQuiet_step (fun K hK => ?_); go_simp
             apply Exists.intro
             refine ⟨fun w' hw' => ?_, hK _ ?_⟩
             focus
               obtain ⟨hcq, hfq⟩ := hw'.cells
               go_simp
               first
                 | (go_at_call 24; exact plc.out w' hw')
                 | rfl
             clear hK K)
          | (with_reducible refine wpQuiet_step (fun K hK => ?_); go_simp; with_reducible refine ite_no ?_ ?_; (exact (by decide)); refine hK _ ?_; clear hK K))
      with_reducible refine wpQuiet_nil ?_
      intro w2 hw2
      obtain ⟨fn, tmps, assign, body, hy, hR⟩ := HY.out k _ w2 8 (ringV_at L k (by rw [← HN.out]; exact HLT.out)) (HJ.out _ _ _ HT.out (Chg.of_below hw2 _)) (Nat.le_trans hsz hw2.size)
      rw [HX.out] at hy
      have HW2 := Lib.hid hw2
      clear hw2
      gi_wp2
      refine hR.mono ?_
      rintro e W3 ⟨hchg, ⟨rfl, hJ3⟩ | ⟨rfl, hJx⟩⟩
      · have hw2 := HW2.out
        have nB : ¬ cw B := fun h => (HC.out B h).2 (.inl rfl)
        have nS : ¬ cw S := fun h => (HC.out S h).2 (.inr (.inl rfl))
        have nb : ¬ cw b := fun h => (HC.out b h).2 (.inr (.inr rfl))
        have z2 : wr.heap.size ≤ w2.heap.size := hw2.size
        have cB3 : W3.cell? ⟨B, 0, none⟩ = some (.pointer (some ⟨S, 0, none⟩)) := (hchg.cell (p := ⟨B, 0, none⟩) (by show B < _; omega) nB).trans ((hw2.cells.1 B 0 qB).trans cB)
        have hr2 : RingAt w2 S b room vs at' n := HRR.out.chg (cw := fun _ => False) (Chg.of_below hw2 _) qS qb (fun h => h) (fun h => h)
        have HR3 := Lib.hid (hr2.chg hchg (by omega) (by omega) nS nb)
        have hs3 : W.heap.size ≤ W3.heap.size := Nat.le_trans (Nat.le_trans hsz hw2.size) hchg.size
        have HT3 := Lib.hid hJ3
        clear hJ3 nB nS nb hr2 hw2 cB c0 v1
        gi_wp2
        go_roundw
        case rel => exact ⟨k + 1, by have := HLT.out; omega, by go_num, cB3, HR3.out, HT3.out, hs3⟩
        case measure => have := HLT.out; simp [intOf]; omega
      · have HT3 := Lib.hid hJx
        clear hJx
        gi_wp2
        refine bodyPost_ret (results_none rfl _ _ _) rfl ?_
        exact ⟨⟨_, rfl⟩, .inr HT3.out⟩
    · have hkn : k = n := by omega
      have HD : Hid (J (ringV L).length wr) := by show J _ wr; rw [ringV_len, ← HN.out, ← hkn]; exact HT.out
      subst hkn
      clear hr cB
      gi_wp2
      go_end0
      exact ⟨⟨_, rfl⟩, .inl HD.out⟩
end numbers
end Go.Proofs.Ytiecdlfdfphflaa
