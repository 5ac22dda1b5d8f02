/- Once of a ring of numbers; Remove at any place. -/
import Derived.Test.YtiecdlfdfphflaaRingH
import Derived.Test.YtiecdlfdfphflaaQl
namespace Go.Proofs.Ytiecdlfdfphflaa
set_option linter.unusedVariables false
open Go.RowKit Go.Shelf
namespace numbers

theorem map_len (L : List Int) : (L.map (Value.int .i64)).length = L.length := by simp

/-- what a push makes of a list; its word -/
def pushL (L : List Int) (room : Nat) (x : Int) : List Int := if L.length < room then L ++ [x] else L
def pushE (L : List Int) (room : Nat) : Int := if L.length < room then 0 else 14
theorem push_any (S b room : Nat) (L : List Int) (x : Int) (w : World) (h : RingI w S b room L) :
    Calls Try.prog 13 #[.pointer (some ⟨S, 0, none⟩), .int .i64 x] w fun e w' => e = .returned (.int .i64 (pushE L room)) ∧ RingI w' S b room (pushL L room x) ∧ Chg (Two S b) w w' := by
  have hle : L.length ≤ room := by
    obtain ⟨vs, at', hr, _⟩ := h
    have := hr.nle
    rwa [map_len] at this
  by_cases hn : L.length < room
  · have := push_is S b room _ x w h (by rw [map_len]; exact hn)
    unfold pushE pushL RingI
    rw [if_pos hn, if_pos hn, List.map_append]
    exact this
  · have := push_no S b room _ x w h (by rw [map_len]; omega)
    unfold pushE pushL
    rw [if_neg hn, if_neg hn]
    exact this

def onceL (L : List Int) (room : Nat) (x : Int) : List Int := if x ∈ L then L else pushL L room x
def onceE (L : List Int) (room : Nat) (x : Int) : Int := if x ∈ L then 15 else pushE L room
set_option maxHeartbeats 400000 in
theorem once_any (S b room : Nat) (L : List Int) (x : Int) (w : World) (h : RingI w S b room L) (sS : S < w.heap.size) (sb : b < w.heap.size) :
    Calls Try.prog 26 #[.pointer (some ⟨S, 0, none⟩), .int .i64 x] w fun e w' => e = .returned (.int .i64 (onceE L room x)) ∧ RingI w' S b room (onceL L room x) ∧ Chg (Two S b) w w' := by
  have HH := Lib.hid (has_any S b room L x w h sS sb)
  have HR := Lib.hid h
  clear h
  unfold onceE onceL
  by_cases hx : x ∈ L
  · rw [if_pos hx, if_pos hx]
    rw [decide_eq_true hx] at HH
    clear hx
    go_enter Try.func26, Try.ntmps26
    go_wp2_with (go_at_call 18; refine HH.out.mono ?_; rintro e w1 ⟨rfl, hb⟩)
    go_ret
    exact ⟨rfl, HR.out.keeps hb sS sb, Chg.of_below hb _⟩
  · rw [if_neg hx, if_neg hx]
    rw [decide_eq_false hx] at HH
    clear hx
    go_enter Try.func26, Try.ntmps26
    go_wp2_with fail
    refine HH.out.mono ?_
    rintro e w1 ⟨rfl, hb⟩
    have HB := Lib.hid hb
    clear hb
    go_wp2_with fail
    refine (push_any S b room L x _ (HR.out.keeps HB.out sS sb)).mono ?_
    rintro e w2 ⟨rfl, hr, hc⟩
    have HX := Lib.hid (And.intro hr hc)
    clear hr hc
    go_wp2
    go_ret
    exact ⟨rfl, HX.out.1, (Chg.of_below HB.out _).trans HX.out.2⟩

/-- what stands at place j while those before i are moved on, down to k -/
def shv (L : List Int) (i k j : Nat) : Int := if k < j ∧ j ≤ i then L.getD (j - 1) 0 else L.getD j 0
theorem shv_start (L : List Int) (i j : Nat) : shv L i i j = L.getD j 0 := by unfold shv; rw [if_neg (by omega)]
theorem shv_end (L : List Int) (i : Nat) (hi : i < L.length) (j : Nat) (hj : j < (L.getD 0 0 :: L.eraseIdx i).length) : shv L i 0 j = (L.getD 0 0 :: L.eraseIdx i)[j] := by
  unfold shv
  cases j with
  | zero => rw [if_neg (by omega)]; rfl
  | succ j =>
    simp only [List.length_cons, List.length_eraseIdx] at hj
    rw [if_pos hi] at hj
    rw [List.getElem_cons_succ, List.getElem_eraseIdx]
    by_cases h : j + 1 ≤ i
    · rw [if_pos ⟨by omega, h⟩, dif_pos (by omega), Nat.add_sub_cancel]
      have : j < L.length := by omega
      simp [List.getD, this]
    · rw [if_neg (by omega), dif_neg (by omega)]
      have : j + 1 < L.length := by omega
      simp [List.getD, this]

theorem lt_of_cell {w : World} {a : Addr} {v : Value} (h : w.cell? a = some v) : a.block < w.heap.size := by
  unfold World.cell? at h
  cases ho : w.heap[a.block]? with
  | none => simp [ho] at h
  | some o => exact (Array.getElem?_eq_some_iff.1 ho).1
/-- a place of the ring -/
structure PlIs (at' room : Nat) (i : Int) (p : Nat) : Prop where
  h0 : 0 ≤ i
  hi : i ≤ 4096
  eq : (at' + i.toNat) % room = p

set_option maxRecDepth 100000 in
set_option maxHeartbeats 4000000 in
theorem remove_at (S b room : Nat) (L : List Int) (i : Nat) (hi : i < L.length) (w : World) (h : RingI w S b room L) :
    Calls Try.prog 23 #[.pointer (some ⟨S, 0, none⟩), .int .i64 i] w fun e w' => e = .returned (.tuple #[.int .i64 (L.getD i 0), .int .i64 0]) ∧ RingI w' S b room (L.eraseIdx i) ∧ Chg (Two S b) w w' := by
  obtain ⟨vs, at', hr, hvs⟩ := h
  rw [map_len] at hr
  obtain ⟨n, hn⟩ : ∃ n, n = L.length := ⟨_, rfl⟩
  have hval : ∀ k, k < L.length → vs ((at' + k) % room) = .int .i64 (L.getD k 0) := fun k hk => by
    rw [hvs k (by simpa using hk)]; simp [List.getD, hk]
  rw [← hn] at hr hi
  obtain ⟨c0, c1, c2, f1, f2, vc, vf, ne, r1, r2, al, nl⟩ := id hr
  obtain ⟨p, hp⟩ : ∃ p, p = (at' + i) % room := ⟨_, rfl⟩
  have hpl : p < room := by rw [hp]; exact Nat.mod_lt _ (by omega)
  have v1 := vc p hpl
  rw [hp, hval i (by omega), ← hp] at v1
  have HP := Lib.hid (show (at' + ((i : Nat) : Int).toNat) % room = p by simpa using hp.symm)
  have HV := Lib.hid hval
  have HR := Lib.hid hr
  have HN := Lib.hid hn
  have hiI : (i : Int) < n := by omega
  have hni : ¬ n ≤ i := by omega
  have hi0 : ¬ (i : Int) < 0 := by omega
  generalize hx : L.getD i 0 = x at *
  clear vc vf hp hval hvs hr hn hx
  go_enter Try.func23, Try.ntmps23
  go_wp2_with fail
  go_quiet ((go_at_call 24; refine Calls.quiet_of (place_at S b room at' p i HP.out (by omega) (by omega) r1 r2 al _ ?_ ?_) <;> simp [*]))
  go_wp2_with fail
  have hv0 : ∀ j, j < n → vs ((at' + j) % room) = .int .i64 (shv L i i j) := fun j hj => by rw [HV.out j (by rw [← HN.out]; exact hj), shv_start]
  have HV0 := Lib.hid hv0
  clear hv0 v1
  go_loopw [8] (fun i' wr => ∃ (k : Nat) (vs' : Nat → Value), k ≤ i ∧ i' = .int .i64 k ∧ RingAt wr S b room vs' at' n ∧ (∀ j, j < n → vs' ((at' + j) % room) = .int .i64 (shv L i k j)) ∧ Chg (Two S b) w wr) (fun i' _ => (intOf i').toNat)
  case atStart => exact ⟨i, vs, Nat.le_refl _, rfl, HR.out.drewN _, HV0.out, (Chg.refl _ _).drewN _⟩
  case round =>
    obtain ⟨k, vs', hk, rfl, hr, hv', hchg⟩ := hrel
    by_cases hk0 : 0 < k
    · obtain ⟨c0, c1, c2, f1, f2, vc, vf, ne, r1, r2, al, nl⟩ := id hr
      obtain ⟨p1, hp1⟩ : ∃ p1, p1 = (at' + k) % room := ⟨_, rfl⟩
      obtain ⟨q1, hq1⟩ : ∃ q1, q1 = (at' + (k - 1)) % room := ⟨_, rfl⟩
      have hpl : p1 < room := by rw [hp1]; exact Nat.mod_lt _ (by omega)
      have hql : q1 < room := by rw [hq1]; exact Nat.mod_lt _ (by omega)
      have v1 := vc q1 hql
      rw [hq1, hv' (k - 1) (by omega), ← hq1] at v1
      have u1 := vc p1 hpl
      have u2 := vf p1 hpl
      have sS : S < wr.heap.size := lt_of_cell c0
      have sb : b < wr.heap.size := lt_of_cell v1
      have k1 : PlIs at' room ((k : Nat) : Int) p1 := ⟨by omega, by omega, by rw [hp1]; simp⟩
      have k2 : PlIs at' room (((k : Nat) : Int) - 1) q1 := ⟨by omega, by omega, by rw [hq1]; congr 2; omega⟩
      have plc := Lib.hid (fun (j : Int) (q : Nat) (h : PlIs at' room j q) => place_keeps S b room at' q j h.eq h.h0 h.hi r1 r2 al wr c0 c1 sS)
      have hp1I : (p1 : Int) < room := by omega
      have hq1I : (q1 : Int) < room := by omega
      generalize hy : shv L i k (k - 1) = y at *
      have HH := Lib.hid (And.intro hr (And.intro hv' (And.intro hchg (And.intro hp1 (And.intro hq1 (And.intro hy (And.intro hpl (And.intro hk0 hk))))))))
      have hkI : (0 : Int) < k := by omega
      have hkw : IntKind.i64.wrap ((k : Int) - 1) = (k : Int) - 1 := IntWalk.i64_in _ (by omega)
      clear vc vf hr hv' hchg hp1 hq1 hy c1 c2 f1 f2 hpl hql hk0 hk
      go_wp2_with fail
      refine wp_region_keeps_last _ (by kernel_rfl) (by kernel_rfl) rfl ?_
      simp only [List.dropLast]
      repeat (first
          | (with_reducible refine wpQuiet_step (fun K hK => ?_); go_simp; refine hK _ ?_; clear hK K)
          | (with_reducible refine wpQuiet_step (fun K hK => ?_); go_simp
             apply Exists.intro
             refine ⟨fun w' hw' => ?_, hK _ ?_⟩
             focus
               obtain ⟨hcq, hfq⟩ := hw'.cells
               go_simp
               first
                 | (go_at_call 24; exact plc.out _ _ (by assumption) w' hw')
                 | rfl
             clear hK K)
          | (with_reducible refine wpQuiet_step (fun K hK => ?_); go_simp; with_reducible refine ite_no ?_ ?_; (exact (by decide)); refine hK _ ?_; clear hK K))
      with_reducible refine wpQuiet_nil ?_
      intro w2 hw2
      have g1 := (hw2.cells.1 b p1 sb).trans u1
      have g2 := (hw2.cells.2 b p1 sb).trans u2
      have HW := Lib.hid hw2
      clear hw2
      go_wp2_with fail
      go_roundw
      case rel =>
        obtain ⟨hr, hv', hchg, hp1, hq1, hy, hpl, hk0, hk⟩ := HH.out
        have hr2 : RingAt w2 S b room vs' at' n := hr.chg (cw := fun _ => False) (Chg.of_below HW.out _) sS sb (fun h => h) (fun h => h)
        refine ⟨k - 1, upd vs' p1 (.int .i64 y), by omega, by rw [show ((k - 1 : Nat) : Int) = (k : Int) - 1 by omega], hr2.set_place hpl _, fun j hj => ?_, (hchg.next (cw' := fun _ => False) (Chg.of_below HW.out _) (fun _ h => h.elim)).setCell (p := ⟨b, p1, none⟩) (.inl (.inr rfl)) _⟩
        unfold upd
        by_cases e : j = k
        · subst e
          rw [if_pos hp1.symm, ← hy]
          unfold shv
          rw [if_neg (by omega), if_pos (by omega)]
        · have hne : (at' + j) % room ≠ p1 := fun h' => e (mod_inj (by omega) (by omega) (h'.trans hp1))
          rw [if_neg hne, hv' j hj]
          unfold shv
          by_cases h1 : k < j ∧ j ≤ i
          · rw [if_pos h1, if_pos (by omega)]
          · rw [if_neg h1, if_neg (by omega)]
      case measure => have := HH.out.2.2.2.2.2.2.2.1; simp [intOf]; omega
    · have hk00 : k = 0 := by omega
      subst hk00
      have hE : (L.getD 0 0 :: L.eraseIdx i).length = n := by simp [List.length_eraseIdx, ← HN.out, hi]; omega
      obtain ⟨n0, hn0⟩ : ∃ n0, n0 = (L.eraseIdx i).length := ⟨_, rfl⟩
      have hn1 : n = n0 + 1 := by rw [← hE, hn0]; rfl
      have hlist : ∀ j, (hj : j < (Value.int .i64 (L.getD 0 0) :: (L.eraseIdx i).map (Value.int .i64)).length) → vs' ((at' + j) % room) = (Value.int .i64 (L.getD 0 0) :: (L.eraseIdx i).map (Value.int .i64))[j] := fun j hj => by
        have hj2 : j < (L.getD 0 0 :: L.eraseIdx i).length := by simpa using hj
        rw [hv' j (by rw [← hE]; exact hj2), shv_end L i (by rw [← HN.out]; exact hi) j hj2]
        have e2 : (Value.int .i64 (L.getD 0 0) :: (L.eraseIdx i).map (Value.int .i64)) = (L.getD 0 0 :: L.eraseIdx i).map (Value.int .i64) := rfl
        simp only [e2, List.getElem_map]
      have hr2 : RingAt wr S b room vs' at' (Value.int .i64 (L.getD 0 0) :: (L.eraseIdx i).map (Value.int .i64)).length := by
        have : (Value.int .i64 (L.getD 0 0) :: (L.eraseIdx i).map (Value.int .i64)).length = n := by rw [← hE]; simp
        rw [this]; exact hr
      have hzl : ((L.eraseIdx i).map (Value.int .i64)).length = n0 := by rw [map_len, hn0]
      obtain ⟨c0, c1, c2, f1, f2, vc, vf, ne, r1, r2, al, nl⟩ := id hr
      obtain ⟨pn, hpn⟩ : ∃ pn, pn = (at' + 1) % room := ⟨_, rfl⟩
      have v1 := vc at' al
      have v2 := vf at' al
      generalize vs' at' = g at v1
      rw [hn1, Int.natCast_add] at c2
      have HPN := Lib.hid (show (at' + (1 : Int).toNat) % room = pn by rw [hpn]; rfl)
      have HH := Lib.hid (And.intro hr2 (And.intro hlist (And.intro hzl (And.intro hchg hpn))))
      have ne' : b ≠ S := fun e => ne e.symm
      have hnn : n0 < room := by omega
      clear vc vf hr hr2 hlist hzl hchg hpn hv' hE hn0 hn1 nl hi hiI hk0 hk hni
      go_wp2_with fail
      go_region_held3 (fun w' => w'.cell? ⟨S, 0, none⟩ = some (.slice (some ⟨b, 0, none⟩) room room) ∧ w'.cell? ⟨S, 1, none⟩ = some (.int .i64 at') ∧ w'.cell? ⟨S, 2, none⟩ = some (.int .i64 ((n0 : Int) + 1))) (go_keep) (fail)
      go_wp2_with (go_at_call 24; refine (place_at S b room at' pn 1 HPN.out (by omega) (by omega) r1 r2 al _ (by simp [go_sem, *]) (by simp [go_sem, *])).mono ?_; rintro e w' ⟨rfl, kq, rfl⟩)
      go_ret2
      obtain ⟨hr2, hlist, hzl, hchg, hpn⟩ := HH.out
      have hpop := fun k k2 => (hr2.popped hlist (.int .i64 0) k k2).1
      simp only [hzl, ← hpn] at hpop
      exact ⟨rfl, hpop 0 (1 + kq), hchg.trans (chg_pop (w := wr) 0 (1 + kq) _ _ _ _)⟩
end numbers
end Go.Proofs.Ytiecdlfdfphflaa
