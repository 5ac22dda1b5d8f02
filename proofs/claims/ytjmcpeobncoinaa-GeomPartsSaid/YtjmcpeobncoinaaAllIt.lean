/- geom's Rank, Page and All, and what the iterator of all lines gives. -/
import Derived.Test.YtjmcpeobncoinaaPageIt
import Derived.Test.YtjmcpeobncoinaaDv
namespace Go.Proofs.Ytjmcpeobncoinaa
set_option linter.unusedVariables false
open Go.RowKit Go.Shelf
attribute [local go_sem] Oper.semAt_some

set_option maxHeartbeats 400000 in
theorem Rank_any (r s b d c rk : Int) (w : World) :
    Calls Try.prog 30 #[.agg #[.int .i64 r, .int .i64 s, .int .i64 b, .int .i64 d, .int .i64 c], .int .i64 rk] w fun e w' => e = .returned (.func (.func 44) #[] #[.pointer (some ⟨w.heap.size, 0, none⟩), .pointer (some ⟨w.heap.size + 1, 0, none⟩)]) ∧ w' = (w.alloc (.cells #[.int .i64 r, .int .i64 s, .int .i64 b, .int .i64 d, .int .i64 c] 23)).alloc (.cells #[.int .i64 rk] 3) := by
  go_enter Try.func30, Try.ntmps30
  go_wp2
  go_ret
  exact ⟨rfl, rfl⟩
set_option maxHeartbeats 400000 in
theorem PageI_any (r s b d c pg : Int) (w : World) :
    Calls Try.prog 31 #[.agg #[.int .i64 r, .int .i64 s, .int .i64 b, .int .i64 d, .int .i64 c], .int .i64 pg] w fun e w' => e = .returned (.func (.func 45) #[] #[.pointer (some ⟨w.heap.size + 1, 0, none⟩), .pointer (some ⟨w.heap.size, 0, none⟩)]) ∧ w' = (w.alloc (.cells #[.int .i64 r, .int .i64 s, .int .i64 b, .int .i64 d, .int .i64 c] 23)).alloc (.cells #[.int .i64 pg] 3) := by
  go_enter Try.func31, Try.ntmps31
  go_wp2
  go_ret
  exact ⟨rfl, rfl⟩
set_option maxHeartbeats 400000 in
theorem AllI_any (r s b d c : Int) (w : World) :
    Calls Try.prog 32 #[.agg #[.int .i64 r, .int .i64 s, .int .i64 b, .int .i64 d, .int .i64 c]] w fun e w' => e = .returned (.func (.func 46) #[] #[.pointer (some ⟨w.heap.size, 0, none⟩)]) ∧ w' = w.alloc (.cells #[.int .i64 r, .int .i64 s, .int .i64 b, .int .i64 d, .int .i64 c] 23) := by
  go_enter Try.func32, Try.ntmps32
  go_wp2
  go_ret
  exact ⟨rfl, rfl⟩

/-- how many lines a rank has -/
def perN (b d c : Int) : Nat := b.toNat * (d.toNat * c.toNat)
/-- all indices -/
def allL (r s b d c : Int) : List Int := if rightB r s b d c = true then (List.range ((r + s).toNat * perN b d c)).map (fun k => rankI ((k / perN b d c : Nat) : Int) d.toNat c.toNat (k % perN b d c)) else []
theorem allL_no {r s b d c : Int} (h : rightB r s b d c = false) : allL r s b d c = [] := by unfold allL; rw [h]; rfl
theorem allL_len {r s b d c : Int} (h : rightB r s b d c = true) : (allL r s b d c).length = (r + s).toNat * perN b d c := by unfold allL; rw [if_pos h]; simp
theorem two_lt {k n j m : Nat} (h1 : k < n) (h2 : j < m) : k * m + j < n * m := Nat.lt_of_lt_of_le (Nat.add_lt_add_left h2 _) (by rw [← Nat.succ_mul]; exact Nat.mul_le_mul_right _ h1)
theorem allL_get {r s b d c : Int} (h : rightB r s b d c = true) (k j : Nat) (hk : k < (r + s).toNat) (hj : j < perN b d c) : (allL r s b d c).getD (k * perN b d c + j) 0 = rankI (k : Nat) d.toNat c.toNat j := by
  have hl := two_lt hk hj
  unfold allL; rw [if_pos h]
  have e1 : (k * perN b d c + j) / perN b d c = k := by rw [Nat.mul_comm k, Nat.mul_add_div (by omega), Nat.div_eq_of_lt hj, Nat.add_zero]
  have e2 : (k * perN b d c + j) % perN b d c = j := by rw [Nat.mul_comm k, Nat.mul_add_mod, Nat.mod_eq_of_lt hj]
  simp only [List.getD, List.getElem?_map, List.getElem?_range hl, Option.map_some, Option.getD_some]
  rw [e1, e2]
theorem holds_rank {r s b d c : Int} (h : rightB r s b d c = true) (rk : Int) : holdsB r s b d c rk 0 0 0 = bel rk (r + s) := by
  obtain ⟨a1, a2, a3, a4, a5, a6, a7, a8, a9⟩ := rightB_bd h
  rw [holdsB_eq h, bel_mk (Int.le_refl 0) (show 0 < b by omega), bel_mk (Int.le_refl 0) (show 0 < d by omega), bel_mk (Int.le_refl 0) (show 0 < c by omega)]
  simp

/-- what the loop over ranks holds -/
def AlI (W : World) (G lp : Nat) (r s b d c : Int) (w' : World) : Prop :=
  w'.heap[G]? = some (.cells #[.int .i64 r, .int .i64 s, .int .i64 b, .int .i64 d, .int .i64 c] 23 (0, 0)) ∧ w'.heap[W.heap.size]? = some (.cells #[.func (.yield lp) #[] #[]] 67 (0, 0)) ∧ W.heap.size + 1 ≤ w'.heap.size
theorem AlI.chg {W : World} {G lp : Nat} {r s b d c : Int} {cw : Nat → Prop} {A B : World} (h : AlI W G lp r s b d c A) (hc : Chg cw A B) (h1 : ¬ cw G) (h2 : ¬ cw W.heap.size) : AlI W G lp r s b d c B :=
  ⟨chg_at hc h.1 h1, chg_at hc h.2.1 h2, Nat.le_trans h.2.2 hc.size⟩

/-- the function comes to its end -/
theorem all_end {R : World → Prop} (T : Array Value) (ds : List Deferred) (W w9 : World) (hd : Dfs W.heap.size w9 ds) (hR : ∀ w', Chg (fun x => W.heap.size ≤ x) w9 w' → R w') :
    bodyPostM Fence.wide 9 Try.prog Try.f46 (fun e w' => (∃ v, e = .returned v) ∧ R w') .ret { tmps := T, defers := ds } w9 :=
  leaves_dfs ds w9 hd (fun w' hc _ => ⟨_, results_none rfl _ _ _, ⟨_, rfl⟩, hR w' hc⟩)
theorem all_end0 {R : World → Prop} (T : Array Value) (ds : List Deferred) (W w9 : World) (hd : Dfs W.heap.size w9 ds) (hR : ∀ w', Chg (fun x => W.heap.size ≤ x) w9 w' → R w') :
    bodyPostM Fence.wide 9 Try.prog Try.f46 (fun e w' => (∃ v, e = .returned v) ∧ R w') .normal { tmps := T, defers := ds } w9 :=
  leaves_dfs ds w9 hd (fun w' hc _ => ⟨_, results_none rfl _ _ _, ⟨_, rfl⟩, hR w' hc⟩)

set_option maxRecDepth 100000 in
set_option maxHeartbeats 4000000 in
theorem all_call (G : Nat) (r s b d c : Int) (W : World) (hg : W.heap[G]? = some (.cells #[.int .i64 r, .int .i64 s, .int .i64 b, .int .i64 d, .int .i64 c] 23 (0, 0))) :
    ItCall2 Try.prog 46 #[.pointer (some ⟨G, 0, none⟩)] (oneV (allL r s b d c)) (fun x => x = G) (fun _ => False) W := by
  intro lp cw J Jx hlp hcw sJ sJx hY h0
  have HY := Lib.hid hY
  have HJ := Lib.hid sJ
  have HJx := Lib.hid sJx
  have HC := Lib.hid hcw
  have zG := at_lt hg
  have H0 := Lib.hid h0
  obtain ⟨w0, hw0⟩ : ∃ w0, w0 = W.alloc (.cells #[.func (.yield lp) #[] #[]] 67) := ⟨_, rfl⟩
  have hk0 : Keeps W w0 := by rw [hw0]; exact (Below.refl _ _).alloc (Nat.le_refl _) _
  have hA0 : AlI W G lp r s b d c w0 := ⟨old_at hk0 hg, by rw [hw0]; exact han _ _ _ rfl, by rw [hw0]; simp⟩
  have HA0 := Lib.hid (And.intro hA0 (And.intro hk0 hg))
  clear hY sJ sJx hcw h0 hg
  refine (callsIn_wide (n := 9)).1 ?_
  refine callsIn_of_wp_marks Try.func46 rfl trivial ?_
  simp only [Try.ntmps46, List.size_toArray, List.length_cons, List.length_nil, Nat.reduceAdd, Nat.reduceSub, Array.replicate_succ, Array.replicate_zero, List.push_toArray, List.append_toArray, List.nil_append, List.cons_append]
  gi_wp2_with fail
  rw [← hw0]
  clear hw0 hA0 hk0
  cases hrt : rightB r s b d c
  · have hH := holds_any r s b d c 0 0 0 0
    rw [holdsB_right (by rw [hrt]; simp)] at hH
    have HH := Lib.hid hH
    have HD : Hid (J (oneV (allL r s b d c)).length w0) := by show J _ w0; rw [allL_no hrt, oneV_len]; exact HJ.out _ _ _ H0.out (Chg.of_below HA0.out.2.1 _)
    have hA := HA0.out.1
    have g0 := cell_of_row w0 G 0 _ 23 (0, 0) hA.1
    have g1 := cell_of_row w0 G 1 _ 23 (0, 0) hA.1
    have g2 := cell_of_row w0 G 2 _ 23 (0, 0) hA.1
    have g3 := cell_of_row w0 G 3 _ 23 (0, 0) hA.1
    have g4 := cell_of_row w0 G 4 _ 23 (0, 0) hA.1
    simp at g0 g1 g2 g3 g4
    clear hA hH hrt
    gi_loopw [3] (fun i wr => i = .int .i64 0 ∧ wr = w0) (fun i _ => 0)
    case atStart => exact ⟨rfl, rfl⟩
    case round =>
      obtain ⟨rfl, rfl⟩ := hrel
      gi_wp2_with fail
      refine ⟨trivial, ?_⟩
      refine ((callsIn_wide (n := 8)).2 (HH.out _)).mono ?_
      rintro e w1 ⟨rfl, hb1⟩
      have HB1 := Lib.hid hb1
      clear hb1
      gi_wp2_with fail
      exact all_end0 _ [] W _ trivial (fun w' hc => .inl (HJ.out _ _ _ (HJ.out _ _ _ HD.out (Chg.of_below HB1.out _)) (hc.mono (fun i _ h => .inr h))))
  · refine wpIn_loop (fun a' w' => ∃ (k : Nat) (u4 u5 u6 u7 u8 u9 u10 u11 u12 u13 u14 u15 u16 u17 u18 : Value) (ds : List Deferred), k ≤ (r + s).toNat ∧ AlI W G lp r s b d c w' ∧ J (k * perN b d c) w' ∧ Dfs W.heap.size w' ds ∧ a' = { tmps := #[.func (.yield lp) #[] #[], .pointer (some ⟨G, 0, none⟩), .pointer (some ⟨W.heap.size, 0, none⟩), .int .i64 (k : Nat), u4, u5, u6, u7, u8, u9, u10, u11, u12, u13, u14, u15, u16, u17, u18], defers := ds }) (fun a' _ => (r + s).toNat - (intOf (a'.tmps.getD 3 undef)).toNat) ?start ?round
    case start => exact ⟨0, undef, undef, undef, undef, undef, undef, undef, undef, undef, undef, undef, undef, undef, undef, undef, [], by omega, HA0.out.1, by rw [Nat.zero_mul]; exact HJ.out _ _ _ H0.out (Chg.of_below HA0.out.2.1 _), trivial, rfl⟩
    case round =>
      rintro a' w' ⟨k, u4, u5, u6, u7, u8, u9, u10, u11, u12, u13, u14, u15, u16, u17, u18, ds, hk, hA, hJ, hd, rfl⟩
      have HT := Lib.hid (And.intro hA (And.intro hJ hd))
      have g0 := cell_of_row w' G 0 _ 23 (0, 0) hA.1
      have g1 := cell_of_row w' G 1 _ 23 (0, 0) hA.1
      have g2 := cell_of_row w' G 2 _ 23 (0, 0) hA.1
      have g3 := cell_of_row w' G 3 _ 23 (0, 0) hA.1
      have g4 := cell_of_row w' G 4 _ 23 (0, 0) hA.1
      simp at g0 g1 g2 g3 g4
      have zG2 := at_lt hA.1
      have hH := holds_any r s b d c (k : Nat) 0 0 0
      rw [holds_rank hrt] at hH
      have a10 := rightB_bd hrt
      have HR := Lib.hid (And.intro hrt a10)
      by_cases hlt : k < (r + s).toNat
      · rw [bel_mk (by omega) (show ((k : Nat) : Int) < r + s by omega)] at hH
        have HH := Lib.hid hH
        have HLT := Lib.hid hlt
        clear hA hJ hd hH hrt a10
        gi_wp2_with fail
        refine ⟨trivial, ?_⟩
        refine ((callsIn_wide (n := 8)).2 (HH.out _)).mono ?_
        rintro e w1 ⟨rfl, hb1⟩
        obtain ⟨q0, q1⟩ := bcell hb1
        have zG3 : G < w1.heap.size := Nat.lt_of_lt_of_le zG2 hb1.size
        have HB1 := Lib.hid hb1
        clear hb1
        gi_wp2_with fail
        refine ⟨trivial, ?_⟩
        refine ((callsIn_wide (n := 8)).2 (Rank_any _ _ _ _ _ _ _)).mono ?_
        rintro e w2 ⟨rfl, hw2⟩
        obtain ⟨hA, hJ, hd⟩ := HT.out
        have hA1 : AlI W G lp r s b d c w1 := hA.chg (Chg.of_below HB1.out (fun _ => False)) (fun h => h) (fun h => h)
        have kk2 : Keeps w1 w2 := by rw [hw2]; exact ((Below.refl _ _).alloc (Nat.le_refl _) _).alloc (by simp) _
        have B1 : w2.heap[w1.heap.size]? = some (.cells #[.int .i64 r, .int .i64 s, .int .i64 b, .int .i64 d, .int .i64 c] 23 (0, 0)) := by rw [hw2, hao _ _ _ (by simp)]; exact han _ _ _ rfl
        have B2 : w2.heap[w1.heap.size + 1]? = some (.cells #[.int .i64 (k : Nat)] 3 (0, 0)) := by rw [hw2]; exact han _ _ _ (by simp)
        have hs2 : w2.heap.size = w1.heap.size + 1 + 1 := by rw [hw2]; simp
        have hA2 : AlI W G lp r s b d c w2 := hA1.chg (Chg.of_below kk2 (fun _ => False)) (fun h => h) (fun h => h)
        have hd1 : Dfs W.heap.size w1 ds := hd.chg (Chg.of_below HB1.out (fun _ => False)) (fun _ h => h.elim)
        have hd2 : Dfs W.heap.size w2 ds := hd1.chg (Chg.of_below kk2 (fun _ => False)) (fun _ h => h.elim)
        have zW : W.heap.size < w1.heap.size := by have := hA1.2.2; omega
        have hJ2 : J (k * perN b d c) w2 := HJ.out _ _ _ (HJ.out _ _ _ hJ ((Chg.of_below HB1.out _))) (Chg.of_below kk2 _)
        have HX := Lib.hid (And.intro B1 (And.intro B2 (And.intro hs2 (And.intro hA2 (And.intro hd2 (And.intro zW hJ2))))))
        clear hA hJ hd hA1 kk2 B1 B2 hs2 hA2 hd1 hd2 hw2 q0 q1 zW hJ2 g0 g1 g2 g3 g4
        gi_wp2_with fail
        obtain ⟨B1, B2, hs2, hA2, hd2, zW, hJ2⟩ := HX.out
        have hh := HR.out
        have HRL := Lib.hid (rankL_len (show holdsB r s b d c (k : Nat) 0 0 0 = true by rw [holds_rank hh.1]; exact bel_mk (by omega) (by have := HLT.out; omega)))
        refine wpIn_rangeFunc_it3 9 9 (gf := 44) (lb := #[.pointer (some ⟨w1.heap.size, 0, none⟩), .pointer (some ⟨w1.heap.size + 1, 0, none⟩)]) rfl (enters_of Try.func44 (by kernel_rfl) rfl) (oneV (rankL r s b d c (k : Nat))) (fun i => i = w1.heap.size ∨ i = w1.heap.size + 1) (fun _ => False) (fun i e => by rw [hs2]; omega) (fun i e => e.elim)
          (fun W1 hW1 => (rank_call w1.heap.size (w1.heap.size + 1) r s b d c (k : Nat) W1 (old_at hW1 B1) (old_at hW1 B2)).two)
          (fun j v hv => by obtain ⟨_, rfl⟩ := oneV_get _ j v hv; rfl)
          cw (fun i hi => by have := (HC.out i hi).1; exact ⟨by omega, fun h => by omega⟩)
          (fun j U => AlI W G lp r s b d c U ∧ J (k * perN b d c + j) U ∧ Dfs W.heap.size U ds)
          (fun c' U => c' = .ret ∧ Jx U ∧ Dfs W.heap.size U ds)
          (fun _ j a₁ _ => ∃ x, j < perN b d c ∧ x = rankI (k : Nat) d.toNat c.toNat j ∧ a₁ = { tmps := #[.func (.yield lp) #[] #[], .pointer (some ⟨G, 0, none⟩), .pointer (some ⟨W.heap.size, 0, none⟩), .int .i64 (k : Nat), .int .i64 x, .agg #[.int .i64 r, .int .i64 s, .int .i64 b, .int .i64 d, .int .i64 c], .int .i64 (k : Nat), .agg #[.int .i64 (k : Nat), .int .i64 0, .int .i64 0, .int .i64 0], .bool true, u9, u10, .agg #[.int .i64 r, .int .i64 s, .int .i64 b, .int .i64 d, .int .i64 c], .int .i64 (k : Nat), (.func (.func 44) #[] #[.pointer (some ⟨w1.heap.size, 0, none⟩), .pointer (some ⟨w1.heap.size + 1, 0, none⟩)]), .int .i64 x, u15, u16, u17, u18], defers := [] })
          (fun j A B h hc => ⟨h.1.chg hc (fun h => by rcases h with h | h; exact h.elim; omega) (fun h => by rcases h with h | h; exact h.elim; omega), HJ.out _ _ _ h.2.1 (hc.mono (fun i _ h => .inr (by rcases h with h | h; exact h.elim; omega))), h.2.2.same (fun D _ hm g3 => chg_at hc g3 (fun hh => by have := hd2.lt D hm; rcases hh with h | h; exact h.elim; omega))⟩)
          (fun c' A B h hc => ⟨h.1, HJx.out _ _ h.2.1 (hc.mono (fun i _ h => .inr (by rcases h with h | h; exact h.elim; omega))), h.2.2.same (fun D _ hm g3 => chg_at hc g3 (fun hh => by have := hd2.lt D hm; rcases hh with h | h; exact h.elim; omega))⟩)
          (fun _ _ _ _ _ h _ => h) ⟨hA2, by rw [Nat.add_zero]; exact hJ2, hd2⟩ ?assign ?body ?done ?stop
        case assign =>
          intro l2 j v U hv hl2 hU hi
          obtain ⟨hj, rfl⟩ := oneV_get _ j v hv
          rw [HRL.out] at hj
          have hx := rankL_get (show holdsB r s b d c (k : Nat) 0 0 0 = true by rw [holds_rank HR.out.1]; exact bel_mk (by omega) (by have := HLT.out; omega)) j hj
          have HK := Lib.hid (And.intro hj hx)
          clear hj hv hx
          generalize (rankL r s b d c (k : Nat)).getD j 0 = x at *
          gi_wp2_with fail
          refine ⟨Chg.refl _ _, hi, x, HK.out.1, HK.out.2, ?_⟩
          go_simp
        case body =>
          rintro l2 j v a₁ U hv hl2 hU hr' ⟨hA, hJ, hd⟩ ⟨x, hj, hx, rfl⟩
          clear hv hr'
          have m1 := cell_of_row U W.heap.size 0 _ 67 (0, 0) hA.2.1
          simp at m1
          have hkl := two_lt HLT.out hj
          obtain ⟨fn, tmps, assign, body, hy, hRd⟩ := HY.out (k * perN b d c + j) _ U 8 (oneV_at _ _ (by rw [allL_len HR.out.1]; exact hkl)) hJ (by have := hA.2.2; omega)
          rw [allL_get HR.out.1 k j HLT.out hj, ← hx] at hy
          have HI := Lib.hid (And.intro hA (And.intro hJ hd))
          clear hA hJ hd hkl hx
          gi_wp2_with fail
          refine hRd.mono ?_
          rintro e U3 ⟨hchg, ⟨rfl, hJ3⟩ | ⟨rfl, hJx⟩⟩
          · have HE := Lib.hid (And.intro hchg hJ3)
            clear hchg hJ3
            gi_wp2_with fail
            obtain ⟨hA, hJ, hd⟩ := HI.out
            obtain ⟨hchg, hJ3⟩ := HE.out
            exact ⟨hchg, hA.chg hchg (fun h => (HC.out G h).2 rfl) (fun h => by have := (HC.out _ h).1; omega), hJ3, hd.same (fun D g1 _ g3 => chg_at hchg g3 (fun hh => by have := (HC.out D hh).1; omega))⟩
          · have HE := Lib.hid (And.intro hchg hJx)
            clear hchg hJx
            gi_wp2_with fail
            obtain ⟨hA, hJ, hd⟩ := HI.out
            obtain ⟨hchg, hJ3⟩ := HE.out
            exact ⟨hchg, rfl, hJ3, hd.same (fun D g1 _ g3 => chg_at hchg g3 (fun hh => by have := (HC.out D hh).1; omega))⟩
        case done =>
          rintro D U hD ⟨hA, hJ, hd⟩ hK
          rw [oneV_len, HRL.out] at hJ
          have HE := Lib.hid (And.intro hA (And.intro hJ (And.intro hd hK)))
          clear hA hJ hd hK
          have hk8 : (k : Int) < 8 := by have := HLT.out; have := hh.2; omega
          gi_wp2_with fail
          obtain ⟨hA, hJ, hd, hK⟩ := HE.out
          have e1 : (((k + 1 : Nat) : Nat) : Int) = (k : Int) + 1 := by omega
          refine ⟨⟨k + 1, ?_⟩, ?_⟩
          · rw [e1]
            exact ⟨_, _, _, _, _, _, _, _, _, _, _, _, _, _, _, mk1 D :: ds, HLT.out, hA, by rw [Nat.succ_mul]; exact hJ, Dfs.cons hd2 hd hD (by omega) hK, rfl⟩
          · have := HLT.out; simp [intOf]; omega
        case stop =>
          rintro D c' U hD ⟨rfl, hx, hd⟩ hK
          have HE := Lib.hid (And.intro hx (And.intro hd hK))
          clear hx hd hK
          gi_wp2_with fail
          obtain ⟨hx, hd, hK⟩ := HE.out
          exact all_end _ _ W _ (Dfs.cons hd2 hd hD (by omega) hK) (fun w' hc => .inr (HJx.out _ _ hx (hc.mono (fun i _ h => .inr h))))
      · rw [show bel (k : Nat) (r + s) = false by unfold bel; rw [decide_eq_false (show ¬ ((k : Nat) : Int) < r + s by omega)]; simp] at hH
        have HH := Lib.hid hH
        have HLT := Lib.hid hlt
        clear hA hJ hd hH hrt a10 hlt
        gi_wp2_with fail
        refine ⟨trivial, ?_⟩
        refine ((callsIn_wide (n := 8)).2 (HH.out _)).mono ?_
        rintro e w1 ⟨rfl, hb1⟩
        have HB1 := Lib.hid hb1
        clear hb1
        gi_wp2_with fail
        obtain ⟨hA, hJ, hd⟩ := HT.out
        have hkn : k = (r + s).toNat := by have := HLT.out; omega
        refine all_end0 _ ds W _ (hd.chg (Chg.of_below HB1.out (fun _ => False)) (fun _ h => h.elim)) (fun w' hc => .inl ?_)
        show J _ w'
        rw [oneV_len, allL_len HR.out.1, ← hkn]
        exact HJ.out _ _ _ (HJ.out _ _ _ hJ (Chg.of_below HB1.out _)) (hc.mono (fun i _ h => .inr h))
end Go.Proofs.Ytjmcpeobncoinaa
