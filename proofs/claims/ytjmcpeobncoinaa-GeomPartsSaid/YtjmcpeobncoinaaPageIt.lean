/- what geom's iterator of a page gives. -/
import Derived.Test.YtjmcpeobncoinaaRankIt
namespace Go.Proofs.Ytjmcpeobncoinaa
set_option linter.unusedVariables false
open Go.RowKit Go.Shelf
attribute [local go_sem] Oper.semAt_some

/-- is a page there? -/
def pageOk (r s b d c page : Int) : Bool := decide (0 ≤ page) && (decide (page < 131072) && atB r s b d c (page * 64))
/-- a page's indices -/
def pageL (r s b d c page : Int) : List Int := if pageOk r s b d c page = true then (List.range c.toNat).map (fun k => page * 64 + ((k : Nat) : Int)) else []
theorem pageL_no {r s b d c page : Int} (h : pageOk r s b d c page = false) : pageL r s b d c page = [] := by unfold pageL; rw [h]; rfl
theorem pageL_len {r s b d c page : Int} (h : pageOk r s b d c page = true) : (pageL r s b d c page).length = c.toNat := by unfold pageL; rw [if_pos h]; simp
theorem pageL_get {r s b d c page : Int} (h : pageOk r s b d c page = true) (k : Nat) (hk : k < c.toNat) : (pageL r s b d c page).getD k 0 = page * 64 + ((k : Nat) : Int) := by
  unfold pageL; rw [if_pos h]; simp [List.getD, hk]
theorem pageOk_yes {r s b d c page : Int} (h : pageOk r s b d c page = true) : 0 ≤ page ∧ page < 131072 ∧ rightB r s b d c = true ∧ ∀ k : Nat, (k : Int) < c → atB r s b d c (page * 64 + (k : Nat)) = true := by
  unfold pageOk at h
  simp only [Bool.and_eq_true, decide_eq_true_eq] at h
  obtain ⟨h1, h2, h3⟩ := h
  unfold atB at h3
  simp only [Bool.and_eq_true, decide_eq_true_eq] at h3
  obtain ⟨hr, g1, g2, g3, g4, g5, g6, g7, g8⟩ := holdsB_yes h3.2
  have hb := rightB_bd hr
  refine ⟨h1, h2, hr, fun k hk => ?_⟩
  have e1 : (page * 64 + (k : Nat)) / 1048576 = page * 64 / 1048576 := by omega
  have e2 : (page * 64 + (k : Nat)) / 65536 % 16 = page * 64 / 65536 % 16 := by omega
  have e3 : (page * 64 + (k : Nat)) / 64 % 1024 = page * 64 / 64 % 1024 := by omega
  have e4 : (page * 64 + (k : Nat)) % 64 = (k : Nat) := by omega
  unfold atB
  rw [e1, e2, e3, e4, decide_eq_true (by omega), holdsB_mk hr g1 g2 g3 g4 g5 g6 (by omega) hk]; rfl
theorem or64 (page : Int) (k : Nat) (h0 : 0 ≤ page) (h1 : page < 131072) (hk : k < 64) : bits .or .i64 (page * 64) (k : Nat) = page * 64 + (k : Nat) := by
  obtain ⟨p, rfl⟩ := Int.eq_ofNat_of_zero_le h0
  have c1 : ((p : Nat) : Int) * 64 = ((p * 64 : Nat) : Int) := by omega
  rw [c1, bor_nat _ _ (by omega) (by omega), show p * 64 ||| k = p * 64 + k from or_add p k 6 (by omega)]
  omega

set_option maxRecDepth 100000 in
set_option maxHeartbeats 4000000 in
theorem page_call (G R : Nat) (r s b d c page : Int) (W : World) (hg : W.heap[G]? = some (.cells #[.int .i64 r, .int .i64 s, .int .i64 b, .int .i64 d, .int .i64 c] 23 (0, 0))) (hr : W.heap[R]? = some (.cells #[.int .i64 page] 3 (0, 0))) (hc1 : -9223372036854775808 ≤ c) (hc2 : c ≤ 9223372036854775807) :
    ItCallK Try.prog 45 #[.pointer (some ⟨R, 0, none⟩), .pointer (some ⟨G, 0, none⟩)] (oneV (pageL r s b d c page)) (fun x => x = G ∨ x = R) W := by
  intro lp cw J Jx hlp hcw sJ sJx hY h0
  have HY := Lib.hid hY
  have HJ := Lib.hid sJ
  have HC := Lib.hid hcw
  have HG := Lib.hid (And.intro hg hr)
  have zG := at_lt hg
  have zR := at_lt hr
  have H0 := Lib.hid h0
  have g0 := cell_of_row W G 0 _ 23 (0, 0) hg
  have g1 := cell_of_row W G 1 _ 23 (0, 0) hg
  have g2 := cell_of_row W G 2 _ 23 (0, 0) hg
  have g3 := cell_of_row W G 3 _ 23 (0, 0) hg
  have g4 := cell_of_row W G 4 _ 23 (0, 0) hg
  have g5 := cell_of_row W R 0 _ 3 (0, 0) hr
  simp at g0 g1 g2 g3 g4 g5
  clear hY sJ sJx hcw h0 hg hr
  refine (callsIn_wide (n := 9)).1 ?_
  refine callsIn_of_wp Try.func45 rfl trivial ?_ rfl
  simp only [Try.ntmps45, List.size_toArray, List.length_cons, List.length_nil, Nat.reduceAdd, Nat.reduceSub, Array.replicate_succ, Array.replicate_zero, List.push_toArray, List.append_toArray, List.nil_append, List.cons_append]
  by_cases p0 : page < 0
  · have hno : pageL r s b d c page = [] := pageL_no (by unfold pageOk; rw [decide_eq_false (by omega)]; rfl)
    have HD : Hid (J (oneV (pageL r s b d c page)).length W) := by show J _ W; rw [hno, oneV_len]; exact H0.out
    clear hno
    gi_wp2_with fail
    refine bodyPost_ret (results_none rfl _ _ _) rfl ?_
    exact ⟨⟨_, rfl⟩, .inl HD.out⟩
  by_cases p1 : 131072 ≤ page
  · have hno : pageL r s b d c page = [] := pageL_no (by unfold pageOk; rw [decide_eq_false (show ¬ page < 131072 by omega)]; simp)
    have HD : Hid (J (oneV (pageL r s b d c page)).length W) := by show J _ W; rw [hno, oneV_len]; exact H0.out
    clear hno
    gi_wp2_with fail
    refine bodyPost_ret (results_none rfl _ _ _) rfl ?_
    exact ⟨⟨_, rfl⟩, .inl HD.out⟩
  cases ha : atB r s b d c (page * 64)
  · have hno : pageL r s b d c page = [] := pageL_no (by unfold pageOk; rw [ha]; simp)
    have HD : Hid (J (oneV (pageL r s b d c page)).length W) := by show J _ W; rw [hno, oneV_len]; exact H0.out
    have hA := At_any r s b d c (page * 64)
    rw [ha] at hA
    have HA := Lib.hid hA
    have hor : bits .or .i64 (page * 64) 0 = page * 64 := by have := or64 page 0 (by omega) (by omega) (by omega); simpa using this
    clear hno hA ha
    gi_wp2_with fail
    gi_loopw [15] (fun i wr => i = .int .i64 0 ∧ wr = W) (fun i _ => 0)
    case atStart => exact ⟨rfl, rfl⟩
    case round =>
      obtain ⟨rfl, rfl⟩ := hrel
      by_cases hcp : 0 < c
      · gi_wp2_with fail
        refine ⟨trivial, ?_⟩
        refine ((callsIn_wide (n := 8)).2 (HA.out _)).mono ?_
        rintro e w1 ⟨rfl, hb1⟩
        have HB1 := Lib.hid hb1
        gi_wp2_with fail
        refine ⟨fun f hf => (by cases hf), ?_⟩
        gi_wp2_with fail
        refine bodyPost_ret (results_none rfl _ _ _) rfl ?_
        exact ⟨⟨_, rfl⟩, .inl (HJ.out _ _ _ HD.out (Below.alloc HB1.out HB1.out.size _))⟩
      · gi_wp2_with fail
        go_end0
        exact ⟨⟨_, rfl⟩, .inl HD.out⟩
  · have hok : pageOk r s b d c page = true := by unfold pageOk; rw [ha, decide_eq_true (show 0 ≤ page by omega), decide_eq_true (show page < 131072 by omega)]; rfl
    obtain ⟨_, _, hrt, hat⟩ := pageOk_yes hok
    obtain ⟨a1, a2, a3, a4, a5, a6, a7, a8, a9⟩ := rightB_bd hrt
    obtain ⟨cn, rfl⟩ := Int.eq_ofNat_of_zero_le (show 0 ≤ c by omega)
    have HH := Lib.hid hok
    have HAT := Lib.hid hat
    clear ha hok hrt hat
    gi_wp2_with fail
    gi_loopw [15] (fun i wr => ∃ k : Nat, k ≤ cn ∧ i = .int .i64 k ∧ wr.heap[G]? = some (.cells #[.int .i64 r, .int .i64 s, .int .i64 b, .int .i64 d, .int .i64 cn] 23 (0, 0)) ∧ wr.heap[R]? = some (.cells #[.int .i64 page] 3 (0, 0)) ∧ J k wr ∧ W.heap.size ≤ wr.heap.size) (fun i _ => cn - (intOf i).toNat)
    case atStart => exact ⟨0, by omega, rfl, HG.out.1, HG.out.2, H0.out, Nat.le_refl _⟩
    case round =>
      obtain ⟨k, hk, rfl, hg, hr, hJ, hsz⟩ := hrel
      have HT := Lib.hid (And.intro hJ (And.intro hg hr))
      clear hJ g0 g1 g2 g3 g4 g5
      by_cases hlt : k < cn
      · have hkI : (k : Int) < cn := by omega
        have g0 := cell_of_row wr G 0 _ 23 (0, 0) hg
        have g1 := cell_of_row wr G 1 _ 23 (0, 0) hg
        have g2 := cell_of_row wr G 2 _ 23 (0, 0) hg
        have g3 := cell_of_row wr G 3 _ 23 (0, 0) hg
        have g4 := cell_of_row wr G 4 _ 23 (0, 0) hg
        have g5 := cell_of_row wr R 0 _ 3 (0, 0) hr
        simp at g0 g1 g2 g3 g4 g5
        have zG2 := at_lt hg
        have zR2 := at_lt hr
        have hor := or64 page k (by omega) (by omega) (by omega)
        have hA := At_any r s b d cn (page * 64 + (k : Nat))
        rw [HAT.out k hkI] at hA
        unfold plB at hA
        generalize (page * 64 + (k : Nat)) / 1048576 = x1 at hA
        generalize (page * 64 + (k : Nat)) / 65536 % 16 = x2 at hA
        generalize (page * 64 + (k : Nat)) / 64 % 1024 = x3 at hA
        generalize (page * 64 + (k : Nat)) % 64 = x4 at hA
        have HA := Lib.hid hA
        have HLT := Lib.hid hlt
        clear hA hg hr hlt
        gi_wp2_with fail
        refine ⟨trivial, ?_⟩
        refine ((callsIn_wide (n := 8)).2 (HA.out _)).mono ?_
        rintro e w1 ⟨rfl, hb1⟩
        obtain ⟨q0, q1⟩ := bcell hb1
        have q5 := (q0 R 0 zR2).trans g5
        have zR3 : R < w1.heap.size := Nat.lt_of_lt_of_le zR2 hb1.size
        have hk1 : Keeps wr (w1.alloc (.cells #[.int .i64 x1, .int .i64 x2, .int .i64 x3, .int .i64 x4] 25)) := Below.alloc hb1 hb1.size _
        obtain ⟨fn, tmps, assign, body, hy, hR⟩ := HY.out k _ _ 8 (oneV_at _ _ (by rw [pageL_len HH.out]; exact HLT.out)) (HJ.out _ _ _ HT.out.1 hk1) (Nat.le_trans hsz hk1.size)
        rw [pageL_get HH.out _ HLT.out] at hy
        have HB2 := Lib.hid hk1
        clear hb1 hk1 q0 q1
        gi_wp2_with fail
        refine hR.mono ?_
        rintro e W3 ⟨hchg, ⟨rfl, hJ3⟩ | ⟨rfl, hJx⟩⟩
        · have nG : ¬ cw G := fun h => HC.out G h (.inl rfl)
          have nR : ¬ cw R := fun h => HC.out R h (.inr rfl)
          have HG3 := Lib.hid (And.intro (chg_at hchg (old_at HB2.out HT.out.2.1) nG) (chg_at hchg (old_at HB2.out HT.out.2.2) nR))
          have hs3 : W.heap.size ≤ W3.heap.size := Nat.le_trans (Nat.le_trans hsz HB2.out.size) hchg.size
          have HT3 := Lib.hid hJ3
          clear hJ3 nG nR g0 g1 g2 g3 g4 g5 q5 hchg
          gi_wp2_with fail
          go_roundw
          case rel => exact ⟨k + 1, HLT.out, by go_num, HG3.out.1, HG3.out.2, HT3.out, hs3⟩
          case measure => have := HLT.out; simp [intOf]; omega
        · have HT3 := Lib.hid hJx
          clear hJx
          gi_wp2_with fail
          refine bodyPost_ret (results_none rfl _ _ _) rfl ?_
          exact ⟨⟨_, rfl⟩, .inr HT3.out⟩
      · have hkn : k = cn := by omega
        subst hkn
        have r1 : ¬ (k : Int) < k := by omega
        have HD : Hid (J (oneV (pageL r s b d k page)).length wr) := by show J _ wr; rw [oneV_len, pageL_len HH.out]; exact HT.out.1
        clear hlt hg hr
        gi_wp2_with fail
        go_end0
        exact ⟨⟨_, rfl⟩, .inl HD.out⟩
end Go.Proofs.Ytjmcpeobncoinaa
