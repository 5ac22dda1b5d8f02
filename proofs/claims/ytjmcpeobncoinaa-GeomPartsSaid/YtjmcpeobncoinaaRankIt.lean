/- what geom's iterators of a rank and of a page give. -/
import Derived.Test.YtjmcpeobncoinaaGeoC
import Derived.Test.YtjmcpeobncoinaaOw
import Derived.Test.YtjmcpeobncoinaaRk
import Derived.Shelf.RegionOpen
import Derived.OwnWalkIn
import Derived.TacticsInMore
import Derived.LoopNIn
import Derived.LoopIn
namespace Go.Proofs.Ytjmcpeobncoinaa
set_option linter.unusedVariables false
open Go.RowKit Go.Shelf
attribute [local go_sem] Oper.semAt_some

/-- a list of numbers, as an iterator gives it -/
def oneV (L : List Int) : List (Array Value) := L.map fun x => #[.int .i64 x]
theorem oneV_len (L : List Int) : (oneV L).length = L.length := by simp [oneV]
theorem oneV_at (L : List Int) (k : Nat) (h : k < L.length) : (oneV L)[k]? = some #[.int .i64 (L.getD k 0)] := by simp [oneV, List.getD, h]
theorem oneV_get (L : List Int) (k : Nat) (v : Array Value) (h : (oneV L)[k]? = some v) : k < L.length ∧ v = #[.int .i64 (L.getD k 0)] := by
  have hk : k < L.length := by
    have := (List.getElem?_eq_some_iff.1 h).1
    rw [oneV_len] at this; exact this
  rw [oneV_at L k hk] at h
  exact ⟨hk, (Option.some.inj h).symm⟩
attribute [irreducible] oneV

/-- the k-th line of a rank -/
def rankI (rk : Int) (dn cn k : Nat) : Int := idx rk ((k / (dn * cn) : Nat) : Int) ((k / cn % dn : Nat) : Int) ((k % cn : Nat) : Int)
/-- a rank's indices -/
def rankL (r s b d c rk : Int) : List Int := if holdsB r s b d c rk 0 0 0 = true then (List.range (b.toNat * (d.toNat * c.toNat))).map (rankI rk d.toNat c.toNat) else []
theorem rankL_no {r s b d c rk : Int} (h : holdsB r s b d c rk 0 0 0 = false) : rankL r s b d c rk = [] := by unfold rankL; rw [h]; rfl
theorem rankL_len {r s b d c rk : Int} (h : holdsB r s b d c rk 0 0 0 = true) : (rankL r s b d c rk).length = b.toNat * (d.toNat * c.toNat) := by unfold rankL; rw [if_pos h]; simp
theorem rankL_get {r s b d c rk : Int} (h : holdsB r s b d c rk 0 0 0 = true) (k : Nat) (hk : k < b.toNat * (d.toNat * c.toNat)) : (rankL r s b d c rk).getD k 0 = rankI rk d.toNat c.toNat k := by
  unfold rankL; rw [if_pos h]; simp [List.getD, hk]
theorem three_lt {bb bn ww dn cc cn : Nat} (h1 : bb < bn) (h2 : ww < dn) (h3 : cc < cn) : (bb * dn + ww) * cn + cc < bn * (dn * cn) := by
  have e1 : bb * dn + ww < bn * dn := Nat.lt_of_lt_of_le (Nat.add_lt_add_left h2 _) (by rw [← Nat.succ_mul]; exact Nat.mul_le_mul_right _ h1)
  have e2 : (bb * dn + ww) * cn + cc < bn * dn * cn := Nat.lt_of_lt_of_le (Nat.add_lt_add_left h3 _) (by rw [← Nat.succ_mul]; exact Nat.mul_le_mul_right _ e1)
  rwa [Nat.mul_assoc] at e2
theorem rankI_at (rk : Int) {bb ww dn cc cn : Nat} (h2 : ww < dn) (h3 : cc < cn) : rankI rk dn cn ((bb * dn + ww) * cn + cc) = idx rk (bb : Nat) (ww : Nat) (cc : Nat) := by
  have e1 : ((bb * dn + ww) * cn + cc) / cn = bb * dn + ww := by
    rw [Nat.mul_comm _ cn, Nat.mul_add_div (by omega), Nat.div_eq_of_lt h3, Nat.add_zero]
  have e2 : ((bb * dn + ww) * cn + cc) % cn = cc := by rw [Nat.mul_comm _ cn, Nat.mul_add_mod, Nat.mod_eq_of_lt h3]
  have e3 : ((bb * dn + ww) * cn + cc) / (dn * cn) = bb := by
    rw [Nat.mul_comm dn cn, ← Nat.div_div_eq_div_mul, e1, Nat.mul_comm _ dn, Nat.mul_add_div (by omega), Nat.div_eq_of_lt h2, Nat.add_zero]
  have e4 : (bb * dn + ww) % dn = ww := by rw [Nat.mul_comm _ dn, Nat.mul_add_mod, Nat.mod_eq_of_lt h2]
  unfold rankI
  rw [e1, e2, e3, e4]

set_option maxRecDepth 100000 in
set_option maxHeartbeats 4000000 in
theorem rank_call (G R : Nat) (r s b d c rk : Int) (W : World) (hg : W.heap[G]? = some (.cells #[.int .i64 r, .int .i64 s, .int .i64 b, .int .i64 d, .int .i64 c] 23 (0, 0))) (hr : W.heap[R]? = some (.cells #[.int .i64 rk] 3 (0, 0))) :
    ItCallK Try.prog 44 #[.pointer (some ⟨G, 0, none⟩), .pointer (some ⟨R, 0, none⟩)] (oneV (rankL r s b d c rk)) (fun x => x = G ∨ x = R) W := by
  intro lp cw J Jx hlp hcw sJ sJx hY h0
  have HY := Lib.hid hY
  have HJ := Lib.hid sJ
  have HC := Lib.hid hcw
  have HG := Lib.hid (And.intro hg hr)
  have zG := at_lt hg
  have zR := at_lt hr
  have H0 := Lib.hid h0
  have g0 := cell_of_row W G 0 _ 23 (0, 0) hg
  have g1 := cell_of_row W G 1 _ 23 (0, 0) hg
  have g2 := cell_of_row W G 2 _ 23 (0, 0) hg
  have g3 := cell_of_row W G 3 _ 23 (0, 0) hg
  have g4 := cell_of_row W G 4 _ 23 (0, 0) hg
  have g5 := cell_of_row W R 0 _ 3 (0, 0) hr
  simp at g0 g1 g2 g3 g4 g5
  clear hY sJ sJx hcw h0 hg hr
  refine (callsIn_wide (n := 9)).1 ?_
  refine callsIn_of_wp Try.func44 rfl trivial ?_ rfl
  simp only [Try.ntmps44, List.size_toArray, List.length_cons, List.length_nil, Nat.reduceAdd, Nat.reduceSub, Array.replicate_succ, Array.replicate_zero, List.push_toArray, List.append_toArray, List.nil_append, List.cons_append]
  cases hh : holdsB r s b d c rk 0 0 0
  · have hk := holds_any r s b d c rk 0 0 0
    rw [hh] at hk
    have HK := Lib.hid hk
    have HH := Lib.hid hh
    clear hk hh
    gi_wp2_with fail
    refine ⟨trivial, ?_⟩
    refine ((callsIn_wide (n := 8)).2 (HK.out _)).mono ?_
    rintro e w1 ⟨rfl, hb1⟩
    gi_wp2_with fail
    refine bodyPost_ret (results_none rfl _ _ _) rfl ?_
    refine ⟨⟨_, rfl⟩, .inl ?_⟩
    rw [rankL_no HH.out, oneV_len]
    exact HJ.out _ _ _ H0.out hb1
  · have hk := holds_any r s b d c rk 0 0 0
    rw [hh] at hk
    have HK := Lib.hid hk
    have HH := Lib.hid hh
    have hrt := (holdsB_yes hh).1
    obtain ⟨y1, y2, _, _, _, _, _, _⟩ := holdsB_bd hh
    obtain ⟨a1, a2, a3, a4, a5, a6, a7, a8, a9⟩ := rightB_bd hrt
    obtain ⟨bn, rfl⟩ := Int.eq_ofNat_of_zero_le (show 0 ≤ b by omega)
    obtain ⟨dn, rfl⟩ := Int.eq_ofNat_of_zero_le (show 0 ≤ d by omega)
    obtain ⟨cn, rfl⟩ := Int.eq_ofNat_of_zero_le (show 0 ≤ c by omega)
    clear hk hh hrt
    gi_wp2_with fail
    refine ⟨trivial, ?_⟩
    refine ((callsIn_wide (n := 8)).2 (HK.out _)).mono ?_
    rintro e w1 ⟨rfl, hb1⟩
    have HB1 := Lib.hid hb1
    have G1 := old_at hb1 HG.out.1
    have R1 := old_at hb1 HG.out.2
    have HG1 := Lib.hid (And.intro G1 R1)
    clear g0 g1 g2 g3 g4 g5
    have g2 := cell_of_row w1 G 2 _ 23 (0, 0) G1
    simp at g2
    clear G1 R1 hb1
    gi_wp2_with fail
    gi_loopw [14] (fun i wr => ∃ k : Nat, k ≤ bn ∧ i = .int .i64 k ∧ wr.heap[G]? = some (.cells #[.int .i64 r, .int .i64 s, .int .i64 bn, .int .i64 dn, .int .i64 cn] 23 (0, 0)) ∧ wr.heap[R]? = some (.cells #[.int .i64 rk] 3 (0, 0)) ∧ J (k * (dn * cn)) wr ∧ W.heap.size ≤ wr.heap.size) (fun i _ => bn - (intOf i).toNat)
    case atStart => exact ⟨0, by omega, rfl, HG1.out.1, HG1.out.2, by rw [Nat.zero_mul]; exact HJ.out _ _ _ H0.out HB1.out, HB1.out.size⟩
    case round =>
      obtain ⟨bb, hbb, rfl, hg, hr, hJ, hsz⟩ := hrel
      have HT := Lib.hid (And.intro hJ (And.intro hg hr))
      clear hJ g2
      by_cases hlt : bb < bn
      · have hbI : (bb : Int) < bn := by omega
        have g3 := cell_of_row wr G 3 _ 23 (0, 0) hg
        simp at g3
        clear hg hr
        gi_wp2_with fail
        gi_loopw [19] (fun i wr => ∃ k : Nat, k ≤ dn ∧ i = .int .i64 k ∧ wr.heap[G]? = some (.cells #[.int .i64 r, .int .i64 s, .int .i64 bn, .int .i64 dn, .int .i64 cn] 23 (0, 0)) ∧ wr.heap[R]? = some (.cells #[.int .i64 rk] 3 (0, 0)) ∧ J ((bb * dn + k) * cn) wr ∧ W.heap.size ≤ wr.heap.size) (fun i _ => dn - (intOf i).toNat)
        case atStart => exact ⟨0, by omega, rfl, HT.out.2.1, HT.out.2.2, by rw [Nat.add_zero, Nat.mul_assoc]; exact HT.out.1, hsz⟩
        case round =>
          obtain ⟨ww, hww, rfl, hg, hr, hJ, hsz⟩ := hrel
          have HT := Lib.hid (And.intro hJ (And.intro hg hr))
          clear hJ g3
          by_cases hlt2 : ww < dn
          · have hwI : (ww : Int) < dn := by omega
            have g4 := cell_of_row wr G 4 _ 23 (0, 0) hg
            simp at g4
            clear hg hr
            gi_wp2_with fail
            gi_loopw [24] (fun i wr => ∃ k : Nat, k ≤ cn ∧ i = .int .i64 k ∧ wr.heap[G]? = some (.cells #[.int .i64 r, .int .i64 s, .int .i64 bn, .int .i64 dn, .int .i64 cn] 23 (0, 0)) ∧ wr.heap[R]? = some (.cells #[.int .i64 rk] 3 (0, 0)) ∧ J ((bb * dn + ww) * cn + k) wr ∧ W.heap.size ≤ wr.heap.size) (fun i _ => cn - (intOf i).toNat)
            case atStart => exact ⟨0, by omega, rfl, HT.out.2.1, HT.out.2.2, HT.out.1, hsz⟩
            case round =>
              obtain ⟨cc, hcc, rfl, hg, hr, hJ, hsz⟩ := hrel
              have HT := Lib.hid (And.intro hJ (And.intro hg hr))
              clear hJ g4
              by_cases hlt3 : cc < cn
              · have hcI : (cc : Int) < cn := by omega
                have g5 := cell_of_row wr R 0 _ 3 (0, 0) hr
                simp at g5
                have zG2 := at_lt hg
                have zR2 := at_lt hr
                have HX := Lib.hid (index_any rk (bb : Nat) (ww : Nat) (cc : Nat) y1 y2 (by omega) (by omega) (by omega) (by omega) (by omega) (by omega))
                have HLT := Lib.hid (And.intro hlt (And.intro hlt2 hlt3))
                clear hg hr
                gi_wp2_with fail
                refine ⟨trivial, ?_⟩
                refine ((callsIn_wide (n := 8)).2 (HX.out _)).mono ?_
                rintro e w2 ⟨rfl, hb2⟩
                have hkl := three_lt HLT.out.1 HLT.out.2.1 HLT.out.2.2
                obtain ⟨fn, tmps, assign, body, hy, hR⟩ := HY.out ((bb * dn + ww) * cn + cc) _ w2 8 (oneV_at _ _ (by rw [rankL_len HH.out]; exact hkl)) (HJ.out _ _ _ HT.out.1 hb2) (Nat.le_trans hsz hb2.size)
                rw [rankL_get HH.out _ hkl, Int.toNat_natCast, Int.toNat_natCast, rankI_at rk HLT.out.2.1 HLT.out.2.2] at hy
                have HB2 := Lib.hid hb2
                clear hb2 hkl
                gi_wp2_with fail
                refine hR.mono ?_
                rintro e W3 ⟨hchg, ⟨rfl, hJ3⟩ | ⟨rfl, hJx⟩⟩
                · have nG : ¬ cw G := fun h => HC.out G h (.inl rfl)
                  have nR : ¬ cw R := fun h => HC.out R h (.inr rfl)
                  have HG3 := Lib.hid (And.intro (chg_at hchg (old_at HB2.out HT.out.2.1) nG) (chg_at hchg (old_at HB2.out HT.out.2.2) nR))
                  have hs3 : W.heap.size ≤ W3.heap.size := Nat.le_trans (Nat.le_trans hsz HB2.out.size) hchg.size
                  have HT3 := Lib.hid hJ3
                  clear hJ3 nG nR g5 hchg
                  gi_wp2_with fail
                  go_roundw
                  case rel => exact ⟨cc + 1, HLT.out.2.2, by go_num, HG3.out.1, HG3.out.2, HT3.out, hs3⟩
                  case measure => have := HLT.out.2.2; simp [intOf]; omega
                · have HT3 := Lib.hid hJx
                  clear hJx
                  gi_wp2_with fail
                  refine bodyPost_ret (results_none rfl _ _ _) rfl ?_
                  exact ⟨⟨_, rfl⟩, .inr HT3.out⟩
              · have hcn : cc = cn := by omega
                subst hcn
                have r1 : ¬ (cc : Int) < cc := by omega
                have HLT := Lib.hid (And.intro hlt hlt2)
                clear hlt3 hg hr
                gi_wp2_with fail
                go_roundw
                case rel => exact ⟨ww + 1, HLT.out.2, by go_num, HT.out.2.1, HT.out.2.2, by rw [← Nat.add_assoc, Nat.succ_mul]; exact HT.out.1, hsz⟩
                case measure => have := HLT.out.2; simp [intOf]; omega
          · have hdn : ww = dn := by omega
            subst hdn
            have r1 : ¬ (ww : Int) < ww := by omega
            have HLT := Lib.hid hlt
            clear hlt2 hg hr
            gi_wp2_with fail
            go_roundw
            case rel => exact ⟨bb + 1, HLT.out, by go_num, HT.out.2.1, HT.out.2.2, by rw [← Nat.mul_assoc, Nat.succ_mul]; exact HT.out.1, hsz⟩
            case measure => have := HLT.out; simp [intOf]; omega
      · have hbn : bb = bn := by omega
        subst hbn
        have r1 : ¬ (bb : Int) < bb := by omega
        have HD : Hid (J (oneV (rankL r s bb dn cn rk)).length wr) := by show J _ wr; rw [oneV_len, rankL_len HH.out]; exact HT.out.1
        clear hlt hg hr
        gi_wp2_with fail
        go_end0
        exact ⟨⟨_, rfl⟩, .inl HD.out⟩
end Go.Proofs.Ytjmcpeobncoinaa
