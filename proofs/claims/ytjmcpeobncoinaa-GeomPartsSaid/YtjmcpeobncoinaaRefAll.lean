/- the reference's list of all indices. -/
import Derived.Test.YtjmcpeobncoinaaAllIt
import Derived.Test.YtjmcpeobncoinaaInterA
namespace Go.Proofs.Ytjmcpeobncoinaa
set_option linter.unusedVariables false
open Go.RowKit

/-- the first n indices -/
def preI (bn dn cn n : Nat) : Int := rankI ((n / (bn * (dn * cn)) : Nat) : Int) dn cn (n % (bn * (dn * cn)))
def preA (bn dn cn n : Nat) : List Int := (List.range n).map (preI bn dn cn)
theorem preA_len (bn dn cn n : Nat) : (preA bn dn cn n).length = n := by simp [preA]
theorem preA_succ (bn dn cn n : Nat) : preA bn dn cn (n + 1) = preA bn dn cn n ++ [preI bn dn cn n] := by simp [preA, List.range_succ]
theorem preI_at {bn dn cn k bb ww cc : Nat} (h1 : bb < bn) (h2 : ww < dn) (h3 : cc < cn) : preI bn dn cn (k * (bn * (dn * cn)) + ((bb * dn + ww) * cn + cc)) = idx (k : Nat) (bb : Nat) (ww : Nat) (cc : Nat) := by
  have hj := three_lt h1 h2 h3
  unfold preI
  rw [Nat.mul_comm k, Nat.mul_add_div (by omega), Nat.div_eq_of_lt hj, Nat.add_zero, Nat.mul_add_mod, Nat.mod_eq_of_lt hj]
  exact rankI_at _ h2 h3
theorem preA_all {r s b d c : Int} (h : rightB r s b d c = true) : allL r s b d c = preA b.toNat d.toNat c.toNat ((r + s).toNat * perN b d c) := by unfold allL; rw [if_pos h]; rfl
theorem own_sl {W : World} {base n : Nat} {v : Value} {L : List Int} (h : SlI W base v L) (hn : L.length = n) : W.ownsRow base 3 1 v n (L.map (Value.int .i64)) := by subst hn; exact h
theorem push_step (w w1 w2 : World) (v v' : Value) (bn dn cn n : Nat) (x : Int) {o G : Obj} (hx : preI bn dn cn n = x) (hS : w1.ownsRow (w.heap.size + 1) 3 1 v n ((preA bn dn cn n).map (Value.int .i64))) (hB : Below w.heap.size w w1) (hz : w.heap.size < w1.heap.size) (hG : w1.heap[w.heap.size]? = some G)
    (hgrow : (w1.alloc o).grownBy w2 v.ownBlock) (hown2 : w2.ownsRow (w.heap.size + 1) 3 1 v' (n + 1) ((preA bn dn cn n).map (Value.int .i64) ++ [.int .i64 x])) :
    w2.heap[w.heap.size]? = some G ∧ SlI w2 (w.heap.size + 1) v' (preA bn dn cn (n + 1)) ∧ Below w.heap.size w w2 := by
  have own0 := World.ownsRow.lt hS
  refine ⟨grown_at hgrow (by rw [hao _ _ _ (at_lt hG)]; exact hG) (fun e => by have := own0 _ e.symm; omega), ?_, (hB.alloc (by omega) o).grown hgrow (by simp; omega) (fun q hq => by have := own0 q hq; omega)⟩
  rw [preA_succ, hx]
  exact SlI.push (by rw [preA_len]; exact hown2)

set_option maxRecDepth 100000 in
set_option maxHeartbeats 4000000 in
theorem rall_any (r s b d c : Int) (w : World) :
    Calls Try.prog 29 #[.agg #[.int .i64 r, .int .i64 s, .int .i64 b, .int .i64 d, .int .i64 c]] w fun e w' => ∃ v, e = .returned v ∧ SlI w' (w.heap.size + 1) v (allL r s b d c) ∧ Below w.heap.size w w' := by
  have hR := rright_any r s b d c
  cases hrt : rightB r s b d c
  · rw [hrt] at hR
    have HR := Lib.hid hR
    rw [allL_no hrt]
    clear hrt hR
    go_enter Try.func29, Try.ntmps29
    go_wp2_with fail
    refine (HR.out _).mono ?_; rintro e w1 ⟨rfl, hb⟩
    go_wp2_with fail
    go_ret
    exact ⟨_, rfl, SlI.nil _ _, below_one hb⟩
  · rw [hrt] at hR
    have HR := Lib.hid hR
    rw [preA_all hrt]
    have hmax := (rightB_yes hrt).2.2.2.2.2.2
    have hrs := wrs hrt
    obtain ⟨a1, a2, a3, a4, a5, a6, a7, a8, a9⟩ := rightB_bd hrt
    obtain ⟨bn, rfl⟩ := Int.eq_ofNat_of_zero_le (show 0 ≤ b by omega)
    obtain ⟨dn, rfl⟩ := Int.eq_ofNat_of_zero_le (show 0 ≤ d by omega)
    obtain ⟨cn, rfl⟩ := Int.eq_ofNat_of_zero_le (show 0 ≤ c by omega)
    obtain ⟨N, hN⟩ : ∃ N : Nat, r + s = N := Int.eq_ofNat_of_zero_le (show 0 ≤ r + s by omega)
    have hm2 : N * (bn * (dn * cn)) ≤ 4096 := by
      rw [hN] at hmax
      have e : ((N * (bn * (dn * cn)) : Nat) : Int) = (N : Int) * bn * dn * cn := by push_cast; simp only [Int.mul_assoc]
      omega
    unfold perN
    rw [hN, Int.toNat_natCast, Int.toNat_natCast, Int.toNat_natCast, Int.toNat_natCast]
    rw [hN] at hrs
    have hrs2 : wrap64 (r + s) = (N : Int) := by rw [hN]; exact hrs
    have hN8 : (N : Int) ≤ 8 := by omega
    obtain ⟨i0, hi0, hz0, hz1, hz2⟩ := info_parts info3
    have HM := Lib.hid hm2
    clear hrt hR hmax hm2 hrs
    go_enter Try.func29, Try.ntmps29
    go_wp2_with fail
    refine (HR.out _).mono ?_; rintro e w1 ⟨rfl, hb⟩
    have G1 : w1.heap[w.heap.size]? = some (.cells #[.int .i64 r, .int .i64 s, .int .i64 bn, .int .i64 dn, .int .i64 cn] 31 (0, 0)) := old_at hb (han _ _ _ rfl)
    have HB := Lib.hid (And.intro hb G1)
    clear hb G1
    go_wp2_with fail
    go_loopw [3, 4] (fun v i wr => ∃ k : Nat, k ≤ N ∧ i = .int .i64 k ∧ wr.heap[w.heap.size]? = some (.cells #[.int .i64 r, .int .i64 s, .int .i64 bn, .int .i64 dn, .int .i64 cn] 31 (0, 0)) ∧ SlI wr (w.heap.size + 1) v (preA bn dn cn (k * (bn * (dn * cn)))) ∧ Below w.heap.size w wr) (fun _ i _ => N - (intOf i).toNat)
    case atStart => exact ⟨0, by omega, rfl, HB.out.2, by rw [Nat.zero_mul]; exact SlI.nil _ _, below_one HB.out.1⟩
    case round =>
      obtain ⟨k, hk, rfl, hg, hs, hB⟩ := hrel
      have g0 := cell_of_row wr w.heap.size 0 _ 31 (0, 0) hg
      have g1 := cell_of_row wr w.heap.size 1 _ 31 (0, 0) hg
      simp at g0 g1
      have HT := Lib.hid (And.intro hg (And.intro hs hB))
      by_cases hlt : k < N
      · have hkI : (k : Int) < N := by omega
        clear hg hs hB
        go_wp2_with fail
        go_loopw [3, 5] (fun v i wr => ∃ bb : Nat, bb ≤ bn ∧ i = .int .i64 bb ∧ wr.heap[w.heap.size]? = some (.cells #[.int .i64 r, .int .i64 s, .int .i64 bn, .int .i64 dn, .int .i64 cn] 31 (0, 0)) ∧ SlI wr (w.heap.size + 1) v (preA bn dn cn (k * (bn * (dn * cn)) + (bb * dn + 0) * cn)) ∧ Below w.heap.size w wr) (fun _ i _ => bn - (intOf i).toNat)
        case atStart => exact ⟨0, by omega, rfl, HT.out.1, by rw [Nat.zero_mul, Nat.zero_add, Nat.zero_mul, Nat.add_zero]; exact HT.out.2.1, HT.out.2.2⟩
        case round =>
          obtain ⟨bb, hbb, rfl, hg, hs, hB⟩ := hrel
          clear g0 g1
          have g2 := cell_of_row wr w.heap.size 2 _ 31 (0, 0) hg
          simp at g2
          have HT := Lib.hid (And.intro hg (And.intro hs hB))
          by_cases hlt2 : bb < bn
          · have hbI : (bb : Int) < bn := by omega
            clear hg hs hB
            go_wp2_with fail
            go_loopw [3, 6] (fun v i wr => ∃ ww : Nat, ww ≤ dn ∧ i = .int .i64 ww ∧ wr.heap[w.heap.size]? = some (.cells #[.int .i64 r, .int .i64 s, .int .i64 bn, .int .i64 dn, .int .i64 cn] 31 (0, 0)) ∧ SlI wr (w.heap.size + 1) v (preA bn dn cn (k * (bn * (dn * cn)) + (bb * dn + ww) * cn)) ∧ Below w.heap.size w wr) (fun _ i _ => dn - (intOf i).toNat)
            case atStart => exact ⟨0, by omega, rfl, HT.out.1, HT.out.2.1, HT.out.2.2⟩
            case round =>
              obtain ⟨ww, hww, rfl, hg, hs, hB⟩ := hrel
              clear g2
              have g3 := cell_of_row wr w.heap.size 3 _ 31 (0, 0) hg
              simp at g3
              have HT := Lib.hid (And.intro hg (And.intro hs hB))
              by_cases hlt3 : ww < dn
              · have hwI : (ww : Int) < dn := by omega
                clear hg hs hB
                go_wp2_with fail
                go_loopw [3, 7] (fun v i wr => ∃ cc : Nat, cc ≤ cn ∧ i = .int .i64 cc ∧ wr.heap[w.heap.size]? = some (.cells #[.int .i64 r, .int .i64 s, .int .i64 bn, .int .i64 dn, .int .i64 cn] 31 (0, 0)) ∧ SlI wr (w.heap.size + 1) v (preA bn dn cn (k * (bn * (dn * cn)) + ((bb * dn + ww) * cn + cc))) ∧ Below w.heap.size w wr) (fun _ i _ => cn - (intOf i).toNat)
                case atStart => exact ⟨0, by omega, rfl, HT.out.1, HT.out.2.1, HT.out.2.2⟩
                case round =>
                  obtain ⟨cc, hcc, rfl, hg, hs, hB⟩ := hrel
                  clear g3
                  have g4 := cell_of_row wr w.heap.size 4 _ 31 (0, 0) hg
                  simp at g4
                  have zG := at_lt hg
                  have HT := Lib.hid (And.intro hg (And.intro hs hB))
                  by_cases hlt4 : cc < cn
                  · have hcI : (cc : Int) < cn := by omega
                    have HX := Lib.hid (rindex_any (k : Nat) (bb : Nat) (ww : Nat) (cc : Nat) (by omega) (by omega) (by omega) (by omega) (by omega) (by omega) (by omega) (by omega))
                    have HLT := Lib.hid (And.intro hlt (And.intro hlt2 (And.intro hlt3 hlt4)))
                    have hn : k * (bn * (dn * cn)) + ((bb * dn + ww) * cn + cc) < 4096 := Nat.lt_of_lt_of_le (two_lt hlt (three_lt hlt2 hlt3 hlt4)) HM.out
                    have hpi := Lib.hid (preI_at (k := k) hlt2 hlt3 hlt4)
                    obtain ⟨n, hnn⟩ : ∃ n, n = k * (bn * (dn * cn)) + ((bb * dn + ww) * cn + cc) := ⟨_, rfl⟩
                    rw [← hnn] at HT hn hpi
                    have HNN := Lib.hid hnn
                    clear hg hs hB hnn
                    go_wp2_with fail
                    refine (HX.out _).mono ?_; rintro e w1 ⟨rfl, hb1⟩
                    obtain ⟨hg, hs, hB⟩ := HT.out
                    have hS := own_sl (hs.keeps hb1) (preA_len _ _ _ _)
                    have z1 := hb1.size
                    have HK := Lib.hid (And.intro hb1 hS)
                    go_wp2_with (at_builtin; refine wpList_append_own _ rfl _ _ 51 rfl (w.heap.size + 1) 3 i0 (.int .i64 0) 1 8 Try.underlying51 hi0 hz0 hz1 hz2 rfl (by decide) _ _ _ rfl (hS.alloc _) ⟨w1.heap.size, 0, none⟩ 1 1 [.int .i64 (idx (k : Nat) (bb : Nat) (ww : Nat) (cc : Nat))] rfl rfl (cell_one_new _ _ _) (by simp [Value.oneCell']) (by unfold maxLen; omega) (by omega) (by simp; omega) ?_; intro v' w2 hown2 hgrow _)
                    have HF := Lib.hid (push_step w w1 w2 u3 v' bn dn cn n _ hpi.out hS (Keeps.next hB hb1) (by omega) (old_at hb1 hg) hgrow hown2)
                    clear hS hg hs hB hb1 z1 hown2 hgrow
                    go_roundw
                    case rel => exact ⟨cc + 1, HLT.out.2.2.2, by go_num, HF.out.1, by rw [← Nat.add_assoc, ← Nat.add_assoc, Nat.add_assoc (k * _), ← HNN.out]; exact HF.out.2.1, HF.out.2.2⟩
                    case measure => have := HLT.out; simp [intOf]; omega
                  · have hcn : cc = cn := by omega
                    subst hcn
                    have r1 : ¬ (cc : Int) < cc := by omega
                    clear hlt4 hg hs hB
                    go_wp2_with fail
                    go_roundw
                    case rel => exact ⟨ww + 1, hlt3, by go_num, HT.out.1, by rw [← Nat.add_assoc, Nat.succ_mul]; exact HT.out.2.1, HT.out.2.2⟩
                    case measure => simp [intOf]; omega
              · have hdn : ww = dn := by omega
                subst hdn
                have r1 : ¬ (ww : Int) < ww := by omega
                clear hlt3 hg hs hB
                go_wp2_with fail
                go_roundw
                case rel => exact ⟨bb + 1, hlt2, by go_num, HT.out.1, by rw [Nat.add_zero, Nat.succ_mul]; exact HT.out.2.1, HT.out.2.2⟩
                case measure => simp [intOf]; omega
          · have hbn : bb = bn := by omega
            subst hbn
            have r1 : ¬ (bb : Int) < bb := by omega
            clear hlt2 hg hs hB
            go_wp2_with fail
            go_roundw
            case rel => exact ⟨k + 1, hlt, by go_num, HT.out.1, by have e : k * (bb * (dn * cn)) + (bb * dn + 0) * cn = (k + 1) * (bb * (dn * cn)) := (by rw [Nat.add_zero, Nat.mul_assoc bb dn cn, Nat.succ_mul]); rw [← e]; exact HT.out.2.1, HT.out.2.2⟩
            case measure => simp [intOf]; omega
      · have hkn : k = N := by omega
        subst hkn
        have r1 : ¬ (k : Int) < k := by omega
        clear hlt hg hs hB
        go_wp2_with fail
        go_ret
        exact ⟨_, rfl, HT.out.2.1, HT.out.2.2⟩
end Go.Proofs.Ytjmcpeobncoinaa
