/- the reference's list of pages. -/
import Derived.Test.YtjmcpeobncoinaaInterC
import Derived.Test.YtjmcpeobncoinaaOw
namespace Go.Proofs.Ytjmcpeobncoinaa
set_option linter.unusedVariables false
open Go.RowKit

/-- the first k pages' places -/
def layL (way r b d : Int) (k : Nat) : List Int := (List.range k).map fun i => phys way r b d (i : Nat)
theorem layL_len (way r b d : Int) (k : Nat) : (layL way r b d k).length = k := by simp [layL]
theorem layL_succ (way r b d : Int) (k : Nat) : layL way r b d (k + 1) = layL way r b d k ++ [phys way r b d (k : Nat)] := by simp [layL, List.range_succ]
theorem layL_get (way r b d : Int) (k i : Nat) (h : i < k) : (layL way r b d k).getD i 0 = phys way r b d (i : Nat) := by simp [layL, List.getD, h]

/-- between two rounds -/
def LaySt (w : World) (r s b d c way : Int) (n k : Nat) (v : Value) (W : World) : Prop :=
  SlI W (w.heap.size + 1 + 1) v (layL way r b d k) ∧ W.heap[w.heap.size]? = some (.cells #[.int .i64 r, .int .i64 s, .int .i64 b, .int .i64 d, .int .i64 c] 31 (0, 0)) ∧ (∃ pr pb pd : Int, W.heap[w.heap.size + 1]? = some (.cells #[.int .i64 pr, .int .i64 pb, .int .i64 pd, .int .i64 0] 34 (0, 0)) ∧ (k < n → pr = pRank way r b d (k : Nat) ∧ pb = pBank0 way r b d (k : Nat) ∧ pd = pRow way r b d (k : Nat))) ∧ Below w.heap.size w W

theorem lay_idx {r s b d c : Int} (hr : rightB r s b d c = true) (way : Int) (k : Nat) (W : World) :
    Calls Try.prog 19 #[.agg #[.int .i64 (pRank way r b d (k : Nat)), .int .i64 (pBank way r b d (k : Nat)), .int .i64 (pRow way r b d (k : Nat)), .int .i64 0]] W fun e w' => e = .returned (.int .i64 (phys way r b d (k : Nat) * 64)) ∧ Below W.heap.size W w' := by
  obtain ⟨a1, a2, a3, a4, a5, a6, a7, a8, a9⟩ := rightB_bd hr
  obtain ⟨p1, p2, p3, p4, p5, p6, _, _⟩ := p_in hr way (k : Nat) (by omega)
  rw [phys_idx]
  exact rindex_any _ _ _ _ p1 (by omega) p3 (by omega) p5 (by omega) (by omega) (by omega) W

theorem rxor_int (bank row b : Int) (hb : pw b 16 = true) (h0 : 0 ≤ bank) (h1 : bank < b) (h2 : 0 ≤ row) (h3 : row < 1024) (w : World) :
    Calls Try.prog 48 #[.int .i64 bank, .int .i64 row, .int .i64 b] w fun e w' => e = .returned (.int .i64 (xb bank row b)) ∧ Below w.heap.size w w' := by
  obtain ⟨m, _, rfl⟩ := pw_pow hb
  have hp := (pw_cases hb).2
  obtain ⟨x, rfl⟩ := Int.eq_ofNat_of_zero_le h0
  obtain ⟨y, rfl⟩ := Int.eq_ofNat_of_zero_le h2
  have e : ((2 : Int) ^ m) = ((2 ^ m : Nat) : Int) := by rw [Int.natCast_pow]; rfl
  rw [e] at h1 hp ⊢
  exact rxor_any x y m (by omega) (by omega) (by omega) w
theorem pw_set (W : World) (P : Nat) (x0 x1 x2 x3 y0 y1 y2 y3 : Int) (h : W.heap[P]? = some (.cells #[.int .i64 x0, .int .i64 x1, .int .i64 x2, .int .i64 x3] 34 (0, 0))) :
    ((((W.setCell ⟨P, 0, none⟩ (.int .i64 y0)).setCell ⟨P, 1, none⟩ (.int .i64 y1)).setCell ⟨P, 2, none⟩ (.int .i64 y2)).setCell ⟨P, 3, none⟩ (.int .i64 y3)).heap[P]? = some (.cells #[.int .i64 y0, .int .i64 y1, .int .i64 y2, .int .i64 y3] 34 (0, 0)) :=
  heap_setCell_same _ P 3 _ _ _ (heap_setCell_same _ P 2 _ _ _ (heap_setCell_same _ P 1 _ _ _ (heap_setCell_same _ P 0 _ _ _ h)))
theorem lay_after {w w1 w2 : World} {v : Value} {k : Nat} {M : List Value} {og op o : Obj} (hS : w1.ownsRow (w.heap.size + 1 + 1) 3 1 v k M) (hg : w1.heap[w.heap.size]? = some og) (hp : w1.heap[w.heap.size + 1]? = some op)
    (hgrow : (w1.alloc o).grownBy w2 v.ownBlock) : w2.heap[w.heap.size]? = some og ∧ w2.heap[w.heap.size + 1]? = some op ∧ w1.heap.size + 1 ≤ w2.heap.size := by
  have own0 := World.ownsRow.lt hS
  refine ⟨grown_at hgrow (by rw [hao _ _ _ (at_lt hg)]; exact hg) (fun e => by have := own0 _ e.symm; omega), grown_at hgrow (by rw [hao _ _ _ (at_lt hp)]; exact hp) (fun e => by have := own0 _ e.symm; omega), ?_⟩
  have := hgrow.size
  simpa using this
def put4 (W : World) (P : Nat) (y0 y1 y2 y3 : Int) : World := (((W.setCell ⟨P, 0, none⟩ (.int .i64 y0)).setCell ⟨P, 1, none⟩ (.int .i64 y1)).setCell ⟨P, 2, none⟩ (.int .i64 y2)).setCell ⟨P, 3, none⟩ (.int .i64 y3)
theorem put4_chg (W : World) (P : Nat) (y0 y1 y2 y3 : Int) : Chg (fun g => g = P) W (put4 W P y0 y1 y2 y3) :=
  Chg.setCell (cw := fun g => g = P) (Chg.setCell (cw := fun g => g = P) (Chg.setCell (cw := fun g => g = P) (Chg.setCell (cw := fun g => g = P) (Chg.refl _ W) (p := ⟨P, 0, none⟩) (.inl rfl) _) (p := ⟨P, 1, none⟩) (.inl rfl) _) (p := ⟨P, 2, none⟩) (.inl rfl) _) (p := ⟨P, 3, none⟩) (.inl rfl) _
theorem lay_step (w : World) (r s b d c way : Int) (n k : Nat) (v v' : Value) (wr w1 w2 w3 : World) (y0 y1 y2 ph : Int) {o : Obj}
    (hph : layL way r b d (k + 1) = layL way r b d k ++ [ph]) (hB : Below w.heap.size w wr) (kk1 : Keeps wr w1) (hS : w1.ownsRow (w.heap.size + 1 + 1) 3 1 v k ((layL way r b d k).map (Value.int .i64)))
    (hz : w.heap.size + 1 < wr.heap.size) (hgrow : (w1.alloc o).grownBy w2 v.ownBlock) (hown2 : w2.ownsRow (w.heap.size + 1 + 1) 3 1 v' (k + 1) ((layL way r b d k).map (Value.int .i64) ++ [.int .i64 ph])) (hb3 : Keeps w2 w3)
    (G3 : w3.heap[w.heap.size]? = some (.cells #[.int .i64 r, .int .i64 s, .int .i64 b, .int .i64 d, .int .i64 c] 31 (0, 0))) (P3 : ∃ pr pb pd : Int, w3.heap[w.heap.size + 1]? = some (.cells #[.int .i64 pr, .int .i64 pb, .int .i64 pd, .int .i64 0] 34 (0, 0)))
    (hy : k + 1 < n → y0 = pRank way r b d ((k + 1 : Nat) : Int) ∧ y1 = pBank0 way r b d ((k + 1 : Nat) : Int) ∧ y2 = pRow way r b d ((k + 1 : Nat) : Int)) :
    LaySt w r s b d c way n (k + 1) v' (put4 w3 (w.heap.size + 1) y0 y1 y2 0) := by
  have own0 := World.ownsRow.lt hS
  have hp := SlI.push (L := layL way r b d k) (by rw [layL_len]; exact hown2)
  rw [← hph] at hp
  have hc := put4_chg w3 (w.heap.size + 1) y0 y1 y2 0
  obtain ⟨pr, pb, pd, P3⟩ := P3
  refine ⟨(hp.keeps hb3).chg hc (fun g h => by omega), chg_at hc G3 (by omega), ⟨y0, y1, y2, pw_set _ _ _ _ _ _ _ _ _ _ P3, hy⟩, ?_⟩
  have b1 : Below w.heap.size w w1 := Keeps.next hB kk1
  have b2 := (b1.alloc (by have := kk1.size; omega) o).grown hgrow (by have := kk1.size; simp; omega) (fun q hq => by have := own0 q hq; omega)
  exact (Keeps.next b2 hb3).trans (hc.below (by have := b2.size; have := hb3.size; omega) (fun g h => by omega))
theorem rbd_wrap {r s b d c : Int} (hr : rightB r s b d c = true) : wrap64 (r * b) = r * b ∧ wrap64 (r * b * d) = r * b * d ∧ 1 ≤ r * b * d ∧ r * b * d ≤ 131072 ∧ 1 ≤ r * b ∧ r * b ≤ 128 := by
  obtain ⟨a1, a2, a3, a4, a5, a6, a7, a8, a9⟩ := rightB_bd hr
  have m1 := mul_in a1 (show r ≤ 8 by omega) a4 a5
  have m2 := mul_in m1.1 m1.2 a6 a7
  exact ⟨IntWalk.wrap64_in (r * b) ⟨by omega, by omega⟩, IntWalk.wrap64_in (r * b * d) ⟨by omega, by omega⟩, m2.1, m2.2, m1.1, m1.2⟩
theorem layst_new (w : World) (r s b d c way : Int) (n : Nat) : LaySt w r s b d c way n 0 (.slice none 0 0) ((w.alloc (.cells #[.int .i64 r, .int .i64 s, .int .i64 b, .int .i64 d, .int .i64 c] 31)).alloc (.cells #[.int .i64 0, .int .i64 0, .int .i64 0, .int .i64 0] 34)) := by
  refine ⟨SlI.nil _ _, ?_, ⟨0, 0, 0, han _ _ _ (by simp), fun _ => ?_⟩, ((Below.refl _ _).alloc (Nat.le_refl _) _).alloc (by simp) _⟩
  · rw [hao _ _ _ (by simp)]; exact han _ _ _ rfl
  · unfold pRank pBank0 pRow
    by_cases h0 : way = 0
    · simp [h0]
    · by_cases h1 : way = 1
      · simp [h1]
      · simp [h0, h1]

set_option maxRecDepth 100000 in
set_option maxHeartbeats 4000000 in
theorem Layout_any (r s b d c way : Int) (n : Nat) (hi : irB r s b d c way = true) (hn : r * b * d = (n : Nat)) (w : World) :
    Calls Try.prog 36 #[.agg #[.int .i64 r, .int .i64 s, .int .i64 b, .int .i64 d, .int .i64 c], .int .i64 way] w fun e w' => ∃ v, e = .returned v ∧ SlI w' (w.heap.size + 1 + 1) v (layL way r b d n) ∧ Below w.heap.size w w' := by
  obtain ⟨hr, w0, w4⟩ := irB_yes hi
  obtain ⟨a1, a2, a3, a4, a5, a6, a7, a8, a9⟩ := rightB_bd hr
  obtain ⟨e1, e2, e3, e4, e5, e6⟩ := rbd_wrap hr
  have HR := Lib.hid hr
  have HN := Lib.hid hn
  have HI := Lib.hid hi
  have e2 := e2.trans hn
  rw [hn] at e3 e4
  have w5 : way ≤ 3 := by omega
  obtain ⟨i0, hi0, hz0, hz1, hz2⟩ := info_parts info3
  clear hr hn w4 hi
  go_enter Try.func36, Try.ntmps36
  go_wp2_with fail
  go_loopw [5, 8] (fun v i wr => ∃ k : Nat, k ≤ n ∧ i = .int .i64 k ∧ LaySt w r s b d c way n k v wr) (fun _ i _ => n - (intOf i).toNat)
  case atStart => exact ⟨0, by omega, rfl, layst_new w r s b d c way n⟩
  case round =>
    obtain ⟨k, hk, rfl, hst⟩ := hrel
    have HST := Lib.hid hst
    obtain ⟨_, hg, ⟨pr, pb, pd, hp, hpv⟩, hB⟩ := hst
    have zP := at_lt hp
    have zG := at_lt hg
    have g0 := cell_of_row wr w.heap.size 0 _ 31 (0, 0) hg
    have g1 := cell_of_row wr w.heap.size 1 _ 31 (0, 0) hg
    have g2 := cell_of_row wr w.heap.size 2 _ 31 (0, 0) hg
    have g3 := cell_of_row wr w.heap.size 3 _ 31 (0, 0) hg
    have g4 := cell_of_row wr w.heap.size 4 _ 31 (0, 0) hg
    have q0 := cell_of_row wr (w.heap.size + 1) 0 _ 34 (0, 0) hp
    have q1 := cell_of_row wr (w.heap.size + 1) 1 _ 34 (0, 0) hp
    have q2 := cell_of_row wr (w.heap.size + 1) 2 _ 34 (0, 0) hp
    have q3 := cell_of_row wr (w.heap.size + 1) 3 _ 34 (0, 0) hp
    simp at g0 g1 g2 g3 g4 q0 q1 q2 q3
    by_cases hlt : k < n
    · obtain ⟨rfl, rfl, rfl⟩ := hpv hlt
      have HP := Lib.hid (And.intro hg (And.intro hp hB))
      have HLT := Lib.hid hlt
      have hkI : (k : Int) < n := by omega
      clear hpv hg hp hB hlt
      obtain ⟨p1, p2, _, _, p5, p6, p7, p8⟩ := p_in HR.out way (k : Nat) (by omega)
      have HIX := lay_idx HR.out way k
      have HNX := Lib.hid (next_any r s b d c way _ _ _ (by omega) a5 a7 p1 p2 p7 p8 p5 p6)
      have HXR := Lib.hid (rxor_int _ _ b (rightB_yes HR.out).2.2.2.1 p7 p8 p5 (by omega))
      have hl1 := layL_succ way r b d k
      have HL1 := Lib.hid hl1
      have HNV := Lib.hid (nxt_page HR.out way (k : Nat) (by omega))
      obtain ⟨ph0, ph1⟩ := phys_in HR.out way (k : Nat) (by omega)
      clear hl1
      by_cases h3 : way = 3
      · unfold pBank at HIX
        rw [if_pos h3] at HIX
        subst h3
        have HIY := Lib.hid HIX
        clear HIX
        generalize pRank 3 r b d (k : Nat) = pk at *
        generalize pBank0 3 r b d (k : Nat) = bk at *
        generalize pRow 3 r b d (k : Nat) = rw' at *
        generalize phys 3 r b d (k : Nat) = ph at *
        have hq : ph * 64 / 64 = ph := by omega
        go_wp2_with fail
        refine (HXR.out _).mono ?_; rintro e wx ⟨rfl, hbx⟩
        obtain ⟨hcx, hfx⟩ := bcell hbx
        have zx := hbx.size
        simp only [World.size_alloc] at zx
        have nn1 : w.heap.size ≠ wr.heap.size := by omega
        have nn2 : wr.heap.size ≠ w.heap.size := by omega
        have nn3 : w.heap.size + 1 ≠ wr.heap.size := by omega
        have nn4 : wr.heap.size ≠ w.heap.size + 1 := by omega
        go_wp2_with fail
        refine (HIY.out _).mono ?_; rintro e w1 ⟨rfl, hb1⟩
        have kk1 : Keeps wr w1 := Keeps.next (Keeps.next ((Below.refl _ _).alloc (Nat.le_refl _) _) hbx |>.setCell (Nat.le_refl _) _) hb1
        obtain ⟨hg, hp, hB⟩ := HP.out
        have hS : w1.ownsRow (w.heap.size + 1 + 1) 3 1 u5 k ((layL 3 r b d k).map (Value.int .i64)) := by
          have := HST.out.1.keeps kk1
          unfold SlI at this
          rwa [layL_len] at this
        have z1 := kk1.size
        have zr := hB.size
        have hkb : k < 131072 := by have := HLT.out; omega
        have HK1 := Lib.hid (And.intro kk1 (And.intro hb1 hS))
        go_wp2_with (at_builtin; refine wpList_append_own _ rfl _ _ 51 rfl (w.heap.size + 1 + 1) 3 i0 (.int .i64 0) 1 8 Try.underlying51 hi0 hz0 hz1 hz2 rfl (by decide) _ _ _ rfl (hS.alloc _) ⟨w1.heap.size, 0, none⟩ 1 1 [.int .i64 ph] rfl rfl (cell_one_new _ _ _) (by simp [Value.oneCell']) (by unfold maxLen; omega) (by omega) (by simp; omega) ?_; intro v' w2 hown2 hgrow _; obtain ⟨G2, P2, z2⟩ := lay_after hS (old_at kk1 hg) (old_at kk1 hp) hgrow; have f0 := cell_of_row w2 w.heap.size 0 _ 31 (0, 0) G2; have f1 := cell_of_row w2 w.heap.size 1 _ 31 (0, 0) G2; have f2 := cell_of_row w2 w.heap.size 2 _ 31 (0, 0) G2; have f3 := cell_of_row w2 w.heap.size 3 _ 31 (0, 0) G2; have f4 := cell_of_row w2 w.heap.size 4 _ 31 (0, 0) G2; have f5 := cell_of_row w2 (w.heap.size + 1) 0 _ 34 (0, 0) P2; have f6 := cell_of_row w2 (w.heap.size + 1) 1 _ 34 (0, 0) P2; have f7 := cell_of_row w2 (w.heap.size + 1) 2 _ 34 (0, 0) P2; have f8 := cell_of_row w2 (w.heap.size + 1) 3 _ 34 (0, 0) P2; simp at f0 f1 f2 f3 f4 f5 f6 f7 f8; have H2 := Lib.hid (And.intro hown2 (And.intro hgrow (And.intro G2 (And.intro P2 z2)))); clear hown2 hgrow G2 P2 z2)
        refine (HNX.out _).mono ?_; rintro e w3 ⟨rfl, hb3⟩
        obtain ⟨hown2, hgrow, G2, P2, z2⟩ := H2.out
        have P3 := old_at hb3 P2
        have G3 := old_at hb3 G2
        clear f0 f1 f2 f3 f4 f5 f6 f7 f8
        have f5 := cell_of_row w3 (w.heap.size + 1) 0 _ 34 (0, 0) P3
        have f6 := cell_of_row w3 (w.heap.size + 1) 1 _ 34 (0, 0) P3
        have f7 := cell_of_row w3 (w.heap.size + 1) 2 _ 34 (0, 0) P3
        have f8 := cell_of_row w3 (w.heap.size + 1) 3 _ 34 (0, 0) P3
        have fr0 := frozen_of_row w3 (w.heap.size + 1) 0 _ 34 P3
        have fr1 := frozen_of_row w3 (w.heap.size + 1) 1 _ 34 P3
        have fr2 := frozen_of_row w3 (w.heap.size + 1) 2 _ 34 P3
        have fr3 := frozen_of_row w3 (w.heap.size + 1) 3 _ 34 P3
        simp at f5 f6 f7 f8
        obtain ⟨y0, hy0⟩ : ∃ y0, y0 = (nxtB 3 r b d pk bk rw').1 := ⟨_, rfl⟩
        obtain ⟨y1, hy1⟩ : ∃ y1, y1 = (nxtB 3 r b d pk bk rw').2.1 := ⟨_, rfl⟩
        obtain ⟨y2, hy2⟩ : ∃ y2, y2 = (nxtB 3 r b d pk bk rw').2.2 := ⟨_, rfl⟩
        rw [← hy0, ← hy1, ← hy2]
        have HY := Lib.hid (And.intro hy0 (And.intro hy1 (And.intro hy2 (And.intro P3 (And.intro G3 (And.intro hb3 (And.intro hgrow hown2)))))))
        clear hy0 hy1 hy2 P3 G3 hb3 hown2 hgrow G2 P2 hg hp hB hS kk1 hb1
        go_wp2_with fail
        go_roundw
        case rel =>
          obtain ⟨hy0, hy1, hy2, P3, G3, hb3, hgrow, hown2⟩ := HY.out
          obtain ⟨kk1, hb1, hS⟩ := HK1.out
          have HF := lay_step w r s b d c 3 n k u5 v' wr w1 w2 w3 y0 y1 y2 ph HL1.out HP.out.2.2 kk1 hS zP hgrow hown2 hb3 G3 ⟨_, _, _, P3⟩ (fun hlt2 => by
            have := HNV.out (by rw [HN.out]; omega)
            rw [this] at hy0 hy1 hy2
            rw [Int.natCast_add]
            exact ⟨hy0, hy1, hy2⟩)
          exact ⟨k + 1, by have := HLT.out; omega, by go_num, HF⟩
        case measure => have := HLT.out; simp [intOf]; omega
      · unfold pBank at HIX
        rw [if_neg h3] at HIX
        have h3' : ((way : Int) == 3) = false := by simpa using h3
        have HIY := Lib.hid HIX
        clear HIX h3
        generalize pRank way r b d (k : Nat) = pk at *
        generalize pBank0 way r b d (k : Nat) = bk at *
        generalize pRow way r b d (k : Nat) = rw' at *
        generalize phys way r b d (k : Nat) = ph at *
        have hq : ph * 64 / 64 = ph := by omega
        go_wp2_with fail
        refine (HIY.out _).mono ?_; rintro e w1 ⟨rfl, hb1⟩
        have kk1 : Keeps wr w1 := Keeps.next ((Below.refl _ _).alloc (Nat.le_refl _) _) hb1
        obtain ⟨hg, hp, hB⟩ := HP.out
        have hS : w1.ownsRow (w.heap.size + 1 + 1) 3 1 u5 k ((layL way r b d k).map (Value.int .i64)) := by
          have := HST.out.1.keeps kk1
          unfold SlI at this
          rwa [layL_len] at this
        have z1 := kk1.size
        have zr := hB.size
        have hkb : k < 131072 := by have := HLT.out; omega
        have HK1 := Lib.hid (And.intro kk1 (And.intro hb1 hS))
        go_wp2_with (at_builtin; refine wpList_append_own _ rfl _ _ 51 rfl (w.heap.size + 1 + 1) 3 i0 (.int .i64 0) 1 8 Try.underlying51 hi0 hz0 hz1 hz2 rfl (by decide) _ _ _ rfl (hS.alloc _) ⟨w1.heap.size, 0, none⟩ 1 1 [.int .i64 ph] rfl rfl (cell_one_new _ _ _) (by simp [Value.oneCell']) (by unfold maxLen; omega) (by omega) (by simp; omega) ?_; intro v' w2 hown2 hgrow _; obtain ⟨G2, P2, z2⟩ := lay_after hS (old_at kk1 hg) (old_at kk1 hp) hgrow; have f0 := cell_of_row w2 w.heap.size 0 _ 31 (0, 0) G2; have f1 := cell_of_row w2 w.heap.size 1 _ 31 (0, 0) G2; have f2 := cell_of_row w2 w.heap.size 2 _ 31 (0, 0) G2; have f3 := cell_of_row w2 w.heap.size 3 _ 31 (0, 0) G2; have f4 := cell_of_row w2 w.heap.size 4 _ 31 (0, 0) G2; have f5 := cell_of_row w2 (w.heap.size + 1) 0 _ 34 (0, 0) P2; have f6 := cell_of_row w2 (w.heap.size + 1) 1 _ 34 (0, 0) P2; have f7 := cell_of_row w2 (w.heap.size + 1) 2 _ 34 (0, 0) P2; have f8 := cell_of_row w2 (w.heap.size + 1) 3 _ 34 (0, 0) P2; simp at f0 f1 f2 f3 f4 f5 f6 f7 f8; have H2 := Lib.hid (And.intro hown2 (And.intro hgrow (And.intro G2 (And.intro P2 z2)))); clear hown2 hgrow G2 P2 z2)
        refine (HNX.out _).mono ?_; rintro e w3 ⟨rfl, hb3⟩
        obtain ⟨hown2, hgrow, G2, P2, z2⟩ := H2.out
        have P3 := old_at hb3 P2
        have G3 := old_at hb3 G2
        clear f0 f1 f2 f3 f4 f5 f6 f7 f8
        have f5 := cell_of_row w3 (w.heap.size + 1) 0 _ 34 (0, 0) P3
        have f6 := cell_of_row w3 (w.heap.size + 1) 1 _ 34 (0, 0) P3
        have f7 := cell_of_row w3 (w.heap.size + 1) 2 _ 34 (0, 0) P3
        have f8 := cell_of_row w3 (w.heap.size + 1) 3 _ 34 (0, 0) P3
        have fr0 := frozen_of_row w3 (w.heap.size + 1) 0 _ 34 P3
        have fr1 := frozen_of_row w3 (w.heap.size + 1) 1 _ 34 P3
        have fr2 := frozen_of_row w3 (w.heap.size + 1) 2 _ 34 P3
        have fr3 := frozen_of_row w3 (w.heap.size + 1) 3 _ 34 P3
        simp at f5 f6 f7 f8
        obtain ⟨y0, hy0⟩ : ∃ y0, y0 = (nxtB way r b d pk bk rw').1 := ⟨_, rfl⟩
        obtain ⟨y1, hy1⟩ : ∃ y1, y1 = (nxtB way r b d pk bk rw').2.1 := ⟨_, rfl⟩
        obtain ⟨y2, hy2⟩ : ∃ y2, y2 = (nxtB way r b d pk bk rw').2.2 := ⟨_, rfl⟩
        rw [← hy0, ← hy1, ← hy2]
        have HY := Lib.hid (And.intro hy0 (And.intro hy1 (And.intro hy2 (And.intro P3 (And.intro G3 (And.intro hb3 (And.intro hgrow hown2)))))))
        clear hy0 hy1 hy2 P3 G3 hb3 hown2 hgrow G2 P2 hg hp hB hS kk1 hb1
        go_wp2_with fail
        go_roundw
        case rel =>
          obtain ⟨hy0, hy1, hy2, P3, G3, hb3, hgrow, hown2⟩ := HY.out
          obtain ⟨kk1, hb1, hS⟩ := HK1.out
          have HF := lay_step w r s b d c way n k u5 v' wr w1 w2 w3 y0 y1 y2 ph HL1.out HP.out.2.2 kk1 hS zP hgrow hown2 hb3 G3 ⟨_, _, _, P3⟩ (fun hlt2 => by
            have := HNV.out (by rw [HN.out]; omega)
            rw [this] at hy0 hy1 hy2
            rw [Int.natCast_add]
            exact ⟨hy0, hy1, hy2⟩)
          exact ⟨k + 1, by have := HLT.out; omega, by go_num, HF⟩
        case measure => have := HLT.out; simp [intOf]; omega
    · have hkn : k = n := by omega
      subst hkn
      have r1 : ¬ (k : Int) < k := by omega
      clear hlt hpv
      go_wp2_with fail
      go_ret
      exact ⟨_, rfl, HST.out.1, HST.out.2.2.2⟩
end Go.Proofs.Ytjmcpeobncoinaa
