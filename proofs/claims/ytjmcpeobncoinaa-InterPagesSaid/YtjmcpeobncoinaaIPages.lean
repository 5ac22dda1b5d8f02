/- Each page of any geometry, in each way, is laid to the document's, and told back by it; what isn't there is refused: for any geometry, way and numbers. No condition. -/
import Derived.Test.YtjmcpeobncoinaaLayout
import Derived.Test.YtjmcpeobncoinaaInterD
import Derived.Test.YtjmcpeobncoinaaPages
namespace Go.Proofs.Ytjmcpeobncoinaa
set_option linter.unusedVariables false
open Go.ChangeShapes Go.WideShapes Go.ChangeAt Go.RowKit

/-- a page that is there is told back -/
theorem ok_page {r s b d c way page : Int} (h : ThePage r s b d c way page) : BackOk r s b d c way (phys way r b d page) ∧ backB way r b d (phys way r b d page / 16384) (phys way r b d page / 1024 % 16) (phys way r b d page % 1024) = page := by
  obtain ⟨hi, h0, h1⟩ := h
  have hr := (irB_yes hi).1
  obtain ⟨p1, p2, p3, p4, p5, p6, _, _⟩ := p_in hr way page h0
  obtain ⟨q1, q2⟩ := phys_in hr way page h0
  obtain ⟨a1, a2, a3, a4, a5, a6, a7, a8, a9⟩ := rightB_bd hr
  have hpg := (pages_right hr).1
  rw [hpg] at h1
  have hh := p_holds hr way page h0
  have e1 : phys way r b d page / 16384 = pRank way r b d page := by unfold phys; omega
  have e2 : phys way r b d page / 1024 % 16 = pBank way r b d page := by unfold phys; omega
  have e3 : phys way r b d page % 1024 = pRow way r b d page := by unfold phys; omega
  have f1 : phys way r b d page * 64 / 1048576 = pRank way r b d page := by unfold phys; omega
  have f2 : phys way r b d page * 64 / 65536 % 16 = pBank way r b d page := by unfold phys; omega
  have f3 : phys way r b d page * 64 / 64 % 1024 = pRow way r b d page := by unfold phys; omega
  have f4 : phys way r b d page * 64 % 64 = 0 := by omega
  refine ⟨⟨hi, q1, q2, ?_, by rw [e1]; exact p2⟩, ?_⟩
  · unfold atB
    rw [f1, f2, f3, f4, hh, decide_eq_true (by omega)]; rfl
  · rw [e1, e2, e3]
    exact back_page hr way page h0 h1
/-- what is told back is a page that is laid there -/
theorem page_ok {r s b d c way ph : Int} (h : BackOk r s b d c way ph) : ThePage r s b d c way (backB way r b d (ph / 16384) (ph / 1024 % 16) (ph % 1024)) ∧ phys way r b d (backB way r b d (ph / 16384) (ph / 1024 % 16) (ph % 1024)) = ph := by
  obtain ⟨hi, p0, p1, ha, hlt⟩ := h
  have hr := (irB_yes hi).1
  unfold atB at ha
  simp only [Bool.and_eq_true] at ha
  have hh := ha.2
  have e1 : ph * 64 / 1048576 = ph / 16384 := by omega
  have e2 : ph * 64 / 65536 % 16 = ph / 1024 % 16 := by omega
  have e3 : ph * 64 / 64 % 1024 = ph % 1024 := by omega
  rw [e1, e2, e3] at hh
  obtain ⟨_, h0, _, h2, h3, h4, h5, _, _⟩ := holdsB_yes hh
  obtain ⟨g0, g1, g2, g3, g4⟩ := page_back hr way _ _ _ h0 hlt h2 h3 h4 h5
  refine ⟨⟨hi, g0, by rw [(pages_right hr).1]; exact g1⟩, ?_⟩
  unfold phys
  rw [g2, g3, g4]
  omega

theorem below_two' {w w1 w2 : World} {o : Obj} (h : Below w.heap.size w w1) (h2 : Below (w1.alloc o).heap.size (w1.alloc o) w2) : Below w.heap.size w w2 := below_next h (below_one h2)
namespace ipages

set_option maxRecDepth 100000 in
set_option maxHeartbeats 4000000 in
theorem walk_no (r s b d c way page ph : Int) (hi : irB r s b d c way = false) (w : World) : Calls Try.prog 11 #[.agg #[.int .i64 r, .int .i64 s, .int .i64 b, .int .i64 d, .int .i64 c], .int .i64 way, .int .i64 page, .int .i64 ph] w fun e w' => e = .returned (.bool true) ∧ Below w.heap.size w w' := by
  have HP := Lib.hid (Page_no r s b d c way page (.inl hi))
  have HB := Lib.hid (Back_no r s b d c way ph (fun h => by have := h.1; rw [hi] at this; cases this))
  have HI := Lib.hid (fun w => iright_is hi w)
  have hl := lines_any r s b d c
  cases hr : rightB r s b d c
  · have HR := Lib.hid (fun (w : World) => (show Calls Try.prog 15 #[.agg #[.int .i64 r, .int .i64 s, .int .i64 b, .int .i64 d, .int .i64 c]] w (fun e w' => e = .returned (.bool false) ∧ Below w.heap.size w w') by have := rright_any r s b d c w; rw [hr] at this; exact this))
    rw [lines_wrong hr] at hl
    have HL := Lib.hid hl
    clear hr hl hi
    go_enter Try.func11, Try.ntmps11
    go_wp2_with fail
    refine (anchor8_any _).mono ?_; rintro e w1 ⟨rfl, hb1⟩; obtain ⟨hc1, hf1⟩ := bcell hb1; have hs1 := hb1.size; (try simp only [World.size_alloc] at hs1); have hz1 : w.heap.size < w1.heap.size := (by omega)
    go_wp2_with fail
    refine (HP.out _).mono ?_; rintro e w2 ⟨rfl, hb2⟩; obtain ⟨hc2, hf2⟩ := bcell hb2; have hs2 := hb2.size; (try simp only [World.size_alloc] at hs2); have hz2 : w.heap.size < w2.heap.size := (by omega); have hy2 : w1.heap.size < w2.heap.size := (by omega)
    go_wp2_with fail
    refine (HB.out _).mono ?_; rintro e w3 ⟨rfl, hb3⟩; obtain ⟨hc3, hf3⟩ := bcell hb3; have hs3 := hb3.size; (try simp only [World.size_alloc] at hs3); have hz3 : w.heap.size < w3.heap.size := (by omega); have hy3 : w1.heap.size < w3.heap.size := (by omega)
    go_wp2_with fail
    refine (HR.out _).mono ?_; rintro e w4 ⟨rfl, hb4⟩; obtain ⟨hc4, hf4⟩ := bcell hb4; have hs4 := hb4.size; (try simp only [World.size_alloc] at hs4); have hz4 : w.heap.size < w4.heap.size := (by omega); have hy4 : w1.heap.size < w4.heap.size := (by omega)
    go_wp2_with fail
    refine (HI.out _).mono ?_; rintro e w5 ⟨rfl, hb5⟩; obtain ⟨hc5, hf5⟩ := bcell hb5; have hs5 := hb5.size; (try simp only [World.size_alloc] at hs5); have hz5 : w.heap.size < w5.heap.size := (by omega); have hy5 : w1.heap.size < w5.heap.size := (by omega)
    go_wp2_with fail
    refine (HR.out _).mono ?_; rintro e w6 ⟨rfl, hb6⟩; obtain ⟨hc6, hf6⟩ := bcell hb6; have hs6 := hb6.size; (try simp only [World.size_alloc] at hs6); have hz6 : w.heap.size < w6.heap.size := (by omega); have hy6 : w1.heap.size < w6.heap.size := (by omega)
    go_wp2_with fail
    refine (HL.out _).mono ?_; rintro e w7 ⟨rfl, hb7⟩
    go_wp2_with fail
    go_ret
    exact ⟨rfl, below_next (below_next (below_next (below_next (below_next (below_two' (below_one hb1) hb2) hb3) hb4) hb5) hb6) hb7⟩
    skip
  · have HR := Lib.hid (fun (w : World) => (show Calls Try.prog 15 #[.agg #[.int .i64 r, .int .i64 s, .int .i64 b, .int .i64 d, .int .i64 c]] w (fun e w' => e = .returned (.bool true) ∧ Below w.heap.size w w') by have := rright_any r s b d c w; rw [hr] at this; exact this))
    have hw : way < 0 ∨ (0 ≤ way ∧ ¬ way ≤ 3) := by
      by_cases h0 : 0 ≤ way
      · by_cases h1 : way < 4
        · rw [irB_mk hr h0 h1] at hi; cases hi
        · omega
      · omega
    clear hr hl hi
    rcases hw with hw | ⟨hw, hw2⟩
    all_goals
      go_enter Try.func11, Try.ntmps11
      go_wp2_with fail
      refine (anchor8_any _).mono ?_; rintro e w1 ⟨rfl, hb1⟩; obtain ⟨hc1, hf1⟩ := bcell hb1; have hs1 := hb1.size; (try simp only [World.size_alloc] at hs1); have hz1 : w.heap.size < w1.heap.size := (by omega)
      go_wp2_with fail
      refine (HP.out _).mono ?_; rintro e w2 ⟨rfl, hb2⟩; obtain ⟨hc2, hf2⟩ := bcell hb2; have hs2 := hb2.size; (try simp only [World.size_alloc] at hs2); have hz2 : w.heap.size < w2.heap.size := (by omega); have hy2 : w1.heap.size < w2.heap.size := (by omega)
      go_wp2_with fail
      refine (HB.out _).mono ?_; rintro e w3 ⟨rfl, hb3⟩; obtain ⟨hc3, hf3⟩ := bcell hb3; have hs3 := hb3.size; (try simp only [World.size_alloc] at hs3); have hz3 : w.heap.size < w3.heap.size := (by omega); have hy3 : w1.heap.size < w3.heap.size := (by omega)
      go_wp2_with fail
      refine (HR.out _).mono ?_; rintro e w4 ⟨rfl, hb4⟩; obtain ⟨hc4, hf4⟩ := bcell hb4; have hs4 := hb4.size; (try simp only [World.size_alloc] at hs4); have hz4 : w.heap.size < w4.heap.size := (by omega); have hy4 : w1.heap.size < w4.heap.size := (by omega)
      go_wp2_with fail
      refine (HI.out _).mono ?_; rintro e w5 ⟨rfl, hb5⟩; obtain ⟨hc5, hf5⟩ := bcell hb5; have hs5 := hb5.size; (try simp only [World.size_alloc] at hs5); have hz5 : w.heap.size < w5.heap.size := (by omega); have hy5 : w1.heap.size < w5.heap.size := (by omega)
      go_wp2_with fail
      try any_goals (exact absurd (show (!decide (way ≤ 3)) = false by assumption) (by simp; omega))
      refine (HR.out _).mono ?_; rintro e w6 ⟨rfl, hb6⟩
      go_wp2_with fail
      go_ret
      exact ⟨rfl, below_next (below_next (below_next (below_next (below_two' (below_one hb1) hb2) hb3) hb4) hb5) hb6⟩

set_option maxRecDepth 100000 in
set_option maxHeartbeats 4000000 in
theorem walk_00 (r s b d c way page ph p q : Int) (n : Nat) (hi : irB r s b d c way = true) (hn : r * b * d = (n : Nat))
    (HP : ∀ w, Calls Try.prog 28 #[.agg #[.int .i64 r, .int .i64 s, .int .i64 b, .int .i64 d, .int .i64 c], .int .i64 way, .int .i64 page] w fun e w' => e = .returned (.tuple #[.int .i64 0, .int .i64 12]) ∧ Below w.heap.size w w')
    (HB : ∀ w, Calls Try.prog 33 #[.agg #[.int .i64 r, .int .i64 s, .int .i64 b, .int .i64 d, .int .i64 c], .int .i64 way, .int .i64 ph] w fun e w' => e = .returned (.tuple #[.int .i64 0, .int .i64 12]) ∧ Below w.heap.size w w')
    
    (h0 : page < 0 ∨ (n : Int) ≤ page) (gx : ∀ j : Nat, j < n → phys way r b d (j : Nat) ≠ ph) (w : World) : Calls Try.prog 11 #[.agg #[.int .i64 r, .int .i64 s, .int .i64 b, .int .i64 d, .int .i64 c], .int .i64 way, .int .i64 page, .int .i64 ph] w fun e w' => e = .returned (.bool true) ∧ Below w.heap.size w w' := by
  obtain ⟨hr, w0, w4⟩ := irB_yes hi
  have w5 : way ≤ 3 := by omega
  have HP := Lib.hid HP
  have HB := Lib.hid HB
  
  have HI := Lib.hid (fun w => iright_is hi w)
  have HR := Lib.hid (fun (w : World) => (show Calls Try.prog 15 #[.agg #[.int .i64 r, .int .i64 s, .int .i64 b, .int .i64 d, .int .i64 c]] w (fun e w' => e = .returned (.bool true) ∧ Below w.heap.size w w') by have := rright_any r s b d c w; rw [hr] at this; exact this))
  have hL := lines_any r s b d c
  rw [lines_right hr, hn] at hL
  have HL := Lib.hid hL
  have HY := Lib.hid (fun w => Layout_any r s b d c way n hi hn w)
  have hcn : (n : Int) * c ≤ 4096 ∧ 1 ≤ (n : Int) ∧ (n : Int) ≤ 131072 := by have := pages_right hr; rw [hn] at this; omega
  have hcb := rightB_bd hr
  have HN := Lib.hid (And.intro hn (And.intro hr hcb))
  obtain ⟨cn1, cn2, cn3⟩ := hcn
  have cn0 : 0 ≤ (n : Int) * c := Int.mul_nonneg (by omega) (by omega)
  have cb1 : 1 ≤ c := hcb.2.2.2.2.2.2.2.1
  have cb2 : c ≤ 64 := hcb.2.2.2.2.2.2.2.2
  
  
  have HG := Lib.hid gx
  clear hL hr hi w4 hn hcb  gx
  go_enter Try.func11, Try.ntmps11
  go_wp2_with fail
  refine (anchor8_any _).mono ?_; rintro e w1 ⟨rfl, hb1⟩; obtain ⟨hc1, hf1⟩ := bcell hb1; have hs1 := hb1.size; (try simp only [World.size_alloc] at hs1); have hz1 : w.heap.size < w1.heap.size := (by omega)
  go_wp2_with fail
  refine (HP.out _).mono ?_; rintro e w2 ⟨rfl, hb2⟩; obtain ⟨hc2, hf2⟩ := bcell hb2; have hs2 := hb2.size; (try simp only [World.size_alloc] at hs2); have hz2 : w.heap.size < w2.heap.size := (by omega); have hy2 : w1.heap.size < w2.heap.size := (by omega)
  go_wp2_with fail
  refine (HB.out _).mono ?_; rintro e w3 ⟨rfl, hb3⟩; obtain ⟨hc3, hf3⟩ := bcell hb3; have hs3 := hb3.size; (try simp only [World.size_alloc] at hs3); have hz3 : w.heap.size < w3.heap.size := (by omega); have hy3 : w1.heap.size < w3.heap.size := (by omega)
  go_wp2_with fail
  refine (HR.out _).mono ?_; rintro e w4 ⟨rfl, hb4⟩; obtain ⟨hc4, hf4⟩ := bcell hb4; have hs4 := hb4.size; (try simp only [World.size_alloc] at hs4); have hz4 : w.heap.size < w4.heap.size := (by omega); have hy4 : w1.heap.size < w4.heap.size := (by omega)
  go_wp2_with fail
  refine (HI.out _).mono ?_; rintro e w5 ⟨rfl, hb5⟩; obtain ⟨hc5, hf5⟩ := bcell hb5; have hs5 := hb5.size; (try simp only [World.size_alloc] at hs5); have hz5 : w.heap.size < w5.heap.size := (by omega); have hy5 : w1.heap.size < w5.heap.size := (by omega)
  go_wp2_with fail
  refine (HY.out _).mono ?_; rintro e w6 ⟨v, rfl, hsl, hb6⟩; obtain ⟨hc6, hf6⟩ := bcell hb6; have hs6 := hb6.size; (try simp only [World.size_alloc] at hs6); have hz6 : w.heap.size < w6.heap.size := (by omega); have hy6 : w1.heap.size < w6.heap.size := (by omega)
  rcases hsl.cases with ⟨_, hnil⟩ | ⟨g, cap, rfl, hg, hgs, hlc, hcm, hcell⟩
  · have := layL_len way r b d n; rw [hnil] at this; simp at this; omega
  rw [layL_len] at hlc hcell ⊢
  have HCL := Lib.hid (And.intro hsl (And.intro hlc (And.intro hcm hcell)))
  clear hsl hlc hcm hcell
  have B6 := Lib.hid (below_next (below_next (below_next (below_next (below_two' (below_one hb1) hb2) hb3) hb4) hb5) hb6)
  have u0 : w6.cell? ⟨w.heap.size, 0, none⟩ = some (.int .i64 r) := by rw [hc6 _ _ hz5, hc5 _ _ hz4, hc4 _ _ hz3, hc3 _ _ hz2, hc2 _ _ (by simp; omega), World.cell?_alloc_lt _ _ _ hz1, hc1 _ _ (by simp)]; simp [go_sem]
  have u1 : w6.cell? ⟨w.heap.size, 1, none⟩ = some (.int .i64 s) := by rw [hc6 _ _ hz5, hc5 _ _ hz4, hc4 _ _ hz3, hc3 _ _ hz2, hc2 _ _ (by simp; omega), World.cell?_alloc_lt _ _ _ hz1, hc1 _ _ (by simp)]; simp [go_sem]
  have u2 : w6.cell? ⟨w.heap.size, 2, none⟩ = some (.int .i64 b) := by rw [hc6 _ _ hz5, hc5 _ _ hz4, hc4 _ _ hz3, hc3 _ _ hz2, hc2 _ _ (by simp; omega), World.cell?_alloc_lt _ _ _ hz1, hc1 _ _ (by simp)]; simp [go_sem]
  have u3 : w6.cell? ⟨w.heap.size, 3, none⟩ = some (.int .i64 d) := by rw [hc6 _ _ hz5, hc5 _ _ hz4, hc4 _ _ hz3, hc3 _ _ hz2, hc2 _ _ (by simp; omega), World.cell?_alloc_lt _ _ _ hz1, hc1 _ _ (by simp)]; simp [go_sem]
  have u4 : w6.cell? ⟨w.heap.size, 4, none⟩ = some (.int .i64 c) := by rw [hc6 _ _ hz5, hc5 _ _ hz4, hc4 _ _ hz3, hc3 _ _ hz2, hc2 _ _ (by simp; omega), World.cell?_alloc_lt _ _ _ hz1, hc1 _ _ (by simp)]; simp [go_sem]
  clear hc6 hf6 hc5 hf5 hc4 hf4 hc3 hf3 hc2 hf2 hc1 hf1 hb1 hb2 hb3 hb4 hb5 hb6 hz1 hz2 hz3 hz4 hz5 hy2 hy3 hy4 hy5 hs1 hs2 hs3 hs4 hs5 hs6
  go_wp2_with fail
  have wr1 : IntKind.i64.wrap ((n : Int) * c) = (n : Int) * c := IntWalk.i64_in _ ⟨by omega, by omega⟩
  refine wp_region_keeps (by kernel_rfl) (by kernel_rfl) ?_
  repeat (first
      | (with_reducible refine wpQuiet_step (fun K hK => ?_); go_simp; refine hK _ ?_; clear hK K)
      | (with_reducible refine wpQuiet_step (fun K hK => ?_); go_simp
         apply Exists.intro
         refine ⟨fun w' hw' => ?_, hK _ ?_⟩
         focus
           obtain ⟨hcq, hfq⟩ := hw'.cells
           go_simp
           first
             | rfl
             | (go_at_call 35; exact hw'.call (HL.out _))
         clear hK K)
      | (with_reducible refine wpQuiet_step (fun K hK => ?_); go_simp; with_reducible refine ite_no ?_ ?_; (exact (by decide)); refine hK _ ?_; clear hK K))
  with_reducible refine wpQuiet_nil ?_
  intro w7 hw7
  rcases h0 with h0 | h0
  all_goals
    have hcw := fun (i : Nat) (hi : i < n) => (hw7.cells.1 g i hgs).trans (HCL.out.2.2.2 i hi)
    have g0' : w7.cell? ⟨w.heap.size, 0, none⟩ = some (.int .i64 r) := (hw7.cells.1 _ _ hz6).trans u0
    have g1' : w7.cell? ⟨w.heap.size, 1, none⟩ = some (.int .i64 s) := (hw7.cells.1 _ _ hz6).trans u1
    have g2' : w7.cell? ⟨w.heap.size, 2, none⟩ = some (.int .i64 b) := (hw7.cells.1 _ _ hz6).trans u2
    have g3' : w7.cell? ⟨w.heap.size, 3, none⟩ = some (.int .i64 d) := (hw7.cells.1 _ _ hz6).trans u3
    have g4' : w7.cell? ⟨w.heap.size, 4, none⟩ = some (.int .i64 c) := (hw7.cells.1 _ _ hz6).trans u4
    have hne : ((n : Int) * c != (n : Int) * c) = false := by simp
    try rw [wr1]
    clear wr1
    obtain ⟨wl, hwl⟩ : ∃ wl, wl = w7 := ⟨_, rfl⟩
    rw [← hwl]
    rw [← hwl] at hcw hw7
    have BL := Lib.hid (below_next B6.out hw7)
    have HCLL := Lib.hid hcw
    clear hcw u0 u1 u2 u3 u4 hw7 g0' g1' g2' g3' g4' hwl
    go_wp2_with fail
    go_loop [130] (fun i => ∃ k : Nat, k ≤ n ∧ i = .int .i64 k ∧ ∀ j : Nat, j < k → phys way r b d (j : Nat) ≠ ph) (fun i => n - (intOf i).toNat)
    case atStart => exact ⟨0, by omega, rfl, fun j hj => by omega⟩
    case round =>
      obtain ⟨k, hk, rfl, hno⟩ := hrel
      have HNO := Lib.hid hno
      clear hno
      by_cases hlt : k < n
      · have v2 := HCLL.out k hlt
        rw [layL_get _ _ _ _ _ _ hlt] at v2
        have hkI : (k : Int) < n := by omega
        have HLT := Lib.hid hlt
        clear hlt
        generalize hy : phys way r b d (k : Nat) = y at *
        have HY2 := Lib.hid hy
        clear hy
        by_cases hxy : y = ph
        · have hb : (y == ph) = true := by simpa using hxy
          exact absurd (HY2.out.trans hxy) (HG.out k HLT.out)
        · have hb : (y == ph) = false := by simpa using hxy
          have HXY := Lib.hid hxy
          clear hxy
          go_wp2
          go_round
          case rel =>
            refine ⟨k + 1, HLT.out, by go_num, fun j hj => ?_⟩
            by_cases e : j = k
            · subst e; rw [HY2.out]; exact HXY.out
            · exact HNO.out j (by omega)
          case measure => have := HLT.out; simp [intOf]; omega
      · have hkn : k = n := by omega
        subst hkn
        have r1 : ¬ (k : Int) < k := by omega
        clear hlt
        go_wp2
        go_ret
        exact ⟨rfl, BL.out⟩

set_option maxRecDepth 100000 in
set_option maxHeartbeats 4000000 in
theorem walk_01 (r s b d c way page ph p q : Int) (n : Nat) (hi : irB r s b d c way = true) (hn : r * b * d = (n : Nat))
    (HP : ∀ w, Calls Try.prog 28 #[.agg #[.int .i64 r, .int .i64 s, .int .i64 b, .int .i64 d, .int .i64 c], .int .i64 way, .int .i64 page] w fun e w' => e = .returned (.tuple #[.int .i64 0, .int .i64 12]) ∧ Below w.heap.size w w')
    (HB : ∀ w, Calls Try.prog 33 #[.agg #[.int .i64 r, .int .i64 s, .int .i64 b, .int .i64 d, .int .i64 c], .int .i64 way, .int .i64 ph] w fun e w' => e = .returned (.tuple #[.int .i64 q, .int .i64 0]) ∧ Below w.heap.size w w')
    
    (h0 : page < 0 ∨ (n : Int) ≤ page) (g0 : 0 ≤ q) (g1 : q < n) (gx : phys way r b d q = ph) (w : World) : Calls Try.prog 11 #[.agg #[.int .i64 r, .int .i64 s, .int .i64 b, .int .i64 d, .int .i64 c], .int .i64 way, .int .i64 page, .int .i64 ph] w fun e w' => e = .returned (.bool true) ∧ Below w.heap.size w w' := by
  obtain ⟨hr, w0, w4⟩ := irB_yes hi
  have w5 : way ≤ 3 := by omega
  have HP := Lib.hid HP
  have HB := Lib.hid HB
  
  have HI := Lib.hid (fun w => iright_is hi w)
  have HR := Lib.hid (fun (w : World) => (show Calls Try.prog 15 #[.agg #[.int .i64 r, .int .i64 s, .int .i64 b, .int .i64 d, .int .i64 c]] w (fun e w' => e = .returned (.bool true) ∧ Below w.heap.size w w') by have := rright_any r s b d c w; rw [hr] at this; exact this))
  have hL := lines_any r s b d c
  rw [lines_right hr, hn] at hL
  have HL := Lib.hid hL
  have HY := Lib.hid (fun w => Layout_any r s b d c way n hi hn w)
  have hcn : (n : Int) * c ≤ 4096 ∧ 1 ≤ (n : Int) ∧ (n : Int) ≤ 131072 := by have := pages_right hr; rw [hn] at this; omega
  have hcb := rightB_bd hr
  have HN := Lib.hid (And.intro hn (And.intro hr hcb))
  obtain ⟨cn1, cn2, cn3⟩ := hcn
  have cn0 : 0 ≤ (n : Int) * c := Int.mul_nonneg (by omega) (by omega)
  have cb1 : 1 ≤ c := hcb.2.2.2.2.2.2.2.1
  have cb2 : c ≤ 64 := hcb.2.2.2.2.2.2.2.2
  
  
  have HG := Lib.hid gx
  clear hL hr hi w4 hn hcb  gx
  go_enter Try.func11, Try.ntmps11
  go_wp2_with fail
  refine (anchor8_any _).mono ?_; rintro e w1 ⟨rfl, hb1⟩; obtain ⟨hc1, hf1⟩ := bcell hb1; have hs1 := hb1.size; (try simp only [World.size_alloc] at hs1); have hz1 : w.heap.size < w1.heap.size := (by omega)
  go_wp2_with fail
  refine (HP.out _).mono ?_; rintro e w2 ⟨rfl, hb2⟩; obtain ⟨hc2, hf2⟩ := bcell hb2; have hs2 := hb2.size; (try simp only [World.size_alloc] at hs2); have hz2 : w.heap.size < w2.heap.size := (by omega); have hy2 : w1.heap.size < w2.heap.size := (by omega)
  go_wp2_with fail
  refine (HB.out _).mono ?_; rintro e w3 ⟨rfl, hb3⟩; obtain ⟨hc3, hf3⟩ := bcell hb3; have hs3 := hb3.size; (try simp only [World.size_alloc] at hs3); have hz3 : w.heap.size < w3.heap.size := (by omega); have hy3 : w1.heap.size < w3.heap.size := (by omega)
  go_wp2_with fail
  refine (HR.out _).mono ?_; rintro e w4 ⟨rfl, hb4⟩; obtain ⟨hc4, hf4⟩ := bcell hb4; have hs4 := hb4.size; (try simp only [World.size_alloc] at hs4); have hz4 : w.heap.size < w4.heap.size := (by omega); have hy4 : w1.heap.size < w4.heap.size := (by omega)
  go_wp2_with fail
  refine (HI.out _).mono ?_; rintro e w5 ⟨rfl, hb5⟩; obtain ⟨hc5, hf5⟩ := bcell hb5; have hs5 := hb5.size; (try simp only [World.size_alloc] at hs5); have hz5 : w.heap.size < w5.heap.size := (by omega); have hy5 : w1.heap.size < w5.heap.size := (by omega)
  go_wp2_with fail
  refine (HY.out _).mono ?_; rintro e w6 ⟨v, rfl, hsl, hb6⟩; obtain ⟨hc6, hf6⟩ := bcell hb6; have hs6 := hb6.size; (try simp only [World.size_alloc] at hs6); have hz6 : w.heap.size < w6.heap.size := (by omega); have hy6 : w1.heap.size < w6.heap.size := (by omega)
  rcases hsl.cases with ⟨_, hnil⟩ | ⟨g, cap, rfl, hg, hgs, hlc, hcm, hcell⟩
  · have := layL_len way r b d n; rw [hnil] at this; simp at this; omega
  rw [layL_len] at hlc hcell ⊢
  have HCL := Lib.hid (And.intro hsl (And.intro hlc (And.intro hcm hcell)))
  clear hsl hlc hcm hcell
  have B6 := Lib.hid (below_next (below_next (below_next (below_next (below_two' (below_one hb1) hb2) hb3) hb4) hb5) hb6)
  have u0 : w6.cell? ⟨w.heap.size, 0, none⟩ = some (.int .i64 r) := by rw [hc6 _ _ hz5, hc5 _ _ hz4, hc4 _ _ hz3, hc3 _ _ hz2, hc2 _ _ (by simp; omega), World.cell?_alloc_lt _ _ _ hz1, hc1 _ _ (by simp)]; simp [go_sem]
  have u1 : w6.cell? ⟨w.heap.size, 1, none⟩ = some (.int .i64 s) := by rw [hc6 _ _ hz5, hc5 _ _ hz4, hc4 _ _ hz3, hc3 _ _ hz2, hc2 _ _ (by simp; omega), World.cell?_alloc_lt _ _ _ hz1, hc1 _ _ (by simp)]; simp [go_sem]
  have u2 : w6.cell? ⟨w.heap.size, 2, none⟩ = some (.int .i64 b) := by rw [hc6 _ _ hz5, hc5 _ _ hz4, hc4 _ _ hz3, hc3 _ _ hz2, hc2 _ _ (by simp; omega), World.cell?_alloc_lt _ _ _ hz1, hc1 _ _ (by simp)]; simp [go_sem]
  have u3 : w6.cell? ⟨w.heap.size, 3, none⟩ = some (.int .i64 d) := by rw [hc6 _ _ hz5, hc5 _ _ hz4, hc4 _ _ hz3, hc3 _ _ hz2, hc2 _ _ (by simp; omega), World.cell?_alloc_lt _ _ _ hz1, hc1 _ _ (by simp)]; simp [go_sem]
  have u4 : w6.cell? ⟨w.heap.size, 4, none⟩ = some (.int .i64 c) := by rw [hc6 _ _ hz5, hc5 _ _ hz4, hc4 _ _ hz3, hc3 _ _ hz2, hc2 _ _ (by simp; omega), World.cell?_alloc_lt _ _ _ hz1, hc1 _ _ (by simp)]; simp [go_sem]
  clear hc6 hf6 hc5 hf5 hc4 hf4 hc3 hf3 hc2 hf2 hc1 hf1 hb1 hb2 hb3 hb4 hb5 hb6 hz1 hz2 hz3 hz4 hz5 hy2 hy3 hy4 hy5 hs1 hs2 hs3 hs4 hs5 hs6
  go_wp2_with fail
  have wr1 : IntKind.i64.wrap ((n : Int) * c) = (n : Int) * c := IntWalk.i64_in _ ⟨by omega, by omega⟩
  refine wp_region_keeps (by kernel_rfl) (by kernel_rfl) ?_
  repeat (first
      | (with_reducible refine wpQuiet_step (fun K hK => ?_); go_simp; refine hK _ ?_; clear hK K)
      | (with_reducible refine wpQuiet_step (fun K hK => ?_); go_simp
         apply Exists.intro
         refine ⟨fun w' hw' => ?_, hK _ ?_⟩
         focus
           obtain ⟨hcq, hfq⟩ := hw'.cells
           go_simp
           first
             | rfl
             | (go_at_call 35; exact hw'.call (HL.out _))
         clear hK K)
      | (with_reducible refine wpQuiet_step (fun K hK => ?_); go_simp; with_reducible refine ite_no ?_ ?_; (exact (by decide)); refine hK _ ?_; clear hK K))
  with_reducible refine wpQuiet_nil ?_
  intro w7 hw7
  rcases h0 with h0 | h0
  all_goals
    have hcw := fun (i : Nat) (hi : i < n) => (hw7.cells.1 g i hgs).trans (HCL.out.2.2.2 i hi)
    have g0' : w7.cell? ⟨w.heap.size, 0, none⟩ = some (.int .i64 r) := (hw7.cells.1 _ _ hz6).trans u0
    have g1' : w7.cell? ⟨w.heap.size, 1, none⟩ = some (.int .i64 s) := (hw7.cells.1 _ _ hz6).trans u1
    have g2' : w7.cell? ⟨w.heap.size, 2, none⟩ = some (.int .i64 b) := (hw7.cells.1 _ _ hz6).trans u2
    have g3' : w7.cell? ⟨w.heap.size, 3, none⟩ = some (.int .i64 d) := (hw7.cells.1 _ _ hz6).trans u3
    have g4' : w7.cell? ⟨w.heap.size, 4, none⟩ = some (.int .i64 c) := (hw7.cells.1 _ _ hz6).trans u4
    have hne : ((n : Int) * c != (n : Int) * c) = false := by simp
    try rw [wr1]
    clear wr1
    obtain ⟨wl, hwl⟩ : ∃ wl, wl = w7 := ⟨_, rfl⟩
    rw [← hwl]
    rw [← hwl] at hcw hw7
    have BL := Lib.hid (below_next B6.out hw7)
    have HCLL := Lib.hid hcw
    clear hcw u0 u1 u2 u3 u4 hw7 g0' g1' g2' g3' g4' hwl
    go_wp2_with fail
    go_loop [130] (fun i => ∃ k : Nat, k ≤ n ∧ i = .int .i64 k ∧ ∀ j : Nat, j < k → phys way r b d (j : Nat) ≠ ph) (fun i => n - (intOf i).toNat)
    case atStart => exact ⟨0, by omega, rfl, fun j hj => by omega⟩
    case round =>
      obtain ⟨k, hk, rfl, hno⟩ := hrel
      have HNO := Lib.hid hno
      clear hno
      by_cases hlt : k < n
      · have v2 := HCLL.out k hlt
        rw [layL_get _ _ _ _ _ _ hlt] at v2
        have hkI : (k : Int) < n := by omega
        have HLT := Lib.hid hlt
        clear hlt
        generalize hy : phys way r b d (k : Nat) = y at *
        have HY2 := Lib.hid hy
        clear hy
        by_cases hxy : y = ph
        · have hb : (y == ph) = true := by simpa using hxy
          have hqk : q = (k : Nat) := by
            have gx := HG.out
            rw [← hxy, ← HY2.out] at gx
            obtain ⟨hn, hr, _⟩ := HN.out
            exact phys_inj hr way q (k : Nat) g0 (by rw [hn]; exact g1) (by omega) (by rw [hn]; exact hkI) gx
          have hq2 : (q == (k : Int)) = true := by simpa using hqk
          clear hqk hxy
          go_wp2
          go_ret
          exact ⟨rfl, BL.out⟩
        · have hb : (y == ph) = false := by simpa using hxy
          have HXY := Lib.hid hxy
          clear hxy
          go_wp2
          go_round
          case rel =>
            refine ⟨k + 1, HLT.out, by go_num, fun j hj => ?_⟩
            by_cases e : j = k
            · subst e; rw [HY2.out]; exact HXY.out
            · exact HNO.out j (by omega)
          case measure => have := HLT.out; simp [intOf]; omega
      · have hkn : k = n := by omega
        subst hkn
        obtain ⟨j, rfl⟩ := Int.eq_ofNat_of_zero_le g0
        exact absurd HG.out (HNO.out j (by omega))

set_option maxRecDepth 100000 in
set_option maxHeartbeats 4000000 in
theorem walk_10 (r s b d c way page ph p q : Int) (n : Nat) (hi : irB r s b d c way = true) (hn : r * b * d = (n : Nat))
    (HP : ∀ w, Calls Try.prog 28 #[.agg #[.int .i64 r, .int .i64 s, .int .i64 b, .int .i64 d, .int .i64 c], .int .i64 way, .int .i64 page] w fun e w' => e = .returned (.tuple #[.int .i64 p, .int .i64 0]) ∧ Below w.heap.size w w')
    (HB : ∀ w, Calls Try.prog 33 #[.agg #[.int .i64 r, .int .i64 s, .int .i64 b, .int .i64 d, .int .i64 c], .int .i64 way, .int .i64 ph] w fun e w' => e = .returned (.tuple #[.int .i64 0, .int .i64 12]) ∧ Below w.heap.size w w')
    (HC : ∀ w, Calls Try.prog 33 #[.agg #[.int .i64 r, .int .i64 s, .int .i64 b, .int .i64 d, .int .i64 c], .int .i64 way, .int .i64 p] w fun e w' => e = .returned (.tuple #[.int .i64 page, .int .i64 0]) ∧ Below w.heap.size w w')
    (h0 : 0 ≤ page) (h1 : page < n) (hx : p = phys way r b d page) (gx : ∀ j : Nat, j < n → phys way r b d (j : Nat) ≠ ph) (w : World) : Calls Try.prog 11 #[.agg #[.int .i64 r, .int .i64 s, .int .i64 b, .int .i64 d, .int .i64 c], .int .i64 way, .int .i64 page, .int .i64 ph] w fun e w' => e = .returned (.bool true) ∧ Below w.heap.size w w' := by
  obtain ⟨hr, w0, w4⟩ := irB_yes hi
  have w5 : way ≤ 3 := by omega
  have HP := Lib.hid HP
  have HB := Lib.hid HB
  have HC := Lib.hid HC
  have HI := Lib.hid (fun w => iright_is hi w)
  have HR := Lib.hid (fun (w : World) => (show Calls Try.prog 15 #[.agg #[.int .i64 r, .int .i64 s, .int .i64 b, .int .i64 d, .int .i64 c]] w (fun e w' => e = .returned (.bool true) ∧ Below w.heap.size w w') by have := rright_any r s b d c w; rw [hr] at this; exact this))
  have hL := lines_any r s b d c
  rw [lines_right hr, hn] at hL
  have HL := Lib.hid hL
  have HY := Lib.hid (fun w => Layout_any r s b d c way n hi hn w)
  have hcn : (n : Int) * c ≤ 4096 ∧ 1 ≤ (n : Int) ∧ (n : Int) ≤ 131072 := by have := pages_right hr; rw [hn] at this; omega
  have hcb := rightB_bd hr
  have HN := Lib.hid (And.intro hn (And.intro hr hcb))
  obtain ⟨cn1, cn2, cn3⟩ := hcn
  have cn0 : 0 ≤ (n : Int) * c := Int.mul_nonneg (by omega) (by omega)
  have cb1 : 1 ≤ c := hcb.2.2.2.2.2.2.2.1
  have cb2 : c ≤ 64 := hcb.2.2.2.2.2.2.2.2
  obtain ⟨m, rfl⟩ := Int.eq_ofNat_of_zero_le h0
  have HX := Lib.hid hx
  have HG := Lib.hid gx
  clear hL hr hi w4 hn hcb hx gx
  go_enter Try.func11, Try.ntmps11
  go_wp2_with fail
  refine (anchor8_any _).mono ?_; rintro e w1 ⟨rfl, hb1⟩; obtain ⟨hc1, hf1⟩ := bcell hb1; have hs1 := hb1.size; (try simp only [World.size_alloc] at hs1); have hz1 : w.heap.size < w1.heap.size := (by omega)
  go_wp2_with fail
  refine (HP.out _).mono ?_; rintro e w2 ⟨rfl, hb2⟩; obtain ⟨hc2, hf2⟩ := bcell hb2; have hs2 := hb2.size; (try simp only [World.size_alloc] at hs2); have hz2 : w.heap.size < w2.heap.size := (by omega); have hy2 : w1.heap.size < w2.heap.size := (by omega)
  go_wp2_with fail
  refine (HB.out _).mono ?_; rintro e w3 ⟨rfl, hb3⟩; obtain ⟨hc3, hf3⟩ := bcell hb3; have hs3 := hb3.size; (try simp only [World.size_alloc] at hs3); have hz3 : w.heap.size < w3.heap.size := (by omega); have hy3 : w1.heap.size < w3.heap.size := (by omega)
  go_wp2_with fail
  refine (HR.out _).mono ?_; rintro e w4 ⟨rfl, hb4⟩; obtain ⟨hc4, hf4⟩ := bcell hb4; have hs4 := hb4.size; (try simp only [World.size_alloc] at hs4); have hz4 : w.heap.size < w4.heap.size := (by omega); have hy4 : w1.heap.size < w4.heap.size := (by omega)
  go_wp2_with fail
  refine (HI.out _).mono ?_; rintro e w5 ⟨rfl, hb5⟩; obtain ⟨hc5, hf5⟩ := bcell hb5; have hs5 := hb5.size; (try simp only [World.size_alloc] at hs5); have hz5 : w.heap.size < w5.heap.size := (by omega); have hy5 : w1.heap.size < w5.heap.size := (by omega)
  go_wp2_with fail
  refine (HY.out _).mono ?_; rintro e w6 ⟨v, rfl, hsl, hb6⟩; obtain ⟨hc6, hf6⟩ := bcell hb6; have hs6 := hb6.size; (try simp only [World.size_alloc] at hs6); have hz6 : w.heap.size < w6.heap.size := (by omega); have hy6 : w1.heap.size < w6.heap.size := (by omega)
  rcases hsl.cases with ⟨_, hnil⟩ | ⟨g, cap, rfl, hg, hgs, hlc, hcm, hcell⟩
  · have := layL_len way r b d n; rw [hnil] at this; simp at this; omega
  rw [layL_len] at hlc hcell ⊢
  have HCL := Lib.hid (And.intro hsl (And.intro hlc (And.intro hcm hcell)))
  clear hsl hlc hcm hcell
  have B6 := Lib.hid (below_next (below_next (below_next (below_next (below_two' (below_one hb1) hb2) hb3) hb4) hb5) hb6)
  have u0 : w6.cell? ⟨w.heap.size, 0, none⟩ = some (.int .i64 r) := by rw [hc6 _ _ hz5, hc5 _ _ hz4, hc4 _ _ hz3, hc3 _ _ hz2, hc2 _ _ (by simp; omega), World.cell?_alloc_lt _ _ _ hz1, hc1 _ _ (by simp)]; simp [go_sem]
  have u1 : w6.cell? ⟨w.heap.size, 1, none⟩ = some (.int .i64 s) := by rw [hc6 _ _ hz5, hc5 _ _ hz4, hc4 _ _ hz3, hc3 _ _ hz2, hc2 _ _ (by simp; omega), World.cell?_alloc_lt _ _ _ hz1, hc1 _ _ (by simp)]; simp [go_sem]
  have u2 : w6.cell? ⟨w.heap.size, 2, none⟩ = some (.int .i64 b) := by rw [hc6 _ _ hz5, hc5 _ _ hz4, hc4 _ _ hz3, hc3 _ _ hz2, hc2 _ _ (by simp; omega), World.cell?_alloc_lt _ _ _ hz1, hc1 _ _ (by simp)]; simp [go_sem]
  have u3 : w6.cell? ⟨w.heap.size, 3, none⟩ = some (.int .i64 d) := by rw [hc6 _ _ hz5, hc5 _ _ hz4, hc4 _ _ hz3, hc3 _ _ hz2, hc2 _ _ (by simp; omega), World.cell?_alloc_lt _ _ _ hz1, hc1 _ _ (by simp)]; simp [go_sem]
  have u4 : w6.cell? ⟨w.heap.size, 4, none⟩ = some (.int .i64 c) := by rw [hc6 _ _ hz5, hc5 _ _ hz4, hc4 _ _ hz3, hc3 _ _ hz2, hc2 _ _ (by simp; omega), World.cell?_alloc_lt _ _ _ hz1, hc1 _ _ (by simp)]; simp [go_sem]
  clear hc6 hf6 hc5 hf5 hc4 hf4 hc3 hf3 hc2 hf2 hc1 hf1 hb1 hb2 hb3 hb4 hb5 hb6 hz1 hz2 hz3 hz4 hz5 hy2 hy3 hy4 hy5 hs1 hs2 hs3 hs4 hs5 hs6
  go_wp2_with fail
  have wr1 : IntKind.i64.wrap ((n : Int) * c) = (n : Int) * c := IntWalk.i64_in _ ⟨by omega, by omega⟩
  refine wp_region_keeps (by kernel_rfl) (by kernel_rfl) ?_
  repeat (first
      | (with_reducible refine wpQuiet_step (fun K hK => ?_); go_simp; refine hK _ ?_; clear hK K)
      | (with_reducible refine wpQuiet_step (fun K hK => ?_); go_simp
         apply Exists.intro
         refine ⟨fun w' hw' => ?_, hK _ ?_⟩
         focus
           obtain ⟨hcq, hfq⟩ := hw'.cells
           go_simp
           first
             | rfl
             | (go_at_call 35; exact hw'.call (HL.out _))
         clear hK K)
      | (with_reducible refine wpQuiet_step (fun K hK => ?_); go_simp; with_reducible refine ite_no ?_ ?_; (exact (by decide)); refine hK _ ?_; clear hK K))
  with_reducible refine wpQuiet_nil ?_
  intro w7 hw7
  have hcw := fun (i : Nat) (hi : i < n) => (hw7.cells.1 g i hgs).trans (HCL.out.2.2.2 i hi)
  have g0' : w7.cell? ⟨w.heap.size, 0, none⟩ = some (.int .i64 r) := (hw7.cells.1 _ _ hz6).trans u0
  have g1' : w7.cell? ⟨w.heap.size, 1, none⟩ = some (.int .i64 s) := (hw7.cells.1 _ _ hz6).trans u1
  have g2' : w7.cell? ⟨w.heap.size, 2, none⟩ = some (.int .i64 b) := (hw7.cells.1 _ _ hz6).trans u2
  have g3' : w7.cell? ⟨w.heap.size, 3, none⟩ = some (.int .i64 d) := (hw7.cells.1 _ _ hz6).trans u3
  have g4' : w7.cell? ⟨w.heap.size, 4, none⟩ = some (.int .i64 c) := (hw7.cells.1 _ _ hz6).trans u4
  have hne : ((n : Int) * c != (n : Int) * c) = false := by simp
  try rw [wr1]
  clear wr1
  have hw7s := hw7.size
  have h1n : ¬ (n : Int) ≤ (m : Int) := by omega
  have HCW := Lib.hid hcw
  have HW7 := Lib.hid hw7
  clear hcw u0 u1 u2 u3 u4 hw7
  go_wp2_with fail
  refine (HC.out _).mono ?_; rintro e wl ⟨rfl, hb8⟩
  have hcl := fun (i : Nat) (hi : i < n) => ((bcell hb8).1 g i (by omega)).trans (HCW.out i hi)
  have v1 := hcl m (by omega)
  rw [layL_get _ _ _ _ _ _ (by omega), ← HX.out] at v1
  have e1 : ((p : Int) != p) = false := by simp
  have e2 : ((m : Int) != (m : Int)) = false := by simp
  have BL := Lib.hid (below_next (below_next B6.out HW7.out) hb8)
  have HCLL := Lib.hid hcl
  clear hcl hb8 g0' g1' g2' g3' g4'
  go_wp2_with fail
  go_loop [130] (fun i => ∃ k : Nat, k ≤ n ∧ i = .int .i64 k ∧ ∀ j : Nat, j < k → phys way r b d (j : Nat) ≠ ph) (fun i => n - (intOf i).toNat)
  case atStart => exact ⟨0, by omega, rfl, fun j hj => by omega⟩
  case round =>
    obtain ⟨k, hk, rfl, hno⟩ := hrel
    have HNO := Lib.hid hno
    clear hno
    by_cases hlt : k < n
    · have v2 := HCLL.out k hlt
      rw [layL_get _ _ _ _ _ _ hlt] at v2
      have hkI : (k : Int) < n := by omega
      have HLT := Lib.hid hlt
      clear hlt
      generalize hy : phys way r b d (k : Nat) = y at *
      have HY2 := Lib.hid hy
      clear hy
      by_cases hxy : y = ph
      · have hb : (y == ph) = true := by simpa using hxy
        exact absurd (HY2.out.trans hxy) (HG.out k HLT.out)
      · have hb : (y == ph) = false := by simpa using hxy
        have HXY := Lib.hid hxy
        clear hxy
        go_wp2
        go_round
        case rel =>
          refine ⟨k + 1, HLT.out, by go_num, fun j hj => ?_⟩
          by_cases e : j = k
          · subst e; rw [HY2.out]; exact HXY.out
          · exact HNO.out j (by omega)
        case measure => have := HLT.out; simp [intOf]; omega
    · have hkn : k = n := by omega
      subst hkn
      have r1 : ¬ (k : Int) < k := by omega
      clear hlt
      go_wp2
      go_ret
      exact ⟨rfl, BL.out⟩

set_option maxRecDepth 100000 in
set_option maxHeartbeats 4000000 in
theorem walk_11 (r s b d c way page ph p q : Int) (n : Nat) (hi : irB r s b d c way = true) (hn : r * b * d = (n : Nat))
    (HP : ∀ w, Calls Try.prog 28 #[.agg #[.int .i64 r, .int .i64 s, .int .i64 b, .int .i64 d, .int .i64 c], .int .i64 way, .int .i64 page] w fun e w' => e = .returned (.tuple #[.int .i64 p, .int .i64 0]) ∧ Below w.heap.size w w')
    (HB : ∀ w, Calls Try.prog 33 #[.agg #[.int .i64 r, .int .i64 s, .int .i64 b, .int .i64 d, .int .i64 c], .int .i64 way, .int .i64 ph] w fun e w' => e = .returned (.tuple #[.int .i64 q, .int .i64 0]) ∧ Below w.heap.size w w')
    (HC : ∀ w, Calls Try.prog 33 #[.agg #[.int .i64 r, .int .i64 s, .int .i64 b, .int .i64 d, .int .i64 c], .int .i64 way, .int .i64 p] w fun e w' => e = .returned (.tuple #[.int .i64 page, .int .i64 0]) ∧ Below w.heap.size w w')
    (h0 : 0 ≤ page) (h1 : page < n) (hx : p = phys way r b d page) (g0 : 0 ≤ q) (g1 : q < n) (gx : phys way r b d q = ph) (w : World) : Calls Try.prog 11 #[.agg #[.int .i64 r, .int .i64 s, .int .i64 b, .int .i64 d, .int .i64 c], .int .i64 way, .int .i64 page, .int .i64 ph] w fun e w' => e = .returned (.bool true) ∧ Below w.heap.size w w' := by
  obtain ⟨hr, w0, w4⟩ := irB_yes hi
  have w5 : way ≤ 3 := by omega
  have HP := Lib.hid HP
  have HB := Lib.hid HB
  have HC := Lib.hid HC
  have HI := Lib.hid (fun w => iright_is hi w)
  have HR := Lib.hid (fun (w : World) => (show Calls Try.prog 15 #[.agg #[.int .i64 r, .int .i64 s, .int .i64 b, .int .i64 d, .int .i64 c]] w (fun e w' => e = .returned (.bool true) ∧ Below w.heap.size w w') by have := rright_any r s b d c w; rw [hr] at this; exact this))
  have hL := lines_any r s b d c
  rw [lines_right hr, hn] at hL
  have HL := Lib.hid hL
  have HY := Lib.hid (fun w => Layout_any r s b d c way n hi hn w)
  have hcn : (n : Int) * c ≤ 4096 ∧ 1 ≤ (n : Int) ∧ (n : Int) ≤ 131072 := by have := pages_right hr; rw [hn] at this; omega
  have hcb := rightB_bd hr
  have HN := Lib.hid (And.intro hn (And.intro hr hcb))
  obtain ⟨cn1, cn2, cn3⟩ := hcn
  have cn0 : 0 ≤ (n : Int) * c := Int.mul_nonneg (by omega) (by omega)
  have cb1 : 1 ≤ c := hcb.2.2.2.2.2.2.2.1
  have cb2 : c ≤ 64 := hcb.2.2.2.2.2.2.2.2
  obtain ⟨m, rfl⟩ := Int.eq_ofNat_of_zero_le h0
  have HX := Lib.hid hx
  have HG := Lib.hid gx
  clear hL hr hi w4 hn hcb hx gx
  go_enter Try.func11, Try.ntmps11
  go_wp2_with fail
  refine (anchor8_any _).mono ?_; rintro e w1 ⟨rfl, hb1⟩; obtain ⟨hc1, hf1⟩ := bcell hb1; have hs1 := hb1.size; (try simp only [World.size_alloc] at hs1); have hz1 : w.heap.size < w1.heap.size := (by omega)
  go_wp2_with fail
  refine (HP.out _).mono ?_; rintro e w2 ⟨rfl, hb2⟩; obtain ⟨hc2, hf2⟩ := bcell hb2; have hs2 := hb2.size; (try simp only [World.size_alloc] at hs2); have hz2 : w.heap.size < w2.heap.size := (by omega); have hy2 : w1.heap.size < w2.heap.size := (by omega)
  go_wp2_with fail
  refine (HB.out _).mono ?_; rintro e w3 ⟨rfl, hb3⟩; obtain ⟨hc3, hf3⟩ := bcell hb3; have hs3 := hb3.size; (try simp only [World.size_alloc] at hs3); have hz3 : w.heap.size < w3.heap.size := (by omega); have hy3 : w1.heap.size < w3.heap.size := (by omega)
  go_wp2_with fail
  refine (HR.out _).mono ?_; rintro e w4 ⟨rfl, hb4⟩; obtain ⟨hc4, hf4⟩ := bcell hb4; have hs4 := hb4.size; (try simp only [World.size_alloc] at hs4); have hz4 : w.heap.size < w4.heap.size := (by omega); have hy4 : w1.heap.size < w4.heap.size := (by omega)
  go_wp2_with fail
  refine (HI.out _).mono ?_; rintro e w5 ⟨rfl, hb5⟩; obtain ⟨hc5, hf5⟩ := bcell hb5; have hs5 := hb5.size; (try simp only [World.size_alloc] at hs5); have hz5 : w.heap.size < w5.heap.size := (by omega); have hy5 : w1.heap.size < w5.heap.size := (by omega)
  go_wp2_with fail
  refine (HY.out _).mono ?_; rintro e w6 ⟨v, rfl, hsl, hb6⟩; obtain ⟨hc6, hf6⟩ := bcell hb6; have hs6 := hb6.size; (try simp only [World.size_alloc] at hs6); have hz6 : w.heap.size < w6.heap.size := (by omega); have hy6 : w1.heap.size < w6.heap.size := (by omega)
  rcases hsl.cases with ⟨_, hnil⟩ | ⟨g, cap, rfl, hg, hgs, hlc, hcm, hcell⟩
  · have := layL_len way r b d n; rw [hnil] at this; simp at this; omega
  rw [layL_len] at hlc hcell ⊢
  have HCL := Lib.hid (And.intro hsl (And.intro hlc (And.intro hcm hcell)))
  clear hsl hlc hcm hcell
  have B6 := Lib.hid (below_next (below_next (below_next (below_next (below_two' (below_one hb1) hb2) hb3) hb4) hb5) hb6)
  have u0 : w6.cell? ⟨w.heap.size, 0, none⟩ = some (.int .i64 r) := by rw [hc6 _ _ hz5, hc5 _ _ hz4, hc4 _ _ hz3, hc3 _ _ hz2, hc2 _ _ (by simp; omega), World.cell?_alloc_lt _ _ _ hz1, hc1 _ _ (by simp)]; simp [go_sem]
  have u1 : w6.cell? ⟨w.heap.size, 1, none⟩ = some (.int .i64 s) := by rw [hc6 _ _ hz5, hc5 _ _ hz4, hc4 _ _ hz3, hc3 _ _ hz2, hc2 _ _ (by simp; omega), World.cell?_alloc_lt _ _ _ hz1, hc1 _ _ (by simp)]; simp [go_sem]
  have u2 : w6.cell? ⟨w.heap.size, 2, none⟩ = some (.int .i64 b) := by rw [hc6 _ _ hz5, hc5 _ _ hz4, hc4 _ _ hz3, hc3 _ _ hz2, hc2 _ _ (by simp; omega), World.cell?_alloc_lt _ _ _ hz1, hc1 _ _ (by simp)]; simp [go_sem]
  have u3 : w6.cell? ⟨w.heap.size, 3, none⟩ = some (.int .i64 d) := by rw [hc6 _ _ hz5, hc5 _ _ hz4, hc4 _ _ hz3, hc3 _ _ hz2, hc2 _ _ (by simp; omega), World.cell?_alloc_lt _ _ _ hz1, hc1 _ _ (by simp)]; simp [go_sem]
  have u4 : w6.cell? ⟨w.heap.size, 4, none⟩ = some (.int .i64 c) := by rw [hc6 _ _ hz5, hc5 _ _ hz4, hc4 _ _ hz3, hc3 _ _ hz2, hc2 _ _ (by simp; omega), World.cell?_alloc_lt _ _ _ hz1, hc1 _ _ (by simp)]; simp [go_sem]
  clear hc6 hf6 hc5 hf5 hc4 hf4 hc3 hf3 hc2 hf2 hc1 hf1 hb1 hb2 hb3 hb4 hb5 hb6 hz1 hz2 hz3 hz4 hz5 hy2 hy3 hy4 hy5 hs1 hs2 hs3 hs4 hs5 hs6
  go_wp2_with fail
  have wr1 : IntKind.i64.wrap ((n : Int) * c) = (n : Int) * c := IntWalk.i64_in _ ⟨by omega, by omega⟩
  refine wp_region_keeps (by kernel_rfl) (by kernel_rfl) ?_
  repeat (first
      | (with_reducible refine wpQuiet_step (fun K hK => ?_); go_simp; refine hK _ ?_; clear hK K)
      | (with_reducible refine wpQuiet_step (fun K hK => ?_); go_simp
         apply Exists.intro
         refine ⟨fun w' hw' => ?_, hK _ ?_⟩
         focus
           obtain ⟨hcq, hfq⟩ := hw'.cells
           go_simp
           first
             | rfl
             | (go_at_call 35; exact hw'.call (HL.out _))
         clear hK K)
      | (with_reducible refine wpQuiet_step (fun K hK => ?_); go_simp; with_reducible refine ite_no ?_ ?_; (exact (by decide)); refine hK _ ?_; clear hK K))
  with_reducible refine wpQuiet_nil ?_
  intro w7 hw7
  have hcw := fun (i : Nat) (hi : i < n) => (hw7.cells.1 g i hgs).trans (HCL.out.2.2.2 i hi)
  have g0' : w7.cell? ⟨w.heap.size, 0, none⟩ = some (.int .i64 r) := (hw7.cells.1 _ _ hz6).trans u0
  have g1' : w7.cell? ⟨w.heap.size, 1, none⟩ = some (.int .i64 s) := (hw7.cells.1 _ _ hz6).trans u1
  have g2' : w7.cell? ⟨w.heap.size, 2, none⟩ = some (.int .i64 b) := (hw7.cells.1 _ _ hz6).trans u2
  have g3' : w7.cell? ⟨w.heap.size, 3, none⟩ = some (.int .i64 d) := (hw7.cells.1 _ _ hz6).trans u3
  have g4' : w7.cell? ⟨w.heap.size, 4, none⟩ = some (.int .i64 c) := (hw7.cells.1 _ _ hz6).trans u4
  have hne : ((n : Int) * c != (n : Int) * c) = false := by simp
  try rw [wr1]
  clear wr1
  have hw7s := hw7.size
  have h1n : ¬ (n : Int) ≤ (m : Int) := by omega
  have HCW := Lib.hid hcw
  have HW7 := Lib.hid hw7
  clear hcw u0 u1 u2 u3 u4 hw7
  go_wp2_with fail
  refine (HC.out _).mono ?_; rintro e wl ⟨rfl, hb8⟩
  have hcl := fun (i : Nat) (hi : i < n) => ((bcell hb8).1 g i (by omega)).trans (HCW.out i hi)
  have v1 := hcl m (by omega)
  rw [layL_get _ _ _ _ _ _ (by omega), ← HX.out] at v1
  have e1 : ((p : Int) != p) = false := by simp
  have e2 : ((m : Int) != (m : Int)) = false := by simp
  have BL := Lib.hid (below_next (below_next B6.out HW7.out) hb8)
  have HCLL := Lib.hid hcl
  clear hcl hb8 g0' g1' g2' g3' g4'
  go_wp2_with fail
  go_loop [130] (fun i => ∃ k : Nat, k ≤ n ∧ i = .int .i64 k ∧ ∀ j : Nat, j < k → phys way r b d (j : Nat) ≠ ph) (fun i => n - (intOf i).toNat)
  case atStart => exact ⟨0, by omega, rfl, fun j hj => by omega⟩
  case round =>
    obtain ⟨k, hk, rfl, hno⟩ := hrel
    have HNO := Lib.hid hno
    clear hno
    by_cases hlt : k < n
    · have v2 := HCLL.out k hlt
      rw [layL_get _ _ _ _ _ _ hlt] at v2
      have hkI : (k : Int) < n := by omega
      have HLT := Lib.hid hlt
      clear hlt
      generalize hy : phys way r b d (k : Nat) = y at *
      have HY2 := Lib.hid hy
      clear hy
      by_cases hxy : y = ph
      · have hb : (y == ph) = true := by simpa using hxy
        have hqk : q = (k : Nat) := by
          have gx := HG.out
          rw [← hxy, ← HY2.out] at gx
          obtain ⟨hn, hr, _⟩ := HN.out
          exact phys_inj hr way q (k : Nat) g0 (by rw [hn]; exact g1) (by omega) (by rw [hn]; exact hkI) gx
        have hq2 : (q == (k : Int)) = true := by simpa using hqk
        clear hqk hxy
        go_wp2
        go_ret
        exact ⟨rfl, BL.out⟩
      · have hb : (y == ph) = false := by simpa using hxy
        have HXY := Lib.hid hxy
        clear hxy
        go_wp2
        go_round
        case rel =>
          refine ⟨k + 1, HLT.out, by go_num, fun j hj => ?_⟩
          by_cases e : j = k
          · subst e; rw [HY2.out]; exact HXY.out
          · exact HNO.out j (by omega)
        case measure => have := HLT.out; simp [intOf]; omega
    · have hkn : k = n := by omega
      subst hkn
      obtain ⟨j, rfl⟩ := Int.eq_ofNat_of_zero_le g0
      exact absurd HG.out (HNO.out j (by omega))


theorem walk (r s b d c way : Int) (bway : In64 way) (page : Int) (bp : In64 page) (ph : Int) (bph : In64 ph) (w : World) : Calls Try.prog 11 #[.agg #[.int .i64 r, .int .i64 s, .int .i64 b, .int .i64 d, .int .i64 c], .int .i64 way, .int .i64 page, .int .i64 ph] w fun e w' => e = .returned (.bool true) ∧ Below w.heap.size w w' := by
  cases hi : irB r s b d c way
  · exact walk_no r s b d c way page ph hi w
  have hr := (irB_yes hi).1
  obtain ⟨hp1, hp2, hp3, hp4⟩ := pages_right hr
  obtain ⟨n, hn⟩ := Int.eq_ofNat_of_zero_le (show 0 ≤ r * b * d by omega)
  have hnp : pagesB r s b d c = (n : Nat) := hp1.trans hn
  have inn : ∀ j : Int, ThePage r s b d c way j ↔ 0 ≤ j ∧ j < (n : Nat) := fun j => ⟨fun h => ⟨h.2.1, by rw [← hnp]; exact h.2.2⟩, fun h => ⟨hi, h.1, by rw [hnp]; exact h.2⟩⟩
  by_cases hb : BackOk r s b d c way ph
  · obtain ⟨hq, hx⟩ := page_ok hb
    have hB := fun w => Back_yes r s b d c way ph hb w
    by_cases hp : 0 ≤ page ∧ page < (n : Nat)
    · have ht := (inn page).2 hp
      obtain ⟨hb2, e2⟩ := ok_page ht
      have hC := fun w => Back_yes r s b d c way _ hb2 w
      rw [e2] at hC
      exact walk_11 r s b d c way page ph _ _ n hi hn (fun w => Page_yes r s b d c way page hi hp.1 (by rw [hnp]; exact hp.2) w) hB hC hp.1 hp.2 rfl ((inn _).1 hq).1 ((inn _).1 hq).2 hx w
    · exact walk_01 r s b d c way page ph 0 _ n hi hn (fun w => Page_no r s b d c way page (by by_cases h0 : page < 0; exact .inr (.inl h0); exact .inr (.inr ⟨hi, by rw [hnp]; omega⟩)) w) hB (by omega) ((inn _).1 hq).1 ((inn _).1 hq).2 hx w
  · have hB := fun w => Back_no r s b d c way ph hb w
    have hx : ∀ j : Nat, j < n → phys way r b d (j : Nat) ≠ ph := fun j hj e => hb (by rw [← e]; exact (ok_page ((inn _).2 ⟨by omega, by omega⟩)).1)
    by_cases hp : 0 ≤ page ∧ page < (n : Nat)
    · have ht := (inn page).2 hp
      obtain ⟨hb2, e2⟩ := ok_page ht
      have hC := fun w => Back_yes r s b d c way _ hb2 w
      rw [e2] at hC
      exact walk_10 r s b d c way page ph _ 0 n hi hn (fun w => Page_yes r s b d c way page hi hp.1 (by rw [hnp]; exact hp.2) w) hB hC hp.1 hp.2 rfl hx w
    · exact walk_00 r s b d c way page ph 0 0 n hi hn (fun w => Page_no r s b d c way page (by by_cases h0 : page < 0; exact .inr (.inl h0); exact .inr (.inr ⟨hi, by rw [hnp]; omega⟩)) w) hB (by omega) hx w

set_option maxRecDepth 100000 in
theorem lifted (os : Os) (started : os.Started) (H : Type) (enc : TypeId × Value → H) :
    ReturnsInHanded {} Try.checked os 11 .any (Rows.interPagesSpec.pre6 enc Try.prog Try.f11 Rows.interPagesRow.domain false) (Rows.interPagesSpec.post enc Try.prog Try.f11 false true false false) := by
  refine returnsInHanded_of_change (C := Try.checked) own started (by kernel_rfl) Try.func11
    (ChangeSpec.witness6 (enc := enc) (C := Try.checked) false ⟨#[], #[.agg #[.int .i64 0, .int .i64 0, .int .i64 0, .int .i64 0, .int .i64 0], .int .i64 0, .int .i64 0, .int .i64 0], []⟩ 8 (by kernel_rfl) (by kernel_rfl) (by kernel_rfl) (by kernel_rfl)) ?_
  intro W base args ds gs before hval0 hW hcnd _
  have hval : ∀ (j : Nat) t v, Try.f11.params[j]? = some t → args[j]? = some v → Value.okWide Try.prog W .any base t v := hval0
  have hW' := hW
  obtain ⟨p, q, hA0, hV, rfl, hfz, hnd⟩ := hW
  have hA : DataW.TrodAll enc Try.prog W 0 (fun _ => true) true Try.f11.params.toList args.toList ds p := hA0
  rw [Try.params11] at hA hval
  obtain ⟨v0, vs0, d0, ds0, p0, q0, hargs, rfl, rfl, h0, r0⟩ := trodAll_cons hA
  obtain ⟨v1, vs1, d1, ds1, p1, q1, rfl, rfl, rfl, h1, r1⟩ := trodAll_cons r0
  obtain ⟨v2, vs2, d2, ds2, p2, q2, rfl, rfl, rfl, h2, r2⟩ := trodAll_cons r1
  obtain ⟨v3, vs3, d3, ds3, p3, q3, rfl, rfl, rfl, h3, r3⟩ := trodAll_cons r2
  obtain ⟨rfl, rfl, rfl⟩ := trodAll_nil r3
  obtain rfl : args = #[v0, v1, v2, v3] := by cases args; simp_all
  obtain ⟨rfl, rfl⟩ := trodVars_none hV
  have k0 := h0
  have lt0 : ∀ x ∈ p0, x.block < W.heap.size := by obtain ⟨m, hm⟩ := k0; exact DataW.trod_lt m _ _ _ hm
  have k1 := h1
  have lt1 : ∀ x ∈ p1, x.block < W.heap.size := by obtain ⟨m, hm⟩ := k1; exact DataW.trod_lt m _ _ _ hm
  have k2 := h2
  have lt2 : ∀ x ∈ p2, x.block < W.heap.size := by obtain ⟨m, hm⟩ := k2; exact DataW.trod_lt m _ _ _ hm
  have k3 := h3
  have lt3 : ∀ x ∈ p3, x.block < W.heap.size := by obtain ⟨m, hm⟩ := k3; exact DataW.trod_lt m _ _ _ hm
  obtain ⟨g0, g1, g2, g3, g4, rfl, _, _, _, _, _⟩ := open_geom (hval 0 23 v0 rfl rfl) h0
  obtain ⟨way, rfl, bway⟩ := open_num (hval 1 3 v1 rfl rfl) h1
  obtain ⟨a, rfl, ba⟩ := open_num (hval 2 3 v2 rfl rfl) h2
  obtain ⟨b, rfl, bb⟩ := open_num (hval 3 3 v3 rfl rfl) h3
  clear hA0 hval0
  refine (walk g0 g1 g2 g3 g4 way bway a ba b bb W).mono fun e W' ⟨he, bel⟩ => ?_
  subst he
  exact ⟨_, rfl, _, _, _, [], _, [], hW', trodAll_mk1 (shut_bool Try.underlying4 _), (trodAll_cons_mk (Below.trod laidOut (by kernel_rfl) (of_decide_eq_true (by kernel_rfl)) k0 bel lt0) (trodAll_cons_mk (Below.trod laidOut (by kernel_rfl) (of_decide_eq_true (by kernel_rfl)) k1 bel lt1) (trodAll_cons_mk (Below.trod laidOut (by kernel_rfl) (of_decide_eq_true (by kernel_rfl)) k2 bel lt2) (trodAll_cons_mk (Below.trod laidOut (by kernel_rfl) (of_decide_eq_true (by kernel_rfl)) k3 bel lt3) trodAll_mk0)))), rfl, bel.frame _, fun h => by cases h⟩

theorem over : Rows.interPagesRow.holds Try.pinned (OpenSpec.ofChange Rows.interPagesSpec) :=
  OpenClaim.holds_of_wide 11 Try.f11 rfl rfl rfl rfl rfl rfl rfl ⟨rfl, rfl, rfl, rfl, rfl⟩ rfl rfl rfl rfl rfl (by kernel_rfl) Try.func11 (by kernel_rfl)
    (of_decide_eq_true (by kernel_rfl)) (by unfold Func.isWrapper; first | (rw [if_pos (by decide +kernel)]; kernel_rfl) | (rw [if_neg (by decide +kernel)]; exact ⟨rfl, rfl⟩))
    (fun os started H enc _ => lifted os started H enc)

theorem proved : Rows.InterPagesSaid := over
#print axioms proved
end ipages
end Go.Proofs.Ytjmcpeobncoinaa
