/- where pages lie: what two calls of inter.Page and the places of what they answer come to. -/
import Derived.Test.YtjmcpeobncoinaaInterB2
import Derived.Test.YtjmcpeobncoinaaPlC
import Derived.Test.YtjmcpeobncoinaaFr
namespace Go.Proofs.Ytjmcpeobncoinaa
set_option linter.unusedVariables false
open Go.ChangeShapes Go.WideShapes Go.ChangeAt Go.RowKit

theorem Page_some (r s b d c way page : Int) (w : World) :
    Calls Try.prog 28 #[.agg #[.int .i64 r, .int .i64 s, .int .i64 b, .int .i64 d, .int .i64 c], .int .i64 way, .int .i64 page] w fun e w' => ∃ x y : Int, e = .returned (.tuple #[.int .i64 x, .int .i64 y]) ∧ Below w.heap.size w w' := by
  cases hi : irB r s b d c way
  · exact (Page_no r s b d c way page (.inl hi) w).mono fun e w' ⟨he, hb⟩ => ⟨_, _, he, hb⟩
  by_cases h0 : page < 0
  · exact (Page_no r s b d c way page (.inr (.inl h0)) w).mono fun e w' ⟨he, hb⟩ => ⟨_, _, he, hb⟩
  by_cases h1 : pagesB r s b d c ≤ page
  · exact (Page_no r s b d c way page (.inr (.inr ⟨hi, h1⟩)) w).mono fun e w' ⟨he, hb⟩ => ⟨_, _, he, hb⟩
  · exact (Page_yes r s b d c way page hi (by omega) (by omega) w).mono fun e w' ⟨he, hb⟩ => ⟨_, _, he, hb⟩

/-- a page that is there -/
def ThePage (r s b d c way page : Int) : Prop := irB r s b d c way = true ∧ 0 ≤ page ∧ page < pagesB r s b d c
theorem page_or (r s b d c way page : Int) : ThePage r s b d c way page ∨ NoPage r s b d c way page := by
  cases hi : irB r s b d c way
  · exact .inr (.inl hi)
  by_cases h0 : page < 0
  · exact .inr (.inr (.inl h0))
  by_cases h1 : pagesB r s b d c ≤ page
  · exact .inr (.inr (.inr ⟨hi, h1⟩))
  · exact .inl ⟨hi, by omega, by omega⟩

/-- what is known of a page that is there: its number p, its place -/
structure Laid (r s b d c way page p rk bk rw : Int) : Prop where
  page' : ∀ w, Calls Try.prog 28 #[.agg #[.int .i64 r, .int .i64 s, .int .i64 b, .int .i64 d, .int .i64 c], .int .i64 way, .int .i64 page] w fun e w' => e = .returned (.tuple #[.int .i64 p, .int .i64 0]) ∧ Below w.heap.size w w'
  at' : ∀ w, Calls Try.prog 18 #[.agg #[.int .i64 r, .int .i64 s, .int .i64 b, .int .i64 d, .int .i64 c], .int .i64 (p * 64)] w fun e w' => e = .returned (.tuple #[.agg #[.int .i64 rk, .int .i64 bk, .int .i64 rw, .int .i64 0], .int .i64 0]) ∧ Below w.heap.size w w'
  p0 : 0 ≤ p
  p1 : p < 131072
  r0 : 0 ≤ rk
  r1 : rk < r
  b0 : 0 ≤ bk
  b1 : bk < b
  w0 : 0 ≤ rw
  w1 : rw < d

theorem laid_of {r s b d c way page : Int} (h : ThePage r s b d c way page) : Laid r s b d c way page (phys way r b d page) (pRank way r b d page) (pBank way r b d page) (pRow way r b d page) := by
  obtain ⟨hi, h0, h1⟩ := h
  have hr := (irB_yes hi).1
  obtain ⟨p1, p2, p3, p4, p5, p6, _, _⟩ := p_in hr way page h0
  obtain ⟨q1, q2⟩ := phys_in hr way page h0
  refine ⟨fun w => Page_yes r s b d c way page hi h0 h1 w, fun w => ?_, q1, q2, p1, p2, p3, p4, p5, p6⟩
  have hh := p_holds hr way page h0
  obtain ⟨h1, h2, h3, h4, h5, h6, h7, h8⟩ := holdsB_bd hh
  obtain ⟨e1, e2, e3, e4⟩ := idx_div h1 h3 h4 h5 h6 h7 h8
  have e0 : 0 ≤ idx (pRank way r b d page) (pBank way r b d page) (pRow way r b d page) 0 := by unfold idx; omega
  have := At_any r s b d c (phys way r b d page * 64) w
  rw [phys_idx] at this ⊢
  unfold atB plB at this
  rw [e1, e2, e3, e4, decide_eq_true e0, hh] at this
  exact this

namespace punlike

set_option maxHeartbeats 1000000 in
theorem no_a (r s b d c way p1 p2 : Int) (w : World) (h : NoPage r s b d c way p1) :
    Calls Try.prog 7 #[.agg #[.int .i64 r, .int .i64 s, .int .i64 b, .int .i64 d, .int .i64 c], .int .i64 way, .int .i64 p1, .int .i64 p2] w fun e w' => e = .returned (.bool true) ∧ Below w.heap.size w w' := by
  have HP := Lib.hid (Page_no r s b d c way p1 h)
  clear h
  go_enter Try.func7, Try.ntmps7
  go_wp2_with fail
  refine (anchor8_any _).mono ?_; rintro e w1 ⟨rfl, hb⟩; obtain ⟨hc, hf⟩ := bcell hb; have hz1 := size_one hb
  go_wp2_with fail
  refine (HP.out _).mono ?_; rintro e w2 ⟨rfl, hb2⟩; obtain ⟨hc2, hf2⟩ := bcell hb2; have hz2 := Nat.lt_of_lt_of_le hz1 hb2.size
  go_wp2_with fail
  refine (Page_some r s b d c way p2 _).mono ?_; rintro e w3 ⟨x, y, rfl, hb3⟩; obtain ⟨hc3, hf3⟩ := bcell hb3; have hz3 := Nat.lt_of_lt_of_le hz2 hb3.size
  go_wp2_with fail
  all_goals go_ret
  all_goals exact ⟨rfl, below_next (below_next (below_one hb) hb2) hb3⟩

set_option maxHeartbeats 1000000 in
theorem no_b (r s b d c way p1 p2 x1 r1 b1 w1 : Int) (w : World) (h1 : Laid r s b d c way p1 x1 r1 b1 w1) (h : NoPage r s b d c way p2) :
    Calls Try.prog 7 #[.agg #[.int .i64 r, .int .i64 s, .int .i64 b, .int .i64 d, .int .i64 c], .int .i64 way, .int .i64 p1, .int .i64 p2] w fun e w' => e = .returned (.bool true) ∧ Below w.heap.size w w' := by
  have HP := Lib.hid h1.page'
  have HQ := Lib.hid (Page_no r s b d c way p2 h)
  clear h h1
  go_enter Try.func7, Try.ntmps7
  go_wp2_with fail
  refine (anchor8_any _).mono ?_; rintro e w1 ⟨rfl, hb⟩; obtain ⟨hc, hf⟩ := bcell hb; have hz1 := size_one hb
  go_wp2_with fail
  refine (HP.out _).mono ?_; rintro e w2 ⟨rfl, hb2⟩; obtain ⟨hc2, hf2⟩ := bcell hb2; have hz2 := Nat.lt_of_lt_of_le hz1 hb2.size
  go_wp2_with fail
  refine (HQ.out _).mono ?_; rintro e w3 ⟨rfl, hb3⟩; obtain ⟨hc3, hf3⟩ := bcell hb3; have hz3 := Nat.lt_of_lt_of_le hz2 hb3.size
  go_wp2_with fail
  all_goals go_ret
  all_goals exact ⟨rfl, below_next (below_next (below_one hb) hb2) hb3⟩

set_option maxHeartbeats 1000000 in
theorem same_page (r s b d c way p1 x1 r1 b1 w1 : Int) (w : World) (h1 : Laid r s b d c way p1 x1 r1 b1 w1) :
    Calls Try.prog 7 #[.agg #[.int .i64 r, .int .i64 s, .int .i64 b, .int .i64 d, .int .i64 c], .int .i64 way, .int .i64 p1, .int .i64 p1] w fun e w' => e = .returned (.bool true) ∧ Below w.heap.size w w' := by
  have HP := Lib.hid h1.page'
  have HQ := Lib.hid h1.page'
  have HA := Lib.hid h1.at'
  obtain ⟨_, _, g0, g1, g2, g3, _, _, _, _⟩ := h1
  go_enter Try.func7, Try.ntmps7
  go_wp2_with fail
  refine (anchor8_any _).mono ?_; rintro e w1 ⟨rfl, hb⟩; obtain ⟨hc, hf⟩ := bcell hb; have hz1 := size_one hb
  go_wp2_with fail
  refine (HP.out _).mono ?_; rintro e w2 ⟨rfl, hb2⟩; obtain ⟨hc2, hf2⟩ := bcell hb2; have hz2 := Nat.lt_of_lt_of_le hz1 hb2.size
  go_wp2_with fail
  refine (HQ.out _).mono ?_; rintro e w3 ⟨rfl, hb3⟩; obtain ⟨hc3, hf3⟩ := bcell hb3; have hz3 := Nat.lt_of_lt_of_le hz2 hb3.size
  go_wp2_with fail
  refine (HA.out _).mono ?_; rintro e w4 ⟨rfl, hb4⟩; obtain ⟨hc4, hf4⟩ := bcell hb4; have hz4 := Nat.lt_of_lt_of_le hz3 hb4.size
  go_wp2_with fail
  all_goals go_ret
  all_goals exact ⟨rfl, (below_next (below_next (below_next (below_one hb) hb2) hb3) hb4).alloc (Nat.le_of_lt hz4) _⟩

set_option maxHeartbeats 1000000 in
theorem two_pages (r s b d c way p1 p2 x1 r1 b1 w1 x2 r2 b2 w2 : Int) (w : World) (h1 : Laid r s b d c way p1 x1 r1 b1 w1) (h2 : Laid r s b d c way p2 x2 r2 b2 w2) (hne : p1 ≠ p2) (hxe : x1 ≠ x2) :
    Calls Try.prog 7 #[.agg #[.int .i64 r, .int .i64 s, .int .i64 b, .int .i64 d, .int .i64 c], .int .i64 way, .int .i64 p1, .int .i64 p2] w fun e w' => e = .returned (.bool true) ∧ Below w.heap.size w w' := by
  have HP := Lib.hid h1.page'
  have HQ := Lib.hid h2.page'
  have HA := Lib.hid h1.at'
  obtain ⟨_, _, g0, g1, g2, g3, _, _, _, _⟩ := h1
  have n1 : ((x1 : Int) == x2) = false := by simpa using hxe
  have n2 : ((p1 : Int) == p2) = false := by simpa using hne
  clear h2 hne hxe 
  go_enter Try.func7, Try.ntmps7
  go_wp2_with fail
  refine (anchor8_any _).mono ?_; rintro e w1 ⟨rfl, hb⟩; obtain ⟨hc, hf⟩ := bcell hb; have hz1 := size_one hb
  go_wp2_with fail
  refine (HP.out _).mono ?_; rintro e w2 ⟨rfl, hb2⟩; obtain ⟨hc2, hf2⟩ := bcell hb2; have hz2 := Nat.lt_of_lt_of_le hz1 hb2.size
  go_wp2_with fail
  refine (HQ.out _).mono ?_; rintro e w3 ⟨rfl, hb3⟩; obtain ⟨hc3, hf3⟩ := bcell hb3; have hz3 := Nat.lt_of_lt_of_le hz2 hb3.size
  go_wp2_with fail
  refine (HA.out _).mono ?_; rintro e w4 ⟨rfl, hb4⟩; obtain ⟨hc4, hf4⟩ := bcell hb4; have hz4 := Nat.lt_of_lt_of_le hz3 hb4.size
  go_wp2_with fail
  all_goals go_ret
  all_goals exact ⟨rfl, (below_next (below_next (below_next (below_one hb) hb2) hb3) hb4).alloc (Nat.le_of_lt hz4) _⟩

theorem walk (r s b d c way : Int) (bway : In64 way) (p1 : Int) (bp1 : In64 p1) (p2 : Int) (bp2 : In64 p2) (w : World) :
    Calls Try.prog 7 #[.agg #[.int .i64 r, .int .i64 s, .int .i64 b, .int .i64 d, .int .i64 c], .int .i64 way, .int .i64 p1, .int .i64 p2] w fun e w' => e = .returned (.bool true) ∧ Below w.heap.size w w' := by
  rcases page_or r s b d c way p1 with h1 | h1
  rotate_left
  · exact no_a r s b d c way p1 p2 w h1
  rcases page_or r s b d c way p2 with h2 | h2
  rotate_left
  · exact no_b r s b d c way p1 p2 _ _ _ _ w (laid_of h1) h2
  by_cases he : p1 = p2
  · subst he
    exact same_page r s b d c way p1 _ _ _ _ w (laid_of h1)
  · refine two_pages r s b d c way p1 p2 _ _ _ _ _ _ _ _ w (laid_of h1) (laid_of h2) he fun e => he ?_
    have hr := (irB_yes h1.1).1
    have hp := (pages_right hr).1
    have g1 := h1.2.2
    have g2 := h2.2.2
    rw [hp] at g1 g2
    exact phys_inj hr way p1 p2 h1.2.1 g1 h2.2.1 g2 e

set_option maxRecDepth 100000 in
theorem lifted (os : Os) (started : os.Started) (H : Type) (enc : TypeId × Value → H) :
    ReturnsInHanded {} Try.checked os 7 .any (Rows.interUnlikeSpec.pre6 enc Try.prog Try.f7 Rows.interUnlikeRow.domain false) (Rows.interUnlikeSpec.post enc Try.prog Try.f7 false true false false) := by
  refine returnsInHanded_of_change (C := Try.checked) own started (by kernel_rfl) Try.func7
    (ChangeSpec.witness6 (enc := enc) (C := Try.checked) false ⟨#[], #[.agg #[.int .i64 0, .int .i64 0, .int .i64 0, .int .i64 0, .int .i64 0], .int .i64 0, .int .i64 0, .int .i64 0], []⟩ 8 (by kernel_rfl) (by kernel_rfl) (by kernel_rfl) (by kernel_rfl)) ?_
  intro W base args ds gs before hval0 hW hcnd _
  have hval : ∀ (j : Nat) t v, Try.f7.params[j]? = some t → args[j]? = some v → Value.okWide Try.prog W .any base t v := hval0
  have hW' := hW
  obtain ⟨p, q, hA0, hV, rfl, hfz, hnd⟩ := hW
  have hA : DataW.TrodAll enc Try.prog W 0 (fun _ => true) true Try.f7.params.toList args.toList ds p := hA0
  rw [Try.params7] at hA hval
  obtain ⟨v0, vs0, d0, ds0, p0, q0, hargs, rfl, rfl, h0, r0⟩ := trodAll_cons hA
  obtain ⟨v1, vs1, d1, ds1, p1, q1, rfl, rfl, rfl, h1, r1⟩ := trodAll_cons r0
  obtain ⟨v2, vs2, d2, ds2, p2, q2, rfl, rfl, rfl, h2, r2⟩ := trodAll_cons r1
  obtain ⟨v3, vs3, d3, ds3, p3, q3, rfl, rfl, rfl, h3, r3⟩ := trodAll_cons r2
  obtain ⟨rfl, rfl, rfl⟩ := trodAll_nil r3
  obtain rfl : args = #[v0, v1, v2, v3] := by cases args; simp_all
  obtain ⟨rfl, rfl⟩ := trodVars_none hV
  have k0 := h0
  have lt0 : ∀ x ∈ p0, x.block < W.heap.size := by obtain ⟨m, hm⟩ := k0; exact DataW.trod_lt m _ _ _ hm
  have k1 := h1
  have lt1 : ∀ x ∈ p1, x.block < W.heap.size := by obtain ⟨m, hm⟩ := k1; exact DataW.trod_lt m _ _ _ hm
  have k2 := h2
  have lt2 : ∀ x ∈ p2, x.block < W.heap.size := by obtain ⟨m, hm⟩ := k2; exact DataW.trod_lt m _ _ _ hm
  have k3 := h3
  have lt3 : ∀ x ∈ p3, x.block < W.heap.size := by obtain ⟨m, hm⟩ := k3; exact DataW.trod_lt m _ _ _ hm
  obtain ⟨g0, g1, g2, g3, g4, rfl, _, _, _, _, _⟩ := open_geom (hval 0 23 v0 rfl rfl) h0
  obtain ⟨way, rfl, bway⟩ := open_num (hval 1 3 v1 rfl rfl) h1
  obtain ⟨a, rfl, ba⟩ := open_num (hval 2 3 v2 rfl rfl) h2
  obtain ⟨b, rfl, bb⟩ := open_num (hval 3 3 v3 rfl rfl) h3
  clear hA0 hval0
  refine (walk g0 g1 g2 g3 g4 way bway a ba b bb W).mono fun e W' ⟨he, bel⟩ => ?_
  subst he
  exact ⟨_, rfl, _, _, _, [], _, [], hW', trodAll_mk1 (shut_bool Try.underlying4 _), (trodAll_cons_mk (Below.trod laidOut (by kernel_rfl) (of_decide_eq_true (by kernel_rfl)) k0 bel lt0) (trodAll_cons_mk (Below.trod laidOut (by kernel_rfl) (of_decide_eq_true (by kernel_rfl)) k1 bel lt1) (trodAll_cons_mk (Below.trod laidOut (by kernel_rfl) (of_decide_eq_true (by kernel_rfl)) k2 bel lt2) (trodAll_cons_mk (Below.trod laidOut (by kernel_rfl) (of_decide_eq_true (by kernel_rfl)) k3 bel lt3) trodAll_mk0)))), rfl, bel.frame _, fun h => by cases h⟩

theorem over : Rows.interUnlikeRow.holds Try.pinned (OpenSpec.ofChange Rows.interUnlikeSpec) :=
  OpenClaim.holds_of_wide 7 Try.f7 rfl rfl rfl rfl rfl rfl rfl ⟨rfl, rfl, rfl, rfl, rfl⟩ rfl rfl rfl rfl rfl (by kernel_rfl) Try.func7 (by kernel_rfl)
    (of_decide_eq_true (by kernel_rfl)) (by unfold Func.isWrapper; first | (rw [if_pos (by decide +kernel)]; kernel_rfl) | (rw [if_neg (by decide +kernel)]; exact ⟨rfl, rfl⟩))
    (fun os started H enc _ => lifted os started H enc)

theorem proved : Rows.InterUnlikeSaid := over
#print axioms proved
end punlike
end Go.Proofs.Ytjmcpeobncoinaa
