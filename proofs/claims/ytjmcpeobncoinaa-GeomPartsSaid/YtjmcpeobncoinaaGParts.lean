/- Ranks and pages part the indices of any geometry: each is of just one rank, and one page; there are as many as ranks, and pages, times what each has. No condition. -/
import Derived.Test.YtjmcpeobncoinaaPlP
import Derived.Test.YtjmcpeobncoinaaFr
namespace Go.Proofs.Ytjmcpeobncoinaa
set_option linter.unusedVariables false
open Go.ChangeShapes Go.WideShapes Go.ChangeAt Go.RowKit Go.Shelf
attribute [local go_sem] Oper.semAt_some
namespace gparts

/-- the geometry, the result's cell, the count of all -/
def Fa (w : World) (r s b d c : Int) (A : Nat) (al : Int) (W : World) : Prop :=
  W.heap[w.heap.size]? = some (.cells #[.int .i64 r, .int .i64 s, .int .i64 b, .int .i64 d, .int .i64 c] 23 (0, 0)) ∧ W.heap[w.heap.size + 1]? = some (.cells #[.bool false] 4 (0, 0)) ∧ W.heap[A]? = some (.cells #[.int .i64 al] 3 (0, 0)) ∧ Below w.heap.size w W
theorem Fa.chg {w : World} {r s b d c al : Int} {A : Nat} {cw : Nat → Prop} {X Y : World} (h : Fa w r s b d c A al X) (hA : w.heap.size + 1 < A) (hc : Chg cw X Y) (h0 : ∀ i, cw i → w.heap.size + 1 < i ∧ i ≠ A) : Fa w r s b d c A al Y := by
  obtain ⟨h1, h2, h3, h6⟩ := h
  exact ⟨chg_at hc h1 (fun h => by have := h0 _ h; omega), chg_at hc h2 (fun h => by have := h0 _ h; omega), chg_at hc h3 (fun h => by have := h0 _ h; omega), h6.trans (hc.below h6.size (fun i h => by have := h0 _ h; omega))⟩
theorem Fa.keeps {w : World} {r s b d c al : Int} {A : Nat} {X Y : World} (h : Fa w r s b d c A al X) (hA : w.heap.size + 1 < A) (hk : Keeps X Y) : Fa w r s b d c A al Y := h.chg hA (Chg.of_below hk (fun _ => False)) (fun _ h => h.elim)
theorem set_chg {cw : Nat → Prop} (W : World) (C : Nat) (u : Value) (h : cw C) : Chg cw W (W.setCell ⟨C, 0, none⟩ u) := Chg.setCell (Chg.refl _ _) (p := ⟨C, 0, none⟩) (.inl h) u
theorem finish10 (T : Array Value) (ds : List Deferred) (w w9 : World) (hT : T.getD 2 undef = .pointer (some ⟨w.heap.size + 1, 0, none⟩)) (g9 : w9.heap[w.heap.size + 1]? = some (.cells #[.bool true] 4 (0, 0))) (hd : Dfs w.heap.size w9 ds) (hB : Below w.heap.size w w9) :
    bodyPostM Fence.wide 9 Try.prog Try.f10 (fun e w' => e = .returned (.bool true) ∧ Below w.heap.size w w') .ret { tmps := T, defers := ds } w9 := by
  refine leaves_dfs ds w9 hd (fun w' hc hk => ?_)
  have g3 := hk _ _ g9 (fun s h => by cases h)
  have c3 := cell_of_row w' (w.heap.size + 1) 0 _ 4 (0, 0) g3
  simp only [List.getElem?_toArray, List.getElem?_cons_zero] at c3
  have hT' : T[2]?.getD undef = .pointer (some ⟨w.heap.size + 1, 0, none⟩) := by simpa using hT
  refine ⟨.bool true, ?_, rfl, hB.trans (hc.below hB.size (fun i h => h))⟩
  simp [results, Try.results10, go_sem, hT', c3]

set_option maxRecDepth 100000 in
set_option maxHeartbeats 4000000 in
theorem walk_right (r s b d c : Int) (hrt : rightB r s b d c = true) (bc : In64 c) (hsz : (r + s) * b * d * c ≤ 600) (w : World) : Calls Try.prog 10 #[.agg #[.int .i64 r, .int .i64 s, .int .i64 b, .int .i64 d, .int .i64 c]] w fun e w' => e = .returned (.bool true) ∧ Below w.heap.size w w' := by
  have HR := Lib.hid (fun (w : World) => (show Calls Try.prog 15 #[.agg #[.int .i64 r, .int .i64 s, .int .i64 b, .int .i64 d, .int .i64 c]] w (fun e w' => e = .returned (.bool true) ∧ Below w.heap.size w w') by have := rright_any r s b d c w; rw [hrt] at this; exact this))
  have hp := rightB_yes hrt
  obtain ⟨_, _, _, _, _, _, _, _, ⟨p1, p2⟩, ⟨p3, p4⟩, ⟨p5, p6⟩⟩ := prod_in hp.1 hp.2.1 hp.2.2.1 hp.2.2.2.1 hp.2.2.2.2.1 hp.2.2.2.2.2.1
  have hrs := rightB_bd hrt
  clear hp hrt
  refine (callsIn_wide (n := 9)).1 ?_
  refine callsIn_of_wp_marks Try.func10 rfl trivial ?_
  simp only [Try.ntmps10, List.size_toArray, List.length_cons, List.length_nil, Nat.reduceAdd, Nat.reduceSub, Array.replicate_succ, Array.replicate_zero, List.push_toArray, List.append_toArray, List.nil_append, List.cons_append]
  gi_wp2_with fail
  refine ⟨trivial, ?_⟩
  refine ((callsIn_wide (n := 8)).2 (anchor_any _)).mono ?_
  rintro e w1 ⟨rfl, hb1⟩
  have h1 : w1.heap[w.heap.size]? = some (.cells #[.int .i64 r, .int .i64 s, .int .i64 b, .int .i64 d, .int .i64 c] 23 (0, 0)) ∧ w1.heap[w.heap.size + 1]? = some (.cells #[.bool false] 4 (0, 0)) ∧ Below w.heap.size w w1 := by
    have kk : Keeps w ((w.alloc (.cells #[.int .i64 r, .int .i64 s, .int .i64 b, .int .i64 d, .int .i64 c] 23)).alloc (.cells #[.bool false] 4)) := ((Below.refl _ _).alloc (Nat.le_refl _) _).alloc (by simp) _
    refine ⟨old_at hb1 ?_, old_at hb1 (han _ _ _ (by simp)), Keeps.next kk hb1⟩
    rw [hao _ _ _ (by simp)]; exact han _ _ _ rfl
  clear hb1
  have g0 := cell_of_row w1 w.heap.size 0 _ 23 (0, 0) h1.1
  have g1 := cell_of_row w1 w.heap.size 1 _ 23 (0, 0) h1.1
  have g2 := cell_of_row w1 w.heap.size 2 _ 23 (0, 0) h1.1
  have g3 := cell_of_row w1 w.heap.size 3 _ 23 (0, 0) h1.1
  have g4 := cell_of_row w1 w.heap.size 4 _ 23 (0, 0) h1.1
  simp at g0 g1 g2 g3 g4
  have z1 := at_lt h1.2.1
  have z0 : w.heap.size < w1.heap.size := by omega
  gi_wp2_with fail
  refine ⟨trivial, ?_⟩
  refine ((callsIn_wide (n := 8)).2 (HR.out _)).mono ?_
  rintro e w2 ⟨rfl, hb2⟩
  have h2 : w2.heap[w.heap.size]? = some (.cells #[.int .i64 r, .int .i64 s, .int .i64 b, .int .i64 d, .int .i64 c] 23 (0, 0)) ∧ w2.heap[w.heap.size + 1]? = some (.cells #[.bool false] 4 (0, 0)) ∧ Below w.heap.size w w2 := ⟨old_at hb2 h1.1, old_at hb2 h1.2.1, Keeps.next h1.2.2 hb2⟩
  clear hb2 h1 g0 g1 g2 g3 g4 z0 z1
  have g0 := cell_of_row w2 w.heap.size 0 _ 23 (0, 0) h2.1
  have g1 := cell_of_row w2 w.heap.size 1 _ 23 (0, 0) h2.1
  have g2 := cell_of_row w2 w.heap.size 2 _ 23 (0, 0) h2.1
  have g3 := cell_of_row w2 w.heap.size 3 _ 23 (0, 0) h2.1
  have g4 := cell_of_row w2 w.heap.size 4 _ 23 (0, 0) h2.1
  simp at g0 g1 g2 g3 g4
  have z1 := at_lt h2.2.1
  have z0 : w.heap.size < w2.heap.size := by omega
  have z4 : w.heap.size < w2.heap.size + 1 := by omega
  have H2 := Lib.hid h2
  clear h2
  gi_wp2_with fail
  refine ⟨trivial, ?_⟩
  refine ((callsIn_wide (n := 8)).2 (AllI_any r s b d c _)).mono ?_
  rintro e w3 ⟨rfl, hw3⟩
  obtain ⟨h2a, h2b, h2c⟩ := H2.out
  obtain ⟨A, hA⟩ : ∃ A, A = w2.heap.size := ⟨_, rfl⟩
  have kk3 : Keeps w2 w3 := by rw [hw3]; exact ((Below.refl _ _).alloc (Nat.le_refl _) _).alloc (by simp) _
  have hBA : w.heap.size + 1 < A := by rw [hA]; exact z1
  have F3 : Fa w r s b d c A 0 w3 := ⟨old_at kk3 h2a, old_at kk3 h2b, by rw [hw3, hA, hao _ _ _ (by simp)]; exact han _ _ _ rfl, Keeps.next h2c kk3⟩
  have P1 : w3.heap[A + 1]? = some (.cells #[.int .i64 r, .int .i64 s, .int .i64 b, .int .i64 d, .int .i64 c] 23 (0, 0)) := by rw [hw3, hA]; exact han _ _ _ (by simp)
  have hs3 : w3.heap.size = A + 1 + 1 := by rw [hw3, hA]; simp
  have HX := Lib.hid (And.intro F3 (And.intro P1 (And.intro hs3 hBA)))
  simp only [World.size_alloc]
  rw [← hA]
  clear kk3 hw3 hA F3 P1 hs3 hBA h2a h2b h2c g0 g1 g2 g3 g4 z0 z1 z4
  gi_wp2_with fail
  obtain ⟨F3, P1, hs3, hBA⟩ := HX.out
  refine wpIn_rangeFunc_it3w 9 9 (gf := 46) (lb := #[.pointer (some ⟨A + 1, 0, none⟩)]) rfl (enters_of Try.func46 (by kernel_rfl) rfl) (oneV (allL r s b d c)) (fun i => i = A + 1) (fun _ => False) (fun i e => by rw [hs3]; omega) (fun i e => e.elim)
    (fun W1 hW1 => all_call _ r s b d c W1 (old_at hW1 P1))
    (fun k v hv => by obtain ⟨_, rfl⟩ := oneV_get _ k v hv; rfl)
    (fun i => i = A) (fun i hi => by rw [hs3]; omega)
    (fun j W => Fa w r s b d c A (j : Nat) W)
    (fun _ _ => False)
    (fun j X Y h hc => h.chg hBA hc (fun i hi => by rw [hs3] at hi; rcases hi with hi | hi; exact hi.elim; omega)) (fun _ _ _ h _ => h) F3 ?round1 ?done1 (fun _ _ _ _ h _ => h.elim)
  case round1 =>
    intro l2 j x W hx hl2 hW hi
    obtain ⟨hk, rfl⟩ := oneV_get _ j x hx
    have hle := allL_le' r s b d c
    have hjI : (j : Int) < 8388608 := by omega
    clear hk hx hle
    gi_wp2_with fail
    refine ⟨Chg.refl _ _, hi, fun W2 hc2 hr2 hi2 => ?_⟩
    clear hi hr2
    have m1 := cell_of_row W2 A 0 _ 3 (0, 0) hi2.2.2.1
    have m2 := frozen_of_row W2 A 0 _ 3 hi2.2.2.1
    simp at m1
    have HI := Lib.hid hi2
    clear hi2 F3
    gi_wp2_with fail
    have hc := set_chg (cw := fun i => i = A) W2 A (.int .i64 ((j : Int) + 1)) rfl
    obtain ⟨q1, q2, q3, q4⟩ := HI.out
    refine ⟨hc, ?_⟩
    refine ⟨chg_at hc q1 (by omega), chg_at hc q2 (by omega), ?_, q4.trans (hc.below q4.size (fun i h => by omega))⟩
    rw [heap_setCell_same W2 A 0 _ _ _ q3, Int.natCast_add]; rfl
  case done1 =>
    rintro D1 U hD1 hF hK
    rw [oneV_len] at hF
    obtain ⟨al, hal⟩ : ∃ al, al = (allL r s b d c).length := ⟨_, rfl⟩
    rw [← hal] at hF
    have HAL := Lib.hid hal
    have zA := at_lt hF.2.2.1
    have hd0 : Dfs w.heap.size U [mk1 D1] := ⟨D1, rfl, by omega, hK, by simp, trivial⟩
    have HY := Lib.hid (And.intro hF (And.intro hd0 hBA))
    clear hF hK hal HX F3 P1 hs3 hd0 hD1
    gi_wp2_with fail
    obtain ⟨Pg, hPg⟩ : ∃ Pg, Pg = U.heap.size := ⟨_, rfl⟩
    obtain ⟨hF, hd0, hBA⟩ := HY.out
    have kU : Keeps U (U.alloc (.cells #[.int .i64 0] 3)) := (Below.refl _ _).alloc (Nat.le_refl _) _
    have hFU := hF.keeps hBA kU
    have hdU := hd0.chg (Chg.of_below kU (fun _ => False)) (fun _ h => h.elim)
    have hPU : (U.alloc (.cells #[.int .i64 0] 3)).heap[Pg]? = some (.cells #[.int .i64 0] 3 (0, 0)) := han _ _ _ hPg
    have hAP : A < Pg := by rw [hPg]; exact zA
    rw [← hPg]
    generalize U.alloc (.cells #[.int .i64 0] 3) = U0 at *
    have HZ := Lib.hid (And.intro hBA hAP)
    clear hF hd0 HY kU hPg zA
    refine wpIn_loop (fun a' w' => ∃ (k : Nat) (u6 u7 u37 u38 u39 u40 u41 u64 u65 u66 u67 u68 u69 u70 u71 u72 u73 u74 u75 : Value) (ds : List Deferred), k ≤ 8 ∧ Fa w r s b d c A (al : Nat) w' ∧ w'.heap[Pg]? = some (.cells #[.int .i64 (((min k (rkN r s b d c) * perN b d c : Nat) : Int))] 3 (0, 0)) ∧ Dfs w.heap.size w' ds ∧ a' = { tmps := #[.agg #[.int .i64 r, .int .i64 s, .int .i64 b, .int .i64 d, .int .i64 c], .pointer (some ⟨w.heap.size, 0, none⟩), .pointer (some ⟨w.heap.size + 1, 0, none⟩), .pointer (some ⟨A, 0, none⟩), .int .i64 (((min k (rkN r s b d c) * perN b d c : Nat) : Int)), .pointer (some ⟨Pg, 0, none⟩), u6, u7, undef, undef, .bool true, .bool false, .agg #[.int .i64 r, .int .i64 s, .int .i64 b, .int .i64 d, .int .i64 c], .bool true, .bool true, .pointer (some ⟨w.heap.size, 0, none⟩), .int .i64 r, .pointer (some ⟨w.heap.size, 1, none⟩), .int .i64 s, .int .i64 (r + s), .pointer (some ⟨w.heap.size, 2, none⟩), .int .i64 b, .int .i64 ((r + s) * b), .pointer (some ⟨w.heap.size, 3, none⟩), .int .i64 d, .int .i64 ((r + s) * b * d), .pointer (some ⟨w.heap.size, 4, none⟩), .int .i64 c, .int .i64 ((r + s) * b * d * c), .bool (decide (600 < (r + s) * b * d * c)), .bool (decide (600 < (r + s) * b * d * c)), .agg #[.int .i64 r, .int .i64 s, .int .i64 b, .int .i64 d, .int .i64 c], .func (.func 46) #[] #[.pointer (some ⟨A + 1, 0, none⟩)], undef, undef, undef, .int .i64 ((k : Nat) : Int), u37, u38, u39, u40, u41, undef, undef, undef, undef, undef, undef, undef, undef, undef, undef, undef, undef, undef, undef, undef, undef, undef, undef, undef, undef, undef, undef, u64, u65, u66, u67, u68, u69, u70, u71, u72, u73, u74, u75, undef, undef, undef, undef, undef, undef, undef, undef], defers := ds }) (fun a' _ => 8 - (intOf (a'.tmps.getD 36 undef)).toNat) ?start ?round
    case start => 
      refine ⟨0, ?_⟩
      rw [Nat.zero_min, Nat.zero_mul]
      exact ⟨_, _, _, _, _, _, _, _, _, _, _, _, _, _, _, _, _, _, _, [mk1 D1], by omega, hFU, hPU, hdU, rfl⟩
    case round =>
      rintro a' w' ⟨k, u6, u7, u37, u38, u39, u40, u41, u64, u65, u66, u67, u68, u69, u70, u71, u72, u73, u74, u75, ds, hk, hF, hP, hd, rfl⟩
      clear hFU hdU hPU
      have hle := sum_le r s b d c k
      obtain ⟨p0, hp0⟩ : ∃ p0, p0 = min k (rkN r s b d c) * perN b d c := ⟨_, rfl⟩
      rw [← hp0] at hP hle ⊢
      have HP0 := Lib.hid hp0
      clear hp0
      have HLE := Lib.hid hle
      have HT := Lib.hid (And.intro hF (And.intro hP hd))
      have g0 := cell_of_row w' w.heap.size 0 _ 23 (0, 0) hF.1
      have g1 := cell_of_row w' w.heap.size 1 _ 23 (0, 0) hF.1
      have g2 := cell_of_row w' w.heap.size 2 _ 23 (0, 0) hF.1
      have g3 := cell_of_row w' w.heap.size 3 _ 23 (0, 0) hF.1
      have g4 := cell_of_row w' w.heap.size 4 _ 23 (0, 0) hF.1
      simp at g0 g1 g2 g3 g4
      have zB := at_lt hF.1
      by_cases hlt : k < 8
      · have hk8 : (k : Int) < 8 := by omega
        have y0 : w.heap.size < w'.heap.size + 1 := by omega
        have y1 : w.heap.size < w'.heap.size + 1 + 1 := by omega
        have HLT := Lib.hid hlt
        have q1 := cell_of_row w' Pg 0 _ 3 (0, 0) hP
        simp at q1
        clear hF hP hd hlt hk
        gi_wp2_with fail
        refine ⟨trivial, ?_⟩
        refine ((callsIn_wide (n := 8)).2 (Rank_any _ _ _ _ _ _ _)).mono ?_
        rintro e w4 ⟨rfl, hw4⟩
        obtain ⟨S, hS⟩ : ∃ S, S = w'.heap.size := ⟨_, rfl⟩
        obtain ⟨hF, hP, hd⟩ := HT.out
        have kk4 : Keeps w' w4 := by rw [hw4]; exact ((((Below.refl _ _).alloc (Nat.le_refl _) _).alloc (by simp) _).alloc (by simp; omega) _).alloc (by simp; omega) _
        have hs4 : w4.heap.size = S + 1 + 1 + 1 + 1 := by rw [hw4, hS]; simp
        have R0 : w4.heap[S]? = some (.cells #[.int .i64 (k : Nat)] 3 (0, 0)) := by rw [hw4, hS, hao _ _ _ (by first | rfl | (simp; done) | (simp; omega)), hao _ _ _ (by first | rfl | (simp; done) | (simp; omega)), hao _ _ _ (by first | rfl | (simp; done) | (simp; omega))]; exact han _ _ _ (by first | rfl | (simp; done) | (simp; omega))
        have R1 : w4.heap[S + 1]? = some (.cells #[.int .i64 0] 3 (0, 0)) := by rw [hw4, hS, hao _ _ _ (by first | rfl | (simp; done) | (simp; omega)), hao _ _ _ (by first | rfl | (simp; done) | (simp; omega))]; exact han _ _ _ (by first | rfl | (simp; done) | (simp; omega))
        have R2 : w4.heap[S + 1 + 1]? = some (.cells #[.int .i64 r, .int .i64 s, .int .i64 b, .int .i64 d, .int .i64 c] 23 (0, 0)) := by rw [hw4, hS, hao _ _ _ (by first | rfl | (simp; done) | (simp; omega))]; exact han _ _ _ (by first | rfl | (simp; done) | (simp; omega))
        have R3 : w4.heap[S + 1 + 1 + 1]? = some (.cells #[.int .i64 (k : Nat)] 3 (0, 0)) := by rw [hw4, hS]; exact han _ _ _ (by first | rfl | (simp; done) | (simp; omega))
        have zS : Pg < S := by rw [hS]; exact at_lt hP
        have F4 := hF.keeps HZ.out.1 kk4
        have d4 := hd.chg (Chg.of_below kk4 (fun _ => False)) (fun _ h => h.elim)
        have HX := Lib.hid (And.intro F4 (And.intro (old_at kk4 hP) (And.intro d4 (And.intro R0 (And.intro R1 (And.intro R2 (And.intro R3 (And.intro hs4 zS))))))))
        simp only [World.size_alloc]
        rw [← hS]
        clear kk4 hs4 R0 R1 R2 R3 zS F4 d4 hF hP hd hw4 hS g0 g1 g2 g3 g4 zB y0 y1 q1
        gi_wp2_with fail
        obtain ⟨F4, P4, d4, R0, R1, R2, R3, hs4, zS⟩ := HX.out
        have hcn := rank_elem r s b d c k
        have HE := Lib.hid hcn
        obtain ⟨hBA, hAP⟩ := HZ.out
        have hkz := HLT.out
        have hdd : True := trivial
        refine wpIn_rangeFunc_itKw 9 9 (gf := 44) (lb := #[.pointer (some ⟨S + 1 + 1, 0, none⟩), .pointer (some ⟨S + 1 + 1 + 1, 0, none⟩)]) rfl (enters_of Try.func44 (by kernel_rfl) rfl) (oneV (rankL r s b d c (k : Nat))) (fun i => i = S + 1 + 1 ∨ i = S + 1 + 1 + 1) (fun i e => by rw [hs4]; omega)
          (fun W1 hW1 => rank_call _ _ r s b d c (k : Nat) W1 (old_at hW1 R2) (old_at hW1 R3))
          (fun k v hv => by obtain ⟨_, rfl⟩ := oneV_get _ k v hv; rfl)
          (fun i => i = S + 1 ∨ i = Pg) (fun i hi => by rw [hs4]; omega)
          (fun t W => Fa w r s b d c A (al : Nat) W ∧ W.heap[Pg]? = some (.cells #[.int .i64 ((p0 + pgc c.toNat t : Nat))] 3 (0, 0)) ∧ W.heap[S + 1]? = some (.cells #[.int .i64 (t : Nat)] 3 (0, 0)) ∧ W.heap[S]? = some (.cells #[.int .i64 (k : Nat)] 3 (0, 0)) ∧ Dfs w.heap.size W ds)
          (fun _ _ => False)
          (fun t X Y h hc => ?keep2) (fun _ _ _ h _ => h) ⟨F4, by rw [pgc_zero]; exact P4, R1, R0, d4⟩ ?round2 ?done2 (fun _ _ _ h _ => h.elim)
        case keep2 =>
          rw [hs4] at hc
          obtain ⟨f1, f2, f3, f4, f5⟩ := h
          have hdl := d4.lt
          rw [hs4] at hdl
          exact ⟨f1.chg hBA hc (fun i hi => by omega), chg_at hc f2 (by omega), chg_at hc f3 (by omega), chg_at hc f4 (by omega), f5.same (fun D _ hm g => chg_at hc g (fun hh => by have := hdl D hm; omega))⟩
        case round2 =>
          intro t x W hx hW hi
          obtain ⟨ht, rfl⟩ := oneV_get _ t x hx
          have he := HE.out t ht
          have hll := ht
          rw [rank_sum] at hll
          have HK := Lib.hid hll
          clear ht hx hll hcn
          generalize (rankL r s b d c (k : Nat)).getD t 0 = x at *
          have ht1 : (t : Int) < 2000000 := by have := lenR_le r s b d c k; have := HK.out; omega
          obtain ⟨f1, f2, f3, f4, f5⟩ := hi
          obtain ⟨X, hX⟩ : ∃ X, X = W.heap.size := ⟨_, rfl⟩
          have zX : S + 1 < X := by rw [hX]; omega
          gi_wp2_with fail
          rw [← hX]
          have kW : Keeps W (W.alloc (.cells #[.int .i64 x] 3)) := (Below.refl _ _).alloc (Nat.le_refl _) _
          have x1 : (W.alloc (.cells #[.int .i64 x] 3)).heap[X]? = some (.cells #[.int .i64 x] 3 (0, 0)) := han _ _ _ hX
          refine ⟨(Chg.refl _ _).alloc _, ⟨f1.keeps hBA kW, old_at kW f2, old_at kW f3, old_at kW f4, f5.chg (Chg.of_below kW (fun _ => False)) (fun _ h => h.elim)⟩, fun W2 hc2 hr2 hi2 => ?_⟩
          have xi := chg_at hc2 x1 (by rw [hX]; omega)
          clear f1 f2 f3 f4 f5 kW x1 hW
          obtain ⟨f1, f2, f3, f4, f5⟩ := hi2
          obtain ⟨rl, hrl, hrd⟩ := hr2
          obtain ⟨e1, e2, e3, e4, e5, e6, e7, e8⟩ := he
          have m1 := cell_of_row W2 Pg 0 _ 3 (0, 0) f2
          have m2 := cell_of_row W2 (S + 1) 0 _ 3 (0, 0) f3
          have m3 := cell_of_row W2 S 0 _ 3 (0, 0) f4
          have m4 := cell_of_row W2 X 0 _ 3 (0, 0) xi
          have m5 := frozen_of_row W2 (S + 1) 0 _ 3 f3
          simp at m1 m2 m3 m4
          have m6 : ¬ (S + 1 = X) := by omega
          have m7 : ¬ (X = S + 1) := by omega
          have b63 := band63 x
          have g0 := cell_of_row W2 w.heap.size 0 _ 23 (0, 0) f1.1
          have g1 := cell_of_row W2 w.heap.size 1 _ 23 (0, 0) f1.1
          have g2 := cell_of_row W2 w.heap.size 2 _ 23 (0, 0) f1.1
          have g3 := cell_of_row W2 w.heap.size 3 _ 23 (0, 0) f1.1
          have g4 := cell_of_row W2 w.heap.size 4 _ 23 (0, 0) f1.1
          simp at g0 g1 g2 g3 g4
          have zz : w.heap.size < S := by omega
          have HI := Lib.hid (And.intro f1 (And.intro f2 (And.intro f3 (And.intro f4 (And.intro f5 (And.intro xi hrl))))))
          have HHc := Lib.hid (And.intro hc2 (And.intro hX hrd))
          have HE8 := Lib.hid (And.intro e7 (And.intro e8 (And.intro e5 e6)))
          clear f1 f2 f3 f4 f5 xi hrl hrd hc2 hX e7 e8 hdd F4 P4 d4 R0 R1 R2 R3
          rw [e4] at b63
          obtain ⟨tm, htm0⟩ : ∃ tm, tm = t % c.toNat := ⟨_, rfl⟩
          rw [← htm0] at b63
          have HTM0 := Lib.hid htm0
          clear e4 e5 e6 htm0 hkz hle hs4 hrs p1 p2 p3 p4 p5 p6 hsz
          by_cases htm : tm = 0
          · have htI : (((tm : Nat) : Int) == 0) = true := by simpa using htm
            have HTM := Lib.hid htm
            clear htm
            gi_wp2_with fail
            refine ⟨trivial, ?_⟩
            refine ((callsIn_wide (n := 8)).2 (PageI_any r s b d c (x / 64) _)).mono ?_
            rintro e W4 ⟨rfl, hW4⟩
            obtain ⟨f1, f2, f3, f4, f5, xi, hrl⟩ := HI.out
            have hc := set_chg (cw := fun i => i = S + 1) W2 (S + 1) (.int .i64 ((t : Int) + 1)) rfl
            have f3' := heap_setCell_same W2 (S + 1) 0 _ _ (.int .i64 ((t : Int) + 1)) f3
            have zP := at_lt f2
            have zX2 := at_lt xi
            have zL := at_lt hrl
            have hsz3 : (W2.setCell ⟨S + 1, 0, none⟩ (.int .i64 ((t : Int) + 1))).heap.size = W2.heap.size := by simp
            generalize hW3 : W2.setCell ⟨S + 1, 0, none⟩ (.int .i64 ((t : Int) + 1)) = W3 at *
            have kk : Keeps W3 W4 := by rw [hW4]; exact ((Below.refl _ _).alloc (Nat.le_refl _) _).alloc (by simp) _
            have hs4 : W4.heap.size = W3.heap.size + 1 + 1 := by rw [hW4]; simp
            have P1 : W4.heap[W3.heap.size]? = some (.cells #[.int .i64 r, .int .i64 s, .int .i64 b, .int .i64 d, .int .i64 c] 23 (0, 0)) := by rw [hW4, hao _ _ _ (by simp)]; exact han _ _ _ rfl
            have P2 : W4.heap[W3.heap.size + 1]? = some (.cells #[.int .i64 (x / 64)] 3 (0, 0)) := by rw [hW4]; exact han _ _ _ (by simp)
            have C24 : Chg (fun i => i = S + 1 ∨ i = Pg) W2 W4 := (hc.mono (fun i _ h => .inl h)).trans (Chg.of_below kk _)
            have f1' := (f1.chg hBA hc (fun i hi => by omega)).keeps hBA kk
            have f2' := old_at kk (chg_at hc f2 (by omega))
            have f3'' := old_at kk f3'
            have f4' := old_at kk (chg_at hc f4 (by omega))
            have f5' := (f5.same (fun D _ hm g => chg_at hc g (fun hh => by subst hh; rw [f3] at g; cases g))).chg (Chg.of_below kk (fun _ => False)) (fun _ h => h.elim)
            have xi' := old_at kk (chg_at hc xi (by omega))
            have hl' := old_at kk (chg_at hc hrl (fun e => by rw [e, f3] at hrl; cases hrl))
            have HJ := Lib.hid (And.intro C24 (And.intro f1' (And.intro f2' (And.intro f3'' (And.intro f4' (And.intro f5' (And.intro xi' (And.intro hl' (And.intro P1 (And.intro P2 (And.intro hs4 (And.intro hsz3 (And.intro zP zX2)))))))))))))
            clear f1 f2 f3 f4 f5 xi hrl hc f3' kk hs4 P1 P2 C24 f1' f2' f3'' f4' f5' xi' hl' hW4 m1 m2 m3 m4 m5 m6 m7 zX2 zP hW3 zL hsz3 g0 g1 g2 g3 g4
            gi_wp2_with fail
            obtain ⟨C24, f1, f2, f3, f4, f5, xi, hl', P1, P2, hs4, hsz3, zP, zX2⟩ := HJ.out
            have hplen := HE8.out.1
            refine wpIn_rangeFunc_itNw 9 9 (l₀ := w4.heap.size + 1) (r₀ := rl) hl' (gf := 45) (lb := #[.pointer (some ⟨W3.heap.size + 1, 0, none⟩), .pointer (some ⟨W3.heap.size, 0, none⟩)]) rfl (enters_of Try.func45 (by kernel_rfl) rfl) (oneV (pageL r s b d c (x / 64))) (fun i => i = W3.heap.size ∨ i = W3.heap.size + 1) (fun i e => by rw [hs4]; omega)
              (fun W1 hW1 => page_call _ _ r s b d c (x / 64) W1 (old_at hW1 P1) (old_at hW1 P2) (by have := bc; unfold In64 at this; omega) (by have := bc; unfold In64 at this; omega))
              (fun k v hv => by obtain ⟨_, rfl⟩ := oneV_get _ k v hv; rfl)
              (fun i => i = Pg) (fun i hi => by rw [hs4]; omega)
              (fun j W => Chg (fun i => i = S + 1 ∨ i = Pg) W2 W ∧ Fa w r s b d c A (al : Nat) W ∧ W.heap[Pg]? = some (.cells #[.int .i64 ((p0 + pgc c.toNat t + j : Nat))] 3 (0, 0)) ∧ W.heap[S + 1]? = some (.cells #[.int .i64 ((t : Int) + 1)] 3 (0, 0)) ∧ W.heap[S]? = some (.cells #[.int .i64 (k : Nat)] 3 (0, 0)) ∧ Dfs w.heap.size W ds ∧ W.heap[X]? = some (.cells #[.int .i64 x] 3 (0, 0)))
              (fun _ _ => False)
              (fun j X' Y h hc => ?keep3) (fun _ _ _ h _ => h) ⟨C24, f1, by rw [Nat.add_zero]; exact f2, f3, f4, f5, xi⟩ ?round3 ?done3 (fun _ _ _ h _ => h.elim)
            case keep3 =>
              rw [hs4, hsz3] at hc
              obtain ⟨q1, q2, q3, q4, q5, q6, q7⟩ := h
              have hdl := f5.lt
              have hS2 : S + 1 < X := zX
              rw [hs4] at hdl
              refine ⟨q1.next hc (fun i e => .inr (by omega)), q2.chg hBA hc (fun i hi => by omega), chg_at hc q3 (by omega), chg_at hc q4 (by omega), chg_at hc q5 (by omega), q6.same (fun D _ hm g => chg_at hc g (fun hh => by have := hdl D hm; omega)), chg_at hc q7 (by omega)⟩
            case round3 =>
              intro j y W hy hW hi
              obtain ⟨hj, rfl⟩ := oneV_get _ j y hy
              rw [hplen] at hj
              obtain ⟨ey, ey0, ey1⟩ := HE8.out.2.1 j hj
              have HJJ := Lib.hid hj
              have hj64 : (j : Int) < 64 := by have := HE8.out.2.2.2; omega
              have hpg1 : ((p0 + pgc c.toNat t : Nat) : Int) < 11000000 := by have := HLE.out; have := HE8.out.2.2.2; have := pgc_le c.toNat t this; omega
              clear hj hy hW f1 f2 f3 f4 f5 xi hl' P1 P2 hs4 hsz3 zP zX2 C24 HJ
              generalize (pageL r s b d c (x / 64)).getD j 0 = y at *
              gi_wp2_with fail
              refine ⟨Chg.refl _ _, hi, fun W5 hc5 hr5 hi5 => ?_⟩
              clear hi
              obtain ⟨q1, q2, q3, q4, q5, q6, q7⟩ := hi5
              obtain ⟨pt, hpt⟩ : ∃ pt, pt = p0 + pgc c.toNat t := ⟨_, rfl⟩
              have HPT := Lib.hid hpt
              rw [← hpt] at q3 hpg1
              clear hpt hr5 hc5
              have m1 := cell_of_row W5 Pg 0 _ 3 (0, 0) q3
              have m2 := frozen_of_row W5 Pg 0 _ 3 q3
              have m4 := cell_of_row W5 X 0 _ 3 (0, 0) q7
              have m6 : ¬ (Pg = X) := by omega
              have m7 : ¬ (X = Pg) := by omega
              simp at m1 m4
              have HQ := Lib.hid (And.intro q1 (And.intro q2 (And.intro q3 (And.intro q4 (And.intro q5 (And.intro q6 q7))))))
              clear q1 q2 q3 q4 q5 q6 q7
              gi_wp2_with fail
              obtain ⟨q1, q2, q3, q4, q5, q6, q7⟩ := HQ.out
              have hc := set_chg (cw := fun i => i = Pg) W5 Pg (.int .i64 ((pt : Int) + (j : Int) + 1)) rfl
              rw [← HPT.out]
              refine ⟨hc, q1.next hc (fun i e => .inl (.inr e)), q2.chg hBA hc (fun i hi => by omega), ?_, chg_at hc q4 (by omega), chg_at hc q5 (by omega), q6.same (fun D _ hm g => chg_at hc g (fun hh => by subst hh; rw [q3] at g; cases g)), chg_at hc q7 (by omega)⟩
              rw [heap_setCell_same W5 Pg 0 _ _ _ q3, ← Nat.add_assoc, Int.natCast_add, Int.natCast_add]; rfl
            case done3 =>
              rintro Y hY ⟨q1, q2, q3, q4, q5, q6, q7⟩
              rw [oneV_len, hplen] at q3
              have HQ := Lib.hid (And.intro q1 (And.intro q2 (And.intro q3 (And.intro q4 (And.intro q5 (And.intro q6 q7))))))
              clear q1 q2 q3 q4 q5 q6 q7 hY f1 f2 f3 f4 f5 xi hl' P1 P2 hs4 hsz3 zP zX2 C24 HJ
              gi_wp2_with fail
              obtain ⟨q1, q2, q3, q4, q5, q6, q7⟩ := HQ.out
              refine ⟨q1, q2, ?_, ?_, q5, q6⟩
              · rw [pgc_hit HE8.out.2.2.1 (by rw [← HTM0.out]; exact HTM.out), ← Nat.add_assoc]; exact q3
              · rw [q4, Int.natCast_add]; rfl
          · have htI : (((tm : Nat) : Int) == 0) = false := by simpa using htm
            have HTM := Lib.hid htm
            clear htm
            gi_wp2_with fail
            obtain ⟨f1, f2, f3, f4, f5, xi, hrl⟩ := HI.out
            have hc := set_chg (cw := fun i => i = S + 1) W2 (S + 1) (.int .i64 ((t : Int) + 1)) rfl
            obtain ⟨e7, e8, e5, e6⟩ := HE8.out
            refine ⟨hc.mono (fun i _ h => .inl h), f1.chg hBA hc (fun i hi => by omega), ?_, ?_, chg_at hc f4 (by omega), f5.same (fun D _ hm g => chg_at hc g (fun hh => by subst hh; rw [f3] at g; cases g))⟩
            · rw [pgc_miss e5 (by rw [← HTM0.out]; exact HTM.out)]; exact chg_at hc f2 (by omega)
            · rw [heap_setCell_same W2 (S + 1) 0 _ _ _ f3, Int.natCast_add]; rfl
        case done2 =>
          rintro U hU ⟨f1, f2, f3, f4, f5⟩ hK
          rw [oneV_len, rank_sum] at f3
          rw [oneV_len, rank_sum, pgc_rank] at f2
          have hl1 := lenR_le r s b d c k
          have hss := sum_step r s b d c k
          rw [← HP0.out] at hss
          have hper : lenR r s b d c k ≠ 0 → (lenR r s b d c k : Int) = perB r s b d c := lenR_per r s b d c k
          obtain ⟨ln, hln⟩ : ∃ ln, ln = lenR r s b d c k := ⟨_, rfl⟩
          rw [← hln] at f2 f3 hss hper hl1
          have HLN := Lib.hid (And.intro hln (And.intro hss hper))
          rw [hs4] at hU
          have m1 := cell_of_row U (S + 1) 0 _ 3 (0, 0) f3
          simp at m1
          have zz := at_lt f1.1
          have zS1 := at_lt f3
          have hl3 : (ln : Int) < 8388608 := by omega
          have hp3 : (p0 : Int) < 9000000 := by have := HLE.out; omega
          have g0 := cell_of_row U w.heap.size 0 _ 23 (0, 0) f1.1
          have g1 := cell_of_row U w.heap.size 1 _ 23 (0, 0) f1.1
          have g2 := cell_of_row U w.heap.size 2 _ 23 (0, 0) f1.1
          have g3 := cell_of_row U w.heap.size 3 _ 23 (0, 0) f1.1
          have g4 := cell_of_row U w.heap.size 4 _ 23 (0, 0) f1.1
          simp at g0 g1 g2 g3 g4
          have hd9 : Dfs w.heap.size U (mk1 w4.heap.size :: ds) := ⟨_, rfl, by have := HZ.out; have := at_lt R0; omega, hK, fun D' hm e => by have := d4.lt D' hm; omega, f5⟩
          have HQ := Lib.hid (And.intro f1 (And.intro f2 (And.intro f3 (And.intro f4 hd9))))
          clear f1 f2 f3 f4 f5 hK hU hln hss F4 P4 d4 R0 R1 R2 R3 hcn hd9 hs4
          by_cases hz : ln = 0
          · have hzI : ((ln : Nat) : Int) = 0 := by omega
            clear hper hl3
            gi_wp2
            refine wpIn_wide.2 ?_
            refine wp_region_keeps (by kernel_rfl) (by kernel_rfl) ?_
            repeat (first
                | (with_reducible refine wpQuiet_step (fun K hK => ?_); go_simp; refine hK _ ?_; clear hK K)
                | (with_reducible refine wpQuiet_step (fun K hK => ?_); go_simp
                   apply Exists.intro
                   refine ⟨fun w' hw' => ?_, hK _ ?_⟩
                   focus
                     obtain ⟨hcq, hfq⟩ := hw'.cells
                     go_simp
                     first
                       | rfl
                   clear hK K)
                | (with_reducible refine wpQuiet_step (fun K hK => ?_); go_simp; with_reducible refine ite_no ?_ ?_; (exact (by decide)); refine hK _ ?_; clear hK K))
            with_reducible refine wpQuiet_nil ?_
            intro w9 hw9
            have HW9 := Lib.hid hw9
            have m9 := old_at hw9 HQ.out.2.2.1
            have m91 := cell_of_row w9 (S + 1) 0 _ 3 (0, 0) m9
            simp at m91
            clear m9 hw9
            gi_wp2
            obtain ⟨f1, f2, f3, f4, hd9⟩ := HQ.out
            have hw9 := HW9.out
            have e1 : (((k + 1 : Nat) : Nat) : Int) = (k : Int) + 1 := by omega
            refine ⟨⟨k + 1, ?_⟩, ?_⟩
            · rw [HLN.out.2.1, e1, Int.natCast_add]
              rw [hz, Nat.add_zero] at f2; rw [hzI, Int.add_zero]
              exact ⟨_, _, _, _, _, _, _, _, _, _, _, _, _, _, _, _, _, _, _, _, by have := HLT.out; omega, f1.keeps hBA hw9, old_at hw9 f2, hd9.chg (Chg.of_below hw9 (fun _ => False)) (fun _ h => h.elim), rfl⟩
            · have := HLT.out; simp [intOf]; omega
          · have hzI : ¬ (((ln : Nat) : Int) = 0) := by omega
            have hpp := hper hz
            have HCC := Lib.hid (fun W => perRank_any r s b d c W)
            rw [← hpp] at HCC
            clear hper hpp
            gi_wp2
            refine wpIn_wide.2 ?_
            refine wp_region_keeps (by kernel_rfl) (by kernel_rfl) ?_
            repeat (first
                | (with_reducible refine wpQuiet_step (fun K hK => ?_); go_simp; refine hK _ ?_; clear hK K)
                | (with_reducible refine wpQuiet_step (fun K hK => ?_); go_simp
                   apply Exists.intro
                   refine ⟨fun w' hw' => ?_, hK _ ?_⟩
                   focus
                     obtain ⟨hcq, hfq⟩ := hw'.cells
                     go_simp
                     first
                       | (exact hw'.call (HCC.out _))
                       | rfl
                   clear hK K)
                | (with_reducible refine wpQuiet_step (fun K hK => ?_); go_simp; with_reducible refine ite_no ?_ ?_; (exact (by decide)); refine hK _ ?_; clear hK K))
            with_reducible refine wpQuiet_nil ?_
            intro w9 hw9
            have HW9 := Lib.hid hw9
            have m9 := old_at hw9 HQ.out.2.2.1
            have m91 := cell_of_row w9 (S + 1) 0 _ 3 (0, 0) m9
            simp at m91
            clear m9 hw9
            gi_wp2
            obtain ⟨f1, f2, f3, f4, hd9⟩ := HQ.out
            have hw9 := HW9.out
            have e1 : (((k + 1 : Nat) : Nat) : Int) = (k : Int) + 1 := by omega
            refine ⟨⟨k + 1, ?_⟩, ?_⟩
            · rw [HLN.out.2.1, e1, Int.natCast_add]
              skip
              exact ⟨_, _, _, _, _, _, _, _, _, _, _, _, _, _, _, _, _, _, _, _, by have := HLT.out; omega, f1.keeps hBA hw9, old_at hw9 f2, hd9.chg (Chg.of_below hw9 (fun _ => False)) (fun _ h => h.elim), rfl⟩
            · have := HLT.out; simp [intOf]; omega
      · have hk8 : k = 8 := by omega
        subst hk8
        clear hlt hk
        have q1 := cell_of_row w' Pg 0 _ 3 (0, 0) hP
        have q2 := cell_of_row w' A 0 _ 3 (0, 0) hF.2.2.1
        have q3 := frozen_of_row w' (w.heap.size + 1) 0 _ 4 hF.2.1
        have q4 := cell_of_row w' (w.heap.size + 1) 0 _ 4 (0, 0) hF.2.1
        simp at q1 q2 q4
        have hsum : p0 = al := by rw [HP0.out, HAL.out, all_sum, Nat.min_eq_right (rkN_le r s b d c)]
        subst hsum
        clear hF hP hd
        gi_wp2_with fail
        obtain ⟨hF, hP, hd⟩ := HT.out
        have hc := set_chg (cw := fun i => i = w.heap.size + 1) w' (w.heap.size + 1) (.bool true) rfl
        refine finish10 _ ds w _ rfl (heap_setCell_same w' (w.heap.size + 1) 0 _ _ (.bool true) hF.2.1) (hd.same (fun D _ _ g => chg_at hc g (fun e => by subst e; rw [hF.2.1] at g; cases g))) (hF.2.2.2.setCell (by show w.heap.size ≤ w.heap.size + 1; omega) _)

set_option maxRecDepth 100000 in
set_option maxHeartbeats 4000000 in
theorem walk_wrong (r s b d c : Int) (hrt : rightB r s b d c = false) (bc : In64 c) (w : World) : Calls Try.prog 10 #[.agg #[.int .i64 r, .int .i64 s, .int .i64 b, .int .i64 d, .int .i64 c]] w fun e w' => e = .returned (.bool true) ∧ Below w.heap.size w w' := by
  have HR := Lib.hid (fun (w : World) => (show Calls Try.prog 15 #[.agg #[.int .i64 r, .int .i64 s, .int .i64 b, .int .i64 d, .int .i64 c]] w (fun e w' => e = .returned (.bool false) ∧ Below w.heap.size w w') by have := rright_any r s b d c w; rw [hrt] at this; exact this))
  clear hrt
  refine (callsIn_wide (n := 9)).1 ?_
  refine callsIn_of_wp_marks Try.func10 rfl trivial ?_
  simp only [Try.ntmps10, List.size_toArray, List.length_cons, List.length_nil, Nat.reduceAdd, Nat.reduceSub, Array.replicate_succ, Array.replicate_zero, List.push_toArray, List.append_toArray, List.nil_append, List.cons_append]
  gi_wp2_with fail
  refine ⟨trivial, ?_⟩
  refine ((callsIn_wide (n := 8)).2 (anchor_any _)).mono ?_
  rintro e w1 ⟨rfl, hb1⟩
  have h1 : w1.heap[w.heap.size]? = some (.cells #[.int .i64 r, .int .i64 s, .int .i64 b, .int .i64 d, .int .i64 c] 23 (0, 0)) ∧ w1.heap[w.heap.size + 1]? = some (.cells #[.bool false] 4 (0, 0)) ∧ Below w.heap.size w w1 := by
    have kk : Keeps w ((w.alloc (.cells #[.int .i64 r, .int .i64 s, .int .i64 b, .int .i64 d, .int .i64 c] 23)).alloc (.cells #[.bool false] 4)) := ((Below.refl _ _).alloc (Nat.le_refl _) _).alloc (by simp) _
    refine ⟨old_at hb1 ?_, old_at hb1 (han _ _ _ (by simp)), Keeps.next kk hb1⟩
    rw [hao _ _ _ (by simp)]; exact han _ _ _ rfl
  clear hb1
  have g0 := cell_of_row w1 w.heap.size 0 _ 23 (0, 0) h1.1
  have g1 := cell_of_row w1 w.heap.size 1 _ 23 (0, 0) h1.1
  have g2 := cell_of_row w1 w.heap.size 2 _ 23 (0, 0) h1.1
  have g3 := cell_of_row w1 w.heap.size 3 _ 23 (0, 0) h1.1
  have g4 := cell_of_row w1 w.heap.size 4 _ 23 (0, 0) h1.1
  simp at g0 g1 g2 g3 g4
  have z1 := at_lt h1.2.1
  have z0 : w.heap.size < w1.heap.size := by omega
  gi_wp2_with fail
  refine ⟨trivial, ?_⟩
  refine ((callsIn_wide (n := 8)).2 (HR.out _)).mono ?_
  rintro e w2 ⟨rfl, hb2⟩
  have h2 : w2.heap[w.heap.size]? = some (.cells #[.int .i64 r, .int .i64 s, .int .i64 b, .int .i64 d, .int .i64 c] 23 (0, 0)) ∧ w2.heap[w.heap.size + 1]? = some (.cells #[.bool false] 4 (0, 0)) ∧ Below w.heap.size w w2 := ⟨old_at hb2 h1.1, old_at hb2 h1.2.1, Keeps.next h1.2.2 hb2⟩
  clear hb2 h1 g0 g1 g2 g3 g4 z0 z1
  have g0 := cell_of_row w2 w.heap.size 0 _ 23 (0, 0) h2.1
  have g1 := cell_of_row w2 w.heap.size 1 _ 23 (0, 0) h2.1
  have g2 := cell_of_row w2 w.heap.size 2 _ 23 (0, 0) h2.1
  have g3 := cell_of_row w2 w.heap.size 3 _ 23 (0, 0) h2.1
  have g4 := cell_of_row w2 w.heap.size 4 _ 23 (0, 0) h2.1
  simp at g0 g1 g2 g3 g4
  have z1 := at_lt h2.2.1
  have z0 : w.heap.size < w2.heap.size := by omega
  have z4 : w.heap.size < w2.heap.size + 1 := by omega
  have H2 := Lib.hid h2
  clear h2
  gi_wp2_with fail
  refine ⟨trivial, ?_⟩
  refine ((callsIn_wide (n := 8)).2 (AllI_any r s b d c _)).mono ?_
  rintro e w3 ⟨rfl, hw3⟩
  obtain ⟨h2a, h2b, h2c⟩ := H2.out
  obtain ⟨A, hA⟩ : ∃ A, A = w2.heap.size := ⟨_, rfl⟩
  have kk3 : Keeps w2 w3 := by rw [hw3]; exact ((Below.refl _ _).alloc (Nat.le_refl _) _).alloc (by simp) _
  have hBA : w.heap.size + 1 < A := by rw [hA]; exact z1
  have F3 : Fa w r s b d c A 0 w3 := ⟨old_at kk3 h2a, old_at kk3 h2b, by rw [hw3, hA, hao _ _ _ (by simp)]; exact han _ _ _ rfl, Keeps.next h2c kk3⟩
  have P1 : w3.heap[A + 1]? = some (.cells #[.int .i64 r, .int .i64 s, .int .i64 b, .int .i64 d, .int .i64 c] 23 (0, 0)) := by rw [hw3, hA]; exact han _ _ _ (by simp)
  have hs3 : w3.heap.size = A + 1 + 1 := by rw [hw3, hA]; simp
  have HX := Lib.hid (And.intro F3 (And.intro P1 (And.intro hs3 hBA)))
  simp only [World.size_alloc]
  rw [← hA]
  clear kk3 hw3 hA F3 P1 hs3 hBA h2a h2b h2c g0 g1 g2 g3 g4 z0 z1 z4
  gi_wp2_with fail
  obtain ⟨F3, P1, hs3, hBA⟩ := HX.out
  refine wpIn_rangeFunc_it3w 9 9 (gf := 46) (lb := #[.pointer (some ⟨A + 1, 0, none⟩)]) rfl (enters_of Try.func46 (by kernel_rfl) rfl) (oneV (allL r s b d c)) (fun i => i = A + 1) (fun _ => False) (fun i e => by rw [hs3]; omega) (fun i e => e.elim)
    (fun W1 hW1 => all_call _ r s b d c W1 (old_at hW1 P1))
    (fun k v hv => by obtain ⟨_, rfl⟩ := oneV_get _ k v hv; rfl)
    (fun i => i = A) (fun i hi => by rw [hs3]; omega)
    (fun j W => Fa w r s b d c A (j : Nat) W)
    (fun _ _ => False)
    (fun j X Y h hc => h.chg hBA hc (fun i hi => by rw [hs3] at hi; rcases hi with hi | hi; exact hi.elim; omega)) (fun _ _ _ h _ => h) F3 ?round1 ?done1 (fun _ _ _ _ h _ => h.elim)
  case round1 =>
    intro l2 j x W hx hl2 hW hi
    obtain ⟨hk, rfl⟩ := oneV_get _ j x hx
    have hle := allL_le' r s b d c
    have hjI : (j : Int) < 8388608 := by omega
    clear hk hx hle
    gi_wp2_with fail
    refine ⟨Chg.refl _ _, hi, fun W2 hc2 hr2 hi2 => ?_⟩
    clear hi hr2
    have m1 := cell_of_row W2 A 0 _ 3 (0, 0) hi2.2.2.1
    have m2 := frozen_of_row W2 A 0 _ 3 hi2.2.2.1
    simp at m1
    have HI := Lib.hid hi2
    clear hi2 F3
    gi_wp2_with fail
    have hc := set_chg (cw := fun i => i = A) W2 A (.int .i64 ((j : Int) + 1)) rfl
    obtain ⟨q1, q2, q3, q4⟩ := HI.out
    refine ⟨hc, ?_⟩
    refine ⟨chg_at hc q1 (by omega), chg_at hc q2 (by omega), ?_, q4.trans (hc.below q4.size (fun i h => by omega))⟩
    rw [heap_setCell_same W2 A 0 _ _ _ q3, Int.natCast_add]; rfl
  case done1 =>
    rintro D1 U hD1 hF hK
    rw [oneV_len] at hF
    obtain ⟨al, hal⟩ : ∃ al, al = (allL r s b d c).length := ⟨_, rfl⟩
    rw [← hal] at hF
    have HAL := Lib.hid hal
    have zA := at_lt hF.2.2.1
    have hd0 : Dfs w.heap.size U [mk1 D1] := ⟨D1, rfl, by omega, hK, by simp, trivial⟩
    have HY := Lib.hid (And.intro hF (And.intro hd0 hBA))
    clear hF hK hal HX F3 P1 hs3 hd0 hD1
    gi_wp2_with fail
    obtain ⟨Pg, hPg⟩ : ∃ Pg, Pg = U.heap.size := ⟨_, rfl⟩
    obtain ⟨hF, hd0, hBA⟩ := HY.out
    have kU : Keeps U (U.alloc (.cells #[.int .i64 0] 3)) := (Below.refl _ _).alloc (Nat.le_refl _) _
    have hFU := hF.keeps hBA kU
    have hdU := hd0.chg (Chg.of_below kU (fun _ => False)) (fun _ h => h.elim)
    have hPU : (U.alloc (.cells #[.int .i64 0] 3)).heap[Pg]? = some (.cells #[.int .i64 0] 3 (0, 0)) := han _ _ _ hPg
    have hAP : A < Pg := by rw [hPg]; exact zA
    rw [← hPg]
    generalize U.alloc (.cells #[.int .i64 0] 3) = U0 at *
    have HZ := Lib.hid (And.intro hBA hAP)
    clear hF hd0 HY kU hPg zA
    refine wpIn_loop (fun a' w' => ∃ (k : Nat) (u6 u7 u37 u38 u39 u40 u41 u64 u65 u66 u67 u68 u69 u70 u71 u72 u73 u74 u75 : Value) (ds : List Deferred), k ≤ 8 ∧ Fa w r s b d c A (al : Nat) w' ∧ w'.heap[Pg]? = some (.cells #[.int .i64 (((min k (rkN r s b d c) * perN b d c : Nat) : Int))] 3 (0, 0)) ∧ Dfs w.heap.size w' ds ∧ a' = { tmps := #[.agg #[.int .i64 r, .int .i64 s, .int .i64 b, .int .i64 d, .int .i64 c], .pointer (some ⟨w.heap.size, 0, none⟩), .pointer (some ⟨w.heap.size + 1, 0, none⟩), .pointer (some ⟨A, 0, none⟩), .int .i64 (((min k (rkN r s b d c) * perN b d c : Nat) : Int)), .pointer (some ⟨Pg, 0, none⟩), u6, u7, undef, undef, .bool true, .bool false, .agg #[.int .i64 r, .int .i64 s, .int .i64 b, .int .i64 d, .int .i64 c], .bool false, .bool false, undef, undef, undef, undef, undef, undef, undef, undef, undef, undef, undef, undef, undef, undef, undef, .bool false, .agg #[.int .i64 r, .int .i64 s, .int .i64 b, .int .i64 d, .int .i64 c], .func (.func 46) #[] #[.pointer (some ⟨A + 1, 0, none⟩)], undef, undef, undef, .int .i64 ((k : Nat) : Int), u37, u38, u39, u40, u41, undef, undef, undef, undef, undef, undef, undef, undef, undef, undef, undef, undef, undef, undef, undef, undef, undef, undef, undef, undef, undef, undef, u64, u65, u66, u67, u68, u69, u70, u71, u72, u73, u74, u75, undef, undef, undef, undef, undef, undef, undef, undef], defers := ds }) (fun a' _ => 8 - (intOf (a'.tmps.getD 36 undef)).toNat) ?start ?round
    case start => 
      refine ⟨0, ?_⟩
      rw [Nat.zero_min, Nat.zero_mul]
      exact ⟨_, _, _, _, _, _, _, _, _, _, _, _, _, _, _, _, _, _, _, [mk1 D1], by omega, hFU, hPU, hdU, rfl⟩
    case round =>
      rintro a' w' ⟨k, u6, u7, u37, u38, u39, u40, u41, u64, u65, u66, u67, u68, u69, u70, u71, u72, u73, u74, u75, ds, hk, hF, hP, hd, rfl⟩
      clear hFU hdU hPU
      have hle := sum_le r s b d c k
      obtain ⟨p0, hp0⟩ : ∃ p0, p0 = min k (rkN r s b d c) * perN b d c := ⟨_, rfl⟩
      rw [← hp0] at hP hle ⊢
      have HP0 := Lib.hid hp0
      clear hp0
      have HLE := Lib.hid hle
      have HT := Lib.hid (And.intro hF (And.intro hP hd))
      have g0 := cell_of_row w' w.heap.size 0 _ 23 (0, 0) hF.1
      have g1 := cell_of_row w' w.heap.size 1 _ 23 (0, 0) hF.1
      have g2 := cell_of_row w' w.heap.size 2 _ 23 (0, 0) hF.1
      have g3 := cell_of_row w' w.heap.size 3 _ 23 (0, 0) hF.1
      have g4 := cell_of_row w' w.heap.size 4 _ 23 (0, 0) hF.1
      simp at g0 g1 g2 g3 g4
      have zB := at_lt hF.1
      by_cases hlt : k < 8
      · have hk8 : (k : Int) < 8 := by omega
        have y0 : w.heap.size < w'.heap.size + 1 := by omega
        have y1 : w.heap.size < w'.heap.size + 1 + 1 := by omega
        have HLT := Lib.hid hlt
        have q1 := cell_of_row w' Pg 0 _ 3 (0, 0) hP
        simp at q1
        clear hF hP hd hlt hk
        gi_wp2_with fail
        refine ⟨trivial, ?_⟩
        refine ((callsIn_wide (n := 8)).2 (Rank_any _ _ _ _ _ _ _)).mono ?_
        rintro e w4 ⟨rfl, hw4⟩
        obtain ⟨S, hS⟩ : ∃ S, S = w'.heap.size := ⟨_, rfl⟩
        obtain ⟨hF, hP, hd⟩ := HT.out
        have kk4 : Keeps w' w4 := by rw [hw4]; exact ((((Below.refl _ _).alloc (Nat.le_refl _) _).alloc (by simp) _).alloc (by simp; omega) _).alloc (by simp; omega) _
        have hs4 : w4.heap.size = S + 1 + 1 + 1 + 1 := by rw [hw4, hS]; simp
        have R0 : w4.heap[S]? = some (.cells #[.int .i64 (k : Nat)] 3 (0, 0)) := by rw [hw4, hS, hao _ _ _ (by first | rfl | (simp; done) | (simp; omega)), hao _ _ _ (by first | rfl | (simp; done) | (simp; omega)), hao _ _ _ (by first | rfl | (simp; done) | (simp; omega))]; exact han _ _ _ (by first | rfl | (simp; done) | (simp; omega))
        have R1 : w4.heap[S + 1]? = some (.cells #[.int .i64 0] 3 (0, 0)) := by rw [hw4, hS, hao _ _ _ (by first | rfl | (simp; done) | (simp; omega)), hao _ _ _ (by first | rfl | (simp; done) | (simp; omega))]; exact han _ _ _ (by first | rfl | (simp; done) | (simp; omega))
        have R2 : w4.heap[S + 1 + 1]? = some (.cells #[.int .i64 r, .int .i64 s, .int .i64 b, .int .i64 d, .int .i64 c] 23 (0, 0)) := by rw [hw4, hS, hao _ _ _ (by first | rfl | (simp; done) | (simp; omega))]; exact han _ _ _ (by first | rfl | (simp; done) | (simp; omega))
        have R3 : w4.heap[S + 1 + 1 + 1]? = some (.cells #[.int .i64 (k : Nat)] 3 (0, 0)) := by rw [hw4, hS]; exact han _ _ _ (by first | rfl | (simp; done) | (simp; omega))
        have zS : Pg < S := by rw [hS]; exact at_lt hP
        have F4 := hF.keeps HZ.out.1 kk4
        have d4 := hd.chg (Chg.of_below kk4 (fun _ => False)) (fun _ h => h.elim)
        have HX := Lib.hid (And.intro F4 (And.intro (old_at kk4 hP) (And.intro d4 (And.intro R0 (And.intro R1 (And.intro R2 (And.intro R3 (And.intro hs4 zS))))))))
        simp only [World.size_alloc]
        rw [← hS]
        clear kk4 hs4 R0 R1 R2 R3 zS F4 d4 hF hP hd hw4 hS g0 g1 g2 g3 g4 zB y0 y1 q1
        gi_wp2_with fail
        obtain ⟨F4, P4, d4, R0, R1, R2, R3, hs4, zS⟩ := HX.out
        have hcn := rank_elem r s b d c k
        have HE := Lib.hid hcn
        obtain ⟨hBA, hAP⟩ := HZ.out
        have hkz := HLT.out
        have hdd : True := trivial
        refine wpIn_rangeFunc_itKw 9 9 (gf := 44) (lb := #[.pointer (some ⟨S + 1 + 1, 0, none⟩), .pointer (some ⟨S + 1 + 1 + 1, 0, none⟩)]) rfl (enters_of Try.func44 (by kernel_rfl) rfl) (oneV (rankL r s b d c (k : Nat))) (fun i => i = S + 1 + 1 ∨ i = S + 1 + 1 + 1) (fun i e => by rw [hs4]; omega)
          (fun W1 hW1 => rank_call _ _ r s b d c (k : Nat) W1 (old_at hW1 R2) (old_at hW1 R3))
          (fun k v hv => by obtain ⟨_, rfl⟩ := oneV_get _ k v hv; rfl)
          (fun i => i = S + 1 ∨ i = Pg) (fun i hi => by rw [hs4]; omega)
          (fun t W => Fa w r s b d c A (al : Nat) W ∧ W.heap[Pg]? = some (.cells #[.int .i64 ((p0 + pgc c.toNat t : Nat))] 3 (0, 0)) ∧ W.heap[S + 1]? = some (.cells #[.int .i64 (t : Nat)] 3 (0, 0)) ∧ W.heap[S]? = some (.cells #[.int .i64 (k : Nat)] 3 (0, 0)) ∧ Dfs w.heap.size W ds)
          (fun _ _ => False)
          (fun t X Y h hc => ?keep2) (fun _ _ _ h _ => h) ⟨F4, by rw [pgc_zero]; exact P4, R1, R0, d4⟩ ?round2 ?done2 (fun _ _ _ h _ => h.elim)
        case keep2 =>
          rw [hs4] at hc
          obtain ⟨f1, f2, f3, f4, f5⟩ := h
          have hdl := d4.lt
          rw [hs4] at hdl
          exact ⟨f1.chg hBA hc (fun i hi => by omega), chg_at hc f2 (by omega), chg_at hc f3 (by omega), chg_at hc f4 (by omega), f5.same (fun D _ hm g => chg_at hc g (fun hh => by have := hdl D hm; omega))⟩
        case round2 =>
          intro t x W hx hW hi
          obtain ⟨ht, rfl⟩ := oneV_get _ t x hx
          have he := HE.out t ht
          have hll := ht
          rw [rank_sum] at hll
          have HK := Lib.hid hll
          clear ht hx hll hcn
          generalize (rankL r s b d c (k : Nat)).getD t 0 = x at *
          have ht1 : (t : Int) < 2000000 := by have := lenR_le r s b d c k; have := HK.out; omega
          obtain ⟨f1, f2, f3, f4, f5⟩ := hi
          obtain ⟨X, hX⟩ : ∃ X, X = W.heap.size := ⟨_, rfl⟩
          have zX : S + 1 < X := by rw [hX]; omega
          gi_wp2_with fail
          rw [← hX]
          have kW : Keeps W (W.alloc (.cells #[.int .i64 x] 3)) := (Below.refl _ _).alloc (Nat.le_refl _) _
          have x1 : (W.alloc (.cells #[.int .i64 x] 3)).heap[X]? = some (.cells #[.int .i64 x] 3 (0, 0)) := han _ _ _ hX
          refine ⟨(Chg.refl _ _).alloc _, ⟨f1.keeps hBA kW, old_at kW f2, old_at kW f3, old_at kW f4, f5.chg (Chg.of_below kW (fun _ => False)) (fun _ h => h.elim)⟩, fun W2 hc2 hr2 hi2 => ?_⟩
          have xi := chg_at hc2 x1 (by rw [hX]; omega)
          clear f1 f2 f3 f4 f5 kW x1 hW
          obtain ⟨f1, f2, f3, f4, f5⟩ := hi2
          obtain ⟨rl, hrl, hrd⟩ := hr2
          obtain ⟨e1, e2, e3, e4, e5, e6, e7, e8⟩ := he
          have m1 := cell_of_row W2 Pg 0 _ 3 (0, 0) f2
          have m2 := cell_of_row W2 (S + 1) 0 _ 3 (0, 0) f3
          have m3 := cell_of_row W2 S 0 _ 3 (0, 0) f4
          have m4 := cell_of_row W2 X 0 _ 3 (0, 0) xi
          have m5 := frozen_of_row W2 (S + 1) 0 _ 3 f3
          simp at m1 m2 m3 m4
          have m6 : ¬ (S + 1 = X) := by omega
          have m7 : ¬ (X = S + 1) := by omega
          have b63 := band63 x
          have g0 := cell_of_row W2 w.heap.size 0 _ 23 (0, 0) f1.1
          have g1 := cell_of_row W2 w.heap.size 1 _ 23 (0, 0) f1.1
          have g2 := cell_of_row W2 w.heap.size 2 _ 23 (0, 0) f1.1
          have g3 := cell_of_row W2 w.heap.size 3 _ 23 (0, 0) f1.1
          have g4 := cell_of_row W2 w.heap.size 4 _ 23 (0, 0) f1.1
          simp at g0 g1 g2 g3 g4
          have zz : w.heap.size < S := by omega
          have HI := Lib.hid (And.intro f1 (And.intro f2 (And.intro f3 (And.intro f4 (And.intro f5 (And.intro xi hrl))))))
          have HHc := Lib.hid (And.intro hc2 (And.intro hX hrd))
          have HE8 := Lib.hid (And.intro e7 (And.intro e8 (And.intro e5 e6)))
          clear f1 f2 f3 f4 f5 xi hrl hrd hc2 hX e7 e8 hdd F4 P4 d4 R0 R1 R2 R3
          rw [e4] at b63
          obtain ⟨tm, htm0⟩ : ∃ tm, tm = t % c.toNat := ⟨_, rfl⟩
          rw [← htm0] at b63
          have HTM0 := Lib.hid htm0
          clear e4 e5 e6 htm0 hkz hle hs4
          by_cases htm : tm = 0
          · have htI : (((tm : Nat) : Int) == 0) = true := by simpa using htm
            have HTM := Lib.hid htm
            clear htm
            gi_wp2_with fail
            refine ⟨trivial, ?_⟩
            refine ((callsIn_wide (n := 8)).2 (PageI_any r s b d c (x / 64) _)).mono ?_
            rintro e W4 ⟨rfl, hW4⟩
            obtain ⟨f1, f2, f3, f4, f5, xi, hrl⟩ := HI.out
            have hc := set_chg (cw := fun i => i = S + 1) W2 (S + 1) (.int .i64 ((t : Int) + 1)) rfl
            have f3' := heap_setCell_same W2 (S + 1) 0 _ _ (.int .i64 ((t : Int) + 1)) f3
            have zP := at_lt f2
            have zX2 := at_lt xi
            have zL := at_lt hrl
            have hsz3 : (W2.setCell ⟨S + 1, 0, none⟩ (.int .i64 ((t : Int) + 1))).heap.size = W2.heap.size := by simp
            generalize hW3 : W2.setCell ⟨S + 1, 0, none⟩ (.int .i64 ((t : Int) + 1)) = W3 at *
            have kk : Keeps W3 W4 := by rw [hW4]; exact ((Below.refl _ _).alloc (Nat.le_refl _) _).alloc (by simp) _
            have hs4 : W4.heap.size = W3.heap.size + 1 + 1 := by rw [hW4]; simp
            have P1 : W4.heap[W3.heap.size]? = some (.cells #[.int .i64 r, .int .i64 s, .int .i64 b, .int .i64 d, .int .i64 c] 23 (0, 0)) := by rw [hW4, hao _ _ _ (by simp)]; exact han _ _ _ rfl
            have P2 : W4.heap[W3.heap.size + 1]? = some (.cells #[.int .i64 (x / 64)] 3 (0, 0)) := by rw [hW4]; exact han _ _ _ (by simp)
            have C24 : Chg (fun i => i = S + 1 ∨ i = Pg) W2 W4 := (hc.mono (fun i _ h => .inl h)).trans (Chg.of_below kk _)
            have f1' := (f1.chg hBA hc (fun i hi => by omega)).keeps hBA kk
            have f2' := old_at kk (chg_at hc f2 (by omega))
            have f3'' := old_at kk f3'
            have f4' := old_at kk (chg_at hc f4 (by omega))
            have f5' := (f5.same (fun D _ hm g => chg_at hc g (fun hh => by subst hh; rw [f3] at g; cases g))).chg (Chg.of_below kk (fun _ => False)) (fun _ h => h.elim)
            have xi' := old_at kk (chg_at hc xi (by omega))
            have hl' := old_at kk (chg_at hc hrl (fun e => by rw [e, f3] at hrl; cases hrl))
            have HJ := Lib.hid (And.intro C24 (And.intro f1' (And.intro f2' (And.intro f3'' (And.intro f4' (And.intro f5' (And.intro xi' (And.intro hl' (And.intro P1 (And.intro P2 (And.intro hs4 (And.intro hsz3 (And.intro zP zX2)))))))))))))
            clear f1 f2 f3 f4 f5 xi hrl hc f3' kk hs4 P1 P2 C24 f1' f2' f3'' f4' f5' xi' hl' hW4 m1 m2 m3 m4 m5 m6 m7 zX2 zP hW3 zL hsz3 g0 g1 g2 g3 g4
            gi_wp2_with fail
            obtain ⟨C24, f1, f2, f3, f4, f5, xi, hl', P1, P2, hs4, hsz3, zP, zX2⟩ := HJ.out
            have hplen := HE8.out.1
            refine wpIn_rangeFunc_itNw 9 9 (l₀ := w4.heap.size + 1) (r₀ := rl) hl' (gf := 45) (lb := #[.pointer (some ⟨W3.heap.size + 1, 0, none⟩), .pointer (some ⟨W3.heap.size, 0, none⟩)]) rfl (enters_of Try.func45 (by kernel_rfl) rfl) (oneV (pageL r s b d c (x / 64))) (fun i => i = W3.heap.size ∨ i = W3.heap.size + 1) (fun i e => by rw [hs4]; omega)
              (fun W1 hW1 => page_call _ _ r s b d c (x / 64) W1 (old_at hW1 P1) (old_at hW1 P2) (by have := bc; unfold In64 at this; omega) (by have := bc; unfold In64 at this; omega))
              (fun k v hv => by obtain ⟨_, rfl⟩ := oneV_get _ k v hv; rfl)
              (fun i => i = Pg) (fun i hi => by rw [hs4]; omega)
              (fun j W => Chg (fun i => i = S + 1 ∨ i = Pg) W2 W ∧ Fa w r s b d c A (al : Nat) W ∧ W.heap[Pg]? = some (.cells #[.int .i64 ((p0 + pgc c.toNat t + j : Nat))] 3 (0, 0)) ∧ W.heap[S + 1]? = some (.cells #[.int .i64 ((t : Int) + 1)] 3 (0, 0)) ∧ W.heap[S]? = some (.cells #[.int .i64 (k : Nat)] 3 (0, 0)) ∧ Dfs w.heap.size W ds ∧ W.heap[X]? = some (.cells #[.int .i64 x] 3 (0, 0)))
              (fun _ _ => False)
              (fun j X' Y h hc => ?keep3) (fun _ _ _ h _ => h) ⟨C24, f1, by rw [Nat.add_zero]; exact f2, f3, f4, f5, xi⟩ ?round3 ?done3 (fun _ _ _ h _ => h.elim)
            case keep3 =>
              rw [hs4, hsz3] at hc
              obtain ⟨q1, q2, q3, q4, q5, q6, q7⟩ := h
              have hdl := f5.lt
              have hS2 : S + 1 < X := zX
              rw [hs4] at hdl
              refine ⟨q1.next hc (fun i e => .inr (by omega)), q2.chg hBA hc (fun i hi => by omega), chg_at hc q3 (by omega), chg_at hc q4 (by omega), chg_at hc q5 (by omega), q6.same (fun D _ hm g => chg_at hc g (fun hh => by have := hdl D hm; omega)), chg_at hc q7 (by omega)⟩
            case round3 =>
              intro j y W hy hW hi
              obtain ⟨hj, rfl⟩ := oneV_get _ j y hy
              rw [hplen] at hj
              obtain ⟨ey, ey0, ey1⟩ := HE8.out.2.1 j hj
              have HJJ := Lib.hid hj
              have hj64 : (j : Int) < 64 := by have := HE8.out.2.2.2; omega
              have hpg1 : ((p0 + pgc c.toNat t : Nat) : Int) < 11000000 := by have := HLE.out; have := HE8.out.2.2.2; have := pgc_le c.toNat t this; omega
              clear hj hy hW f1 f2 f3 f4 f5 xi hl' P1 P2 hs4 hsz3 zP zX2 C24 HJ
              generalize (pageL r s b d c (x / 64)).getD j 0 = y at *
              gi_wp2_with fail
              refine ⟨Chg.refl _ _, hi, fun W5 hc5 hr5 hi5 => ?_⟩
              clear hi
              obtain ⟨q1, q2, q3, q4, q5, q6, q7⟩ := hi5
              obtain ⟨pt, hpt⟩ : ∃ pt, pt = p0 + pgc c.toNat t := ⟨_, rfl⟩
              have HPT := Lib.hid hpt
              rw [← hpt] at q3 hpg1
              clear hpt hr5 hc5
              have m1 := cell_of_row W5 Pg 0 _ 3 (0, 0) q3
              have m2 := frozen_of_row W5 Pg 0 _ 3 q3
              have m4 := cell_of_row W5 X 0 _ 3 (0, 0) q7
              have m6 : ¬ (Pg = X) := by omega
              have m7 : ¬ (X = Pg) := by omega
              simp at m1 m4
              have HQ := Lib.hid (And.intro q1 (And.intro q2 (And.intro q3 (And.intro q4 (And.intro q5 (And.intro q6 q7))))))
              clear q1 q2 q3 q4 q5 q6 q7
              gi_wp2_with fail
              obtain ⟨q1, q2, q3, q4, q5, q6, q7⟩ := HQ.out
              have hc := set_chg (cw := fun i => i = Pg) W5 Pg (.int .i64 ((pt : Int) + (j : Int) + 1)) rfl
              rw [← HPT.out]
              refine ⟨hc, q1.next hc (fun i e => .inl (.inr e)), q2.chg hBA hc (fun i hi => by omega), ?_, chg_at hc q4 (by omega), chg_at hc q5 (by omega), q6.same (fun D _ hm g => chg_at hc g (fun hh => by subst hh; rw [q3] at g; cases g)), chg_at hc q7 (by omega)⟩
              rw [heap_setCell_same W5 Pg 0 _ _ _ q3, ← Nat.add_assoc, Int.natCast_add, Int.natCast_add]; rfl
            case done3 =>
              rintro Y hY ⟨q1, q2, q3, q4, q5, q6, q7⟩
              rw [oneV_len, hplen] at q3
              have HQ := Lib.hid (And.intro q1 (And.intro q2 (And.intro q3 (And.intro q4 (And.intro q5 (And.intro q6 q7))))))
              clear q1 q2 q3 q4 q5 q6 q7 hY f1 f2 f3 f4 f5 xi hl' P1 P2 hs4 hsz3 zP zX2 C24 HJ
              gi_wp2_with fail
              obtain ⟨q1, q2, q3, q4, q5, q6, q7⟩ := HQ.out
              refine ⟨q1, q2, ?_, ?_, q5, q6⟩
              · rw [pgc_hit HE8.out.2.2.1 (by rw [← HTM0.out]; exact HTM.out), ← Nat.add_assoc]; exact q3
              · rw [q4, Int.natCast_add]; rfl
          · have htI : (((tm : Nat) : Int) == 0) = false := by simpa using htm
            have HTM := Lib.hid htm
            clear htm
            gi_wp2_with fail
            obtain ⟨f1, f2, f3, f4, f5, xi, hrl⟩ := HI.out
            have hc := set_chg (cw := fun i => i = S + 1) W2 (S + 1) (.int .i64 ((t : Int) + 1)) rfl
            obtain ⟨e7, e8, e5, e6⟩ := HE8.out
            refine ⟨hc.mono (fun i _ h => .inl h), f1.chg hBA hc (fun i hi => by omega), ?_, ?_, chg_at hc f4 (by omega), f5.same (fun D _ hm g => chg_at hc g (fun hh => by subst hh; rw [f3] at g; cases g))⟩
            · rw [pgc_miss e5 (by rw [← HTM0.out]; exact HTM.out)]; exact chg_at hc f2 (by omega)
            · rw [heap_setCell_same W2 (S + 1) 0 _ _ _ f3, Int.natCast_add]; rfl
        case done2 =>
          rintro U hU ⟨f1, f2, f3, f4, f5⟩ hK
          rw [oneV_len, rank_sum] at f3
          rw [oneV_len, rank_sum, pgc_rank] at f2
          have hl1 := lenR_le r s b d c k
          have hss := sum_step r s b d c k
          rw [← HP0.out] at hss
          have hper : lenR r s b d c k ≠ 0 → (lenR r s b d c k : Int) = perB r s b d c := lenR_per r s b d c k
          obtain ⟨ln, hln⟩ : ∃ ln, ln = lenR r s b d c k := ⟨_, rfl⟩
          rw [← hln] at f2 f3 hss hper hl1
          have HLN := Lib.hid (And.intro hln (And.intro hss hper))
          rw [hs4] at hU
          have m1 := cell_of_row U (S + 1) 0 _ 3 (0, 0) f3
          simp at m1
          have zz := at_lt f1.1
          have zS1 := at_lt f3
          have hl3 : (ln : Int) < 8388608 := by omega
          have hp3 : (p0 : Int) < 9000000 := by have := HLE.out; omega
          have g0 := cell_of_row U w.heap.size 0 _ 23 (0, 0) f1.1
          have g1 := cell_of_row U w.heap.size 1 _ 23 (0, 0) f1.1
          have g2 := cell_of_row U w.heap.size 2 _ 23 (0, 0) f1.1
          have g3 := cell_of_row U w.heap.size 3 _ 23 (0, 0) f1.1
          have g4 := cell_of_row U w.heap.size 4 _ 23 (0, 0) f1.1
          simp at g0 g1 g2 g3 g4
          have hd9 : Dfs w.heap.size U (mk1 w4.heap.size :: ds) := ⟨_, rfl, by have := HZ.out; have := at_lt R0; omega, hK, fun D' hm e => by have := d4.lt D' hm; omega, f5⟩
          have HQ := Lib.hid (And.intro f1 (And.intro f2 (And.intro f3 (And.intro f4 hd9))))
          clear f1 f2 f3 f4 f5 hK hU hln hss F4 P4 d4 R0 R1 R2 R3 hcn hd9 hs4
          by_cases hz : ln = 0
          · have hzI : ((ln : Nat) : Int) = 0 := by omega
            clear hper hl3
            gi_wp2
            refine wpIn_wide.2 ?_
            refine wp_region_keeps (by kernel_rfl) (by kernel_rfl) ?_
            repeat (first
                | (with_reducible refine wpQuiet_step (fun K hK => ?_); go_simp; refine hK _ ?_; clear hK K)
                | (with_reducible refine wpQuiet_step (fun K hK => ?_); go_simp
                   apply Exists.intro
                   refine ⟨fun w' hw' => ?_, hK _ ?_⟩
                   focus
                     obtain ⟨hcq, hfq⟩ := hw'.cells
                     go_simp
                     first
                       | rfl
                   clear hK K)
                | (with_reducible refine wpQuiet_step (fun K hK => ?_); go_simp; with_reducible refine ite_no ?_ ?_; (exact (by decide)); refine hK _ ?_; clear hK K))
            with_reducible refine wpQuiet_nil ?_
            intro w9 hw9
            have HW9 := Lib.hid hw9
            have m9 := old_at hw9 HQ.out.2.2.1
            have m91 := cell_of_row w9 (S + 1) 0 _ 3 (0, 0) m9
            simp at m91
            clear m9 hw9
            gi_wp2
            obtain ⟨f1, f2, f3, f4, hd9⟩ := HQ.out
            have hw9 := HW9.out
            have e1 : (((k + 1 : Nat) : Nat) : Int) = (k : Int) + 1 := by omega
            refine ⟨⟨k + 1, ?_⟩, ?_⟩
            · rw [HLN.out.2.1, e1, Int.natCast_add]
              rw [hz, Nat.add_zero] at f2; rw [hzI, Int.add_zero]
              exact ⟨_, _, _, _, _, _, _, _, _, _, _, _, _, _, _, _, _, _, _, _, by have := HLT.out; omega, f1.keeps hBA hw9, old_at hw9 f2, hd9.chg (Chg.of_below hw9 (fun _ => False)) (fun _ h => h.elim), rfl⟩
            · have := HLT.out; simp [intOf]; omega
          · have hzI : ¬ (((ln : Nat) : Int) = 0) := by omega
            have hpp := hper hz
            have HCC := Lib.hid (fun W => perRank_any r s b d c W)
            rw [← hpp] at HCC
            clear hper hpp
            gi_wp2
            refine wpIn_wide.2 ?_
            refine wp_region_keeps (by kernel_rfl) (by kernel_rfl) ?_
            repeat (first
                | (with_reducible refine wpQuiet_step (fun K hK => ?_); go_simp; refine hK _ ?_; clear hK K)
                | (with_reducible refine wpQuiet_step (fun K hK => ?_); go_simp
                   apply Exists.intro
                   refine ⟨fun w' hw' => ?_, hK _ ?_⟩
                   focus
                     obtain ⟨hcq, hfq⟩ := hw'.cells
                     go_simp
                     first
                       | (exact hw'.call (HCC.out _))
                       | rfl
                   clear hK K)
                | (with_reducible refine wpQuiet_step (fun K hK => ?_); go_simp; with_reducible refine ite_no ?_ ?_; (exact (by decide)); refine hK _ ?_; clear hK K))
            with_reducible refine wpQuiet_nil ?_
            intro w9 hw9
            have HW9 := Lib.hid hw9
            have m9 := old_at hw9 HQ.out.2.2.1
            have m91 := cell_of_row w9 (S + 1) 0 _ 3 (0, 0) m9
            simp at m91
            clear m9 hw9
            gi_wp2
            obtain ⟨f1, f2, f3, f4, hd9⟩ := HQ.out
            have hw9 := HW9.out
            have e1 : (((k + 1 : Nat) : Nat) : Int) = (k : Int) + 1 := by omega
            refine ⟨⟨k + 1, ?_⟩, ?_⟩
            · rw [HLN.out.2.1, e1, Int.natCast_add]
              skip
              exact ⟨_, _, _, _, _, _, _, _, _, _, _, _, _, _, _, _, _, _, _, _, by have := HLT.out; omega, f1.keeps hBA hw9, old_at hw9 f2, hd9.chg (Chg.of_below hw9 (fun _ => False)) (fun _ h => h.elim), rfl⟩
            · have := HLT.out; simp [intOf]; omega
      · have hk8 : k = 8 := by omega
        subst hk8
        clear hlt hk
        have q1 := cell_of_row w' Pg 0 _ 3 (0, 0) hP
        have q2 := cell_of_row w' A 0 _ 3 (0, 0) hF.2.2.1
        have q3 := frozen_of_row w' (w.heap.size + 1) 0 _ 4 hF.2.1
        have q4 := cell_of_row w' (w.heap.size + 1) 0 _ 4 (0, 0) hF.2.1
        simp at q1 q2 q4
        have hsum : p0 = al := by rw [HP0.out, HAL.out, all_sum, Nat.min_eq_right (rkN_le r s b d c)]
        subst hsum
        clear hF hP hd
        gi_wp2_with fail
        obtain ⟨hF, hP, hd⟩ := HT.out
        have hc := set_chg (cw := fun i => i = w.heap.size + 1) w' (w.heap.size + 1) (.bool true) rfl
        refine finish10 _ ds w _ rfl (heap_setCell_same w' (w.heap.size + 1) 0 _ _ (.bool true) hF.2.1) (hd.same (fun D _ _ g => chg_at hc g (fun e => by subst e; rw [hF.2.1] at g; cases g))) (hF.2.2.2.setCell (by show w.heap.size ≤ w.heap.size + 1; omega) _)

set_option maxRecDepth 100000 in
set_option maxHeartbeats 4000000 in
theorem walk_big (r s b d c : Int) (hrt : rightB r s b d c = true) (bc : In64 c) (hsz : (r + s) * b * d * c ≤ 600 → False) (w : World) : Calls Try.prog 10 #[.agg #[.int .i64 r, .int .i64 s, .int .i64 b, .int .i64 d, .int .i64 c]] w fun e w' => e = .returned (.bool true) ∧ Below w.heap.size w w' := by
  have HR := Lib.hid (fun (w : World) => (show Calls Try.prog 15 #[.agg #[.int .i64 r, .int .i64 s, .int .i64 b, .int .i64 d, .int .i64 c]] w (fun e w' => e = .returned (.bool true) ∧ Below w.heap.size w w') by have := rright_any r s b d c w; rw [hrt] at this; exact this))
  have hp := rightB_yes hrt
  obtain ⟨_, _, _, _, _, _, _, _, ⟨p1, p2⟩, ⟨p3, p4⟩, ⟨p5, p6⟩⟩ := prod_in hp.1 hp.2.1 hp.2.2.1 hp.2.2.2.1 hp.2.2.2.2.1 hp.2.2.2.2.2.1
  have hrs := rightB_bd hrt
  have hbig : 600 < (r + s) * b * d * c := Int.not_le.1 hsz
  clear hsz
  clear hp hrt
  refine (callsIn_wide (n := 9)).1 ?_
  refine callsIn_of_wp_marks Try.func10 rfl trivial ?_
  simp only [Try.ntmps10, List.size_toArray, List.length_cons, List.length_nil, Nat.reduceAdd, Nat.reduceSub, Array.replicate_succ, Array.replicate_zero, List.push_toArray, List.append_toArray, List.nil_append, List.cons_append]
  gi_wp2_with fail
  refine ⟨trivial, ?_⟩
  refine ((callsIn_wide (n := 8)).2 (anchor_any _)).mono ?_
  rintro e w1 ⟨rfl, hb1⟩
  have h1 : w1.heap[w.heap.size]? = some (.cells #[.int .i64 r, .int .i64 s, .int .i64 b, .int .i64 d, .int .i64 c] 23 (0, 0)) ∧ w1.heap[w.heap.size + 1]? = some (.cells #[.bool false] 4 (0, 0)) ∧ Below w.heap.size w w1 := by
    have kk : Keeps w ((w.alloc (.cells #[.int .i64 r, .int .i64 s, .int .i64 b, .int .i64 d, .int .i64 c] 23)).alloc (.cells #[.bool false] 4)) := ((Below.refl _ _).alloc (Nat.le_refl _) _).alloc (by simp) _
    refine ⟨old_at hb1 ?_, old_at hb1 (han _ _ _ (by simp)), Keeps.next kk hb1⟩
    rw [hao _ _ _ (by simp)]; exact han _ _ _ rfl
  clear hb1
  have g0 := cell_of_row w1 w.heap.size 0 _ 23 (0, 0) h1.1
  have g1 := cell_of_row w1 w.heap.size 1 _ 23 (0, 0) h1.1
  have g2 := cell_of_row w1 w.heap.size 2 _ 23 (0, 0) h1.1
  have g3 := cell_of_row w1 w.heap.size 3 _ 23 (0, 0) h1.1
  have g4 := cell_of_row w1 w.heap.size 4 _ 23 (0, 0) h1.1
  simp at g0 g1 g2 g3 g4
  have z1 := at_lt h1.2.1
  have z0 : w.heap.size < w1.heap.size := by omega
  gi_wp2_with fail
  refine ⟨trivial, ?_⟩
  refine ((callsIn_wide (n := 8)).2 (HR.out _)).mono ?_
  rintro e w2 ⟨rfl, hb2⟩
  have h2 : w2.heap[w.heap.size]? = some (.cells #[.int .i64 r, .int .i64 s, .int .i64 b, .int .i64 d, .int .i64 c] 23 (0, 0)) ∧ w2.heap[w.heap.size + 1]? = some (.cells #[.bool false] 4 (0, 0)) ∧ Below w.heap.size w w2 := ⟨old_at hb2 h1.1, old_at hb2 h1.2.1, Keeps.next h1.2.2 hb2⟩
  clear hb2 h1 g0 g1 g2 g3 g4 z0 z1
  have g0 := cell_of_row w2 w.heap.size 0 _ 23 (0, 0) h2.1
  have g1 := cell_of_row w2 w.heap.size 1 _ 23 (0, 0) h2.1
  have g2 := cell_of_row w2 w.heap.size 2 _ 23 (0, 0) h2.1
  have g3 := cell_of_row w2 w.heap.size 3 _ 23 (0, 0) h2.1
  have g4 := cell_of_row w2 w.heap.size 4 _ 23 (0, 0) h2.1
  simp at g0 g1 g2 g3 g4
  have z1 := at_lt h2.2.1
  have z0 : w.heap.size < w2.heap.size := by omega
  have z4 : w.heap.size < w2.heap.size + 1 := by omega
  have H2 := Lib.hid h2
  clear h2
  have m9 := frozen_of_row w2 (w.heap.size + 1) 0 _ 4 H2.out.2.1
  have m8 := cell_of_row w2 (w.heap.size + 1) 0 _ 4 (0, 0) H2.out.2.1
  simp at m8
  gi_wp2_with fail
  obtain ⟨h2a, h2b, h2c⟩ := H2.out
  exact finish10 _ [] w _ rfl (heap_setCell_same w2 (w.heap.size + 1) 0 _ _ (.bool true) h2b) trivial (h2c.setCell (by show w.heap.size ≤ w.heap.size + 1; omega) _)

theorem walk (r s b d c : Int) (br : In64 r) (bs : In64 s) (bb : In64 b) (bd : In64 d) (bc : In64 c) (w : World) : Calls Try.prog 10 #[.agg #[.int .i64 r, .int .i64 s, .int .i64 b, .int .i64 d, .int .i64 c]] w fun e w' => e = .returned (.bool true) ∧ Below w.heap.size w w' := by
  cases hrt : rightB r s b d c
  · exact walk_wrong r s b d c hrt bc w
  · by_cases hsz : (r + s) * b * d * c ≤ 600
    · exact walk_right r s b d c hrt bc hsz w
    · exact walk_big r s b d c hrt bc hsz w

set_option maxRecDepth 100000 in
theorem lifted (os : Os) (started : os.Started) (H : Type) (enc : TypeId × Value → H) :
    ReturnsInHanded {} Try.checked os 10 .any (Rows.geomPartsSpec.pre6 enc Try.prog Try.f10 Rows.geomPartsRow.domain false) (Rows.geomPartsSpec.post enc Try.prog Try.f10 false true false false) := by
  refine returnsInHanded_of_change (C := Try.checked) own started (by kernel_rfl) Try.func10
    (ChangeSpec.witness6 (enc := enc) (C := Try.checked) false ⟨#[], #[.agg #[.int .i64 0, .int .i64 0, .int .i64 0, .int .i64 0, .int .i64 0]], []⟩ 8 (by kernel_rfl) (by kernel_rfl) (by kernel_rfl) (by kernel_rfl)) ?_
  intro W base args ds gs before hval0 hW hcnd _
  have hval : ∀ (j : Nat) t v, Try.f10.params[j]? = some t → args[j]? = some v → Value.okWide Try.prog W .any base t v := hval0
  have hW' := hW
  obtain ⟨p, q, hA0, hV, rfl, hfz, hnd⟩ := hW
  have hA : DataW.TrodAll enc Try.prog W 0 (fun _ => true) true Try.f10.params.toList args.toList ds p := hA0
  rw [Try.params10] at hA hval
  obtain ⟨v0, vs0, d0, ds0, p0, q0, hargs, rfl, rfl, h0, r0⟩ := trodAll_cons hA
  obtain ⟨rfl, rfl, rfl⟩ := trodAll_nil r0
  obtain rfl : args = #[v0] := by cases args; simp_all
  obtain ⟨rfl, rfl⟩ := trodVars_none hV
  have k0 := h0
  have lt0 : ∀ x ∈ p0, x.block < W.heap.size := by obtain ⟨m, hm⟩ := k0; exact DataW.trod_lt m _ _ _ hm
  obtain ⟨g0, g1, g2, g3, g4, rfl, bg0, bg1, bg2, bg3, bg4⟩ := open_geom (hval 0 23 v0 rfl rfl) h0
  clear hA0 hval0
  refine (walk g0 g1 g2 g3 g4 bg0 bg1 bg2 bg3 bg4 W).mono fun e W' ⟨he, bel⟩ => ?_
  subst he
  exact ⟨_, rfl, _, _, _, [], _, [], hW', trodAll_mk1 (shut_bool Try.underlying4 _), (trodAll_cons_mk (Below.trod laidOut (by kernel_rfl) (of_decide_eq_true (by kernel_rfl)) k0 bel lt0) trodAll_mk0), rfl, bel.frame _, fun h => by cases h⟩

theorem over : Rows.geomPartsRow.holds Try.pinned (OpenSpec.ofChange Rows.geomPartsSpec) :=
  OpenClaim.holds_of_wide 10 Try.f10 rfl rfl rfl rfl rfl rfl rfl ⟨rfl, rfl, rfl, rfl, rfl⟩ rfl rfl rfl rfl rfl (by kernel_rfl) Try.func10 (by kernel_rfl)
    (of_decide_eq_true (by kernel_rfl)) (by unfold Func.isWrapper; first | (rw [if_pos (by decide +kernel)]; kernel_rfl) | (rw [if_neg (by decide +kernel)]; exact ⟨rfl, rfl⟩))
    (fun os started H enc _ => lifted os started H enc)

theorem proved : Rows.GeomPartsSaid := over
#print axioms proved
end gparts
end Go.Proofs.Ytjmcpeobncoinaa
