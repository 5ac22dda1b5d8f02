/- All indices come in order, each once, as far as they are asked; a rank's and a page's are those of all that lie there: for any geometry and numbers. No condition. -/
import Derived.Test.YtjmcpeobncoinaaPlW
import Derived.Test.YtjmcpeobncoinaaFr
namespace Go.Proofs.Ytjmcpeobncoinaa
set_option linter.unusedVariables false
open Go.ChangeShapes Go.WideShapes Go.ChangeAt Go.RowKit Go.Shelf
attribute [local go_sem] Oper.semAt_some
namespace walks

def Hd (w : World) (r s b d c rk pg st : Int) (W : World) : Prop :=
  W.heap[w.heap.size]? = some (.cells #[.int .i64 r, .int .i64 s, .int .i64 b, .int .i64 d, .int .i64 c] 23 (0, 0)) ∧ W.heap[w.heap.size + 1]? = some (.cells #[.int .i64 rk] 3 (0, 0)) ∧ W.heap[w.heap.size + 1 + 1]? = some (.cells #[.int .i64 pg] 3 (0, 0)) ∧
    W.heap[w.heap.size + 1 + 1 + 1]? = some (.cells #[.int .i64 st] 3 (0, 0)) ∧ W.heap[w.heap.size + 1 + 1 + 1 + 1]? = some (.cells #[.bool false] 4 (0, 0)) ∧ Below w.heap.size w W
theorem hd_new (w : World) (r s b d c rk pg st : Int) : Hd w r s b d c rk pg st (((((w.alloc (.cells #[.int .i64 r, .int .i64 s, .int .i64 b, .int .i64 d, .int .i64 c] 23)).alloc (.cells #[.int .i64 rk] 3)).alloc (.cells #[.int .i64 pg] 3)).alloc (.cells #[.int .i64 st] 3)).alloc (.cells #[.bool false] 4)) := by
  refine ⟨?_, ?_, ?_, ?_, ?_, ?_⟩
  · rw [hao _ _ _ (by first | (simp; done) | (simp; omega)), hao _ _ _ (by first | (simp; done) | (simp; omega)), hao _ _ _ (by first | (simp; done) | (simp; omega)), hao _ _ _ (by simp)]; exact han _ _ _ rfl
  · rw [hao _ _ _ (by first | (simp; done) | (simp; omega)), hao _ _ _ (by first | (simp; done) | (simp; omega)), hao _ _ _ (by simp)]; exact han _ _ _ (by simp)
  · rw [hao _ _ _ (by first | (simp; done) | (simp; omega)), hao _ _ _ (by simp)]; exact han _ _ _ (by simp)
  · rw [hao _ _ _ (by simp)]; exact han _ _ _ (by simp)
  · exact han _ _ _ (by simp)
  · exact (((((Below.refl _ _).alloc (Nat.le_refl _) _).alloc (by simp) _).alloc (by first | (simp; done) | (simp; omega)) _).alloc (by first | (simp; done) | (simp; omega)) _).alloc (by first | (simp; done) | (simp; omega)) _
theorem Hd.chg {w : World} {r s b d c rk pg st : Int} {cw : Nat → Prop} {A B : World} (h : Hd w r s b d c rk pg st A) (hc : Chg cw A B) (h0 : ∀ i, cw i → w.heap.size + 1 + 1 + 1 + 1 < i) : Hd w r s b d c rk pg st B := by
  obtain ⟨h1, h2, h3, h4, h5, h6⟩ := h
  exact ⟨chg_at hc h1 (fun h => by have := h0 _ h; omega), chg_at hc h2 (fun h => by have := h0 _ h; omega), chg_at hc h3 (fun h => by have := h0 _ h; omega), chg_at hc h4 (fun h => by have := h0 _ h; omega), chg_at hc h5 (fun h => by have := h0 _ h; omega), h6.trans (hc.below h6.size (fun i h => by have := h0 _ h; omega))⟩
theorem Hd.keeps {w : World} {r s b d c rk pg st : Int} {A B : World} (h : Hd w r s b d c rk pg st A) (hk : Keeps A B) : Hd w r s b d c rk pg st B := h.chg (Chg.of_below hk (fun _ => False)) (fun _ h => h.elim)

def Ev (w : World) (r s b d c rk pg st : Int) (A base : Nat) (v : Value) (L : List Int) (W : World) : Prop :=
  Hd w r s b d c rk pg st W ∧ W.heap[A]? = some (.cells #[v] 51 (0, 0)) ∧ SlI W base v L
theorem Ev.chg {w : World} {r s b d c rk pg st : Int} {A base : Nat} {v : Value} {L : List Int} {cw : Nat → Prop} {X Y : World} (h : Ev w r s b d c rk pg st A base v L X) (hBA : w.heap.size + 1 + 1 + 1 + 1 < A) (hv : ∀ g, v.ownBlock = some g → g < A) (hc : Chg cw X Y) (h0 : ∀ i, cw i → A < i) : Ev w r s b d c rk pg st A base v L Y :=
  ⟨h.1.chg hc (fun i hi => by have := h0 i hi; omega), chg_at hc h.2.1 (fun hi => by have := h0 _ hi; omega), h.2.2.chg2 hc (fun g hg hi => by have := hv g hg; have := h0 g hi; omega)⟩
/-- three numbers in three cells behind A -/
def Nn (A : Nat) (x y z : Int) (W : World) : Prop := W.heap[A + 1]? = some (.cells #[.int .i64 x] 3 (0, 0)) ∧ W.heap[A + 1 + 1]? = some (.cells #[.int .i64 y] 3 (0, 0)) ∧ W.heap[A + 1 + 1 + 1]? = some (.cells #[.int .i64 z] 3 (0, 0))
theorem Nn.chg {A : Nat} {x y z : Int} {cw : Nat → Prop} {X Y : World} (h : Nn A x y z X) (hc : Chg cw X Y) (h0 : ∀ i, cw i → A + 1 + 1 + 1 < i) : Nn A x y z Y :=
  ⟨chg_at hc h.1 (fun hi => by have := h0 _ hi; omega), chg_at hc h.2.1 (fun hi => by have := h0 _ hi; omega), chg_at hc h.2.2 (fun hi => by have := h0 _ hi; omega)⟩
/-- a slice in a cell -/
def Sc (C base : Nat) (v : Value) (L : List Int) (W : World) : Prop := W.heap[C]? = some (.cells #[v] 51 (0, 0)) ∧ SlI W base v L
theorem Sc.chg {C base : Nat} {v : Value} {L : List Int} {cw : Nat → Prop} {X Y : World} (h : Sc C base v L X) (hc : Chg cw X Y) (h0 : ¬ cw C) (h1 : ∀ g, v.ownBlock = some g → ¬ cw g) : Sc C base v L Y := ⟨chg_at hc h.1 h0, h.2.chg2 hc h1⟩
theorem take_more {L : List Int} {k : Nat} (h : k < L.length) : L.take (k + 1) = L.take k ++ [L.getD k 0] := by
  rw [List.take_add_one]; simp [List.getD, h]
theorem rankL_le (r s b d c rk : Int) : (rankL r s b d c rk).length ≤ 1048576 := by
  cases hh : holdsB r s b d c rk 0 0 0
  · rw [rankL_no hh]; simp
  · rw [rankL_len hh]
    have := rightB_bd (holdsB_yes hh).1
    have e1 : d.toNat * c.toNat ≤ 1024 * 64 := Nat.mul_le_mul (by omega) (by omega)
    have e2 : b.toNat * (d.toNat * c.toNat) ≤ 16 * (1024 * 64) := Nat.mul_le_mul (by omega) e1
    omega
theorem allL_le (r s b d c : Int) : (allL r s b d c).length ≤ 8388608 := by
  cases hh : rightB r s b d c
  · rw [allL_no hh]; simp
  · rw [allL_len hh]
    have := rightB_bd hh
    have e1 : d.toNat * c.toNat ≤ 1024 * 64 := Nat.mul_le_mul (by omega) (by omega)
    have e2 : b.toNat * (d.toNat * c.toNat) ≤ 16 * (1024 * 64) := Nat.mul_le_mul (by omega) e1
    have e3 : (r + s).toNat * (b.toNat * (d.toNat * c.toNat)) ≤ 8 * (16 * (1024 * 64)) := Nat.mul_le_mul (by omega) e2
    unfold perN; omega
theorem pageL_le (r s b d c pg : Int) : (pageL r s b d c pg).length ≤ 64 := by
  cases hh : pageOk r s b d c pg
  · rw [pageL_no hh]; simp
  · rw [pageL_len hh]
    have := rightB_bd (pageOk_yes hh).2.2.1
    omega

theorem Nn.set1 {A : Nat} {x y z : Int} {W : World} (h : Nn A x y z W) (x' : Int) : Nn A x' y z (W.setCell ⟨A + 1, 0, none⟩ (.int .i64 x')) :=
  ⟨heap_setCell_same W (A + 1) 0 _ _ _ h.1, (heap_setCell_other _ _ _ _ (by show A + 1 + 1 ≠ A + 1; omega)).trans h.2.1, (heap_setCell_other _ _ _ _ (by show A + 1 + 1 + 1 ≠ A + 1; omega)).trans h.2.2⟩
theorem Nn.set2 {A : Nat} {x y z : Int} {W : World} (h : Nn A x y z W) (y' : Int) : Nn A x y' z (W.setCell ⟨A + 1 + 1, 0, none⟩ (.int .i64 y')) :=
  ⟨(heap_setCell_other _ _ _ _ (by show A + 1 ≠ A + 1 + 1; omega)).trans h.1, heap_setCell_same W (A + 1 + 1) 0 _ _ _ h.2.1, (heap_setCell_other _ _ _ _ (by show A + 1 + 1 + 1 ≠ A + 1 + 1; omega)).trans h.2.2⟩
theorem Nn.set3 {A : Nat} {x y z : Int} {W : World} (h : Nn A x y z W) (z' : Int) : Nn A x y z' (W.setCell ⟨A + 1 + 1 + 1, 0, none⟩ (.int .i64 z')) :=
  ⟨(heap_setCell_other _ _ _ _ (by show A + 1 ≠ A + 1 + 1 + 1; omega)).trans h.1, (heap_setCell_other _ _ _ _ (by show A + 1 + 1 ≠ A + 1 + 1 + 1; omega)).trans h.2.1, heap_setCell_same W (A + 1 + 1 + 1) 0 _ _ _ h.2.2⟩
theorem set_chg {cw : Nat → Prop} (W : World) (C : Nat) (u : Value) (h : cw C) : Chg cw W (W.setCell ⟨C, 0, none⟩ u) := Chg.setCell (Chg.refl _ _) (p := ⟨C, 0, none⟩) (.inl h) u
theorem all_nonneg (r s b d c : Int) (j : Nat) (hj : j < (allL r s b d c).length) : 0 ≤ (allL r s b d c).getD j 0 ∧ (allL r s b d c).getD j 0 < 8388608 := by
  cases hrt : rightB r s b d c
  · rw [allL_no hrt] at hj; simp at hj
  have bd := rightB_bd hrt
  rw [all_at hrt j hj]
  have e := (pre_parts (b := b) (d := d) (c := c) (by omega) j).1
  rw [allL_len hrt] at hj
  have : j / perN b d c < (r + s).toNat := (Nat.div_lt_iff_lt_mul (per_pos hrt)).2 hj
  generalize j / perN b d c = k at *
  omega
/-- the slices and marks behind the loops -/
structure St (w : World) (r s b d c rk pg st : Int) (A base : Nat) (v : Value) (L : List Int) (b1 : Nat) (v1 : Value) (L1 : List Int) (b2 : Nat) (v2 : Value) (L2 : List Int) (ds : List Deferred) (W : World) : Prop where
  ev : Ev w r s b d c rk pg st A base v L W
  s1 : Sc (A + 1 + 1 + 1 + 1) b1 v1 L1 W
  s2 : Sc (A + 1 + 1 + 1 + 1 + 1) b2 v2 L2 W
  ds : Dfs w.heap.size W ds
theorem St.chg {w : World} {r s b d c rk pg st : Int} {A base : Nat} {v : Value} {L : List Int} {b1 : Nat} {v1 : Value} {L1 : List Int} {b2 : Nat} {v2 : Value} {L2 : List Int} {ds : List Deferred} {cw : Nat → Prop} {X Y : World}
    (h : St w r s b d c rk pg st A base v L b1 v1 L1 b2 v2 L2 ds X) (hBA : w.heap.size + 1 + 1 + 1 + 1 < A) (hv : ∀ g, v.ownBlock = some g → g < A) (hc : Chg cw X Y) (h0 : ∀ i, cw i → A < i ∧ i ≠ A + 1 + 1 + 1 + 1 ∧ i ≠ A + 1 + 1 + 1 + 1 + 1) (h1 : ∀ g, v1.ownBlock = some g → ¬ cw g) (h2 : ∀ g, v2.ownBlock = some g → ¬ cw g) (h3 : ∀ D, mk1 D ∈ ds → ¬ cw D) :
    St w r s b d c rk pg st A base v L b1 v1 L1 b2 v2 L2 ds Y :=
  ⟨h.ev.chg hBA hv hc (fun i hi => (h0 i hi).1), h.s1.chg hc (fun hi => (h0 _ hi).2.1 rfl) h1, h.s2.chg hc (fun hi => (h0 _ hi).2.2 rfl) h2, h.ds.same (fun D _ hm g => chg_at hc g (h3 D hm))⟩
theorem finish9 (T : Array Value) (ds : List Deferred) (w w9 : World) (hT : T.getD 8 undef = .pointer (some ⟨w.heap.size + 1 + 1 + 1 + 1, 0, none⟩)) (g9 : w9.heap[w.heap.size + 1 + 1 + 1 + 1]? = some (.cells #[.bool true] 4 (0, 0))) (hd : Dfs w.heap.size w9 ds) (hB : Below w.heap.size w w9) :
    bodyPostM Fence.wide 9 Try.prog Try.f9 (fun e w' => e = .returned (.bool true) ∧ Below w.heap.size w w') .ret { tmps := T, defers := ds } w9 := by
  refine leaves_dfs ds w9 hd (fun w' hc hk => ?_)
  have g3 := hk _ _ g9 (fun s h => by cases h)
  have c3 := cell_of_row w' (w.heap.size + 1 + 1 + 1 + 1) 0 _ 4 (0, 0) g3
  simp only [List.getElem?_toArray, List.getElem?_cons_zero] at c3
  have hT' : T[8]?.getD undef = .pointer (some ⟨w.heap.size + 1 + 1 + 1 + 1, 0, none⟩) := by simpa using hT
  refine ⟨.bool true, ?_, rfl, hB.trans (hc.below hB.size (fun i h => h))⟩
  simp [results, Try.results9, go_sem, hT', c3]

set_option maxRecDepth 100000 in
set_option maxHeartbeats 4000000 in
theorem walk_right (r s b d c rk pg st : Int) (bc : In64 c) (hrt : rightB r s b d c = true) (hsz : (r + s) * b * d * c ≤ 600) (w : World) : Calls Try.prog 9 #[.agg #[.int .i64 r, .int .i64 s, .int .i64 b, .int .i64 d, .int .i64 c], .int .i64 rk, .int .i64 pg, .int .i64 st] w fun e w' => e = .returned (.bool true) ∧ Below w.heap.size w w' := by
  have HR := Lib.hid (fun (w : World) => (show Calls Try.prog 15 #[.agg #[.int .i64 r, .int .i64 s, .int .i64 b, .int .i64 d, .int .i64 c]] w (fun e w' => e = .returned (.bool true) ∧ Below w.heap.size w w') by have := rright_any r s b d c w; rw [hrt] at this; exact this))
  have hp := rightB_yes hrt
  obtain ⟨_, _, _, _, _, _, _, _, ⟨p1, p2⟩, ⟨p3, p4⟩, ⟨p5, p6⟩⟩ := prod_in hp.1 hp.2.1 hp.2.2.1 hp.2.2.2.1 hp.2.2.2.2.1 hp.2.2.2.2.2.1
  have hrs := rightB_bd hrt
  have HT := Lib.hid (And.intro hrt hrs)
  clear hp hrt
  refine (callsIn_wide (n := 9)).1 ?_
  refine callsIn_of_wp_marks Try.func9 rfl trivial ?_
  simp only [Try.ntmps9, List.size_toArray, List.length_cons, List.length_nil, Nat.reduceAdd, Nat.reduceSub, Array.replicate_succ, Array.replicate_zero, List.push_toArray, List.append_toArray, List.nil_append, List.cons_append]
  gi_wp2_with fail
  refine ⟨trivial, ?_⟩
  refine ((callsIn_wide (n := 8)).2 (anchor_any _)).mono ?_
  rintro e w1 ⟨rfl, hb1⟩
  have h1 := (hd_new w r s b d c rk pg st).keeps hb1
  clear hb1
  have c0 := cell_of_row w1 w.heap.size 0 _ 23 (0, 0) h1.1
  have c1 := cell_of_row w1 w.heap.size 1 _ 23 (0, 0) h1.1
  have c2 := cell_of_row w1 w.heap.size 2 _ 23 (0, 0) h1.1
  have c3 := cell_of_row w1 w.heap.size 3 _ 23 (0, 0) h1.1
  have c4 := cell_of_row w1 w.heap.size 4 _ 23 (0, 0) h1.1
  have c5 := cell_of_row w1 (w.heap.size + 1) 0 _ 3 (0, 0) h1.2.1
  have c6 := cell_of_row w1 (w.heap.size + 1 + 1) 0 _ 3 (0, 0) h1.2.2.1
  have c7 := cell_of_row w1 (w.heap.size + 1 + 1 + 1) 0 _ 3 (0, 0) h1.2.2.2.1
  have c8 := cell_of_row w1 (w.heap.size + 1 + 1 + 1 + 1) 0 _ 4 (0, 0) h1.2.2.2.2.1
  have zz : w.heap.size + 1 + 1 + 1 + 1 < w1.heap.size := at_lt h1.2.2.2.2.1
  have za : w.heap.size < w1.heap.size := by omega
  have zb : w.heap.size + 1 < w1.heap.size := by omega
  have zc : w.heap.size + 1 + 1 < w1.heap.size := by omega
  have zd : w.heap.size + 1 + 1 + 1 < w1.heap.size := by omega
  simp at c0 c1 c2 c3 c4 c5 c6 c7 c8
  gi_wp2_with fail
  refine ⟨trivial, ?_⟩
  refine ((callsIn_wide (n := 8)).2 (HR.out _)).mono ?_
  rintro e w2 ⟨rfl, hb2⟩
  have kk2 : Keeps w1 w2 := Keeps.next ((Below.refl _ _).alloc (Nat.le_refl _) _) hb2
  have h2 := h1.keeps kk2
  have X2 : w2.heap[w1.heap.size]? = some (.cells #[.int .i64 r, .int .i64 s, .int .i64 b, .int .i64 d, .int .i64 c] 31 (0, 0)) := old_at hb2 (han _ _ _ rfl)
  have z1 := at_lt X2
  clear hb2 kk2 h1 c0 c1 c2 c3 c4 c5 c6 c7 c8 za zb zc zd zz
  have c0 := cell_of_row w2 w.heap.size 0 _ 23 (0, 0) h2.1
  have c1 := cell_of_row w2 w.heap.size 1 _ 23 (0, 0) h2.1
  have c2 := cell_of_row w2 w.heap.size 2 _ 23 (0, 0) h2.1
  have c3 := cell_of_row w2 w.heap.size 3 _ 23 (0, 0) h2.1
  have c4 := cell_of_row w2 w.heap.size 4 _ 23 (0, 0) h2.1
  have c5 := cell_of_row w2 (w.heap.size + 1) 0 _ 3 (0, 0) h2.2.1
  have c6 := cell_of_row w2 (w.heap.size + 1 + 1) 0 _ 3 (0, 0) h2.2.2.1
  have c7 := cell_of_row w2 (w.heap.size + 1 + 1 + 1) 0 _ 3 (0, 0) h2.2.2.2.1
  have c8 := cell_of_row w2 (w.heap.size + 1 + 1 + 1 + 1) 0 _ 4 (0, 0) h2.2.2.2.2.1
  have zz : w.heap.size + 1 + 1 + 1 + 1 < w2.heap.size := at_lt h2.2.2.2.2.1
  have za : w.heap.size < w2.heap.size := by omega
  have zb : w.heap.size + 1 < w2.heap.size := by omega
  have zc : w.heap.size + 1 + 1 < w2.heap.size := by omega
  have zd : w.heap.size + 1 + 1 + 1 < w2.heap.size := by omega
  simp at c0 c1 c2 c3 c4 c5 c6 c7 c8
  have x0 := cell_of_row w2 w1.heap.size 0 _ 31 (0, 0) X2
  have x1 := cell_of_row w2 w1.heap.size 1 _ 31 (0, 0) X2
  have x2 := cell_of_row w2 w1.heap.size 2 _ 31 (0, 0) X2
  have x3 := cell_of_row w2 w1.heap.size 3 _ 31 (0, 0) X2
  have x4 := cell_of_row w2 w1.heap.size 4 _ 31 (0, 0) X2
  simp at x0 x1 x2 x3 x4
  gi_wp2_with fail
  refine ⟨trivial, ?_⟩
  refine ((callsIn_wide (n := 8)).2 (rall_any r s b d c _)).mono ?_
  rintro e w3 ⟨v, rfl, hsl, hb3⟩
  obtain ⟨av, cv, hv⟩ := hsl.slice
  obtain ⟨n, hn⟩ : ∃ n, n = (allL r s b d c).length := ⟨_, rfl⟩
  rw [← hn] at hv
  subst hv
  have HN := Lib.hid hn
  have h3 := h2.keeps hb3
  clear hb3 h2 hn X2 c0 c1 c2 c3 c4 c5 c6 c7 c8 za zb zc zd zz x0 x1 x2 x3 x4
  have c0 := cell_of_row w3 w.heap.size 0 _ 23 (0, 0) h3.1
  have c1 := cell_of_row w3 w.heap.size 1 _ 23 (0, 0) h3.1
  have c2 := cell_of_row w3 w.heap.size 2 _ 23 (0, 0) h3.1
  have c3 := cell_of_row w3 w.heap.size 3 _ 23 (0, 0) h3.1
  have c4 := cell_of_row w3 w.heap.size 4 _ 23 (0, 0) h3.1
  have c5 := cell_of_row w3 (w.heap.size + 1) 0 _ 3 (0, 0) h3.2.1
  have c6 := cell_of_row w3 (w.heap.size + 1 + 1) 0 _ 3 (0, 0) h3.2.2.1
  have c7 := cell_of_row w3 (w.heap.size + 1 + 1 + 1) 0 _ 3 (0, 0) h3.2.2.2.1
  have c8 := cell_of_row w3 (w.heap.size + 1 + 1 + 1 + 1) 0 _ 4 (0, 0) h3.2.2.2.2.1
  have zz : w.heap.size + 1 + 1 + 1 + 1 < w3.heap.size := at_lt h3.2.2.2.2.1
  have za : w.heap.size < w3.heap.size := by omega
  have zb : w.heap.size + 1 < w3.heap.size := by omega
  have zc : w.heap.size + 1 + 1 < w3.heap.size := by omega
  have zd : w.heap.size + 1 + 1 + 1 < w3.heap.size := by omega
  simp at c0 c1 c2 c3 c4 c5 c6 c7 c8
  have la1 : w.heap.size < w3.heap.size + 1 := by omega
  have lb1 : w.heap.size + 1 < w3.heap.size + 1 := by omega
  have la2 : w.heap.size < w3.heap.size + 1 + 1 := by omega
  have lb2 : w.heap.size + 1 < w3.heap.size + 1 + 1 := by omega
  have la3 : w.heap.size < w3.heap.size + 1 + 1 + 1 := by omega
  have lb3 : w.heap.size + 1 < w3.heap.size + 1 + 1 + 1 := by omega
  have la4 : w.heap.size < w3.heap.size + 1 + 1 + 1 + 1 := by omega
  have lb4 : w.heap.size + 1 < w3.heap.size + 1 + 1 + 1 + 1 := by omega
  have la5 : w.heap.size < w3.heap.size + 1 + 1 + 1 + 1 + 1 := by omega
  have lb5 : w.heap.size + 1 < w3.heap.size + 1 + 1 + 1 + 1 + 1 := by omega
  have la6 : w.heap.size < w3.heap.size + 1 + 1 + 1 + 1 + 1 + 1 := by omega
  have lb6 : w.heap.size + 1 < w3.heap.size + 1 + 1 + 1 + 1 + 1 + 1 := by omega
  have HS3 := Lib.hid hsl
  have H3 := Lib.hid h3
  clear hsl h3
  gi_wp2_with fail
  refine ⟨trivial, ?_⟩
  refine ((callsIn_wide (n := 8)).2 (Rank_any r s b d c rk _)).mono ?_
  rintro e w4 ⟨rfl, hw4⟩
  obtain ⟨A, hA⟩ : ∃ A, A = w3.heap.size := ⟨_, rfl⟩
  have hvA : ∀ g, (Value.slice av n cv).ownBlock = some g → g < A := fun g hg => by rw [hA]; exact (HS3.out.own g hg).2
  obtain ⟨base, hbase⟩ : ∃ base, base = w2.heap.size + 1 := ⟨_, rfl⟩
  have kk : Keeps w3 w4 := by rw [hw4]; refine ((((((((Below.refl _ _).alloc (Nat.le_refl _) _).alloc (by simp) _).alloc (by simp; omega) _).alloc (by simp; omega) _).alloc (by simp; omega) _).alloc (by simp; omega) _).alloc (by simp; omega) _).alloc (by simp; omega) _
  have hs4 : w4.heap.size = A + 1 + 1 + 1 + 1 + 1 + 1 + 1 + 1 := by rw [hw4, hA]; simp
  have R0 : w4.heap[A]? = some (.cells #[.slice av n cv] 51 (0, 0)) := by rw [hw4, hA]; rw [hao _ _ _ (by first | (simp; done) | (simp; omega)), hao _ _ _ (by first | (simp; done) | (simp; omega)), hao _ _ _ (by first | (simp; done) | (simp; omega)), hao _ _ _ (by first | (simp; done) | (simp; omega)), hao _ _ _ (by first | (simp; done) | (simp; omega)), hao _ _ _ (by first | (simp; done) | (simp; omega)), hao _ _ _ (by first | (simp; done) | (simp; omega))]; exact han _ _ _ (by first | rfl | (simp; done) | (simp; omega))
  have R1 : w4.heap[A + 1]? = some (.cells #[.int .i64 0] 3 (0, 0)) := by rw [hw4, hA]; rw [hao _ _ _ (by first | (simp; done) | (simp; omega)), hao _ _ _ (by first | (simp; done) | (simp; omega)), hao _ _ _ (by first | (simp; done) | (simp; omega)), hao _ _ _ (by first | (simp; done) | (simp; omega)), hao _ _ _ (by first | (simp; done) | (simp; omega)), hao _ _ _ (by first | (simp; done) | (simp; omega))]; exact han _ _ _ (by first | rfl | (simp; done) | (simp; omega))
  have R2 : w4.heap[A + 1 + 1]? = some (.cells #[.int .i64 0] 3 (0, 0)) := by rw [hw4, hA]; rw [hao _ _ _ (by first | (simp; done) | (simp; omega)), hao _ _ _ (by first | (simp; done) | (simp; omega)), hao _ _ _ (by first | (simp; done) | (simp; omega)), hao _ _ _ (by first | (simp; done) | (simp; omega)), hao _ _ _ (by first | (simp; done) | (simp; omega))]; exact han _ _ _ (by first | rfl | (simp; done) | (simp; omega))
  have R3 : w4.heap[A + 1 + 1 + 1]? = some (.cells #[.int .i64 0] 3 (0, 0)) := by rw [hw4, hA]; rw [hao _ _ _ (by first | (simp; done) | (simp; omega)), hao _ _ _ (by first | (simp; done) | (simp; omega)), hao _ _ _ (by first | (simp; done) | (simp; omega)), hao _ _ _ (by first | (simp; done) | (simp; omega))]; exact han _ _ _ (by first | rfl | (simp; done) | (simp; omega))
  have R4 : w4.heap[A + 1 + 1 + 1 + 1]? = some (.cells #[.slice none 0 0] 51 (0, 0)) := by rw [hw4, hA]; rw [hao _ _ _ (by first | (simp; done) | (simp; omega)), hao _ _ _ (by first | (simp; done) | (simp; omega)), hao _ _ _ (by first | (simp; done) | (simp; omega))]; exact han _ _ _ (by first | rfl | (simp; done) | (simp; omega))
  have R5 : w4.heap[A + 1 + 1 + 1 + 1 + 1]? = some (.cells #[.slice none 0 0] 51 (0, 0)) := by rw [hw4, hA]; rw [hao _ _ _ (by first | (simp; done) | (simp; omega)), hao _ _ _ (by first | (simp; done) | (simp; omega))]; exact han _ _ _ (by first | rfl | (simp; done) | (simp; omega))
  have R6 : w4.heap[A + 1 + 1 + 1 + 1 + 1 + 1]? = some (.cells #[.int .i64 r, .int .i64 s, .int .i64 b, .int .i64 d, .int .i64 c] 23 (0, 0)) := by rw [hw4, hA]; rw [hao _ _ _ (by first | (simp; done) | (simp; omega))]; exact han _ _ _ (by first | rfl | (simp; done) | (simp; omega))
  have R7 : w4.heap[A + 1 + 1 + 1 + 1 + 1 + 1 + 1]? = some (.cells #[.int .i64 rk] 3 (0, 0)) := by rw [hw4, hA]; exact han _ _ _ (by first | rfl | (simp; done) | (simp; omega))
  have hBA : w.heap.size + 1 + 1 + 1 + 1 < A := by rw [hA]; exact zz
  have hE : Ev w r s b d c rk pg st A base (.slice av n cv) (allL r s b d c) w4 := ⟨H3.out.keeps kk, R0, by rw [hbase]; exact HS3.out.keeps kk⟩
  have HX := Lib.hid (And.intro hE (And.intro (show Nn A 0 0 0 w4 from ⟨R1, R2, R3⟩) (And.intro R4 (And.intro R5 (And.intro R6 (And.intro R7 (And.intro hvA hBA)))))))
  simp only [World.size_alloc]
  rw [← hA]
  obtain ⟨H1, hH1⟩ : ∃ H1, H1 = w4.heap.size := ⟨_, rfl⟩
  have HH1 := Lib.hid (hH1.trans hs4)
  clear hvA hbase kk hs4 R0 R1 R2 R3 R4 R5 R6 R7 hBA hE hw4 HS3 H3 c0 c1 c2 c3 c4 c5 c6 c7 c8 za zb zc zd zz la1 lb1 la2 lb2 la3 lb3 la4 lb4 la5 lb5 la6 lb6 hA z1
  gi_wp2_with fail
  obtain ⟨hE, hN, R4, R5, R6, R7, hvA, hBA⟩ := HX.out
  refine wpIn_rangeFunc_itKw 9 9 (gf := 44) (lb := #[.pointer (some ⟨A + 1 + 1 + 1 + 1 + 1 + 1, 0, none⟩), .pointer (some ⟨A + 1 + 1 + 1 + 1 + 1 + 1 + 1, 0, none⟩)]) rfl (enters_of Try.func44 (by kernel_rfl) rfl) (oneV (rankL r s b d c rk)) (fun i => i = A + 1 + 1 + 1 + 1 + 1 + 1 ∨ i = A + 1 + 1 + 1 + 1 + 1 + 1 + 1) (fun i e => by rw [← hH1, HH1.out]; omega)
    (fun W1 hW1 => rank_call _ _ r s b d c rk W1 (old_at hW1 R6) (old_at hW1 R7))
    (fun k v hv => by obtain ⟨_, rfl⟩ := oneV_get _ k v hv; rfl)
    (fun i => i = A + 1 + 1 + 1 + 1 ∨ H1 + 1 + 1 ≤ i) (fun i hi => by rw [← hH1]; have := HH1.out; omega)
    (fun k W => Ev w r s b d c rk pg st A base (.slice av n cv) (allL r s b d c) W ∧ Nn A 0 0 0 W ∧ W.heap[A + 1 + 1 + 1 + 1 + 1]? = some (.cells #[.slice none 0 0] 51 (0, 0)) ∧ ∃ v1, Sc (A + 1 + 1 + 1 + 1) (H1 + 1 + 1) v1 ((rankL r s b d c rk).take k) W)
    (fun _ _ => False)
    (fun k X Y h hc => ?keep1) (fun _ _ _ h _ => h) ⟨hE, hN, R5, .slice none 0 0, R4, by rw [List.take_zero]; exact SlI.nil _ _⟩ ?round1 ?done1 (fun _ _ _ h _ => h.elim)
  case keep1 =>
    obtain ⟨g1, g2, g3, v1, g4⟩ := h
    have hh := HH1.out
    rw [← hH1] at hc
    exact ⟨g1.chg hBA hvA hc (fun i hi => by omega), g2.chg hc (fun i hi => by omega), chg_at hc g3 (by omega), v1, g4.chg hc (by omega) (fun g hg => by have := (g4.2.own g hg).1; omega)⟩
  case round1 =>
    intro k x W hx hW hi
    obtain ⟨hk, rfl⟩ := oneV_get _ k x hx
    have HK := Lib.hid hk
    clear hk hx
    generalize hxx : (rankL r s b d c rk).getD k 0 = x at *
    have HXX := Lib.hid hxx
    clear hxx
    gi_wp2_with fail
    refine ⟨Chg.refl _ _, hi, fun W2 hc2 hr2 hi2 => ?_⟩
    clear hi hr2
    obtain ⟨g1, g2, g3, v1, g4, g5⟩ := hi2
    obtain ⟨T1, hT1⟩ : ∃ T1, T1 = (rankL r s b d c rk).take k := ⟨_, rfl⟩
    rw [← hT1] at g5
    have hl1 : T1.length ≤ 1048576 := by rw [hT1, List.length_take]; have := rankL_le r s b d c rk; omega
    have hS : W2.ownsRow (H1 + 1 + 1) 3 1 v1 T1.length (T1.map (Value.int .i64)) := g5
    have m1 := cell_of_row W2 (A + 1 + 1 + 1 + 1) 0 _ 51 (0, 0) g4
    have m2 := at_lt g4
    have m3 : H1 + 1 + 1 ≤ W2.heap.size := by have := hc2.size; omega
    simp at m1
    obtain ⟨i0, hi0, hz0, hz1, hz2⟩ := info_parts info3
    have HG := Lib.hid (And.intro g1 (And.intro g2 (And.intro g3 (And.intro g4 (And.intro g5 hT1)))))
    clear g1 g2 g3 g4 hT1
    gi_wp2_with (gi_at_builtin; refine wpListIn_append_own _ rfl _ _ 51 rfl (H1 + 1 + 1) 3 i0 (.int .i64 0) 1 8 Try.underlying51 hi0 hz0 hz1 hz2 rfl (by decide) _ _ _ rfl (hS.alloc _) ⟨W2.heap.size, 0, none⟩ 1 1 [.int .i64 x] rfl rfl (cell_one_new _ _ _) (by simp [Value.oneCell']) (by unfold maxLen; omega) (by omega) (by simp; omega) ?_; intro v' w6 hown2 hgrow _; obtain ⟨aa, ca, hv'⟩ := SlI.slice (SlI.push hown2); rw [List.length_append, List.length_singleton] at hv'; subst hv'; obtain ⟨a1, a2, a3, a4⟩ := app_step g5 HG.out.2.2.2.1 hgrow hown2 (by have := HH1.out; omega); have b1 := cell_of_row w6 (A + 1 + 1 + 1 + 1) 0 _ 51 (0, 0) a1; have b2 := frozen_of_row w6 (A + 1 + 1 + 1 + 1) 0 _ 51 a1; simp at b1; have HA6 := Lib.hid (And.intro a2 (And.intro a3 a4)); clear a1 a2 a3 a4 hown2 hgrow)
    obtain ⟨a2, a3, a4⟩ := HA6.out
    obtain ⟨g1, g2, g3, g4, g5, hT1⟩ := HG.out
    have hh := HH1.out
    refine ⟨a2, g1.chg hBA hvA a2 (fun i hi => by omega), g2.chg a2 (fun i hi => by omega), chg_at a2 g3 (by omega), _, a3, ?_⟩
    rw [take_more HK.out, HXX.out, ← hT1]; exact a4
  case done1 =>
    rintro U hU ⟨g1, g2, g3, v1, g4⟩ hK
    rw [oneV_len, List.take_length] at g4
    rw [← hH1] at hU hK
    have hv1 : ∀ g, v1.ownBlock = some g → H1 + 1 + 1 ≤ g ∧ g < U.heap.size := g4.2.own
    have c0 := cell_of_row U w.heap.size 0 _ 23 (0, 0) g1.1.1
    have c1 := cell_of_row U w.heap.size 1 _ 23 (0, 0) g1.1.1
    have c2 := cell_of_row U w.heap.size 2 _ 23 (0, 0) g1.1.1
    have c3 := cell_of_row U w.heap.size 3 _ 23 (0, 0) g1.1.1
    have c4 := cell_of_row U w.heap.size 4 _ 23 (0, 0) g1.1.1
    have c5 := cell_of_row U (w.heap.size + 1) 0 _ 3 (0, 0) g1.1.2.1
    have c6 := cell_of_row U (w.heap.size + 1 + 1) 0 _ 3 (0, 0) g1.1.2.2.1
    have c7 := cell_of_row U (w.heap.size + 1 + 1 + 1) 0 _ 3 (0, 0) g1.1.2.2.2.1
    have c8 := cell_of_row U (w.heap.size + 1 + 1 + 1 + 1) 0 _ 4 (0, 0) g1.1.2.2.2.2.1
    have zz : w.heap.size + 1 + 1 + 1 + 1 < U.heap.size := at_lt g1.1.2.2.2.2.1
    have za : w.heap.size < U.heap.size := by omega
    have zb : w.heap.size + 1 < U.heap.size := by omega
    have zc : w.heap.size + 1 + 1 < U.heap.size := by omega
    have zd : w.heap.size + 1 + 1 + 1 < U.heap.size := by omega
    simp at c0 c1 c2 c3 c4 c5 c6 c7 c8
    have la1 : w.heap.size < U.heap.size + 1 := by omega
    have lb1 : w.heap.size + 1 < U.heap.size + 1 := by omega
    have la2 : w.heap.size < U.heap.size + 1 + 1 := by omega
    have lb2 : w.heap.size + 1 < U.heap.size + 1 + 1 := by omega
    have HY := Lib.hid (And.intro g1 (And.intro g2 (And.intro g3 (And.intro g4 (And.intro hK (And.intro hv1 hU))))))
    clear hE hN R4 R5 R6 R7 g1 g2 g3 g4 hK hv1 HX
    gi_wp2_with fail
    refine ⟨trivial, ?_⟩
    refine ((callsIn_wide (n := 8)).2 (PageI_any r s b d c pg _)).mono ?_
    rintro e U4 ⟨rfl, hU4⟩
    obtain ⟨g1, g2, g3, g4, hK, hv1, hU⟩ := HY.out
    have kk : Keeps U U4 := by rw [hU4]; exact ((Below.refl _ _).alloc (Nat.le_refl _) _).alloc (by simp) _
    have hs4 : U4.heap.size = U.heap.size + 1 + 1 := by rw [hU4]; simp
    have P1 : U4.heap[U.heap.size]? = some (.cells #[.int .i64 r, .int .i64 s, .int .i64 b, .int .i64 d, .int .i64 c] 23 (0, 0)) := by rw [hU4, hao _ _ _ (by simp)]; exact han _ _ _ rfl
    have P2 : U4.heap[U.heap.size + 1]? = some (.cells #[.int .i64 pg] 3 (0, 0)) := by rw [hU4]; exact han _ _ _ (by simp)
    obtain ⟨H2, hH2⟩ : ∃ H2, H2 = U4.heap.size := ⟨_, rfl⟩
    have HH2 := Lib.hid (And.intro (hH2.trans hs4) (And.intro hv1 hU))
    have d1 : Dfs w.heap.size U4 [mk1 H1] := ⟨H1, rfl, by have := HH1.out; omega, old_at kk hK, by simp, trivial⟩
    have HX := Lib.hid (And.intro (g1.chg hBA hvA (Chg.of_below kk (fun _ => False)) (fun _ h => h.elim)) (And.intro (g2.chg (Chg.of_below kk (fun _ => False)) (fun _ h => h.elim)) (And.intro (old_at kk g3) (And.intro (g4.chg (Chg.of_below kk (fun _ => False)) (fun h => h) (fun _ _ h => h)) (And.intro d1 (And.intro P1 P2))))))
    clear g1 g2 g3 g4 hK hv1 hU kk hs4 P1 P2 hU4 d1 c0 c1 c2 c3 c4 c5 c6 c7 c8 za zb zc zd zz la1 lb1 la2 lb2
    gi_wp2_with fail
    obtain ⟨hE, hN, R5, S1, hd1, P1, P2⟩ := HX.out
    obtain ⟨eH2, hv1, hUH⟩ := HH2.out
    have eH1 := HH1.out
    refine wpIn_rangeFunc_itKw 9 9 (gf := 45) (lb := #[.pointer (some ⟨U.heap.size + 1, 0, none⟩), .pointer (some ⟨U.heap.size, 0, none⟩)]) rfl (enters_of Try.func45 (by kernel_rfl) rfl) (oneV (pageL r s b d c pg)) (fun i => i = U.heap.size ∨ i = U.heap.size + 1) (fun i e => by rw [← hH2]; omega)
      (fun W1 hW1 => page_call _ _ r s b d c pg W1 (old_at hW1 P1) (old_at hW1 P2) (by have := bc; unfold In64 at this; omega) (by have := bc; unfold In64 at this; omega))
      (fun k v hv => by obtain ⟨_, rfl⟩ := oneV_get _ k v hv; rfl)
      (fun i => i = A + 1 + 1 + 1 + 1 + 1 ∨ H2 + 1 + 1 ≤ i) (fun i hi => by rw [← hH2]; omega)
      (fun k W => Ev w r s b d c rk pg st A base (.slice av n cv) (allL r s b d c) W ∧ Nn A 0 0 0 W ∧ Sc (A + 1 + 1 + 1 + 1) (H1 + 1 + 1) v1 (rankL r s b d c rk) W ∧ Dfs w.heap.size W [mk1 H1] ∧ ∃ v2, Sc (A + 1 + 1 + 1 + 1 + 1) (H2 + 1 + 1) v2 ((pageL r s b d c pg).take k) W)
      (fun _ _ => False)
      (fun k X Y h hc => ?keep2) (fun _ _ _ h _ => h) ⟨hE, hN, S1, hd1, .slice none 0 0, R5, by rw [List.take_zero]; exact SlI.nil _ _⟩ ?round2 ?done2 (fun _ _ _ h _ => h.elim)
    case keep2 =>
      obtain ⟨g1, g2, g3, g4, v2, g5⟩ := h
      rw [← hH2] at hc
      exact ⟨g1.chg hBA hvA hc (fun i hi => by omega), g2.chg hc (fun i hi => by omega), g3.chg hc (by omega) (fun g hg => by have := (hv1 g hg).2; omega), g4.same (fun D _ hm g => chg_at hc g (by have : D = H1 := (by simpa [mk1] using hm); omega)), v2, g5.chg hc (by omega) (fun g hg => by have := (g5.2.own g hg).1; omega)⟩
    case round2 =>
      intro k x W hx hW hi
      obtain ⟨hk, rfl⟩ := oneV_get _ k x hx
      have HK := Lib.hid hk
      clear hk hx
      generalize hxx : (pageL r s b d c pg).getD k 0 = x at *
      have HXX := Lib.hid hxx
      clear hxx
      gi_wp2_with fail
      refine ⟨Chg.refl _ _, hi, fun W2 hc2 hr2 hi2 => ?_⟩
      clear hi hr2
      obtain ⟨g1, g2, g3, g6, v2, g4, g5⟩ := hi2
      obtain ⟨T1, hT1⟩ : ∃ T1, T1 = (pageL r s b d c pg).take k := ⟨_, rfl⟩
      rw [← hT1] at g5
      have hl1 : T1.length ≤ 64 := by rw [hT1, List.length_take]; have := pageL_le r s b d c pg; omega
      have hS : W2.ownsRow (H2 + 1 + 1) 3 1 v2 T1.length (T1.map (Value.int .i64)) := g5
      have m1 := cell_of_row W2 (A + 1 + 1 + 1 + 1 + 1) 0 _ 51 (0, 0) g4
      have m2 := at_lt g4
      have m3 : H2 + 1 + 1 ≤ W2.heap.size := by have := hc2.size; omega
      simp at m1
      obtain ⟨i0, hi0, hz0, hz1, hz2⟩ := info_parts info3
      have HG := Lib.hid (And.intro g1 (And.intro g2 (And.intro g3 (And.intro g6 (And.intro g4 (And.intro g5 hT1))))))
      clear g1 g2 g3 g4 g6 hT1 hE hN R5 S1 hd1 P1 P2 hv1
      gi_wp2_with (gi_at_builtin; refine wpListIn_append_own _ rfl _ _ 51 rfl (H2 + 1 + 1) 3 i0 (.int .i64 0) 1 8 Try.underlying51 hi0 hz0 hz1 hz2 rfl (by decide) _ _ _ rfl (hS.alloc _) ⟨W2.heap.size, 0, none⟩ 1 1 [.int .i64 x] rfl rfl (cell_one_new _ _ _) (by simp [Value.oneCell']) (by unfold maxLen; omega) (by omega) (by simp; omega) ?_; intro v' w6 hown2 hgrow _; obtain ⟨aa, ca, hv'⟩ := SlI.slice (SlI.push hown2); rw [List.length_append, List.length_singleton] at hv'; subst hv'; obtain ⟨a1, a2, a3, a4⟩ := app_step g5 HG.out.2.2.2.2.1 hgrow hown2 (by omega); have b1 := cell_of_row w6 (A + 1 + 1 + 1 + 1 + 1) 0 _ 51 (0, 0) a1; have b2 := frozen_of_row w6 (A + 1 + 1 + 1 + 1 + 1) 0 _ 51 a1; simp at b1; have HA6 := Lib.hid (And.intro a2 (And.intro a3 a4)); clear a1 a2 a3 a4 hown2 hgrow)
      obtain ⟨a2, a3, a4⟩ := HA6.out
      obtain ⟨g1, g2, g3, g6, g4, g5, hT1⟩ := HG.out
      have hv1 := HH2.out.2.1
      refine ⟨a2, g1.chg hBA hvA a2 (fun i hi => by omega), g2.chg a2 (fun i hi => by omega), g3.chg a2 (by omega) (fun g hg => by have := (hv1 g hg).2; have := (hv1 g hg).1; omega), g6.same (fun D _ hm g => chg_at a2 g (by have : D = H1 := (by simpa [mk1] using hm); omega)), _, a3, ?_⟩
      rw [take_more HK.out, HXX.out, ← hT1]; exact a4
    case done2 =>
      rintro V hV ⟨g1, g2, g3, g4, v2, g5⟩ hK
      rw [oneV_len, List.take_length] at g5
      rw [← hH2] at hV hK
      have hv2 : ∀ g, v2.ownBlock = some g → H2 + 1 + 1 ≤ g ∧ g < V.heap.size := g5.2.own
      have eH2 := HH2.out.1
      have hst : St w r s b d c rk pg st A base (.slice av n cv) (allL r s b d c) (H1 + 1 + 1) v1 (rankL r s b d c rk) (H2 + 1 + 1) v2 (pageL r s b d c pg) [mk1 H2, mk1 H1] V := ⟨g1, g3, g5, ⟨H2, rfl, by omega, hK, fun D' hm => by have : D' = H1 := (by simpa [mk1] using hm); omega, g4⟩⟩
      have c0 := cell_of_row V w.heap.size 0 _ 23 (0, 0) g1.1.1
      have c1 := cell_of_row V w.heap.size 1 _ 23 (0, 0) g1.1.1
      have c2 := cell_of_row V w.heap.size 2 _ 23 (0, 0) g1.1.1
      have c3 := cell_of_row V w.heap.size 3 _ 23 (0, 0) g1.1.1
      have c4 := cell_of_row V w.heap.size 4 _ 23 (0, 0) g1.1.1
      have c5 := cell_of_row V (w.heap.size + 1) 0 _ 3 (0, 0) g1.1.2.1
      have c6 := cell_of_row V (w.heap.size + 1 + 1) 0 _ 3 (0, 0) g1.1.2.2.1
      have c7 := cell_of_row V (w.heap.size + 1 + 1 + 1) 0 _ 3 (0, 0) g1.1.2.2.2.1
      have c8 := cell_of_row V (w.heap.size + 1 + 1 + 1 + 1) 0 _ 4 (0, 0) g1.1.2.2.2.2.1
      have zz : w.heap.size + 1 + 1 + 1 + 1 < V.heap.size := at_lt g1.1.2.2.2.2.1
      have za : w.heap.size < V.heap.size := by omega
      have zb : w.heap.size + 1 < V.heap.size := by omega
      have zc : w.heap.size + 1 + 1 < V.heap.size := by omega
      have zd : w.heap.size + 1 + 1 + 1 < V.heap.size := by omega
      simp at c0 c1 c2 c3 c4 c5 c6 c7 c8
      have la1 : w.heap.size < V.heap.size + 1 := by omega
      have lb1 : w.heap.size + 1 < V.heap.size + 1 := by omega
      have HY := Lib.hid (And.intro hst (And.intro g2 (And.intro hv2 hV)))
      clear hE hN R5 S1 hd1 P1 P2 hv1 hUH g1 g2 g3 g4 g5 hK hv2 hV HX hst eH2 eH1
      gi_wp2_with fail
      refine ⟨trivial, ?_⟩
      refine ((callsIn_wide (n := 8)).2 (AllI_any r s b d c _)).mono ?_
      rintro e V4 ⟨rfl, hV4⟩
      obtain ⟨hst, g2, hv2, hV⟩ := HY.out
      have hv1 := HH2.out.2.1
      have eH1 := HH1.out
      have eH2 := HH2.out.1
      have hUH := HH2.out.2.2
      have kk : Keeps V V4 := by rw [hV4]; exact (Below.refl _ _).alloc (Nat.le_refl _) _
      have hs4 : V4.heap.size = V.heap.size + 1 := by rw [hV4]; simp
      have P1 : V4.heap[V.heap.size]? = some (.cells #[.int .i64 r, .int .i64 s, .int .i64 b, .int .i64 d, .int .i64 c] 23 (0, 0)) := by rw [hV4]; exact han _ _ _ rfl
      have hst4 := hst.chg hBA hvA (Chg.of_below kk (fun _ => False)) (fun _ h => h.elim) (fun _ _ h => h) (fun _ _ h => h) (fun _ _ h => h)
      have g24 := g2.chg (Chg.of_below kk (fun _ => False)) (fun _ h => h.elim)
      obtain ⟨H3, hH3⟩ : ∃ H3, H3 = V4.heap.size := ⟨_, rfl⟩
      have HH3 := Lib.hid (And.intro (hH3.trans hs4) (And.intro hv2 hV))
      obtain ⟨cr, hcr⟩ := sub_rank r s b d c rk
      obtain ⟨cp, hcp⟩ := sub_page r s b d c pg
      have HSR := Lib.hid hcr
      have HSP := Lib.hid hcp
      have HX := Lib.hid (And.intro hst4 (And.intro g24 P1))
      clear hst g2 hv2 hV hv1 eH1 eH2 hUH kk hs4 hst4 g24 hV4 hcr hcp c0 c1 c2 c3 c4 c5 c6 c7 c8 za zb zc zd zz la1 lb1 P1
      gi_wp2_with fail
      obtain ⟨hst4, g24, P1⟩ := HX.out
      have hv1 := HH2.out.2.1
      have eH1 := HH1.out
      have eH2 := HH2.out.1
      have hUH := HH2.out.2.2
      obtain ⟨eH3, hv2, hVH⟩ := HH3.out
      refine wpIn_rangeFunc_it3w 9 9 (gf := 46) (lb := #[.pointer (some ⟨V.heap.size, 0, none⟩)]) rfl (enters_of Try.func46 (by kernel_rfl) rfl) (oneV (allL r s b d c)) (fun i => i = V.heap.size) (fun _ => False) (fun i e => by rw [← hH3]; omega) (fun i e => e.elim)
        (fun W1 hW1 => all_call _ r s b d c W1 (old_at hW1 P1))
        (fun k v hv => by obtain ⟨_, rfl⟩ := oneV_get _ k v hv; rfl)
        (fun i => i = A + 1 ∨ i = A + 1 + 1 ∨ i = A + 1 + 1 + 1) (fun i hi => by rw [← hH3]; omega)
        (fun j W => Nn A (j : Nat) (cr j : Nat) (cp j : Nat) W ∧ St w r s b d c rk pg st A base (.slice av n cv) (allL r s b d c) (H1 + 1 + 1) v1 (rankL r s b d c rk) (H2 + 1 + 1) v2 (pageL r s b d c pg) [mk1 H2, mk1 H1] W)
        (fun _ _ => False)
        (fun j X Y h hc => ?keep3) (fun _ _ _ h _ => h) ⟨by rw [HSR.out.zero, HSP.out.zero]; exact g24, hst4⟩ ?round3 ?done3 (fun _ _ _ _ h _ => h.elim)
      case keep3 =>
        rw [← hH3] at hc
        have mks : ∀ D, mk1 D ∈ [mk1 H2, mk1 H1] → D = H2 ∨ D = H1 := fun D hm => by simpa [mk1] using hm
        refine ⟨h.1.chg hc (fun i hi => by rcases hi with hi | hi; exact hi.elim; omega), h.2.chg hBA hvA hc (fun i hi => by rcases hi with hi | hi; exact hi.elim; omega) (fun g hg hi => ?_) (fun g hg hi => ?_) (fun D hm hi => ?_)⟩
        · have := (hv1 g hg).2; rcases hi with hi | hi; exact hi.elim; omega
        · have := (hv2 g hg).2; rcases hi with hi | hi; exact hi.elim; omega
        · have := mks D hm; rcases hi with hi | hi; exact hi.elim; omega
      case round3 =>
        intro l2 j x W hx hl2 hW hi
        obtain ⟨hk, rfl⟩ := oneV_get _ j x hx
        have hx0 := all_nonneg r s b d c j hk
        have HK := Lib.hid hk
        clear hk hx
        generalize hxx : (allL r s b d c).getD j 0 = x at *
        have HXX := Lib.hid hxx
        clear hxx
        gi_wp2_with fail
        refine ⟨Chg.refl _ _, hi, fun W2 hc2 hr2 hi2 => ?_⟩
        clear hi hr2
        obtain ⟨g2, g3⟩ := hi2
        obtain ⟨x0', x1'⟩ := hx0
        rcases g3.ev.2.2.cases with ⟨_, hnil⟩ | ⟨g, cap', e, hg, hgs, _, _, hcell⟩
        · have := HK.out; rw [hnil] at this; simp at this
        injection e with e1 e2 e3
        have vc := hcell j HK.out
        rw [HXX.out] at vc
        have hjn : (j : Int) < n := by have := HK.out; have := HN.out; omega
        subst e1
        clear e2 e3 hcell
        have HAx := Lib.hid (show True from trivial)
        have m0 := cell_of_row W2 A 0 _ 51 (0, 0) g3.ev.2.1
        have m1 := cell_of_row W2 (A + 1) 0 _ 3 (0, 0) g2.1
        have m2 := cell_of_row W2 (A + 1 + 1) 0 _ 3 (0, 0) g2.2.1
        have m5 := cell_of_row W2 (A + 1 + 1 + 1) 0 _ 3 (0, 0) g2.2.2
        have m6 := cell_of_row W2 (w.heap.size + 1) 0 _ 3 (0, 0) g3.ev.1.2.1
        have m7 := cell_of_row W2 (w.heap.size + 1 + 1) 0 _ 3 (0, 0) g3.ev.1.2.2.1
        have f1 := frozen_of_row W2 (A + 1) 0 _ 3 g2.1
        have f2 := frozen_of_row W2 (A + 1 + 1) 0 _ 3 g2.2.1
        have f3 := frozen_of_row W2 (A + 1 + 1 + 1) 0 _ 3 g2.2.2
        simp at m0 m1 m2 m5 m6 m7
        have hnn : n ≤ 8388608 := by rw [HN.out]; exact allL_le r s b d c
        by_cases h1 : x / 1048576 = rk
        · by_cases h2 : x / 64 = pg
          · have e1 : ((x : Int) / 1048576 == rk) = true := by simpa using h1
            have e2 : ((x : Int) / 64 == pg) = true := by simpa using h2
            obtain ⟨k1, k2, k3⟩ := HSR.out.hit j HK.out (by rw [HXX.out]; simpa using h1)
            rcases g3.s1.2.cases with ⟨_, hnil⟩ | ⟨ga, ca, rfl, hga, hgs, _, _, hcell⟩
            · rw [hnil] at k1; simp at k1
            have v2c := hcell (cr j) k1
            rw [k2, HXX.out] at v2c
            have l1 : ((cr j : Nat) : Int) < (rankL r s b d c rk).length := by omega
            obtain ⟨k4, k5, k6⟩ := HSP.out.hit j HK.out (by rw [HXX.out]; simpa using h2)
            rcases g3.s2.2.cases with ⟨_, hnil⟩ | ⟨gb, cb, rfl, hgb, hgt, _, _, hcelm⟩
            · rw [hnil] at k4; simp at k4
            have v3c := hcelm (cp j) k4
            rw [k5, HXX.out] at v3c
            have l2 : ((cp j : Nat) : Int) < (pageL r s b d c pg).length := by omega
            have m3 := cell_of_row W2 (A + 1 + 1 + 1 + 1) 0 _ 51 (0, 0) g3.s1.1
            have m4 := cell_of_row W2 (A + 1 + 1 + 1 + 1 + 1) 0 _ 51 (0, 0) g3.s2.1
            simp at m3 m4
            have lrr := rankL_le r s b d c rk
            have lpp := pageL_le r s b d c pg
            have cr0 := HSR.out
            have HK3 := Lib.hid (And.intro g2 (And.intro g3 (And.intro k3 k6)))
            clear g2 g3 k3 k6 h1 h2 cr0 k2 hcell k5 hcelm
            generalize hLR : (rankL r s b d c rk).length = lr at *
            generalize hLP : (pageL r s b d c pg).length = lp at *
            gi_wp2_with fail
            obtain ⟨g2, g3, k3, k6⟩ := HK3.out
            have hc := Chg.trans (Chg.trans (set_chg (cw := fun i => i = A + 1 ∨ i = A + 1 + 1 ∨ i = A + 1 + 1 + 1) W2 (A + 1) (.int .i64 ((j : Int) + 1)) (.inl rfl)) (set_chg _ (A + 1 + 1) (.int .i64 (((cr j : Nat) : Int) + 1)) (.inr (.inl rfl)))) (set_chg _ (A + 1 + 1 + 1) (.int .i64 (((cp j : Nat) : Int) + 1)) (.inr (.inr rfl)))
            have hv1 := HH2.out.2.1
            have eH1 := HH1.out
            have eH2 := HH2.out.1
            have hv2 := HH3.out.2.1
            refine ⟨hc, ?_, g3.chg hBA hvA hc (fun i hi => by omega) (fun g hg hi => by have := (hv1 g hg).1; omega) (fun g hg hi => by have := (hv2 g hg).1; have := HH2.out.2.2; omega) (fun D hm hi => by have : D = H2 ∨ D = H1 := (by simpa [mk1] using hm); have := HH2.out.2.2; omega)⟩
            rw [k3, k6, Int.natCast_add j 1, Int.natCast_add (cr j) 1, Int.natCast_add (cp j) 1]
            exact ((g2.set1 ((j : Int) + 1)).set2 (((cr j : Nat) : Int) + 1)).set3 (((cp j : Nat) : Int) + 1)
          · have e1 : ((x : Int) / 1048576 == rk) = true := by simpa using h1
            have e2 : ((x : Int) / 64 == pg) = false := by simpa using h2
            obtain ⟨k1, k2, k3⟩ := HSR.out.hit j HK.out (by rw [HXX.out]; simpa using h1)
            rcases g3.s1.2.cases with ⟨_, hnil⟩ | ⟨ga, ca, rfl, hga, hgs, _, _, hcell⟩
            · rw [hnil] at k1; simp at k1
            have v2c := hcell (cr j) k1
            rw [k2, HXX.out] at v2c
            have l1 : ((cr j : Nat) : Int) < (rankL r s b d c rk).length := by omega
            have k6 := HSP.out.miss j HK.out (by rw [HXX.out]; simpa using h2)
            have m3 := cell_of_row W2 (A + 1 + 1 + 1 + 1) 0 _ 51 (0, 0) g3.s1.1
            have m4 := cell_of_row W2 (A + 1 + 1 + 1 + 1 + 1) 0 _ 51 (0, 0) g3.s2.1
            simp at m3 m4
            have lrr := rankL_le r s b d c rk
            have lpp := pageL_le r s b d c pg
            have cr0 := HSR.out
            have HK3 := Lib.hid (And.intro g2 (And.intro g3 (And.intro k3 k6)))
            clear g2 g3 k3 k6 h1 h2 cr0 k2 hcell
            generalize hLR : (rankL r s b d c rk).length = lr at *
            generalize hLP : (pageL r s b d c pg).length = lp at *
            gi_wp2_with fail
            obtain ⟨g2, g3, k3, k6⟩ := HK3.out
            have hc := Chg.trans (set_chg (cw := fun i => i = A + 1 ∨ i = A + 1 + 1 ∨ i = A + 1 + 1 + 1) W2 (A + 1) (.int .i64 ((j : Int) + 1)) (.inl rfl)) (set_chg _ (A + 1 + 1) (.int .i64 (((cr j : Nat) : Int) + 1)) (.inr (.inl rfl)))
            have hv1 := HH2.out.2.1
            have eH1 := HH1.out
            have eH2 := HH2.out.1
            have hv2 := HH3.out.2.1
            refine ⟨hc, ?_, g3.chg hBA hvA hc (fun i hi => by omega) (fun g hg hi => by have := (hv1 g hg).1; omega) (fun g hg hi => by have := (hv2 g hg).1; have := HH2.out.2.2; omega) (fun D hm hi => by have : D = H2 ∨ D = H1 := (by simpa [mk1] using hm); have := HH2.out.2.2; omega)⟩
            rw [k3, k6, Int.natCast_add j 1, Int.natCast_add (cr j) 1]
            exact (g2.set1 ((j : Int) + 1)).set2 (((cr j : Nat) : Int) + 1)
        · by_cases h2 : x / 64 = pg
          · have e1 : ((x : Int) / 1048576 == rk) = false := by simpa using h1
            have e2 : ((x : Int) / 64 == pg) = true := by simpa using h2
            have k3 := HSR.out.miss j HK.out (by rw [HXX.out]; simpa using h1)
            obtain ⟨k4, k5, k6⟩ := HSP.out.hit j HK.out (by rw [HXX.out]; simpa using h2)
            rcases g3.s2.2.cases with ⟨_, hnil⟩ | ⟨gb, cb, rfl, hgb, hgt, _, _, hcelm⟩
            · rw [hnil] at k4; simp at k4
            have v3c := hcelm (cp j) k4
            rw [k5, HXX.out] at v3c
            have l2 : ((cp j : Nat) : Int) < (pageL r s b d c pg).length := by omega
            have m3 := cell_of_row W2 (A + 1 + 1 + 1 + 1) 0 _ 51 (0, 0) g3.s1.1
            have m4 := cell_of_row W2 (A + 1 + 1 + 1 + 1 + 1) 0 _ 51 (0, 0) g3.s2.1
            simp at m3 m4
            have lrr := rankL_le r s b d c rk
            have lpp := pageL_le r s b d c pg
            have cr0 := HSR.out
            have HK3 := Lib.hid (And.intro g2 (And.intro g3 (And.intro k3 k6)))
            clear g2 g3 k3 k6 h1 h2 cr0 k5 hcelm
            generalize hLR : (rankL r s b d c rk).length = lr at *
            generalize hLP : (pageL r s b d c pg).length = lp at *
            gi_wp2_with fail
            obtain ⟨g2, g3, k3, k6⟩ := HK3.out
            have hc := Chg.trans (set_chg (cw := fun i => i = A + 1 ∨ i = A + 1 + 1 ∨ i = A + 1 + 1 + 1) W2 (A + 1) (.int .i64 ((j : Int) + 1)) (.inl rfl)) (set_chg _ (A + 1 + 1 + 1) (.int .i64 (((cp j : Nat) : Int) + 1)) (.inr (.inr rfl)))
            have hv1 := HH2.out.2.1
            have eH1 := HH1.out
            have eH2 := HH2.out.1
            have hv2 := HH3.out.2.1
            refine ⟨hc, ?_, g3.chg hBA hvA hc (fun i hi => by omega) (fun g hg hi => by have := (hv1 g hg).1; omega) (fun g hg hi => by have := (hv2 g hg).1; have := HH2.out.2.2; omega) (fun D hm hi => by have : D = H2 ∨ D = H1 := (by simpa [mk1] using hm); have := HH2.out.2.2; omega)⟩
            rw [k3, k6, Int.natCast_add j 1, Int.natCast_add (cp j) 1]
            exact (g2.set1 ((j : Int) + 1)).set3 (((cp j : Nat) : Int) + 1)
          · have e1 : ((x : Int) / 1048576 == rk) = false := by simpa using h1
            have e2 : ((x : Int) / 64 == pg) = false := by simpa using h2
            have k3 := HSR.out.miss j HK.out (by rw [HXX.out]; simpa using h1)
            have k6 := HSP.out.miss j HK.out (by rw [HXX.out]; simpa using h2)
            have m3 := cell_of_row W2 (A + 1 + 1 + 1 + 1) 0 _ 51 (0, 0) g3.s1.1
            have m4 := cell_of_row W2 (A + 1 + 1 + 1 + 1 + 1) 0 _ 51 (0, 0) g3.s2.1
            simp at m3 m4
            have lrr := rankL_le r s b d c rk
            have lpp := pageL_le r s b d c pg
            have cr0 := HSR.out
            have HK3 := Lib.hid (And.intro g2 (And.intro g3 (And.intro k3 k6)))
            clear g2 g3 k3 k6 h1 h2 cr0
            generalize hLR : (rankL r s b d c rk).length = lr at *
            generalize hLP : (pageL r s b d c pg).length = lp at *
            gi_wp2_with fail
            obtain ⟨g2, g3, k3, k6⟩ := HK3.out
            have hc := set_chg (cw := fun i => i = A + 1 ∨ i = A + 1 + 1 ∨ i = A + 1 + 1 + 1) W2 (A + 1) (.int .i64 ((j : Int) + 1)) (.inl rfl)
            have hv1 := HH2.out.2.1
            have eH1 := HH1.out
            have eH2 := HH2.out.1
            have hv2 := HH3.out.2.1
            refine ⟨hc, ?_, g3.chg hBA hvA hc (fun i hi => by omega) (fun g hg hi => by have := (hv1 g hg).1; omega) (fun g hg hi => by have := (hv2 g hg).1; have := HH2.out.2.2; omega) (fun D hm hi => by have : D = H2 ∨ D = H1 := (by simpa [mk1] using hm); have := HH2.out.2.2; omega)⟩
            rw [k3, k6, Int.natCast_add j 1]
            exact g2.set1 ((j : Int) + 1)
      case done3 =>
        rintro D3 Z hD3 ⟨g2, g3⟩ hK
        rw [oneV_len] at g2
        rw [HSR.out.total, HSP.out.total, ← HN.out] at g2
        rw [← hH3] at hD3
        have hst : St w r s b d c rk pg st A base (.slice av n cv) (allL r s b d c) (H1 + 1 + 1) v1 (rankL r s b d c rk) (H2 + 1 + 1) v2 (pageL r s b d c pg) [mk1 D3, mk1 H2, mk1 H1] Z := ⟨g3.ev, g3.s1, g3.s2, ⟨D3, rfl, by omega, hK, fun D' hm => by have : D' = H2 ∨ D' = H1 := (by simpa [mk1] using hm); omega, g3.ds⟩⟩
        have hzD := at_lt hK
        have c0 := cell_of_row Z w.heap.size 0 _ 23 (0, 0) g3.ev.1.1
        have c1 := cell_of_row Z w.heap.size 1 _ 23 (0, 0) g3.ev.1.1
        have c2 := cell_of_row Z w.heap.size 2 _ 23 (0, 0) g3.ev.1.1
        have c3 := cell_of_row Z w.heap.size 3 _ 23 (0, 0) g3.ev.1.1
        have c4 := cell_of_row Z w.heap.size 4 _ 23 (0, 0) g3.ev.1.1
        have c5 := cell_of_row Z (w.heap.size + 1) 0 _ 3 (0, 0) g3.ev.1.2.1
        have c6 := cell_of_row Z (w.heap.size + 1 + 1) 0 _ 3 (0, 0) g3.ev.1.2.2.1
        have c7 := cell_of_row Z (w.heap.size + 1 + 1 + 1) 0 _ 3 (0, 0) g3.ev.1.2.2.2.1
        have c8 := cell_of_row Z (w.heap.size + 1 + 1 + 1 + 1) 0 _ 4 (0, 0) g3.ev.1.2.2.2.2.1
        have zz : w.heap.size + 1 + 1 + 1 + 1 < Z.heap.size := at_lt g3.ev.1.2.2.2.2.1
        have za : w.heap.size < Z.heap.size := by omega
        have zb : w.heap.size + 1 < Z.heap.size := by omega
        have zc : w.heap.size + 1 + 1 < Z.heap.size := by omega
        have zd : w.heap.size + 1 + 1 + 1 < Z.heap.size := by omega
        simp at c0 c1 c2 c3 c4 c5 c6 c7 c8
        have la1 : w.heap.size < Z.heap.size + 1 := by omega
        have lb1 : w.heap.size + 1 < Z.heap.size + 1 := by omega
        have la2 : w.heap.size < Z.heap.size + 1 + 1 := by omega
        have lb2 : w.heap.size + 1 < Z.heap.size + 1 + 1 := by omega
        have HY := Lib.hid (And.intro hst (And.intro g2 (And.intro hD3 hzD)))
        clear hst4 g24 P1 hv1 eH1 eH2 hUH eH3 hv2 hVH g2 g3 hK hD3 HX hst hzD
        gi_wp2_with fail
        refine ⟨trivial, ?_⟩
        refine ((callsIn_wide (n := 8)).2 (AllI_any r s b d c _)).mono ?_
        rintro e Z4 ⟨rfl, hZ4⟩
        obtain ⟨hst, g2, hD3, hzD⟩ := HY.out
        have kk : Keeps Z Z4 := by rw [hZ4]; exact ((Below.refl _ _).alloc (Nat.le_refl _) _).alloc (by simp) _
        have hs4 : Z4.heap.size = Z.heap.size + 1 + 1 := by rw [hZ4]; simp
        have P0 : Z4.heap[Z.heap.size]? = some (.cells #[.int .i64 0] 3 (0, 0)) := by rw [hZ4, hao _ _ _ (by simp)]; exact han _ _ _ rfl
        have P1 : Z4.heap[Z.heap.size + 1]? = some (.cells #[.int .i64 r, .int .i64 s, .int .i64 b, .int .i64 d, .int .i64 c] 23 (0, 0)) := by rw [hZ4]; exact han _ _ _ (by simp)
        have hst4 := hst.chg hBA hvA (Chg.of_below kk (fun _ => False)) (fun _ h => h.elim) (fun _ _ h => h) (fun _ _ h => h) (fun _ _ h => h)
        have g24 := g2.chg (Chg.of_below kk (fun _ => False)) (fun _ h => h.elim)
        simp only [World.size_alloc]
        obtain ⟨S, hS⟩ : ∃ S, S = Z.heap.size := ⟨_, rfl⟩
        rw [← hS] at hs4 P0 P1 hzD ⊢
        obtain ⟨H4, hH4⟩ : ∃ H4, H4 = Z4.heap.size := ⟨_, rfl⟩
        have HH4 := Lib.hid (And.intro (hH4.trans hs4) (And.intro hD3 hzD))
        have HX := Lib.hid (And.intro hst4 (And.intro g24 (And.intro P0 P1)))
        clear hst g2 hD3 kk hs4 hst4 g24 hZ4 c0 c1 c2 c3 c4 c5 c6 c7 c8 za zb zc zd zz la1 lb1 la2 lb2 P0 P1 hzD
        gi_wp2_with fail
        obtain ⟨hst4, g24, P0, P1⟩ := HX.out
        have hv1 := HH2.out.2.1
        have eH1 := HH1.out
        have eH2 := HH2.out.1
        have hUH := HH2.out.2.2
        obtain ⟨eH3, hv2, hVH⟩ := HH3.out
        obtain ⟨eH4, hD3, hzD⟩ := HH4.out
        refine wpIn_rangeFunc_it3w 9 9 (gf := 46) (lb := #[.pointer (some ⟨S + 1, 0, none⟩)]) rfl (enters_of Try.func46 (by kernel_rfl) rfl) (oneV (allL r s b d c)) (fun i => i = S + 1) (fun _ => False) (fun i e => by rw [← hH4]; omega) (fun i e => e.elim)
          (fun W1 hW1 => all_call _ r s b d c W1 (old_at hW1 P1))
          (fun k v hv => by obtain ⟨_, rfl⟩ := oneV_get _ k v hv; rfl)
          (fun i => i = S) (fun i hi => by rw [← hH4]; omega)
          (fun j W => W.heap[S]? = some (.cells #[.int .i64 (j : Nat)] 3 (0, 0)) ∧ (∀ t : Nat, 1 ≤ t → t ≤ j → ((t : Nat) : Int) ≠ st) ∧ Nn A (n : Nat) ((rankL r s b d c rk).length : Nat) ((pageL r s b d c pg).length : Nat) W ∧ St w r s b d c rk pg st A base (.slice av n cv) (allL r s b d c) (H1 + 1 + 1) v1 (rankL r s b d c rk) (H2 + 1 + 1) v2 (pageL r s b d c pg) [mk1 D3, mk1 H2, mk1 H1] W)
          (fun c' W => c' = .exit 6 ∧ ∃ j : Nat, 1 ≤ j ∧ j ≤ n ∧ ((j : Nat) : Int) = st ∧ W.heap[S]? = some (.cells #[.int .i64 (j : Nat)] 3 (0, 0)) ∧ Nn A (n : Nat) ((rankL r s b d c rk).length : Nat) ((pageL r s b d c pg).length : Nat) W ∧ St w r s b d c rk pg st A base (.slice av n cv) (allL r s b d c) (H1 + 1 + 1) v1 (rankL r s b d c rk) (H2 + 1 + 1) v2 (pageL r s b d c pg) [mk1 D3, mk1 H2, mk1 H1] W)
          (fun j X Y h hc => ?keep4) (fun c' X Y h hc => ?keepx) ⟨P0, fun t h1 h2 => by omega, g24, hst4⟩ ?round4 ?done4 ?stop4
        case keep4 =>
          rw [← hH4] at hc
          have mks : ∀ D, mk1 D ∈ [mk1 D3, mk1 H2, mk1 H1] → D = D3 ∨ D = H2 ∨ D = H1 := fun D hm => by simpa [mk1] using hm
          refine ⟨chg_at hc h.1 (fun hi => by rcases hi with hi | hi; exact hi.elim; omega), h.2.1, h.2.2.1.chg hc (fun i hi => by rcases hi with hi | hi; exact hi.elim; omega), h.2.2.2.chg hBA hvA hc (fun i hi => by rcases hi with hi | hi; exact hi.elim; omega) (fun g hg hi => ?_) (fun g hg hi => ?_) (fun D hm hi => ?_)⟩
          · have := (hv1 g hg).2; rcases hi with hi | hi; exact hi.elim; omega
          · have := (hv2 g hg).2; rcases hi with hi | hi; exact hi.elim; omega
          · have := mks D hm; rcases hi with hi | hi; exact hi.elim; omega
        case keepx =>
          rw [← hH4] at hc
          have mks : ∀ D, mk1 D ∈ [mk1 D3, mk1 H2, mk1 H1] → D = D3 ∨ D = H2 ∨ D = H1 := fun D hm => by simpa [mk1] using hm
          obtain ⟨h0, j, h1, h2, h3, h4, h5, h6⟩ := h
          refine ⟨h0, j, h1, h2, h3, chg_at hc h4 (fun hi => by rcases hi with hi | hi; exact hi.elim; omega), h5.chg hc (fun i hi => by rcases hi with hi | hi; exact hi.elim; omega), h6.chg hBA hvA hc (fun i hi => by rcases hi with hi | hi; exact hi.elim; omega) (fun g hg hi => ?_) (fun g hg hi => ?_) (fun D hm hi => ?_)⟩
          · have := (hv1 g hg).2; rcases hi with hi | hi; exact hi.elim; omega
          · have := (hv2 g hg).2; rcases hi with hi | hi; exact hi.elim; omega
          · have := mks D hm; rcases hi with hi | hi; exact hi.elim; omega
        case round4 =>
          intro l2 j x W hx hl2 hW hi
          obtain ⟨hk, rfl⟩ := oneV_get _ j x hx
          rw [← HN.out] at hk
          have hnn : n ≤ 8388608 := by rw [HN.out]; exact allL_le r s b d c
          have HK := Lib.hid hk
          clear hk hx
          gi_wp2_with fail
          refine ⟨Chg.refl _ _, hi, fun W2 hc2 hr2 hi2 => ?_⟩
          clear hi hr2
          obtain ⟨g0, gne, g2, g3⟩ := hi2
          have m1 := cell_of_row W2 S 0 _ 3 (0, 0) g0
          have m2 := frozen_of_row W2 S 0 _ 3 g0
          have m3 := cell_of_row W2 (w.heap.size + 1 + 1 + 1) 0 _ 3 (0, 0) g3.ev.1.2.2.2.1
          simp at m1 m3
          have q1 : ¬ (w.heap.size + 1 + 1 + 1 = S) := by omega
          have q2 : ¬ (S = w.heap.size + 1 + 1 + 1) := by omega
          have hjI : (j : Int) < 8388608 := by have := HK.out; omega
          have HII := Lib.hid (And.intro g0 (And.intro gne (And.intro g2 g3)))
          clear g0 gne g2 g3
          have hcS : ∀ u : Value, Chg (fun i => i = S) W2 (W2.setCell ⟨S, 0, none⟩ u) := fun u => set_chg W2 S u rfl
          have HCS := Lib.hid hcS
          clear hcS
          have after : Hid (∀ u : Value, Nn A (n : Nat) ((rankL r s b d c rk).length : Nat) ((pageL r s b d c pg).length : Nat) (W2.setCell ⟨S, 0, none⟩ u) ∧ St w r s b d c rk pg st A base (.slice av n cv) (allL r s b d c) (H1 + 1 + 1) v1 (rankL r s b d c rk) (H2 + 1 + 1) v2 (pageL r s b d c pg) [mk1 D3, mk1 H2, mk1 H1] (W2.setCell ⟨S, 0, none⟩ u)) := fun u => by
            obtain ⟨g0, gne, g2, g3⟩ := HII.out
            have hc := HCS.out u
            exact ⟨g2.chg hc (fun i hi => by omega), g3.chg hBA hvA hc (fun i hi => by omega) (fun g hg hi => by have := (hv1 g hg).2; omega) (fun g hg hi => by have := (hv2 g hg).2; omega) (fun D hm hi => by have : D = D3 ∨ D = H2 ∨ D = H1 := (by simpa [mk1] using hm); omega)⟩
          clear hst4 g24 P0 P1 eH1 eH2 eH3 eH4 hv1 hv2 hUH hVH hD3 hzD hc2 hl2 hW hS hH4 hH3 hH2 hH1
          by_cases hst : (j : Int) + 1 = st
          · have hst2 : ((j : Int) + 1 == st) = true := by simpa using hst
            have HST := Lib.hid hst
            clear hst
            gi_wp2_with fail
            obtain ⟨g0, gne, g2, g3⟩ := HII.out
            have e := heap_setCell_same W2 S 0 _ _ (.int .i64 ((j : Int) + 1)) g0
            refine ⟨HCS.out _, rfl, j + 1, by omega, by have := HK.out; omega, by have := HST.out; omega, ?_, (after.out _).1, (after.out _).2⟩
            rw [e, Int.natCast_add]; rfl
          · have hst2 : ((j : Int) + 1 == st) = false := by simpa using hst
            have HST := Lib.hid hst
            clear hst
            gi_wp2_with fail
            obtain ⟨g0, gne, g2, g3⟩ := HII.out
            have e := heap_setCell_same W2 S 0 _ _ (.int .i64 ((j : Int) + 1)) g0
            refine ⟨HCS.out _, ?_, fun t h1 h2 => ?_, (after.out _).1, (after.out _).2⟩
            · rw [e, Int.natCast_add]; rfl
            · by_cases e : t = j + 1
              · subst e; have := HST.out; omega
              · exact gne t h1 (by omega)
        case done4 =>
          rintro D4 Y hD4 ⟨g0, gne, g2, g3⟩ hK
          rw [oneV_len, ← HN.out] at g0 gne
          by_cases hs1 : 1 ≤ st
          · have hs2 : (n : Int) < st := by
              by_cases h : st ≤ n
              · exact absurd (show ((st.toNat : Nat) : Int) = st by omega) (gne st.toNat (by omega) (by omega))
              · omega
            clear gne
            have hst5 : St w r s b d c rk pg st A base (.slice av n cv) (allL r s b d c) (H1 + 1 + 1) v1 (rankL r s b d c rk) (H2 + 1 + 1) v2 (pageL r s b d c pg) [mk1 D4, mk1 D3, mk1 H2, mk1 H1] Y := ⟨g3.ev, g3.s1, g3.s2, ⟨D4, rfl, by omega, hK, fun D' hm => by have : D' = D3 ∨ D' = H2 ∨ D' = H1 := (by simpa [mk1] using hm); omega, g3.ds⟩⟩
            obtain ⟨av1, cv1, e1⟩ := g3.s1.2.slice
            obtain ⟨av2, cv2, e2⟩ := g3.s2.2.slice
            have m0 := cell_of_row Y A 0 _ 51 (0, 0) g3.ev.2.1
            have m1 := cell_of_row Y (A + 1) 0 _ 3 (0, 0) g2.1
            have m2 := cell_of_row Y (A + 1 + 1) 0 _ 3 (0, 0) g2.2.1
            have m3 := cell_of_row Y (A + 1 + 1 + 1) 0 _ 3 (0, 0) g2.2.2
            have m4 := cell_of_row Y (A + 1 + 1 + 1 + 1) 0 _ 51 (0, 0) g3.s1.1
            have m5 := cell_of_row Y (A + 1 + 1 + 1 + 1 + 1) 0 _ 51 (0, 0) g3.s2.1
            have m6 := cell_of_row Y (w.heap.size + 1 + 1 + 1) 0 _ 3 (0, 0) g3.ev.1.2.2.2.1
            have m7 := cell_of_row Y S 0 _ 3 (0, 0) g0
            have m8 := cell_of_row Y (w.heap.size + 1 + 1 + 1 + 1) 0 _ 4 (0, 0) g3.ev.1.2.2.2.2.1
            have m9 := frozen_of_row Y (w.heap.size + 1 + 1 + 1 + 1) 0 _ 4 g3.ev.1.2.2.2.2.1
            rw [e1] at m4
            rw [e2] at m5
            simp at m0 m1 m2 m3 m4 m5 m6 m7 m8
            have HF := Lib.hid hst5
            have HHH := Lib.hid (And.intro hH1 hH2)
            clear hst5 hst4 g24 P0 P1 hS hH4 hH3 hH2 hH1 eH1 eH2 eH3 eH4 hv1 hv2 hUH hVH hD3 hzD g0 g2 g3 hK e1 e2 hD4
            generalize hLR : (rankL r s b d c rk).length = lr at *
            generalize hLP : (pageL r s b d c pg).length = lp at *
            skip
            gi_wp2_with fail
            obtain ⟨f1, f2, f3, f4⟩ := HF.out
            rw [← HHH.out.1, ← HHH.out.2]
            exact finish9 _ [mk1 D4, mk1 D3, mk1 H2, mk1 H1] w _ rfl (heap_setCell_same Y (w.heap.size + 1 + 1 + 1 + 1) 0 _ _ (.bool true) f1.1.2.2.2.2.1) (f4.same (fun D _ _ g => chg_at (set_chg (cw := fun i => i = w.heap.size + 1 + 1 + 1 + 1) Y _ (.bool true) rfl) g (fun e => by subst e; rw [f1.1.2.2.2.2.1] at g; cases g))) (f1.1.2.2.2.2.2.setCell (by show w.heap.size ≤ w.heap.size + 1 + 1 + 1 + 1; omega) _)
          · clear gne
            have hst5 : St w r s b d c rk pg st A base (.slice av n cv) (allL r s b d c) (H1 + 1 + 1) v1 (rankL r s b d c rk) (H2 + 1 + 1) v2 (pageL r s b d c pg) [mk1 D4, mk1 D3, mk1 H2, mk1 H1] Y := ⟨g3.ev, g3.s1, g3.s2, ⟨D4, rfl, by omega, hK, fun D' hm => by have : D' = D3 ∨ D' = H2 ∨ D' = H1 := (by simpa [mk1] using hm); omega, g3.ds⟩⟩
            obtain ⟨av1, cv1, e1⟩ := g3.s1.2.slice
            obtain ⟨av2, cv2, e2⟩ := g3.s2.2.slice
            have m0 := cell_of_row Y A 0 _ 51 (0, 0) g3.ev.2.1
            have m1 := cell_of_row Y (A + 1) 0 _ 3 (0, 0) g2.1
            have m2 := cell_of_row Y (A + 1 + 1) 0 _ 3 (0, 0) g2.2.1
            have m3 := cell_of_row Y (A + 1 + 1 + 1) 0 _ 3 (0, 0) g2.2.2
            have m4 := cell_of_row Y (A + 1 + 1 + 1 + 1) 0 _ 51 (0, 0) g3.s1.1
            have m5 := cell_of_row Y (A + 1 + 1 + 1 + 1 + 1) 0 _ 51 (0, 0) g3.s2.1
            have m6 := cell_of_row Y (w.heap.size + 1 + 1 + 1) 0 _ 3 (0, 0) g3.ev.1.2.2.2.1
            have m7 := cell_of_row Y S 0 _ 3 (0, 0) g0
            have m8 := cell_of_row Y (w.heap.size + 1 + 1 + 1 + 1) 0 _ 4 (0, 0) g3.ev.1.2.2.2.2.1
            have m9 := frozen_of_row Y (w.heap.size + 1 + 1 + 1 + 1) 0 _ 4 g3.ev.1.2.2.2.2.1
            rw [e1] at m4
            rw [e2] at m5
            simp at m0 m1 m2 m3 m4 m5 m6 m7 m8
            have HF := Lib.hid hst5
            have HHH := Lib.hid (And.intro hH1 hH2)
            clear hst5 hst4 g24 P0 P1 hS hH4 hH3 hH2 hH1 eH1 eH2 eH3 eH4 hv1 hv2 hUH hVH hD3 hzD g0 g2 g3 hK e1 e2 hD4
            generalize hLR : (rankL r s b d c rk).length = lr at *
            generalize hLP : (pageL r s b d c pg).length = lp at *
            skip
            gi_wp2_with fail
            obtain ⟨f1, f2, f3, f4⟩ := HF.out
            rw [← HHH.out.1, ← HHH.out.2]
            exact finish9 _ [mk1 D4, mk1 D3, mk1 H2, mk1 H1] w _ rfl (heap_setCell_same Y (w.heap.size + 1 + 1 + 1 + 1) 0 _ _ (.bool true) f1.1.2.2.2.2.1) (f4.same (fun D _ _ g => chg_at (set_chg (cw := fun i => i = w.heap.size + 1 + 1 + 1 + 1) Y _ (.bool true) rfl) g (fun e => by subst e; rw [f1.1.2.2.2.2.1] at g; cases g))) (f1.1.2.2.2.2.2.setCell (by show w.heap.size ≤ w.heap.size + 1 + 1 + 1 + 1; omega) _)
        case stop4 =>
          rintro D4 c' Y hD4 ⟨rfl, j, h1, h2, h3, g0, g2, g3⟩ hK
          have hs1 : 1 ≤ st := by omega
          have hs2 : st ≤ (n : Int) := by omega
          have hjs : ((j : Int) == st) = true := by simpa using h3
          by_cases hjn : (n : Int) ≤ st
          · have hjn2 : (st == (n : Int)) = true := by simp; omega
            have hst5 : St w r s b d c rk pg st A base (.slice av n cv) (allL r s b d c) (H1 + 1 + 1) v1 (rankL r s b d c rk) (H2 + 1 + 1) v2 (pageL r s b d c pg) [mk1 D4, mk1 D3, mk1 H2, mk1 H1] Y := ⟨g3.ev, g3.s1, g3.s2, ⟨D4, rfl, by omega, hK, fun D' hm => by have : D' = D3 ∨ D' = H2 ∨ D' = H1 := (by simpa [mk1] using hm); omega, g3.ds⟩⟩
            obtain ⟨av1, cv1, e1⟩ := g3.s1.2.slice
            obtain ⟨av2, cv2, e2⟩ := g3.s2.2.slice
            have m0 := cell_of_row Y A 0 _ 51 (0, 0) g3.ev.2.1
            have m1 := cell_of_row Y (A + 1) 0 _ 3 (0, 0) g2.1
            have m2 := cell_of_row Y (A + 1 + 1) 0 _ 3 (0, 0) g2.2.1
            have m3 := cell_of_row Y (A + 1 + 1 + 1) 0 _ 3 (0, 0) g2.2.2
            have m4 := cell_of_row Y (A + 1 + 1 + 1 + 1) 0 _ 51 (0, 0) g3.s1.1
            have m5 := cell_of_row Y (A + 1 + 1 + 1 + 1 + 1) 0 _ 51 (0, 0) g3.s2.1
            have m6 := cell_of_row Y (w.heap.size + 1 + 1 + 1) 0 _ 3 (0, 0) g3.ev.1.2.2.2.1
            have m7 := cell_of_row Y S 0 _ 3 (0, 0) g0
            have m8 := cell_of_row Y (w.heap.size + 1 + 1 + 1 + 1) 0 _ 4 (0, 0) g3.ev.1.2.2.2.2.1
            have m9 := frozen_of_row Y (w.heap.size + 1 + 1 + 1 + 1) 0 _ 4 g3.ev.1.2.2.2.2.1
            rw [e1] at m4
            rw [e2] at m5
            simp at m0 m1 m2 m3 m4 m5 m6 m7 m8
            have HF := Lib.hid hst5
            have HHH := Lib.hid (And.intro hH1 hH2)
            clear hst5 hst4 g24 P0 P1 hS hH4 hH3 hH2 hH1 eH1 eH2 eH3 eH4 hv1 hv2 hUH hVH hD3 hzD g0 g2 g3 hK e1 e2 hD4
            generalize hLR : (rankL r s b d c rk).length = lr at *
            generalize hLP : (pageL r s b d c pg).length = lp at *
            clear h1 h2
            gi_wp2_with fail
            obtain ⟨f1, f2, f3, f4⟩ := HF.out
            rw [← HHH.out.1, ← HHH.out.2]
            exact finish9 _ [mk1 D4, mk1 D3, mk1 H2, mk1 H1] w _ rfl (heap_setCell_same Y (w.heap.size + 1 + 1 + 1 + 1) 0 _ _ (.bool true) f1.1.2.2.2.2.1) (f4.same (fun D _ _ g => chg_at (set_chg (cw := fun i => i = w.heap.size + 1 + 1 + 1 + 1) Y _ (.bool true) rfl) g (fun e => by subst e; rw [f1.1.2.2.2.2.1] at g; cases g))) (f1.1.2.2.2.2.2.setCell (by show w.heap.size ≤ w.heap.size + 1 + 1 + 1 + 1; omega) _)
          · have hjn3 : st < (n : Int) := by omega
            have hst5 : St w r s b d c rk pg st A base (.slice av n cv) (allL r s b d c) (H1 + 1 + 1) v1 (rankL r s b d c rk) (H2 + 1 + 1) v2 (pageL r s b d c pg) [mk1 D4, mk1 D3, mk1 H2, mk1 H1] Y := ⟨g3.ev, g3.s1, g3.s2, ⟨D4, rfl, by omega, hK, fun D' hm => by have : D' = D3 ∨ D' = H2 ∨ D' = H1 := (by simpa [mk1] using hm); omega, g3.ds⟩⟩
            obtain ⟨av1, cv1, e1⟩ := g3.s1.2.slice
            obtain ⟨av2, cv2, e2⟩ := g3.s2.2.slice
            have m0 := cell_of_row Y A 0 _ 51 (0, 0) g3.ev.2.1
            have m1 := cell_of_row Y (A + 1) 0 _ 3 (0, 0) g2.1
            have m2 := cell_of_row Y (A + 1 + 1) 0 _ 3 (0, 0) g2.2.1
            have m3 := cell_of_row Y (A + 1 + 1 + 1) 0 _ 3 (0, 0) g2.2.2
            have m4 := cell_of_row Y (A + 1 + 1 + 1 + 1) 0 _ 51 (0, 0) g3.s1.1
            have m5 := cell_of_row Y (A + 1 + 1 + 1 + 1 + 1) 0 _ 51 (0, 0) g3.s2.1
            have m6 := cell_of_row Y (w.heap.size + 1 + 1 + 1) 0 _ 3 (0, 0) g3.ev.1.2.2.2.1
            have m7 := cell_of_row Y S 0 _ 3 (0, 0) g0
            have m8 := cell_of_row Y (w.heap.size + 1 + 1 + 1 + 1) 0 _ 4 (0, 0) g3.ev.1.2.2.2.2.1
            have m9 := frozen_of_row Y (w.heap.size + 1 + 1 + 1 + 1) 0 _ 4 g3.ev.1.2.2.2.2.1
            rw [e1] at m4
            rw [e2] at m5
            simp at m0 m1 m2 m3 m4 m5 m6 m7 m8
            have HF := Lib.hid hst5
            have HHH := Lib.hid (And.intro hH1 hH2)
            clear hst5 hst4 g24 P0 P1 hS hH4 hH3 hH2 hH1 eH1 eH2 eH3 eH4 hv1 hv2 hUH hVH hD3 hzD g0 g2 g3 hK e1 e2 hD4
            generalize hLR : (rankL r s b d c rk).length = lr at *
            generalize hLP : (pageL r s b d c pg).length = lp at *
            clear h1 h2
            gi_wp2_with fail
            obtain ⟨f1, f2, f3, f4⟩ := HF.out
            rw [← HHH.out.1, ← HHH.out.2]
            exact finish9 _ [mk1 D4, mk1 D3, mk1 H2, mk1 H1] w _ rfl (heap_setCell_same Y (w.heap.size + 1 + 1 + 1 + 1) 0 _ _ (.bool true) f1.1.2.2.2.2.1) (f4.same (fun D _ _ g => chg_at (set_chg (cw := fun i => i = w.heap.size + 1 + 1 + 1 + 1) Y _ (.bool true) rfl) g (fun e => by subst e; rw [f1.1.2.2.2.2.1] at g; cases g))) (f1.1.2.2.2.2.2.setCell (by show w.heap.size ≤ w.heap.size + 1 + 1 + 1 + 1; omega) _)

set_option maxRecDepth 100000 in
set_option maxHeartbeats 4000000 in
theorem walk_wrong (r s b d c rk pg st : Int) (bc : In64 c) (hrt : rightB r s b d c = false) (w : World) : Calls Try.prog 9 #[.agg #[.int .i64 r, .int .i64 s, .int .i64 b, .int .i64 d, .int .i64 c], .int .i64 rk, .int .i64 pg, .int .i64 st] w fun e w' => e = .returned (.bool true) ∧ Below w.heap.size w w' := by
  have HR := Lib.hid (fun (w : World) => (show Calls Try.prog 15 #[.agg #[.int .i64 r, .int .i64 s, .int .i64 b, .int .i64 d, .int .i64 c]] w (fun e w' => e = .returned (.bool false) ∧ Below w.heap.size w w') by have := rright_any r s b d c w; rw [hrt] at this; exact this))
  clear hrt
  refine (callsIn_wide (n := 9)).1 ?_
  refine callsIn_of_wp_marks Try.func9 rfl trivial ?_
  simp only [Try.ntmps9, List.size_toArray, List.length_cons, List.length_nil, Nat.reduceAdd, Nat.reduceSub, Array.replicate_succ, Array.replicate_zero, List.push_toArray, List.append_toArray, List.nil_append, List.cons_append]
  gi_wp2_with fail
  refine ⟨trivial, ?_⟩
  refine ((callsIn_wide (n := 8)).2 (anchor_any _)).mono ?_
  rintro e w1 ⟨rfl, hb1⟩
  have h1 := (hd_new w r s b d c rk pg st).keeps hb1
  clear hb1
  have c0 := cell_of_row w1 w.heap.size 0 _ 23 (0, 0) h1.1
  have c1 := cell_of_row w1 w.heap.size 1 _ 23 (0, 0) h1.1
  have c2 := cell_of_row w1 w.heap.size 2 _ 23 (0, 0) h1.1
  have c3 := cell_of_row w1 w.heap.size 3 _ 23 (0, 0) h1.1
  have c4 := cell_of_row w1 w.heap.size 4 _ 23 (0, 0) h1.1
  have c5 := cell_of_row w1 (w.heap.size + 1) 0 _ 3 (0, 0) h1.2.1
  have c6 := cell_of_row w1 (w.heap.size + 1 + 1) 0 _ 3 (0, 0) h1.2.2.1
  have c7 := cell_of_row w1 (w.heap.size + 1 + 1 + 1) 0 _ 3 (0, 0) h1.2.2.2.1
  have c8 := cell_of_row w1 (w.heap.size + 1 + 1 + 1 + 1) 0 _ 4 (0, 0) h1.2.2.2.2.1
  have zz : w.heap.size + 1 + 1 + 1 + 1 < w1.heap.size := at_lt h1.2.2.2.2.1
  have za : w.heap.size < w1.heap.size := by omega
  have zb : w.heap.size + 1 < w1.heap.size := by omega
  have zc : w.heap.size + 1 + 1 < w1.heap.size := by omega
  have zd : w.heap.size + 1 + 1 + 1 < w1.heap.size := by omega
  simp at c0 c1 c2 c3 c4 c5 c6 c7 c8
  gi_wp2_with fail
  refine ⟨trivial, ?_⟩
  refine ((callsIn_wide (n := 8)).2 (HR.out _)).mono ?_
  rintro e w2 ⟨rfl, hb2⟩
  have kk2 : Keeps w1 w2 := Keeps.next ((Below.refl _ _).alloc (Nat.le_refl _) _) hb2
  have h2 := h1.keeps kk2
  have X2 : w2.heap[w1.heap.size]? = some (.cells #[.int .i64 r, .int .i64 s, .int .i64 b, .int .i64 d, .int .i64 c] 31 (0, 0)) := old_at hb2 (han _ _ _ rfl)
  have z1 := at_lt X2
  clear hb2 kk2 h1 c0 c1 c2 c3 c4 c5 c6 c7 c8 za zb zc zd zz
  have c0 := cell_of_row w2 w.heap.size 0 _ 23 (0, 0) h2.1
  have c1 := cell_of_row w2 w.heap.size 1 _ 23 (0, 0) h2.1
  have c2 := cell_of_row w2 w.heap.size 2 _ 23 (0, 0) h2.1
  have c3 := cell_of_row w2 w.heap.size 3 _ 23 (0, 0) h2.1
  have c4 := cell_of_row w2 w.heap.size 4 _ 23 (0, 0) h2.1
  have c5 := cell_of_row w2 (w.heap.size + 1) 0 _ 3 (0, 0) h2.2.1
  have c6 := cell_of_row w2 (w.heap.size + 1 + 1) 0 _ 3 (0, 0) h2.2.2.1
  have c7 := cell_of_row w2 (w.heap.size + 1 + 1 + 1) 0 _ 3 (0, 0) h2.2.2.2.1
  have c8 := cell_of_row w2 (w.heap.size + 1 + 1 + 1 + 1) 0 _ 4 (0, 0) h2.2.2.2.2.1
  have zz : w.heap.size + 1 + 1 + 1 + 1 < w2.heap.size := at_lt h2.2.2.2.2.1
  have za : w.heap.size < w2.heap.size := by omega
  have zb : w.heap.size + 1 < w2.heap.size := by omega
  have zc : w.heap.size + 1 + 1 < w2.heap.size := by omega
  have zd : w.heap.size + 1 + 1 + 1 < w2.heap.size := by omega
  simp at c0 c1 c2 c3 c4 c5 c6 c7 c8
  have x0 := cell_of_row w2 w1.heap.size 0 _ 31 (0, 0) X2
  have x1 := cell_of_row w2 w1.heap.size 1 _ 31 (0, 0) X2
  have x2 := cell_of_row w2 w1.heap.size 2 _ 31 (0, 0) X2
  have x3 := cell_of_row w2 w1.heap.size 3 _ 31 (0, 0) X2
  have x4 := cell_of_row w2 w1.heap.size 4 _ 31 (0, 0) X2
  simp at x0 x1 x2 x3 x4
  gi_wp2_with fail
  refine ⟨trivial, ?_⟩
  refine ((callsIn_wide (n := 8)).2 (rall_any r s b d c _)).mono ?_
  rintro e w3 ⟨v, rfl, hsl, hb3⟩
  obtain ⟨av, cv, hv⟩ := hsl.slice
  obtain ⟨n, hn⟩ : ∃ n, n = (allL r s b d c).length := ⟨_, rfl⟩
  rw [← hn] at hv
  subst hv
  have HN := Lib.hid hn
  have h3 := h2.keeps hb3
  clear hb3 h2 hn X2 c0 c1 c2 c3 c4 c5 c6 c7 c8 za zb zc zd zz x0 x1 x2 x3 x4
  have c0 := cell_of_row w3 w.heap.size 0 _ 23 (0, 0) h3.1
  have c1 := cell_of_row w3 w.heap.size 1 _ 23 (0, 0) h3.1
  have c2 := cell_of_row w3 w.heap.size 2 _ 23 (0, 0) h3.1
  have c3 := cell_of_row w3 w.heap.size 3 _ 23 (0, 0) h3.1
  have c4 := cell_of_row w3 w.heap.size 4 _ 23 (0, 0) h3.1
  have c5 := cell_of_row w3 (w.heap.size + 1) 0 _ 3 (0, 0) h3.2.1
  have c6 := cell_of_row w3 (w.heap.size + 1 + 1) 0 _ 3 (0, 0) h3.2.2.1
  have c7 := cell_of_row w3 (w.heap.size + 1 + 1 + 1) 0 _ 3 (0, 0) h3.2.2.2.1
  have c8 := cell_of_row w3 (w.heap.size + 1 + 1 + 1 + 1) 0 _ 4 (0, 0) h3.2.2.2.2.1
  have zz : w.heap.size + 1 + 1 + 1 + 1 < w3.heap.size := at_lt h3.2.2.2.2.1
  have za : w.heap.size < w3.heap.size := by omega
  have zb : w.heap.size + 1 < w3.heap.size := by omega
  have zc : w.heap.size + 1 + 1 < w3.heap.size := by omega
  have zd : w.heap.size + 1 + 1 + 1 < w3.heap.size := by omega
  simp at c0 c1 c2 c3 c4 c5 c6 c7 c8
  have la1 : w.heap.size < w3.heap.size + 1 := by omega
  have lb1 : w.heap.size + 1 < w3.heap.size + 1 := by omega
  have la2 : w.heap.size < w3.heap.size + 1 + 1 := by omega
  have lb2 : w.heap.size + 1 < w3.heap.size + 1 + 1 := by omega
  have la3 : w.heap.size < w3.heap.size + 1 + 1 + 1 := by omega
  have lb3 : w.heap.size + 1 < w3.heap.size + 1 + 1 + 1 := by omega
  have la4 : w.heap.size < w3.heap.size + 1 + 1 + 1 + 1 := by omega
  have lb4 : w.heap.size + 1 < w3.heap.size + 1 + 1 + 1 + 1 := by omega
  have la5 : w.heap.size < w3.heap.size + 1 + 1 + 1 + 1 + 1 := by omega
  have lb5 : w.heap.size + 1 < w3.heap.size + 1 + 1 + 1 + 1 + 1 := by omega
  have la6 : w.heap.size < w3.heap.size + 1 + 1 + 1 + 1 + 1 + 1 := by omega
  have lb6 : w.heap.size + 1 < w3.heap.size + 1 + 1 + 1 + 1 + 1 + 1 := by omega
  have HS3 := Lib.hid hsl
  have H3 := Lib.hid h3
  clear hsl h3
  gi_wp2_with fail
  refine ⟨trivial, ?_⟩
  refine ((callsIn_wide (n := 8)).2 (Rank_any r s b d c rk _)).mono ?_
  rintro e w4 ⟨rfl, hw4⟩
  obtain ⟨A, hA⟩ : ∃ A, A = w3.heap.size := ⟨_, rfl⟩
  have hvA : ∀ g, (Value.slice av n cv).ownBlock = some g → g < A := fun g hg => by rw [hA]; exact (HS3.out.own g hg).2
  obtain ⟨base, hbase⟩ : ∃ base, base = w2.heap.size + 1 := ⟨_, rfl⟩
  have kk : Keeps w3 w4 := by rw [hw4]; refine ((((((((Below.refl _ _).alloc (Nat.le_refl _) _).alloc (by simp) _).alloc (by simp; omega) _).alloc (by simp; omega) _).alloc (by simp; omega) _).alloc (by simp; omega) _).alloc (by simp; omega) _).alloc (by simp; omega) _
  have hs4 : w4.heap.size = A + 1 + 1 + 1 + 1 + 1 + 1 + 1 + 1 := by rw [hw4, hA]; simp
  have R0 : w4.heap[A]? = some (.cells #[.slice av n cv] 51 (0, 0)) := by rw [hw4, hA]; rw [hao _ _ _ (by first | (simp; done) | (simp; omega)), hao _ _ _ (by first | (simp; done) | (simp; omega)), hao _ _ _ (by first | (simp; done) | (simp; omega)), hao _ _ _ (by first | (simp; done) | (simp; omega)), hao _ _ _ (by first | (simp; done) | (simp; omega)), hao _ _ _ (by first | (simp; done) | (simp; omega)), hao _ _ _ (by first | (simp; done) | (simp; omega))]; exact han _ _ _ (by first | rfl | (simp; done) | (simp; omega))
  have R1 : w4.heap[A + 1]? = some (.cells #[.int .i64 0] 3 (0, 0)) := by rw [hw4, hA]; rw [hao _ _ _ (by first | (simp; done) | (simp; omega)), hao _ _ _ (by first | (simp; done) | (simp; omega)), hao _ _ _ (by first | (simp; done) | (simp; omega)), hao _ _ _ (by first | (simp; done) | (simp; omega)), hao _ _ _ (by first | (simp; done) | (simp; omega)), hao _ _ _ (by first | (simp; done) | (simp; omega))]; exact han _ _ _ (by first | rfl | (simp; done) | (simp; omega))
  have R2 : w4.heap[A + 1 + 1]? = some (.cells #[.int .i64 0] 3 (0, 0)) := by rw [hw4, hA]; rw [hao _ _ _ (by first | (simp; done) | (simp; omega)), hao _ _ _ (by first | (simp; done) | (simp; omega)), hao _ _ _ (by first | (simp; done) | (simp; omega)), hao _ _ _ (by first | (simp; done) | (simp; omega)), hao _ _ _ (by first | (simp; done) | (simp; omega))]; exact han _ _ _ (by first | rfl | (simp; done) | (simp; omega))
  have R3 : w4.heap[A + 1 + 1 + 1]? = some (.cells #[.int .i64 0] 3 (0, 0)) := by rw [hw4, hA]; rw [hao _ _ _ (by first | (simp; done) | (simp; omega)), hao _ _ _ (by first | (simp; done) | (simp; omega)), hao _ _ _ (by first | (simp; done) | (simp; omega)), hao _ _ _ (by first | (simp; done) | (simp; omega))]; exact han _ _ _ (by first | rfl | (simp; done) | (simp; omega))
  have R4 : w4.heap[A + 1 + 1 + 1 + 1]? = some (.cells #[.slice none 0 0] 51 (0, 0)) := by rw [hw4, hA]; rw [hao _ _ _ (by first | (simp; done) | (simp; omega)), hao _ _ _ (by first | (simp; done) | (simp; omega)), hao _ _ _ (by first | (simp; done) | (simp; omega))]; exact han _ _ _ (by first | rfl | (simp; done) | (simp; omega))
  have R5 : w4.heap[A + 1 + 1 + 1 + 1 + 1]? = some (.cells #[.slice none 0 0] 51 (0, 0)) := by rw [hw4, hA]; rw [hao _ _ _ (by first | (simp; done) | (simp; omega)), hao _ _ _ (by first | (simp; done) | (simp; omega))]; exact han _ _ _ (by first | rfl | (simp; done) | (simp; omega))
  have R6 : w4.heap[A + 1 + 1 + 1 + 1 + 1 + 1]? = some (.cells #[.int .i64 r, .int .i64 s, .int .i64 b, .int .i64 d, .int .i64 c] 23 (0, 0)) := by rw [hw4, hA]; rw [hao _ _ _ (by first | (simp; done) | (simp; omega))]; exact han _ _ _ (by first | rfl | (simp; done) | (simp; omega))
  have R7 : w4.heap[A + 1 + 1 + 1 + 1 + 1 + 1 + 1]? = some (.cells #[.int .i64 rk] 3 (0, 0)) := by rw [hw4, hA]; exact han _ _ _ (by first | rfl | (simp; done) | (simp; omega))
  have hBA : w.heap.size + 1 + 1 + 1 + 1 < A := by rw [hA]; exact zz
  have hE : Ev w r s b d c rk pg st A base (.slice av n cv) (allL r s b d c) w4 := ⟨H3.out.keeps kk, R0, by rw [hbase]; exact HS3.out.keeps kk⟩
  have HX := Lib.hid (And.intro hE (And.intro (show Nn A 0 0 0 w4 from ⟨R1, R2, R3⟩) (And.intro R4 (And.intro R5 (And.intro R6 (And.intro R7 (And.intro hvA hBA)))))))
  simp only [World.size_alloc]
  rw [← hA]
  obtain ⟨H1, hH1⟩ : ∃ H1, H1 = w4.heap.size := ⟨_, rfl⟩
  have HH1 := Lib.hid (hH1.trans hs4)
  clear hvA hbase kk hs4 R0 R1 R2 R3 R4 R5 R6 R7 hBA hE hw4 HS3 H3 c0 c1 c2 c3 c4 c5 c6 c7 c8 za zb zc zd zz la1 lb1 la2 lb2 la3 lb3 la4 lb4 la5 lb5 la6 lb6 hA z1
  gi_wp2_with fail
  obtain ⟨hE, hN, R4, R5, R6, R7, hvA, hBA⟩ := HX.out
  refine wpIn_rangeFunc_itKw 9 9 (gf := 44) (lb := #[.pointer (some ⟨A + 1 + 1 + 1 + 1 + 1 + 1, 0, none⟩), .pointer (some ⟨A + 1 + 1 + 1 + 1 + 1 + 1 + 1, 0, none⟩)]) rfl (enters_of Try.func44 (by kernel_rfl) rfl) (oneV (rankL r s b d c rk)) (fun i => i = A + 1 + 1 + 1 + 1 + 1 + 1 ∨ i = A + 1 + 1 + 1 + 1 + 1 + 1 + 1) (fun i e => by rw [← hH1, HH1.out]; omega)
    (fun W1 hW1 => rank_call _ _ r s b d c rk W1 (old_at hW1 R6) (old_at hW1 R7))
    (fun k v hv => by obtain ⟨_, rfl⟩ := oneV_get _ k v hv; rfl)
    (fun i => i = A + 1 + 1 + 1 + 1 ∨ H1 + 1 + 1 ≤ i) (fun i hi => by rw [← hH1]; have := HH1.out; omega)
    (fun k W => Ev w r s b d c rk pg st A base (.slice av n cv) (allL r s b d c) W ∧ Nn A 0 0 0 W ∧ W.heap[A + 1 + 1 + 1 + 1 + 1]? = some (.cells #[.slice none 0 0] 51 (0, 0)) ∧ ∃ v1, Sc (A + 1 + 1 + 1 + 1) (H1 + 1 + 1) v1 ((rankL r s b d c rk).take k) W)
    (fun _ _ => False)
    (fun k X Y h hc => ?keep1) (fun _ _ _ h _ => h) ⟨hE, hN, R5, .slice none 0 0, R4, by rw [List.take_zero]; exact SlI.nil _ _⟩ ?round1 ?done1 (fun _ _ _ h _ => h.elim)
  case keep1 =>
    obtain ⟨g1, g2, g3, v1, g4⟩ := h
    have hh := HH1.out
    rw [← hH1] at hc
    exact ⟨g1.chg hBA hvA hc (fun i hi => by omega), g2.chg hc (fun i hi => by omega), chg_at hc g3 (by omega), v1, g4.chg hc (by omega) (fun g hg => by have := (g4.2.own g hg).1; omega)⟩
  case round1 =>
    intro k x W hx hW hi
    obtain ⟨hk, rfl⟩ := oneV_get _ k x hx
    have HK := Lib.hid hk
    clear hk hx
    generalize hxx : (rankL r s b d c rk).getD k 0 = x at *
    have HXX := Lib.hid hxx
    clear hxx
    gi_wp2_with fail
    refine ⟨Chg.refl _ _, hi, fun W2 hc2 hr2 hi2 => ?_⟩
    clear hi hr2
    obtain ⟨g1, g2, g3, v1, g4, g5⟩ := hi2
    obtain ⟨T1, hT1⟩ : ∃ T1, T1 = (rankL r s b d c rk).take k := ⟨_, rfl⟩
    rw [← hT1] at g5
    have hl1 : T1.length ≤ 1048576 := by rw [hT1, List.length_take]; have := rankL_le r s b d c rk; omega
    have hS : W2.ownsRow (H1 + 1 + 1) 3 1 v1 T1.length (T1.map (Value.int .i64)) := g5
    have m1 := cell_of_row W2 (A + 1 + 1 + 1 + 1) 0 _ 51 (0, 0) g4
    have m2 := at_lt g4
    have m3 : H1 + 1 + 1 ≤ W2.heap.size := by have := hc2.size; omega
    simp at m1
    obtain ⟨i0, hi0, hz0, hz1, hz2⟩ := info_parts info3
    have HG := Lib.hid (And.intro g1 (And.intro g2 (And.intro g3 (And.intro g4 (And.intro g5 hT1)))))
    clear g1 g2 g3 g4 hT1
    gi_wp2_with (gi_at_builtin; refine wpListIn_append_own _ rfl _ _ 51 rfl (H1 + 1 + 1) 3 i0 (.int .i64 0) 1 8 Try.underlying51 hi0 hz0 hz1 hz2 rfl (by decide) _ _ _ rfl (hS.alloc _) ⟨W2.heap.size, 0, none⟩ 1 1 [.int .i64 x] rfl rfl (cell_one_new _ _ _) (by simp [Value.oneCell']) (by unfold maxLen; omega) (by omega) (by simp; omega) ?_; intro v' w6 hown2 hgrow _; obtain ⟨aa, ca, hv'⟩ := SlI.slice (SlI.push hown2); rw [List.length_append, List.length_singleton] at hv'; subst hv'; obtain ⟨a1, a2, a3, a4⟩ := app_step g5 HG.out.2.2.2.1 hgrow hown2 (by have := HH1.out; omega); have b1 := cell_of_row w6 (A + 1 + 1 + 1 + 1) 0 _ 51 (0, 0) a1; have b2 := frozen_of_row w6 (A + 1 + 1 + 1 + 1) 0 _ 51 a1; simp at b1; have HA6 := Lib.hid (And.intro a2 (And.intro a3 a4)); clear a1 a2 a3 a4 hown2 hgrow)
    obtain ⟨a2, a3, a4⟩ := HA6.out
    obtain ⟨g1, g2, g3, g4, g5, hT1⟩ := HG.out
    have hh := HH1.out
    refine ⟨a2, g1.chg hBA hvA a2 (fun i hi => by omega), g2.chg a2 (fun i hi => by omega), chg_at a2 g3 (by omega), _, a3, ?_⟩
    rw [take_more HK.out, HXX.out, ← hT1]; exact a4
  case done1 =>
    rintro U hU ⟨g1, g2, g3, v1, g4⟩ hK
    rw [oneV_len, List.take_length] at g4
    rw [← hH1] at hU hK
    have hv1 : ∀ g, v1.ownBlock = some g → H1 + 1 + 1 ≤ g ∧ g < U.heap.size := g4.2.own
    have c0 := cell_of_row U w.heap.size 0 _ 23 (0, 0) g1.1.1
    have c1 := cell_of_row U w.heap.size 1 _ 23 (0, 0) g1.1.1
    have c2 := cell_of_row U w.heap.size 2 _ 23 (0, 0) g1.1.1
    have c3 := cell_of_row U w.heap.size 3 _ 23 (0, 0) g1.1.1
    have c4 := cell_of_row U w.heap.size 4 _ 23 (0, 0) g1.1.1
    have c5 := cell_of_row U (w.heap.size + 1) 0 _ 3 (0, 0) g1.1.2.1
    have c6 := cell_of_row U (w.heap.size + 1 + 1) 0 _ 3 (0, 0) g1.1.2.2.1
    have c7 := cell_of_row U (w.heap.size + 1 + 1 + 1) 0 _ 3 (0, 0) g1.1.2.2.2.1
    have c8 := cell_of_row U (w.heap.size + 1 + 1 + 1 + 1) 0 _ 4 (0, 0) g1.1.2.2.2.2.1
    have zz : w.heap.size + 1 + 1 + 1 + 1 < U.heap.size := at_lt g1.1.2.2.2.2.1
    have za : w.heap.size < U.heap.size := by omega
    have zb : w.heap.size + 1 < U.heap.size := by omega
    have zc : w.heap.size + 1 + 1 < U.heap.size := by omega
    have zd : w.heap.size + 1 + 1 + 1 < U.heap.size := by omega
    simp at c0 c1 c2 c3 c4 c5 c6 c7 c8
    have la1 : w.heap.size < U.heap.size + 1 := by omega
    have lb1 : w.heap.size + 1 < U.heap.size + 1 := by omega
    have la2 : w.heap.size < U.heap.size + 1 + 1 := by omega
    have lb2 : w.heap.size + 1 < U.heap.size + 1 + 1 := by omega
    have HY := Lib.hid (And.intro g1 (And.intro g2 (And.intro g3 (And.intro g4 (And.intro hK (And.intro hv1 hU))))))
    clear hE hN R4 R5 R6 R7 g1 g2 g3 g4 hK hv1 HX
    gi_wp2_with fail
    refine ⟨trivial, ?_⟩
    refine ((callsIn_wide (n := 8)).2 (PageI_any r s b d c pg _)).mono ?_
    rintro e U4 ⟨rfl, hU4⟩
    obtain ⟨g1, g2, g3, g4, hK, hv1, hU⟩ := HY.out
    have kk : Keeps U U4 := by rw [hU4]; exact ((Below.refl _ _).alloc (Nat.le_refl _) _).alloc (by simp) _
    have hs4 : U4.heap.size = U.heap.size + 1 + 1 := by rw [hU4]; simp
    have P1 : U4.heap[U.heap.size]? = some (.cells #[.int .i64 r, .int .i64 s, .int .i64 b, .int .i64 d, .int .i64 c] 23 (0, 0)) := by rw [hU4, hao _ _ _ (by simp)]; exact han _ _ _ rfl
    have P2 : U4.heap[U.heap.size + 1]? = some (.cells #[.int .i64 pg] 3 (0, 0)) := by rw [hU4]; exact han _ _ _ (by simp)
    obtain ⟨H2, hH2⟩ : ∃ H2, H2 = U4.heap.size := ⟨_, rfl⟩
    have HH2 := Lib.hid (And.intro (hH2.trans hs4) (And.intro hv1 hU))
    have d1 : Dfs w.heap.size U4 [mk1 H1] := ⟨H1, rfl, by have := HH1.out; omega, old_at kk hK, by simp, trivial⟩
    have HX := Lib.hid (And.intro (g1.chg hBA hvA (Chg.of_below kk (fun _ => False)) (fun _ h => h.elim)) (And.intro (g2.chg (Chg.of_below kk (fun _ => False)) (fun _ h => h.elim)) (And.intro (old_at kk g3) (And.intro (g4.chg (Chg.of_below kk (fun _ => False)) (fun h => h) (fun _ _ h => h)) (And.intro d1 (And.intro P1 P2))))))
    clear g1 g2 g3 g4 hK hv1 hU kk hs4 P1 P2 hU4 d1 c0 c1 c2 c3 c4 c5 c6 c7 c8 za zb zc zd zz la1 lb1 la2 lb2
    gi_wp2_with fail
    obtain ⟨hE, hN, R5, S1, hd1, P1, P2⟩ := HX.out
    obtain ⟨eH2, hv1, hUH⟩ := HH2.out
    have eH1 := HH1.out
    refine wpIn_rangeFunc_itKw 9 9 (gf := 45) (lb := #[.pointer (some ⟨U.heap.size + 1, 0, none⟩), .pointer (some ⟨U.heap.size, 0, none⟩)]) rfl (enters_of Try.func45 (by kernel_rfl) rfl) (oneV (pageL r s b d c pg)) (fun i => i = U.heap.size ∨ i = U.heap.size + 1) (fun i e => by rw [← hH2]; omega)
      (fun W1 hW1 => page_call _ _ r s b d c pg W1 (old_at hW1 P1) (old_at hW1 P2) (by have := bc; unfold In64 at this; omega) (by have := bc; unfold In64 at this; omega))
      (fun k v hv => by obtain ⟨_, rfl⟩ := oneV_get _ k v hv; rfl)
      (fun i => i = A + 1 + 1 + 1 + 1 + 1 ∨ H2 + 1 + 1 ≤ i) (fun i hi => by rw [← hH2]; omega)
      (fun k W => Ev w r s b d c rk pg st A base (.slice av n cv) (allL r s b d c) W ∧ Nn A 0 0 0 W ∧ Sc (A + 1 + 1 + 1 + 1) (H1 + 1 + 1) v1 (rankL r s b d c rk) W ∧ Dfs w.heap.size W [mk1 H1] ∧ ∃ v2, Sc (A + 1 + 1 + 1 + 1 + 1) (H2 + 1 + 1) v2 ((pageL r s b d c pg).take k) W)
      (fun _ _ => False)
      (fun k X Y h hc => ?keep2) (fun _ _ _ h _ => h) ⟨hE, hN, S1, hd1, .slice none 0 0, R5, by rw [List.take_zero]; exact SlI.nil _ _⟩ ?round2 ?done2 (fun _ _ _ h _ => h.elim)
    case keep2 =>
      obtain ⟨g1, g2, g3, g4, v2, g5⟩ := h
      rw [← hH2] at hc
      exact ⟨g1.chg hBA hvA hc (fun i hi => by omega), g2.chg hc (fun i hi => by omega), g3.chg hc (by omega) (fun g hg => by have := (hv1 g hg).2; omega), g4.same (fun D _ hm g => chg_at hc g (by have : D = H1 := (by simpa [mk1] using hm); omega)), v2, g5.chg hc (by omega) (fun g hg => by have := (g5.2.own g hg).1; omega)⟩
    case round2 =>
      intro k x W hx hW hi
      obtain ⟨hk, rfl⟩ := oneV_get _ k x hx
      have HK := Lib.hid hk
      clear hk hx
      generalize hxx : (pageL r s b d c pg).getD k 0 = x at *
      have HXX := Lib.hid hxx
      clear hxx
      gi_wp2_with fail
      refine ⟨Chg.refl _ _, hi, fun W2 hc2 hr2 hi2 => ?_⟩
      clear hi hr2
      obtain ⟨g1, g2, g3, g6, v2, g4, g5⟩ := hi2
      obtain ⟨T1, hT1⟩ : ∃ T1, T1 = (pageL r s b d c pg).take k := ⟨_, rfl⟩
      rw [← hT1] at g5
      have hl1 : T1.length ≤ 64 := by rw [hT1, List.length_take]; have := pageL_le r s b d c pg; omega
      have hS : W2.ownsRow (H2 + 1 + 1) 3 1 v2 T1.length (T1.map (Value.int .i64)) := g5
      have m1 := cell_of_row W2 (A + 1 + 1 + 1 + 1 + 1) 0 _ 51 (0, 0) g4
      have m2 := at_lt g4
      have m3 : H2 + 1 + 1 ≤ W2.heap.size := by have := hc2.size; omega
      simp at m1
      obtain ⟨i0, hi0, hz0, hz1, hz2⟩ := info_parts info3
      have HG := Lib.hid (And.intro g1 (And.intro g2 (And.intro g3 (And.intro g6 (And.intro g4 (And.intro g5 hT1))))))
      clear g1 g2 g3 g4 g6 hT1 hE hN R5 S1 hd1 P1 P2 hv1
      gi_wp2_with (gi_at_builtin; refine wpListIn_append_own _ rfl _ _ 51 rfl (H2 + 1 + 1) 3 i0 (.int .i64 0) 1 8 Try.underlying51 hi0 hz0 hz1 hz2 rfl (by decide) _ _ _ rfl (hS.alloc _) ⟨W2.heap.size, 0, none⟩ 1 1 [.int .i64 x] rfl rfl (cell_one_new _ _ _) (by simp [Value.oneCell']) (by unfold maxLen; omega) (by omega) (by simp; omega) ?_; intro v' w6 hown2 hgrow _; obtain ⟨aa, ca, hv'⟩ := SlI.slice (SlI.push hown2); rw [List.length_append, List.length_singleton] at hv'; subst hv'; obtain ⟨a1, a2, a3, a4⟩ := app_step g5 HG.out.2.2.2.2.1 hgrow hown2 (by omega); have b1 := cell_of_row w6 (A + 1 + 1 + 1 + 1 + 1) 0 _ 51 (0, 0) a1; have b2 := frozen_of_row w6 (A + 1 + 1 + 1 + 1 + 1) 0 _ 51 a1; simp at b1; have HA6 := Lib.hid (And.intro a2 (And.intro a3 a4)); clear a1 a2 a3 a4 hown2 hgrow)
      obtain ⟨a2, a3, a4⟩ := HA6.out
      obtain ⟨g1, g2, g3, g6, g4, g5, hT1⟩ := HG.out
      have hv1 := HH2.out.2.1
      refine ⟨a2, g1.chg hBA hvA a2 (fun i hi => by omega), g2.chg a2 (fun i hi => by omega), g3.chg a2 (by omega) (fun g hg => by have := (hv1 g hg).2; have := (hv1 g hg).1; omega), g6.same (fun D _ hm g => chg_at a2 g (by have : D = H1 := (by simpa [mk1] using hm); omega)), _, a3, ?_⟩
      rw [take_more HK.out, HXX.out, ← hT1]; exact a4
    case done2 =>
      rintro V hV ⟨g1, g2, g3, g4, v2, g5⟩ hK
      rw [oneV_len, List.take_length] at g5
      rw [← hH2] at hV hK
      have hv2 : ∀ g, v2.ownBlock = some g → H2 + 1 + 1 ≤ g ∧ g < V.heap.size := g5.2.own
      have eH2 := HH2.out.1
      have hst : St w r s b d c rk pg st A base (.slice av n cv) (allL r s b d c) (H1 + 1 + 1) v1 (rankL r s b d c rk) (H2 + 1 + 1) v2 (pageL r s b d c pg) [mk1 H2, mk1 H1] V := ⟨g1, g3, g5, ⟨H2, rfl, by omega, hK, fun D' hm => by have : D' = H1 := (by simpa [mk1] using hm); omega, g4⟩⟩
      have c0 := cell_of_row V w.heap.size 0 _ 23 (0, 0) g1.1.1
      have c1 := cell_of_row V w.heap.size 1 _ 23 (0, 0) g1.1.1
      have c2 := cell_of_row V w.heap.size 2 _ 23 (0, 0) g1.1.1
      have c3 := cell_of_row V w.heap.size 3 _ 23 (0, 0) g1.1.1
      have c4 := cell_of_row V w.heap.size 4 _ 23 (0, 0) g1.1.1
      have c5 := cell_of_row V (w.heap.size + 1) 0 _ 3 (0, 0) g1.1.2.1
      have c6 := cell_of_row V (w.heap.size + 1 + 1) 0 _ 3 (0, 0) g1.1.2.2.1
      have c7 := cell_of_row V (w.heap.size + 1 + 1 + 1) 0 _ 3 (0, 0) g1.1.2.2.2.1
      have c8 := cell_of_row V (w.heap.size + 1 + 1 + 1 + 1) 0 _ 4 (0, 0) g1.1.2.2.2.2.1
      have zz : w.heap.size + 1 + 1 + 1 + 1 < V.heap.size := at_lt g1.1.2.2.2.2.1
      have za : w.heap.size < V.heap.size := by omega
      have zb : w.heap.size + 1 < V.heap.size := by omega
      have zc : w.heap.size + 1 + 1 < V.heap.size := by omega
      have zd : w.heap.size + 1 + 1 + 1 < V.heap.size := by omega
      simp at c0 c1 c2 c3 c4 c5 c6 c7 c8
      have la1 : w.heap.size < V.heap.size + 1 := by omega
      have lb1 : w.heap.size + 1 < V.heap.size + 1 := by omega
      have HY := Lib.hid (And.intro hst (And.intro g2 (And.intro hv2 hV)))
      clear hE hN R5 S1 hd1 P1 P2 hv1 hUH g1 g2 g3 g4 g5 hK hv2 hV HX hst eH2 eH1
      gi_wp2_with fail
      refine ⟨trivial, ?_⟩
      refine ((callsIn_wide (n := 8)).2 (AllI_any r s b d c _)).mono ?_
      rintro e V4 ⟨rfl, hV4⟩
      obtain ⟨hst, g2, hv2, hV⟩ := HY.out
      have hv1 := HH2.out.2.1
      have eH1 := HH1.out
      have eH2 := HH2.out.1
      have hUH := HH2.out.2.2
      have kk : Keeps V V4 := by rw [hV4]; exact (Below.refl _ _).alloc (Nat.le_refl _) _
      have hs4 : V4.heap.size = V.heap.size + 1 := by rw [hV4]; simp
      have P1 : V4.heap[V.heap.size]? = some (.cells #[.int .i64 r, .int .i64 s, .int .i64 b, .int .i64 d, .int .i64 c] 23 (0, 0)) := by rw [hV4]; exact han _ _ _ rfl
      have hst4 := hst.chg hBA hvA (Chg.of_below kk (fun _ => False)) (fun _ h => h.elim) (fun _ _ h => h) (fun _ _ h => h) (fun _ _ h => h)
      have g24 := g2.chg (Chg.of_below kk (fun _ => False)) (fun _ h => h.elim)
      obtain ⟨H3, hH3⟩ : ∃ H3, H3 = V4.heap.size := ⟨_, rfl⟩
      have HH3 := Lib.hid (And.intro (hH3.trans hs4) (And.intro hv2 hV))
      obtain ⟨cr, hcr⟩ := sub_rank r s b d c rk
      obtain ⟨cp, hcp⟩ := sub_page r s b d c pg
      have HSR := Lib.hid hcr
      have HSP := Lib.hid hcp
      have HX := Lib.hid (And.intro hst4 (And.intro g24 P1))
      clear hst g2 hv2 hV hv1 eH1 eH2 hUH kk hs4 hst4 g24 hV4 hcr hcp c0 c1 c2 c3 c4 c5 c6 c7 c8 za zb zc zd zz la1 lb1 P1
      gi_wp2_with fail
      obtain ⟨hst4, g24, P1⟩ := HX.out
      have hv1 := HH2.out.2.1
      have eH1 := HH1.out
      have eH2 := HH2.out.1
      have hUH := HH2.out.2.2
      obtain ⟨eH3, hv2, hVH⟩ := HH3.out
      refine wpIn_rangeFunc_it3w 9 9 (gf := 46) (lb := #[.pointer (some ⟨V.heap.size, 0, none⟩)]) rfl (enters_of Try.func46 (by kernel_rfl) rfl) (oneV (allL r s b d c)) (fun i => i = V.heap.size) (fun _ => False) (fun i e => by rw [← hH3]; omega) (fun i e => e.elim)
        (fun W1 hW1 => all_call _ r s b d c W1 (old_at hW1 P1))
        (fun k v hv => by obtain ⟨_, rfl⟩ := oneV_get _ k v hv; rfl)
        (fun i => i = A + 1 ∨ i = A + 1 + 1 ∨ i = A + 1 + 1 + 1) (fun i hi => by rw [← hH3]; omega)
        (fun j W => Nn A (j : Nat) (cr j : Nat) (cp j : Nat) W ∧ St w r s b d c rk pg st A base (.slice av n cv) (allL r s b d c) (H1 + 1 + 1) v1 (rankL r s b d c rk) (H2 + 1 + 1) v2 (pageL r s b d c pg) [mk1 H2, mk1 H1] W)
        (fun _ _ => False)
        (fun j X Y h hc => ?keep3) (fun _ _ _ h _ => h) ⟨by rw [HSR.out.zero, HSP.out.zero]; exact g24, hst4⟩ ?round3 ?done3 (fun _ _ _ _ h _ => h.elim)
      case keep3 =>
        rw [← hH3] at hc
        have mks : ∀ D, mk1 D ∈ [mk1 H2, mk1 H1] → D = H2 ∨ D = H1 := fun D hm => by simpa [mk1] using hm
        refine ⟨h.1.chg hc (fun i hi => by rcases hi with hi | hi; exact hi.elim; omega), h.2.chg hBA hvA hc (fun i hi => by rcases hi with hi | hi; exact hi.elim; omega) (fun g hg hi => ?_) (fun g hg hi => ?_) (fun D hm hi => ?_)⟩
        · have := (hv1 g hg).2; rcases hi with hi | hi; exact hi.elim; omega
        · have := (hv2 g hg).2; rcases hi with hi | hi; exact hi.elim; omega
        · have := mks D hm; rcases hi with hi | hi; exact hi.elim; omega
      case round3 =>
        intro l2 j x W hx hl2 hW hi
        obtain ⟨hk, rfl⟩ := oneV_get _ j x hx
        have hx0 := all_nonneg r s b d c j hk
        have HK := Lib.hid hk
        clear hk hx
        generalize hxx : (allL r s b d c).getD j 0 = x at *
        have HXX := Lib.hid hxx
        clear hxx
        gi_wp2_with fail
        refine ⟨Chg.refl _ _, hi, fun W2 hc2 hr2 hi2 => ?_⟩
        clear hi hr2
        obtain ⟨g2, g3⟩ := hi2
        obtain ⟨x0', x1'⟩ := hx0
        rcases g3.ev.2.2.cases with ⟨_, hnil⟩ | ⟨g, cap', e, hg, hgs, _, _, hcell⟩
        · have := HK.out; rw [hnil] at this; simp at this
        injection e with e1 e2 e3
        have vc := hcell j HK.out
        rw [HXX.out] at vc
        have hjn : (j : Int) < n := by have := HK.out; have := HN.out; omega
        subst e1
        clear e2 e3 hcell
        have HAx := Lib.hid (show True from trivial)
        have m0 := cell_of_row W2 A 0 _ 51 (0, 0) g3.ev.2.1
        have m1 := cell_of_row W2 (A + 1) 0 _ 3 (0, 0) g2.1
        have m2 := cell_of_row W2 (A + 1 + 1) 0 _ 3 (0, 0) g2.2.1
        have m5 := cell_of_row W2 (A + 1 + 1 + 1) 0 _ 3 (0, 0) g2.2.2
        have m6 := cell_of_row W2 (w.heap.size + 1) 0 _ 3 (0, 0) g3.ev.1.2.1
        have m7 := cell_of_row W2 (w.heap.size + 1 + 1) 0 _ 3 (0, 0) g3.ev.1.2.2.1
        have f1 := frozen_of_row W2 (A + 1) 0 _ 3 g2.1
        have f2 := frozen_of_row W2 (A + 1 + 1) 0 _ 3 g2.2.1
        have f3 := frozen_of_row W2 (A + 1 + 1 + 1) 0 _ 3 g2.2.2
        simp at m0 m1 m2 m5 m6 m7
        have hnn : n ≤ 8388608 := by rw [HN.out]; exact allL_le r s b d c
        by_cases h1 : x / 1048576 = rk
        · by_cases h2 : x / 64 = pg
          · have e1 : ((x : Int) / 1048576 == rk) = true := by simpa using h1
            have e2 : ((x : Int) / 64 == pg) = true := by simpa using h2
            obtain ⟨k1, k2, k3⟩ := HSR.out.hit j HK.out (by rw [HXX.out]; simpa using h1)
            rcases g3.s1.2.cases with ⟨_, hnil⟩ | ⟨ga, ca, rfl, hga, hgs, _, _, hcell⟩
            · rw [hnil] at k1; simp at k1
            have v2c := hcell (cr j) k1
            rw [k2, HXX.out] at v2c
            have l1 : ((cr j : Nat) : Int) < (rankL r s b d c rk).length := by omega
            obtain ⟨k4, k5, k6⟩ := HSP.out.hit j HK.out (by rw [HXX.out]; simpa using h2)
            rcases g3.s2.2.cases with ⟨_, hnil⟩ | ⟨gb, cb, rfl, hgb, hgt, _, _, hcelm⟩
            · rw [hnil] at k4; simp at k4
            have v3c := hcelm (cp j) k4
            rw [k5, HXX.out] at v3c
            have l2 : ((cp j : Nat) : Int) < (pageL r s b d c pg).length := by omega
            have m3 := cell_of_row W2 (A + 1 + 1 + 1 + 1) 0 _ 51 (0, 0) g3.s1.1
            have m4 := cell_of_row W2 (A + 1 + 1 + 1 + 1 + 1) 0 _ 51 (0, 0) g3.s2.1
            simp at m3 m4
            have lrr := rankL_le r s b d c rk
            have lpp := pageL_le r s b d c pg
            have cr0 := HSR.out
            have HK3 := Lib.hid (And.intro g2 (And.intro g3 (And.intro k3 k6)))
            clear g2 g3 k3 k6 h1 h2 cr0 k2 hcell k5 hcelm
            generalize hLR : (rankL r s b d c rk).length = lr at *
            generalize hLP : (pageL r s b d c pg).length = lp at *
            gi_wp2_with fail
            obtain ⟨g2, g3, k3, k6⟩ := HK3.out
            have hc := Chg.trans (Chg.trans (set_chg (cw := fun i => i = A + 1 ∨ i = A + 1 + 1 ∨ i = A + 1 + 1 + 1) W2 (A + 1) (.int .i64 ((j : Int) + 1)) (.inl rfl)) (set_chg _ (A + 1 + 1) (.int .i64 (((cr j : Nat) : Int) + 1)) (.inr (.inl rfl)))) (set_chg _ (A + 1 + 1 + 1) (.int .i64 (((cp j : Nat) : Int) + 1)) (.inr (.inr rfl)))
            have hv1 := HH2.out.2.1
            have eH1 := HH1.out
            have eH2 := HH2.out.1
            have hv2 := HH3.out.2.1
            refine ⟨hc, ?_, g3.chg hBA hvA hc (fun i hi => by omega) (fun g hg hi => by have := (hv1 g hg).1; omega) (fun g hg hi => by have := (hv2 g hg).1; have := HH2.out.2.2; omega) (fun D hm hi => by have : D = H2 ∨ D = H1 := (by simpa [mk1] using hm); have := HH2.out.2.2; omega)⟩
            rw [k3, k6, Int.natCast_add j 1, Int.natCast_add (cr j) 1, Int.natCast_add (cp j) 1]
            exact ((g2.set1 ((j : Int) + 1)).set2 (((cr j : Nat) : Int) + 1)).set3 (((cp j : Nat) : Int) + 1)
          · have e1 : ((x : Int) / 1048576 == rk) = true := by simpa using h1
            have e2 : ((x : Int) / 64 == pg) = false := by simpa using h2
            obtain ⟨k1, k2, k3⟩ := HSR.out.hit j HK.out (by rw [HXX.out]; simpa using h1)
            rcases g3.s1.2.cases with ⟨_, hnil⟩ | ⟨ga, ca, rfl, hga, hgs, _, _, hcell⟩
            · rw [hnil] at k1; simp at k1
            have v2c := hcell (cr j) k1
            rw [k2, HXX.out] at v2c
            have l1 : ((cr j : Nat) : Int) < (rankL r s b d c rk).length := by omega
            have k6 := HSP.out.miss j HK.out (by rw [HXX.out]; simpa using h2)
            have m3 := cell_of_row W2 (A + 1 + 1 + 1 + 1) 0 _ 51 (0, 0) g3.s1.1
            have m4 := cell_of_row W2 (A + 1 + 1 + 1 + 1 + 1) 0 _ 51 (0, 0) g3.s2.1
            simp at m3 m4
            have lrr := rankL_le r s b d c rk
            have lpp := pageL_le r s b d c pg
            have cr0 := HSR.out
            have HK3 := Lib.hid (And.intro g2 (And.intro g3 (And.intro k3 k6)))
            clear g2 g3 k3 k6 h1 h2 cr0 k2 hcell
            generalize hLR : (rankL r s b d c rk).length = lr at *
            generalize hLP : (pageL r s b d c pg).length = lp at *
            gi_wp2_with fail
            obtain ⟨g2, g3, k3, k6⟩ := HK3.out
            have hc := Chg.trans (set_chg (cw := fun i => i = A + 1 ∨ i = A + 1 + 1 ∨ i = A + 1 + 1 + 1) W2 (A + 1) (.int .i64 ((j : Int) + 1)) (.inl rfl)) (set_chg _ (A + 1 + 1) (.int .i64 (((cr j : Nat) : Int) + 1)) (.inr (.inl rfl)))
            have hv1 := HH2.out.2.1
            have eH1 := HH1.out
            have eH2 := HH2.out.1
            have hv2 := HH3.out.2.1
            refine ⟨hc, ?_, g3.chg hBA hvA hc (fun i hi => by omega) (fun g hg hi => by have := (hv1 g hg).1; omega) (fun g hg hi => by have := (hv2 g hg).1; have := HH2.out.2.2; omega) (fun D hm hi => by have : D = H2 ∨ D = H1 := (by simpa [mk1] using hm); have := HH2.out.2.2; omega)⟩
            rw [k3, k6, Int.natCast_add j 1, Int.natCast_add (cr j) 1]
            exact (g2.set1 ((j : Int) + 1)).set2 (((cr j : Nat) : Int) + 1)
        · by_cases h2 : x / 64 = pg
          · have e1 : ((x : Int) / 1048576 == rk) = false := by simpa using h1
            have e2 : ((x : Int) / 64 == pg) = true := by simpa using h2
            have k3 := HSR.out.miss j HK.out (by rw [HXX.out]; simpa using h1)
            obtain ⟨k4, k5, k6⟩ := HSP.out.hit j HK.out (by rw [HXX.out]; simpa using h2)
            rcases g3.s2.2.cases with ⟨_, hnil⟩ | ⟨gb, cb, rfl, hgb, hgt, _, _, hcelm⟩
            · rw [hnil] at k4; simp at k4
            have v3c := hcelm (cp j) k4
            rw [k5, HXX.out] at v3c
            have l2 : ((cp j : Nat) : Int) < (pageL r s b d c pg).length := by omega
            have m3 := cell_of_row W2 (A + 1 + 1 + 1 + 1) 0 _ 51 (0, 0) g3.s1.1
            have m4 := cell_of_row W2 (A + 1 + 1 + 1 + 1 + 1) 0 _ 51 (0, 0) g3.s2.1
            simp at m3 m4
            have lrr := rankL_le r s b d c rk
            have lpp := pageL_le r s b d c pg
            have cr0 := HSR.out
            have HK3 := Lib.hid (And.intro g2 (And.intro g3 (And.intro k3 k6)))
            clear g2 g3 k3 k6 h1 h2 cr0 k5 hcelm
            generalize hLR : (rankL r s b d c rk).length = lr at *
            generalize hLP : (pageL r s b d c pg).length = lp at *
            gi_wp2_with fail
            obtain ⟨g2, g3, k3, k6⟩ := HK3.out
            have hc := Chg.trans (set_chg (cw := fun i => i = A + 1 ∨ i = A + 1 + 1 ∨ i = A + 1 + 1 + 1) W2 (A + 1) (.int .i64 ((j : Int) + 1)) (.inl rfl)) (set_chg _ (A + 1 + 1 + 1) (.int .i64 (((cp j : Nat) : Int) + 1)) (.inr (.inr rfl)))
            have hv1 := HH2.out.2.1
            have eH1 := HH1.out
            have eH2 := HH2.out.1
            have hv2 := HH3.out.2.1
            refine ⟨hc, ?_, g3.chg hBA hvA hc (fun i hi => by omega) (fun g hg hi => by have := (hv1 g hg).1; omega) (fun g hg hi => by have := (hv2 g hg).1; have := HH2.out.2.2; omega) (fun D hm hi => by have : D = H2 ∨ D = H1 := (by simpa [mk1] using hm); have := HH2.out.2.2; omega)⟩
            rw [k3, k6, Int.natCast_add j 1, Int.natCast_add (cp j) 1]
            exact (g2.set1 ((j : Int) + 1)).set3 (((cp j : Nat) : Int) + 1)
          · have e1 : ((x : Int) / 1048576 == rk) = false := by simpa using h1
            have e2 : ((x : Int) / 64 == pg) = false := by simpa using h2
            have k3 := HSR.out.miss j HK.out (by rw [HXX.out]; simpa using h1)
            have k6 := HSP.out.miss j HK.out (by rw [HXX.out]; simpa using h2)
            have m3 := cell_of_row W2 (A + 1 + 1 + 1 + 1) 0 _ 51 (0, 0) g3.s1.1
            have m4 := cell_of_row W2 (A + 1 + 1 + 1 + 1 + 1) 0 _ 51 (0, 0) g3.s2.1
            simp at m3 m4
            have lrr := rankL_le r s b d c rk
            have lpp := pageL_le r s b d c pg
            have cr0 := HSR.out
            have HK3 := Lib.hid (And.intro g2 (And.intro g3 (And.intro k3 k6)))
            clear g2 g3 k3 k6 h1 h2 cr0
            generalize hLR : (rankL r s b d c rk).length = lr at *
            generalize hLP : (pageL r s b d c pg).length = lp at *
            gi_wp2_with fail
            obtain ⟨g2, g3, k3, k6⟩ := HK3.out
            have hc := set_chg (cw := fun i => i = A + 1 ∨ i = A + 1 + 1 ∨ i = A + 1 + 1 + 1) W2 (A + 1) (.int .i64 ((j : Int) + 1)) (.inl rfl)
            have hv1 := HH2.out.2.1
            have eH1 := HH1.out
            have eH2 := HH2.out.1
            have hv2 := HH3.out.2.1
            refine ⟨hc, ?_, g3.chg hBA hvA hc (fun i hi => by omega) (fun g hg hi => by have := (hv1 g hg).1; omega) (fun g hg hi => by have := (hv2 g hg).1; have := HH2.out.2.2; omega) (fun D hm hi => by have : D = H2 ∨ D = H1 := (by simpa [mk1] using hm); have := HH2.out.2.2; omega)⟩
            rw [k3, k6, Int.natCast_add j 1]
            exact g2.set1 ((j : Int) + 1)
      case done3 =>
        rintro D3 Z hD3 ⟨g2, g3⟩ hK
        rw [oneV_len] at g2
        rw [HSR.out.total, HSP.out.total, ← HN.out] at g2
        rw [← hH3] at hD3
        have hst : St w r s b d c rk pg st A base (.slice av n cv) (allL r s b d c) (H1 + 1 + 1) v1 (rankL r s b d c rk) (H2 + 1 + 1) v2 (pageL r s b d c pg) [mk1 D3, mk1 H2, mk1 H1] Z := ⟨g3.ev, g3.s1, g3.s2, ⟨D3, rfl, by omega, hK, fun D' hm => by have : D' = H2 ∨ D' = H1 := (by simpa [mk1] using hm); omega, g3.ds⟩⟩
        have hzD := at_lt hK
        have c0 := cell_of_row Z w.heap.size 0 _ 23 (0, 0) g3.ev.1.1
        have c1 := cell_of_row Z w.heap.size 1 _ 23 (0, 0) g3.ev.1.1
        have c2 := cell_of_row Z w.heap.size 2 _ 23 (0, 0) g3.ev.1.1
        have c3 := cell_of_row Z w.heap.size 3 _ 23 (0, 0) g3.ev.1.1
        have c4 := cell_of_row Z w.heap.size 4 _ 23 (0, 0) g3.ev.1.1
        have c5 := cell_of_row Z (w.heap.size + 1) 0 _ 3 (0, 0) g3.ev.1.2.1
        have c6 := cell_of_row Z (w.heap.size + 1 + 1) 0 _ 3 (0, 0) g3.ev.1.2.2.1
        have c7 := cell_of_row Z (w.heap.size + 1 + 1 + 1) 0 _ 3 (0, 0) g3.ev.1.2.2.2.1
        have c8 := cell_of_row Z (w.heap.size + 1 + 1 + 1 + 1) 0 _ 4 (0, 0) g3.ev.1.2.2.2.2.1
        have zz : w.heap.size + 1 + 1 + 1 + 1 < Z.heap.size := at_lt g3.ev.1.2.2.2.2.1
        have za : w.heap.size < Z.heap.size := by omega
        have zb : w.heap.size + 1 < Z.heap.size := by omega
        have zc : w.heap.size + 1 + 1 < Z.heap.size := by omega
        have zd : w.heap.size + 1 + 1 + 1 < Z.heap.size := by omega
        simp at c0 c1 c2 c3 c4 c5 c6 c7 c8
        have la1 : w.heap.size < Z.heap.size + 1 := by omega
        have lb1 : w.heap.size + 1 < Z.heap.size + 1 := by omega
        have la2 : w.heap.size < Z.heap.size + 1 + 1 := by omega
        have lb2 : w.heap.size + 1 < Z.heap.size + 1 + 1 := by omega
        have HY := Lib.hid (And.intro hst (And.intro g2 (And.intro hD3 hzD)))
        clear hst4 g24 P1 hv1 eH1 eH2 hUH eH3 hv2 hVH g2 g3 hK hD3 HX hst hzD
        gi_wp2_with fail
        refine ⟨trivial, ?_⟩
        refine ((callsIn_wide (n := 8)).2 (AllI_any r s b d c _)).mono ?_
        rintro e Z4 ⟨rfl, hZ4⟩
        obtain ⟨hst, g2, hD3, hzD⟩ := HY.out
        have kk : Keeps Z Z4 := by rw [hZ4]; exact ((Below.refl _ _).alloc (Nat.le_refl _) _).alloc (by simp) _
        have hs4 : Z4.heap.size = Z.heap.size + 1 + 1 := by rw [hZ4]; simp
        have P0 : Z4.heap[Z.heap.size]? = some (.cells #[.int .i64 0] 3 (0, 0)) := by rw [hZ4, hao _ _ _ (by simp)]; exact han _ _ _ rfl
        have P1 : Z4.heap[Z.heap.size + 1]? = some (.cells #[.int .i64 r, .int .i64 s, .int .i64 b, .int .i64 d, .int .i64 c] 23 (0, 0)) := by rw [hZ4]; exact han _ _ _ (by simp)
        have hst4 := hst.chg hBA hvA (Chg.of_below kk (fun _ => False)) (fun _ h => h.elim) (fun _ _ h => h) (fun _ _ h => h) (fun _ _ h => h)
        have g24 := g2.chg (Chg.of_below kk (fun _ => False)) (fun _ h => h.elim)
        simp only [World.size_alloc]
        obtain ⟨S, hS⟩ : ∃ S, S = Z.heap.size := ⟨_, rfl⟩
        rw [← hS] at hs4 P0 P1 hzD ⊢
        obtain ⟨H4, hH4⟩ : ∃ H4, H4 = Z4.heap.size := ⟨_, rfl⟩
        have HH4 := Lib.hid (And.intro (hH4.trans hs4) (And.intro hD3 hzD))
        have HX := Lib.hid (And.intro hst4 (And.intro g24 (And.intro P0 P1)))
        clear hst g2 hD3 kk hs4 hst4 g24 hZ4 c0 c1 c2 c3 c4 c5 c6 c7 c8 za zb zc zd zz la1 lb1 la2 lb2 P0 P1 hzD
        gi_wp2_with fail
        obtain ⟨hst4, g24, P0, P1⟩ := HX.out
        have hv1 := HH2.out.2.1
        have eH1 := HH1.out
        have eH2 := HH2.out.1
        have hUH := HH2.out.2.2
        obtain ⟨eH3, hv2, hVH⟩ := HH3.out
        obtain ⟨eH4, hD3, hzD⟩ := HH4.out
        refine wpIn_rangeFunc_it3w 9 9 (gf := 46) (lb := #[.pointer (some ⟨S + 1, 0, none⟩)]) rfl (enters_of Try.func46 (by kernel_rfl) rfl) (oneV (allL r s b d c)) (fun i => i = S + 1) (fun _ => False) (fun i e => by rw [← hH4]; omega) (fun i e => e.elim)
          (fun W1 hW1 => all_call _ r s b d c W1 (old_at hW1 P1))
          (fun k v hv => by obtain ⟨_, rfl⟩ := oneV_get _ k v hv; rfl)
          (fun i => i = S) (fun i hi => by rw [← hH4]; omega)
          (fun j W => W.heap[S]? = some (.cells #[.int .i64 (j : Nat)] 3 (0, 0)) ∧ (∀ t : Nat, 1 ≤ t → t ≤ j → ((t : Nat) : Int) ≠ st) ∧ Nn A (n : Nat) ((rankL r s b d c rk).length : Nat) ((pageL r s b d c pg).length : Nat) W ∧ St w r s b d c rk pg st A base (.slice av n cv) (allL r s b d c) (H1 + 1 + 1) v1 (rankL r s b d c rk) (H2 + 1 + 1) v2 (pageL r s b d c pg) [mk1 D3, mk1 H2, mk1 H1] W)
          (fun c' W => c' = .exit 6 ∧ ∃ j : Nat, 1 ≤ j ∧ j ≤ n ∧ ((j : Nat) : Int) = st ∧ W.heap[S]? = some (.cells #[.int .i64 (j : Nat)] 3 (0, 0)) ∧ Nn A (n : Nat) ((rankL r s b d c rk).length : Nat) ((pageL r s b d c pg).length : Nat) W ∧ St w r s b d c rk pg st A base (.slice av n cv) (allL r s b d c) (H1 + 1 + 1) v1 (rankL r s b d c rk) (H2 + 1 + 1) v2 (pageL r s b d c pg) [mk1 D3, mk1 H2, mk1 H1] W)
          (fun j X Y h hc => ?keep4) (fun c' X Y h hc => ?keepx) ⟨P0, fun t h1 h2 => by omega, g24, hst4⟩ ?round4 ?done4 ?stop4
        case keep4 =>
          rw [← hH4] at hc
          have mks : ∀ D, mk1 D ∈ [mk1 D3, mk1 H2, mk1 H1] → D = D3 ∨ D = H2 ∨ D = H1 := fun D hm => by simpa [mk1] using hm
          refine ⟨chg_at hc h.1 (fun hi => by rcases hi with hi | hi; exact hi.elim; omega), h.2.1, h.2.2.1.chg hc (fun i hi => by rcases hi with hi | hi; exact hi.elim; omega), h.2.2.2.chg hBA hvA hc (fun i hi => by rcases hi with hi | hi; exact hi.elim; omega) (fun g hg hi => ?_) (fun g hg hi => ?_) (fun D hm hi => ?_)⟩
          · have := (hv1 g hg).2; rcases hi with hi | hi; exact hi.elim; omega
          · have := (hv2 g hg).2; rcases hi with hi | hi; exact hi.elim; omega
          · have := mks D hm; rcases hi with hi | hi; exact hi.elim; omega
        case keepx =>
          rw [← hH4] at hc
          have mks : ∀ D, mk1 D ∈ [mk1 D3, mk1 H2, mk1 H1] → D = D3 ∨ D = H2 ∨ D = H1 := fun D hm => by simpa [mk1] using hm
          obtain ⟨h0, j, h1, h2, h3, h4, h5, h6⟩ := h
          refine ⟨h0, j, h1, h2, h3, chg_at hc h4 (fun hi => by rcases hi with hi | hi; exact hi.elim; omega), h5.chg hc (fun i hi => by rcases hi with hi | hi; exact hi.elim; omega), h6.chg hBA hvA hc (fun i hi => by rcases hi with hi | hi; exact hi.elim; omega) (fun g hg hi => ?_) (fun g hg hi => ?_) (fun D hm hi => ?_)⟩
          · have := (hv1 g hg).2; rcases hi with hi | hi; exact hi.elim; omega
          · have := (hv2 g hg).2; rcases hi with hi | hi; exact hi.elim; omega
          · have := mks D hm; rcases hi with hi | hi; exact hi.elim; omega
        case round4 =>
          intro l2 j x W hx hl2 hW hi
          obtain ⟨hk, rfl⟩ := oneV_get _ j x hx
          rw [← HN.out] at hk
          have hnn : n ≤ 8388608 := by rw [HN.out]; exact allL_le r s b d c
          have HK := Lib.hid hk
          clear hk hx
          gi_wp2_with fail
          refine ⟨Chg.refl _ _, hi, fun W2 hc2 hr2 hi2 => ?_⟩
          clear hi hr2
          obtain ⟨g0, gne, g2, g3⟩ := hi2
          have m1 := cell_of_row W2 S 0 _ 3 (0, 0) g0
          have m2 := frozen_of_row W2 S 0 _ 3 g0
          have m3 := cell_of_row W2 (w.heap.size + 1 + 1 + 1) 0 _ 3 (0, 0) g3.ev.1.2.2.2.1
          simp at m1 m3
          have q1 : ¬ (w.heap.size + 1 + 1 + 1 = S) := by omega
          have q2 : ¬ (S = w.heap.size + 1 + 1 + 1) := by omega
          have hjI : (j : Int) < 8388608 := by have := HK.out; omega
          have HII := Lib.hid (And.intro g0 (And.intro gne (And.intro g2 g3)))
          clear g0 gne g2 g3
          have hcS : ∀ u : Value, Chg (fun i => i = S) W2 (W2.setCell ⟨S, 0, none⟩ u) := fun u => set_chg W2 S u rfl
          have HCS := Lib.hid hcS
          clear hcS
          have after : Hid (∀ u : Value, Nn A (n : Nat) ((rankL r s b d c rk).length : Nat) ((pageL r s b d c pg).length : Nat) (W2.setCell ⟨S, 0, none⟩ u) ∧ St w r s b d c rk pg st A base (.slice av n cv) (allL r s b d c) (H1 + 1 + 1) v1 (rankL r s b d c rk) (H2 + 1 + 1) v2 (pageL r s b d c pg) [mk1 D3, mk1 H2, mk1 H1] (W2.setCell ⟨S, 0, none⟩ u)) := fun u => by
            obtain ⟨g0, gne, g2, g3⟩ := HII.out
            have hc := HCS.out u
            exact ⟨g2.chg hc (fun i hi => by omega), g3.chg hBA hvA hc (fun i hi => by omega) (fun g hg hi => by have := (hv1 g hg).2; omega) (fun g hg hi => by have := (hv2 g hg).2; omega) (fun D hm hi => by have : D = D3 ∨ D = H2 ∨ D = H1 := (by simpa [mk1] using hm); omega)⟩
          clear hst4 g24 P0 P1 eH1 eH2 eH3 eH4 hv1 hv2 hUH hVH hD3 hzD hc2 hl2 hW hS hH4 hH3 hH2 hH1
          by_cases hst : (j : Int) + 1 = st
          · have hst2 : ((j : Int) + 1 == st) = true := by simpa using hst
            have HST := Lib.hid hst
            clear hst
            gi_wp2_with fail
            obtain ⟨g0, gne, g2, g3⟩ := HII.out
            have e := heap_setCell_same W2 S 0 _ _ (.int .i64 ((j : Int) + 1)) g0
            refine ⟨HCS.out _, rfl, j + 1, by omega, by have := HK.out; omega, by have := HST.out; omega, ?_, (after.out _).1, (after.out _).2⟩
            rw [e, Int.natCast_add]; rfl
          · have hst2 : ((j : Int) + 1 == st) = false := by simpa using hst
            have HST := Lib.hid hst
            clear hst
            gi_wp2_with fail
            obtain ⟨g0, gne, g2, g3⟩ := HII.out
            have e := heap_setCell_same W2 S 0 _ _ (.int .i64 ((j : Int) + 1)) g0
            refine ⟨HCS.out _, ?_, fun t h1 h2 => ?_, (after.out _).1, (after.out _).2⟩
            · rw [e, Int.natCast_add]; rfl
            · by_cases e : t = j + 1
              · subst e; have := HST.out; omega
              · exact gne t h1 (by omega)
        case done4 =>
          rintro D4 Y hD4 ⟨g0, gne, g2, g3⟩ hK
          rw [oneV_len, ← HN.out] at g0 gne
          by_cases hs1 : 1 ≤ st
          · have hs2 : (n : Int) < st := by
              by_cases h : st ≤ n
              · exact absurd (show ((st.toNat : Nat) : Int) = st by omega) (gne st.toNat (by omega) (by omega))
              · omega
            clear gne
            have hst5 : St w r s b d c rk pg st A base (.slice av n cv) (allL r s b d c) (H1 + 1 + 1) v1 (rankL r s b d c rk) (H2 + 1 + 1) v2 (pageL r s b d c pg) [mk1 D4, mk1 D3, mk1 H2, mk1 H1] Y := ⟨g3.ev, g3.s1, g3.s2, ⟨D4, rfl, by omega, hK, fun D' hm => by have : D' = D3 ∨ D' = H2 ∨ D' = H1 := (by simpa [mk1] using hm); omega, g3.ds⟩⟩
            obtain ⟨av1, cv1, e1⟩ := g3.s1.2.slice
            obtain ⟨av2, cv2, e2⟩ := g3.s2.2.slice
            have m0 := cell_of_row Y A 0 _ 51 (0, 0) g3.ev.2.1
            have m1 := cell_of_row Y (A + 1) 0 _ 3 (0, 0) g2.1
            have m2 := cell_of_row Y (A + 1 + 1) 0 _ 3 (0, 0) g2.2.1
            have m3 := cell_of_row Y (A + 1 + 1 + 1) 0 _ 3 (0, 0) g2.2.2
            have m4 := cell_of_row Y (A + 1 + 1 + 1 + 1) 0 _ 51 (0, 0) g3.s1.1
            have m5 := cell_of_row Y (A + 1 + 1 + 1 + 1 + 1) 0 _ 51 (0, 0) g3.s2.1
            have m6 := cell_of_row Y (w.heap.size + 1 + 1 + 1) 0 _ 3 (0, 0) g3.ev.1.2.2.2.1
            have m7 := cell_of_row Y S 0 _ 3 (0, 0) g0
            have m8 := cell_of_row Y (w.heap.size + 1 + 1 + 1 + 1) 0 _ 4 (0, 0) g3.ev.1.2.2.2.2.1
            have m9 := frozen_of_row Y (w.heap.size + 1 + 1 + 1 + 1) 0 _ 4 g3.ev.1.2.2.2.2.1
            rw [e1] at m4
            rw [e2] at m5
            simp at m0 m1 m2 m3 m4 m5 m6 m7 m8
            have HF := Lib.hid hst5
            have HHH := Lib.hid (And.intro hH1 hH2)
            clear hst5 hst4 g24 P0 P1 hS hH4 hH3 hH2 hH1 eH1 eH2 eH3 eH4 hv1 hv2 hUH hVH hD3 hzD g0 g2 g3 hK e1 e2 hD4
            generalize hLR : (rankL r s b d c rk).length = lr at *
            generalize hLP : (pageL r s b d c pg).length = lp at *
            skip
            gi_wp2_with fail
            obtain ⟨f1, f2, f3, f4⟩ := HF.out
            rw [← HHH.out.1, ← HHH.out.2]
            exact finish9 _ [mk1 D4, mk1 D3, mk1 H2, mk1 H1] w _ rfl (heap_setCell_same Y (w.heap.size + 1 + 1 + 1 + 1) 0 _ _ (.bool true) f1.1.2.2.2.2.1) (f4.same (fun D _ _ g => chg_at (set_chg (cw := fun i => i = w.heap.size + 1 + 1 + 1 + 1) Y _ (.bool true) rfl) g (fun e => by subst e; rw [f1.1.2.2.2.2.1] at g; cases g))) (f1.1.2.2.2.2.2.setCell (by show w.heap.size ≤ w.heap.size + 1 + 1 + 1 + 1; omega) _)
          · clear gne
            have hst5 : St w r s b d c rk pg st A base (.slice av n cv) (allL r s b d c) (H1 + 1 + 1) v1 (rankL r s b d c rk) (H2 + 1 + 1) v2 (pageL r s b d c pg) [mk1 D4, mk1 D3, mk1 H2, mk1 H1] Y := ⟨g3.ev, g3.s1, g3.s2, ⟨D4, rfl, by omega, hK, fun D' hm => by have : D' = D3 ∨ D' = H2 ∨ D' = H1 := (by simpa [mk1] using hm); omega, g3.ds⟩⟩
            obtain ⟨av1, cv1, e1⟩ := g3.s1.2.slice
            obtain ⟨av2, cv2, e2⟩ := g3.s2.2.slice
            have m0 := cell_of_row Y A 0 _ 51 (0, 0) g3.ev.2.1
            have m1 := cell_of_row Y (A + 1) 0 _ 3 (0, 0) g2.1
            have m2 := cell_of_row Y (A + 1 + 1) 0 _ 3 (0, 0) g2.2.1
            have m3 := cell_of_row Y (A + 1 + 1 + 1) 0 _ 3 (0, 0) g2.2.2
            have m4 := cell_of_row Y (A + 1 + 1 + 1 + 1) 0 _ 51 (0, 0) g3.s1.1
            have m5 := cell_of_row Y (A + 1 + 1 + 1 + 1 + 1) 0 _ 51 (0, 0) g3.s2.1
            have m6 := cell_of_row Y (w.heap.size + 1 + 1 + 1) 0 _ 3 (0, 0) g3.ev.1.2.2.2.1
            have m7 := cell_of_row Y S 0 _ 3 (0, 0) g0
            have m8 := cell_of_row Y (w.heap.size + 1 + 1 + 1 + 1) 0 _ 4 (0, 0) g3.ev.1.2.2.2.2.1
            have m9 := frozen_of_row Y (w.heap.size + 1 + 1 + 1 + 1) 0 _ 4 g3.ev.1.2.2.2.2.1
            rw [e1] at m4
            rw [e2] at m5
            simp at m0 m1 m2 m3 m4 m5 m6 m7 m8
            have HF := Lib.hid hst5
            have HHH := Lib.hid (And.intro hH1 hH2)
            clear hst5 hst4 g24 P0 P1 hS hH4 hH3 hH2 hH1 eH1 eH2 eH3 eH4 hv1 hv2 hUH hVH hD3 hzD g0 g2 g3 hK e1 e2 hD4
            generalize hLR : (rankL r s b d c rk).length = lr at *
            generalize hLP : (pageL r s b d c pg).length = lp at *
            skip
            gi_wp2_with fail
            obtain ⟨f1, f2, f3, f4⟩ := HF.out
            rw [← HHH.out.1, ← HHH.out.2]
            exact finish9 _ [mk1 D4, mk1 D3, mk1 H2, mk1 H1] w _ rfl (heap_setCell_same Y (w.heap.size + 1 + 1 + 1 + 1) 0 _ _ (.bool true) f1.1.2.2.2.2.1) (f4.same (fun D _ _ g => chg_at (set_chg (cw := fun i => i = w.heap.size + 1 + 1 + 1 + 1) Y _ (.bool true) rfl) g (fun e => by subst e; rw [f1.1.2.2.2.2.1] at g; cases g))) (f1.1.2.2.2.2.2.setCell (by show w.heap.size ≤ w.heap.size + 1 + 1 + 1 + 1; omega) _)
        case stop4 =>
          rintro D4 c' Y hD4 ⟨rfl, j, h1, h2, h3, g0, g2, g3⟩ hK
          have hs1 : 1 ≤ st := by omega
          have hs2 : st ≤ (n : Int) := by omega
          have hjs : ((j : Int) == st) = true := by simpa using h3
          by_cases hjn : (n : Int) ≤ st
          · have hjn2 : (st == (n : Int)) = true := by simp; omega
            have hst5 : St w r s b d c rk pg st A base (.slice av n cv) (allL r s b d c) (H1 + 1 + 1) v1 (rankL r s b d c rk) (H2 + 1 + 1) v2 (pageL r s b d c pg) [mk1 D4, mk1 D3, mk1 H2, mk1 H1] Y := ⟨g3.ev, g3.s1, g3.s2, ⟨D4, rfl, by omega, hK, fun D' hm => by have : D' = D3 ∨ D' = H2 ∨ D' = H1 := (by simpa [mk1] using hm); omega, g3.ds⟩⟩
            obtain ⟨av1, cv1, e1⟩ := g3.s1.2.slice
            obtain ⟨av2, cv2, e2⟩ := g3.s2.2.slice
            have m0 := cell_of_row Y A 0 _ 51 (0, 0) g3.ev.2.1
            have m1 := cell_of_row Y (A + 1) 0 _ 3 (0, 0) g2.1
            have m2 := cell_of_row Y (A + 1 + 1) 0 _ 3 (0, 0) g2.2.1
            have m3 := cell_of_row Y (A + 1 + 1 + 1) 0 _ 3 (0, 0) g2.2.2
            have m4 := cell_of_row Y (A + 1 + 1 + 1 + 1) 0 _ 51 (0, 0) g3.s1.1
            have m5 := cell_of_row Y (A + 1 + 1 + 1 + 1 + 1) 0 _ 51 (0, 0) g3.s2.1
            have m6 := cell_of_row Y (w.heap.size + 1 + 1 + 1) 0 _ 3 (0, 0) g3.ev.1.2.2.2.1
            have m7 := cell_of_row Y S 0 _ 3 (0, 0) g0
            have m8 := cell_of_row Y (w.heap.size + 1 + 1 + 1 + 1) 0 _ 4 (0, 0) g3.ev.1.2.2.2.2.1
            have m9 := frozen_of_row Y (w.heap.size + 1 + 1 + 1 + 1) 0 _ 4 g3.ev.1.2.2.2.2.1
            rw [e1] at m4
            rw [e2] at m5
            simp at m0 m1 m2 m3 m4 m5 m6 m7 m8
            have HF := Lib.hid hst5
            have HHH := Lib.hid (And.intro hH1 hH2)
            clear hst5 hst4 g24 P0 P1 hS hH4 hH3 hH2 hH1 eH1 eH2 eH3 eH4 hv1 hv2 hUH hVH hD3 hzD g0 g2 g3 hK e1 e2 hD4
            generalize hLR : (rankL r s b d c rk).length = lr at *
            generalize hLP : (pageL r s b d c pg).length = lp at *
            clear h1 h2
            gi_wp2_with fail
            obtain ⟨f1, f2, f3, f4⟩ := HF.out
            rw [← HHH.out.1, ← HHH.out.2]
            exact finish9 _ [mk1 D4, mk1 D3, mk1 H2, mk1 H1] w _ rfl (heap_setCell_same Y (w.heap.size + 1 + 1 + 1 + 1) 0 _ _ (.bool true) f1.1.2.2.2.2.1) (f4.same (fun D _ _ g => chg_at (set_chg (cw := fun i => i = w.heap.size + 1 + 1 + 1 + 1) Y _ (.bool true) rfl) g (fun e => by subst e; rw [f1.1.2.2.2.2.1] at g; cases g))) (f1.1.2.2.2.2.2.setCell (by show w.heap.size ≤ w.heap.size + 1 + 1 + 1 + 1; omega) _)
          · have hjn3 : st < (n : Int) := by omega
            have hst5 : St w r s b d c rk pg st A base (.slice av n cv) (allL r s b d c) (H1 + 1 + 1) v1 (rankL r s b d c rk) (H2 + 1 + 1) v2 (pageL r s b d c pg) [mk1 D4, mk1 D3, mk1 H2, mk1 H1] Y := ⟨g3.ev, g3.s1, g3.s2, ⟨D4, rfl, by omega, hK, fun D' hm => by have : D' = D3 ∨ D' = H2 ∨ D' = H1 := (by simpa [mk1] using hm); omega, g3.ds⟩⟩
            obtain ⟨av1, cv1, e1⟩ := g3.s1.2.slice
            obtain ⟨av2, cv2, e2⟩ := g3.s2.2.slice
            have m0 := cell_of_row Y A 0 _ 51 (0, 0) g3.ev.2.1
            have m1 := cell_of_row Y (A + 1) 0 _ 3 (0, 0) g2.1
            have m2 := cell_of_row Y (A + 1 + 1) 0 _ 3 (0, 0) g2.2.1
            have m3 := cell_of_row Y (A + 1 + 1 + 1) 0 _ 3 (0, 0) g2.2.2
            have m4 := cell_of_row Y (A + 1 + 1 + 1 + 1) 0 _ 51 (0, 0) g3.s1.1
            have m5 := cell_of_row Y (A + 1 + 1 + 1 + 1 + 1) 0 _ 51 (0, 0) g3.s2.1
            have m6 := cell_of_row Y (w.heap.size + 1 + 1 + 1) 0 _ 3 (0, 0) g3.ev.1.2.2.2.1
            have m7 := cell_of_row Y S 0 _ 3 (0, 0) g0
            have m8 := cell_of_row Y (w.heap.size + 1 + 1 + 1 + 1) 0 _ 4 (0, 0) g3.ev.1.2.2.2.2.1
            have m9 := frozen_of_row Y (w.heap.size + 1 + 1 + 1 + 1) 0 _ 4 g3.ev.1.2.2.2.2.1
            rw [e1] at m4
            rw [e2] at m5
            simp at m0 m1 m2 m3 m4 m5 m6 m7 m8
            have HF := Lib.hid hst5
            have HHH := Lib.hid (And.intro hH1 hH2)
            clear hst5 hst4 g24 P0 P1 hS hH4 hH3 hH2 hH1 eH1 eH2 eH3 eH4 hv1 hv2 hUH hVH hD3 hzD g0 g2 g3 hK e1 e2 hD4
            generalize hLR : (rankL r s b d c rk).length = lr at *
            generalize hLP : (pageL r s b d c pg).length = lp at *
            clear h1 h2
            gi_wp2_with fail
            obtain ⟨f1, f2, f3, f4⟩ := HF.out
            rw [← HHH.out.1, ← HHH.out.2]
            exact finish9 _ [mk1 D4, mk1 D3, mk1 H2, mk1 H1] w _ rfl (heap_setCell_same Y (w.heap.size + 1 + 1 + 1 + 1) 0 _ _ (.bool true) f1.1.2.2.2.2.1) (f4.same (fun D _ _ g => chg_at (set_chg (cw := fun i => i = w.heap.size + 1 + 1 + 1 + 1) Y _ (.bool true) rfl) g (fun e => by subst e; rw [f1.1.2.2.2.2.1] at g; cases g))) (f1.1.2.2.2.2.2.setCell (by show w.heap.size ≤ w.heap.size + 1 + 1 + 1 + 1; omega) _)

set_option maxRecDepth 100000 in
set_option maxHeartbeats 4000000 in
theorem walk_big (r s b d c rk pg st : Int) (bc : In64 c) (hrt : rightB r s b d c = true) (hsz : (r + s) * b * d * c ≤ 600 → False) (w : World) : Calls Try.prog 9 #[.agg #[.int .i64 r, .int .i64 s, .int .i64 b, .int .i64 d, .int .i64 c], .int .i64 rk, .int .i64 pg, .int .i64 st] w fun e w' => e = .returned (.bool true) ∧ Below w.heap.size w w' := by
  have HR := Lib.hid (fun (w : World) => (show Calls Try.prog 15 #[.agg #[.int .i64 r, .int .i64 s, .int .i64 b, .int .i64 d, .int .i64 c]] w (fun e w' => e = .returned (.bool true) ∧ Below w.heap.size w w') by have := rright_any r s b d c w; rw [hrt] at this; exact this))
  have hp := rightB_yes hrt
  obtain ⟨_, _, _, _, _, _, _, _, ⟨p1, p2⟩, ⟨p3, p4⟩, ⟨p5, p6⟩⟩ := prod_in hp.1 hp.2.1 hp.2.2.1 hp.2.2.2.1 hp.2.2.2.2.1 hp.2.2.2.2.2.1
  have hrs := rightB_bd hrt
  have hbig : 600 < (r + s) * b * d * c := Int.not_le.1 hsz
  clear hsz
  have HT := Lib.hid (And.intro hrt hrs)
  clear hp hrt
  refine (callsIn_wide (n := 9)).1 ?_
  refine callsIn_of_wp_marks Try.func9 rfl trivial ?_
  simp only [Try.ntmps9, List.size_toArray, List.length_cons, List.length_nil, Nat.reduceAdd, Nat.reduceSub, Array.replicate_succ, Array.replicate_zero, List.push_toArray, List.append_toArray, List.nil_append, List.cons_append]
  gi_wp2_with fail
  refine ⟨trivial, ?_⟩
  refine ((callsIn_wide (n := 8)).2 (anchor_any _)).mono ?_
  rintro e w1 ⟨rfl, hb1⟩
  have h1 := (hd_new w r s b d c rk pg st).keeps hb1
  clear hb1
  have c0 := cell_of_row w1 w.heap.size 0 _ 23 (0, 0) h1.1
  have c1 := cell_of_row w1 w.heap.size 1 _ 23 (0, 0) h1.1
  have c2 := cell_of_row w1 w.heap.size 2 _ 23 (0, 0) h1.1
  have c3 := cell_of_row w1 w.heap.size 3 _ 23 (0, 0) h1.1
  have c4 := cell_of_row w1 w.heap.size 4 _ 23 (0, 0) h1.1
  have c5 := cell_of_row w1 (w.heap.size + 1) 0 _ 3 (0, 0) h1.2.1
  have c6 := cell_of_row w1 (w.heap.size + 1 + 1) 0 _ 3 (0, 0) h1.2.2.1
  have c7 := cell_of_row w1 (w.heap.size + 1 + 1 + 1) 0 _ 3 (0, 0) h1.2.2.2.1
  have c8 := cell_of_row w1 (w.heap.size + 1 + 1 + 1 + 1) 0 _ 4 (0, 0) h1.2.2.2.2.1
  have zz : w.heap.size + 1 + 1 + 1 + 1 < w1.heap.size := at_lt h1.2.2.2.2.1
  have za : w.heap.size < w1.heap.size := by omega
  have zb : w.heap.size + 1 < w1.heap.size := by omega
  have zc : w.heap.size + 1 + 1 < w1.heap.size := by omega
  have zd : w.heap.size + 1 + 1 + 1 < w1.heap.size := by omega
  simp at c0 c1 c2 c3 c4 c5 c6 c7 c8
  gi_wp2_with fail
  refine ⟨trivial, ?_⟩
  refine ((callsIn_wide (n := 8)).2 (HR.out _)).mono ?_
  rintro e w2 ⟨rfl, hb2⟩
  have kk2 : Keeps w1 w2 := Keeps.next ((Below.refl _ _).alloc (Nat.le_refl _) _) hb2
  have h2 := h1.keeps kk2
  have X2 : w2.heap[w1.heap.size]? = some (.cells #[.int .i64 r, .int .i64 s, .int .i64 b, .int .i64 d, .int .i64 c] 31 (0, 0)) := old_at hb2 (han _ _ _ rfl)
  have z1 := at_lt X2
  clear hb2 kk2 h1 c0 c1 c2 c3 c4 c5 c6 c7 c8 za zb zc zd zz
  have c0 := cell_of_row w2 w.heap.size 0 _ 23 (0, 0) h2.1
  have c1 := cell_of_row w2 w.heap.size 1 _ 23 (0, 0) h2.1
  have c2 := cell_of_row w2 w.heap.size 2 _ 23 (0, 0) h2.1
  have c3 := cell_of_row w2 w.heap.size 3 _ 23 (0, 0) h2.1
  have c4 := cell_of_row w2 w.heap.size 4 _ 23 (0, 0) h2.1
  have c5 := cell_of_row w2 (w.heap.size + 1) 0 _ 3 (0, 0) h2.2.1
  have c6 := cell_of_row w2 (w.heap.size + 1 + 1) 0 _ 3 (0, 0) h2.2.2.1
  have c7 := cell_of_row w2 (w.heap.size + 1 + 1 + 1) 0 _ 3 (0, 0) h2.2.2.2.1
  have c8 := cell_of_row w2 (w.heap.size + 1 + 1 + 1 + 1) 0 _ 4 (0, 0) h2.2.2.2.2.1
  have zz : w.heap.size + 1 + 1 + 1 + 1 < w2.heap.size := at_lt h2.2.2.2.2.1
  have za : w.heap.size < w2.heap.size := by omega
  have zb : w.heap.size + 1 < w2.heap.size := by omega
  have zc : w.heap.size + 1 + 1 < w2.heap.size := by omega
  have zd : w.heap.size + 1 + 1 + 1 < w2.heap.size := by omega
  simp at c0 c1 c2 c3 c4 c5 c6 c7 c8
  have x0 := cell_of_row w2 w1.heap.size 0 _ 31 (0, 0) X2
  have x1 := cell_of_row w2 w1.heap.size 1 _ 31 (0, 0) X2
  have x2 := cell_of_row w2 w1.heap.size 2 _ 31 (0, 0) X2
  have x3 := cell_of_row w2 w1.heap.size 3 _ 31 (0, 0) X2
  have x4 := cell_of_row w2 w1.heap.size 4 _ 31 (0, 0) X2
  simp at x0 x1 x2 x3 x4
  have H2 := Lib.hid h2
  have m9 := frozen_of_row w2 (w.heap.size + 1 + 1 + 1 + 1) 0 _ 4 h2.2.2.2.2.1
  clear h2
  gi_wp2_with fail
  have f1 := H2.out
  exact finish9 _ [] w _ rfl (heap_setCell_same w2 (w.heap.size + 1 + 1 + 1 + 1) 0 _ _ (.bool true) f1.2.2.2.2.1) trivial (f1.2.2.2.2.2.setCell (by show w.heap.size ≤ w.heap.size + 1 + 1 + 1 + 1; omega) _)

theorem walk (r s b d c : Int) (br : In64 r) (bs : In64 s) (bb : In64 b) (bd : In64 d) (bc : In64 c) (rk pg st : Int) (w : World) : Calls Try.prog 9 #[.agg #[.int .i64 r, .int .i64 s, .int .i64 b, .int .i64 d, .int .i64 c], .int .i64 rk, .int .i64 pg, .int .i64 st] w fun e w' => e = .returned (.bool true) ∧ Below w.heap.size w w' := by
  cases hrt : rightB r s b d c
  · exact walk_wrong r s b d c rk pg st bc hrt w
  · by_cases hsz : (r + s) * b * d * c ≤ 600
    · exact walk_right r s b d c rk pg st bc hrt hsz w
    · exact walk_big r s b d c rk pg st bc hrt hsz w

set_option maxRecDepth 100000 in
theorem lifted (os : Os) (started : os.Started) (H : Type) (enc : TypeId × Value → H) :
    ReturnsInHanded {} Try.checked os 9 .any (Rows.geomWalksSpec.pre6 enc Try.prog Try.f9 Rows.geomWalksRow.domain false) (Rows.geomWalksSpec.post enc Try.prog Try.f9 false true false false) := by
  refine returnsInHanded_of_change (C := Try.checked) own started (by kernel_rfl) Try.func9
    (ChangeSpec.witness6 (enc := enc) (C := Try.checked) false ⟨#[], #[.agg #[.int .i64 0, .int .i64 0, .int .i64 0, .int .i64 0, .int .i64 0], .int .i64 0, .int .i64 0, .int .i64 0], []⟩ 8 (by kernel_rfl) (by kernel_rfl) (by kernel_rfl) (by kernel_rfl)) ?_
  intro W base args ds gs before hval0 hW hcnd _
  have hval : ∀ (j : Nat) t v, Try.f9.params[j]? = some t → args[j]? = some v → Value.okWide Try.prog W .any base t v := hval0
  have hW' := hW
  obtain ⟨p, q, hA0, hV, rfl, hfz, hnd⟩ := hW
  have hA : DataW.TrodAll enc Try.prog W 0 (fun _ => true) true Try.f9.params.toList args.toList ds p := hA0
  rw [Try.params9] at hA hval
  obtain ⟨v0, vs0, d0, ds0, p0, q0, hargs, rfl, rfl, h0, r0⟩ := trodAll_cons hA
  obtain ⟨v1, vs1, d1, ds1, p1, q1, rfl, rfl, rfl, h1, r1⟩ := trodAll_cons r0
  obtain ⟨v2, vs2, d2, ds2, p2, q2, rfl, rfl, rfl, h2, r2⟩ := trodAll_cons r1
  obtain ⟨v3, vs3, d3, ds3, p3, q3, rfl, rfl, rfl, h3, r3⟩ := trodAll_cons r2
  obtain ⟨rfl, rfl, rfl⟩ := trodAll_nil r3
  obtain rfl : args = #[v0, v1, v2, v3] := by cases args; simp_all
  obtain ⟨rfl, rfl⟩ := trodVars_none hV
  have k0 := h0
  have lt0 : ∀ x ∈ p0, x.block < W.heap.size := by obtain ⟨m, hm⟩ := k0; exact DataW.trod_lt m _ _ _ hm
  have k1 := h1
  have lt1 : ∀ x ∈ p1, x.block < W.heap.size := by obtain ⟨m, hm⟩ := k1; exact DataW.trod_lt m _ _ _ hm
  have k2 := h2
  have lt2 : ∀ x ∈ p2, x.block < W.heap.size := by obtain ⟨m, hm⟩ := k2; exact DataW.trod_lt m _ _ _ hm
  have k3 := h3
  have lt3 : ∀ x ∈ p3, x.block < W.heap.size := by obtain ⟨m, hm⟩ := k3; exact DataW.trod_lt m _ _ _ hm
  obtain ⟨g0, g1, g2, g3, g4, rfl, bg0, bg1, bg2, bg3, bg4⟩ := open_geom (hval 0 23 v0 rfl rfl) h0
  obtain ⟨rk, rfl, _⟩ := open_num (hval 1 3 v1 rfl rfl) h1
  obtain ⟨pg, rfl, _⟩ := open_num (hval 2 3 v2 rfl rfl) h2
  obtain ⟨st, rfl, _⟩ := open_num (hval 3 3 v3 rfl rfl) h3
  clear hA0 hval0
  refine (walk g0 g1 g2 g3 g4 bg0 bg1 bg2 bg3 bg4 rk pg st W).mono fun e W' ⟨he, bel⟩ => ?_
  subst he
  exact ⟨_, rfl, _, _, _, [], _, [], hW', trodAll_mk1 (shut_bool Try.underlying4 _), (trodAll_cons_mk (Below.trod laidOut (by kernel_rfl) (of_decide_eq_true (by kernel_rfl)) k0 bel lt0) (trodAll_cons_mk (Below.trod laidOut (by kernel_rfl) (of_decide_eq_true (by kernel_rfl)) k1 bel lt1) (trodAll_cons_mk (Below.trod laidOut (by kernel_rfl) (of_decide_eq_true (by kernel_rfl)) k2 bel lt2) (trodAll_cons_mk (Below.trod laidOut (by kernel_rfl) (of_decide_eq_true (by kernel_rfl)) k3 bel lt3) trodAll_mk0)))), rfl, bel.frame _, fun h => by cases h⟩

theorem over : Rows.geomWalksRow.holds Try.pinned (OpenSpec.ofChange Rows.geomWalksSpec) :=
  OpenClaim.holds_of_wide 9 Try.f9 rfl rfl rfl rfl rfl rfl rfl ⟨rfl, rfl, rfl, rfl, rfl⟩ rfl rfl rfl rfl rfl (by kernel_rfl) Try.func9 (by kernel_rfl)
    (of_decide_eq_true (by kernel_rfl)) (by unfold Func.isWrapper; first | (rw [if_pos (by decide +kernel)]; kernel_rfl) | (rw [if_neg (by decide +kernel)]; exact ⟨rfl, rfl⟩))
    (fun os started H enc _ => lifted os started H enc)

theorem proved : Rows.GeomWalksSaid := over
#print axioms proved
end walks
end Go.Proofs.Ytjmcpeobncoinaa
