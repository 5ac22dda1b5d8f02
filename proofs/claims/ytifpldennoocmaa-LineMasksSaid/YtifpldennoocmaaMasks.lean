/- Merged by two masks, one behind the other, a line is merged by both; the order of masks that have nothing in common plays no part: for any three lines and any two masks. No condition. -/
import Derived.Test.YtifpldennoocmaaFr
import Derived.Test.YtifpldennoocmaaAn
import Derived.Test.YtifpldennoocmaaPlM
namespace Go.Proofs.Ytifpldennoocmaa
set_option linter.unusedVariables false
open Go.ChangeShapes Go.WideShapes Go.ChangeAt Go.RowKit Go.Shelf
attribute [local simp] ld_row st_row
attribute [local go_sem] run_storeCells_one

/-- a merged with b by x is m -/
structure Mrg (a b : List Int) (x : Int) (m : List Int) : Prop where
  la : a.length = 64
  lb : b.length = 64
  is : ∃ n : Nat, x = n ∧ n < 2 ^ 64 ∧ mg a b n = m
theorem mrg_is (a b : List Int) (x : Int) (m : List Int) (h : Mrg a b x m) (w : World) :
    Calls Try.prog 8 #[.agg (ivs .u8 a), .agg (ivs .u8 b), .int .u64 x] w fun e w' => e = .returned (.agg (ivs .u8 m)) ∧ Below w.heap.size w w' := by
  obtain ⟨la, lb, n, rfl, hn, rfl⟩ := h
  unfold mg
  exact merge_any a b la lb n hn w

theorem same64 (a : List Int) (ha : a.length = 64) (w : World) : (Op.equalIn 10000 23 (.agg (ivs .u8 a)) (.agg (ivs .u8 a))).run Try.prog w = .ok true w := by
  have hi : ∃ i, Try.prog.info? 5 = some i := by
    cases h : Try.prog.info? 5 with
    | none => have := Try.underlying5; simp [Program.underlying, h] at this
    | some i => exact ⟨i, rfl⟩
  obtain ⟨i, hi⟩ := hi
  rw [equalIn_ints 9998 Try.underlying23 Try.underlying5 hi (by kernel_rfl) a a ha ha w]
  simp

theorem bor64 (a b : Nat) (ha : a < 2 ^ 64) (hb : b < 2 ^ 64) : bits .or .u64 (a : Int) (b : Int) = ((a ||| b : Nat) : Int) := by
  show IntKind.u64.wrap (((BitVec.ofInt 64 (a : Int) ||| BitVec.ofInt 64 (b : Int)).toNat : Nat) : Int) = _
  rw [BitVec.ofInt_natCast, BitVec.ofInt_natCast]
  simp only [BitVec.toNat_or, BitVec.toNat_ofNat]
  rw [Nat.mod_eq_of_lt ha, Nat.mod_eq_of_lt hb, IntKind.wrap_u64]
  have := Nat.or_lt_two_pow ha hb
  omega
theorem mrgOf {a b m : List Int} {x : Nat} (la : a.length = 64) (lb : b.length = 64) (hx : x < 2 ^ 64) (h : mg a b x = m) : Mrg a b x m := ⟨la, lb, x, rfl, hx, h⟩
/-- y without the bits of x -/
def lessN (y x : Nat) : Nat := (BitVec.ofNat 64 y &&& ~~~(BitVec.ofNat 64 x)).toNat
theorem lessN_lt (y x : Nat) : lessN y x < 2 ^ 64 := (BitVec.ofNat 64 y &&& ~~~(BitVec.ofNat 64 x)).isLt
theorem lessN_bit (y x j : Nat) (hj : j < 64) (h : (lessN y x).testBit j = true) : x.testBit j = false := by
  unfold lessN at h
  rw [← BitVec.getLsbD, BitVec.getLsbD_and, BitVec.getLsbD_not, BitVec.getLsbD_ofNat, BitVec.getLsbD_ofNat] at h
  simp only [hj, decide_true, Bool.true_and, Bool.and_eq_true, Bool.not_eq_true'] at h
  exact h.2
theorem bless64 (a b : Nat) : bits .andNot .u64 (a : Int) (b : Int) = ((lessN a b : Nat) : Int) := by
  show IntKind.u64.wrap (((BitVec.ofInt 64 (a : Int) &&& ~~~(BitVec.ofInt 64 (b : Int))).toNat : Nat) : Int) = _
  rw [BitVec.ofInt_natCast, BitVec.ofInt_natCast, IntKind.wrap_u64]
  have := lessN_lt a b
  show ((lessN a b : Nat) : Int) % _ = _
  omega
attribute [irreducible] lessN

theorem old_at {w w' : World} {g : Nat} {o : Obj} (h : Keeps w w') (hg : w.heap[g]? = some o) : w'.heap[g]? = some o :=
  (RowKit.Below.block h g (Array.getElem?_eq_some_iff.1 hg).1).trans hg
theorem rows3 (w : World) (a b c : List Int) (w1 : World) (h : Below (((w.alloc (.cells (ivs .u8 a) 23)).alloc (.cells (ivs .u8 b) 23)).alloc (.cells (ivs .u8 c) 23)).heap.size (((w.alloc (.cells (ivs .u8 a) 23)).alloc (.cells (ivs .u8 b) 23)).alloc (.cells (ivs .u8 c) 23)) w1) :
    w1.heap[w.heap.size]? = some (.cells (ivs .u8 a) 23 (0, 0)) ∧ w1.heap[w.heap.size + 1]? = some (.cells (ivs .u8 b) 23 (0, 0)) ∧ w1.heap[w.heap.size + 1 + 1]? = some (.cells (ivs .u8 c) 23 (0, 0)) := by
  refine ⟨old_at h ?_, old_at h ?_, old_at h ?_⟩
  · rw [heap_alloc_old _ _ (by simp; omega), heap_alloc_old _ _ (by simp), heap_alloc_new]
  · rw [heap_alloc_old _ _ (by simp), heap_alloc2_new]
  · have := heap_alloc_new ((w.alloc (.cells (ivs .u8 a) 23)).alloc (.cells (ivs .u8 b) 23)) (.cells (ivs .u8 c) 23)
    simpa only [World.size_alloc] using this
theorem below3 (w : World) (o1 o2 o3 : Obj) (w1 : World) (h : Below (((w.alloc o1).alloc o2).alloc o3).heap.size (((w.alloc o1).alloc o2).alloc o3) w1) : Keeps w w1 :=
  Keeps.next ((((Below.refl _ _).alloc (Nat.le_refl _) _).alloc (by simp) _).alloc (by simp; omega) _) h

namespace masks
set_option maxRecDepth 100000 in
set_option maxHeartbeats 4000000 in
theorem walk (a : List Int) (la : a.length = 64) (b : List Int) (lb : b.length = 64) (c : List Int) (lc : c.length = 64) (x : Nat) (hx : x < 2 ^ 64) (y : Nat) (hy : y < 2 ^ 64) (w : World) :
    Calls Try.prog 3 #[.agg (ivs .u8 a), .agg (ivs .u8 b), .agg (ivs .u8 c), .int .u64 x, .int .u64 y] w fun e w' => e = .returned (.bool true) ∧ Below w.heap.size w w' := by
  have hxy : x ||| y < 2 ^ 64 := Nat.or_lt_two_pow hx hy
  have hz : lessN y x < 2 ^ 64 := lessN_lt y x
  have hor := bor64 x y hx hy
  have hno := bless64 y x
  obtain ⟨z, hzz⟩ : ∃ z, z = lessN y x := ⟨_, rfl⟩
  obtain ⟨o, hoo⟩ : ∃ o, o = x ||| y := ⟨_, rfl⟩
  have hap : ∀ j, j < 64 → z.testBit j = true → x.testBit j = false := fun j hj h => lessN_bit y x j hj (hzz ▸ h)
  obtain ⟨m1, h1⟩ : ∃ m, m = mg a b x := ⟨_, rfl⟩
  obtain ⟨m2, h2⟩ : ∃ m, m = mg a b o := ⟨_, rfl⟩
  obtain ⟨m3, h3⟩ : ∃ m, m = mg a c x := ⟨_, rfl⟩
  obtain ⟨m4, h4⟩ : ∃ m, m = mg a c z := ⟨_, rfl⟩
  obtain ⟨m5, h5⟩ : ∃ m, m = mg m1 c z := ⟨_, rfl⟩
  have l1 : m1.length = 64 := by rw [h1, mg_len, la]
  have l2 : m2.length = 64 := by rw [h2, mg_len, la]
  have l3 : m3.length = 64 := by rw [h3, mg_len, la]
  have l4 : m4.length = 64 := by rw [h4, mg_len, la]
  have l5 : m5.length = 64 := by rw [h5, mg_len, l1]
  rw [← hoo] at hxy hor
  rw [← hzz] at hz hno
  have c1 := mrgOf la lb hx h1.symm
  have c2 := mrgOf l1 lb hy (show mg m1 b y = m2 by rw [h1, h2, hoo]; exact mg_or a b x y la)
  have c3 := mrgOf la lb hxy h2.symm
  have c4 := mrgOf l1 lc hx (show mg m1 c x = m3 by rw [h1, h3]; exact mg_same a b c x la)
  have c5 := mrgOf la lc hx h3.symm
  have c6 := mrgOf l1 lc hz h5.symm
  have c7 := mrgOf la lc hz h4.symm
  have c8 := mrgOf l4 lb hx (show mg m4 b x = m5 by rw [h5, h4, h1]; exact (mg_apart a b c x z la hap).symm)
  have c9 := mrgOf la lb (show 0 < 2 ^ 64 by decide) (mg_zero a b la)
  have c10 := mrgOf la lb (show 18446744073709551615 < 2 ^ 64 by decide) (mg_full a b la lb)
  replace c9 : Mrg a b 0 a := c9
  replace c10 : Mrg a b 18446744073709551615 b := c10
  have cs := mrg_is
  have q2 := same64 m2 l2
  have q3 := same64 m3 l3
  have q5 := same64 m5 l5
  have qa := same64 a la
  have qb := same64 b lb
  have za : (ivs .u8 a).size = 64 := by rw [ivs_size, la]
  have zb : (ivs .u8 b).size = 64 := by rw [ivs_size, lb]
  have zc : (ivs .u8 c).size = 64 := by rw [ivs_size, lc]
  clear h1 h2 h3 h4 h5 l1 l2 l3 l4 l5 hxy hz hap hzz hoo la lb lc hx hy
  go_enter Try.func3, Try.ntmps3
  go_wp2_with (go_at_call 7; refine (anchor_any _).mono ?_; rintro e w1 ⟨rfl, hb1⟩; have hbb := Lib.hid hb1; clear hb1)
  obtain ⟨k1, k2, k3⟩ := rows3 w a b c w1 hbb.out
  have hA : ∀ w', Keeps w1 w' → (ldRow ⟨w.heap.size, 0, none⟩ 0 64 #[]).run Try.prog w' = .ok (ivs .u8 a) w' := fun w' h' => run_loadFrom_row w' _ _ 23 (0, 0) (old_at h' k1) 64 za
  have hB : ∀ w', Keeps w1 w' → (ldRow ⟨w.heap.size + 1, 0, none⟩ 0 64 #[]).run Try.prog w' = .ok (ivs .u8 b) w' := fun w' h' => run_loadFrom_row w' _ _ 23 (0, 0) (old_at h' k2) 64 zb
  have hC : ∀ w', Keeps w1 w' → (ldRow ⟨w.heap.size + 1 + 1, 0, none⟩ 0 64 #[]).run Try.prog w' = .ok (ivs .u8 c) w' := fun w' h' => run_loadFrom_row w' _ _ 23 (0, 0) (old_at h' k3) 64 zc
  refine wp_region_keeps (by kernel_rfl) (by kernel_rfl) ?_
  repeat (first
      | (refine wpQuiet_step (fun K hK => ?_); go_simp; refine hK _ ?_; clear hK K)
      | (refine wpQuiet_step (fun K hK => ?_); go_simp
         apply Exists.intro
         refine ⟨fun w' hw' => ?_, hK _ ?_⟩
         focus
           obtain ⟨hcq, hfq⟩ := hw'.cells
           go_simp
           first
             | (simp only [hA w' hw'])
             | (simp only [hB w' hw'])
             | (simp only [hC w' hw'])
             | (exact hw'.call (cs _ _ _ _ (by assumption) _))
             | rfl
         clear hK K))
  refine wpQuiet_nil ?_
  intro w2 hw2
  go_wp2_with fail
  replace hA : ∀ w', Keeps w2 w' → (ldRow ⟨w.heap.size, 0, none⟩ 0 64 #[]).run Try.prog w' = .ok (ivs .u8 a) w' := fun w' h' => hA w' (Keeps.next hw2 h')
  replace hB : ∀ w', Keeps w2 w' → (ldRow ⟨w.heap.size + 1, 0, none⟩ 0 64 #[]).run Try.prog w' = .ok (ivs .u8 b) w' := fun w' h' => hB w' (Keeps.next hw2 h')
  replace hC : ∀ w', Keeps w2 w' → (ldRow ⟨w.heap.size + 1 + 1, 0, none⟩ 0 64 #[]).run Try.prog w' = .ok (ivs .u8 c) w' := fun w' h' => hC w' (Keeps.next hw2 h')
  refine wp_region_keeps (by kernel_rfl) (by kernel_rfl) ?_
  repeat (first
      | (refine wpQuiet_step (fun K hK => ?_); go_simp; refine hK _ ?_; clear hK K)
      | (refine wpQuiet_step (fun K hK => ?_); go_simp
         apply Exists.intro
         refine ⟨fun w' hw' => ?_, hK _ ?_⟩
         focus
           obtain ⟨hcq, hfq⟩ := hw'.cells
           go_simp
           first
             | (simp only [hA w' hw'])
             | (simp only [hB w' hw'])
             | (simp only [hC w' hw'])
             | (exact hw'.call (cs _ _ _ _ (by assumption) _))
             | rfl
         clear hK K))
  refine wpQuiet_nil ?_
  intro w3 hw3
  go_wp2_with fail
  go_ret
  exact ⟨rfl, Keeps.next (Keeps.next (below3 w _ _ _ w1 hbb.out) hw2) hw3⟩
set_option maxRecDepth 100000 in
theorem lifted (os : Os) (started : os.Started) (H : Type) (enc : TypeId × Value → H) :
    ReturnsInHanded {} Try.checked os 3 .any (Rows.lineMasksSpec.pre6 enc Try.prog Try.f3 Rows.lineMasksRow.domain false) (Rows.lineMasksSpec.post enc Try.prog Try.f3 false true false false) := by
  refine returnsInHanded_of_change (C := Try.checked) own started (by kernel_rfl) Try.func3
    (ChangeSpec.witness6 (enc := enc) (C := Try.checked) false ⟨#[], #[.agg #[.int .u8 0, .int .u8 0, .int .u8 0, .int .u8 0, .int .u8 0, .int .u8 0, .int .u8 0, .int .u8 0, .int .u8 0, .int .u8 0, .int .u8 0, .int .u8 0, .int .u8 0, .int .u8 0, .int .u8 0, .int .u8 0, .int .u8 0, .int .u8 0, .int .u8 0, .int .u8 0, .int .u8 0, .int .u8 0, .int .u8 0, .int .u8 0, .int .u8 0, .int .u8 0, .int .u8 0, .int .u8 0, .int .u8 0, .int .u8 0, .int .u8 0, .int .u8 0, .int .u8 0, .int .u8 0, .int .u8 0, .int .u8 0, .int .u8 0, .int .u8 0, .int .u8 0, .int .u8 0, .int .u8 0, .int .u8 0, .int .u8 0, .int .u8 0, .int .u8 0, .int .u8 0, .int .u8 0, .int .u8 0, .int .u8 0, .int .u8 0, .int .u8 0, .int .u8 0, .int .u8 0, .int .u8 0, .int .u8 0, .int .u8 0, .int .u8 0, .int .u8 0, .int .u8 0, .int .u8 0, .int .u8 0, .int .u8 0, .int .u8 0, .int .u8 0], .agg #[.int .u8 0, .int .u8 0, .int .u8 0, .int .u8 0, .int .u8 0, .int .u8 0, .int .u8 0, .int .u8 0, .int .u8 0, .int .u8 0, .int .u8 0, .int .u8 0, .int .u8 0, .int .u8 0, .int .u8 0, .int .u8 0, .int .u8 0, .int .u8 0, .int .u8 0, .int .u8 0, .int .u8 0, .int .u8 0, .int .u8 0, .int .u8 0, .int .u8 0, .int .u8 0, .int .u8 0, .int .u8 0, .int .u8 0, .int .u8 0, .int .u8 0, .int .u8 0, .int .u8 0, .int .u8 0, .int .u8 0, .int .u8 0, .int .u8 0, .int .u8 0, .int .u8 0, .int .u8 0, .int .u8 0, .int .u8 0, .int .u8 0, .int .u8 0, .int .u8 0, .int .u8 0, .int .u8 0, .int .u8 0, .int .u8 0, .int .u8 0, .int .u8 0, .int .u8 0, .int .u8 0, .int .u8 0, .int .u8 0, .int .u8 0, .int .u8 0, .int .u8 0, .int .u8 0, .int .u8 0, .int .u8 0, .int .u8 0, .int .u8 0, .int .u8 0], .agg #[.int .u8 0, .int .u8 0, .int .u8 0, .int .u8 0, .int .u8 0, .int .u8 0, .int .u8 0, .int .u8 0, .int .u8 0, .int .u8 0, .int .u8 0, .int .u8 0, .int .u8 0, .int .u8 0, .int .u8 0, .int .u8 0, .int .u8 0, .int .u8 0, .int .u8 0, .int .u8 0, .int .u8 0, .int .u8 0, .int .u8 0, .int .u8 0, .int .u8 0, .int .u8 0, .int .u8 0, .int .u8 0, .int .u8 0, .int .u8 0, .int .u8 0, .int .u8 0, .int .u8 0, .int .u8 0, .int .u8 0, .int .u8 0, .int .u8 0, .int .u8 0, .int .u8 0, .int .u8 0, .int .u8 0, .int .u8 0, .int .u8 0, .int .u8 0, .int .u8 0, .int .u8 0, .int .u8 0, .int .u8 0, .int .u8 0, .int .u8 0, .int .u8 0, .int .u8 0, .int .u8 0, .int .u8 0, .int .u8 0, .int .u8 0, .int .u8 0, .int .u8 0, .int .u8 0, .int .u8 0, .int .u8 0, .int .u8 0, .int .u8 0, .int .u8 0], .int .u64 0, .int .u64 0], []⟩ 8 (by kernel_rfl) (by kernel_rfl) (by kernel_rfl) (by kernel_rfl)) ?_
  intro W base args ds gs before hval0 hW hcnd _
  have hval : ∀ (j : Nat) t v, Try.f3.params[j]? = some t → args[j]? = some v → Value.okWide Try.prog W .any base t v := hval0
  have hW' := hW
  obtain ⟨p, q, hA0, hV, rfl, hfz, hnd⟩ := hW
  have hA : DataW.TrodAll enc Try.prog W 0 (fun _ => true) true Try.f3.params.toList args.toList ds p := hA0
  rw [Try.params3] at hA hval
  obtain ⟨v0, vs0, d0, ds0, p0, q0, hargs, rfl, rfl, h0, r0⟩ := trodAll_cons hA
  obtain ⟨v1, vs1, d1, ds1, p1, q1, rfl, rfl, rfl, h1, r1⟩ := trodAll_cons r0
  obtain ⟨v2, vs2, d2, ds2, p2, q2, rfl, rfl, rfl, h2, r2⟩ := trodAll_cons r1
  obtain ⟨v3, vs3, d3, ds3, p3, q3, rfl, rfl, rfl, h3, r3⟩ := trodAll_cons r2
  obtain ⟨v4, vs4, d4, ds4, p4, q4, rfl, rfl, rfl, h4, r4⟩ := trodAll_cons r3
  obtain ⟨rfl, rfl, rfl⟩ := trodAll_nil r4
  obtain rfl : args = #[v0, v1, v2, v3, v4] := by cases args; simp_all
  obtain ⟨rfl, rfl⟩ := trodVars_none hV
  have k0 := h0
  have lt0 : ∀ x ∈ p0, x.block < W.heap.size := by obtain ⟨m, hm⟩ := k0; exact DataW.trod_lt m _ _ _ hm
  have k1 := h1
  have lt1 : ∀ x ∈ p1, x.block < W.heap.size := by obtain ⟨m, hm⟩ := k1; exact DataW.trod_lt m _ _ _ hm
  have k2 := h2
  have lt2 : ∀ x ∈ p2, x.block < W.heap.size := by obtain ⟨m, hm⟩ := k2; exact DataW.trod_lt m _ _ _ hm
  have k3 := h3
  have lt3 : ∀ x ∈ p3, x.block < W.heap.size := by obtain ⟨m, hm⟩ := k3; exact DataW.trod_lt m _ _ _ hm
  have k4 := h4
  have lt4 : ∀ x ∈ p4, x.block < W.heap.size := by obtain ⟨m, hm⟩ := k4; exact DataW.trod_lt m _ _ _ hm
  obtain ⟨a, rfl, la, _⟩ := open_bytes Try.underlying23 Try.underlying5 (by kernel_rfl) (by kernel_rfl) (hval 0 23 v0 rfl rfl) h0
  obtain ⟨b, rfl, lb, _⟩ := open_bytes Try.underlying23 Try.underlying5 (by kernel_rfl) (by kernel_rfl) (hval 1 23 v1 rfl rfl) h1
  obtain ⟨c, rfl, lc, _⟩ := open_bytes Try.underlying23 Try.underlying5 (by kernel_rfl) (by kernel_rfl) (hval 2 23 v2 rfl rfl) h2
  obtain ⟨x, rfl, bdx⟩ := open_u64 Try.underlying24 (hval 3 24 v3 rfl rfl) h3
  obtain ⟨y, rfl, bdy⟩ := open_u64 Try.underlying24 (hval 4 24 v4 rfl rfl) h4
  clear hA0 hval0
  refine (walk a la b lb c lc x bdx y bdy W).mono fun e W' ⟨he, bel⟩ => ?_
  subst he
  exact ⟨_, rfl, _, _, _, [], _, [], hW', trodAll_mk1 (shut_bool Try.underlying4 _), (trodAll_cons_mk (Below.trod laidOut (by kernel_rfl) (of_decide_eq_true (by kernel_rfl)) k0 bel lt0) (trodAll_cons_mk (Below.trod laidOut (by kernel_rfl) (of_decide_eq_true (by kernel_rfl)) k1 bel lt1) (trodAll_cons_mk (Below.trod laidOut (by kernel_rfl) (of_decide_eq_true (by kernel_rfl)) k2 bel lt2) (trodAll_cons_mk (Below.trod laidOut (by kernel_rfl) (of_decide_eq_true (by kernel_rfl)) k3 bel lt3) (trodAll_cons_mk (Below.trod laidOut (by kernel_rfl) (of_decide_eq_true (by kernel_rfl)) k4 bel lt4) trodAll_mk0))))), rfl, bel.frame _, fun h => by cases h⟩

theorem over : Rows.lineMasksRow.holds Try.pinned (OpenSpec.ofChange Rows.lineMasksSpec) :=
  OpenClaim.holds_of_wide 3 Try.f3 rfl rfl rfl rfl rfl rfl rfl ⟨rfl, rfl, rfl, rfl, rfl⟩ rfl rfl rfl rfl rfl (by kernel_rfl) Try.func3 (by kernel_rfl)
    (of_decide_eq_true (by kernel_rfl)) (by unfold Func.isWrapper; first | (rw [if_pos (by decide +kernel)]; kernel_rfl) | (rw [if_neg (by decide +kernel)]; exact ⟨rfl, rfl⟩))
    (fun os started H enc _ => lifted os started H enc)

theorem proved : Rows.LineMasksSaid := over
#print axioms proved

end masks
end Go.Proofs.Ytifpldennoocmaa
