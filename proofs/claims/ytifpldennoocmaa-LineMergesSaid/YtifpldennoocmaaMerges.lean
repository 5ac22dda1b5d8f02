/- Two lines are merged byte by byte, as the mask says; merged by the bits that are left they are the other one; a mask is full just if it has all bits: for any two lines and any mask. No condition. -/
import Derived.Test.YtifpldennoocmaaMasks
import Derived.Test.YtifpldennoocmaaMgR
namespace Go.Proofs.Ytifpldennoocmaa
set_option linter.unusedVariables false
open Go.ChangeShapes Go.WideShapes Go.ChangeAt Go.RowKit Go.Shelf
attribute [local simp] ld_row st_row
attribute [local go_sem] run_storeCells_one

theorem same64r (a : List Int) (ha : a.length = 64) (w : World) : (Op.equalIn 10000 22 (.agg (ivs .u8 a)) (.agg (ivs .u8 a))).run Try.prog w = .ok true w := by
  have hi : ∃ i, Try.prog.info? 5 = some i := by
    cases h : Try.prog.info? 5 with
    | none => have := Try.underlying5; simp [Program.underlying, h] at this
    | some i => exact ⟨i, rfl⟩
  obtain ⟨i, hi⟩ := hi
  rw [equalIn_ints 9998 Try.underlying22 Try.underlying5 hi (by kernel_rfl) a a ha ha w]
  simp
theorem store_new64 (M : List Int) (hz : (ivs .u8 M).size = 64) (W : World) : (stRow ⟨W.heap.size, 0, none⟩ (ivs .u8 M).toList 0).run Try.prog (W.alloc (.cells (ivs .u8 (List.replicate 64 0)) 23)) = .ok () (W.alloc (.cells (ivs .u8 M) 23)) :=
  run_storeCells_new (P := Try.prog) W 23 (ivs .u8 (List.replicate 64 0)) (ivs .u8 M) (by rw [hz]; kernel_rfl) (by rw [hz, ivs_size]; exact List.length_replicate) (ivs_one _ _)
theorem rmerge_is {a b m : List Int} {x : Nat} (ha : a.length = 64) (hb : b.length = 64) (hx : x < 2 ^ 64) (h : mg a b x = m) (w : World) :
    Calls Try.prog 9 #[.agg (ivs .u8 a), .agg (ivs .u8 b), .int .u64 (x : Int)] w fun e w' => e = .returned (.agg (ivs .u8 m)) ∧ Below w.heap.size w w' := by
  subst h
  exact rmerge_any a b ha hb x hx w
theorem full_is {x : Nat} {F : Bool} (hx : x < 2 ^ 64) (h : decide (x = 18446744073709551615) = F) (w : World) :
    Calls Try.prog 10 #[.int .u64 (x : Int)] w fun e w' => e = .returned (.bool F) ∧ w = w' := by
  subst h
  exact full_any x hx w

theorem bnot64 (x y : Nat) (hx : x < 2 ^ 64) (hy : y = 2 ^ 64 - (x + 1)) : bits .xor .u64 (if IntKind.u64.signed = true then -1 else IntKind.u64.max) (x : Int) = (y : Int) := by
  show IntKind.u64.wrap (((BitVec.ofInt 64 18446744073709551615 ^^^ BitVec.ofInt 64 (x : Int)).toNat : Nat) : Int) = _
  rw [show BitVec.ofInt 64 18446744073709551615 = BitVec.allOnes 64 from rfl, BitVec.allOnes_xor, BitVec.ofInt_natCast, BitVec.toNat_not, BitVec.toNat_ofNat, Nat.mod_eq_of_lt hx, IntKind.wrap_u64]
  omega

namespace merges
set_option maxRecDepth 100000 in
set_option maxHeartbeats 4000000 in
theorem walk (a : List Int) (la : a.length = 64) (b : List Int) (lb : b.length = 64) (x : Nat) (hx : x < 2 ^ 64) (w : World) :
    Calls Try.prog 4 #[.agg (ivs .u8 a), .agg (ivs .u8 b), .int .u64 x] w fun e w' => e = .returned (.bool true) ∧ Below w.heap.size w w' := by
  obtain ⟨y, hy⟩ : ∃ y, y = 2 ^ 64 - (x + 1) := ⟨_, rfl⟩
  have hyl : y < 2 ^ 64 := by omega
  have hyI : bits .xor .u64 (if IntKind.u64.signed = true then -1 else IntKind.u64.max) (x : Int) = (y : Int) := bnot64 x y hx hy
  have hap : ∀ j, j < 64 → y.testBit j = !x.testBit j := fun j hj => by rw [hy, Nat.testBit_two_pow_sub_succ hx]; simp [hj]
  obtain ⟨F, hF⟩ : ∃ F, F = decide (x = 18446744073709551615) := ⟨_, rfl⟩
  have hF2 : ((x : Int) == 18446744073709551615) = F := by
    rw [hF, Bool.eq_iff_iff]; simp only [beq_iff_eq, decide_eq_true_eq]; omega
  obtain ⟨m, hm⟩ : ∃ m, m = mg a b x := ⟨_, rfl⟩
  have lm : m.length = 64 := by rw [hm, mg_len, la]
  have c1 := mrgOf la lb hx hm.symm
  have c2 := mrgOf lm lb hyl (show mg m b y = b by rw [hm]; exact mg_left a b x y la lb hap)
  have c3 := mrgOf lm la hx (show mg m a x = a by rw [hm]; exact mg_back a b x la)
  have cs := mrg_is
  have HR := Lib.hid (rmerge_is la lb hx hm.symm)
  have HF := Lib.hid (full_is hx hF.symm)
  have qm := same64r m lm
  have qa := same64 a la
  have qb := same64 b lb
  have za : (ivs .u8 a).size = 64 := by rw [ivs_size, la]
  have zb : (ivs .u8 b).size = 64 := by rw [ivs_size, lb]
  have zm : (ivs .u8 m).size = 64 := by rw [ivs_size, lm]
  have hS := store_new64 m zm
  rw [← zeros64] at hS
  have HX := Lib.hid hx
  clear hm lm la lb hx hy hyl hap hF
  go_enter Try.func4, Try.ntmps4
  have hL1 : ∀ W : World, Keeps ((w.alloc (.cells (ivs .u8 a) 23)).alloc (.cells (ivs .u8 b) 23)) W → (ldRow ⟨w.heap.size, 0, none⟩ 0 64 #[]).run Try.prog W = .ok (ivs .u8 a) W := fun W h => run_loadFrom_row W _ _ 23 (0, 0) (old_at h (heap_alloc2_old _ _ _)) 64 za
  have hL2 : ∀ W : World, Keeps ((w.alloc (.cells (ivs .u8 a) 23)).alloc (.cells (ivs .u8 b) 23)) W → (ldRow ⟨w.heap.size + 1, 0, none⟩ 0 64 #[]).run Try.prog W = .ok (ivs .u8 b) W := fun W h => run_loadFrom_row W _ _ 23 (0, 0) (old_at h (heap_alloc2_new _ _ _)) 64 zb
  go_wp2_with (first
    | (go_at_call 7; refine (anchor_any _).mono ?_; rintro e w1 ⟨rfl, hb1⟩; have hl1 := hL1 w1 hb1; have hl2 := hL2 w1 hb1; have hbb := Lib.hid hb1; clear hb1)
    | (go_at_call 8; refine (cs _ _ _ _ c1 _).mono ?_; rintro e w3 ⟨rfl, hb3⟩; have hbm := Lib.hid hb3; clear hb3))
  obtain ⟨w4, h4⟩ : ∃ w4, w4 = w3.alloc (.cells (ivs .u8 m) 23) := ⟨_, rfl⟩
  have k4 : Keeps ((w.alloc (.cells (ivs .u8 a) 23)).alloc (.cells (ivs .u8 b) 23)) w4 := by
    rw [h4]; exact Keeps.next (Keeps.next hbb.out hbm.out) ((Below.refl _ _).alloc (Nat.le_refl _) _)
  have hA : ∀ w', Keeps w4 w' → (ldRow ⟨w.heap.size, 0, none⟩ 0 64 #[]).run Try.prog w' = .ok (ivs .u8 a) w' := fun w' h' => hL1 w' (k4.next h')
  have hB : ∀ w', Keeps w4 w' → (ldRow ⟨w.heap.size + 1, 0, none⟩ 0 64 #[]).run Try.prog w' = .ok (ivs .u8 b) w' := fun w' h' => hL2 w' (k4.next h')
  have hM : ∀ w', Keeps w4 w' → (ldRow ⟨w3.heap.size, 0, none⟩ 0 64 #[]).run Try.prog w' = .ok (ivs .u8 m) w' := fun w' h' => run_loadFrom_row w' _ _ 23 (0, 0) (old_at h' (by rw [h4]; exact heap_alloc_new _ _)) 64 zm
  have kk : Keeps w w4 := Keeps.next (((Below.refl _ _).alloc (Nat.le_refl _) _).alloc (by simp) _) k4
  rw [← h4]
  clear h4 hL1 hL2
  refine wp_region_keeps (by kernel_rfl) (by kernel_rfl) ?_
  repeat (first
      | (refine wpQuiet_step (fun K hK => ?_); go_simp; refine hK _ ?_; clear hK K)
      | (refine wpQuiet_step (fun K hK => ?_); go_simp
         apply Exists.intro
         refine ⟨fun w' hw' => ?_, hK _ ?_⟩
         focus
           obtain ⟨hcq, hfq⟩ := hw'.cells
           go_simp
           first
             | (simp only [hA w' hw'])
             | (simp only [hB w' hw'])
             | (simp only [hM w' hw'])
             | (exact hw'.call (HR.out _))
             | (exact hw'.same (HF.out _))
             | (exact hw'.call (cs _ _ _ _ (by assumption) _))
             | rfl
         clear hK K))
  refine wpQuiet_nil ?_
  intro w5 hw5
  go_wp2_with fail
  go_ret
  exact ⟨rfl, Keeps.next kk hw5⟩
set_option maxRecDepth 100000 in
theorem lifted (os : Os) (started : os.Started) (H : Type) (enc : TypeId × Value → H) :
    ReturnsInHanded {} Try.checked os 4 .any (Rows.lineMergesSpec.pre6 enc Try.prog Try.f4 Rows.lineMergesRow.domain false) (Rows.lineMergesSpec.post enc Try.prog Try.f4 false true false false) := by
  refine returnsInHanded_of_change (C := Try.checked) own started (by kernel_rfl) Try.func4
    (ChangeSpec.witness6 (enc := enc) (C := Try.checked) false ⟨#[], #[.agg #[.int .u8 0, .int .u8 0, .int .u8 0, .int .u8 0, .int .u8 0, .int .u8 0, .int .u8 0, .int .u8 0, .int .u8 0, .int .u8 0, .int .u8 0, .int .u8 0, .int .u8 0, .int .u8 0, .int .u8 0, .int .u8 0, .int .u8 0, .int .u8 0, .int .u8 0, .int .u8 0, .int .u8 0, .int .u8 0, .int .u8 0, .int .u8 0, .int .u8 0, .int .u8 0, .int .u8 0, .int .u8 0, .int .u8 0, .int .u8 0, .int .u8 0, .int .u8 0, .int .u8 0, .int .u8 0, .int .u8 0, .int .u8 0, .int .u8 0, .int .u8 0, .int .u8 0, .int .u8 0, .int .u8 0, .int .u8 0, .int .u8 0, .int .u8 0, .int .u8 0, .int .u8 0, .int .u8 0, .int .u8 0, .int .u8 0, .int .u8 0, .int .u8 0, .int .u8 0, .int .u8 0, .int .u8 0, .int .u8 0, .int .u8 0, .int .u8 0, .int .u8 0, .int .u8 0, .int .u8 0, .int .u8 0, .int .u8 0, .int .u8 0, .int .u8 0], .agg #[.int .u8 0, .int .u8 0, .int .u8 0, .int .u8 0, .int .u8 0, .int .u8 0, .int .u8 0, .int .u8 0, .int .u8 0, .int .u8 0, .int .u8 0, .int .u8 0, .int .u8 0, .int .u8 0, .int .u8 0, .int .u8 0, .int .u8 0, .int .u8 0, .int .u8 0, .int .u8 0, .int .u8 0, .int .u8 0, .int .u8 0, .int .u8 0, .int .u8 0, .int .u8 0, .int .u8 0, .int .u8 0, .int .u8 0, .int .u8 0, .int .u8 0, .int .u8 0, .int .u8 0, .int .u8 0, .int .u8 0, .int .u8 0, .int .u8 0, .int .u8 0, .int .u8 0, .int .u8 0, .int .u8 0, .int .u8 0, .int .u8 0, .int .u8 0, .int .u8 0, .int .u8 0, .int .u8 0, .int .u8 0, .int .u8 0, .int .u8 0, .int .u8 0, .int .u8 0, .int .u8 0, .int .u8 0, .int .u8 0, .int .u8 0, .int .u8 0, .int .u8 0, .int .u8 0, .int .u8 0, .int .u8 0, .int .u8 0, .int .u8 0, .int .u8 0], .int .u64 0], []⟩ 8 (by kernel_rfl) (by kernel_rfl) (by kernel_rfl) (by kernel_rfl)) ?_
  intro W base args ds gs before hval0 hW hcnd _
  have hval : ∀ (j : Nat) t v, Try.f4.params[j]? = some t → args[j]? = some v → Value.okWide Try.prog W .any base t v := hval0
  have hW' := hW
  obtain ⟨p, q, hA0, hV, rfl, hfz, hnd⟩ := hW
  have hA : DataW.TrodAll enc Try.prog W 0 (fun _ => true) true Try.f4.params.toList args.toList ds p := hA0
  rw [Try.params4] at hA hval
  obtain ⟨v0, vs0, d0, ds0, p0, q0, hargs, rfl, rfl, h0, r0⟩ := trodAll_cons hA
  obtain ⟨v1, vs1, d1, ds1, p1, q1, rfl, rfl, rfl, h1, r1⟩ := trodAll_cons r0
  obtain ⟨v2, vs2, d2, ds2, p2, q2, rfl, rfl, rfl, h2, r2⟩ := trodAll_cons r1
  obtain ⟨rfl, rfl, rfl⟩ := trodAll_nil r2
  obtain rfl : args = #[v0, v1, v2] := by cases args; simp_all
  obtain ⟨rfl, rfl⟩ := trodVars_none hV
  have k0 := h0
  have lt0 : ∀ x ∈ p0, x.block < W.heap.size := by obtain ⟨m, hm⟩ := k0; exact DataW.trod_lt m _ _ _ hm
  have k1 := h1
  have lt1 : ∀ x ∈ p1, x.block < W.heap.size := by obtain ⟨m, hm⟩ := k1; exact DataW.trod_lt m _ _ _ hm
  have k2 := h2
  have lt2 : ∀ x ∈ p2, x.block < W.heap.size := by obtain ⟨m, hm⟩ := k2; exact DataW.trod_lt m _ _ _ hm
  obtain ⟨a, rfl, la, _⟩ := open_bytes Try.underlying23 Try.underlying5 (by kernel_rfl) (by kernel_rfl) (hval 0 23 v0 rfl rfl) h0
  obtain ⟨b, rfl, lb, _⟩ := open_bytes Try.underlying23 Try.underlying5 (by kernel_rfl) (by kernel_rfl) (hval 1 23 v1 rfl rfl) h1
  obtain ⟨x, rfl, bdx⟩ := open_u64 Try.underlying24 (hval 2 24 v2 rfl rfl) h2
  clear hA0 hval0
  refine (walk a la b lb x bdx W).mono fun e W' ⟨he, bel⟩ => ?_
  subst he
  exact ⟨_, rfl, _, _, _, [], _, [], hW', trodAll_mk1 (shut_bool Try.underlying4 _), (trodAll_cons_mk (Below.trod laidOut (by kernel_rfl) (of_decide_eq_true (by kernel_rfl)) k0 bel lt0) (trodAll_cons_mk (Below.trod laidOut (by kernel_rfl) (of_decide_eq_true (by kernel_rfl)) k1 bel lt1) (trodAll_cons_mk (Below.trod laidOut (by kernel_rfl) (of_decide_eq_true (by kernel_rfl)) k2 bel lt2) trodAll_mk0))), rfl, bel.frame _, fun h => by cases h⟩

theorem over : Rows.lineMergesRow.holds Try.pinned (OpenSpec.ofChange Rows.lineMergesSpec) :=
  OpenClaim.holds_of_wide 4 Try.f4 rfl rfl rfl rfl rfl rfl rfl ⟨rfl, rfl, rfl, rfl, rfl⟩ rfl rfl rfl rfl rfl (by kernel_rfl) Try.func4 (by kernel_rfl)
    (of_decide_eq_true (by kernel_rfl)) (by unfold Func.isWrapper; first | (rw [if_pos (by decide +kernel)]; kernel_rfl) | (rw [if_neg (by decide +kernel)]; exact ⟨rfl, rfl⟩))
    (fun os started H enc _ => lifted os started H enc)

theorem proved : Rows.LineMergesSaid := over
#print axioms proved

end merges
end Go.Proofs.Ytifpldennoocmaa
