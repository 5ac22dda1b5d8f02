/- However often a ring is filled and emptied, what comes out is what went in, in that order: for every room, list of numbers and list of turns. No condition. -/
import Derived.Test.YtiecdlfdfphflaaRingU
namespace Go.Proofs.Ytiecdlfdfphflaa
set_option linter.unusedVariables false
open Go.ChangeShapes Go.WideShapes Go.ChangeAt Go.RowKit
namespace ringTurns

theorem walk (room : Int) (a1 : Option Addr) (l1 c1 : Nat) (f : Nat → { n : Int // In64 n }) (ml1 : l1 ≤ maxLen) (a2 : Option Addr) (l2 c2 : Nat) (g : Nat → Bool) (ml2 : l2 ≤ maxLen) (w : World)
    (ha : l1 = 0 ∨ ∃ b off, a1 = some ⟨b, off, none⟩ ∧ b < w.heap.size ∧ ∀ i, i < l1 → w.cell? ⟨b, off + i, none⟩ = some (.int .i64 (f i).1))
    (hg : l2 = 0 ∨ ∃ b off, a2 = some ⟨b, off, none⟩ ∧ b < w.heap.size ∧ ∀ i, i < l2 → w.cell? ⟨b, off + i, none⟩ = some (.bool (g i))) :
    Calls Try.prog 4 #[.int .i64 room, .slice a1 l1 c1, .slice a2 l2 c2] w fun e w' => e = .returned (.bool true) ∧ Below w.heap.size w w' := by
  unfold maxLen at ml1 ml2
  by_cases h1 : room < 1 ∨ 4096 < room
  · exact walk_no room a1 l1 c1 a2 l2 c2 h1 w
  by_cases h2 : 200 < l1 ∨ (l1 ≤ 200 ∧ 400 < l2)
  · exact walk_long room a1 l1 c1 a2 l2 c2 (by omega) (by omega) h2 w
  obtain ⟨n, rfl⟩ := Int.eq_ofNat_of_zero_le (show 0 ≤ room by omega)
  exact walk_yes n l1 l2 c1 c2 a1 a2 f g (by omega) (by omega) (by omega) (by omega) w ha hg

set_option maxRecDepth 100000 in
theorem lifted (os : Os) (started : os.Started) (H : Type) (enc : TypeId × Value → H) :
    ReturnsInHanded {} Try.checked os 4 .any (Rows.ringTurnsSpec.pre6 enc Try.prog Try.f4 Rows.ringTurnsRow.domain false) (Rows.ringTurnsSpec.post enc Try.prog Try.f4 false true false false) := by
  refine returnsInHanded_of_change (C := Try.checked) own started (by kernel_rfl) Try.func4
    (ChangeSpec.witness6 (enc := enc) (C := Try.checked) false ⟨#[], #[.int .i64 0, .slice none 0 0, .slice none 0 0], []⟩ 8 (by kernel_rfl) (by kernel_rfl) (by kernel_rfl) (by kernel_rfl)) ?_
  intro W base args ds gs before hval0 hW hcnd _
  have hval : ∀ (j : Nat) t v, Try.f4.params[j]? = some t → args[j]? = some v → Value.okWide Try.prog W .any base t v := hval0
  have hW' := hW
  obtain ⟨p, q, hA0, hV, rfl, hfz, hnd⟩ := hW
  have hA : DataW.TrodAll enc Try.prog W 0 (fun _ => true) true Try.f4.params.toList args.toList ds p := hA0
  rw [Try.params4] at hA hval
  obtain ⟨v0, vs0, d0, ds0, p0, q0, hargs, rfl, rfl, h0, r0⟩ := trodAll_cons hA
  obtain ⟨v1, vs1, d1, ds1, p1, q1, rfl, rfl, rfl, h1, r1⟩ := trodAll_cons r0
  obtain ⟨v2, vs2, d2, ds2, p2, q2, rfl, rfl, rfl, h2, r2⟩ := trodAll_cons r1
  obtain ⟨rfl, rfl, rfl⟩ := trodAll_nil r2
  obtain rfl : args = #[v0, v1, v2] := by cases args; simp_all
  obtain ⟨rfl, rfl⟩ := trodVars_none hV
  have k0 := h0
  have lt0 : ∀ x ∈ p0, x.block < W.heap.size := by obtain ⟨m, hm⟩ := k0; exact DataW.trod_lt m _ _ _ hm
  have k1 := h1
  have lt1 : ∀ x ∈ p1, x.block < W.heap.size := by obtain ⟨m, hm⟩ := k1; exact DataW.trod_lt m _ _ _ hm
  have k2 := h2
  have lt2 : ∀ x ∈ p2, x.block < W.heap.size := by obtain ⟨m, hm⟩ := k2; exact DataW.trod_lt m _ _ _ hm
  obtain ⟨room, rfl, broom⟩ := open_num (hval 0 3 v0 rfl rfl) h0
  obtain ⟨a1, l1, c1, f, rfl, _, ml1, ha⟩ := open_slarg (fun y : { n : Int // In64 n } => Value.int .i64 y.1) ⟨0, by unfold In64; omega⟩ Try.underlying33 (by kernel_rfl) (elem_int Try.underlying3) (hval 1 33 v1 rfl rfl) h1
  obtain ⟨a2, l2, c2, g, rfl, _, ml2, hg⟩ := open_slarg Value.bool false Try.underlying34 (by kernel_rfl) (elem_bool Try.underlying4) (hval 2 34 v2 rfl rfl) h2
  clear hA0 hval0
  refine (walk room a1 l1 c1 f ml1 a2 l2 c2 g ml2 W ha hg).mono fun e W' ⟨he, bel⟩ => ?_
  subst he
  exact ⟨_, rfl, _, _, _, [], _, [], hW', trodAll_mk1 (shut_bool Try.underlying4 _), (trodAll_cons_mk (Below.trod laidOut (by kernel_rfl) (of_decide_eq_true (by kernel_rfl)) k0 bel lt0) (trodAll_cons_mk (Below.trod laidOut (by kernel_rfl) (of_decide_eq_true (by kernel_rfl)) k1 bel lt1) (trodAll_cons_mk (Below.trod laidOut (by kernel_rfl) (of_decide_eq_true (by kernel_rfl)) k2 bel lt2) trodAll_mk0))), rfl, bel.frame _, fun h => by cases h⟩

theorem over : Rows.ringTurnsRow.holds Try.pinned (OpenSpec.ofChange Rows.ringTurnsSpec) :=
  OpenClaim.holds_of_wide 4 Try.f4 rfl rfl rfl rfl rfl rfl rfl ⟨rfl, rfl, rfl, rfl, rfl⟩ rfl rfl rfl rfl rfl (by kernel_rfl) Try.func4 (by kernel_rfl)
    (of_decide_eq_true (by kernel_rfl)) (by unfold Func.isWrapper; first | (rw [if_pos (by decide +kernel)]; kernel_rfl) | (rw [if_neg (by decide +kernel)]; exact ⟨rfl, rfl⟩))
    (fun os started H enc _ => lifted os started H enc)

theorem proved : Rows.RingTurnsSaid := over
#print axioms proved
end ringTurns
end Go.Proofs.Ytiecdlfdfphflaa
