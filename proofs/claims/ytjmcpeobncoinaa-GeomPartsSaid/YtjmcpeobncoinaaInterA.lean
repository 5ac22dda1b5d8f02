/- contracts of inter: digits. -/
import Derived.Test.YtjmcpeobncoinaaGeoC
import Derived.Test.YtjmcpeobncoinaaQb
import Derived.Deep.OwnRows
import Derived.Deep.RegionHeld3
namespace Go.Proofs.Ytjmcpeobncoinaa
set_option linter.unusedVariables false
open Go.RowKit

theorem info3 : (Try.prog.info? 3).map (fun i => (i.zero, i.size, i.bytes)) = some (some (.int .i64 0), 1, 8) := by kernel_rfl

/-- three digits by three bases -/
def dig3 (n b0 b1 b2 : Int) : List Value := [.int .i64 (n % b0), .int .i64 (n / b0 % b1), .int .i64 (n / b0 / b1 % b2)]

def DigPost (w : World) (n b0 b1 b2 : Int) (e : Ending) (w' : World) : Prop :=
  ∃ g cap, e = .returned (.slice (some ⟨g, 0, none⟩) 3 cap) ∧ w.heap.size ≤ g ∧ w'.cell? ⟨g, 0, none⟩ = some (.int .i64 (n % b0)) ∧ w'.cell? ⟨g, 1, none⟩ = some (.int .i64 (n / b0 % b1)) ∧ w'.cell? ⟨g, 2, none⟩ = some (.int .i64 (n / b0 / b1 % b2)) ∧ Below w.heap.size w w'

theorem own_from {w : World} {B : Nat} {e : TypeId} {size n : Nat} {v : Value} {xs : List Value} (h : w.ownsRow B e size v n xs) : ∀ k, v.ownBlock = some k → B ≤ k := by
  obtain ⟨_, ⟨rfl, _⟩ | ⟨g, cap, cur, rfl, hg, _⟩⟩ := h
  · intro k hk; cases hk
  · intro k hk; cases hk; exact hg

set_option maxHeartbeats 4000000 in
theorem digits_any (B : Nat) (n b0 b1 b2 : Int) (h0 : 0 ≤ n) (hn : n ≤ 9223372036854775807) (g0 : 1 ≤ b0) (g1 : 1 ≤ b1) (g2 : 1 ≤ b2) (k0 : b0 ≤ 1024) (k1 : b1 ≤ 1024) (k2 : b2 ≤ 1024) (w : World) (hB : B < w.heap.size)
    (c0 : w.cell? ⟨B, 0, none⟩ = some (.int .i64 b0)) (c1 : w.cell? ⟨B, 1, none⟩ = some (.int .i64 b1)) (c2 : w.cell? ⟨B, 2, none⟩ = some (.int .i64 b2)) :
    Calls Try.prog 43 #[.int .i64 n, .slice (some ⟨B, 0, none⟩) 3 3] w (DigPost w n b0 b1 b2) := by
  obtain ⟨i0, hi, hz0, hz1, hz2⟩ := info_parts info3
  have q0 : 0 ≤ n / b0 := Int.ediv_nonneg h0 (by omega)
  have q1 : 0 ≤ n / b0 / b1 := Int.ediv_nonneg q0 (by omega)
  have p0 : n / b0 ≤ n := Int.ediv_le_self _ h0
  have p1 : n / b0 / b1 ≤ n / b0 := Int.ediv_le_self _ q0
  go_enter Try.func43, Try.ntmps43
  go_wp2_with fail
  go_loopw [0, 5, 10] (fun m v i wr => ((i = .int .i64 0 ∧ m = .int .i64 n ∧ wr.ownsRow w.heap.size 3 1 v 0 []) ∨ (i = .int .i64 1 ∧ m = .int .i64 (n / b0) ∧ wr.ownsRow w.heap.size 3 1 v 1 [.int .i64 (n % b0)]) ∨ (i = .int .i64 2 ∧ m = .int .i64 (n / b0 / b1) ∧ wr.ownsRow w.heap.size 3 1 v 2 [.int .i64 (n % b0), .int .i64 (n / b0 % b1)]) ∨ (i = .int .i64 3 ∧ wr.ownsRow w.heap.size 3 1 v 3 (dig3 n b0 b1 b2))) ∧ Below w.heap.size w wr) (fun _ _ i _ => 3 - (intOf i).toNat)
  case atStart => exact ⟨.inl ⟨rfl, rfl, World.ownsRow_nil _ _ _ _⟩, Below.refl _ _⟩
  case round =>
    obtain ⟨hcase, hB'⟩ := hrel
    have d0 := (hB'.cell (p := ⟨B, 0, none⟩) hB).trans c0
    have d1 := (hB'.cell (p := ⟨B, 1, none⟩) hB).trans c1
    have d2 := (hB'.cell (p := ⟨B, 2, none⟩) hB).trans c2
    have hsz := hB'.size
    rcases hcase with ⟨rfl, rfl, hown⟩ | ⟨rfl, rfl, hown⟩ | ⟨rfl, rfl, hown⟩ | ⟨rfl, hown⟩
    · go_wp2_with (at_builtin; refine wpList_append_own _ rfl _ _ 51 rfl w.heap.size 3 i0 (.int .i64 0) 1 8 Try.underlying51 hi hz0 hz1 hz2 rfl (by decide) _ _ _ rfl (hown.alloc _) ⟨wr.heap.size, 0, none⟩ 1 1 [.int .i64 (n % b0)] rfl rfl (cell_one_new _ _ _) (by simp [Value.oneCell']) (by unfold maxLen; omega) (by omega) (by simp; omega) ?_; intro v' w1 hown' hgrow _)
      go_roundw
      case rel => exact ⟨.inr (.inl ⟨rfl, rfl, hown'⟩), (hB'.alloc hsz _).grown hgrow (by simp; omega) (own_from hown)⟩
      case measure => simp [intOf]
    · go_wp2_with (at_builtin; refine wpList_append_own _ rfl _ _ 51 rfl w.heap.size 3 i0 (.int .i64 0) 1 8 Try.underlying51 hi hz0 hz1 hz2 rfl (by decide) _ _ _ rfl (hown.alloc _) ⟨wr.heap.size, 0, none⟩ 1 1 [.int .i64 (n / b0 % b1)] rfl rfl (cell_one_new _ _ _) (by simp [Value.oneCell']) (by unfold maxLen; omega) (by omega) (by simp; omega) ?_; intro v' w1 hown' hgrow _)
      go_roundw
      case rel => exact ⟨.inr (.inr (.inl ⟨rfl, rfl, hown'⟩)), (hB'.alloc hsz _).grown hgrow (by simp; omega) (own_from hown)⟩
      case measure => simp [intOf]
    · go_wp2_with (at_builtin; refine wpList_append_own _ rfl _ _ 51 rfl w.heap.size 3 i0 (.int .i64 0) 1 8 Try.underlying51 hi hz0 hz1 hz2 rfl (by decide) _ _ _ rfl (hown.alloc _) ⟨wr.heap.size, 0, none⟩ 1 1 [.int .i64 (n / b0 / b1 % b2)] rfl rfl (cell_one_new _ _ _) (by simp [Value.oneCell']) (by unfold maxLen; omega) (by omega) (by simp; omega) ?_; intro v' w1 hown' hgrow _)
      go_roundw
      case rel => exact ⟨.inr (.inr (.inr ⟨rfl, hown'⟩)), (hB'.alloc hsz _).grown hgrow (by simp; omega) (own_from hown)⟩
      case measure => simp [intOf]
    · go_wp2_with fail
      go_ret
      obtain ⟨_, hv | ⟨g, cap, cur, rfl, hg, rest⟩⟩ := id hown
      · exact absurd hv.2 (by decide)
      exact ⟨g, cap, rfl, hg, (hown.cellAt 0 (by decide)).trans rfl, (hown.cellAt 1 (by decide)).trans rfl, (hown.cellAt 2 (by decide)).trans rfl, hB'⟩

end Go.Proofs.Ytjmcpeobncoinaa
