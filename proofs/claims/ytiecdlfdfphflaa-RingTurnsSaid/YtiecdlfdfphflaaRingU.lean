/- the walk of the law RingTurns. -/
import Derived.Test.YtiecdlfdfphflaaRingT
import Derived.Test.YtiecdlfdfphflaaSl
namespace Go.Proofs.Ytiecdlfdfphflaa
open Go.RowKit
set_option linter.unusedVariables false
namespace ringTurns

theorem ret_bool {a b : Bool} (h : a = b) : Ending.returned (.bool a) = .returned (.bool b) := by rw [h]

set_option maxHeartbeats 1000000 in
theorem walk_no (room : Int) (a1 : Option Addr) (l1 c1 : Nat) (a2 : Option Addr) (l2 c2 : Nat) (h : room < 1 ∨ 4096 < room) (w : World) :
    Calls Try.prog 4 #[.int .i64 room, .slice a1 l1 c1, .slice a2 l2 c2] w fun e w' => e = .returned (.bool true) ∧ Below w.heap.size w w' := by
  go_enter Try.func4, Try.ntmps4
  go_wp2_with fail
  refine (anchor_any _).mono ?_; rintro e w1 ⟨rfl, hb⟩
  go_wp2_with fail
  refine (numbers.New_no room h _).mono ?_; rintro e w2 ⟨rfl, rfl⟩
  go_wp2_with fail
  go_ret
  exact ⟨rfl, hb⟩

set_option maxHeartbeats 1000000 in
theorem walk_long (room : Int) (a1 : Option Addr) (l1 c1 : Nat) (a2 : Option Addr) (l2 c2 : Nat) (h1 : 1 ≤ room) (h2 : room ≤ 4096) (h : 200 < l1 ∨ (l1 ≤ 200 ∧ 400 < l2)) (w : World) :
    Calls Try.prog 4 #[.int .i64 room, .slice a1 l1 c1, .slice a2 l2 c2] w fun e w' => e = .returned (.bool true) ∧ Below w.heap.size w w' := by
  rcases h with h | ⟨h, h'⟩
  all_goals
    go_enter Try.func4, Try.ntmps4
    go_wp2_with fail
    refine (anchor_any _).mono ?_; rintro e w0 ⟨rfl, bel0⟩
    go_wp2_with fail
    refine (numbers.New_is room h1 h2 _).mono ?_; rintro e w1 ⟨S, b, rfl, ring1, bel1, hS, hb, lS, lb⟩
    go_wp2_with fail
    go_ret
    exact ⟨ret_bool (by first | (simp; done) | (simp; omega)), bel0.trans (bel1.mono bel0.size)⟩

/-- numbers, as values -/
def nx (f : Nat → { n : Int // In64 n }) (i k : Nat) : List Value := (List.range (k - i)).map fun j => .int .i64 (f (i + j)).1
theorem nx_len (f : Nat → { n : Int // In64 n }) (i k : Nat) : (nx f i k).length = k - i := by simp [nx]
theorem nx_push (f : Nat → { n : Int // In64 n }) (i k : Nat) (h : i ≤ k) : nx f i k ++ [.int .i64 (f k).1] = nx f i (k + 1) := by
  unfold nx
  rw [show k + 1 - i = (k - i) + 1 from by omega, List.range_succ, List.map_append, List.map_singleton, show i + (k - i) = k from by omega]
theorem nx_pop (f : Nat → { n : Int // In64 n }) (i k : Nat) (h : i < k) : nx f i k = .int .i64 (f i).1 :: nx f (i + 1) k := by
  unfold nx
  rw [show k - i = (k - (i + 1)) + 1 from by omega, List.range_succ_eq_map, List.map_cons, List.map_map]
  congr 1
  refine List.map_congr_left fun j _ => ?_
  show Value.int .i64 (f (i + (j + 1))).1 = _
  rw [show i + (j + 1) = i + 1 + j from by omega]
theorem nx_none (f : Nat → { n : Int // In64 n }) (i : Nat) : nx f i i = [] := by simp [nx]

set_option maxRecDepth 100000 in
set_option maxHeartbeats 4000000 in
theorem walk_yes (room l1 l2 c1 c2 : Nat) (a1 a2 : Option Addr) (f : Nat → { n : Int // In64 n }) (g : Nat → Bool) (h1 : 1 ≤ room) (h2 : room ≤ 4096) (hl1 : l1 ≤ 200) (hl2 : l2 ≤ 400) (w : World)
    (ha : l1 = 0 ∨ ∃ b off, a1 = some ⟨b, off, none⟩ ∧ b < w.heap.size ∧ ∀ i, i < l1 → w.cell? ⟨b, off + i, none⟩ = some (.int .i64 (f i).1))
    (hg : l2 = 0 ∨ ∃ b off, a2 = some ⟨b, off, none⟩ ∧ b < w.heap.size ∧ ∀ i, i < l2 → w.cell? ⟨b, off + i, none⟩ = some (.bool (g i))) :
    Calls Try.prog 4 #[.int .i64 room, .slice a1 l1 c1, .slice a2 l2 c2] w fun e w' => e = .returned (.bool true) ∧ Below w.heap.size w w' := by
  have HA := Lib.hid ha
  have HG := Lib.hid hg
  clear ha hg
  have t1 : ¬ (200 : Int) < l1 := by omega
  have t2 : ¬ (400 : Int) < l2 := by omega
  go_enter Try.func4, Try.ntmps4
  go_wp2_with fail
  refine (anchor_any _).mono ?_; rintro e w0 ⟨rfl, bel0⟩
  go_wp2_with fail
  refine (numbers.New_is room (by omega) (by omega) _).mono ?_; rintro e w1 ⟨S, b, rfl, ring1, bel1, hS, hb, lS, lb⟩
  rw [Int.toNat_natCast] at ring1
  have bel01 : Below w.heap.size w w1 := bel0.trans (bel1.mono bel0.size)
  have hS' : w.heap.size ≤ S := Nat.le_trans bel0.size hS
  have hb' : w.heap.size ≤ b := Nat.le_trans bel0.size hb
  have HN : Hid (∀ x, x < w.heap.size → ¬ numbers.Two S b x) := fun x hx h => by have := two_ge hS' hb' _ h; omega
  have HS := Lib.hid bel01.size
  have HB := Lib.hid bel01
  clear bel0 bel1 bel01
  go_wp2_with fail
  go_loopw [9, 10, 53] (fun p q i wr => ∃ ki ko k : Nat, p = .int .i64 ki ∧ q = .int .i64 ko ∧ i = .int .i64 k ∧ k ≤ l2 ∧ ko ≤ ki ∧ ki ≤ l1 ∧ ki - ko ≤ room ∧ RingIs wr S b room (nx f ko ki) ∧ Chg (numbers.Two S b) w1 wr) (fun _ _ i _ => l2 - (intOf i).toNat)
  case atStart => exact ⟨0, 0, 0, rfl, rfl, rfl, Nat.zero_le _, Nat.le_refl _, Nat.zero_le _, Nat.zero_le _, by rw [nx_none]; exact ring1, Chg.refl _ _⟩
  case round =>
    obtain ⟨ki, ko, k, rfl, rfl, rfl, hk, hoi, hil, hr, hring, hchg⟩ := hrel
    by_cases hlt : k < l2
    · obtain ⟨b2, o2, rfl, hb2, hgc⟩ := HG.out.resolve_left (by omega)
      have hcg : wr.cell? ⟨b2, o2 + k, none⟩ = some (.bool (g k)) := (hchg.cell (p := ⟨b2, o2 + k, none⟩) (Nat.lt_of_lt_of_le hb2 HS.out) (HN.out _ hb2)).trans ((HB.out.cell (p := ⟨b2, o2 + k, none⟩) hb2).trans (hgc k hlt))
      clear hgc
      cases hgk : g k
      · -- a push
        rw [hgk] at hcg
        clear hgk
        by_cases hin : ki = l1
        · have e1 : ((ki : Int) == (l1 : Int)) = true := by simp; omega
          clear hin
          go_wp2_with fail
          go_roundw
          case rel => exact ⟨ki, ko, k + 1, rfl, rfl, by go_num, by omega, hoi, hil, hr, hring, hchg⟩
          case measure => simp [intOf]; omega
        · have e1 : ((ki : Int) == (l1 : Int)) = false := by simp; omega
          obtain ⟨b1, o1, rfl, hb1, hf⟩ := HA.out.resolve_left (by omega)
          have hcf : wr.cell? ⟨b1, o1 + ki, none⟩ = some (.int .i64 (f ki).1) := (hchg.cell (p := ⟨b1, o1 + ki, none⟩) (Nat.lt_of_lt_of_le hb1 HS.out) (HN.out _ hb1)).trans ((HB.out.cell (p := ⟨b1, o1 + ki, none⟩) hb1).trans (hf ki (by omega)))
          clear hf hin
          have hki : ki < l1 := by have : ((ki : Int) == (l1 : Int)) = false := e1; simp at this; omega
          by_cases hfull : ki - ko = room
          · have e2 : ((ki : Int) - (ko : Int) == (room : Int)) = true := by simp; omega
            have hlen : (nx f ko ki).length = room := by rw [nx_len]; exact hfull
            clear hfull
            go_wp2_with fail
            refine (numbers.push_no S b room _ (f ki).1 _ hring hlen).mono ?_; rintro e w2 ⟨rfl, ring2, chg2⟩
            have HL := Lib.hid hlen
            clear hlen
            go_wp2_with fail
            go_roundw
            case rel => exact ⟨ki, ko, k + 1, rfl, rfl, by go_num, by omega, hoi, hil, hr, ring2, hchg.trans chg2⟩
            case measure => simp [intOf]; omega
          · have e2 : ((ki : Int) - (ko : Int) == (room : Int)) = false := by simp; omega
            have hlen : (nx f ko ki).length < room := by rw [nx_len]; omega
            go_wp2_with fail
            refine (numbers.push_is S b room _ (f ki).1 _ hring hlen).mono ?_; rintro e w2 ⟨rfl, ring2, chg2⟩
            rw [nx_push f ko ki hoi] at ring2
            go_wp2_with fail
            go_roundw
            case rel => exact ⟨ki + 1, ko, k + 1, by go_num, rfl, by go_num, by omega, by omega, by omega, by omega, ring2, hchg.trans chg2⟩
            case measure => simp [intOf]; omega
      · -- a pop
        rw [hgk] at hcg
        clear hgk
        by_cases hem : ko = ki
        · subst hem
          rw [nx_none] at hring
          have e1 : ((ko : Int) == (ko : Int)) = true := by simp
          go_wp2_with fail
          refine (numbers.pop_no S b room _ hring).mono ?_; rintro e w2 ⟨rfl, rfl⟩
          go_wp2_with fail
          go_roundw
          case rel => exact ⟨ko, ko, k + 1, rfl, rfl, by go_num, by omega, hoi, hil, hr, by rw [nx_none]; exact hring, hchg⟩
          case measure => simp [intOf]; omega
        · have e1 : ((ko : Int) == (ki : Int)) = false := by simp; omega
          have hlo : ko < ki := by omega
          obtain ⟨b1, o1, rfl, hb1, hf⟩ := HA.out.resolve_left (by omega)
          rw [nx_pop f ko ki hlo] at hring
          go_wp2_with fail
          refine (numbers.pop_is S b room _ (f ko).1 _ hring).mono ?_; rintro e w2 ⟨rfl, ring2, chg2⟩
          have hchg2 := hchg.trans chg2
          have hcf : w2.cell? ⟨b1, o1 + ko, none⟩ = some (.int .i64 (f ko).1) := (hchg2.cell (p := ⟨b1, o1 + ko, none⟩) (Nat.lt_of_lt_of_le hb1 HS.out) (HN.out _ hb1)).trans ((HB.out.cell (p := ⟨b1, o1 + ko, none⟩) hb1).trans (hf ko (by omega)))
          clear hf hem
          go_wp2_with fail
          go_roundw
          case rel => exact ⟨ki, ko + 1, k + 1, rfl, by go_num, by go_num, by omega, by omega, hil, by omega, ring2, hchg2⟩
          case measure => simp [intOf]; omega
    · go_wp2_with fail
      refine (numbers.Len_is S b room _ _ hring).mono ?_; rintro e w2 ⟨rfl, rfl⟩
      rw [nx_len]
      have e3 : (((ki - ko : Nat) : Int) == (ki : Int) - (ko : Int)) = true := by simp; omega
      go_wp2_with fail
      go_ret
      exact ⟨rfl, HB.out.trans (hchg.below HS.out (two_ge hS' hb'))⟩
end ringTurns
end Go.Proofs.Ytiecdlfdfphflaa
