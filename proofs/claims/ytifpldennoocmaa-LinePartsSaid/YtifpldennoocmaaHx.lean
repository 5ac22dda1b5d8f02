/- line.Hex, line.Fill, the anchor. -/
import Derived.Test.YtifpldennoocmaaMg
import Derived.Test.YtifpldennoocmaaQb
import Derived.Deep.OwnRows
import Derived.Deep.RegionHeld3
import Derived.Deep.AppendLies
import Derived.Laws.IdiomStrings
namespace Go.Proofs.Ytifpldennoocmaa
set_option linter.unusedVariables false
open Go.RowKit Go.Shelf

theorem info5 : (Try.prog.info? 5).map (fun i => (i.zero, i.size, i.bytes)) = some (some (.int .u8 0), 1, 1) := by kernel_rfl

/-- a digit's sign -/
def sgn (n : Nat) : UInt8 := (#[48, 49, 50, 51, 52, 53, 54, 55, 56, 57, 97, 98, 99, 100, 101, 102] : Array UInt8)[n]?.getD 0
def hexB (l : List Int) : List UInt8 := l.flatMap fun x => [sgn (x.toNat / 16), sgn (x.toNat % 16)]
/-- bytes as cells -/
def byV (l : List UInt8) : List Value := l.map fun b => Value.int .u8 (b.toNat : Int)
theorem hexB_snoc (l : List Int) (x : Int) : hexB (l ++ [x]) = hexB l ++ [sgn (x.toNat / 16), sgn (x.toNat % 16)] := by unfold hexB; rw [List.flatMap_append]; rfl
theorem hexB_len (l : List Int) : (hexB l).length = 2 * l.length := by
  induction l with
  | nil => rfl
  | cons x l ih => show (_ :: _ :: hexB l).length = _; simp only [List.length_cons, ih]; omega
theorem byV_append (l m : List UInt8) : byV (l ++ m) = byV l ++ byV m := by unfold byV; rw [List.map_append]

def HxPost (w : World) (l : List Int) (e : Ending) (w' : World) : Prop := e = .returned (.string ⟨(hexB l).toArray⟩) ∧ Below w.heap.size w w'

theorem take_snocI {L : List Int} {k : Nat} (h : k < L.length) : L.take (k + 1) = L.take k ++ [L.getD k 0] := by
  rw [List.take_add_one, List.getElem?_eq_getElem h]; simp [List.getD, h]

theorem band8_15 (n : Nat) (hn : n < 256) : bits .and .u8 (n : Int) 15 = ((n % 16 : Nat) : Int) := by
  show IntKind.u8.wrap (((BitVec.ofInt 8 (n : Int) &&& BitVec.ofInt 8 ((15 : Nat) : Int)).toNat : Nat) : Int) = _
  rw [BitVec.ofInt_natCast, BitVec.ofInt_natCast]
  simp only [BitVec.toNat_and, BitVec.toNat_ofNat]
  rw [Nat.mod_eq_of_lt hn, show 15 % 2 ^ 8 = 2 ^ 4 - 1 from rfl, Nat.and_two_pow_sub_one_eq_mod, IntKind.wrap_u8]
  omega
theorem run_index_ints {P : Program} {t e : TypeId} {k : IntKind} {n : Nat} {inf : TypeInfo} (ht : P.underlying t = some (.array n e)) (he : P.underlying e = some (.int k)) (hi : P.info? e = some inf) (hs : inf.size = 1) (xs : List Int) (hx : xs.length = n) (i : Nat) (h : i < n) (w : World) :
    (Instr.index t (.agg (ivs k xs)) (.int .i64 (i : Nat))).run P w = .ok (.int k (xs.getD i 0)) w := by
  have hp := part_int (P := P) he xs i (by omega) w
  have : i < xs.length := by omega
  have e1 : xs.getD i 0 = xs[i] := by simp [List.getD, this]
  rw [e1, ← hp]
  simp [Instr.index, asIntOf, run_underlying ht, sizeOf, typeInfo, hi, hs, h]
theorem sgn_at (j : Nat) (hj : j < 16) (W : World) : (Instr.index 9 (.string { data := #[48, 49, 50, 51, 52, 53, 54, 55, 56, 57, 97, 98, 99, 100, 101, 102] }) (.int .u8 (j : Int))).run Try.prog W = .ok (.int .u8 ((sgn j).toNat : Int)) W := by
  rw [run_index_string _ _ _ _ _ Try.underlying9]
  have : ∀ m : Fin 16, ({ data := #[48, 49, 50, 51, 52, 53, 54, 55, 56, 57, 97, 98, 99, 100, 101, 102] } : ByteArray)[m.val]'(m.isLt) = sgn m.val := by decide
  have h := this ⟨j, hj⟩
  have hz : ({ data := #[48, 49, 50, 51, 52, 53, 54, 55, 56, 57, 97, 98, 99, 100, 101, 102] } : ByteArray).size = 16 := rfl
  simp only at h
  simp [hz, h]
  intro hh; omega
theorem own_from {w : World} {B : Nat} {e : TypeId} {size n : Nat} {v : Value} {xs : List Value} (h : w.ownsRow B e size v n xs) : ∀ k, v.ownBlock = some k → B ≤ k := by
  obtain ⟨_, ⟨rfl, _⟩ | ⟨g, cap, cur, rfl, hg, _⟩⟩ := h
  · intro k hk; cases hk
  · intro k hk; cases hk; exact hg
attribute [local simp] ld_row st_row
attribute [local go_sem] run_storeCells_one
set_option maxHeartbeats 4000000 in
theorem hex_any (l : List Int) (hl : l.length = 64) (hr : ∀ k, k < 64 → ∃ n : Nat, l.getD k 0 = (n : Int) ∧ n < 256) (w : World) :
    Calls Try.prog 12 #[.agg (ivs .u8 l)] w (HxPost w l) := by
  obtain ⟨i0, hi, hz0, hz1, hz2⟩ := info_parts info5
  have HL := Lib.hid hl
  have HR := Lib.hid hr
  have L0 := run_loadFrom_row (P := Try.prog) (w.alloc (.cells (ivs .u8 l) 23)) _ _ 23 (0, 0) (heap_alloc_new w _) 64 (by rw [ivs_size, hl])
  clear hl hr
  go_enter Try.func12, Try.ntmps12
  go_wp2_with fail
  go_loopw [3, 7] (fun v i wr => ∃ k : Nat, k ≤ 64 ∧ i = .int .i64 k ∧ wr.ownsRow w.heap.size 5 1 v (2 * k) (byV (hexB (l.take k))) ∧ Below w.heap.size w wr) (fun _ i _ => 64 - (intOf i).toNat)
  case atStart => exact ⟨0, by omega, rfl, World.ownsRow_nil _ _ _ _, (Below.refl _ _).alloc (Nat.le_refl _) _⟩
  case round =>
    obtain ⟨k, hk, rfl, hown, hB⟩ := hrel
    by_cases hlt : k < 64
    · obtain ⟨n, hn, hn256⟩ := HR.out k hlt
      have hlt0 := hlt
      have hcell : (Instr.index 23 (.agg (ivs .u8 l)) (.int .i64 (k : Nat))).run Try.prog wr = .ok (.int .u8 (n : Nat)) wr := by rw [← hn]; exact run_index_ints (n := 64) Try.underlying23 Try.underlying5 hi hz1 l HL.out k hlt wr
      have hA : bits .and .u8 (n : Int) 15 = ((n % 16 : Nat) : Int) := band8_15 n hn256
      have hkI : (k : Int) < 64 := by omega
      have HN := Lib.hid hn
      have HB := Lib.hid hB
      have HO := Lib.hid hown
      clear hn hB hown
      have hs1 : ∀ W, (Instr.index 9 (.string { data := #[48, 49, 50, 51, 52, 53, 54, 55, 56, 57, 97, 98, 99, 100, 101, 102] }) (.int .u8 ((n : Int) / 16))).run Try.prog W = .ok (.int .u8 ((sgn (n / 16)).toNat : Int)) W := fun W => by
        have := sgn_at (n / 16) (by omega) W; simpa using this
      have hs2 : ∀ W, (Instr.index 9 (.string { data := #[48, 49, 50, 51, 52, 53, 54, 55, 56, 57, 97, 98, 99, 100, 101, 102] }) (.int .u8 ((n : Int) % 16))).run Try.prog W = .ok (.int .u8 ((sgn (n % 16)).toNat : Int)) W := fun W => by
        have := sgn_at (n % 16) (by omega) W; simpa using this
      go_wp2_with fail
      go_region_held3 (fun w' => True) (trivial)
        ((refine step_append_lies _ (by rfl) _ _ _ (by rfl) w.heap.size 5 i0 (.int .u8 0) 1 1 Try.underlying31 hi hz0 hz1 hz2 (by rfl) (by decide) _ _ _ (by rfl) ((HO.out.alloc _).drew) ⟨wr.heap.size, 0, none⟩ 2 2 [.int .u8 ((sgn (n / 16)).toNat : Int), .int .u8 ((sgn (n % 16)).toNat : Int)] (by rfl) (by rfl) (World.news_of_block (heap_alloc_new wr _)) (by simp [Value.oneCell']) (by decide) (by unfold maxLen; omega) (by omega) (by have := HB.out.size; simp; omega) (wr.heap.size + 1) (by simp) ?_; intro g cap w1 hown1 hgrow hat hlt))
      all_goals
        go_wp2_with fail
        go_roundw
        case rel =>
          refine ⟨k + 1, by omega, by go_num, ?_, ((HB.out.alloc HB.out.size _).trans (Below.refl _ _).drew).grown hgrow (by have := HB.out.size; simp; omega) (own_from HO.out)⟩
          rw [take_snocI (by rw [HL.out]; exact hlt0), HN.out, hexB_snoc, byV_append]
          exact hown1
        case measure => simp [intOf]; omega
    · have : k = 64 := by omega
      subst this
      have hfull : l.take 64 = l := List.take_of_length_le (by rw [HL.out]; exact Nat.le_refl _)
      rw [hfull] at hown
      obtain ⟨_, hv | ⟨g, cap, cur, rfl, hg, rest⟩⟩ := id hown
      · exact absurd hv.2 (by decide)
      have hcv : (convert 31 9 (.slice (some ⟨g, 0, none⟩) 128 cap)).run Try.prog wr = .ok (.string ⟨(hexB l).toArray⟩) wr := by
        have hlen : (hexB l).length = 128 := by rw [hexB_len, HL.out]
        have := run_convert_bytes_back (P := Try.prog) wr 31 9 5 ⟨g, 0, none⟩ cap (hexB l) Try.underlying31 Try.underlying5 Try.underlying9 (fun j hj => by
          have hadd : (⟨g, 0, none⟩ : Addr).add j = ⟨g, j, none⟩ := by unfold Addr.add; split <;> simp_all
          rw [hadd, hown.cellAt j (by omega)]
          simp [byV, hj])
        rwa [hlen] at this
      have HB := Lib.hid hB
      clear hown rest hB
      go_wp2_with fail
      go_ret
      exact ⟨rfl, HB.out⟩
end Go.Proofs.Ytifpldennoocmaa
