/- digit, Read, Of and the document's Hex. -/
import Derived.Test.YtifpldennoocmaaPlR
import Derived.Lib.OthersKept
import Derived.Laws.RangeAny
import Derived.Laws.ResultCell
import Derived.WalkSpells
import Derived.BigQuiet
import Derived.Deep.QuietTactic
namespace Go.Proofs.Ytifpldennoocmaa
set_option linter.unusedVariables false
open Go.RowKit Go.Shelf

set_option maxHeartbeats 1000000 in
theorem digit_any (c : Nat) (hc : c ≤ 2147483647) (w : World) :
    Calls Try.prog 24 #[.int .i32 c] w fun e w' => e = .returned (.tuple #[.int .u8 (if digOk c then (digN c : Nat) else 0), .bool (digOk c)]) ∧ w = w' := by
  by_cases h1 : 48 ≤ c ∧ c ≤ 57
  · have e1 : digOk c = true := by unfold digOk; simp [h1]
    have e2 : digN c = c - 48 := by unfold digN; rw [if_pos h1]
    obtain ⟨ha, hb⟩ := h1
    have hcast : ((c - 48 : Nat) : Int) = (c : Int) - 48 := by omega
    rw [e1, e2, hcast]
    clear e1 e2 hcast
    go_enter Try.func24, Try.ntmps24
    go_wp2
    exact bodyPost_ret (v := .tuple #[.int .u8 ((c : Int) - 48), .bool true]) (by simp [results, Try.results24, go_sem]) rfl ⟨rfl, rfl⟩
  · by_cases h2 : 97 ≤ c ∧ c ≤ 102
    · have e1 : digOk c = true := by unfold digOk; simp [h2]
      have e2 : digN c = c - 87 := by unfold digN; rw [if_neg h1]
      obtain ⟨ha, hb⟩ := h2
      have hcast : ((c - 87 : Nat) : Int) = (c : Int) - 97 + 10 := by omega
      rw [e1, e2, hcast]
      clear e1 e2 hcast h1
      have hg : ¬ (c : Int) ≤ 57 := by omega
      go_enter Try.func24, Try.ntmps24
      go_wp2
      exact bodyPost_ret (v := .tuple #[.int .u8 ((c : Int) - 97 + 10), .bool true]) (by simp [results, Try.results24, go_sem]) rfl ⟨rfl, rfl⟩
    · have e1 : digOk c = false := by
        unfold digOk
        simp only [Bool.or_eq_false_iff, Bool.and_eq_false_iff, decide_eq_false_iff_not]
        omega
      rw [e1]
      clear e1
      by_cases g1 : 48 ≤ c
      · have g2 : ¬ c ≤ 57 := fun h => h1 ⟨g1, h⟩
        by_cases g3 : 97 ≤ c
        · have g4 : ¬ c ≤ 102 := fun h => h2 ⟨g3, h⟩
          clear h1 h2
          go_enter Try.func24, Try.ntmps24
          go_wp2
          exact bodyPost_ret (v := .tuple #[.int .u8 0, .bool false]) (by simp [results, Try.results24, go_sem]) rfl ⟨rfl, rfl⟩
        · clear h1 h2
          go_enter Try.func24, Try.ntmps24
          go_wp2
          exact bodyPost_ret (v := .tuple #[.int .u8 0, .bool false]) (by simp [results, Try.results24, go_sem]) rfl ⟨rfl, rfl⟩
      · have g3 : ¬ 97 ≤ c := by omega
        clear h1 h2
        go_enter Try.func24, Try.ntmps24
        go_wp2
        exact bodyPost_ret (v := .tuple #[.int .u8 0, .bool false]) (by simp [results, Try.results24, go_sem]) rfl ⟨rfl, rfl⟩

theorem results_row_tmp {P : Program} {fn : Func} {p u : Tmp} {ty : TypeId} (h : fn.results = #[.cell p ty, .tmp u]) (tmps : Array Value) (w : World) (g : Nat) (t : TypeId) (cs : Array Value) (fr : Nat × Nat) (d : TypeDesc)
    (hp : tmps.getD p undef = .pointer (some ⟨g, 0, none⟩)) (hg : w.heap[g]? = some (.cells cs t fr))
    (hu : P.underlying ty = some d) (hd : (match d with | .struct _ | .array _ _ => true | _ => false) = true) (hi : (P.info? ty).map (·.size) = some cs.size) :
    (results fn tmps).run P w = .ok (.tuple #[.agg cs, tmps.getD u undef]) w := by
  rw [results_cell_tmp h, hp]
  simp [asAddr, run_loadVar_row w g t ty cs fr d hg hu hd hi]

theorem dec_cases (bs : List UInt8) (s : ByteArray) (hs : s = ⟨bs.toArray⟩) (k : Nat) (hp : k < s.size) :
    (digOk (Utf8.decode s k).1 = true ∧ (Utf8.decode s k).1 = cb bs k ∧ (Utf8.decode s k).2 = 1 ∧ digOk (cb bs k) = true) ∨ (digOk (Utf8.decode s k).1 = false ∧ (k < 128 → readOk bs = false)) := by
  have hkl : k < bs.length := by rw [hs] at hp; simpa [ByteArray.size] using hp
  have hb : (s[k]'hp).toNat = cb bs k := by
    subst hs
    unfold cb
    rw [List.getD, List.getElem?_eq_getElem hkl]
    rfl
  have hno : digOk (cb bs k) = false → k < 128 → readOk bs = false := fun h hk => by
    cases hr : readOk bs with
    | false => rfl
    | true => rw [((readOk_iff bs).1 hr).2 k hk] at h; cases h
  by_cases ha : (s[k]'hp).toNat < 128
  · rw [decode_ascii s k hp ha, hb]
    cases h : digOk (cb bs k)
    · exact .inr ⟨rfl, hno h⟩
    · exact .inl ⟨rfl, rfl, rfl, rfl⟩
  · have h1 := decode_high s k hp (by omega)
    have h2 : digOk (cb bs k) = false := by
      cases h : digOk (cb bs k) with
      | false => rfl
      | true => have := dig_lt _ h; omega
    have h3 : digOk (Utf8.decode s k).1 = false := by
      cases h : digOk (Utf8.decode s k).1 with
      | false => rfl
      | true => have := dig_lt _ h; omega
    exact .inr ⟨h3, hno h2⟩

theorem nib_or (bs : List UInt8) (k c : Nat) (hk : k < 128) (h : ∀ j, j < k → digOk (cb bs j) = true) (hc : c = cb bs k) (hd : digOk (cb bs k) = true) :
    bits .or .u8 (ent bs k (k / 2) * 16 % 256) ((digN c : Nat) : Int) = ((nib bs k : Nat) : Int) := by
  subst hc
  have hl := (dig_lt _ hd).1
  unfold ent nib
  by_cases hp : k % 2 = 0
  · rw [if_neg (by omega), if_neg (by omega), if_pos hp]
    have := bor8 0 (digN (cb bs k)) (by omega) hl
    simpa using this
  · have h1 := (dig_lt _ (h (k - 1) (by omega))).1
    rw [if_neg (by omega), if_pos (by omega), if_neg hp, show 2 * (k / 2) = k - 1 from by omega, ← bor8 _ _ h1 hl]
    congr 1
    omega
theorem hao (w : World) (o : Obj) (i : Nat) (h : i < w.heap.size) : (w.alloc o).heap[i]? = w.heap[i]? := by
  show (w.heap.push o)[i]? = _
  rw [Array.getElem?_push, if_neg (by omega)]
theorem han (w : World) (o : Obj) (n : Nat) (h : n = w.heap.size) : (w.alloc o).heap[n]? = some o := by
  subst h; show (w.heap.push o)[w.heap.size]? = _; simp
def RdPost (w : World) (bs : List UInt8) (e : Ending) (w' : World) : Prop := e = .returned (.tuple #[.agg (ivs .u8 (readL bs)), .int .i64 (readE bs)]) ∧ Below w.heap.size w w'
def RdI (w : World) (bs : List UInt8) (k : Nat) (W : World) : Prop :=
  W.heap[w.heap.size]? = some (.cells (ivs .u8 (List.replicate 64 0)) 23 (0, 0)) ∧ W.heap[w.heap.size + 1]? = some (.cells (ivs .u8 (rdR bs k)) 23 (0, 0)) ∧
    W.heap[w.heap.size + 1 + 1]? = some (.stringIter ⟨bs.toArray⟩ k) ∧ Below w.heap.size w W ∧ ∀ j, j < k → digOk (cb bs j) = true

theorem z64 : (Try.prog.info? 23).map (·.size) = some (ivs .u8 (List.replicate 64 0)).size := by
  rw [ivs_size, List.length_replicate]; kernel_rfl
attribute [local simp] ld_row st_row
attribute [local go_sem] run_storeCells_one
set_option maxHeartbeats 4000000 in
theorem read_any (bs : List UInt8) (w : World) : Calls Try.prog 11 #[.string ⟨bs.toArray⟩] w (RdPost w bs) := by
  obtain ⟨s, hs⟩ : ∃ s : ByteArray, s = ⟨bs.toArray⟩ := ⟨_, rfl⟩
  have hsz : s.size = bs.length := by rw [hs]; simp [ByteArray.size]
  rw [← hs]
  by_cases h128 : bs.length = 128
  · have hz : s.size = 128 := hsz.trans h128
    have HS := Lib.hid hs
    clear hsz hs
    go_enter Try.func11, Try.ntmps11
    go_wp2_with fail
    rw [zeros64]
    obtain ⟨w0, hw0⟩ : ∃ w0, w0 = ((w.alloc (.cells (ivs .u8 (List.replicate 64 0)) 23)).alloc (.cells (ivs .u8 (List.replicate 64 0)) 23)).iter s 0 := ⟨_, rfl⟩
    have h0 : RdI w bs 0 w0 := by
      rw [hw0]
      unfold World.iter
      refine ⟨?_, ?_, ?_, (((Below.refl _ _).alloc (Nat.le_refl _) _).alloc (by simp) _).alloc (by simp; omega) _, fun j hj => by omega⟩
      · rw [hao _ _ _ (by simp; omega)]; exact heap_alloc2_old _ _ _
      · rw [hao _ _ _ (by simp), rdR_zero]; exact heap_alloc2_new _ _ _
      · rw [← HS.out]; exact han _ _ _ (by simp)
    rw [← hw0]
    clear hw0
    go_loopw [3] (fun i wr => ∃ k : Nat, k ≤ 128 ∧ i = .int .i64 0 ∧ RdI w bs k wr) (fun _ wr => 128 - wr.iterPos (w.heap.size + 1 + 1))
    case atStart => exact ⟨0, by omega, rfl, h0⟩
    case round =>
      obtain ⟨k, hk, rfl, r1, r2, r3, r4, r5⟩ := hrel
      rw [← HS.out] at r3
      have hpos0 : wr.iterPos (w.heap.size + 1 + 1) = k := by simp [World.iterPos, r3]
      by_cases hlt : k < 128
      · have hp : k < s.size := by omega
        have hcl := decode_le s k
        have hnx : ∀ ty, (Instr.next (.pointer (some ⟨w.heap.size + 1 + 1, 0, none⟩)) true ty).run Try.prog wr = _ := fun ty => Lib.run_next_any_at wr (w.heap.size + 1 + 1) s k ty r3 hp
        have hdc : (digOk (Utf8.decode s k).1 = true ∧ (Utf8.decode s k).1 = cb bs k ∧ (Utf8.decode s k).2 = 1 ∧ digOk (cb bs k) = true) ∨ (digOk (Utf8.decode s k).1 = false ∧ (k < 128 → readOk bs = false)) := dec_cases bs s HS.out k hp
        generalize hdv : Utf8.decode s k = dv at *
        obtain ⟨c, wd⟩ := dv
        obtain ⟨W1, hW1⟩ : ∃ W1, W1 = wr.iterAt (w.heap.size + 1 + 1) s (k + wd) := ⟨_, rfl⟩
        have q1 := (Lib.iterAt_other wr (w.heap.size + 1 + 1) w.heap.size s (k + wd) (by omega)).trans r1
        have q2 := (Lib.iterAt_other wr (w.heap.size + 1 + 1) (w.heap.size + 1) s (k + wd) (by omega)).trans r2
        have q3 := Lib.iterAt_heap wr (w.heap.size + 1 + 1) s k (k + wd) r3
        have q4 := Lib.below_iterAt r4 (k := w.heap.size + 1 + 1) (by omega) s (k + wd)
        simp only at hnx hdc hcl
        rw [← hW1] at hnx q1 q2 q3 q4
        have dg := digit_any c hcl
        rcases hdc with ⟨g1, g2, g3, g4⟩ | ⟨g1, g2⟩
        · subst g3
          rw [g1] at dg
          have m1 := ivs_cell W1 _ (k / 2) _ 23 q2 (by rw [rdR_len]; omega)
          rw [rdR_get _ _ _ (by omega)] at m1
          have f1 := frozen_of_row W1 _ (k / 2) _ 23 q2
          have kl : (k : Int) / 2 < 64 := by omega
          have k0 : 0 ≤ (k : Int) / 2 := by omega
          have Q := Lib.hid (And.intro q1 (And.intro q2 (And.intro q3 (And.intro q4 r5))))
          have G := Lib.hid (And.intro hdv (And.intro g1 (And.intro g2 g4)))
          have hlt0 := hlt
          clear q1 q2 q3 q4 r1 r2 r3 r4 r5 hdv g1 g2 g4 hW1 hcl hlt
          generalize hE : ent bs k (k / 2) = E at *
          have HE := Lib.hid hE
          clear hE
          go_wp2_with (go_at_call 24; refine (dg _).mono ?_; rintro e w' ⟨rfl, rfl⟩)
          go_roundw
          case rel =>
            obtain ⟨q1, q2, q3, q4, r5⟩ := Q.out
            obtain ⟨hdv, g1, g2, g4⟩ := G.out
            rw [← HE.out, nib_or bs k c hlt0 r5 g2 g4]
            refine ⟨k + 1, by omega, rfl, (heap_setCell_other _ _ _ _ (by show _ ≠ w.heap.size + 1; omega)).trans q1, ?_, (heap_setCell_other _ _ _ _ (by show _ ≠ w.heap.size + 1; omega)).trans (HS.out ▸ q3), q4.setCell (by show _ ≤ w.heap.size + 1; omega) _, fun j hj => ?_⟩
            · rw [← rdR_set _ _ hlt0, ← ivs_set]
              exact heap_setCell_same _ _ _ _ _ _ q2
            · by_cases e : j = k
              · subst e; exact g4
              · exact r5 j (by omega)
          case measure =>
            obtain ⟨q1, q2, q3, q4, r5⟩ := Q.out
            have e1 : (W1.setCell ⟨w.heap.size + 1, k / 2, none⟩ (Value.int IntKind.u8 (bits BinOp.or IntKind.u8 (E * 16 % 256) (digN c : Nat)))).iterPos (w.heap.size + 1 + 1) = k + 1 := by
              unfold World.iterPos
              rw [heap_setCell_other _ _ _ _ (by show _ ≠ w.heap.size + 1; omega), q3]
            rw [e1, hpos0]
            omega
        · rw [g1] at dg
          have S := run_storeRow (P := Try.prog) W1 _ _ (ivs .u8 (List.replicate 64 0)) 23 q1 rfl (ivs_one _ _)
          have r5' := setRow_heap W1 _ _ (ivs .u8 (List.replicate 64 0)) 23 (0, 0) q1
          rw [← zeros64] at S
          have Q := Lib.hid (And.intro q4 r5')
          have G := Lib.hid (g2 hlt)
          clear q1 q2 q3 q4 r1 r2 r3 r4 r5 hdv g1 g2 hW1 hcl hlt r5'
          go_wp2_with (go_at_call 24; refine (dg _).mono ?_; rintro e w' ⟨rfl, rfl⟩)
          obtain ⟨q4, r5'⟩ := Q.out
          refine bodyPost_ret (results_row_tmp (P := Try.prog) Try.results11 _ _ w.heap.size 23 (ivs .u8 (List.replicate 64 0)) (0, 0) (.array 64 5) rfl r5' (by kernel_rfl) rfl z64) rfl ?_
          refine ⟨?_, below_setRow q4 (Nat.le_refl _) _⟩
          rw [readL, readE, if_neg (by rw [G.out]; decide), if_neg (by rw [G.out]; decide)]
          rfl
      · have : k = 128 := by omega
        subst this
        have hnx : ∀ ty, (Instr.next (.pointer (some ⟨w.heap.size + 1 + 1, 0, none⟩)) true ty).run Try.prog wr = _ := fun ty => Lib.run_next_end_at wr (w.heap.size + 1 + 1) s 128 ty r3 (by omega)
        have hok : readOk bs = true := (readOk_iff bs).2 ⟨h128, r5⟩
        obtain ⟨lx, hlx⟩ : ∃ lx, lx = rdR bs 128 := ⟨_, rfl⟩
        have hl : lx.length = 64 := by rw [hlx, rdR_len]
        rw [← hlx] at r2
        have HX := Lib.hid (And.intro hlx hok)
        have L := run_loadFrom_row (P := Try.prog) wr _ _ 23 (0, 0) r2 64 (by rw [ivs_size, hl])
        have S := run_storeRow (P := Try.prog) wr _ _ (ivs .u8 lx) 23 r1 (by rw [ivs_size, ivs_size, hl]; simp) (ivs_one _ _)
        have r6 := setRow_heap wr _ _ (ivs .u8 lx) 23 (0, 0) r1
        have hz2 : (ivs .u8 lx).size = 64 := by rw [ivs_size, hl]
        have R := Lib.hid (And.intro r4 r6)
        clear r1 r2 r3 r4 r5 r6 hlx hl hok hlt hpos0
        go_wp2_with fail
        obtain ⟨r4, r6⟩ := R.out
        refine bodyPost_ret (results_row_tmp (P := Try.prog) Try.results11 _ _ w.heap.size 23 (ivs .u8 lx) (0, 0) (.array 64 5) rfl r6 (by kernel_rfl) rfl (by rw [hz2]; kernel_rfl)) rfl ?_
        refine ⟨?_, below_setRow r4 (Nat.le_refl _) _⟩
        rw [readL, readE, if_pos HX.out.2, if_pos HX.out.2, HX.out.1]
        rfl
  · have hno : readOk bs = false := by
      cases h : readOk bs with
      | false => rfl
      | true => exact absurd ((readOk_iff bs).1 h).1 h128
    have hne : ((s.size : Int) == 128) = false := by simp; omega
    have S := run_storeRow (P := Try.prog) ((w.alloc (.cells (ivs .u8 (List.replicate 64 0)) 23)).alloc (.cells (ivs .u8 (List.replicate 64 0)) 23)) w.heap.size _ (ivs .u8 (List.replicate 64 0)) 23 (heap_alloc2_old _ _ _) rfl (ivs_one _ _)
    have r6 := setRow_heap ((w.alloc (.cells (ivs .u8 (List.replicate 64 0)) 23)).alloc (.cells (ivs .u8 (List.replicate 64 0)) 23)) w.heap.size _ (ivs .u8 (List.replicate 64 0)) 23 (0, 0) (heap_alloc2_old _ _ _)
    have B := below_setRow (((Below.refl w.heap.size w).alloc (Nat.le_refl _) (.cells (ivs .u8 (List.replicate 64 0)) 23)).alloc (by simp) (.cells (ivs .u8 (List.replicate 64 0)) 23)) (Nat.le_refl w.heap.size) (ivs .u8 (List.replicate 64 0))
    rw [← zeros64] at S
    have R := Lib.hid (And.intro r6 B)
    have G := Lib.hid hno
    clear r6 B hno h128 hs hsz
    go_enter Try.func11, Try.ntmps11
    go_wp2_with fail
    obtain ⟨r6, B⟩ := R.out
    rw [zeros64]
    refine bodyPost_ret (results_row_tmp (P := Try.prog) Try.results11 _ _ w.heap.size 23 (ivs .u8 (List.replicate 64 0)) (0, 0) (.array 64 5) rfl r6 (by kernel_rfl) rfl z64) rfl ?_
    refine ⟨?_, B⟩
    rw [readL, readE, if_neg (by rw [G.out]; decide), if_neg (by rw [G.out]; decide)]
    rfl
end Go.Proofs.Ytifpldennoocmaa
