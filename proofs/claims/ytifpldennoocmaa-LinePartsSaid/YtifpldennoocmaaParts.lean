/- Words and halves of any line are the document's, and make it again; they come as far as they are asked: for any line and any number. No condition. -/
import Derived.Test.YtifpldennoocmaaFh
import Derived.Test.YtifpldennoocmaaQl
import Derived.Test.YtifpldennoocmaaRf2
set_option linter.unusedSimpArgs false
namespace Go.Proofs.Ytifpldennoocmaa
set_option linter.unusedVariables false
open Go.ChangeShapes Go.WideShapes Go.ChangeAt Go.RowKit Go.Shelf
attribute [local go_sem] Oper.semAt_some
attribute [local simp] ld_row st_row
attribute [local go_sem] run_storeCells_one
namespace parts

/-- what lies there all the time: the line, the number, the result -/
def Fix (w : World) (l : List Int) (st : Int) (W : World) : Prop :=
  W.heap[w.heap.size]? = some (.cells (ivs .u8 l) 23 (0, 0)) ∧ W.heap[w.heap.size + 1]? = some (.cells #[.int .i64 st] 3 (0, 0)) ∧ W.heap[w.heap.size + 1 + 1]? = some (.cells #[.bool false] 4 (0, 0)) ∧ Below w.heap.size w W
theorem Fix.chg {w : World} {l : List Int} {st : Int} {cw : Nat → Prop} {A B : World} (h : Fix w l st A) (hc : Chg cw A B) (h0 : ∀ b, cw b → w.heap.size + 1 + 1 < b) : Fix w l st B := by
  obtain ⟨h1, h2, h3, h4⟩ := h
  have lt := fun (i : Nat) (o : Obj) (e : A.heap[i]? = some o) => (Array.getElem?_eq_some_iff.1 e).1
  exact ⟨(hc.block _ (lt _ _ h1) (fun h => by have := h0 _ h; omega)).trans h1, (hc.block _ (lt _ _ h2) (fun h => by have := h0 _ h; omega)).trans h2, (hc.block _ (lt _ _ h3) (fun h => by have := h0 _ h; omega)).trans h3,
    h4.trans (hc.below h4.size (fun b h => by have := h0 _ h; omega))⟩
/-- between two rounds of the first loop -/
def I1 (w : World) (l : List Int) (st : Int) (A k : Nat) (W : World) : Prop :=
  Fix w l st W ∧ W.heap[A]? = some (.cells (ivs .u64 (upTo (fun k => ((wordV l k : Nat) : Int)) 8 k)) 39 (0, 0)) ∧ W.heap[A + 1]? = some (.cells #[.int .i64 k] 3 (0, 0))
theorem I1.chg {w : World} {l : List Int} {st : Int} {X k : Nat} {cw : Nat → Prop} {A B : World} (h : I1 w l st X k A) (hX : w.heap.size + 1 + 1 < X) (hc : Chg cw A B) (h0 : ∀ b, cw b → X + 1 < b) : I1 w l st X k B := by
  obtain ⟨h1, h2, h3⟩ := h
  have lt := fun (i : Nat) (o : Obj) (e : A.heap[i]? = some o) => (Array.getElem?_eq_some_iff.1 e).1
  exact ⟨h1.chg hc (fun b h => by have := h0 _ h; omega), (hc.block _ (lt _ _ h2) (fun h => by have := h0 _ h; omega)).trans h2, (hc.block _ (lt _ _ h3) (fun h => by have := h0 _ h; omega)).trans h3⟩

theorem fix_new (w : World) (l : List Int) (st : Int) (w1 : World) (h : Below (((w.alloc (.cells (ivs .u8 l) 23)).alloc (.cells #[.int .i64 st] 3)).alloc (.cells #[.bool false] 4)).heap.size (((w.alloc (.cells (ivs .u8 l) 23)).alloc (.cells #[.int .i64 st] 3)).alloc (.cells #[.bool false] 4)) w1) : Fix w l st w1 := by
  have k : Keeps (((w.alloc (.cells (ivs .u8 l) 23)).alloc (.cells #[.int .i64 st] 3)).alloc (.cells #[.bool false] 4)) w1 := h
  refine ⟨old_at k ?_, old_at k ?_, old_at k ?_, Keeps.next ((((Below.refl _ _).alloc (Nat.le_refl _) _).alloc (by simp) _).alloc (by simp; omega) _) h⟩
  · rw [hao _ _ _ (by simp; omega), hao _ _ _ (by simp)]; exact han _ _ _ rfl
  · rw [hao _ _ _ (by simp)]; exact han _ _ _ (by simp)
  · exact han _ _ _ (by simp)
theorem zeros8 : #[Value.int IntKind.u64 0, Value.int IntKind.u64 0, Value.int IntKind.u64 0, Value.int IntKind.u64 0, Value.int IntKind.u64 0, Value.int IntKind.u64 0, Value.int IntKind.u64 0, Value.int IntKind.u64 0] = ivs .u64 (List.replicate 8 0) := rfl
theorem fix_load (w : World) (l : List Int) (st : Int) (W : World) (hz : (ivs .u8 l).size = 64) (h : Fix w l st W) : (ldRow ⟨w.heap.size, 0, none⟩ 0 64 #[]).run Try.prog W = .ok (ivs .u8 l) W :=
  run_loadFrom_row W _ _ 23 (0, 0) h.1 64 hz
theorem Fix.more {w : World} {l : List Int} {st : Int} {A B : World} (h : Fix w l st A) (hk : Below A.heap.size A B) : Fix w l st B := h.chg (Chg.of_below hk (fun _ => False)) (fun _ h => h.elim)
theorem i1_new (w : World) (l : List Int) (st : Int) (w1 : World) (h : Fix w l st w1) : I1 w l st w1.heap.size 0 ((w1.alloc (.cells (ivs .u64 (List.replicate 8 0)) 39)).alloc (.cells #[.int .i64 0] 3)) := by
  refine ⟨h.more (((Below.refl _ _).alloc (Nat.le_refl _) _).alloc (by simp) _), ?_, ?_⟩
  · rw [hao _ _ _ (by simp), upTo_zero]; exact han _ _ _ rfl
  · exact han _ _ _ (by simp)

theorem i1_step (w : World) (l : List Int) (st : Int) (X k : Nat) (w3 : World) (h : I1 w l st X k w3) (hX : w.heap.size + 1 + 1 < X) (hk : k < 8) :
    I1 w l st X (k + 1) ((w3.setCell ⟨X, k, none⟩ (.int .u64 ((wordV l k : Nat) : Int))).setCell ⟨X + 1, 0, none⟩ (.int .i64 ((k : Int) + 1))) := by
  obtain ⟨h1, h2, h3⟩ := h
  refine ⟨h1.chg (cw := fun b => b = X ∨ b = X + 1) (((Chg.refl _ _).setCell (.inl (.inl rfl)) _).setCell (.inl (.inr rfl)) _) (fun b h => by omega), ?_, ?_⟩
  · rw [heap_setCell_other _ _ _ _ (by show X ≠ X + 1; omega), ← upTo_set _ _ _ hk, ← ivs_set]
    exact heap_setCell_same _ _ _ _ _ _ h2
  · have e := heap_setCell_same (w3.setCell ⟨X, k, none⟩ (.int .u64 ((wordV l k : Nat) : Int))) (X + 1) 0 _ _ (.int .i64 ((k : Int) + 1)) ((heap_setCell_other _ _ _ _ (by show X + 1 ≠ X; omega)).trans h3)
    rw [e, Int.natCast_add]
    rfl
theorem ivs_at8 (g : Nat → Int) {j : Nat} (k : Nat) (hk : k < 8) : (ivs .u64 (upTo g 8 j))[k]? = some (.int .u64 ((upTo g 8 j).getD k 0)) := by
  have : k < (upTo g 8 j).length := by rw [upTo_len]; exact hk
  simp [ivs, this]
/-- a line's byte -/
def byt (l : List Int) (t : Nat) : Int := l.getD t 0
/-- between two rounds of the second loop -/
def I2 (w : World) (l : List Int) (st : Int) (A H D k : Nat) (W : World) : Prop :=
  I1 w l st A 8 W ∧ W.heap[H]? = some (.cells (ivs .u8 (upTo (byt l) 64 (32 * k))) 45 (0, 0)) ∧ W.heap[H + 1]? = some (.cells #[.int .i64 k] 3 (0, 0)) ∧ W.heap[D]? = some (.deferred (some []))
theorem I2.chg {w : World} {l : List Int} {st : Int} {X H D k : Nat} {cw : Nat → Prop} {A B : World} (h : I2 w l st X H D k A) (hX : w.heap.size + 1 + 1 < X) (hXD : X + 1 < D) (hDH : D < H) (hc : Chg cw A B) (h0 : ∀ b, cw b → H + 1 < b) : I2 w l st X H D k B := by
  obtain ⟨h1, h2, h3, h4⟩ := h
  have lt := fun (i : Nat) (o : Obj) (e : A.heap[i]? = some o) => (Array.getElem?_eq_some_iff.1 e).1
  exact ⟨h1.chg hX hc (fun b h => by have := h0 _ h; omega), (hc.block _ (lt _ _ h2) (fun h => by have := h0 _ h; omega)).trans h2, (hc.block _ (lt _ _ h3) (fun h => by have := h0 _ h; omega)).trans h3, (hc.block _ (lt _ _ h4) (fun h => by have := h0 _ h; omega)).trans h4⟩
theorem half_store (l : List Int) (V : World) (H k : Nat) (hk : k < 2) (row : V.heap[H]? = some (.cells (ivs .u8 (upTo (byt l) 64 (32 * k))) 45 (0, 0))) :
    (stRow ⟨H, 32 * k, none⟩ (ivs .u8 (halfV l k)).toList 0).run Try.prog V = .ok () (V.setRow H (ivs .u8 (upTo (byt l) 64 (32 * (k + 1))))) := by
  have hz : (ivs .u8 (halfV l k)).toList.length = 32 := by rw [Array.length_toList, ivs_size, halfV_len]
  have h := run_storeCells_at (P := Try.prog) H (32 * k) 45 (ivs .u8 (halfV l k)).toList 0 (ivs .u8 (upTo (byt l) 64 (32 * k))) V row (by rw [hz, ivs_size, upTo_len]; omega) (fun v hv => by
    have := ivs_one .u8 (halfV l k)
    rw [Array.all_eq_true'] at this
    exact this v (by simpa using hv))
  unfold stRow
  rw [h, ← (show _ = ivs .u8 (upTo (byt l) 64 (32 * (k + 1))) from splice_row l k hk)]
  unfold splice
  rw [List.append_assoc]
  rfl
theorem i2_step (w : World) (l : List Int) (st : Int) (X H D k : Nat) (V : World) (h : I2 w l st X H D k V) (hX : w.heap.size + 1 + 1 < X) (hXD : X + 1 < D) (hDH : D < H) :
    I2 w l st X H D (k + 1) ((V.setRow H (ivs .u8 (upTo (byt l) 64 (32 * (k + 1))))).setCell ⟨H + 1, 0, none⟩ (.int .i64 ((k : Int) + 1))) := by
  obtain ⟨h1, h2, h3, h4⟩ := h
  have e1 := setRow_heap V H _ (ivs .u8 (upTo (byt l) 64 (32 * (k + 1)))) 45 (0, 0) h2
  have hc : Chg (fun b => b = H) V (V.setRow H (ivs .u8 (upTo (byt l) 64 (32 * (k + 1))))) := ⟨rfl, rfl, rfl, by simp [World.setRow], fun i _ hi => setRow_other _ _ _ _ hi⟩
  have hc2 := hc.next (cw' := fun b => b = H ∨ b = H + 1) ((Chg.refl _ _).setCell (p := ⟨H + 1, 0, none⟩) (.inl (.inr rfl)) (.int .i64 ((k : Int) + 1)))
  refine ⟨h1.chg (cw := fun b => b = H ∨ b = H + 1) hX ((hc.mono (fun i _ h => .inl h)).setCell (p := ⟨H + 1, 0, none⟩) (.inl (.inr rfl)) _) (fun b h => by omega), ?_, ?_, ?_⟩
  · exact (heap_setCell_other _ _ _ _ (by show H ≠ H + 1; omega)).trans e1
  · have e := heap_setCell_same (V.setRow H (ivs .u8 (upTo (byt l) 64 (32 * (k + 1))))) (H + 1) 0 _ _ (.int .i64 ((k : Int) + 1)) ((setRow_other _ _ _ _ (by omega)).trans h3)
    rw [e, Int.natCast_add]
    rfl
  · exact (heap_setCell_other _ _ _ _ (by show D ≠ H + 1; omega)).trans ((setRow_other _ _ _ _ (by omega)).trans h4)
theorem ld32 (l : List Int) (k c : Nat) (V : World) (h : V.heap[c]? = some (.cells (ivs .u8 (halfV l k)) 44 (0, 0))) : (ldRow ⟨c, 0, none⟩ 0 32 #[]).run Try.prog V = .ok (ivs .u8 (halfV l k)) V :=
  run_loadFrom_row V _ _ 44 (0, 0) h 32 (by rw [ivs_size, halfV_len])

def J3 (w : World) (l : List Int) (st : Int) (A H D D2 SE : Nat) (sn : Int) (W : World) : Prop :=
  I2 w l st A H D 2 W ∧ W.heap[SE]? = some (.cells #[.int .i64 sn] 3 (0, 0)) ∧ W.heap[D2]? = some (.deferred (some []))
theorem J3.chg {w : World} {l : List Int} {st sn : Int} {X H D D2 SE : Nat} {cw : Nat → Prop} {A B : World} (h : J3 w l st X H D D2 SE sn A) (hX : w.heap.size + 1 + 1 < X) (hXD : X + 1 < D) (hDH : D < H) (hH : H + 1 < D2) (hSE : D2 < SE) (hc : Chg cw A B) (h0 : ∀ b, cw b → SE < b) : J3 w l st X H D D2 SE sn B := by
  obtain ⟨h1, h2, h3⟩ := h
  have lt := fun (i : Nat) (o : Obj) (e : A.heap[i]? = some o) => (Array.getElem?_eq_some_iff.1 e).1
  exact ⟨h1.chg hX hXD hDH hc (fun b h => by have := h0 _ h; omega), (hc.block _ (lt _ _ h2) (fun h => by have := h0 _ h; omega)).trans h2, (hc.block _ (lt _ _ h3) (fun h => by have := h0 _ h; omega)).trans h3⟩
theorem j3_step (w : World) (l : List Int) (st : Int) (X H D D2 SE k : Nat) (U : World) (h : J3 w l st X H D D2 SE k U) (hX : w.heap.size + 1 + 1 < X) (hXD : X + 1 < D) (hDH : D < H) (hH : H + 1 < D2) (hSE : D2 < SE) :
    J3 w l st X H D D2 SE ((k + 1 : Nat) : Int) (U.setCell ⟨SE, 0, none⟩ (.int .i64 ((k : Int) + 1))) := by
  obtain ⟨h1, h2, h3⟩ := h
  refine ⟨h1.chg (cw := fun b => b = SE) hX hXD hDH (Chg.setCell (cw := fun b => b = SE) (Chg.refl _ _) (p := ⟨SE, 0, none⟩) (.inl rfl) _) (fun b h => by omega), ?_, (heap_setCell_other _ _ _ _ (by show D2 ≠ SE; omega)).trans h3⟩
  have e := heap_setCell_same U SE 0 _ _ (.int .i64 ((k : Int) + 1)) h2
  rw [e, Int.natCast_add]
  rfl
theorem chg_row (V : World) (H : Nat) (cs : Array Value) : Chg (fun b => b = H ∨ b = H + 1) V (V.setRow H cs) := ⟨rfl, rfl, rfl, by simp [World.setRow], fun i _ hi => setRow_other _ _ _ _ (fun e => hi (.inl e))⟩
theorem fromw_is (l : List Int) (hl : l.length = 64) (hb : Bts 64 l) (w : World) : Calls Try.prog 18 #[.agg (ivs .u64 (upTo (fun k => ((wordV l k : Nat) : Int)) 8 8))] w fun e w' => e = .returned (.agg (ivs .u8 l)) ∧ Below w.heap.size w w' := by
  have h := fromw_any (upTo (fun k => ((wordV l k : Nat) : Int)) 8 8) (upTo_len _ _ _) (fun k hk => by rw [upTo_get _ _ _ _ hk, if_pos hk]; exact ⟨_, rfl, wordV_lt hb hk⟩) w
  rw [upTo_all] at h ⊢
  refine h.mono ?_
  rintro e w' ⟨h1, h2⟩
  rw [ofW_words l hl hb] at h1
  exact ⟨h1, h2⟩
theorem fromh_is (l : List Int) (hl : l.length = 64) (w : World) : Calls Try.prog 19 #[.agg (ivs .u8 l)] w fun e w' => e = .returned (.agg (ivs .u8 l)) ∧ Below w.heap.size w w' := fromh_any l hl w
theorem fin_facts (w : World) (l : List Int) (hl : l.length = 64) (hb : Bts 64 l) (st : Int) (X H D D2 SE : Nat) (sn : Int) (U : World) (h : J3 w l st X H D D2 SE sn U) :
    Hid (∀ W', Calls Try.prog 18 #[.agg (ivs .u64 (upTo (fun k => ((wordV l k : Nat) : Int)) 8 8))] W' fun e w' => e = .returned (.agg (ivs .u8 l)) ∧ Below W'.heap.size W' w') ∧
    (∀ w', Keeps U w' → (ldRow ⟨w.heap.size, 0, none⟩ 0 64 #[]).run Try.prog w' = .ok (ivs .u8 l) w') ∧
    (∀ w', Keeps U w' → (ldRow ⟨X, 0, none⟩ 0 8 #[]).run Try.prog w' = .ok (ivs .u64 (upTo (fun k => ((wordV l k : Nat) : Int)) 8 8)) w') ∧
    (∀ w', Keeps U w' → (ldRow ⟨H, 0, none⟩ 0 64 #[]).run Try.prog w' = .ok (ivs .u8 l) w') ∧
    U.cell? ⟨X + 1, 0, none⟩ = some (.int .i64 8) ∧ U.cell? ⟨H + 1, 0, none⟩ = some (.int .i64 2) ∧ U.cell? ⟨SE, 0, none⟩ = some (.int .i64 sn) ∧ U.cell? ⟨w.heap.size + 1, 0, none⟩ = some (.int .i64 st) ∧
    X + 1 < U.heap.size ∧ H + 1 < U.heap.size ∧ SE < U.heap.size ∧ w.heap.size + 1 < U.heap.size ∧ U.heap[w.heap.size + 1 + 1]? = some (.cells #[.bool false] 4 (0, 0)) := by
  obtain ⟨⟨⟨⟨f1, f2, f3, f4⟩, h2, h3⟩, h4, h5, h6⟩, h7, h8⟩ := h
  have e : upTo (byt l) 64 (32 * 2) = l := by
    refine ext64 (upTo_len _ _ _) hl fun j hj => ?_
    rw [upTo_get _ _ _ _ hj, if_pos (by omega)]
    rfl
  rw [e] at h4
  have lt := fun (i : Nat) (o : Obj) (e : U.heap[i]? = some o) => (Array.getElem?_eq_some_iff.1 e).1
  refine ⟨fromw_is l hl hb, fun w' k => run_loadFrom_row w' _ _ 23 (0, 0) (old_at k f1) 64 (by rw [ivs_size, hl]), fun w' k => run_loadFrom_row w' _ _ 39 (0, 0) (old_at k h2) 8 (by rw [ivs_size, upTo_len]), fun w' k => run_loadFrom_row w' _ _ 45 (0, 0) (old_at k h4) 64 (by rw [ivs_size, hl]), ?_, ?_, ?_, ?_, lt _ _ h3, lt _ _ h5, lt _ _ h7, lt _ _ f2, f3⟩
  · rw [cell_of_row U _ 0 _ 3 (0, 0) h3]; rfl
  · rw [cell_of_row U _ 0 _ 3 (0, 0) h5]; rfl
  · rw [cell_of_row U _ 0 _ 3 (0, 0) h7]; rfl
  · rw [cell_of_row U _ 0 _ 3 (0, 0) f2]; rfl
theorem finish6 (T : Array Value) (w w9 : World) (R D D2 D3 : Nat) (hT : T.getD 4 undef = .pointer (some ⟨R, 0, none⟩)) (g9 : w9.heap[R]? = some (.cells #[.bool false] 4 (0, 0))) (k1 : w9.heap[D]? = some (.deferred (some []))) (k2 : w9.heap[D2]? = some (.deferred (some []))) (k3 : w9.heap[D3]? = some (.deferred (some [])))
    (n1 : R < D) (n2 : D < D2) (n3 : D2 < D3) (hw : w.heap.size ≤ R) (hB : Below w.heap.size w w9) :
    bodyPostM Fence.wide 9 Try.prog Try.f6 (fun e w' => e = .returned (.bool true) ∧ Below w.heap.size w w') .ret { tmps := T, defers := [{ target := .collected D3, args := #[] }, { target := .collected D2, args := #[] }, { target := .collected D, args := #[] }] } (w9.setCell ⟨R, 0, none⟩ (.bool true)) := by
  have e0 := heap_setCell_same w9 R 0 _ _ (.bool true) g9
  have j1 : (w9.setCell ⟨R, 0, none⟩ (.bool true)).heap[D]? = some (.deferred (some [])) := (heap_setCell_other _ _ _ _ (by show D ≠ R; omega)).trans k1
  have j2 : (w9.setCell ⟨R, 0, none⟩ (.bool true)).heap[D2]? = some (.deferred (some [])) := (heap_setCell_other _ _ _ _ (by show D2 ≠ R; omega)).trans k2
  have j3 : (w9.setCell ⟨R, 0, none⟩ (.bool true)).heap[D3]? = some (.deferred (some [])) := (heap_setCell_other _ _ _ _ (by show D3 ≠ R; omega)).trans k3
  have hB2 : Below w.heap.size w (w9.setCell ⟨R, 0, none⟩ (.bool true)) := hB.setCell hw _
  generalize w9.setCell ⟨R, 0, none⟩ (.bool true) = w10 at *
  refine ⟨by simp, .inl ⟨_, _, rfl, run_takeDeferred j3, ?_⟩⟩
  refine ⟨by simp, .inl ⟨_, _, rfl, run_takeDeferred ((World.putObj_heap_other (by omega)).trans j2), ?_⟩⟩
  refine ⟨by simp, .inl ⟨_, _, rfl, run_takeDeferred ((World.putObj_heap_other (by omega)).trans ((World.putObj_heap_other (by omega)).trans j1)), ?_⟩⟩
  have e3 : (((w10.putObj D3 (.deferred none)).putObj D2 (.deferred none)).putObj D (.deferred none)).heap[R]? = some (.cells #[.bool true] 4 (0, 0)) :=
    (World.putObj_heap_other (by omega)).trans ((World.putObj_heap_other (by omega)).trans ((World.putObj_heap_other (by omega)).trans e0))
  have c3 := cell_of_row _ R 0 _ 4 (0, 0) e3
  simp only [List.getElem?_toArray, List.getElem?_cons_zero] at c3
  have hB3 : Below w.heap.size w (((w10.putObj D3 (.deferred none)).putObj D2 (.deferred none)).putObj D (.deferred none)) :=
    hB2.trans ⟨rfl, rfl, rfl, by simp, fun k hk => (World.putObj_heap_other (by omega)).trans ((World.putObj_heap_other (by omega)).trans (World.putObj_heap_other (by omega)))⟩
  generalize ((w10.putObj D3 (.deferred none)).putObj D2 (.deferred none)).putObj D (.deferred none) = w13 at *
  have hT' : T[4]?.getD undef = .pointer (some ⟨R, 0, none⟩) := by simpa using hT
  refine ⟨.bool true, ?_, rfl, hB3⟩
  simp [results, Try.results6, go_sem, hT', c3]
theorem half_at (H j : Nat) (hj : j < 64) (W : World) : (Instr.indexAt 45 (.pointer (some ⟨H, 0, none⟩)) (.int .i64 ((j : Int) / 32))).run Try.prog W = .ok (.pointer (some ⟨H, j / 32 * 32, none⟩)) W := by
  obtain ⟨i0, hi, hi1⟩ := info44
  have h0 : 0 ≤ (j : Int) / 32 ∧ (j : Int) / 32 < 2 := by omega
  have e1 : ((j : Int) / 32).toNat = j / 32 := by omega
  rcases (show j / 32 = 0 ∨ j / 32 = 1 by omega) with h | h
  · simp [Instr.indexAt, asIntOf, run_underlying Try.underlying45, Instr.sureAddr, sizeOf, typeInfo, hi, hi1, h0, e1, h, Addr.add]
  · simp [Instr.indexAt, asIntOf, run_underlying Try.underlying45, Instr.sureAddr, sizeOf, typeInfo, hi, hi1, h0, e1, h, Addr.add]
theorem half_in (H j : Nat) (hj : j < 64) (W : World) : (Instr.indexAt 44 (.pointer (some ⟨H, j / 32 * 32, none⟩)) (.int .i64 ((j : Int) % 32))).run Try.prog W = .ok (.pointer (some ⟨H, j, none⟩)) W := by
  obtain ⟨i0, hi, hz0, hz1, hz2⟩ := info_parts info5
  have h0 : 0 ≤ (j : Int) % 32 ∧ (j : Int) % 32 < 32 := by omega
  have e1 : ((j : Int) % 32).toNat = j % 32 := by omega
  have e2 : (⟨H, j / 32 * 32, none⟩ : Addr).add (j % 32) = ⟨H, j, none⟩ := by
    unfold Addr.add
    split
    · have : j / 32 * 32 = j := by omega
      rw [this]
    · have : j / 32 * 32 + j % 32 = j := by omega
      show (⟨H, j / 32 * 32 + j % 32, none⟩ : Addr) = _
      rw [this]
  simp [Instr.indexAt, asIntOf, run_underlying Try.underlying44, Instr.sureAddr, sizeOf, typeInfo, hi, hz1, h0, e1, e2]

set_option maxRecDepth 100000 in
set_option maxHeartbeats 4000000 in
theorem walk (l : List Int) (ll : l.length = 64) (hl : Bts 64 l) (st : Int) (w : World) :
    Calls Try.prog 6 #[.agg (ivs .u8 l), .int .i64 st] w fun e w' => e = .returned (.bool true) ∧ Below w.heap.size w w' := by
  have LL := Lib.hid ll
  have HL := Lib.hid hl
  have hz : (ivs .u8 l).size = 64 := by rw [ivs_size, ll]
  clear ll hl
  refine (callsIn_wide (n := 9)).1 ?_
  refine callsIn_of_wp_marks Try.func6 rfl trivial ?_
  simp only [Try.ntmps6, List.size_toArray, List.length_cons, List.length_nil, Nat.reduceAdd, Nat.reduceSub, Array.replicate_succ, Array.replicate_zero, List.push_toArray, List.append_toArray, List.nil_append, List.cons_append]
  gi_wp2_with (refine ⟨trivial, ?_⟩; gi_at_call 7; refine ((callsIn_wide (n := 8)).2 (anchor_any _)).mono ?_; rintro e w1 ⟨rfl, hb1⟩; have HF1 := Lib.hid (fix_new w l st w1 hb1); have hl2 := fix_load w l st _ hz (i1_new w l st w1 HF1.out).1; clear hb1; rw [← zeros8] at hl2)
  refine ⟨trivial, ?_⟩
  rw [zeros8]
  refine ((callsIn_wide (n := 8)).2 (words_any l _)).mono ?_
  rintro e w2 ⟨rfl, rfl⟩
  clear hl2
  obtain ⟨w0, hw0⟩ : ∃ w0, w0 = (((w1.alloc (.cells (ivs .u64 (List.replicate 8 0)) 39)).alloc (.cells #[.int .i64 0] 3)).alloc (.cells (ivs .u8 l) 23)) := ⟨_, rfl⟩
  have hs0 : w0.heap.size = w1.heap.size + 1 + 1 + 1 := by rw [hw0]; simp
  have hA0 : w.heap.size + 1 + 1 < w1.heap.size := (Array.getElem?_eq_some_iff.1 HF1.out.2.2.1).1
  have hI0 : I1 w l st w1.heap.size 0 w0 := by
    rw [hw0]
    exact (i1_new w l st w1 HF1.out).chg (cw := fun _ => False) hA0 ((Chg.refl _ _).alloc _) (fun _ h => h.elim)
  have hsq : w0.heap[w1.heap.size + 1 + 1]? = some (.cells (ivs .u8 l) 23 (0, 0)) := by rw [hw0]; exact han _ _ _ (by simp)
  rw [← hw0]
  clear hw0
  gi_wp2
  refine wpIn_rangeFunc_it 9 9 (gf := 25) (lb := #[.pointer (some ⟨w1.heap.size + 1 + 1, 0, none⟩)]) rfl (enters_of Try.func25 (by kernel_rfl) rfl) (wordsV l) (fun b => b = w1.heap.size + 1 + 1) (fun b e => by rw [e, hs0]; omega)
    (fun W1 hW1 => words_call l LL.out HL.out _ W1 (by have := hW1.size; omega) ((hW1.block _ (by rw [hs0]; omega)).trans hsq))
    (fun k v hv => by obtain ⟨_, rfl⟩ := wordsV_get l k v hv; rfl)
    (fun b => b = w1.heap.size ∨ b = w1.heap.size + 1) (fun b e => by rw [hs0]; omega)
    (fun k W => I1 w l st w1.heap.size k W) (fun _ _ => False)
    (fun k a₁ _ => k < 8 ∧ a₁ = { tmps := #[.agg (ivs .u8 l), .int .i64 st, .pointer (some ⟨w.heap.size, 0, none⟩), .pointer (some ⟨w.heap.size + 1, 0, none⟩), .pointer (some ⟨w.heap.size + 1 + 1, 0, none⟩), .pointer (some ⟨w1.heap.size, 0, none⟩), .pointer (some ⟨w1.heap.size + 1, 0, none⟩), .int .i64 (k : Nat), .int .u64 ((wordV l k : Nat) : Int), undef, undef, undef, undef, undef, undef, .bool true, .bool false, .agg (ivs .u8 l), .func (.func 25) #[] #[.pointer (some ⟨w1.heap.size + 1 + 1, 0, none⟩)], .int .i64 (k : Nat), .int .u64 ((wordV l k : Nat) : Int), undef, undef, undef, undef, undef, undef, undef, undef, undef, undef, undef, undef, undef, undef, undef, undef, undef, undef, undef, undef, undef, undef, undef, undef, undef, undef, undef, undef, undef, undef, undef, undef, undef, undef, undef, undef, undef, undef, undef, undef, undef, undef, undef, undef, undef, undef, undef, undef, undef, undef, undef, undef, undef, undef, undef, undef, undef, undef, undef, undef, undef, undef, undef, undef, undef, undef, undef, undef, undef, undef, undef, undef, undef, undef, undef, undef, undef, undef], defers := [] })
    (fun k A B h hc => h.chg hA0 hc (fun b h => by omega)) (fun _ _ _ h _ => h) (fun _ _ _ _ h _ => h) hI0 ?assign ?body ?done (fun _ _ _ _ h _ => h.elim)
  case assign =>
    intro lp k v W hv hlp hW hi
    obtain ⟨hk8, rfl⟩ := wordsV_get l k v hv
    gi_wp2
    exact ⟨Chg.refl _ _, hi, hk8, trivial⟩
  case body =>
    rintro lp k v a₁ W hv hlp hW hr ⟨r0, r2, r3⟩ ⟨hk8, rfl⟩
    clear hv hr
    have hkI : (k : Int) < 8 := by omega
    have L := fix_load w l st W hz r0
    have m1 := cell_of_row W (w1.heap.size + 1) 0 _ 3 (0, 0) r3
    simp at m1
    have HI := Lib.hid (And.intro r0 (And.intro r2 r3))
    have HK8 := Lib.hid hk8
    clear r0 r2 r3
    gi_wp2_with (refine ⟨trivial, ?_⟩; gi_at_call 16; refine ((callsIn_wide (n := 8)).2 (rword_any l LL.out HL.out k HK8.out _)).mono ?_; rintro e w3 ⟨rfl, hb3⟩; have H3 := (show I1 w l st w1.heap.size k W from HI.out).chg hA0 (Chg.of_below hb3 (fun _ => False)) (fun _ h => h.elim); have n1 := cell_of_row w3 w1.heap.size k _ 39 (0, 0) H3.2.1; have n2 := frozen_of_row w3 w1.heap.size k _ 39 H3.2.1; have n3 := cell_of_row w3 (w1.heap.size + 1) 0 _ 3 (0, 0) H3.2.2; have n4 := frozen_of_row w3 (w1.heap.size + 1) 0 _ 3 H3.2.2; rw [ivs_at8 _ k HK8.out] at n1; simp at n3; have HH3 := Lib.hid (And.intro H3 hb3); clear H3 hb3)
    obtain ⟨H3, hb3⟩ := HH3.out
    exact ⟨(((Chg.of_below hb3 _).setCell (.inl (.inl rfl)) _).setCell (.inl (.inr rfl)) _), i1_step w l st w1.heap.size k w3 H3 hA0 HK8.out⟩
  case done =>
    rintro D W hD hI hK
    have hI : I1 w l st w1.heap.size 8 W := by have := hI; rwa [wordsV_len] at this
    have hl3 := fix_load w l st _ hz (hI.1.more (((Below.refl _ _).alloc (Nat.le_refl _) (.cells (ivs .u8 (List.replicate 64 0)) 45)).alloc (by simp) (.cells #[.int .i64 0] 3)))
    rw [← zeros64] at hl3
    have HI := Lib.hid (And.intro hI (And.intro hD hK))
    clear hI hD hK
    gi_wp2_with fail
    refine ⟨trivial, ?_⟩
    rw [zeros64]
    refine ((callsIn_wide (n := 8)).2 (halves_any l _)).mono ?_
    rintro e w4 ⟨rfl, rfl⟩
    clear hl3
    obtain ⟨hI, hD, hK⟩ := HI.out
    have hDH : D < W.heap.size := (Array.getElem?_eq_some_iff.1 hK).1
    have hXD : w1.heap.size + 1 < D := by omega
    clear hI0 hsq
    obtain ⟨w5, hw5⟩ : ∃ w5, w5 = (((W.alloc (.cells (ivs .u8 (List.replicate 64 0)) 45)).alloc (.cells #[.int .i64 0] 3)).alloc (.cells (ivs .u8 l) 23)) := ⟨_, rfl⟩
    have hs5 : w5.heap.size = W.heap.size + 1 + 1 + 1 := by rw [hw5]; simp
    have hI5 : I2 w l st w1.heap.size W.heap.size D 0 w5 := by
      rw [hw5]
      refine ⟨hI.chg (cw := fun _ => False) hA0 ((((Chg.refl _ _).alloc _).alloc _).alloc _) (fun _ h => h.elim), ?_, ?_, ?_⟩
      · rw [hao _ _ _ (by simp; omega), hao _ _ _ (by simp), Nat.mul_zero, upTo_zero]; exact han _ _ _ rfl
      · rw [hao _ _ _ (by simp)]; exact han _ _ _ (by simp)
      · rw [hao _ _ _ (by simp; omega), hao _ _ _ (by simp; omega), hao _ _ _ hDH]; exact hK
    have hsq : w5.heap[W.heap.size + 1 + 1]? = some (.cells (ivs .u8 l) 23 (0, 0)) := by rw [hw5]; exact han _ _ _ (by simp)
    rw [← hw5]
    clear hw5 HI
    have HI5 := Lib.hid hI5
    have HSQ := Lib.hid hsq
    clear hI5 hI hK hsq
    gi_wp2
    have hsq := HSQ.out
    have hI5 := HI5.out
    refine wpIn_rangeFunc_it2 9 9 (gf := 27) (lb := #[.pointer (some ⟨W.heap.size + 1 + 1, 0, none⟩)]) rfl (enters_of Try.func27 (by kernel_rfl) rfl) (halvesV l) (fun b => b = W.heap.size + 1 + 1) (fun b e => by rw [e, hs5]; omega)
      (fun W1 hW1 => halves_call l LL.out _ W1 (by have := hW1.size; omega) ((hW1.block _ (by rw [hs5]; omega)).trans hsq))
      (fun k v hv => by obtain ⟨_, rfl⟩ := halvesV_get l k v hv; rfl)
      (fun b => b = W.heap.size ∨ b = W.heap.size + 1) (fun b e => by rw [hs5]; omega)
      (fun k V => I2 w l st w1.heap.size W.heap.size D k V) (fun _ _ => False)
      (fun lp k a₁ V => k < 2 ∧ ∃ c, lp < c ∧ V.heap[c]? = some (.cells (ivs .u8 (halfV l k)) 44 (0, 0)) ∧ a₁ = { tmps := #[.agg (ivs .u8 l), .int .i64 st, .pointer (some ⟨w.heap.size, 0, none⟩), .pointer (some ⟨w.heap.size + 1, 0, none⟩), .pointer (some ⟨w.heap.size + 1 + 1, 0, none⟩), .pointer (some ⟨w1.heap.size, 0, none⟩), .pointer (some ⟨w1.heap.size + 1, 0, none⟩), undef, undef, .pointer (some ⟨W.heap.size, 0, none⟩), .pointer (some ⟨W.heap.size + 1, 0, none⟩), .int .i64 (k : Nat), .pointer (some ⟨c, 0, none⟩), undef, undef, .bool true, .bool false, .agg (ivs .u8 l), .func (.func 25) #[] #[.pointer (some ⟨w1.heap.size + 1 + 1, 0, none⟩)], undef, undef, undef, undef, undef, undef, undef, undef, undef, undef, undef, undef, undef, undef, undef, undef, undef, .agg (ivs .u8 l), .func (.func 27) #[] #[.pointer (some ⟨W.heap.size + 1 + 1, 0, none⟩)], .int .i64 (k : Nat), .agg (ivs .u8 (halfV l k)), undef, undef, undef, undef, undef, undef, undef, undef, undef, undef, undef, undef, undef, undef, undef, undef, undef, undef, undef, undef, undef, undef, undef, undef, undef, undef, undef, undef, undef, undef, undef, undef, undef, undef, undef, undef, undef, undef, undef, undef, undef, undef, undef, undef, undef, undef, undef, undef, undef, undef, undef, undef, undef, undef, undef, undef, undef, undef, undef], defers := [] })
      (fun k A B h hc => h.chg hA0 hXD hDH hc (fun b h => by omega)) (fun _ _ _ h _ => h) (fun lp k a₁ A B h hc => ?keep) hI5 ?assign ?body ?done (fun _ _ _ _ h _ => h.elim)
    case keep =>
      obtain ⟨h1, c, h2, h3, h4⟩ := h
      exact ⟨h1, c, h2, (hc.block _ (Array.getElem?_eq_some_iff.1 h3).1 (by omega)).trans h3, h4⟩
    case assign =>
      intro lp k v V hv hlp hV hi
      obtain ⟨hk2, rfl⟩ := halvesV_get l k v hv
      have hz2 : (ivs .u8 (halfV l k)).size = 32 := by rw [ivs_size, halfV_len]
      have hS := store_new32 (halfV l k) hz2 V
      rw [← zeros32] at hS
      gi_wp2
      exact ⟨(Chg.refl _ _).alloc _, hi.chg (cw := fun _ => False) hA0 hXD hDH ((Chg.refl _ _).alloc _) (fun _ h => h.elim), hk2, V.heap.size, hV, han _ _ _ rfl, rfl⟩
    case body =>
      rintro lp k v a₁ V hv hlp hV hr hi ⟨hk2, c, hc, hrow, rfl⟩
      clear hv hr
      have hS := half_store l V W.heap.size k hk2 hi.2.1
      have L := ld32 l k c V hrow
      have m1 := cell_of_row V (W.heap.size + 1) 0 _ 3 (0, 0) hi.2.2.1
      simp at m1
      obtain ⟨V2, hV2⟩ : ∃ V2, V2 = V.setRow W.heap.size (ivs .u8 (upTo (byt l) 64 (32 * (k + 1)))) := ⟨_, rfl⟩
      have g2 : V2.heap[W.heap.size + 1]? = some (.cells #[.int .i64 k] 3 (0, 0)) := by rw [hV2]; exact (setRow_other _ _ _ _ (by omega)).trans hi.2.2.1
      have m3 := cell_of_row V2 (W.heap.size + 1) 0 _ 3 (0, 0) g2
      have m4 := frozen_of_row V2 (W.heap.size + 1) 0 _ 3 g2
      simp at m3
      rw [← hV2] at hS
      have hz2 : (ivs .u8 (halfV l k)).size = 32 := by rw [ivs_size, halfV_len]
      have HI := Lib.hid (And.intro hi hV2)
      clear hi hV2 g2 hrow
      rcases (show k = 0 ∨ k = 1 by omega) with rfl | rfl
      all_goals
        gi_wp2
        obtain ⟨hi, hV2⟩ := HI.out
        subst hV2
        exact ⟨(chg_row V W.heap.size _).setCell (p := ⟨W.heap.size + 1, 0, none⟩) (.inl (.inr rfl)) _, i2_step w l st w1.heap.size W.heap.size D _ V hi hA0 hXD hDH⟩
    case done =>
      rintro D2 V hD2 hJ hK2
      have hJ : I2 w l st w1.heap.size W.heap.size D 2 V := by have := hJ; rwa [halvesV_len] at this
      have hHD : W.heap.size + 1 + 1 < D2 := by omega
      have HJ := Lib.hid (And.intro hJ hK2)
      clear hJ hK2 HI5 HSQ hI5 hsq
      gi_wp2
      gi_loopw [48] (fun i wr => ∃ j : Nat, j ≤ 64 ∧ i = .int .i64 j ∧ Keeps V wr) (fun i _ => 64 - (intOf i).toNat)
      case atStart => exact ⟨0, by omega, rfl, Below.refl _ _⟩
      case round =>
        obtain ⟨j, hj, rfl, hw8⟩ := hrel
        by_cases hlt : j < 64
        · have hx1 := half_at W.heap.size j hlt
          have hx2 := half_in W.heap.size j hlt
          have m5 := ivs_cell wr _ j _ 45 (old_at hw8 HJ.out.1.2.1) (by rw [upTo_len]; exact hlt)
          have m6 := ivs_cell wr _ j _ 23 (old_at hw8 HJ.out.1.1.1.1) (by rw [LL.out]; exact hlt)
          rw [upTo_get _ _ _ _ hlt, if_pos (by omega)] at m5
          unfold byt at m5
          generalize l.getD j 0 = v at *
          have hjI : (j : Int) < 64 := by omega
          have hlt0 := hlt
          have H8 := Lib.hid hw8
          clear hw8
          gi_wp2
          refine wpIn_wide.2 ?_
          go_quiet (fail)
          gi_wp2
          go_roundw
          case rel => exact ⟨j + 1, by omega, by go_num, H8.out.trans ⟨rfl, rfl, rfl, Nat.le_refl _, fun _ _ => rfl⟩⟩
          case measure => simp [intOf]; omega
        · have : j = 64 := by omega
          subst this
          have hJ3 : I2 w l st w1.heap.size W.heap.size D 2 wr := HJ.out.1.chg hA0 hXD hDH (Chg.of_below hw8 (fun _ => False)) (fun _ h => h.elim)
          have hK3 : wr.heap[D2]? = some (.deferred (some [])) := old_at hw8 HJ.out.2
          have hl4 := fix_load w l st _ hz (hJ3.1.1.more ((Below.refl _ _).alloc (Nat.le_refl _) (.cells #[.int .i64 0] 3)))
          have HJ3 := Lib.hid (And.intro hJ3 hK3)
          clear hw8 hJ3 hK3 HJ hlt
          gi_wp2_with fail
          refine ⟨trivial, ?_⟩
          refine ((callsIn_wide (n := 8)).2 (words_any l _)).mono ?_
          rintro e w6 ⟨rfl, rfl⟩
          clear hl4
          obtain ⟨hJ3, hK3⟩ := HJ3.out
          have hHW : W.heap.size + 1 < wr.heap.size := (Array.getElem?_eq_some_iff.1 hJ3.2.2.1).1
          have hD2W : D2 < wr.heap.size := (Array.getElem?_eq_some_iff.1 hK3).1
          obtain ⟨w7, hw7⟩ : ∃ w7, w7 = (wr.alloc (.cells #[.int .i64 0] 3)).alloc (.cells (ivs .u8 l) 23) := ⟨_, rfl⟩
          have hs7 : w7.heap.size = wr.heap.size + 1 + 1 := by rw [hw7]; simp
          have hI7 : J3 w l st w1.heap.size W.heap.size D D2 wr.heap.size 0 w7 := by
            rw [hw7]
            refine ⟨hJ3.chg (cw := fun _ => False) hA0 hXD hDH (((Chg.refl _ _).alloc _).alloc _) (fun _ h => h.elim), ?_, ?_⟩
            · rw [hao _ _ _ (by simp)]; exact han _ _ _ rfl
            · rw [hao _ _ _ (by simp; omega), hao _ _ _ hD2W]; exact hK3
          have hsq7 : w7.heap[wr.heap.size + 1]? = some (.cells (ivs .u8 l) 23 (0, 0)) := by rw [hw7]; exact han _ _ _ (by simp)
          rw [← hw7]
          clear hw7 HJ3 hJ3
          have HI7 := Lib.hid (And.intro hI7 (And.intro hsq7 hK3))
          clear hI7 hsq7 hK3
          gi_wp2
          obtain ⟨hI7, hsq7, hK3⟩ := HI7.out
          refine wpIn_rangeFunc_it 9 9 (gf := 25) (lb := #[.pointer (some ⟨wr.heap.size + 1, 0, none⟩)]) rfl (enters_of Try.func25 (by kernel_rfl) rfl) (wordsV l) (fun b => b = wr.heap.size + 1) (fun b e => by rw [e, hs7]; omega)
            (fun W1 hW1 => words_call l LL.out HL.out _ W1 (by have := hW1.size; omega) ((hW1.block _ (by rw [hs7]; omega)).trans hsq7))
            (fun k v hv => by obtain ⟨_, rfl⟩ := wordsV_get l k v hv; rfl)
            (fun b => b = wr.heap.size) (fun b e => by rw [hs7]; omega)
            (fun k U => J3 w l st w1.heap.size W.heap.size D D2 wr.heap.size k U ∧ ∀ j : Nat, 1 ≤ j → j ≤ k → ((j : Nat) : Int) ≠ st)
            (fun c U => c = .exit 6 ∧ ∃ k : Nat, 1 ≤ k ∧ k ≤ 8 ∧ ((k : Nat) : Int) = st ∧ J3 w l st w1.heap.size W.heap.size D D2 wr.heap.size k U)
            (fun k a₁ _ => k < 8 ∧ a₁ = { tmps := #[.agg (ivs .u8 l), .int .i64 st, .pointer (some ⟨w.heap.size, 0, none⟩), .pointer (some ⟨w.heap.size + 1, 0, none⟩), .pointer (some ⟨w.heap.size + 1 + 1, 0, none⟩), .pointer (some ⟨w1.heap.size, 0, none⟩), .pointer (some ⟨w1.heap.size + 1, 0, none⟩), undef, undef, .pointer (some ⟨W.heap.size, 0, none⟩), .pointer (some ⟨W.heap.size + 1, 0, none⟩), undef, undef, u13, .pointer (some ⟨wr.heap.size, 0, none⟩), .bool true, .bool false, .agg (ivs .u8 l), .func (.func 25) #[] #[.pointer (some ⟨w1.heap.size + 1 + 1, 0, none⟩)], undef, undef, undef, undef, undef, undef, undef, undef, undef, undef, undef, undef, undef, undef, undef, undef, undef, .agg (ivs .u8 l), .func (.func 27) #[] #[.pointer (some ⟨W.heap.size + 1 + 1, 0, none⟩)], undef, undef, undef, undef, undef, undef, undef, undef, undef, undef, .int .i64 64, .bool false, u50, u51, u52, u53, u54, u55, u56, u57, u58, u59, u60, u61, u62, .agg (ivs .u8 l), .func (.func 25) #[] #[.pointer (some ⟨wr.heap.size + 1, 0, none⟩)], .int .i64 (k : Nat), .int .u64 ((wordV l k : Nat) : Int), undef, undef, undef, undef, undef, undef, undef, undef, undef, undef, undef, undef, undef, undef, undef, undef, undef, undef, undef, undef, undef, undef, undef, undef, undef, undef, undef, undef, undef, undef, undef, undef], defers := [] })
            (fun k A B h hc => ⟨h.1.chg hA0 hXD hDH (by omega) (by omega) hc (fun b h => by omega), h.2⟩)
            (fun c A B h hc => ?keepx) (fun _ _ _ _ h _ => h) ⟨hI7, fun j h1 h2 => by omega⟩ ?assign ?body ?done ?stop
          case keepx =>
            obtain ⟨h1, k, h2, h3, h4, h5⟩ := h
            exact ⟨h1, k, h2, h3, h4, h5.chg hA0 hXD hDH (by omega) (by omega) hc (fun b h => by omega)⟩
          case assign =>
            intro lp k v U hv hlp hU hi
            obtain ⟨hk8, rfl⟩ := wordsV_get l k v hv
            gi_wp2
            refine ⟨Chg.refl _ _, hi, hk8, ?_⟩
            go_simp
          case body =>
            rintro lp k v a₁ U hv hlp hU hr ⟨hi, hne⟩ ⟨hk8, rfl⟩
            clear hv hr
            have m1 := cell_of_row U wr.heap.size 0 _ 3 (0, 0) hi.2.1
            have m2 := frozen_of_row U wr.heap.size 0 _ 3 hi.2.1
            have m3 := cell_of_row U (w.heap.size + 1) 0 _ 3 (0, 0) hi.1.1.1.2.1
            simp at m1 m3
            have q1 : ¬ (w.heap.size + 1 = wr.heap.size) := by omega
            have q2 : ¬ (wr.heap.size = w.heap.size + 1) := by omega
            have hkI : (k : Int) < 8 := by omega
            have HII := Lib.hid (And.intro hi hne)
            have HK8 := Lib.hid hk8
            clear hi hne hk8
            by_cases hst : (k : Int) + 1 = st
            · have hst2 : ((k : Int) + 1 == st) = true := by simpa using hst
              have HST := Lib.hid hst
              clear hst
              gi_wp2
              obtain ⟨hi, hne⟩ := HII.out
              exact ⟨Chg.setCell (cw := fun b => b = wr.heap.size) (Chg.refl _ _) (p := ⟨wr.heap.size, 0, none⟩) (.inl rfl) _, rfl, k + 1, by omega, by have := HK8.out; omega, by have := HST.out; omega, j3_step w l st w1.heap.size W.heap.size D D2 wr.heap.size k U hi hA0 hXD hDH (by omega) (by omega)⟩
            · have hst2 : ((k : Int) + 1 == st) = false := by simpa using hst
              have HST := Lib.hid hst
              clear hst
              gi_wp2
              obtain ⟨hi, hne⟩ := HII.out
              refine ⟨Chg.setCell (cw := fun b => b = wr.heap.size) (Chg.refl _ _) (p := ⟨wr.heap.size, 0, none⟩) (.inl rfl) _, j3_step w l st w1.heap.size W.heap.size D D2 wr.heap.size k U hi hA0 hXD hDH (by omega) (by omega), fun j h1 h2 => ?_⟩
              by_cases e : j = k + 1
              · subst e; have := HST.out; omega
              · exact hne j h1 (by omega)
          case done =>
            rintro D3 U hD3 hJ hK4
            have hJ : J3 w l st w1.heap.size W.heap.size D D2 wr.heap.size 8 U := by have := hJ.1; rwa [wordsV_len] at this
            obtain ⟨fw, hA, hW, hH, c6, c10, c14, c3, n6, n10, n14, n3, hR⟩ := fin_facts w l LL.out HL.out st w1.heap.size W.heap.size D D2 wr.heap.size (8) U hJ
            have fh := Lib.hid (fromh_is l LL.out)
            have ql := same64 l LL.out
            have zw : (ivs .u64 (upTo (fun k => ((wordV l k : Nat) : Int)) 8 8)).size = 8 := by rw [ivs_size, upTo_len]
            generalize upTo (fun k => ((wordV l k : Nat) : Int)) 8 8 = ws at *
            have HR := Lib.hid hR
            have HJ := Lib.hid (And.intro hJ hK4)
            clear hJ hK4 hR HI7 hI7 hsq7 hK3
            gi_wp2
            refine wpIn_wide.2 ?_
            refine wp_region_keeps_last _ (by kernel_rfl) (by kernel_rfl) rfl ?_
            simp only [List.dropLast]
            repeat (first
                | (with_reducible refine wpQuiet_step (fun K hK => ?_); go_simp; refine hK _ ?_; clear hK K)
                | (with_reducible refine wpQuiet_step (fun K hK => ?_); go_simp
                   apply Exists.intro
                   refine ⟨fun w' hw' => ?_, hK _ ?_⟩
                   focus
                     obtain ⟨hcq, hfq⟩ := hw'.cells
                     go_simp
                     first
                       | (simp only [hA w' hw'])
                       | (simp only [hW w' hw'])
                       | (simp only [hH w' hw'])
                       | (go_at_call 18; exact hw'.call (fw.out _))
                       | (go_at_call 19; exact hw'.call (fh.out _))
                       | rfl
                   clear hK K)
                | (with_reducible refine wpQuiet_step (fun K hK => ?_); go_simp; with_reducible refine ite_no ?_ ?_; (exact (by decide)); refine hK _ ?_; clear hK K))
            with_reducible refine wpQuiet_nil ?_
            intro w9 hw9
            have g9 := old_at hw9 HR.out
            have g5 := cell_of_row w9 (w.heap.size + 1 + 1) 0 _ 4 (0, 0) g9
            have g6 := frozen_of_row w9 (w.heap.size + 1 + 1) 0 _ 4 g9
            simp at g5
            have G9 := Lib.hid (And.intro g9 hw9)
            clear g9 hw9
            go_wp2_with fail
            gi_wp2
            obtain ⟨hJ, hK4⟩ := HJ.out
            obtain ⟨g9, hw9⟩ := G9.out
            exact finish6 _ w w9 (w.heap.size + 1 + 1) D D2 D3 rfl g9 (old_at hw9 hJ.1.2.2.2) (old_at hw9 hJ.2.2) (old_at hw9 hK4) (by omega) (by omega) (by omega) (by omega) (Keeps.next hJ.1.1.1.2.2.2 hw9)
          case stop =>
            rintro D3 c U hD3 ⟨rfl, k, hk1, hk8, hst, hJ⟩ hK4
            by_cases h8 : k = 8
            · subst h8
              have hJ : J3 w l st w1.heap.size W.heap.size D D2 wr.heap.size 8 U := hJ
              obtain ⟨fw, hA, hW, hH, c6, c10, c14, c3, n6, n10, n14, n3, hR⟩ := fin_facts w l LL.out HL.out st w1.heap.size W.heap.size D D2 wr.heap.size (8) U hJ
              have fh := Lib.hid (fromh_is l LL.out)
              have ql := same64 l LL.out
              have zw : (ivs .u64 (upTo (fun k => ((wordV l k : Nat) : Int)) 8 8)).size = 8 := by rw [ivs_size, upTo_len]
              generalize upTo (fun k => ((wordV l k : Nat) : Int)) 8 8 = ws at *
              have HR := Lib.hid hR
              have HJ := Lib.hid (And.intro hJ hK4)
              clear hJ hK4 hR HI7 hI7 hsq7 hK3
              gi_wp2
              refine wpIn_wide.2 ?_
              refine wp_region_keeps_last _ (by kernel_rfl) (by kernel_rfl) rfl ?_
              simp only [List.dropLast]
              repeat (first
                  | (with_reducible refine wpQuiet_step (fun K hK => ?_); go_simp; refine hK _ ?_; clear hK K)
                  | (with_reducible refine wpQuiet_step (fun K hK => ?_); go_simp
                     apply Exists.intro
                     refine ⟨fun w' hw' => ?_, hK _ ?_⟩
                     focus
                       obtain ⟨hcq, hfq⟩ := hw'.cells
                       go_simp
                       first
                         | (simp only [hA w' hw'])
                         | (simp only [hW w' hw'])
                         | (simp only [hH w' hw'])
                         | (go_at_call 18; exact hw'.call (fw.out _))
                         | (go_at_call 19; exact hw'.call (fh.out _))
                         | rfl
                     clear hK K)
                  | (with_reducible refine wpQuiet_step (fun K hK => ?_); go_simp; with_reducible refine ite_no ?_ ?_; (exact (by decide)); refine hK _ ?_; clear hK K))
              with_reducible refine wpQuiet_nil ?_
              intro w9 hw9
              have g9 := old_at hw9 HR.out
              have g5 := cell_of_row w9 (w.heap.size + 1 + 1) 0 _ 4 (0, 0) g9
              have g6 := frozen_of_row w9 (w.heap.size + 1 + 1) 0 _ 4 g9
              simp at g5
              have G9 := Lib.hid (And.intro g9 hw9)
              clear g9 hw9
              go_wp2_with fail
              gi_wp2
              obtain ⟨hJ, hK4⟩ := HJ.out
              obtain ⟨g9, hw9⟩ := G9.out
              exact finish6 _ w w9 (w.heap.size + 1 + 1) D D2 D3 rfl g9 (old_at hw9 hJ.1.2.2.2) (old_at hw9 hJ.2.2) (old_at hw9 hK4) (by omega) (by omega) (by omega) (by omega) (Keeps.next hJ.1.1.1.2.2.2 hw9)
            · have hk8n : ((k : Int) == 8) = false := by simp; omega
              have hkst : ((k : Int) == st) = true := by simpa using hst
              have HST := Lib.hid hst
              clear hst h8
              obtain ⟨fw, hA, hW, hH, c6, c10, c14, c3, n6, n10, n14, n3, hR⟩ := fin_facts w l LL.out HL.out st w1.heap.size W.heap.size D D2 wr.heap.size ((k : Nat)) U hJ
              have fh := Lib.hid (fromh_is l LL.out)
              have ql := same64 l LL.out
              have zw : (ivs .u64 (upTo (fun k => ((wordV l k : Nat) : Int)) 8 8)).size = 8 := by rw [ivs_size, upTo_len]
              generalize upTo (fun k => ((wordV l k : Nat) : Int)) 8 8 = ws at *
              have HR := Lib.hid hR
              have HJ := Lib.hid (And.intro hJ hK4)
              clear hJ hK4 hR HI7 hI7 hsq7 hK3
              gi_wp2
              refine wpIn_wide.2 ?_
              refine wp_region_keeps_last _ (by kernel_rfl) (by kernel_rfl) rfl ?_
              simp only [List.dropLast]
              repeat (first
                  | (with_reducible refine wpQuiet_step (fun K hK => ?_); go_simp; refine hK _ ?_; clear hK K)
                  | (with_reducible refine wpQuiet_step (fun K hK => ?_); go_simp
                     apply Exists.intro
                     refine ⟨fun w' hw' => ?_, hK _ ?_⟩
                     focus
                       obtain ⟨hcq, hfq⟩ := hw'.cells
                       go_simp
                       first
                         | (simp only [hA w' hw'])
                         | (simp only [hW w' hw'])
                         | (simp only [hH w' hw'])
                         | (go_at_call 18; exact hw'.call (fw.out _))
                         | (go_at_call 19; exact hw'.call (fh.out _))
                         | rfl
                     clear hK K)
                  | (with_reducible refine wpQuiet_step (fun K hK => ?_); go_simp; with_reducible refine ite_no ?_ ?_; (exact (by decide)); refine hK _ ?_; clear hK K))
              with_reducible refine wpQuiet_nil ?_
              intro w9 hw9
              have g9 := old_at hw9 HR.out
              have g5 := cell_of_row w9 (w.heap.size + 1 + 1) 0 _ 4 (0, 0) g9
              have g6 := frozen_of_row w9 (w.heap.size + 1 + 1) 0 _ 4 g9
              simp at g5
              have G9 := Lib.hid (And.intro g9 hw9)
              clear g9 hw9
              go_wp2_with fail
              gi_wp2
              obtain ⟨hJ, hK4⟩ := HJ.out
              obtain ⟨g9, hw9⟩ := G9.out
              exact finish6 _ w w9 (w.heap.size + 1 + 1) D D2 D3 rfl g9 (old_at hw9 hJ.1.2.2.2) (old_at hw9 hJ.2.2) (old_at hw9 hK4) (by omega) (by omega) (by omega) (by omega) (Keeps.next hJ.1.1.1.2.2.2 hw9)
set_option maxRecDepth 100000 in
theorem lifted (os : Os) (started : os.Started) (H : Type) (enc : TypeId × Value → H) :
    ReturnsInHanded {} Try.checked os 6 .any (Rows.linePartsSpec.pre6 enc Try.prog Try.f6 Rows.linePartsRow.domain false) (Rows.linePartsSpec.post enc Try.prog Try.f6 false true false false) := by
  refine returnsInHanded_of_change (C := Try.checked) own started (by kernel_rfl) Try.func6
    (ChangeSpec.witness6 (enc := enc) (C := Try.checked) false ⟨#[], #[.agg #[.int .u8 0, .int .u8 0, .int .u8 0, .int .u8 0, .int .u8 0, .int .u8 0, .int .u8 0, .int .u8 0, .int .u8 0, .int .u8 0, .int .u8 0, .int .u8 0, .int .u8 0, .int .u8 0, .int .u8 0, .int .u8 0, .int .u8 0, .int .u8 0, .int .u8 0, .int .u8 0, .int .u8 0, .int .u8 0, .int .u8 0, .int .u8 0, .int .u8 0, .int .u8 0, .int .u8 0, .int .u8 0, .int .u8 0, .int .u8 0, .int .u8 0, .int .u8 0, .int .u8 0, .int .u8 0, .int .u8 0, .int .u8 0, .int .u8 0, .int .u8 0, .int .u8 0, .int .u8 0, .int .u8 0, .int .u8 0, .int .u8 0, .int .u8 0, .int .u8 0, .int .u8 0, .int .u8 0, .int .u8 0, .int .u8 0, .int .u8 0, .int .u8 0, .int .u8 0, .int .u8 0, .int .u8 0, .int .u8 0, .int .u8 0, .int .u8 0, .int .u8 0, .int .u8 0, .int .u8 0, .int .u8 0, .int .u8 0, .int .u8 0, .int .u8 0], .int .i64 0], []⟩ 8 (by kernel_rfl) (by kernel_rfl) (by kernel_rfl) (by kernel_rfl)) ?_
  intro W base args ds gs before hval0 hW hcnd _
  have hval : ∀ (j : Nat) t v, Try.f6.params[j]? = some t → args[j]? = some v → Value.okWide Try.prog W .any base t v := hval0
  have hW' := hW
  obtain ⟨p, q, hA0, hV, rfl, hfz, hnd⟩ := hW
  have hA : DataW.TrodAll enc Try.prog W 0 (fun _ => true) true Try.f6.params.toList args.toList ds p := hA0
  rw [Try.params6] at hA hval
  obtain ⟨v0, vs0, d0, ds0, p0, q0, hargs, rfl, rfl, h0, r0⟩ := trodAll_cons hA
  obtain ⟨v1, vs1, d1, ds1, p1, q1, rfl, rfl, rfl, h1, r1⟩ := trodAll_cons r0
  obtain ⟨rfl, rfl, rfl⟩ := trodAll_nil r1
  obtain rfl : args = #[v0, v1] := by cases args; simp_all
  obtain ⟨rfl, rfl⟩ := trodVars_none hV
  have k0 := h0
  have lt0 : ∀ x ∈ p0, x.block < W.heap.size := by obtain ⟨m, hm⟩ := k0; exact DataW.trod_lt m _ _ _ hm
  have k1 := h1
  have lt1 : ∀ x ∈ p1, x.block < W.heap.size := by obtain ⟨m, hm⟩ := k1; exact DataW.trod_lt m _ _ _ hm
  obtain ⟨l, rfl, ll, hl⟩ := open_bytes Try.underlying23 Try.underlying5 (by kernel_rfl) (by kernel_rfl) (hval 0 23 v0 rfl rfl) h0
  obtain ⟨n, rfl, _⟩ := open_num (hval 1 3 v1 rfl rfl) h1
  clear hA0 hval0
  refine (walk l ll hl n W).mono fun e W' ⟨he, bel⟩ => ?_
  subst he
  exact ⟨_, rfl, _, _, _, [], _, [], hW', trodAll_mk1 (shut_bool Try.underlying4 _), (trodAll_cons_mk (Below.trod laidOut (by kernel_rfl) (of_decide_eq_true (by kernel_rfl)) k0 bel lt0) (trodAll_cons_mk (Below.trod laidOut (by kernel_rfl) (of_decide_eq_true (by kernel_rfl)) k1 bel lt1) trodAll_mk0)), rfl, bel.frame _, fun h => by cases h⟩

theorem over : Rows.linePartsRow.holds Try.pinned (OpenSpec.ofChange Rows.linePartsSpec) :=
  OpenClaim.holds_of_wide 6 Try.f6 rfl rfl rfl rfl rfl rfl rfl ⟨rfl, rfl, rfl, rfl, rfl⟩ rfl rfl rfl rfl rfl (by kernel_rfl) Try.func6 (by kernel_rfl)
    (of_decide_eq_true (by kernel_rfl)) (by unfold Func.isWrapper; first | (rw [if_pos (by decide +kernel)]; kernel_rfl) | (rw [if_neg (by decide +kernel)]; exact ⟨rfl, rfl⟩))
    (fun os started H enc _ => lifted os started H enc)

theorem proved : Rows.LinePartsSaid := over
#print axioms proved
end parts
end Go.Proofs.Ytifpldennoocmaa
