/- line.Merge. -/
import Derived.Test.YtifpldennoocmaaOnes
import Derived.Test.YtifpldennoocmaaArr
import Derived.Deep.WholeRow
import Derived.Laws.CopyOwn
namespace Go.Proofs.Ytifpldennoocmaa
set_option linter.unusedVariables false
open Go.RowKit Go.Shelf
attribute [local go_sem] Oper.semAt_some

set_option maxHeartbeats 400000 in
theorem ones_any (x : Int) (w : World) :
    Calls Try.prog 21 #[.int .u64 x] w fun e w' => e = .returned (.func (.func 28) #[] #[.pointer (some ⟨w.heap.size, 0, none⟩)]) ∧ w' = w.alloc (.cells #[.int .u64 x] 24) := by
  go_enter Try.func21, Try.ntmps21
  go_wp2
  go_ret
  exact ⟨rfl, rfl⟩

/-- a line merged with another at some places -/
def mrgF (a b : List Int) (is : List Nat) : List Int := is.foldl (fun l i => l.set i (b.getD i 0)) a
theorem mrgF_len (a b : List Int) (is : List Nat) : (mrgF a b is).length = a.length := by
  induction is generalizing a with
  | nil => rfl
  | cons i is ih => show (mrgF (a.set i _) b is).length = _; rw [ih, List.length_set]
theorem mrgF_snoc (a b : List Int) (is : List Nat) (i : Nat) : mrgF a b (is ++ [i]) = (mrgF a b is).set i (b.getD i 0) := by
  unfold mrgF; rw [List.foldl_append]; rfl
theorem ivs_set (k : IntKind) (l : List Int) (i : Nat) (v : Int) : (ivs k l).setIfInBounds i (.int k v) = ivs k (l.set i v) := by
  unfold ivs
  apply Array.ext'
  simp [List.map_set]

/-- the array of zeros, as the walk writes it -/
theorem zeros64 : #[Value.int IntKind.u8 0, Value.int IntKind.u8 0, Value.int IntKind.u8 0, Value.int IntKind.u8 0, Value.int IntKind.u8 0, Value.int IntKind.u8 0, Value.int IntKind.u8 0, Value.int IntKind.u8 0, Value.int IntKind.u8 0, Value.int IntKind.u8 0, Value.int IntKind.u8 0, Value.int IntKind.u8 0, Value.int IntKind.u8 0, Value.int IntKind.u8 0, Value.int IntKind.u8 0, Value.int IntKind.u8 0, Value.int IntKind.u8 0, Value.int IntKind.u8 0, Value.int IntKind.u8 0, Value.int IntKind.u8 0, Value.int IntKind.u8 0, Value.int IntKind.u8 0, Value.int IntKind.u8 0, Value.int IntKind.u8 0, Value.int IntKind.u8 0, Value.int IntKind.u8 0, Value.int IntKind.u8 0, Value.int IntKind.u8 0, Value.int IntKind.u8 0, Value.int IntKind.u8 0, Value.int IntKind.u8 0, Value.int IntKind.u8 0, Value.int IntKind.u8 0, Value.int IntKind.u8 0, Value.int IntKind.u8 0, Value.int IntKind.u8 0, Value.int IntKind.u8 0, Value.int IntKind.u8 0, Value.int IntKind.u8 0, Value.int IntKind.u8 0, Value.int IntKind.u8 0, Value.int IntKind.u8 0, Value.int IntKind.u8 0, Value.int IntKind.u8 0, Value.int IntKind.u8 0, Value.int IntKind.u8 0, Value.int IntKind.u8 0, Value.int IntKind.u8 0, Value.int IntKind.u8 0, Value.int IntKind.u8 0, Value.int IntKind.u8 0, Value.int IntKind.u8 0, Value.int IntKind.u8 0, Value.int IntKind.u8 0, Value.int IntKind.u8 0, Value.int IntKind.u8 0, Value.int IntKind.u8 0, Value.int IntKind.u8 0, Value.int IntKind.u8 0, Value.int IntKind.u8 0, Value.int IntKind.u8 0, Value.int IntKind.u8 0, Value.int IntKind.u8 0, Value.int IntKind.u8 0] = ivs .u8 (List.replicate 64 0) := rfl

theorem take_snoc' {L : List Nat} {k i : Nat} (h : L[k]? = some i) : L.take (k + 1) = L.take k ++ [i] := by rw [List.take_add_one, h]; rfl
theorem onesV_len' (x : Nat) : (onesV x).length = (onesL x).length := by unfold onesV; rw [List.length_map]
theorem ivs_size (k : IntKind) (l : List Int) : (ivs k l).size = l.length := by simp [ivs]
theorem ivs_one (k : IntKind) (l : List Int) : (ivs k l).all (·.oneCell') = true := by simp [ivs, Value.oneCell']
/-- a row loaded, a row stored: the model's own two, under names that a walk does not unroll -/
def ldRow (a : Addr) (i n : Nat) (c : Array Value) : Sem (Array Value) := loadCellsFrom a i n c
def stRow (a : Addr) (l : List Value) (i : Nat) : Sem Unit := storeCells a l i
theorem ld_row (a : Addr) (i n : Nat) (c : Array Value) : loadCellsFrom a i n c = ldRow a i n c := rfl
theorem st_row (a : Addr) (l : List Value) (i : Nat) : storeCells a l i = stRow a l i := rfl
section
variable {P : Program}
theorem run_loadFrom_row (w : World) (g : Nat) (c : Array Value) (t : TypeId) (fr : Nat × Nat) (hg : w.heap[g]? = some (.cells c t fr)) (n : Nat) (hn : c.size = n) :
    (ldRow ⟨g, 0, none⟩ 0 n #[]).run P w = .ok c w := by
  subst hn
  unfold ldRow
  have := run_loadCells_list (P := P) w ⟨g, 0, none⟩ c.toList (fun j v hv => by
    have hadd : (⟨g, 0, none⟩ : Addr).add j = ⟨g, j, none⟩ := by unfold Addr.add; split <;> simp_all
    rw [hadd, cell_of_row _ _ j c t fr hg]
    simpa using hv)
  simpa [loadCells] using this
set_option linter.unusedVariables false in
theorem run_storeRow (w : World) (g : Nat) (c c' : Array Value) (t : TypeId) (hg : w.heap[g]? = some (.cells c t (0, 0))) (ho : c.size = c'.size) (h1 : c'.all (·.oneCell') = true) :
    (stRow ⟨g, 0, none⟩ c'.toList 0).run P w = .ok () (w.setRow g c') := by
  have h := run_storeCells_at (P := P) g 0 t c'.toList 0 c w hg (by simp; omega) (fun x hx => by rw [Array.all_eq_true'] at h1; exact h1 x (by simpa using hx))
  unfold stRow
  rw [h]
  congr 2
  apply Array.ext'
  simp [ho]
end

def MrgPost (w : World) (a b : List Int) (x : Nat) (e : Ending) (w' : World) : Prop := e = .returned (.agg (ivs .u8 (mrgF a b (onesL x)))) ∧ Below w.heap.size w w'

theorem ivs_cell (w : World) (g i : Nat) (l : List Int) (t : TypeId) (hg : w.heap[g]? = some (.cells (ivs .u8 l) t (0, 0))) (hi : i < l.length) : w.cell? ⟨g, i, none⟩ = some (.int .u8 (l.getD i 0)) := by
  rw [cell_of_row w g i _ t (0, 0) hg]
  simp [ivs, hi]
theorem onesL_lt (x k i : Nat) (h : (onesL x)[k]? = some i) : i < 64 := by
  have hm := List.mem_of_getElem? h
  unfold onesL at hm
  simp at hm
  exact hm.1
theorem onesV_get (x k : Nat) (v : Array Value) (h : (onesV x)[k]? = some v) : ∃ i, (onesL x)[k]? = some i ∧ v = #[.int .i64 (i : Nat)] := by
  unfold onesV at h
  rw [List.getElem?_map] at h
  cases hi : (onesL x)[k]? with
  | none => rw [hi] at h; cases h
  | some i => rw [hi] at h; exact ⟨i, rfl, (Option.some.inj h).symm⟩

/-- between two rounds of Merge -/
def MgI (w : World) (a b : List Int) (x k : Nat) (W : World) : Prop :=
  W.heap[w.heap.size]? = some (.cells (ivs .u8 (mrgF a b ((onesL x).take k))) 23 (0, 0)) ∧ W.heap[w.heap.size + 1]? = some (.cells (ivs .u8 b) 23 (0, 0)) ∧
    W.heap[w.heap.size + 1 + 1]? = some (.cells (ivs .u8 (List.replicate 64 0)) 23 (0, 0)) ∧ Below w.heap.size w W
theorem MgI.chg {w : World} {a b : List Int} {x k : Nat} {A B : World} {cw : Nat → Prop} (h : MgI w a b x k A) (hc : Chg cw A B) (h0 : ∀ i, cw i → w.heap.size + 1 + 1 < i) : MgI w a b x k B := by
  obtain ⟨h1, h2, h3, h4⟩ := h
  have lt := fun (i : Nat) (o : Obj) (e : A.heap[i]? = some o) => (Array.getElem?_eq_some_iff.1 e).1
  exact ⟨(hc.block _ (lt _ _ h1) (fun h => by have := h0 _ h; omega)).trans h1, (hc.block _ (lt _ _ h2) (fun h => by have := h0 _ h; omega)).trans h2, (hc.block _ (lt _ _ h3) (fun h => by have := h0 _ h; omega)).trans h3,
    h4.trans (hc.below h4.size (fun i h => by have := h0 _ h; omega))⟩

attribute [local simp] ld_row st_row
theorem run_storeCells_one {P : Program} (a : Addr) (v : Value) (i : Nat) (w : World) : (stRow a [v] i).run P w = (store (a.add i) v).run P w := by
  simp only [stRow, storeCells, Sem.run_bind]
  cases (store (a.add i) v).run P w <;> rfl
attribute [local go_sem] run_storeCells_one
set_option maxHeartbeats 2000000 in
theorem merge_any (a b : List Int) (ha : a.length = 64) (hb : b.length = 64) (x : Nat) (hx : x < 2 ^ 64) (w : World) :
    Calls Try.prog 8 #[.agg (ivs .u8 a), .agg (ivs .u8 b), .int .u64 x] w (MrgPost w a b x) := by
  have HA := Lib.hid ha
  have HB := Lib.hid hb
  have HX := Lib.hid hx
  clear ha hb hx
  refine (callsIn_wide (n := 9)).1 ?_
  refine callsIn_of_wp_marks Try.func8 rfl trivial ?_
  simp only [Try.ntmps8, List.size_toArray, List.length_cons, List.length_nil, Nat.reduceAdd, Nat.reduceSub, Array.replicate_succ, Array.replicate_zero, List.push_toArray, List.append_toArray, List.nil_append, List.cons_append]
  gi_wp2_with (refine ⟨trivial, ?_⟩; gi_at_call 21; refine ((callsIn_wide (n := 8)).2 (ones_any x _)).mono ?_; rintro e w' ⟨rfl, rfl⟩)
  rw [zeros64]
  obtain ⟨w0, hw0⟩ : ∃ w0, w0 = (((w.alloc (.cells (ivs .u8 a) 23)).alloc (.cells (ivs .u8 b) 23)).alloc (.cells (ivs .u8 (List.replicate 64 0)) 23)).alloc (.cells #[.int .u64 x] 24) := ⟨_, rfl⟩
  have hs0 : w0.heap.size = w.heap.size + 1 + 1 + 1 + 1 := by rw [hw0]; simp
  have hbel : Below w.heap.size w w0 := by rw [hw0]; exact ((((Below.refl _ _).alloc (Nat.le_refl _) _).alloc (by simp) _).alloc (by simp; omega) _).alloc (by simp; omega) _
  have hI0 : MgI w a b x 0 w0 := by
    rw [hw0]
    refine ⟨?_, ?_, ?_, by rw [← hw0]; exact hbel⟩
    · rw [heap_alloc_old _ _ _ (by simp; omega), heap_alloc_old _ _ _ (by simp; omega), heap_alloc_old _ _ _ (by simp), heap_alloc_new]; simp [mrgF]
    · rw [heap_alloc_old _ _ _ (by simp), heap_alloc_old _ _ _ (by simp), heap_alloc2_new]
    · rw [heap_alloc_old _ _ _ (by simp)]
      have := heap_alloc_new ((w.alloc (.cells (ivs .u8 a) 23)).alloc (.cells (ivs .u8 b) 23)) (.cells (ivs .u8 (List.replicate 64 0)) 23)
      simpa only [World.size_alloc] using this
  have hcx : w0.cell? ⟨w.heap.size + 1 + 1 + 1, 0, none⟩ = some (.int .u64 x) := by rw [hw0]; simp [go_sem]
  have hfx : w0.frozen? ⟨w.heap.size + 1 + 1 + 1, 0, none⟩ = false := by rw [hw0]; simp [go_sem]
  rw [← hw0]
  clear hw0
  refine wpIn_rangeFunc_it 9 9 (gf := 28) (lb := #[.pointer (some ⟨w.heap.size + 1 + 1 + 1, 0, none⟩)]) rfl (enters_of Try.func28 (by kernel_rfl) rfl) (onesV x) (fun b => b = w.heap.size + 1 + 1 + 1) (fun b e => by rw [e, hs0]; omega)
    (fun W1 hW1 => ones_call _ x HX.out W1 (by have := hW1.size; omega) ((hW1.cell (p := ⟨w.heap.size + 1 + 1 + 1, 0, none⟩) (by show w.heap.size + 1 + 1 + 1 < w0.heap.size; omega)).trans hcx) ((hW1.frozen (p := ⟨w.heap.size + 1 + 1 + 1, 0, none⟩) (by show w.heap.size + 1 + 1 + 1 < w0.heap.size; omega)).trans hfx))
    (fun k v hv => by obtain ⟨i, _, rfl⟩ := onesV_get x k v hv; rfl)
    (fun b => b = w.heap.size) (fun b e => by rw [e, hs0]; exact ⟨by omega, by omega⟩)
    (fun k W => MgI w a b x k W) (fun _ _ => False)
    (fun k a₁ _ => ∃ i, (onesL x)[k]? = some i ∧ a₁ = { tmps := #[.agg (ivs .u8 a), .agg (ivs .u8 b), .int .u64 x, .pointer (some ⟨w.heap.size, 0, none⟩), .pointer (some ⟨w.heap.size + 1, 0, none⟩), undef, .pointer (some ⟨w.heap.size + 1 + 1, 0, none⟩), .int .i64 (i : Nat), .int .u64 x, .func (.func 28) #[] #[.pointer (some ⟨w.heap.size + 1 + 1 + 1, 0, none⟩)], .int .i64 (i : Nat), undef, undef, undef, undef, undef, undef], defers := [] })
    (fun k A B h hc => h.chg hc (fun i h => by omega)) (fun _ _ _ h _ => h) (fun _ _ _ _ h _ => h) hI0 ?assign ?body ?done (fun _ _ _ _ h _ => h.elim)
  case assign =>
    intro l k v W hv hl hW hi
    obtain ⟨i, hi', rfl⟩ := onesV_get x k v hv
    gi_wp2
    exact ⟨Chg.refl _ _, hi, i, hi', rfl⟩
  case body =>
    rintro l k v a₁ W hv hl hW hr ⟨r1, r2, r3, r4⟩ ⟨i, hi, rfl⟩
    have hi64 := onesL_lt x k i hi
    have m1 := ivs_cell W _ i _ 23 r1 (by rw [mrgF_len, HA.out]; exact hi64)
    have m2 := ivs_cell W _ i _ 23 r2 (by rw [HB.out]; exact hi64)
    have f1 := frozen_of_row W _ i _ 23 r1
    have R := Lib.hid (And.intro r1 (And.intro r2 (And.intro r3 r4)))
    clear r1 r2 r3 r4 hr
    gi_wp2
    obtain ⟨r1, r2, r3, r4⟩ := R.out
    have hc : Chg (fun b => b = w.heap.size) W (W.setCell ⟨w.heap.size, i, none⟩ (.int .u8 (b[i]?.getD 0))) := by refine (Chg.refl _ _).setCell ?_ _; exact .inl rfl
    refine ⟨hc, ?_, (heap_setCell_other _ _ _ _ (by show _ ≠ w.heap.size; omega)).trans r2, (heap_setCell_other _ _ _ _ (by show _ ≠ w.heap.size; omega)).trans r3, r4.setCell (Nat.le_refl _) _⟩
    rw [take_snoc' hi, mrgF_snoc, ← ivs_set]
    exact heap_setCell_same _ _ _ _ _ _ r1
  case done =>
    rintro D W _ ⟨r1, r2, r3, r4⟩ hK
    rw [onesV_len', List.take_length] at r1
    have L := run_loadFrom_row (P := Try.prog) W _ _ 23 (0, 0) r1 64 (by rw [ivs_size, mrgF_len, HA.out])
    have S := run_storeRow (P := Try.prog) W _ _ (ivs .u8 (mrgF a b (onesL x))) 23 r3 (by simp only [ivs_size, mrgF_len, HA.out, List.length_replicate]) (ivs_one _ _)
    have r5 := setRow_heap W _ _ (ivs .u8 (mrgF a b (onesL x))) 23 (0, 0) r3
    have L2 := run_loadFrom_row (P := Try.prog) (W.setRow (w.heap.size + 1 + 1) (ivs .u8 (mrgF a b (onesL x)))) _ _ 23 (0, 0) r5 64 (by rw [ivs_size, mrgF_len, HA.out])
    have hK' : (W.setRow (w.heap.size + 1 + 1) (ivs .u8 (mrgF a b (onesL x)))).heap[D]? = some (.deferred (some [])) := (setRow_other _ _ _ _ (by omega)).trans hK
    have R := Lib.hid (And.intro r1 (And.intro r2 (And.intro r3 r4)))
    clear r1 r2 r3 r4
    have hz : (ivs .u8 (mrgF a b (onesL x))).size = 64 := by rw [ivs_size, mrgF_len, HA.out]
    gi_wp2
    refine ⟨by simp, .inl ⟨_, _, rfl, run_takeDeferred hK', ?_⟩⟩
    obtain ⟨r1, r2, r3, r4⟩ := R.out
    have nD : w.heap.size + 1 + 1 ≠ D := by omega
    refine ⟨_, results_cell_row rfl _ _ (w.heap.size + 1 + 1) 23 (ivs .u8 (mrgF a b (onesL x))) (0, 0) (.array 64 5) rfl ((World.putObj_heap_other nD).trans r5) (by kernel_rfl) rfl (by rw [hz]; exact (by kernel_rfl : (Try.prog.info? 23).map (·.size) = some 64)), rfl, ?_⟩
    have e1 : Below w.heap.size w (W.setRow (w.heap.size + 1 + 1) (ivs .u8 (mrgF a b (onesL x)))) := below_setRow r4 (by omega) _
    exact e1.trans ⟨rfl, rfl, rfl, by simp, fun k hk => World.putObj_heap_other (r := D) (show k ≠ D by omega)⟩
end Go.Proofs.Ytifpldennoocmaa
