/- the document's Has, Push and Remove, over slices of numbers. -/
import Derived.Test.YtiecdlfdfphflaaRingC
import Derived.Deep.OwnRows
import Derived.Deep.AppendLies
import Derived.Laws.CopyOwn
namespace Go.Proofs.Ytiecdlfdfphflaa
set_option linter.unusedVariables false
open Go.RowKit Go.Shelf
namespace numbers

/-- a slice that the program made itself, as a list of numbers -/
def SlI (W : World) (base : Nat) (v : Value) (L : List Int) : Prop := W.ownsRow base 3 1 v L.length (L.map (Value.int .i64))
theorem SlI.nil (W : World) (base : Nat) : SlI W base (.slice none 0 0) [] := World.ownsRow_nil _ _ _ _
theorem SlI.cases {W : World} {base : Nat} {v : Value} {L : List Int} (h : SlI W base v L) : (v = .slice none 0 0 ∧ L = []) ∨ ∃ g cap, v = .slice (some ⟨g, 0, none⟩) L.length cap ∧ base ≤ g ∧ g < W.heap.size ∧ L.length ≤ cap ∧ cap ≤ maxLen ∧ ∀ i, i < L.length → W.cell? ⟨g, i, none⟩ = some (.int .i64 (L.getD i 0)) := by
  obtain ⟨h1, ⟨rfl, h2⟩ | ⟨g, cap, cur, rfl, hg, hh, hn, hm, hs, ht⟩⟩ := id h
  · exact .inl ⟨rfl, List.eq_nil_of_length_eq_zero h2⟩
  · refine .inr ⟨g, cap, rfl, hg, (Array.getElem?_eq_some_iff.1 hh).1, hn, hm, fun i hi => ?_⟩
    rw [h.cellAt i (by omega)]
    simp [List.getD, hi]

set_option maxHeartbeats 1000000 in
theorem rhas_any (base : Nat) (v : Value) (L : List Int) (x : Int) (w : World) (h : SlI w base v L) (hl : L.length ≤ 4096) :
    Calls Try.prog 19 #[v, .int .i64 x] w fun e w' => e = .returned (.bool (decide (x ∈ L))) ∧ w = w' := by
  rcases h.cases with ⟨rfl, rfl⟩ | ⟨g, cap, rfl, hg, hgs, hlc, hcm, hcell⟩
  · have hd : decide (x ∈ ([] : List Int)) = false := by simp
    rw [hd]
    clear hd h
    go_enter Try.func19, Try.ntmps19
    go_wp2
    go_loop [5] (fun i => i = .int .i64 0) (fun _ => 0)
    case atStart => rfl
    case round =>
      subst hrel
      go_wp2
      go_ret
      exact ⟨rfl, rfl⟩
  · obtain ⟨n, hn⟩ : ∃ n, n = L.length := ⟨_, rfl⟩
    have HC := Lib.hid hcell
    have HN := Lib.hid hn
    rw [← hn] at hlc hl ⊢
    obtain ⟨B, hB⟩ : ∃ B, B = decide (x ∈ L) := ⟨_, rfl⟩
    rw [← hB]
    have HB := Lib.hid hB
    clear hcell hn h hB
    go_enter Try.func19, Try.ntmps19
    go_wp2
    go_loop [5] (fun i => ∃ k : Nat, k ≤ n ∧ i = .int .i64 k ∧ ∀ j, j < k → L.getD j 0 ≠ x) (fun i => n - (intOf i).toNat)
    case atStart => exact ⟨0, by omega, rfl, fun j hj => by omega⟩
    case round =>
      obtain ⟨k, hk, rfl, hne⟩ := hrel
      have HNE := Lib.hid hne
      clear hne
      by_cases hlt : k < n
      · have v1 := HC.out k (by rw [← HN.out]; exact hlt)
        have hkI : (k : Int) < n := by omega
        have HLT := Lib.hid hlt
        clear hlt
        generalize hy : L.getD k 0 = y at *
        have HY := Lib.hid hy
        clear hy
        by_cases hxy : y = x
        · have hb : (y == x) = true := by simpa using hxy
          have hd : decide (x ∈ L) = true := by
            refine decide_eq_true ?_
            rw [← hxy, ← HY.out]
            have := HLT.out
            rw [HN.out] at this
            simp [List.getD, this]
          have HD := Lib.hid (HB.out.trans hd)
          clear hd hxy
          go_wp2
          go_ret
          exact ⟨by rw [HD.out]; rfl, rfl⟩
        · have hb : (y == x) = false := by simpa using hxy
          have HXY := Lib.hid hxy
          clear hxy
          go_wp2
          go_round
          case rel =>
            refine ⟨k + 1, by have := HLT.out; omega, by go_num, fun j hj => ?_⟩
            by_cases e : j = k
            · subst e; rw [HY.out]; exact HXY.out
            · exact HNE.out j (by omega)
          case measure => have := HLT.out; simp [intOf]; omega
      · have hd : decide (x ∈ L) = false := by
          refine decide_eq_false ?_
          intro hm
          obtain ⟨j, hj, rfl⟩ := List.getElem_of_mem hm
          exact HNE.out j (by rw [← HN.out] at hj; omega) (by simp [List.getD, hj])
        have HD := Lib.hid (HB.out.trans hd)
        have hkn : k = n := by omega
        subst hkn
        clear hd hlt
        go_wp2
        go_ret
        exact ⟨by rw [HD.out]; rfl, rfl⟩
set_option maxHeartbeats 1000000 in
theorem rpush_full (v : Value) (n : Nat) (L : List Int) (room x : Int) (a : Option Addr) (cap : Nat) (hv : v = .slice a n cap) (hr : room ≤ n) (w : World) :
    Calls Try.prog 25 #[v, .int .i64 room, .int .i64 x] w fun e w' => e = .returned (.tuple #[v, .int .i64 14]) ∧ w = w' := by
  subst hv
  go_enter Try.func25, Try.ntmps25
  go_wp2
  go_ret2
  exact ⟨rfl, rfl⟩

theorem infoI : ∃ i, Try.prog.info? 3 = some i ∧ i.zero = some (.int .i64 0) ∧ i.size = 1 ∧ i.bytes = 8 := by
  have h := info
  cases e : Try.prog.info? 3 with
  | none => rw [e] at h; cases h
  | some i =>
    rw [e] at h
    simp only [Option.map_some, Option.some.injEq, Prod.mk.injEq] at h
    exact ⟨i, rfl, h.1, h.2.1, h.2.2⟩
theorem one_ints (L : List Int) : ∀ u ∈ L.map (Value.int .i64), u.oneCell' = true := by
  intro u hu
  obtain ⟨x, _, rfl⟩ := List.mem_map.1 hu
  rfl

set_option maxHeartbeats 1000000 in
theorem rpush_room (base : Nat) (v : Value) (L : List Int) (room x : Int) (w : World) (h : SlI w base v L) (hl : L.length ≤ 4096) (hr : (L.length : Int) < room) :
    Calls Try.prog 25 #[v, .int .i64 room, .int .i64 x] w fun e w' => ∃ v', e = .returned (.tuple #[v', .int .i64 0]) ∧ SlI w' w.heap.size v' (L ++ [x]) ∧ Below w.heap.size w w' := by
  obtain ⟨i0, hi, hz0, hz1, hz2⟩ := infoI
  rcases h.cases with ⟨rfl, rfl⟩ | ⟨g, cap, rfl, hg, hgs, hlc, hcm, hcell⟩
  · have hr0 : (0 : Int) < room := by simpa using hr
    clear h hl hr
    go_enter Try.func25, Try.ntmps25
    go_wp2_with (at_builtin; refine wpList_append_lies _ rfl _ _ 33 rfl w.heap.size 3 i0 (.int .i64 0) 1 8 Try.underlying33 hi hz0 hz1 hz2 rfl (by decide) _ 0 [] rfl (World.ownsRow_nil _ _ _ _) ⟨w.heap.size, 0, none⟩ 1 1 [.int .i64 x] rfl rfl (World.news_of_block (heap_alloc_new w _)) (by simp [Value.oneCell']) (by decide) (by unfold maxLen; omega) (by omega) (by simp) _ rfl ?_; intro g cap w1 hown1 hgrow hat hlt)
    go_ret2
    refine ⟨_, rfl, by simpa [SlI] using hown1, ?_⟩
    exact Below.grown ((Below.refl _ _).alloc (Nat.le_refl _) _) hgrow (by simp) (fun k hk => by cases hk)
  · obtain ⟨n, hn⟩ : ∃ n, n = L.length := ⟨_, rfl⟩
    have HN := Lib.hid hn
    have hn0 : 0 < n ∨ n = 0 := by omega
    obtain ⟨M, hM⟩ : ∃ M, M = L.map (Value.int .i64) := ⟨_, rfl⟩
    have hMl : M.length = n * 1 := by rw [hM, hn]; simp
    have hnews : ∀ j u, M[j]? = some u → w.cell? ((⟨g, 0, none⟩ : Addr).add j) = some u := fun j u hu => by
      have hadd : (⟨g, 0, none⟩ : Addr).add j = ⟨g, j, none⟩ := by unfold Addr.add; split <;> simp_all
      have hj : j < L.length := by
        have := (List.getElem?_eq_some_iff.1 hu).1
        rw [hM] at this; simpa using this
      rw [hadd, hcell j hj]
      rw [hM] at hu
      simp [hj] at hu
      simp [List.getD, hj, hu]
    have h1 : ∀ u ∈ M, u.oneCell' = true := by rw [hM]; exact one_ints L
    rw [← hn] at hl hr hlc ⊢
    have HM := Lib.hid (And.intro hM (And.intro hMl (And.intro hnews h1)))
    clear hM hMl hnews h1 hn h hcell
    rcases hn0 with hn0 | hn0
    · have hn0' := Lib.hid hn0
      have hl' := Lib.hid hl
      clear hn0
      go_enter Try.func25, Try.ntmps25
      go_wp2_with (first
        | (at_builtin; refine wpList_append_lies _ rfl (.tmp 14) (.tmp 15) 33 rfl w.heap.size 3 i0 (.int .i64 0) 1 8 Try.underlying33 hi hz0 hz1 hz2 rfl (by decide) _ 0 [] rfl (World.ownsRow_nil _ _ _ _) ⟨g, 0, none⟩ n cap M rfl HM.out.2.1 HM.out.2.2.1 HM.out.2.2.2 hn0'.out (by unfold maxLen; have := hl'.out; omega) (by have := hl'.out; omega) (Nat.le_refl _) _ rfl ?_; intro g1 cap1 w1 hown1 hgrow1 hat1 hlt1; rw [Nat.zero_add] at hown1; rw [Nat.zero_add]; have HO := Lib.hid (And.intro hown1 (And.intro hgrow1 hat1)); clear hown1 hgrow1 hat1)
        | (at_builtin; refine wpList_append_lies _ rfl (.tmp 17) (.tmp 19) 33 rfl w.heap.size 3 i0 (.int .i64 0) 1 8 Try.underlying33 hi hz0 hz1 hz2 rfl (by decide) _ n ([] ++ M) rfl (HO.out.1.alloc _) ⟨w1.heap.size, 0, none⟩ 1 1 [.int .i64 x] rfl rfl (World.news_of_block (heap_alloc_new w1 _)) (by simp [Value.oneCell']) (by decide) (by unfold maxLen; have := hl'.out; omega) (by have := hl'.out; omega) (by have := HO.out.2.1.size; simp; omega) _ rfl ?_; intro g2 cap2 w2 hown2 hgrow2 hat2 hlt2))
      go_ret2
      obtain ⟨ho, hg1, ha1⟩ := HO.out
      have hgl : w.heap.size ≤ g1 := by
        obtain ⟨_, ⟨e, _⟩ | ⟨g', _, _, e, hg', _⟩⟩ := ho
        · cases e
        · cases e; exact hg'
      refine ⟨_, rfl, ?_, ?_⟩
      · unfold SlI
        rw [List.length_append, ← HN.out, List.map_append, ← HM.out.1]
        simpa using hown2
      · have b1 : Below w.heap.size w w1 := Below.grown (Below.refl _ _) hg1 (Nat.le_refl _) (fun k hk => by cases hk)
        exact Below.grown (b1.alloc b1.size _) hgrow2 (by have := b1.size; simp; omega) (fun k hk => by cases hk; exact hgl)
    · subst hn0
      have hL : L = [] := List.eq_nil_of_length_eq_zero HN.out.symm
      have hr0 : (0 : Int) < room := by simpa using hr
      have hld : ∀ (a : Addr) (W : World), (loadCellsFrom a 0 0 #[]).run Try.prog W = .ok #[] W := fun a W => by simp [loadCellsFrom]
      have HL := Lib.hid hL
      clear hr hL hl hcm hlc
      go_enter Try.func25, Try.ntmps25
      go_wp2_with (at_builtin; refine wpList_append_lies _ rfl (.tmp 17) (.tmp 19) 33 rfl w.heap.size 3 i0 (.int .i64 0) 1 8 Try.underlying33 hi hz0 hz1 hz2 rfl (by decide) _ 0 [] rfl (World.ownsRow_nil _ _ _ _) ⟨w.heap.size, 0, none⟩ 1 1 [.int .i64 x] rfl rfl (World.news_of_block (heap_alloc_new w _)) (by simp [Value.oneCell']) (by decide) (by unfold maxLen; omega) (by omega) (by simp) _ rfl ?_; intro g cap w1 hown1 hgrow hat hlt)
      go_ret2
      refine ⟨_, rfl, ?_, ?_⟩
      · rw [HL.out]; simpa [SlI] using hown1
      · exact Below.grown ((Below.refl _ _).alloc (Nat.le_refl _) _) hgrow (by simp) (fun k hk => by cases hk)
set_option maxHeartbeats 1000000 in
theorem rrem_none (v : Value) (n : Nat) (j : Int) (a : Option Addr) (cap : Nat) (hv : v = .slice a n cap) (hj : j < 0 ∨ (n : Int) ≤ j) (w : World) :
    Calls Try.prog 27 #[v, .int .i64 j] w fun e w' => e = .returned (.tuple #[v, .int .i64 0, .int .i64 13]) ∧ w = w' := by
  subst hv
  have hr3 : ∀ (T : Array Value) (x y z : Value) (W : World), T.getD 4 undef = x → T.getD 5 undef = y → T.getD 6 undef = z → (results Try.f27 T).run Try.prog W = .ok (.tuple #[x, y, z]) W := fun T x y z W h1 h2 h3 => by
    simp [results, Try.results27, go_sem] at h1 h2 h3 ⊢
    exact ⟨h1, h2, h3⟩
  rcases hj with hj | hj
  · go_enter Try.func27, Try.ntmps27
    go_wp2
    exact bodyPost_ret (hr3 _ _ _ _ _ rfl rfl rfl) rfl ⟨rfl, rfl⟩
  · have hj' : ¬ j < 0 := by omega
    go_enter Try.func27, Try.ntmps27
    go_wp2
    exact bodyPost_ret (hr3 _ _ _ _ _ rfl rfl rfl) rfl ⟨rfl, rfl⟩

theorem cut_tail (g n cap i : Nat) (h1 : i + 1 ≤ n) (h2 : n ≤ cap) : ∃ ad : Addr, (i + 1 < n → ad = ⟨g, i + 1, none⟩) ∧
    ∀ W : World, (Instr.slice 33 (.slice (some ⟨g, 0, none⟩) n cap) (some (.int .i64 ((i : Int) + 1))) none none).run Try.prog W = .ok (.slice (some ad) (n - (i + 1)) (cap - (i + 1))) W := by
  obtain ⟨i0, hi0, hz0, hz1, hz2⟩ := infoI
  refine ⟨if cap = i + 1 then ⟨g, 0, none⟩ else ⟨g, i + 1, none⟩, fun h => by rw [if_neg (by omega)], fun W => ?_⟩
  have e1 : ((i : Int) + 1).toNat = i + 1 := by omega
  have e2 : 0 ≤ (i : Int) + 1 ∧ (i : Int) + 1 ≤ (n : Int) := by omega
  by_cases hc : cap = i + 1
  · subst hc
    simp [Instr.slice, Instr.sliceBounds, Instr.sliceBound, asIntOf, run_underlying Try.underlying33, sizeOf, typeInfo, hi0, e1, e2, Addr.add]
  · simp [Instr.slice, Instr.sliceBounds, Instr.sliceBound, asIntOf, run_underlying Try.underlying33, sizeOf, typeInfo, hi0, hz1, e1, e2, Addr.add, hc]
theorem news_cut (g off m : Nat) (L : List Int) (w : World) (h : ∀ k, k < m → w.cell? ⟨g, off + k, none⟩ = some (.int .i64 (L.getD k 0))) (hL : L.length = m) :
    ∀ j u, (L.map (Value.int .i64))[j]? = some u → w.cell? ((⟨g, off, none⟩ : Addr).add j) = some u := fun j u hu => by
  have hadd : (⟨g, off, none⟩ : Addr).add j = ⟨g, off + j, none⟩ := by unfold Addr.add; split <;> simp_all
  have hj : j < L.length := by
    have := (List.getElem?_eq_some_iff.1 hu).1
    simpa using this
  rw [hadd, h j (by omega)]
  simp [hj] at hu
  simp [List.getD, hj, hu]
theorem cell_grown {w w' : World} {row : Option Nat} {g o : Nat} {u : Value} (h : w.grownBy w' row) (hg : g < w.heap.size) (hn : some g = row → False) (hc : w.cell? ⟨g, o, none⟩ = some u) : w'.cell? ⟨g, o, none⟩ = some u :=
  (World.cell?_of_block (w := w) (w' := w') (a := ⟨g, o, none⟩) (h.block g hg hn)).trans hc
theorem own_ne {w : World} {B g1 n cap : Nat} {xs : List Value} {g : Nat} (h : w.ownsRow B 3 1 (.slice (some ⟨g1, 0, none⟩) n cap) n xs) (hg : g < B) : some g = Value.ownBlock (.slice (some ⟨g1, 0, none⟩) n cap) → False := by
  intro e
  obtain ⟨_, ⟨e2, _⟩ | ⟨g', _, _, e2, hg', _⟩⟩ := h
  · cases e2
  · cases e2
    have : g = g1 := by simpa [Value.ownBlock] using e
    omega
theorem own_ge {w : World} {B g1 n cap : Nat} {xs : List Value} {k : Nat} (h : w.ownsRow B 3 1 (.slice (some ⟨g1, 0, none⟩) n cap) n xs) (e : Value.ownBlock (.slice (some ⟨g1, 0, none⟩) n cap) = some k) : B ≤ k := by
  obtain ⟨_, ⟨e2, _⟩ | ⟨g', _, _, e2, hg', _⟩⟩ := h
  · cases e2
  · cases e2
    have : g1 = k := by simpa [Value.ownBlock] using e
    omega
theorem own_cap {w : World} {B g1 n cap : Nat} {xs : List Value} (h : w.ownsRow B 3 1 (.slice (some ⟨g1, 0, none⟩) n cap) n xs) : n ≤ cap := by
  obtain ⟨_, ⟨e2, _⟩ | ⟨g', _, _, e2, _, _, hn, _⟩⟩ := h
  · cases e2
  · cases e2; exact hn
theorem res3 (T : Array Value) (x y z : Value) (W : World) (h1 : T.getD 4 undef = x) (h2 : T.getD 5 undef = y) (h3 : T.getD 6 undef = z) : (results Try.f27 T).run Try.prog W = .ok (.tuple #[x, y, z]) W := by
  simp [results, Try.results27, go_sem] at h1 h2 h3 ⊢
  exact ⟨h1, h2, h3⟩


set_option maxHeartbeats 2000000 in
theorem rrem_pt (g n cap i : Nat) (L : List Int) (x : Int) (w : World) (hn : n = L.length) (hx : L.getD i 0 = x) (hgs : g < w.heap.size) (hlc : n ≤ cap) (hcm : cap ≤ maxLen) (hl : n ≤ 4096) (hi0 : 0 < i) (ht : i + 1 < n)
    (hcell : ∀ k, k < L.length → w.cell? ⟨g, k, none⟩ = some (.int .i64 (L.getD k 0))) :
    Calls Try.prog 27 #[.slice (some ⟨g, 0, none⟩) n cap, .int .i64 i] w fun e w' => ∃ v', e = .returned (.tuple #[v', .int .i64 x, .int .i64 0]) ∧ SlI w' w.heap.size v' (L.eraseIdx i) ∧ Below w.heap.size w w' := by
  obtain ⟨i0, hi, hz0, hz1, hz2⟩ := infoI
  have v1 := hcell i (by omega)
  rw [hx] at v1
  have hiI : (i : Int) < n := by omega
  have hni : ¬ n ≤ i := by omega
  have hin : ¬ (i : Int) < 0 := by omega
  have hicI : (i : Int) ≤ cap := by omega
  have hwr : IntKind.i64.wrap ((i : Int) + 1) = (i : Int) + 1 := IntWalk.i64_in _ (by omega)
  have hc0 : (0 : Int) ≤ (i : Int) := by omega
  have hld : ∀ (a : Addr) (W : World), (loadCellsFrom a 0 0 #[]).run Try.prog W = .ok #[] W := fun a W => by simp [loadCellsFrom]
  obtain ⟨ad, had, hcut⟩ := cut_tail g n cap i (by omega) hlc
  have hE : L.eraseIdx i = L.take i ++ L.drop (i + 1) := List.eraseIdx_eq_take_drop_succ L i
  have hl1 : (L.take i).length = i := by rw [List.length_take]; omega
  have hl2 : (L.drop (i + 1)).length = n - (i + 1) := by rw [List.length_drop, hn]
  have HH := Lib.hid (show ((L.take i).map (Value.int .i64)).length = i * 1 ∧ (∀ j u, ((L.take i).map (Value.int .i64))[j]? = some u → w.cell? ((⟨g, 0, none⟩ : Addr).add j) = some u) from ⟨by rw [map_len, hl1, Nat.mul_one], news_cut g 0 i (L.take i) w (fun k hk => by rw [Nat.zero_add, hcell k (by omega)]; simp [List.getD, hk]) hl1⟩)
  have HT := Lib.hid (show ((L.drop (i + 1)).map (Value.int .i64)).length = (n - (i + 1)) * 1 ∧ (∀ w2 : World, (∀ k, k < L.length → w2.cell? ⟨g, k, none⟩ = some (.int .i64 (L.getD k 0))) → ∀ j u, ((L.drop (i + 1)).map (Value.int .i64))[j]? = some u → w2.cell? ((⟨g, i + 1, none⟩ : Addr).add j) = some u) from ⟨by rw [map_len, hl2, Nat.mul_one], fun w2 h2 => news_cut g (i + 1) (n - (i + 1)) (L.drop (i + 1)) w2 (fun k hk => by rw [h2 _ (by omega)]; simp [List.getD]) hl2⟩)
  have HE := Lib.hid (And.intro hE (And.intro hl1 hl2))
  have HL := Lib.hid hl
  have HC := Lib.hid hcell
  have HI0 := Lib.hid hi0
  have HTT := Lib.hid ht
  have HN := Lib.hid hn
  clear hE hl1 hl2 hcell hn hx hl ht
  have had := had HTT.out
  subst had
  go_enter Try.func27, Try.ntmps27
  go_wp2_with (at_builtin; refine wpList_append_lies _ rfl (.tmp 17) (.tmp 20) 33 rfl w.heap.size 3 i0 (.int .i64 0) 1 8 Try.underlying33 hi hz0 hz1 hz2 rfl (by decide) _ 0 [] rfl (World.ownsRow_nil _ _ _ _) ⟨g, 0, none⟩ i cap ((L.take i).map (Value.int .i64)) rfl HH.out.1 HH.out.2 (one_ints _) HI0.out (by unfold maxLen; have := HL.out; omega) (by have := HL.out; omega) (Nat.le_refl _) _ rfl ?_; intro g1 cap1 w1 hown1 hgrow1 hat1 hlt1; rw [Nat.zero_add] at hown1; rw [Nat.zero_add]; have x1 := cell_grown hgrow1 hgs (fun h => by cases h) v1; have HO := Lib.hid (And.intro hown1 (And.intro hgrow1 (fun k (hk : k < L.length) => cell_grown hgrow1 hgs (fun h => by cases h) (HC.out k hk)))); clear hown1 hgrow1 hat1)
  go_region_held3 (fun w' => w'.cell? ⟨g, i, none⟩ = some (.int .i64 x)) (go_keep)
    ((refine step_append_lies _ (by rfl) (.tmp 22) (.tmp 26) _ (by rfl) w.heap.size 3 i0 (.int .i64 0) 1 8 Try.underlying33 hi hz0 hz1 hz2 (by rfl) (by decide) (.slice (some ⟨g1, 0, none⟩) i cap1) i ([] ++ (L.take i).map (Value.int .i64)) (by rfl) (HO.out.1.drew) ⟨g, i + 1, none⟩ (n - (i + 1)) (cap - (i + 1)) ((L.drop (i + 1)).map (Value.int .i64)) (by rfl) HT.out.1 (HT.out.2 _ HO.out.2.2) (one_ints _) (by have := HTT.out; omega) (by unfold maxLen; have := HL.out; omega) (by have := HL.out; omega) (by have := HO.out.2.1.size; exact this) _ rfl ?_; intro g2 cap2 w2 hown2 hgrow2 hat2 hlt2; have x2 := cell_grown hgrow2 (Nat.lt_of_lt_of_le hgs HO.out.2.1.size) (own_ne HO.out.1 hgs) x1))
  all_goals
    go_wp2_with fail
    refine bodyPost_ret (res3 _ _ _ _ _ rfl rfl rfl) rfl ⟨_, rfl, ?_, ?_⟩
    · unfold SlI
      rw [HE.out.1, List.map_append, List.length_append, HE.out.2.1, HE.out.2.2]
      simpa using hown2
    · have b1 : Below w.heap.size w w1 := Below.grown (Below.refl _ _) HO.out.2.1 (Nat.le_refl _) (fun k hk => by cases hk)
      exact Below.grown b1.drew hgrow2 b1.size (fun k hk => own_ge HO.out.1 hk)

set_option maxHeartbeats 2000000 in
theorem rrem_zt (g n cap i : Nat) (L : List Int) (x : Int) (w : World) (hn : n = L.length) (hx : L.getD i 0 = x) (hgs : g < w.heap.size) (hlc : n ≤ cap) (hcm : cap ≤ maxLen) (hl : n ≤ 4096) (hi0 : i = 0) (ht : i + 1 < n)
    (hcell : ∀ k, k < L.length → w.cell? ⟨g, k, none⟩ = some (.int .i64 (L.getD k 0))) :
    Calls Try.prog 27 #[.slice (some ⟨g, 0, none⟩) n cap, .int .i64 i] w fun e w' => ∃ v', e = .returned (.tuple #[v', .int .i64 x, .int .i64 0]) ∧ SlI w' w.heap.size v' (L.eraseIdx i) ∧ Below w.heap.size w w' := by
  obtain ⟨i0, hi, hz0, hz1, hz2⟩ := infoI
  have v1 := hcell i (by omega)
  rw [hx] at v1
  have hiI : (i : Int) < n := by omega
  have hni : ¬ n ≤ i := by omega
  have hin : ¬ (i : Int) < 0 := by omega
  have hicI : (i : Int) ≤ cap := by omega
  have hwr : IntKind.i64.wrap ((i : Int) + 1) = (i : Int) + 1 := IntWalk.i64_in _ (by omega)
  have hc0 : (0 : Int) ≤ (i : Int) := by omega
  have hld : ∀ (a : Addr) (W : World), (loadCellsFrom a 0 0 #[]).run Try.prog W = .ok #[] W := fun a W => by simp [loadCellsFrom]
  obtain ⟨ad, had, hcut⟩ := cut_tail g n cap i (by omega) hlc
  have hE : L.eraseIdx i = L.take i ++ L.drop (i + 1) := List.eraseIdx_eq_take_drop_succ L i
  have hl1 : (L.take i).length = i := by rw [List.length_take]; omega
  have hl2 : (L.drop (i + 1)).length = n - (i + 1) := by rw [List.length_drop, hn]
  have HH := Lib.hid (show ((L.take i).map (Value.int .i64)).length = i * 1 ∧ (∀ j u, ((L.take i).map (Value.int .i64))[j]? = some u → w.cell? ((⟨g, 0, none⟩ : Addr).add j) = some u) from ⟨by rw [map_len, hl1, Nat.mul_one], news_cut g 0 i (L.take i) w (fun k hk => by rw [Nat.zero_add, hcell k (by omega)]; simp [List.getD, hk]) hl1⟩)
  have HT := Lib.hid (show ((L.drop (i + 1)).map (Value.int .i64)).length = (n - (i + 1)) * 1 ∧ (∀ w2 : World, (∀ k, k < L.length → w2.cell? ⟨g, k, none⟩ = some (.int .i64 (L.getD k 0))) → ∀ j u, ((L.drop (i + 1)).map (Value.int .i64))[j]? = some u → w2.cell? ((⟨g, i + 1, none⟩ : Addr).add j) = some u) from ⟨by rw [map_len, hl2, Nat.mul_one], fun w2 h2 => news_cut g (i + 1) (n - (i + 1)) (L.drop (i + 1)) w2 (fun k hk => by rw [h2 _ (by omega)]; simp [List.getD]) hl2⟩)
  have HE := Lib.hid (And.intro hE (And.intro hl1 hl2))
  have HL := Lib.hid hl
  have HC := Lib.hid hcell
  have HI0 := Lib.hid hi0
  have HTT := Lib.hid ht
  have HN := Lib.hid hn
  clear hE hl1 hl2 hcell hn hx hl ht
  subst hi0
  have had := had HTT.out
  subst had
  have hcut1 : ∀ W : World, (Instr.slice 33 (.slice (some ⟨g, 0, none⟩) n cap) (some (.int .i64 1)) none none).run Try.prog W = .ok (.slice (some ⟨g, 1, none⟩) (n - 1) (cap - 1)) W := hcut
  have hpos : (0 : Int) < n := hiI
  have hpos2 : 0 < n := by omega
  have hnz : ¬ n = 0 := by omega
  have hw1 : IntKind.i64.wrap 1 = 1 := by rfl
  have hn1I : (1 : Int) ≤ cap := by omega
  have hn1J : (1 : Int) ≤ n := by omega
  clear hcut hiI hni hin hicI hwr hc0
  go_enter Try.func27, Try.ntmps27
  go_wp2_with fail
  go_region_held3 (fun w' => w'.cell? ⟨g, 0, none⟩ = some (.int .i64 x)) (go_keep)
    ((refine step_append_lies _ (by rfl) (.tmp 22) (.tmp 26) _ (by rfl) w.heap.size 3 i0 (.int .i64 0) 1 8 Try.underlying33 hi hz0 hz1 hz2 (by rfl) (by decide) (.slice none 0 0) 0 [] (by rfl) (World.ownsRow_nil _ _ _ _) ⟨g, 1, none⟩ (n - 1) (cap - 1) ((L.drop 1).map (Value.int .i64)) (by rfl) HT.out.1 (HT.out.2 _ HC.out) (one_ints _) (by have := HTT.out; omega) (by unfold maxLen; have := HL.out; omega) (by have := HL.out; omega) (Nat.le_refl _) _ rfl ?_; intro g2 cap2 w2 hown2 hgrow2 hat2 hlt2; have x2 := cell_grown hgrow2 hgs (fun h => by cases h) v1))
  all_goals
    go_wp2_with fail
    refine bodyPost_ret (res3 _ _ _ _ _ rfl rfl rfl) rfl ⟨_, rfl, ?_, ?_⟩
    · unfold SlI
      rw [HE.out.1, List.map_append, List.length_append, HE.out.2.1, HE.out.2.2]
      simpa using hown2
    · exact Below.grown (Below.refl _ _).drew hgrow2 (Nat.le_refl _) (fun k hk => by cases hk)

set_option maxHeartbeats 2000000 in
theorem rrem_pe (g n cap i : Nat) (L : List Int) (x : Int) (w : World) (hn : n = L.length) (hx : L.getD i 0 = x) (hgs : g < w.heap.size) (hlc : n ≤ cap) (hcm : cap ≤ maxLen) (hl : n ≤ 4096) (hi0 : 0 < i) (ht : i + 1 = n)
    (hcell : ∀ k, k < L.length → w.cell? ⟨g, k, none⟩ = some (.int .i64 (L.getD k 0))) :
    Calls Try.prog 27 #[.slice (some ⟨g, 0, none⟩) n cap, .int .i64 i] w fun e w' => ∃ v', e = .returned (.tuple #[v', .int .i64 x, .int .i64 0]) ∧ SlI w' w.heap.size v' (L.eraseIdx i) ∧ Below w.heap.size w w' := by
  obtain ⟨i0, hi, hz0, hz1, hz2⟩ := infoI
  have v1 := hcell i (by omega)
  rw [hx] at v1
  have hiI : (i : Int) < n := by omega
  have hni : ¬ n ≤ i := by omega
  have hin : ¬ (i : Int) < 0 := by omega
  have hicI : (i : Int) ≤ cap := by omega
  have hwr : IntKind.i64.wrap ((i : Int) + 1) = (i : Int) + 1 := IntWalk.i64_in _ (by omega)
  have hc0 : (0 : Int) ≤ (i : Int) := by omega
  have hld : ∀ (a : Addr) (W : World), (loadCellsFrom a 0 0 #[]).run Try.prog W = .ok #[] W := fun a W => by simp [loadCellsFrom]
  obtain ⟨ad, had, hcut⟩ := cut_tail g n cap i (by omega) hlc
  have hE : L.eraseIdx i = L.take i ++ L.drop (i + 1) := List.eraseIdx_eq_take_drop_succ L i
  have hl1 : (L.take i).length = i := by rw [List.length_take]; omega
  have hl2 : (L.drop (i + 1)).length = n - (i + 1) := by rw [List.length_drop, hn]
  have HH := Lib.hid (show ((L.take i).map (Value.int .i64)).length = i * 1 ∧ (∀ j u, ((L.take i).map (Value.int .i64))[j]? = some u → w.cell? ((⟨g, 0, none⟩ : Addr).add j) = some u) from ⟨by rw [map_len, hl1, Nat.mul_one], news_cut g 0 i (L.take i) w (fun k hk => by rw [Nat.zero_add, hcell k (by omega)]; simp [List.getD, hk]) hl1⟩)
  have HT := Lib.hid (show ((L.drop (i + 1)).map (Value.int .i64)).length = (n - (i + 1)) * 1 ∧ (∀ w2 : World, (∀ k, k < L.length → w2.cell? ⟨g, k, none⟩ = some (.int .i64 (L.getD k 0))) → ∀ j u, ((L.drop (i + 1)).map (Value.int .i64))[j]? = some u → w2.cell? ((⟨g, i + 1, none⟩ : Addr).add j) = some u) from ⟨by rw [map_len, hl2, Nat.mul_one], fun w2 h2 => news_cut g (i + 1) (n - (i + 1)) (L.drop (i + 1)) w2 (fun k hk => by rw [h2 _ (by omega)]; simp [List.getD]) hl2⟩)
  have HE := Lib.hid (And.intro hE (And.intro hl1 hl2))
  have HL := Lib.hid hl
  have HC := Lib.hid hcell
  have HI0 := Lib.hid hi0
  have HTT := Lib.hid ht
  have HN := Lib.hid hn
  clear hE hl1 hl2 hcell hn hx hl ht
  clear had
  obtain rfl := HTT.out
  simp only [Nat.sub_self] at hcut
  go_enter Try.func27, Try.ntmps27
  go_wp2_with (at_builtin; refine wpList_append_lies _ rfl (.tmp 17) (.tmp 20) 33 rfl w.heap.size 3 i0 (.int .i64 0) 1 8 Try.underlying33 hi hz0 hz1 hz2 rfl (by decide) _ 0 [] rfl (World.ownsRow_nil _ _ _ _) ⟨g, 0, none⟩ i cap ((L.take i).map (Value.int .i64)) rfl HH.out.1 HH.out.2 (one_ints _) HI0.out (by unfold maxLen; have := HL.out; omega) (by have := HL.out; omega) (Nat.le_refl _) _ rfl ?_; intro g1 cap1 w1 hown1 hgrow1 hat1 hlt1; rw [Nat.zero_add] at hown1; rw [Nat.zero_add]; have x1 := cell_grown hgrow1 hgs (fun h => by cases h) v1; have HO := Lib.hid (And.intro hown1 (And.intro hgrow1 (fun k (hk : k < L.length) => cell_grown hgrow1 hgs (fun h => by cases h) (HC.out k hk)))); clear hown1 hgrow1 hat1)
  have hst : ∀ (a : Addr) (k : Nat) (W : World), (storeCells a [] k).run Try.prog W = .ok () W := fun a k W => by simp [storeCells]
  have hic1 := own_cap HO.out.1
  go_quiet (fail)
  go_wp2_with fail
  refine bodyPost_ret (res3 _ _ _ _ _ rfl rfl rfl) rfl ⟨_, rfl, ?_, ?_⟩
  · have e0 : L.drop (i + 1) = [] := List.drop_eq_nil_of_le (by have := HN.out; omega)
    unfold SlI
    rw [HE.out.1, e0, List.append_nil, HE.out.2.1]
    simpa using (show World.ownsRow (w1.drewN nq) w.heap.size 3 1 (.slice (some ⟨g1, 0, none⟩) i cap1) i ([] ++ (L.take i).map (Value.int .i64)) from HO.out.1)
  · have b1 : Below w.heap.size w w1 := Below.grown (Below.refl _ _) HO.out.2.1 (Nat.le_refl _) (fun k hk => by cases hk)
    exact b1.trans ⟨rfl, rfl, rfl, Nat.le_refl _, fun _ _ => rfl⟩

set_option maxHeartbeats 2000000 in
theorem rrem_ze (g n cap i : Nat) (L : List Int) (x : Int) (w : World) (hn : n = L.length) (hx : L.getD i 0 = x) (hgs : g < w.heap.size) (hlc : n ≤ cap) (hcm : cap ≤ maxLen) (hl : n ≤ 4096) (hi0 : i = 0) (ht : i + 1 = n)
    (hcell : ∀ k, k < L.length → w.cell? ⟨g, k, none⟩ = some (.int .i64 (L.getD k 0))) :
    Calls Try.prog 27 #[.slice (some ⟨g, 0, none⟩) n cap, .int .i64 i] w fun e w' => ∃ v', e = .returned (.tuple #[v', .int .i64 x, .int .i64 0]) ∧ SlI w' w.heap.size v' (L.eraseIdx i) ∧ Below w.heap.size w w' := by
  obtain ⟨i0, hi, hz0, hz1, hz2⟩ := infoI
  have v1 := hcell i (by omega)
  rw [hx] at v1
  have hiI : (i : Int) < n := by omega
  have hni : ¬ n ≤ i := by omega
  have hin : ¬ (i : Int) < 0 := by omega
  have hicI : (i : Int) ≤ cap := by omega
  have hwr : IntKind.i64.wrap ((i : Int) + 1) = (i : Int) + 1 := IntWalk.i64_in _ (by omega)
  have hc0 : (0 : Int) ≤ (i : Int) := by omega
  have hld : ∀ (a : Addr) (W : World), (loadCellsFrom a 0 0 #[]).run Try.prog W = .ok #[] W := fun a W => by simp [loadCellsFrom]
  obtain ⟨ad, had, hcut⟩ := cut_tail g n cap i (by omega) hlc
  have hE : L.eraseIdx i = L.take i ++ L.drop (i + 1) := List.eraseIdx_eq_take_drop_succ L i
  have hl1 : (L.take i).length = i := by rw [List.length_take]; omega
  have hl2 : (L.drop (i + 1)).length = n - (i + 1) := by rw [List.length_drop, hn]
  have HH := Lib.hid (show ((L.take i).map (Value.int .i64)).length = i * 1 ∧ (∀ j u, ((L.take i).map (Value.int .i64))[j]? = some u → w.cell? ((⟨g, 0, none⟩ : Addr).add j) = some u) from ⟨by rw [map_len, hl1, Nat.mul_one], news_cut g 0 i (L.take i) w (fun k hk => by rw [Nat.zero_add, hcell k (by omega)]; simp [List.getD, hk]) hl1⟩)
  have HT := Lib.hid (show ((L.drop (i + 1)).map (Value.int .i64)).length = (n - (i + 1)) * 1 ∧ (∀ w2 : World, (∀ k, k < L.length → w2.cell? ⟨g, k, none⟩ = some (.int .i64 (L.getD k 0))) → ∀ j u, ((L.drop (i + 1)).map (Value.int .i64))[j]? = some u → w2.cell? ((⟨g, i + 1, none⟩ : Addr).add j) = some u) from ⟨by rw [map_len, hl2, Nat.mul_one], fun w2 h2 => news_cut g (i + 1) (n - (i + 1)) (L.drop (i + 1)) w2 (fun k hk => by rw [h2 _ (by omega)]; simp [List.getD]) hl2⟩)
  have HE := Lib.hid (And.intro hE (And.intro hl1 hl2))
  have HL := Lib.hid hl
  have HC := Lib.hid hcell
  have HI0 := Lib.hid hi0
  have HTT := Lib.hid ht
  have HN := Lib.hid hn
  clear hE hl1 hl2 hcell hn hx hl ht
  subst hi0
  clear had
  obtain rfl := HTT.out
  have hcut1 : ∀ W : World, (Instr.slice 33 (.slice (some ⟨g, 0, none⟩) 1 cap) (some (.int .i64 1)) none none).run Try.prog W = .ok (.slice (some ad) 0 (cap - 1)) W := hcut
  have hcap1 : 1 ≤ cap := hlc
  clear hcut hiI hni hin hicI hwr hc0 hlc
  show Calls Try.prog 27 #[.slice (some ⟨g, 0, none⟩) 1 cap, .int .i64 0] w _
  go_enter Try.func27, Try.ntmps27
  go_wp2_with fail
  have hst : ∀ (a : Addr) (k : Nat) (W : World), (storeCells a [] k).run Try.prog W = .ok () W := fun a k W => by simp [storeCells]
  go_quiet (fail)
  go_wp2_with fail
  refine bodyPost_ret (res3 _ _ _ _ _ rfl rfl rfl) rfl ⟨_, rfl, ?_, ?_⟩
  · have e0 : L.drop (0 + 1) = [] := List.drop_eq_nil_of_le (by have := HN.out; omega)
    unfold SlI
    rw [HE.out.1, e0, List.append_nil, HE.out.2.1]
    simpa using World.ownsRow_nil (w.drewN nq) w.heap.size 3 1
  · exact ⟨rfl, rfl, rfl, Nat.le_refl _, fun _ _ => rfl⟩

theorem rrem_at (base : Nat) (v : Value) (L : List Int) (i : Nat) (w : World) (h : SlI w base v L) (hl : L.length ≤ 4096) (hi : i < L.length) :
    Calls Try.prog 27 #[v, .int .i64 i] w fun e w' => ∃ v', e = .returned (.tuple #[v', .int .i64 (L.getD i 0), .int .i64 0]) ∧ SlI w' w.heap.size v' (L.eraseIdx i) ∧ Below w.heap.size w w' := by
  rcases h.cases with ⟨rfl, rfl⟩ | ⟨g, cap, rfl, hg, hgs, hlc, hcm, hcell⟩
  · simp at hi
  · rcases (show i = 0 ∨ 0 < i by omega) with h0 | h0 <;> rcases (show i + 1 = L.length ∨ i + 1 < L.length by omega) with h1 | h1
    · exact rrem_ze g _ cap i L _ w rfl rfl hgs hlc hcm hl h0 h1 hcell
    · exact rrem_zt g _ cap i L _ w rfl rfl hgs hlc hcm hl h0 h1 hcell
    · exact rrem_pe g _ cap i L _ w rfl rfl hgs hlc hcm hl h0 h1 hcell
    · exact rrem_pt g _ cap i L _ w rfl rfl hgs hlc hcm hl h0 h1 hcell
end numbers
end Go.Proofs.Ytiecdlfdfphflaa
