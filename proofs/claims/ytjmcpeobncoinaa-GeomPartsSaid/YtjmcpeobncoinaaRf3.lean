/- A law for 'for x := range seq', as in Rf2; what an iterator reads and what it writes are told apart. No program in sight. -/
import Derived.Test.YtjmcpeobncoinaaRf
namespace Go.Proofs.Ytjmcpeobncoinaa
set_option linter.unusedVariables false
open Go.RowKit
variable {P : Program}

/-- AN ITERATOR's CALL, as ItCall; the body may not write what it reads ('reads'); it writes blocks of 'mine' and new ones alone. -/
def ItCall2 (P : Program) (g : Nat) (lb : Array Value) (xs : List (Array Value)) (reads mine : Nat → Prop) (W : World) : Prop :=
  ∀ (l : Nat) (cw : Nat → Prop) (J : Nat → World → Prop) (Jx : World → Prop), cw l → (∀ b, cw b → b < W.heap.size ∧ ¬ reads b) →
    (∀ k A B, J k A → Chg (fun b => mine b ∨ W.heap.size ≤ b) A B → J k B) → (∀ A B, Jx A → Chg (fun b => mine b ∨ W.heap.size ≤ b) A B → Jx B) →
    (∀ k x A m, xs[k]? = some x → J k A → W.heap.size ≤ A.heap.size → YieldAt Fence.wide m P l x A fun e A' => Chg cw A A' ∧ ((e = .returned (.bool true) ∧ J (k + 1) A') ∨ (e = .returned (.bool false) ∧ Jx A'))) →
    J 0 W →
    Calls P g (#[.func (.yield l) #[] #[]] ++ lb) W fun e W' => (∃ v, e = .returned v) ∧ (J xs.length W' ∨ Jx W')
theorem ItCall.two {g : Nat} {lb : Array Value} {xs : List (Array Value)} {mine : Nat → Prop} {W : World} (h : ItCall P g lb xs mine W) : ItCall2 P g lb xs mine mine W := h

/-- ONE ROUND, for the record 'rec' at block l. -/
theorem it_round3 {assign body : Code} {ps : Array Tmp} {a : Act} {x : Array Value} {m l B k fn D : Nat} {cw : Nat → Prop} {I : Nat → World → Prop} {Ix : Code → World → Prop} {Ax : Nat → Act → World → Prop} {mine : Nat → Prop}
    {rec : LoopState → Option Code → Loop} (hrec : rec = fun st pe => { state := st, pending := pe, fn, tmps := a.tmps, params := ps, assign, body, defers := D })
    (hps : x.size = ps.size) (hlB : B ≤ l) (hcw : ∀ b, cw b → b < B)
    (hI : ∀ k A A', I k A → Chg (fun b => mine b ∨ B ≤ b) A A' → I k A') (hIx : ∀ c A A', Ix c A → Chg (fun b => mine b ∨ B ≤ b) A A' → Ix c A') (hAx : ∀ k a' A A', Ax k a' A → Chg (fun b => b = l) A A' → Ax k a' A')
    {W : World} (hi : I k W) (hl : W.heap[l]? = some (.loop (rec .ready none)))
    (hassign : assign.wpIn (Fence.wide.inRound l) m P (Exit.then (fun a₁ W₁ => Chg cw W W₁ ∧ I k W₁ ∧ Ax k a₁ W₁) (fun _ _ _ => False)) { tmps := (ps.zip x).foldl (fun t (p, v) => t.setIfInBounds p v) a.tmps, defers := [] } W)
    (hbody : ∀ a₁ W₁, (∃ r, W₁.heap[l]? = some (.loop r) ∧ r.defers = D) → W.heap.size ≤ W₁.heap.size → I k W₁ → Ax k a₁ W₁ → body.wpIn (Fence.wide.inRound l) m P (itPost cw I Ix (k + 1) W₁) a₁ W₁) :
    YieldAt Fence.wide m P l x W fun e W' => Chg (fun b => cw b ∨ b = l) W W' ∧
      ((e = .returned (.bool true) ∧ I (k + 1) W' ∧ W'.heap[l]? = some (.loop (rec .ready none))) ∨ (e = .returned (.bool false) ∧ ∃ c, Ix c W' ∧ W'.heap[l]? = some (.loop (rec .done (some c))))) := by
  have hlt : l < W.heap.size := (Array.getElem?_eq_some_iff.1 hl).1
  have hy := run_yield (P := P) (args := x) hl (by rw [hrec]; exact hps)
  rw [hrec] at hy
  refine ⟨fn, _, assign, body, hy, roundIn_of_wpIn trivial (wpIn_mono hassign ?_)⟩
  clear hy
  rintro e a₁ W₁ hp
  cases e with
  | normal =>
    obtain ⟨hc1, hi1, hax⟩ := hp
    have hl1 : W₁.heap[l]? = some (.loop (rec .ready none)) := (hc1.block l hlt (fun h => by have := hcw l h; omega)).trans hl
    have hlt1 : l < W₁.heap.size := Nat.lt_of_lt_of_le hlt hc1.size
    refine ⟨_, run_beginRound hl1 (by rw [hrec]), ?_⟩
    have hl2 : (W₁.putObj l (.loop { rec .ready none with state := .busy })).heap[l]? = some (.loop { rec .ready none with state := .busy }) := World.putObj_heap_same hlt1
    have hst : Chg (fun b => mine b ∨ B ≤ b) W₁ (W₁.putObj l (.loop { rec .ready none with state := .busy })) := (Chg.refl _ _).putObj (.inl (.inr hlB)) _
    have hcr : Chg (fun b => cw b ∨ b = l) W (W₁.putObj l (.loop { rec .ready none with state := .busy })) := (hc1.mono (fun _ _ h => .inl h)).putObj (.inl (.inr rfl)) _
    refine wpIn_mono (hbody a₁ _ ⟨_, hl2, by rw [hrec]⟩ (by simpa using hc1.size) (hI _ _ _ hi1 hst) (hAx _ _ _ _ hax (Chg.putObj (cw := fun b => b = l) (Chg.refl (fun b => b = l) W₁) (.inl rfl) _))) ?_
    have fin : ∀ (jump : Option Code) (W3 : World), Chg cw (W₁.putObj l (.loop { rec .ready none with state := .busy })) W3 →
        (Instr.endRound l jump).run P W3 = .ok (.bool jump.isNone) (W3.putObj l (.loop (rec (if jump.isNone then .ready else .done) jump))) ∧
        (W3.putObj l (.loop (rec (if jump.isNone then .ready else .done) jump))).heap[l]? = some (.loop (rec (if jump.isNone then .ready else .done) jump)) ∧
        Chg (fun b => mine b ∨ B ≤ b) W3 (W3.putObj l (.loop (rec (if jump.isNone then .ready else .done) jump))) ∧
        Chg (fun b => cw b ∨ b = l) W (W3.putObj l (.loop (rec (if jump.isNone then .ready else .done) jump))) := fun jump W3 hk3 => by
      have hl3 := (hk3.block l (by simpa using hlt1) (fun h => by have := hcw l h; omega)).trans hl2
      have := run_endRound (P := P) jump hl3
      rw [hrec] at this ⊢
      exact ⟨this, World.putObj_heap_same (Array.getElem?_eq_some_iff.1 hl3).1, (Chg.refl _ _).putObj (.inl (.inr hlB)) _, by rw [hrec] at hcr hk3; exact (hcr.trans (hk3.mono (fun _ _ h => .inl h))).putObj (.inl (.inr rfl)) _⟩
    rintro e a3 W3 hp
    cases e with
    | normal =>
      obtain ⟨hk3, hi3⟩ := hp
      obtain ⟨hr, hl4, hs4, hc4⟩ := fin none W3 hk3
      exact ⟨_, _, hr, hc4, .inl ⟨rfl, hI _ _ _ hi3 hs4, hl4⟩⟩
    | ret =>
      obtain ⟨hk3, hi3⟩ := hp
      obtain ⟨hr, hl4, hs4, hc4⟩ := fin (some .ret) W3 hk3
      exact ⟨_, _, hr, hc4, .inr ⟨rfl, .ret, hIx _ _ _ hi3 hs4, hl4⟩⟩
    | exit id =>
      obtain ⟨hk3, hi3⟩ := hp
      obtain ⟨hr, hl4, hs4, hc4⟩ := fin (some (.exit id)) W3 hk3
      exact ⟨_, _, hr, hc4, .inr ⟨rfl, .exit id, hIx _ _ _ hi3 hs4, hl4⟩⟩
    | goto t =>
      obtain ⟨hk3, hi3⟩ := hp
      obtain ⟨hr, hl4, hs4, hc4⟩ := fin (some (.goto t)) W3 hk3
      exact ⟨_, _, hr, hc4, .inr ⟨rfl, .goto t, hIx _ _ _ hi3 hs4, hl4⟩⟩
    | panic ch => exact hp.elim
    | outgrown => exact hp.elim
  | ret => exact hp.elim
  | exit id => exact hp.elim
  | goto t => exact hp.elim
  | panic ch => exact hp.elim
  | outgrown => exact hp.elim

/-- THE STATEMENT, at an outermost loop. -/
theorem wpIn_rangeFunc_it3 {g : Operand} {ps : Array Tmp} {assign body : Code} {Q : Exit → Act → World → Prop} {a : Act} {w : World} (n m : Nat)
    {gf : Nat} {lb : Array Value} (hg : a.eval g = .func (.func gf) #[] lb) (eg : ∀ args w, (callFunc gf args).run P w = .ok (.enter gf args) w)
    (xs : List (Array Value)) (reads mine : Nat → Prop) (hreads : ∀ b, reads b → b < w.heap.size) (hmine : ∀ b, mine b → b < w.heap.size) (hseq : ∀ W1, Below w.heap.size w W1 → ItCall2 P gf lb xs reads mine W1) (hps : ∀ (k : Nat) x, xs[k]? = some x → x.size = ps.size)
    (cw : Nat → Prop) (hcw : ∀ b, cw b → b < w.heap.size ∧ ¬ reads b)
    (I : Nat → World → Prop) (Ix : Code → World → Prop) (Ax : Nat → Nat → Act → World → Prop)
    (hI : ∀ k A A', I k A → Chg (fun b => mine b ∨ w.heap.size ≤ b) A A' → I k A') (hIx : ∀ c A A', Ix c A → Chg (fun b => mine b ∨ w.heap.size ≤ b) A A' → Ix c A') (hAx : ∀ l k a' A A', Ax l k a' A → Chg (fun b => b = l) A A' → Ax l k a' A') (h0 : I 0 w)
    (hassign : ∀ l k x W, xs[k]? = some x → w.heap.size ≤ l → l < W.heap.size → I k W →
      assign.wpIn (Fence.wide.inRound l) m P (Exit.then (fun a₁ W₁ => Chg cw W W₁ ∧ I k W₁ ∧ Ax l k a₁ W₁) (fun _ _ _ => False)) { tmps := (ps.zip x).foldl (fun t (p, v) => t.setIfInBounds p v) a.tmps, defers := [] } W)
    (hbody : ∀ l k x a₁ W, xs[k]? = some x → w.heap.size ≤ l → w.heap.size < W.heap.size → (∃ r, W.heap[l]? = some (.loop r) ∧ r.defers = w.heap.size) → I k W → Ax l k a₁ W → body.wpIn (Fence.wide.inRound l) m P (itPost cw I Ix (k + 1) W) a₁ W)
    (hdone : ∀ D W, w.heap.size ≤ D → I xs.length W → W.heap[D]? = some (.deferred (some [])) → Q .normal { a with defers := { target := .collected D, args := #[] } :: a.defers } W)
    (hstop : ∀ D c W, w.heap.size ≤ D → Ix c W → W.heap[D]? = some (.deferred (some [])) → c.wpIn Fence.wide n P Q { a with defers := { target := .collected D, args := #[] } :: a.defers } W) :
    (Code.rangeFunc g ps assign body).wpIn Fence.wide n P Q a w := by
  refine wpIn_rangeFunc ?_
  intro fn _
  obtain ⟨rec, hrec⟩ : ∃ rec : LoopState → Option Code → Loop, rec = fun st pe => { state := st, pending := pe, fn, tmps := a.tmps, params := ps, assign, body, defers := w.heap.size } := ⟨_, rfl⟩
  obtain ⟨W1, hW1⟩ : ∃ W1, (w.alloc (.deferred (some []))).alloc (.loop (rec .ready none)) = W1 := ⟨_, rfl⟩
  have hL1 : W1.heap[w.heap.size + 1]? = some (.loop (rec .ready none)) := by
    rw [← hW1]; have := World.alloc_heap_new (w.alloc (.deferred (some []))) (.loop (rec .ready none)); rwa [World.size_alloc] at this
  have hK1 : W1.heap[w.heap.size]? = some (.deferred (some [])) := by
    rw [← hW1]; exact (Below.heap_alloc _ _ _ (by simp)).trans (World.alloc_heap_new w _)
  have hs1 : W1.heap.size = w.heap.size + 1 + 1 := by rw [← hW1]; simp
  have hb1 : Below w.heap.size w W1 := by rw [← hW1]; exact ((Below.refl _ w).alloc (Nat.le_refl _) _).alloc (by simp) _
  have hI1 : I 0 W1 := hI _ _ _ h0 (Chg.of_below hb1 _)
  refine ⟨w.heap.size + 1, [{ target := .collected w.heap.size, args := #[] }], W1, { target := .fn (.func gf) lb, args := #[.func (.yield (w.heap.size + 1)) #[] #[]] }, W1, gf,
    #[.func (.yield (w.heap.size + 1)) #[] #[]] ++ lb, W1, ?_, ?_, ?_, ?_, fun h => by simp [Fence.wide] at h, ?_⟩
  · rw [← hW1, hrec]; exact run_enterLoop_outer _ _ _ _ _
  · simp only [resolve, hg]
    simp [go_sem]
  · intro f' _; trivial
  · simp [invoke, go_sem, eg]
  · refine callsIn_wide.2 ((hseq W1 hb1 (w.heap.size + 1) (fun b => cw b ∨ b = w.heap.size + 1)
      (fun k W => I k W ∧ W.heap[w.heap.size + 1]? = some (.loop (rec .ready none)) ∧ W.heap[w.heap.size]? = some (.deferred (some [])) ∧ w.heap.size < W.heap.size)
      (fun W => ∃ c, Ix c W ∧ W.heap[w.heap.size + 1]? = some (.loop (rec .done (some c))) ∧ W.heap[w.heap.size]? = some (.deferred (some [])))
      (.inr rfl) ?_ ?_ ?_ ?_ ⟨hI1, hL1, hK1, by omega⟩).mono ?_)
    · rintro b (h | rfl)
      · have := hcw b h; exact ⟨by omega, this.2⟩
      · exact ⟨by omega, fun h => by have := hreads _ h; omega⟩
    · rintro k A B ⟨hi, hl, hk, hs⟩ hc
      have hle : ∀ i, i ≤ w.heap.size + 1 → w.heap.size ≤ i → ¬ (mine i ∨ W1.heap.size ≤ i) := fun i h1 h2 h => by
        rcases h with h | h
        · have := hmine _ h; omega
        · omega
      exact ⟨hI _ _ _ hi (hc.mono (fun i _ h => h.imp id (fun h => by omega))), (hc.block _ (Array.getElem?_eq_some_iff.1 hl).1 (hle _ (Nat.le_refl _) (by omega))).trans hl,
        (hc.block _ (Array.getElem?_eq_some_iff.1 hk).1 (hle _ (by omega) (Nat.le_refl _))).trans hk, Nat.lt_of_lt_of_le hs hc.size⟩
    · rintro A B ⟨c, hi, hl, hk⟩ hc
      have hle : ∀ i, i ≤ w.heap.size + 1 → w.heap.size ≤ i → ¬ (mine i ∨ W1.heap.size ≤ i) := fun i h1 h2 h => by
        rcases h with h | h
        · have := hmine _ h; omega
        · omega
      exact ⟨c, hIx _ _ _ hi (hc.mono (fun i _ h => h.imp id (fun h => by omega))), (hc.block _ (Array.getElem?_eq_some_iff.1 hl).1 (hle _ (Nat.le_refl _) (by omega))).trans hl,
        (hc.block _ (Array.getElem?_eq_some_iff.1 hk).1 (hle _ (by omega) (Nat.le_refl _))).trans hk⟩
    · rintro k x W m' hx ⟨hi, hl, hk, hs⟩ _
      refine YieldAt.mono (yieldAt_any (n := m) (it_round3 (k := k) hrec (hps _ _ hx) (by omega) (fun b h => (hcw b h).1) hI hIx (hAx _) hi hl (hassign _ k x W hx (by omega) (Array.getElem?_eq_some_iff.1 hl).1 hi)
        (fun a₁ W₁ h1 h2 h3 h4 => hbody _ k x a₁ W₁ hx (by omega) (by omega) h1 h3 h4))) ?_
      rintro e A' ⟨hc, hres⟩
      have hk' : A'.heap[w.heap.size]? = some (.deferred (some [])) := (hc.block _ (Array.getElem?_eq_some_iff.1 hk).1 (fun h => by
        rcases h with h | h
        · have := hcw _ h; omega
        · omega)).trans hk
      refine ⟨hc, ?_⟩
      rcases hres with ⟨rfl, hi', hl'⟩ | ⟨rfl, c, hi', hl'⟩
      · exact .inl ⟨rfl, hi', hl', hk', Nat.lt_of_lt_of_le hs hc.size⟩
      · exact .inr ⟨rfl, c, hi', hl', hk'⟩
    · rintro e W2 ⟨⟨v, rfl⟩, (⟨hi, hl, hk, _⟩ | ⟨c, hi, hl, hk⟩)⟩
      · refine ⟨none, _, by have := run_endLoop (P := P) hl (by rw [hrec]; simp); rw [hrec] at this; exact this, hdone _ _ (Nat.le_refl _) (hI _ _ _ hi ((Chg.refl _ _).putObj (.inl (.inr (by omega))) _)) ((World.putObj_heap_other (by omega)).trans hk)⟩
      · refine ⟨some c, _, by have := run_endLoop (P := P) hl (by rw [hrec]; simp); rw [hrec] at this; exact this, hstop _ c _ (Nat.le_refl _) (hIx _ _ _ hi ((Chg.refl _ _).putObj (.inl (.inr (by omega))) _)) ((World.putObj_heap_other (by omega)).trans hk)⟩

end Go.Proofs.Ytjmcpeobncoinaa
