/- A law for 'for x := range seq' where the iterator writes nothing that lies there, and the body may write blocks that it made itself in earlier rounds (an append in place); at an outermost loop and at a loop within a round. No program in sight. -/
import Derived.Test.YtjmcpeobncoinaaRf3
import Derived.Test.YtjmcpeobncoinaaOw
namespace Go.Proofs.Ytjmcpeobncoinaa
set_option linter.unusedVariables false
open Go.RowKit
variable {P : Program}

/-- AN ITERATOR's CALL that writes nothing elder; the body may write whatever it does not read. -/
def ItCallK (P : Program) (g : Nat) (lb : Array Value) (xs : List (Array Value)) (reads : Nat → Prop) (W : World) : Prop :=
  ∀ (l : Nat) (cw : Nat → Prop) (J : Nat → World → Prop) (Jx : World → Prop), cw l → (∀ b, cw b → ¬ reads b) →
    (∀ k A B, J k A → Keeps A B → J k B) → (∀ A B, Jx A → Keeps A B → Jx B) →
    (∀ k x A m, xs[k]? = some x → J k A → W.heap.size ≤ A.heap.size → YieldAt Fence.wide m P l x A fun e A' => Chg cw A A' ∧ ((e = .returned (.bool true) ∧ J (k + 1) A') ∨ (e = .returned (.bool false) ∧ Jx A'))) →
    J 0 W →
    Calls P g (#[.func (.yield l) #[] #[]] ++ lb) W fun e W' => (∃ v, e = .returned v) ∧ (J xs.length W' ∨ Jx W')
theorem ItCallK.two {g : Nat} {lb : Array Value} {xs : List (Array Value)} {reads mine : Nat → Prop} {W : World} (h : ItCallK P g lb xs reads W) : ItCall2 P g lb xs reads mine W :=
  fun l cw J Jx hl hcw sJ sJx hY h0 => h l cw J Jx hl (fun b hb => (hcw b hb).2) (fun k A B hj hk => sJ k A B hj (Chg.of_below hk _)) (fun A B hj hk => sJx A B hj (Chg.of_below hk _)) hY h0

/-- ONE ROUND, for the record 'rec' at block l. -/
theorem it_roundK {assign body : Code} {ps : Array Tmp} {a : Act} {x : Array Value} {m l k fn D : Nat} {cw : Nat → Prop} {I : Nat → World → Prop} {Ix : Code → World → Prop} {Ax : Nat → Act → World → Prop}
    {rec : LoopState → Option Code → Loop} (hrec : rec = fun st pe => { state := st, pending := pe, fn, tmps := a.tmps, params := ps, assign, body, defers := D })
    (hps : x.size = ps.size) (hcw : ¬ cw l)
    (hI : ∀ k A A', I k A → Chg (fun b => b = l) A A' → I k A') (hIx : ∀ c A A', Ix c A → Chg (fun b => b = l) A A' → Ix c A') (hAx : ∀ k a' A A', Ax k a' A → Chg (fun b => b = l) A A' → Ax k a' A')
    {W : World} (hi : I k W) (hl : W.heap[l]? = some (.loop (rec .ready none)))
    (hassign : assign.wpIn (Fence.wide.inRound l) m P (Exit.then (fun a₁ W₁ => Chg cw W W₁ ∧ I k W₁ ∧ Ax k a₁ W₁) (fun _ _ _ => False)) { tmps := (ps.zip x).foldl (fun t (p, v) => t.setIfInBounds p v) a.tmps, defers := [] } W)
    (hbody : ∀ a₁ W₁, (∃ r, W₁.heap[l]? = some (.loop r) ∧ r.defers = D) → W.heap.size ≤ W₁.heap.size → I k W₁ → Ax k a₁ W₁ → body.wpIn (Fence.wide.inRound l) m P (itPost cw I Ix (k + 1) W₁) a₁ W₁) :
    YieldAt Fence.wide m P l x W fun e W' => Chg (fun b => cw b ∨ b = l) W W' ∧
      ((e = .returned (.bool true) ∧ I (k + 1) W' ∧ W'.heap[l]? = some (.loop (rec .ready none))) ∨ (e = .returned (.bool false) ∧ ∃ c, Ix c W' ∧ W'.heap[l]? = some (.loop (rec .done (some c))))) := by
  have hlt : l < W.heap.size := (Array.getElem?_eq_some_iff.1 hl).1
  have hy := run_yield (P := P) (args := x) hl (by rw [hrec]; exact hps)
  rw [hrec] at hy
  refine ⟨fn, _, assign, body, hy, roundIn_of_wpIn trivial (wpIn_mono hassign ?_)⟩
  clear hy
  rintro e a₁ W₁ hp
  cases e with
  | normal =>
    obtain ⟨hc1, hi1, hax⟩ := hp
    have hl1 : W₁.heap[l]? = some (.loop (rec .ready none)) := (hc1.block l hlt hcw).trans hl
    have hlt1 : l < W₁.heap.size := Nat.lt_of_lt_of_le hlt hc1.size
    refine ⟨_, run_beginRound hl1 (by rw [hrec]), ?_⟩
    have hl2 : (W₁.putObj l (.loop { rec .ready none with state := .busy })).heap[l]? = some (.loop { rec .ready none with state := .busy }) := World.putObj_heap_same hlt1
    have hst : Chg (fun b => b = l) W₁ (W₁.putObj l (.loop { rec .ready none with state := .busy })) := Chg.putObj (cw := fun b => b = l) (Chg.refl _ _) (.inl rfl) _
    have hcr : Chg (fun b => cw b ∨ b = l) W (W₁.putObj l (.loop { rec .ready none with state := .busy })) := (hc1.mono (fun _ _ h => .inl h)).putObj (.inl (.inr rfl)) _
    refine wpIn_mono (hbody a₁ _ ⟨_, hl2, by rw [hrec]⟩ (by simpa using hc1.size) (hI _ _ _ hi1 hst) (hAx _ _ _ _ hax hst)) ?_
    have fin : ∀ (jump : Option Code) (W3 : World), Chg cw (W₁.putObj l (.loop { rec .ready none with state := .busy })) W3 →
        (Instr.endRound l jump).run P W3 = .ok (.bool jump.isNone) (W3.putObj l (.loop (rec (if jump.isNone then .ready else .done) jump))) ∧
        (W3.putObj l (.loop (rec (if jump.isNone then .ready else .done) jump))).heap[l]? = some (.loop (rec (if jump.isNone then .ready else .done) jump)) ∧
        Chg (fun b => b = l) W3 (W3.putObj l (.loop (rec (if jump.isNone then .ready else .done) jump))) ∧
        Chg (fun b => cw b ∨ b = l) W (W3.putObj l (.loop (rec (if jump.isNone then .ready else .done) jump))) := fun jump W3 hk3 => by
      have hl3 := (hk3.block l (by simpa using hlt1) hcw).trans hl2
      have := run_endRound (P := P) jump hl3
      rw [hrec] at this ⊢
      exact ⟨this, World.putObj_heap_same (Array.getElem?_eq_some_iff.1 hl3).1, Chg.putObj (cw := fun b => b = l) (Chg.refl _ _) (.inl rfl) _, by rw [hrec] at hcr hk3; exact (hcr.trans (hk3.mono (fun _ _ h => .inl h))).putObj (.inl (.inr rfl)) _⟩
    rintro e a3 W3 hp
    cases e with
    | normal =>
      obtain ⟨hk3, hi3⟩ := hp
      obtain ⟨hr, hl4, hs4, hc4⟩ := fin none W3 hk3
      exact ⟨_, _, hr, hc4, .inl ⟨rfl, hI _ _ _ hi3 hs4, hl4⟩⟩
    | ret =>
      obtain ⟨hk3, hi3⟩ := hp
      obtain ⟨hr, hl4, hs4, hc4⟩ := fin (some .ret) W3 hk3
      exact ⟨_, _, hr, hc4, .inr ⟨rfl, .ret, hIx _ _ _ hi3 hs4, hl4⟩⟩
    | exit id =>
      obtain ⟨hk3, hi3⟩ := hp
      obtain ⟨hr, hl4, hs4, hc4⟩ := fin (some (.exit id)) W3 hk3
      exact ⟨_, _, hr, hc4, .inr ⟨rfl, .exit id, hIx _ _ _ hi3 hs4, hl4⟩⟩
    | goto t =>
      obtain ⟨hk3, hi3⟩ := hp
      obtain ⟨hr, hl4, hs4, hc4⟩ := fin (some (.goto t)) W3 hk3
      exact ⟨_, _, hr, hc4, .inr ⟨rfl, .goto t, hIx _ _ _ hi3 hs4, hl4⟩⟩
    | panic ch => exact hp.elim
    | outgrown => exact hp.elim
  | ret => exact hp.elim
  | exit id => exact hp.elim
  | goto t => exact hp.elim
  | panic ch => exact hp.elim
  | outgrown => exact hp.elim

/-- THE STATEMENT, at an outermost loop: D = w.heap.size, the record at w.heap.size + 1. -/
theorem wpIn_rangeFunc_itK {g : Operand} {ps : Array Tmp} {assign body : Code} {Q : Exit → Act → World → Prop} {a : Act} {w : World} (n m : Nat)
    {gf : Nat} {lb : Array Value} (hg : a.eval g = .func (.func gf) #[] lb) (eg : ∀ args w, (callFunc gf args).run P w = .ok (.enter gf args) w)
    (xs : List (Array Value)) (reads : Nat → Prop) (hreads : ∀ b, reads b → b < w.heap.size) (hseq : ∀ W1, Below w.heap.size w W1 → ItCallK P gf lb xs reads W1) (hps : ∀ (k : Nat) x, xs[k]? = some x → x.size = ps.size)
    (cw : Nat → Prop) (hcw : ∀ b, cw b → (b < w.heap.size ∧ ¬ reads b) ∨ w.heap.size + 1 < b)
    (I : Nat → World → Prop) (Ix : Code → World → Prop) (Ax : Nat → Act → World → Prop)
    (hI : ∀ k A A', I k A → Chg (fun b => b = w.heap.size ∨ b = w.heap.size + 1) A A' → I k A') (hIx : ∀ c A A', Ix c A → Chg (fun b => b = w.heap.size ∨ b = w.heap.size + 1) A A' → Ix c A') (hAx : ∀ k a' A A', Ax k a' A → Chg (fun b => b = w.heap.size + 1) A A' → Ax k a' A') (h0 : I 0 w)
    (hassign : ∀ k x W, xs[k]? = some x → w.heap.size + 1 < W.heap.size → I k W →
      assign.wpIn (Fence.wide.inRound (w.heap.size + 1)) m P (Exit.then (fun a₁ W₁ => Chg cw W W₁ ∧ I k W₁ ∧ Ax k a₁ W₁) (fun _ _ _ => False)) { tmps := (ps.zip x).foldl (fun t (p, v) => t.setIfInBounds p v) a.tmps, defers := [] } W)
    (hbody : ∀ k x a₁ W, xs[k]? = some x → w.heap.size + 1 < W.heap.size → (∃ r, W.heap[w.heap.size + 1]? = some (.loop r) ∧ r.defers = w.heap.size) → I k W → Ax k a₁ W → body.wpIn (Fence.wide.inRound (w.heap.size + 1)) m P (itPost cw I Ix (k + 1) W) a₁ W)
    (hdone : ∀ W, w.heap.size + 1 < W.heap.size → I xs.length W → W.heap[w.heap.size]? = some (.deferred (some [])) → Q .normal { a with defers := { target := .collected w.heap.size, args := #[] } :: a.defers } W)
    (hstop : ∀ c W, w.heap.size + 1 < W.heap.size → Ix c W → W.heap[w.heap.size]? = some (.deferred (some [])) → c.wpIn Fence.wide n P Q { a with defers := { target := .collected w.heap.size, args := #[] } :: a.defers } W) :
    (Code.rangeFunc g ps assign body).wpIn Fence.wide n P Q a w := by
  refine wpIn_rangeFunc ?_
  intro fn _
  obtain ⟨rec, hrec⟩ : ∃ rec : LoopState → Option Code → Loop, rec = fun st pe => { state := st, pending := pe, fn, tmps := a.tmps, params := ps, assign, body, defers := w.heap.size } := ⟨_, rfl⟩
  obtain ⟨W1, hW1⟩ : ∃ W1, (w.alloc (.deferred (some []))).alloc (.loop (rec .ready none)) = W1 := ⟨_, rfl⟩
  have hL1 : W1.heap[w.heap.size + 1]? = some (.loop (rec .ready none)) := by
    rw [← hW1]; have := World.alloc_heap_new (w.alloc (.deferred (some []))) (.loop (rec .ready none)); rwa [World.size_alloc] at this
  have hK1 : W1.heap[w.heap.size]? = some (.deferred (some [])) := by
    rw [← hW1]; exact (Below.heap_alloc _ _ _ (by simp)).trans (World.alloc_heap_new w _)
  have hs1 : W1.heap.size = w.heap.size + 1 + 1 := by rw [← hW1]; simp
  have hb1 : Below w.heap.size w W1 := by rw [← hW1]; exact ((Below.refl _ w).alloc (Nat.le_refl _) _).alloc (by simp) _
  have hI1 : I 0 W1 := hI _ _ _ h0 (Chg.of_below hb1 _)
  have nl : ¬ cw (w.heap.size + 1) := fun h => by rcases hcw _ h with h | h <;> omega
  have nD : ¬ cw w.heap.size := fun h => by rcases hcw _ h with h | h <;> omega
  refine ⟨w.heap.size + 1, [{ target := .collected w.heap.size, args := #[] }], W1, { target := .fn (.func gf) lb, args := #[.func (.yield (w.heap.size + 1)) #[] #[]] }, W1, gf,
    #[.func (.yield (w.heap.size + 1)) #[] #[]] ++ lb, W1, ?_, ?_, ?_, ?_, fun h => by simp [Fence.wide] at h, ?_⟩
  · rw [← hW1, hrec]; exact run_enterLoop_outer _ _ _ _ _
  · simp only [resolve, hg]
    simp [go_sem]
  · intro f' _; trivial
  · simp [invoke, go_sem, eg]
  · refine callsIn_wide.2 ((hseq W1 hb1 (w.heap.size + 1) (fun b => cw b ∨ b = w.heap.size + 1)
      (fun k W => I k W ∧ W.heap[w.heap.size + 1]? = some (.loop (rec .ready none)) ∧ W.heap[w.heap.size]? = some (.deferred (some [])))
      (fun W => ∃ c, Ix c W ∧ W.heap[w.heap.size + 1]? = some (.loop (rec .done (some c))) ∧ W.heap[w.heap.size]? = some (.deferred (some [])))
      (.inr rfl) ?_ ?_ ?_ ?_ ⟨hI1, hL1, hK1⟩).mono ?_)
    · rintro b (h | rfl) hr
      · have := hreads _ hr; rcases hcw b h with h | h; exact h.2 hr; omega
      · have := hreads _ hr; omega
    · rintro k A B ⟨hi, hl, hk⟩ hc
      exact ⟨hI _ _ _ hi (Chg.of_below hc _), old_at hc hl, old_at hc hk⟩
    · rintro A B ⟨c, hi, hl, hk⟩ hc
      exact ⟨c, hIx _ _ _ hi (Chg.of_below hc _), old_at hc hl, old_at hc hk⟩
    · rintro k x W m' hx ⟨hi, hl, hk⟩ _
      have hlt := at_lt hl
      refine YieldAt.mono (yieldAt_any (n := m) (it_roundK (k := k) hrec (hps _ _ hx) nl (fun k A B h hc => hI k A B h (hc.mono (fun _ _ h => .inr h))) (fun k A B h hc => hIx k A B h (hc.mono (fun _ _ h => .inr h))) hAx hi hl (hassign k x W hx hlt hi)
        (fun a₁ W₁ h1 h2 h3 h4 => hbody k x a₁ W₁ hx (by omega) h1 h3 h4))) ?_
      rintro e A' ⟨hc, hres⟩
      have hk' : A'.heap[w.heap.size]? = some (.deferred (some [])) := chg_at hc hk (fun h => by rcases h with h | h; exact nD h; omega)
      refine ⟨hc, ?_⟩
      rcases hres with ⟨rfl, hi', hl'⟩ | ⟨rfl, c, hi', hl'⟩
      · exact .inl ⟨rfl, hi', hl', hk'⟩
      · exact .inr ⟨rfl, c, hi', hl', hk'⟩
    · rintro e W2 ⟨⟨v, rfl⟩, (⟨hi, hl, hk⟩ | ⟨c, hi, hl, hk⟩)⟩
      · have hlt := at_lt hl
        exact ⟨none, _, by have := run_endLoop (P := P) hl (by rw [hrec]; simp); rw [hrec] at this; exact this, hdone _ (by simpa using hlt) (hI _ _ _ hi (Chg.putObj (cw := fun b => b = w.heap.size ∨ b = w.heap.size + 1) (Chg.refl _ _) (.inl (.inr rfl)) _)) ((World.putObj_heap_other (by omega)).trans hk)⟩
      · have hlt := at_lt hl
        exact ⟨some c, _, by have := run_endLoop (P := P) hl (by rw [hrec]; simp); rw [hrec] at this; exact this, hstop c _ (by simpa using hlt) (hIx _ _ _ hi (Chg.putObj (cw := fun b => b = w.heap.size ∨ b = w.heap.size + 1) (Chg.refl _ _) (.inl (.inr rfl)) _)) ((World.putObj_heap_other (by omega)).trans hk)⟩

/-- THE STATEMENT, at a loop within a round of l₀: the record at w.heap.size. -/
theorem wpIn_rangeFunc_itN {g : Operand} {ps : Array Tmp} {assign body : Code} {Q : Exit → Act → World → Prop} {a : Act} {w : World} (n m : Nat)
    {l₀ : Nat} {r₀ : Loop} (hl₀ : w.heap[l₀]? = some (.loop r₀))
    {gf : Nat} {lb : Array Value} (hg : a.eval g = .func (.func gf) #[] lb) (eg : ∀ args w, (callFunc gf args).run P w = .ok (.enter gf args) w)
    (xs : List (Array Value)) (reads : Nat → Prop) (hreads : ∀ b, reads b → b < w.heap.size) (hseq : ∀ W1, Below w.heap.size w W1 → ItCallK P gf lb xs reads W1) (hps : ∀ (k : Nat) x, xs[k]? = some x → x.size = ps.size)
    (cw : Nat → Prop) (hcw : ∀ b, cw b → (b < w.heap.size ∧ ¬ reads b) ∨ w.heap.size < b)
    (I : Nat → World → Prop) (Ix : Code → World → Prop) (Ax : Nat → Act → World → Prop)
    (hI : ∀ k A A', I k A → Chg (fun b => b = w.heap.size) A A' → I k A') (hIx : ∀ c A A', Ix c A → Chg (fun b => b = w.heap.size) A A' → Ix c A') (hAx : ∀ k a' A A', Ax k a' A → Chg (fun b => b = w.heap.size) A A' → Ax k a' A') (h0 : I 0 w)
    (hassign : ∀ k x W, xs[k]? = some x → w.heap.size < W.heap.size → I k W →
      assign.wpIn (Fence.wide.inRound w.heap.size) m P (Exit.then (fun a₁ W₁ => Chg cw W W₁ ∧ I k W₁ ∧ Ax k a₁ W₁) (fun _ _ _ => False)) { tmps := (ps.zip x).foldl (fun t (p, v) => t.setIfInBounds p v) a.tmps, defers := [] } W)
    (hbody : ∀ k x a₁ W, xs[k]? = some x → w.heap.size < W.heap.size → (∃ r, W.heap[w.heap.size]? = some (.loop r) ∧ r.defers = r₀.defers) → I k W → Ax k a₁ W → body.wpIn (Fence.wide.inRound w.heap.size) m P (itPost cw I Ix (k + 1) W) a₁ W)
    (hdone : ∀ W, w.heap.size < W.heap.size → I xs.length W → Q .normal a W)
    (hstop : ∀ c W, w.heap.size < W.heap.size → Ix c W → c.wpIn (Fence.wide.inRound l₀) n P Q a W) :
    (Code.rangeFunc g ps assign body).wpIn (Fence.wide.inRound l₀) n P Q a w := by
  refine wpIn_rangeFunc ?_
  intro fn _
  obtain ⟨rec, hrec⟩ : ∃ rec : LoopState → Option Code → Loop, rec = fun st pe => { state := st, pending := pe, fn, tmps := a.tmps, params := ps, assign, body, defers := r₀.defers } := ⟨_, rfl⟩
  obtain ⟨W1, hW1⟩ : ∃ W1, w.alloc (.loop (rec .ready none)) = W1 := ⟨_, rfl⟩
  have hL1 : W1.heap[w.heap.size]? = some (.loop (rec .ready none)) := by rw [← hW1]; exact World.alloc_heap_new _ _
  have hs1 : W1.heap.size = w.heap.size + 1 := by rw [← hW1]; simp
  have hb1 : Below w.heap.size w W1 := by rw [← hW1]; exact (Below.refl _ w).alloc (Nat.le_refl _) _
  have hI1 : I 0 W1 := hI _ _ _ h0 (Chg.of_below hb1 _)
  have nl : ¬ cw w.heap.size := fun h => by rcases hcw _ h with h | h <;> omega
  refine ⟨w.heap.size, [], W1, { target := .fn (.func gf) lb, args := #[.func (.yield w.heap.size) #[] #[]] }, W1, gf,
    #[.func (.yield w.heap.size) #[] #[]] ++ lb, W1, ?_, ?_, ?_, ?_, fun h => by simp [Fence.wide] at h, ?_⟩
  · rw [← hW1, hrec]; exact run_enterLoop_inner hl₀ _ _ _ _ _
  · simp only [resolve, hg]
    simp [go_sem]
  · intro f' _; trivial
  · simp [invoke, go_sem, eg]
  · refine CallsIn.inRound l₀ (callsIn_wide.2 ((hseq W1 hb1 w.heap.size (fun b => cw b ∨ b = w.heap.size)
      (fun k W => I k W ∧ W.heap[w.heap.size]? = some (.loop (rec .ready none)))
      (fun W => ∃ c, Ix c W ∧ W.heap[w.heap.size]? = some (.loop (rec .done (some c))))
      (.inr rfl) ?_ ?_ ?_ ?_ ⟨hI1, hL1⟩).mono ?_))
    · rintro b (h | rfl) hr
      · have := hreads _ hr; rcases hcw b h with h | h; exact h.2 hr; omega
      · have := hreads _ hr; omega
    · rintro k A B ⟨hi, hl⟩ hc
      exact ⟨hI _ _ _ hi (Chg.of_below hc _), old_at hc hl⟩
    · rintro A B ⟨c, hi, hl⟩ hc
      exact ⟨c, hIx _ _ _ hi (Chg.of_below hc _), old_at hc hl⟩
    · rintro k x W m' hx ⟨hi, hl⟩ _
      have hlt := at_lt hl
      refine YieldAt.mono (yieldAt_any (n := m) (it_roundK (k := k) hrec (hps _ _ hx) nl hI hIx hAx hi hl (hassign k x W hx hlt hi)
        (fun a₁ W₁ h1 h2 h3 h4 => hbody k x a₁ W₁ hx (by omega) h1 h3 h4))) ?_
      rintro e A' ⟨hc, hres⟩
      refine ⟨hc, ?_⟩
      rcases hres with ⟨rfl, hi', hl'⟩ | ⟨rfl, c, hi', hl'⟩
      · exact .inl ⟨rfl, hi', hl'⟩
      · exact .inr ⟨rfl, c, hi', hl'⟩
    · rintro e W2 ⟨⟨v, rfl⟩, (⟨hi, hl⟩ | ⟨c, hi, hl⟩)⟩
      · have hlt := at_lt hl
        exact ⟨none, _, by have := run_endLoop (P := P) hl (by rw [hrec]; simp); rw [hrec] at this; exact this, hdone _ (by simpa using hlt) (hI _ _ _ hi (Chg.putObj (cw := fun b => b = w.heap.size) (Chg.refl _ _) (.inl rfl) _))⟩
      · have hlt := at_lt hl
        exact ⟨some c, _, by have := run_endLoop (P := P) hl (by rw [hrec]; simp); rw [hrec] at this; exact this, hstop c _ (by simpa using hlt) (hIx _ _ _ hi (Chg.putObj (cw := fun b => b = w.heap.size) (Chg.refl _ _) (.inl rfl) _))⟩

/-- .. WITHOUT A WORD ON THE FRAME: the body is walked on behind the assignment. -/
theorem wpIn_rangeFunc_itKw {g : Operand} {ps : Array Tmp} {assign body : Code} {Q : Exit → Act → World → Prop} {a : Act} {w : World} (n m : Nat)
    {gf : Nat} {lb : Array Value} (hg : a.eval g = .func (.func gf) #[] lb) (eg : ∀ args w, (callFunc gf args).run P w = .ok (.enter gf args) w)
    (xs : List (Array Value)) (reads : Nat → Prop) (hreads : ∀ b, reads b → b < w.heap.size) (hseq : ∀ W1, Below w.heap.size w W1 → ItCallK P gf lb xs reads W1) (hps : ∀ (k : Nat) x, xs[k]? = some x → x.size = ps.size)
    (cw : Nat → Prop) (hcw : ∀ b, cw b → (b < w.heap.size ∧ ¬ reads b) ∨ w.heap.size + 1 < b)
    (I : Nat → World → Prop) (Ix : Code → World → Prop)
    (hI : ∀ k A A', I k A → Chg (fun b => b = w.heap.size ∨ b = w.heap.size + 1) A A' → I k A') (hIx : ∀ c A A', Ix c A → Chg (fun b => b = w.heap.size ∨ b = w.heap.size + 1) A A' → Ix c A') (h0 : I 0 w)
    (hround : ∀ k x W, xs[k]? = some x → w.heap.size + 1 < W.heap.size → I k W →
      assign.wpIn (Fence.wide.inRound (w.heap.size + 1)) m P (Exit.then (fun a₁ W₁ => Chg cw W W₁ ∧ I k W₁ ∧
        ∀ W₂, Chg (fun b => b = w.heap.size + 1) W₁ W₂ → (∃ r, W₂.heap[w.heap.size + 1]? = some (.loop r) ∧ r.defers = w.heap.size) → I k W₂ → body.wpIn (Fence.wide.inRound (w.heap.size + 1)) m P (itPost cw I Ix (k + 1) W₂) a₁ W₂) (fun _ _ _ => False)) { tmps := (ps.zip x).foldl (fun t (p, v) => t.setIfInBounds p v) a.tmps, defers := [] } W)
    (hdone : ∀ W, w.heap.size + 1 < W.heap.size → I xs.length W → W.heap[w.heap.size]? = some (.deferred (some [])) → Q .normal { a with defers := { target := .collected w.heap.size, args := #[] } :: a.defers } W)
    (hstop : ∀ c W, w.heap.size + 1 < W.heap.size → Ix c W → W.heap[w.heap.size]? = some (.deferred (some [])) → c.wpIn Fence.wide n P Q { a with defers := { target := .collected w.heap.size, args := #[] } :: a.defers } W) :
    (Code.rangeFunc g ps assign body).wpIn Fence.wide n P Q a w :=
  wpIn_rangeFunc_itK n m hg eg xs reads hreads hseq hps cw hcw I Ix (fun k a₁ W₁ => ∀ W₂, Chg (fun b => b = w.heap.size + 1) W₁ W₂ → (∃ r, W₂.heap[w.heap.size + 1]? = some (.loop r) ∧ r.defers = w.heap.size) → I k W₂ → body.wpIn (Fence.wide.inRound (w.heap.size + 1)) m P (itPost cw I Ix (k + 1) W₂) a₁ W₂)
    hI hIx (fun k a' A A' h hc W₂ hc2 => h W₂ (hc.trans hc2)) h0 hround (fun k x a₁ W _ _ hr hi hax => hax W (Chg.refl _ _) hr hi) hdone hstop

theorem wpIn_rangeFunc_itNw {g : Operand} {ps : Array Tmp} {assign body : Code} {Q : Exit → Act → World → Prop} {a : Act} {w : World} (n m : Nat)
    {l₀ : Nat} {r₀ : Loop} (hl₀ : w.heap[l₀]? = some (.loop r₀))
    {gf : Nat} {lb : Array Value} (hg : a.eval g = .func (.func gf) #[] lb) (eg : ∀ args w, (callFunc gf args).run P w = .ok (.enter gf args) w)
    (xs : List (Array Value)) (reads : Nat → Prop) (hreads : ∀ b, reads b → b < w.heap.size) (hseq : ∀ W1, Below w.heap.size w W1 → ItCallK P gf lb xs reads W1) (hps : ∀ (k : Nat) x, xs[k]? = some x → x.size = ps.size)
    (cw : Nat → Prop) (hcw : ∀ b, cw b → (b < w.heap.size ∧ ¬ reads b) ∨ w.heap.size < b)
    (I : Nat → World → Prop) (Ix : Code → World → Prop)
    (hI : ∀ k A A', I k A → Chg (fun b => b = w.heap.size) A A' → I k A') (hIx : ∀ c A A', Ix c A → Chg (fun b => b = w.heap.size) A A' → Ix c A') (h0 : I 0 w)
    (hround : ∀ k x W, xs[k]? = some x → w.heap.size < W.heap.size → I k W →
      assign.wpIn (Fence.wide.inRound w.heap.size) m P (Exit.then (fun a₁ W₁ => Chg cw W W₁ ∧ I k W₁ ∧
        ∀ W₂, Chg (fun b => b = w.heap.size) W₁ W₂ → (∃ r, W₂.heap[w.heap.size]? = some (.loop r) ∧ r.defers = r₀.defers) → I k W₂ → body.wpIn (Fence.wide.inRound w.heap.size) m P (itPost cw I Ix (k + 1) W₂) a₁ W₂) (fun _ _ _ => False)) { tmps := (ps.zip x).foldl (fun t (p, v) => t.setIfInBounds p v) a.tmps, defers := [] } W)
    (hdone : ∀ W, w.heap.size < W.heap.size → I xs.length W → Q .normal a W)
    (hstop : ∀ c W, w.heap.size < W.heap.size → Ix c W → c.wpIn (Fence.wide.inRound l₀) n P Q a W) :
    (Code.rangeFunc g ps assign body).wpIn (Fence.wide.inRound l₀) n P Q a w :=
  wpIn_rangeFunc_itN n m hl₀ hg eg xs reads hreads hseq hps cw hcw I Ix (fun k a₁ W₁ => ∀ W₂, Chg (fun b => b = w.heap.size) W₁ W₂ → (∃ r, W₂.heap[w.heap.size]? = some (.loop r) ∧ r.defers = r₀.defers) → I k W₂ → body.wpIn (Fence.wide.inRound w.heap.size) m P (itPost cw I Ix (k + 1) W₂) a₁ W₂)
    hI hIx (fun k a' A A' h hc W₂ hc2 => h W₂ (hc.trans hc2)) h0 hround (fun k x a₁ W _ _ hr hi hax => hax W (Chg.refl _ _) hr hi) hdone hstop

theorem wpIn_rangeFunc_it3w {g : Operand} {ps : Array Tmp} {assign body : Code} {Q : Exit → Act → World → Prop} {a : Act} {w : World} (n m : Nat)
    {gf : Nat} {lb : Array Value} (hg : a.eval g = .func (.func gf) #[] lb) (eg : ∀ args w, (callFunc gf args).run P w = .ok (.enter gf args) w)
    (xs : List (Array Value)) (reads mine : Nat → Prop) (hreads : ∀ b, reads b → b < w.heap.size) (hmine : ∀ b, mine b → b < w.heap.size) (hseq : ∀ W1, Below w.heap.size w W1 → ItCall2 P gf lb xs reads mine W1) (hps : ∀ (k : Nat) x, xs[k]? = some x → x.size = ps.size)
    (cw : Nat → Prop) (hcw : ∀ b, cw b → b < w.heap.size ∧ ¬ reads b)
    (I : Nat → World → Prop) (Ix : Code → World → Prop)
    (hI : ∀ k A A', I k A → Chg (fun b => mine b ∨ w.heap.size ≤ b) A A' → I k A') (hIx : ∀ c A A', Ix c A → Chg (fun b => mine b ∨ w.heap.size ≤ b) A A' → Ix c A') (h0 : I 0 w)
    (hround : ∀ l k x W, xs[k]? = some x → w.heap.size ≤ l → l < W.heap.size → I k W →
      assign.wpIn (Fence.wide.inRound l) m P (Exit.then (fun a₁ W₁ => Chg cw W W₁ ∧ I k W₁ ∧
        ∀ W₂, Chg (fun b => b = l) W₁ W₂ → (∃ r, W₂.heap[l]? = some (.loop r) ∧ r.defers = w.heap.size) → I k W₂ → body.wpIn (Fence.wide.inRound l) m P (itPost cw I Ix (k + 1) W₂) a₁ W₂) (fun _ _ _ => False)) { tmps := (ps.zip x).foldl (fun t (p, v) => t.setIfInBounds p v) a.tmps, defers := [] } W)
    (hdone : ∀ D W, w.heap.size ≤ D → I xs.length W → W.heap[D]? = some (.deferred (some [])) → Q .normal { a with defers := { target := .collected D, args := #[] } :: a.defers } W)
    (hstop : ∀ D c W, w.heap.size ≤ D → Ix c W → W.heap[D]? = some (.deferred (some [])) → c.wpIn Fence.wide n P Q { a with defers := { target := .collected D, args := #[] } :: a.defers } W) :
    (Code.rangeFunc g ps assign body).wpIn Fence.wide n P Q a w :=
  wpIn_rangeFunc_it3 n m hg eg xs reads mine hreads hmine hseq hps cw hcw I Ix (fun l k a₁ W₁ => ∀ W₂, Chg (fun b => b = l) W₁ W₂ → (∃ r, W₂.heap[l]? = some (.loop r) ∧ r.defers = w.heap.size) → I k W₂ → body.wpIn (Fence.wide.inRound l) m P (itPost cw I Ix (k + 1) W₂) a₁ W₂)
    hI hIx (fun l k a' A A' h hc W₂ hc2 => h W₂ (hc.trans hc2)) h0 hround (fun l k x a₁ W _ _ _ hr hi hax => hax W (Chg.refl _ _) hr hi) hdone hstop

/-- behind an append to a slice in a cell -/
theorem Chg.grown {cw : Nat → Prop} {a w w' : World} {row : Option Nat} (h : Chg cw a w) (hg : w.grownBy w' row) (hr : ∀ k, row = some k → cw k ∨ a.heap.size ≤ k) : Chg cw a w' :=
  h.next (cw' := fun i => row = some i) ⟨hg.os, hg.tape, hg.output, hg.size, fun k hk hn => hg.block k hk (fun e => hn e.symm)⟩ (fun i e => hr i e)
theorem app_step {U w2 : World} {v v' : Value} {o : Obj} {x : Int} {L : List Int} {C base t : Nat} (hS : SlI U base v L) (hcell : U.heap[C]? = some (.cells #[v] t (0, 0))) (hgrow : (U.alloc o).grownBy w2 v.ownBlock)
    (hown2 : w2.ownsRow base 3 1 v' (L.length + 1) (L.map (Value.int .i64) ++ [.int .i64 x])) (hC : C < base) :
    w2.heap[C]? = some (.cells #[v] t (0, 0)) ∧ Chg (fun b => b = C ∨ base ≤ b) U (w2.setCell ⟨C, 0, none⟩ v') ∧ (w2.setCell ⟨C, 0, none⟩ v').heap[C]? = some (.cells #[v'] t (0, 0)) ∧ SlI (w2.setCell ⟨C, 0, none⟩ v') base v' (L ++ [x]) := by
  have own0 := hS.own
  have r2 := grown_at hgrow (by rw [hao _ _ _ (at_lt hcell)]; exact hcell) (fun e => by have := own0 _ e.symm; omega)
  refine ⟨r2, ?_, heap_setCell_same w2 C 0 _ _ v' r2, ?_⟩
  · exact Chg.setCell (cw := fun b => b = C ∨ base ≤ b) (((Chg.refl _ _).alloc o).grown hgrow (fun k hk => .inl (.inr (own0 k hk).1))) (p := ⟨C, 0, none⟩) (.inl (.inl rfl)) v'
  · have hp : SlI w2 base v' (L ++ [x]) := SlI.push hown2
    exact hp.chg (cw := fun b => b = C) (Chg.setCell (cw := fun b => b = C) (Chg.refl _ _) (p := ⟨C, 0, none⟩) (.inl rfl) v') (fun g h => by omega)

end Go.Proofs.Ytjmcpeobncoinaa
