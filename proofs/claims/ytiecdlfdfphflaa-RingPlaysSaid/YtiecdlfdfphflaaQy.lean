/- A region that draws its order, in an iterator: its first operations only read; its last ones (the call of 'yield', and what is made of its word) wait for them all. One walk in the order of the text. No program in sight. -/
import Derived.Test.YtiecdlfdfphflaaQb
import Derived.OrdersIn
import Derived.TacticsIn
import Derived.ControlIn
namespace Go.Proofs.Ytiecdlfdfphflaa
set_option linter.unusedVariables false
open Go.RowKit

section
variable {P : Program} {ops : Array Oper} {C : World → Prop} {Q : Exit → Act → World → Prop} {md : Region.Mode} {n m s : Nat}

/-- operation j waits for i, through others too -/
def ancB (md : Region.Mode) (ops : Array Oper) : Nat → Nat → Nat → Bool
  | 0, _, _ => false
  | fuel + 1, j, i => match ops[j]? with
    | none => false
    | some o => o.after.any fun e => Region.binds md e && (e.on == i || ancB md ops fuel e.on i)
/-- whatever is listed waits for nothing -/
def Clo (md : Region.Mode) (ops : Array Oper) (listed : Array Bool) : Prop := ∀ j o, ops[j]? = some o → listed.getD j false = true → ∀ e ∈ o.after, Region.binds md e = true → listed.getD e.on false = true

theorem anc_listed {listed : Array Bool} (hc : Clo md ops listed) {i : Nat} : ∀ (fuel j : Nat) (o : Oper), ops[j]? = some o → (∀ e ∈ o.after, Region.binds md e = true → listed.getD e.on false = true) → ancB md ops fuel j i = true → listed.getD i false = true
  | 0, _, _, _, _, h => by simp [ancB] at h
  | fuel + 1, j, o, ho, hl, h => by
    unfold ancB at h
    rw [ho] at h
    simp only [Array.any_eq_true'] at h
    obtain ⟨e, he, h2⟩ := h
    simp only [Bool.and_eq_true, Bool.or_eq_true, beq_iff_eq] at h2
    obtain ⟨hb, rfl | h3⟩ := h2
    · exact hl e he hb
    · cases ho2 : ops[e.on]? with
      | none =>
        cases fuel with
        | zero => simp [ancB] at h3
        | succ f => unfold ancB at h3; rw [ho2] at h3; cases h3
      | some o2 => exact anc_listed hc fuel e.on o2 ho2 (hc e.on o2 ho2 (hl e he hb)) h3

theorem clo_set {listed : Array Bool} (hc : Clo md ops listed) {i : Nat} (hi : i ∈ Region.ready md ops listed) : Clo md ops (listed.setIfInBounds i true) := by
  intro j o ho hj e he hb
  obtain ⟨hun, oi, hoi, hall⟩ := mem_ready.1 hi
  by_cases hji : j = i
  · subst hji
    rw [hoi] at ho
    cases ho
    exact getD_set_true (hall e he hb)
  · rw [getD_set_ne false (Ne.symm hji)] at hj
    exact getD_set_true (hc j o ho hj e he hb)

theorem wpIn_of_quietW {o : Oper} {a : Act} {K : Act → Prop} {K' : Act → World → Prop} {Q' : Exit → Act → World → Prop} {w : World} (hw : C w) (h : ∀ a w', C w' → K a → K' a w') (hh : o.quiet P a C K) : o.wpIn Fence.wide n P a w K' Q' := by
  obtain ⟨v, h1, h2⟩ := hh
  have h3 := h1 w hw
  unfold Oper.quietAt at h3
  unfold Oper.wpIn
  refine ⟨fun _ _ => trivial, ?_⟩
  rw [show Fence.wide.round = none from rfl, Oper.semAt_none]
  generalize (execOp a.eval o).run P w = r at *
  cases r with
  | ok x w' =>
    cases x <;> simp only [Oper.quietUpon] at h3 <;> simp only [Oper.uponIn]
    case value u =>
      obtain ⟨e1, e2⟩ := h3
      rw [e1, e2]
      exact h _ _ hw h2
    case skip =>
      obtain ⟨e1, e2⟩ := h3
      rw [e1, ← e2]
      exact h _ _ hw h2
    case enter f args =>
      obtain ⟨e1, hc⟩ := h3
      rw [e1]
      exact ⟨fun h => by simp [Fence.wide] at h, (callsIn_wide.2 hc).mono fun e w'' ⟨he, hw''⟩ => by subst he; exact h _ _ hw'' h2⟩
  | halt x w' => simp only [Oper.quietUpon] at h3

theorem wpOpIn_of_qOpW {i : Nat} {a : Act} {K : Act → Prop} {K' : Act → World → Prop} {Q' : Exit → Act → World → Prop} {w : World} (hC : C w) (h : ∀ a w', C w' → K a → K' a w') (hh : qOp P ops C i K a) : wpOpIn Fence.wide n P ops Q' i K' a w := by
  unfold qOp at hh
  unfold wpOpIn
  split
  · rename_i ho; simp only [ho] at hh; exact h _ _ hC hh
  · rename_i o ho
    simp only [ho] at hh
    split
    · rename_i hw; simp only [hw, if_true] at hh; exact wpIn_of_quietW hC h hh
    · rename_i hw; simp only [hw] at hh; exact ⟨fun _ _ => trivial, h _ _ hC hh⟩

/-- whatever order is picked of the first m; behind them the rest -/
def wpAnyP (P : Program) (md : Region.Mode) (ops : Array Oper) (C : World → Prop) (Q : Exit → Act → World → Prop) (n m s : Nat) : Nat → Array Bool → Act → Prop
  | 0, listed, a => (∀ j, j < m → listed.getD j false = true) ∧ ∀ w, C w → wpAnyIn Fence.wide n P md ops Q s listed a w
  | fuel + 1, listed, a => Region.ready md ops listed ≠ [] ∧ ∀ i ∈ Region.ready md ops listed, i < m ∧ qOp P ops C i (wpAnyP P md ops C Q n m s fuel (listed.setIfInBounds i true)) a

theorem wpAny_of_P : ∀ (fuel : Nat) (listed : Array Bool) (a : Act) (w : World), C w → wpAnyP P md ops C Q n m s fuel listed a → wpAnyIn Fence.wide n P md ops Q (s + fuel) listed a w
  | 0, _, _, w, hw, h => h.2 w hw
  | fuel + 1, listed, a, w, hw, h => ⟨fun h0 => absurd h0 h.1, fun i hi => wpOpIn_of_qOpW hw (fun a' w' hw' h4 => wpAny_of_P fuel _ a' w' hw' h4) (h.2 i hi).2⟩

theorem unl {listed : Array Bool} {i : Nat} (hr : i ∈ Region.ready md ops listed) (h1 : listed.getD i false = true) : False := by
  have h0 := (mem_ready.1 hr).1
  rcases Nat.lt_or_ge i listed.size with h' | h'
  · simp [h'] at h0 h1; rw [h0] at h1; cases h1
  · simp [Array.getElem?_eq_none h'] at h1

theorem wpAnyP_first {i : Nat} {oi : Oper} {v : Value} (him : i < m) (hi : ops[i]? = some oi) (hanc : ∀ j, m ≤ j → j < ops.size → ancB md ops ops.size j i = true) (hsel : ∀ (j : Nat) (o : Oper) cs b, ops[j]? = some o → o.op ≠ .select cs b) :
    ∀ (fuel : Nat) (listed : Array Bool) (a : Act), Clo md ops listed →
      (∀ j oj, ops[j]? = some oj → j ≠ i → listed.getD j true = false → (∀ e ∈ oj.after, Region.binds md e = true → e.on ≠ i) → oi.apart ops oj = true) →
      i ∈ Region.ready md ops listed → YieldsIn P ops C oi v a →
      wpAnyP P md ops C Q n m s fuel (listed.setIfInBounds i true) (a.put oi.dst v) → wpAnyP P md ops C Q n m s (fuel + 1) listed a := by
  intro fuel
  induction fuel with
  | zero =>
    intro listed a hclo hfree hr hy H
    refine ⟨fun h => (by rw [h] at hr; cases hr), fun j hj => ?_⟩
    obtain ⟨hjun, oj, hoj, hall⟩ := mem_ready.1 hj
    have hjm : j < m := by
      refine Nat.lt_of_not_le fun hmj => unl hr (anc_listed hclo _ j oj hoj hall (hanc j hmj (Array.getElem?_eq_some_iff.1 hoj).1))
    refine ⟨hjm, ?_⟩
    by_cases hji : j = i
    · subst hji; exact hy.qOp hi H
    · have := H.1 j hjm
      rw [getD_set_ne false (Ne.symm hji)] at this
      exact (unl hj this).elim
  | succ fuel ih =>
    intro listed a hclo hfree hr hy H
    refine ⟨fun h => (by rw [h] at hr; cases hr), fun j hj => ?_⟩
    obtain ⟨hjun, oj, hoj, hall⟩ := mem_ready.1 hj
    have hjm : j < m := by
      refine Nat.lt_of_not_le fun hmj => unl hr (anc_listed hclo _ j oj hoj hall (hanc j hmj (Array.getElem?_eq_some_iff.1 hoj).1))
    refine ⟨hjm, ?_⟩
    by_cases hji : j = i
    · subst hji; exact hy.qOp hi H
    · have h1 := (H.2 j (ready_mono hj hji)).2
      have hnot : ∀ e ∈ oj.after, Region.binds md e = true → e.on ≠ i := fun e he hb heq => unl hr (heq ▸ hall e he hb)
      have h2 := qOp_put hoj (hfree j oj hoj hji hjun hnot) (fun cs b => hsel i oi cs b hi) (fun cs b => hsel j oj cs b hoj) hy h1
      have hfree' : ∀ k ok, ops[k]? = some ok → k ≠ i → (listed.setIfInBounds j true).getD k true = false →
          (∀ e ∈ ok.after, Region.binds md e = true → e.on ≠ i) → oi.apart ops ok = true := fun k ok hk hki hun' hno => by
        refine hfree k ok hk hki ?_ hno
        by_cases hjk : j = k
        · subst hjk; exact hjun
        · rw [getD_set_ne true hjk] at hun'; exact hun'
      refine qOp_mono (fun a' h3 => ih (listed.setIfInBounds j true) a' (clo_set hclo hj) hfree' (ready_mono hr (Ne.symm hji)) h3.1 ?_) h2
      rw [Array.setIfInBounds_comm _ _ hji]
      exact h3.2

/-- the first m in the order of the text; the rest forced -/
def lexFromP (md : Region.Mode) (ops : Array Oper) (m : Nat) : Nat → Nat → Array Bool → Bool
  | 0, _, listed => (List.range m).all fun j => listed.getD j false
  | c + 1, k, listed => (Region.ready md ops listed).contains k && Region.free md ops listed k && ((List.range ops.size).all fun j => decide (j < m) || ancB md ops ops.size j k) && lexFromP md ops m c (k + 1) (listed.setIfInBounds k true)
def forcedB (md : Region.Mode) (ops : Array Oper) : Nat → Nat → Array Bool → Bool
  | 0, _, listed => (Region.ready md ops listed).isEmpty
  | s + 1, k, listed => Region.ready md ops listed == [k] && forcedB md ops s (k + 1) (listed.setIfInBounds k true)
/-- the first k listed -/
def firstL (size : Nat) : Nat → Array Bool
  | 0 => Array.replicate size false
  | k + 1 => (firstL size k).setIfInBounds k true
def lexPB (md : Region.Mode) (ops : Array Oper) (m : Nat) : Bool := decide (m ≤ ops.size) && Region.noSelect ops && lexFromP md ops m m 0 (Array.replicate ops.size false) && forcedB md ops (ops.size - m) m (firstL ops.size m)

theorem wpAny_forced : ∀ (l : List Oper) (k : Nat) (listed : Array Bool) (a : Act) (w : World), (∀ j, j < l.length → l[j]? = ops[k + j]?) → forcedB md ops l.length k listed = true → wpListIn Fence.wide n P ops Q l a w → wpAnyIn Fence.wide n P md ops Q l.length listed a w
  | [], k, listed, a, w, _, hB, h => ⟨by simpa [forcedB] using hB, h⟩
  | o :: l, k, listed, a, w, hl, hB, h => by
    have h0 : ops[k]? = some o := by simpa using (hl 0 (by simp)).symm
    simp only [List.length_cons, forcedB, Bool.and_eq_true, beq_iff_eq] at hB
    refine ⟨fun h1 => (by rw [hB.1] at h1; cases h1), fun i hi => ?_⟩
    rw [hB.1] at hi
    have hik : i = k := by simpa using hi
    subst hik
    have ih := fun a' w' => wpAny_forced l (i + 1) (listed.setIfInBounds i true) a' w' (fun j hj => by have := hl (j + 1) (by simpa using hj); simpa [Nat.add_assoc, Nat.add_comm 1 j] using this) hB.2
    unfold wpListIn at h
    unfold wpOpIn
    rw [h0]
    dsimp only
    split
    · rename_i hw; rw [if_pos hw] at h; exact Oper.wpIn_mono ih h
    · rename_i hw; rw [if_neg hw] at h; exact ⟨h.1, ih _ _ h.2⟩

theorem wpAnyP_lex (hs : Region.noSelect ops = true) : ∀ (l : List Oper) (k : Nat) (listed : Array Bool) (a : Act), Clo md ops listed → listed = firstL ops.size k → (∀ j, j < l.length → l[j]? = ops[k + j]?) → k + l.length = m →
    lexFromP md ops m l.length k listed = true → wpQuiet P ops C (fun a' => ∀ w', C w' → wpAnyIn Fence.wide n P md ops Q s (firstL ops.size m) a' w') l a → wpAnyP P md ops C Q n m s l.length listed a
  | [], k, listed, a, _, hf, _, hk, hB, h => by
    simp only [List.length_nil, lexFromP, List.all_eq_true, List.mem_range] at hB
    have : k = m := by simpa using hk
    subst this
    exact ⟨hB, fun w hw => by rw [hf]; exact h w hw⟩
  | o :: l, k, listed, a, hc, hf0, hl, hk, hB, h => by
    have h0 : ops[k]? = some o := by simpa using (hl 0 (by simp)).symm
    simp only [List.length_cons, lexFromP, Bool.and_eq_true] at hB
    obtain ⟨⟨⟨hr, hf⟩, hw⟩, hB'⟩ := hB
    simp only [List.length_cons] at hk
    have hr' : k ∈ Region.ready md ops listed := by simpa using hr
    have hanc : ∀ j, m ≤ j → j < ops.size → ancB md ops ops.size j k = true := fun j h1 h2 => by
      rw [List.all_eq_true] at hw
      have := hw j (List.mem_range.2 h2)
      simp only [Bool.or_eq_true, decide_eq_true_eq] at this
      rcases this with h3 | h3
      · omega
      · exact h3
    have hst : qOp P ops C k (wpQuiet P ops C (fun a' => ∀ w', C w' → wpAnyIn Fence.wide n P md ops Q s (firstL ops.size m) a' w') l) a := by unfold qOp; simp only [h0]; exact h
    obtain ⟨v, hy, hK⟩ := yieldsIn_of_qOp h0 hst
    exact wpAnyP_first (by omega) h0 hanc (Region.noSelect_spec hs) l.length listed a hc (Region.free_spec h0 hf) hr' hy
      (wpAnyP_lex hs l (k + 1) _ _ (clo_set hc hr') (by rw [hf0]; rfl) (fun j hj => by have := hl (j + 1) (by simpa using hj); simpa [Nat.add_assoc, Nat.add_comm 1 j] using this) (by omega) hB' hK)

theorem wpQuiet_impY {Q1 Q2 : Act → Prop} (h : ∀ a, Q1 a → Q2 a) : ∀ (l : List Oper) (a : Act), wpQuiet P ops C Q1 l a → wpQuiet P ops C Q2 l a
  | [], a, h1 => h a h1
  | o :: l, a, h1 => by
    unfold wpQuiet at h1 ⊢
    split
    · rename_i hw; rw [if_pos hw] at h1; exact Oper.quiet_mono (fun a' => wpQuiet_impY h l a') h1
    · rename_i hw; rw [if_neg hw] at h1; exact wpQuiet_impY h l _ h1

/-- THE LAW: l: the operations; m: how many only read -/
theorem wpIn_region_yield {id : Nat} {a : Act} {w : World} {l : List Oper} (m : Nat) (hm : P.follows .mixedOrders = true) (hB : lexPB .any l.toArray m = true)
    (h : wpQuiet P l.toArray (Keeps w) (fun a' => ∀ w', Keeps w w' → wpListIn Fence.wide n P l.toArray Q (l.drop m) a' w') (l.take m) a) : (Code.region id l.toArray true).wpIn Fence.wide n P Q a w := by
  simp only [lexPB, Bool.and_eq_true, decide_eq_true_eq, List.size_toArray] at hB
  obtain ⟨⟨⟨hml, hs⟩, hL⟩, hF⟩ := hB
  refine wpIn_region_any hm ?_
  have e : l.toArray.size = (l.drop m).length + (l.take m).length := by rw [List.size_toArray, List.length_drop, List.length_take]; omega
  rw [e]
  refine wpAny_of_P (C := Keeps w) (m := m) _ _ _ _ (show Below w.heap.size w _ from (Below.refl _ w).drew) ?_
  have hlt : (l.take m).length = m := by rw [List.length_take]; omega
  refine wpAnyP_lex hs (l.take m) 0 _ a ?_ (by rw [← e]; rfl) (fun j hj => by rw [hlt] at hj; rw [Nat.zero_add, List.getElem?_toArray, List.getElem?_take_of_lt hj]) (by rw [hlt]; omega) (by rw [← e, hlt]; simpa using hL) ?_
  · intro j o _ hj
    rw [← e] at hj
    rcases Nat.lt_or_ge j l.toArray.size with h' | h'
    · rw [Array.getD_eq_getD_getElem?, Array.getElem?_replicate] at hj
      split at hj <;> simp at hj
    · rw [Array.getD_eq_getD_getElem?, Array.getElem?_replicate] at hj
      split at hj <;> simp at hj
  · refine wpQuiet_impY (fun a' h1 w' hw' => ?_) _ _ h
    refine wpAny_forced (l.drop m) m _ _ _ (fun j hj => by rw [List.getElem?_drop, List.getElem?_toArray]) ?_ (h1 w' hw')
    rw [List.length_drop]
    simpa using hF
end

end Go.Proofs.Ytiecdlfdfphflaa
