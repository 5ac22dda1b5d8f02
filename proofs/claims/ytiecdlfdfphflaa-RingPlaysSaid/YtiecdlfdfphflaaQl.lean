/- A region that draws its order and whose last operation waits for all the others and may write: one walk in the order of the text; the last operation comes last. No program in sight. -/
import Derived.Test.YtiecdlfdfphflaaQb
namespace Go.Proofs.Ytiecdlfdfphflaa
set_option linter.unusedVariables false
open Go.RowKit

section
variable {P : Program} {ops : Array Oper} {C : World → Prop} {Q : Exit → Act → World → Prop} {md : Region.Mode}

/-- whatever order is picked; operation n comes last -/
def wpAnyL (P : Program) (md : Region.Mode) (ops : Array Oper) (C : World → Prop) (Q : Exit → Act → World → Prop) (n : Nat) : Nat → Array Bool → Act → Prop
  | 0, _, _ => False
  | fuel + 1, listed, a => Region.ready md ops listed ≠ [] ∧ ∀ i ∈ Region.ready md ops listed,
      if i = n then fuel = 0 ∧ Region.ready md ops (listed.setIfInBounds n true) = [] ∧ ∀ w, C w → wpOp P ops Q n (Q .normal) a w
      else qOp P ops C i (wpAnyL P md ops C Q n fuel (listed.setIfInBounds i true)) a

theorem wpAny_of_L {n : Nat} : ∀ (fuel : Nat) (listed : Array Bool) (a : Act) (w : World), C w → wpAnyL P md ops C Q n fuel listed a → wpAny P md ops Q fuel listed a w
  | 0, _, _, _, _, h => h.elim
  | fuel + 1, listed, a, w, hw, h => ⟨fun h0 => absurd h0 h.1, fun i hi => by
      have h1 := h.2 i hi
      by_cases e : i = n
      · rw [if_pos e] at h1
        obtain ⟨rfl, h2, h3⟩ := h1
        subst e
        exact wpOp_mono (fun a' w' h4 => ⟨h2, h4⟩) (h3 w hw)
      · rw [if_neg e] at h1
        exact wpOp_of_qOp hw (fun a' w' hw' h4 => wpAny_of_L fuel _ a' w' hw' h4) h1⟩

theorem wpAnyL_first {n i : Nat} {oi on : Oper} {v : Value} (hin : i ≠ n) (hi : ops[i]? = some oi) (hn : ops[n]? = some on) (hwait : ∃ e ∈ on.after, Region.binds md e = true ∧ e.on = i) (hsel : ∀ (j : Nat) (o : Oper) cs b, ops[j]? = some o → o.op ≠ .select cs b) :
    ∀ (fuel : Nat) (listed : Array Bool) (a : Act),
      (∀ j oj, ops[j]? = some oj → j ≠ i → listed.getD j true = false → (∀ e ∈ oj.after, Region.binds md e = true → e.on ≠ i) → oi.apart ops oj = true) →
      i ∈ Region.ready md ops listed → YieldsIn P ops C oi v a →
      wpAnyL P md ops C Q n fuel (listed.setIfInBounds i true) (a.put oi.dst v) → wpAnyL P md ops C Q n (fuel + 1) listed a := by
  intro fuel
  induction fuel with
  | zero => intro listed a _ _ _ H; exact H.elim
  | succ fuel ih =>
    intro listed a hfree hr hy H
    refine ⟨fun h => (by rw [h] at hr; cases hr), fun j hj => ?_⟩
    obtain ⟨hjun, oj, hoj, hall⟩ := mem_ready.1 hj
    have hun : ∀ e : Nat, e = i → listed.getD e false = true → False := fun e he h1 => by
      have h0 := (mem_ready.1 hr).1
      rw [he] at h1
      rcases Nat.lt_or_ge i listed.size with h' | h'
      · simp [h'] at h0 h1; rw [h0] at h1; cases h1
      · simp [Array.getElem?_eq_none h'] at h1
    by_cases hjn : j = n
    · subst hjn
      rw [hn] at hoj
      cases hoj
      obtain ⟨e, he, hb, hei⟩ := hwait
      exact (hun e.on hei (hall e he hb)).elim
    · rw [if_neg hjn]
      by_cases hji : j = i
      · subst hji; exact hy.qOp hi H
      · have h1 := H.2 j (ready_mono hj hji)
        rw [if_neg hjn] at h1
        have hnot : ∀ e ∈ oj.after, Region.binds md e = true → e.on ≠ i := fun e he hb heq => hun e.on heq (hall e he hb)
        have h2 := qOp_put hoj (hfree j oj hoj hji hjun hnot) (fun cs b => hsel i oi cs b hi) (fun cs b => hsel j oj cs b hoj) hy h1
        have hfree' : ∀ k ok, ops[k]? = some ok → k ≠ i → (listed.setIfInBounds j true).getD k true = false →
            (∀ e ∈ ok.after, Region.binds md e = true → e.on ≠ i) → oi.apart ops ok = true := fun k ok hk hki hun' hno => by
          refine hfree k ok hk hki ?_ hno
          by_cases hjk : j = k
          · subst hjk; exact hjun
          · rw [getD_set_ne true hjk] at hun'; exact hun'
        refine qOp_mono (fun a' h3 => ih (listed.setIfInBounds j true) a' hfree' (ready_mono hr (Ne.symm hji)) h3.1 ?_) h2
        rw [Array.setIfInBounds_comm _ _ hji]
        exact h3.2

/-- the order of the text is one that may be picked; all the others are apart or wait; n waits for each -/
def lexFromL (md : Region.Mode) (ops : Array Oper) (n : Nat) : Nat → Nat → Array Bool → Bool
  | 0, _, listed => Region.ready md ops listed == [n] && (Region.ready md ops (listed.setIfInBounds n true)).isEmpty
  | m + 1, k, listed => (Region.ready md ops listed).contains k && Region.free md ops listed k && (match ops[n]? with | some on => on.after.any fun e => Region.binds md e && e.on == k | none => false) &&
      lexFromL md ops n m (k + 1) (listed.setIfInBounds k true)
def lexLB (md : Region.Mode) (ops : Array Oper) : Bool := Region.noSelect ops && lexFromL md ops (ops.size - 1) (ops.size - 1) 0 (Array.replicate ops.size false)

theorem wpAnyL_lex {n : Nat} (hs : Region.noSelect ops = true) : ∀ (l : List Oper) (k : Nat) (listed : Array Bool) (a : Act), (∀ j, j < l.length → l[j]? = ops[k + j]?) → k + l.length = n →
    lexFromL md ops n l.length k listed = true → wpQuiet P ops C (fun a' => ∀ w', C w' → wpOp P ops Q n (Q .normal) a' w') l a → wpAnyL P md ops C Q n (l.length + 1) listed a
  | [], k, listed, a, _, _, hB, h => by
    simp only [List.length_nil, lexFromL, Bool.and_eq_true, beq_iff_eq, List.isEmpty_iff] at hB
    obtain ⟨h1, h2⟩ := hB
    refine ⟨by rw [h1]; simp, fun i hi => ?_⟩
    rw [h1] at hi
    have : i = n := by simpa using hi
    rw [if_pos this]
    exact ⟨rfl, h2, h⟩
  | o :: l, k, listed, a, hl, hk, hB, h => by
    have h0 : ops[k]? = some o := by simpa using (hl 0 (by simp)).symm
    simp only [List.length_cons, lexFromL, Bool.and_eq_true] at hB
    obtain ⟨⟨⟨hr, hf⟩, hw⟩, hB'⟩ := hB
    simp only [List.length_cons] at hk
    cases hn : ops[n]? with
    | none => rw [hn] at hw; cases hw
    | some on =>
      rw [hn] at hw
      have hwait : ∃ e ∈ on.after, Region.binds md e = true ∧ e.on = k := by
        rw [Array.any_eq_true'] at hw
        obtain ⟨e, he, h2⟩ := hw
        simp only [Bool.and_eq_true, beq_iff_eq] at h2
        exact ⟨e, he, h2⟩
      have hst : qOp P ops C k (wpQuiet P ops C (fun a' => ∀ w', C w' → wpOp P ops Q n (Q .normal) a' w') l) a := by unfold qOp; simp only [h0]; exact h
      obtain ⟨v, hy, hK⟩ := yieldsIn_of_qOp h0 hst
      exact wpAnyL_first (by omega) h0 hn hwait (Region.noSelect_spec hs) (l.length + 1) listed a (Region.free_spec h0 hf) (by simpa using hr) hy
        (wpAnyL_lex hs l (k + 1) _ _ (fun j hj => by have := hl (j + 1) (by simpa using hj); simpa [Nat.add_assoc, Nat.add_comm 1 j] using this) (by omega) hB' hK)

theorem wpQuiet_imp {Q1 Q2 : Act → Prop} (h : ∀ a, Q1 a → Q2 a) : ∀ (l : List Oper) (a : Act), wpQuiet P ops C Q1 l a → wpQuiet P ops C Q2 l a
  | [], a, h1 => h a h1
  | o :: l, a, h1 => by
    unfold wpQuiet at h1 ⊢
    split
    · rename_i hw; rw [if_pos hw] at h1; exact Oper.quiet_mono (fun a' => wpQuiet_imp h l a') h1
    · rename_i hw; rw [if_neg hw] at h1; exact wpQuiet_imp h l _ h1

theorem wp_region_quiet_last {id : Nat} {a : Act} {w : World} {l : List Oper} {o : Oper} (hm : P.follows .mixedOrders = true) (hB : lexLB .any l.toArray = true) (ho : l.getLast? = some o) (hC : C { w with drawn := w.drawn + 1 })
    (h : wpQuiet P l.toArray C (fun a' => ∀ w', C w' → wpList P l.toArray Q [o] a' w') l.dropLast a) : (Code.region id l.toArray true).wp P Q a w := by
  have hne : l ≠ [] := by rintro rfl; cases ho
  have hlen : 0 < l.length := List.length_pos_iff.2 hne
  have hon : l.toArray[l.length - 1]? = some o := by
    rw [List.getElem?_toArray, ← List.getLast?_eq_getElem?]; exact ho
  simp only [lexLB, Bool.and_eq_true, List.size_toArray] at hB
  refine wp_region_any hm (wpAny_of_L (n := l.length - 1) _ _ _ _ hC ?_)
  have := wpAnyL_lex (P := P) (C := C) (Q := Q) (md := .any) hB.1 l.dropLast 0 (Array.replicate l.toArray.size false) a (fun j hj => by
      rw [List.length_dropLast] at hj
      rw [Nat.zero_add, List.getElem?_toArray, List.getElem?_dropLast, if_pos hj]) (by rw [List.length_dropLast, Nat.zero_add])
    (by rw [List.length_dropLast]; simpa using hB.2) (by
      refine wpQuiet_imp (fun a' h1 w' hw' => ?_) _ _ h
      have h2 := h1 w' hw'
      unfold wpList at h2
      unfold wpOp
      rw [hon]
      exact h2)
  rw [List.length_dropLast] at this
  simpa [Nat.sub_add_cancel hlen] using this

theorem wp_region_keeps_last {id : Nat} {a : Act} {w : World} {l : List Oper} (o : Oper) (hm : P.follows .mixedOrders = true) (hB : lexLB .any l.toArray = true) (ho : l.getLast? = some o)
    (h : wpQuiet P l.toArray (Keeps w) (fun a' => ∀ w', Keeps w w' → wpList P l.toArray Q [o] a' w') l.dropLast a) : (Code.region id l.toArray true).wp P Q a w :=
  wp_region_quiet_last (C := Keeps w) hm hB ho (show Below w.heap.size w _ from (Below.refl _ w).drew) h
end

end Go.Proofs.Ytiecdlfdfphflaa
