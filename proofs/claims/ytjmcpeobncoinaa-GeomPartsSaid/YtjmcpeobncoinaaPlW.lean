/- plain facts on walks through a geometry: where a rank's and a page's indices lie among all. No program in sight. -/
import Derived.Test.YtjmcpeobncoinaaRefAll
namespace Go.Proofs.Ytjmcpeobncoinaa
set_option linter.unusedVariables false
open Go.RowKit

/-- the members of a list (f j, j < n) that p picks are S, in order; cnt tells how many lie ahead of j -/
structure Sub (n : Nat) (f : Nat → Int) (S : List Int) (p : Int → Bool) (cnt : Nat → Nat) : Prop where
  zero : cnt 0 = 0
  hit : ∀ j, j < n → p (f j) = true → cnt j < S.length ∧ S.getD (cnt j) 0 = f j ∧ cnt (j + 1) = cnt j + 1
  miss : ∀ j, j < n → p (f j) = false → cnt (j + 1) = cnt j
  total : cnt n = S.length

/-- one block of m, the q-th -/
def cl (m q j : Nat) : Nat := min (j - q * m) m
theorem cl_hit {m q j : Nat} (hm : 0 < m) (h : j / m = q) : cl m q j = j - q * m ∧ cl m q j < m ∧ q * m ≤ j ∧ cl m q (j + 1) = cl m q j + 1 := by
  have h1 : q * m ≤ j := by rw [← h]; exact Nat.div_mul_le_self _ _
  have h2 : j < q * m + m := by rw [← Nat.succ_mul]; exact (Nat.div_lt_iff_lt_mul hm).1 (by omega)
  unfold cl
  omega
theorem cl_miss {m q j : Nat} (hm : 0 < m) (h : j / m ≠ q) : cl m q (j + 1) = cl m q j := by
  have h1 : j < q * m ∨ q * m + m ≤ j := by
    rcases Nat.lt_or_ge (j / m) q with h' | h'
    · left; exact (Nat.div_lt_iff_lt_mul hm).1 h'
    · right
      have : q + 1 ≤ j / m := by omega
      have := (Nat.le_div_iff_mul_le hm).1 this
      rwa [Nat.succ_mul] at this
  unfold cl
  omega
theorem sub_block {n m q : Nat} {f : Nat → Int} {S : List Int} {p : Int → Bool} (hm : 0 < m) (hS : S.length = m) (hn : (q + 1) * m ≤ n) (hp : ∀ j, j < n → (p (f j) = true ↔ j / m = q)) (hv : ∀ t, t < m → S.getD t 0 = f (q * m + t)) :
    Sub n f S p (cl m q) := by
  refine ⟨by simp [cl], fun j hj h => ?_, fun j hj h => ?_, ?_⟩
  · obtain ⟨e1, e2, e3, e4⟩ := cl_hit hm ((hp j hj).1 h)
    refine ⟨by omega, ?_, e4⟩
    rw [e1, hv _ (by omega)]
    congr 1; omega
  · refine cl_miss hm (fun e => ?_)
    rw [(hp j hj).2 e] at h; cases h
  · rw [hS]; unfold cl; rw [Nat.succ_mul] at hn; omega
theorem sub_none {n : Nat} {f : Nat → Int} {p : Int → Bool} (hp : ∀ j, j < n → p (f j) = false) : Sub n f [] p (fun _ => 0) :=
  ⟨rfl, fun j hj h => (by rw [hp j hj] at h; cases h), fun j hj h => rfl, rfl⟩

theorem per_pos {r s b d c : Int} (h : rightB r s b d c = true) : 0 < perN b d c := by
  obtain ⟨a1, a2, a3, a4, a5, a6, a7, a8, a9⟩ := rightB_bd h
  exact Nat.mul_pos (by omega) (Nat.mul_pos (by omega) (by omega))
theorem all_at {r s b d c : Int} (h : rightB r s b d c = true) (j : Nat) (hj : j < (allL r s b d c).length) : (allL r s b d c).getD j 0 = preI b.toNat d.toNat c.toNat j := by
  rw [preA_all h] at hj ⊢
  rw [preA_len] at hj
  unfold preA
  simp [List.getD, hj]
theorem pre_parts {b d c : Int} (bd : 1 ≤ b ∧ b ≤ 16 ∧ 1 ≤ d ∧ d ≤ 1024 ∧ 1 ≤ c ∧ c ≤ 64) (j : Nat) : preI b.toNat d.toNat c.toNat j / 1048576 = (j / perN b d c : Nat) ∧
    preI b.toNat d.toNat c.toNat j / 64 = 16384 * ((j / perN b d c : Nat) : Int) + 1024 * ((j % perN b d c / (d.toNat * c.toNat) : Nat) : Int) + ((j % perN b d c / c.toNat % d.toNat : Nat) : Int) ∧ preI b.toNat d.toNat c.toNat j % 64 = ((j % perN b d c % c.toNat : Nat) : Int) := by
  obtain ⟨a1, a2, a3, a4, a5, a6⟩ := bd
  unfold preI rankI
  rw [show b.toNat * (d.toNat * c.toNat) = perN b d c from rfl]
  have e1 : j % perN b d c / (d.toNat * c.toNat) < b.toNat := by
    rw [Nat.div_lt_iff_lt_mul (Nat.mul_pos (by omega) (by omega))]
    exact Nat.mod_lt _ (Nat.mul_pos (by omega) (Nat.mul_pos (by omega) (by omega)))
  have e2 : j % perN b d c / c.toNat % d.toNat < d.toNat := Nat.mod_lt _ (by omega)
  have e3 : j % perN b d c % c.toNat < c.toNat := Nat.mod_lt _ (by omega)
  generalize j % perN b d c / (d.toNat * c.toNat) = x at *
  generalize j % perN b d c / c.toNat % d.toNat = y at *
  generalize j % perN b d c % c.toNat = z at *
  generalize j / perN b d c = k at *
  unfold idx
  omega

theorem sub_rank (r s b d c rk : Int) : ∃ cnt, Sub (allL r s b d c).length (fun j => (allL r s b d c).getD j 0) (rankL r s b d c rk) (fun x => decide (x / 1048576 = rk)) cnt := by
  cases hrt : rightB r s b d c
  · rw [allL_no hrt, rankL_no (by unfold holdsB; rw [hrt]; rfl)]
    exact ⟨_, sub_none (fun j hj => by simp at hj)⟩
  have bd := rightB_bd hrt
  have hper := per_pos hrt
  have hat := fun j hj => all_at hrt j hj
  by_cases hk : 0 ≤ rk ∧ rk < r + s
  · have hh : holdsB r s b d c rk 0 0 0 = true := by rw [holds_rank hrt]; exact bel_mk hk.1 hk.2
    obtain ⟨q, rfl⟩ := Int.eq_ofNat_of_zero_le hk.1
    refine ⟨_, sub_block (m := perN b d c) (q := q) hper (rankL_len hh) ?_ (fun j hj => ?_) (fun t ht => ?_)⟩
    · rw [allL_len hrt]; exact Nat.mul_le_mul_right _ (by omega)
    · rw [hat j hj, decide_eq_true_eq, (pre_parts (by omega) j).1]
      omega
    · have hlt : q * perN b d c + t < (allL r s b d c).length := by rw [allL_len hrt]; exact two_lt (by omega) ht
      rw [rankL_get hh t ht, allL_get hrt q t (by omega) ht]
  · rw [rankL_no (by rw [holds_rank hrt]; unfold bel; by_cases h0 : 0 ≤ rk; rw [decide_eq_false (show ¬ rk < r + s by omega)]; simp; rw [decide_eq_false h0]; rfl)]
    refine ⟨_, sub_none (fun j hj => ?_)⟩
    rw [hat j hj, decide_eq_false]
    rw [(pre_parts (by omega) j).1]
    intro e
    rw [allL_len hrt] at hj
    have : j / perN b d c < (r + s).toNat := (Nat.div_lt_iff_lt_mul hper).2 hj
    generalize j / perN b d c = k at *
    omega

/-- a page's number among all -/
theorem page_q {b d c : Int} (bd : 1 ≤ b ∧ b ≤ 16 ∧ 1 ≤ d ∧ d ≤ 1024 ∧ 1 ≤ c ∧ c ≤ 64) (j : Nat) : j / c.toNat = (j / perN b d c * b.toNat + j % perN b d c / (d.toNat * c.toNat)) * d.toNat + j % perN b d c / c.toNat % d.toNat := by
  obtain ⟨a1, a2, a3, a4, a5, a6⟩ := bd
  unfold perN
  have hc : 0 < c.toNat := by omega
  have hd : 0 < d.toNat := by omega
  generalize c.toNat = C at *
  generalize d.toNat = D at *
  generalize b.toNat = B at *
  have e1 : j / C / D = j / (D * C) := by rw [Nat.div_div_eq_div_mul, Nat.mul_comm]
  have h1 : j % (B * (D * C)) / (D * C) = j / (D * C) % B := by rw [Nat.mul_comm B, Nat.mod_mul_right_div_self]
  have h2 : j / (B * (D * C)) = j / (D * C) / B := by rw [Nat.div_div_eq_div_mul, Nat.mul_comm]
  have h3 : j % (B * (D * C)) / C % D = j / C % D := by
    rw [← Nat.mul_assoc, Nat.mul_comm (B * D) C, Nat.mod_mul_right_div_self, Nat.mul_comm B D, Nat.mod_mul_right_mod]
  rw [h1, h2, h3, ← e1]
  have f1 := Nat.div_add_mod (j / C / D) B
  have f2 := Nat.div_add_mod (j / C) D
  rw [Nat.mul_comm B] at f1
  rw [f1, Nat.mul_comm (j / C / D) D]
  exact f2.symm

theorem sub_page (r s b d c pg : Int) : ∃ cnt, Sub (allL r s b d c).length (fun j => (allL r s b d c).getD j 0) (pageL r s b d c pg) (fun x => decide (x / 64 = pg)) cnt := by
  cases hrt : rightB r s b d c
  · rw [allL_no hrt, pageL_no (by unfold pageOk atB holdsB; rw [hrt]; simp)]
    exact ⟨_, sub_none (fun j hj => by simp at hj)⟩
  have bd := rightB_bd hrt
  have hper := per_pos hrt
  have hat := fun j hj => all_at hrt j hj
  have hb6 : 1 ≤ b ∧ b ≤ 16 ∧ 1 ≤ d ∧ d ≤ 1024 ∧ 1 ≤ c ∧ c ≤ 64 := by omega
  have lts : ∀ j, j < (allL r s b d c).length → j / perN b d c < (r + s).toNat ∧ j % perN b d c / (d.toNat * c.toNat) < b.toNat ∧ j % perN b d c / c.toNat % d.toNat < d.toNat := fun j hj => by
    rw [allL_len hrt] at hj
    refine ⟨(Nat.div_lt_iff_lt_mul hper).2 hj, ?_, Nat.mod_lt _ (by omega)⟩
    rw [Nat.div_lt_iff_lt_mul (Nat.mul_pos (by omega) (by omega))]
    exact Nat.mod_lt _ hper
  cases hok : pageOk r s b d c pg
  · rw [pageL_no hok]
    refine ⟨_, sub_none (fun j hj => ?_)⟩
    show decide ((allL r s b d c).getD j 0 / 64 = pg) = false
    rw [hat j hj, decide_eq_false]
    intro e
    obtain ⟨l1, l2, l3⟩ := lts j hj
    rw [(pre_parts hb6 j).2.1] at e
    generalize j % perN b d c / (d.toNat * c.toNat) = x at *
    generalize j % perN b d c / c.toNat % d.toNat = y at *
    generalize j / perN b d c = k at *
    have : pageOk r s b d c pg = true := by
      unfold pageOk
      rw [decide_eq_true (show 0 ≤ pg by omega), decide_eq_true (show pg < 131072 by omega)]
      unfold atB
      rw [decide_eq_true (show 0 ≤ pg * 64 by omega), show pg * 64 / 1048576 = k from by omega, show pg * 64 / 65536 % 16 = x from by omega, show pg * 64 / 64 % 1024 = y from by omega, show pg * 64 % 64 = 0 from by omega, holdsB_mk hrt (by omega) (by omega) (by omega) (by omega) (by omega) (by omega) (by omega) (by omega)]
      rfl
    rw [this] at hok; cases hok
  · obtain ⟨h0, h1, _, _⟩ := pageOk_yes hok
    have hh : holdsB r s b d c (pg * 64 / 1048576) (pg * 64 / 65536 % 16) (pg * 64 / 64 % 1024) (pg * 64 % 64) = true := by
      have := hok
      unfold pageOk atB at this
      simp only [Bool.and_eq_true] at this
      exact this.2.2.2
    obtain ⟨_, g1, g2, g3, g4, g5, g6, _, _⟩ := holdsB_yes hh
    obtain ⟨K, hK⟩ := Int.eq_ofNat_of_zero_le g1
    obtain ⟨X, hX⟩ := Int.eq_ofNat_of_zero_le g3
    obtain ⟨Y, hY⟩ := Int.eq_ofNat_of_zero_le g5
    have hc : 0 < c.toNat := by omega
    have hpg : pg = 16384 * (K : Int) + 1024 * (X : Int) + (Y : Int) := by omega
    have l0 : (K * b.toNat + X) * d.toNat + Y < (r + s).toNat * (b.toNat * d.toNat) := by
      have := three_lt (bb := K) (bn := (r + s).toNat) (ww := X) (dn := b.toNat) (cc := Y) (cn := d.toNat) (by omega) (by omega) (by omega)
      exact this
    refine ⟨_, sub_block (m := c.toNat) (q := (K * b.toNat + X) * d.toNat + Y) hc (pageL_len hok) ?_ (fun j hj => ?_) (fun t ht => ?_)⟩
    · rw [allL_len hrt]
      have := Nat.mul_le_mul_right c.toNat (Nat.succ_le_of_lt l0)
      rw [Nat.mul_assoc, Nat.mul_assoc] at this
      exact this
    · show decide ((allL r s b d c).getD j 0 / 64 = pg) = true ↔ _
      rw [hat j hj, decide_eq_true_eq, (pre_parts hb6 j).2.1, page_q hb6 j, hpg]
      obtain ⟨l1, l2, l3⟩ := lts j hj
      generalize j % perN b d c / (d.toNat * c.toNat) = x at *
      generalize j % perN b d c / c.toNat % d.toNat = y at *
      generalize j / perN b d c = k at *
      have hX2 : X < b.toNat := by omega
      have hY2 : Y < d.toNat := by omega
      constructor
      · intro e
        have e1 : k = K := by omega
        have e2 : x = X := by omega
        have e3 : y = Y := by omega
        rw [e1, e2, e3]
      · intro e
        have q1 : ((k * b.toNat + x) * d.toNat + y) / d.toNat = k * b.toNat + x := by rw [Nat.mul_comm _ d.toNat, Nat.mul_add_div (by omega), Nat.div_eq_of_lt l3, Nat.add_zero]
        have q2 : ((K * b.toNat + X) * d.toNat + Y) / d.toNat = K * b.toNat + X := by rw [Nat.mul_comm _ d.toNat, Nat.mul_add_div (by omega), Nat.div_eq_of_lt hY2, Nat.add_zero]
        have q3 : ((k * b.toNat + x) * d.toNat + y) % d.toNat = y := by rw [Nat.mul_comm _ d.toNat, Nat.mul_add_mod, Nat.mod_eq_of_lt l3]
        have q4 : ((K * b.toNat + X) * d.toNat + Y) % d.toNat = Y := by rw [Nat.mul_comm _ d.toNat, Nat.mul_add_mod, Nat.mod_eq_of_lt hY2]
        rw [e, q2] at q1
        rw [e, q4] at q3
        have q5 : (k * b.toNat + x) / b.toNat = k := by rw [Nat.mul_comm k, Nat.mul_add_div (by omega), Nat.div_eq_of_lt l2, Nat.add_zero]
        have q6 : (K * b.toNat + X) / b.toNat = K := by rw [Nat.mul_comm K, Nat.mul_add_div (by omega), Nat.div_eq_of_lt hX2, Nat.add_zero]
        have q7 : (k * b.toNat + x) % b.toNat = x := by rw [Nat.mul_comm k, Nat.mul_add_mod, Nat.mod_eq_of_lt l2]
        have q8 : (K * b.toNat + X) % b.toNat = X := by rw [Nat.mul_comm K, Nat.mul_add_mod, Nat.mod_eq_of_lt hX2]
        rw [← q1, q6] at q5
        rw [← q1, q8] at q7
        subst q5; subst q7; subst q3; rfl
    · have hlt : ((K * b.toNat + X) * d.toNat + Y) * c.toNat + t < (allL r s b d c).length := by
        rw [allL_len hrt]
        have := two_lt l0 ht
        rw [Nat.mul_assoc, Nat.mul_assoc] at this
        exact this
      rw [pageL_get hok t ht]
      show _ = (allL r s b d c).getD (((K * b.toNat + X) * d.toNat + Y) * c.toNat + t) 0
      have e : ((K * b.toNat + X) * d.toNat + Y) * c.toNat + t = K * perN b d c + ((X * d.toNat + Y) * c.toNat + t) := by
        unfold perN
        rw [Nat.add_mul, Nat.add_mul, Nat.add_mul, Nat.add_mul, Nat.mul_assoc, Nat.mul_assoc, Nat.mul_assoc]
        omega
      rw [e, allL_get hrt K _ (by omega) (three_lt (by omega) (by omega) ht), rankI_at _ (by omega) ht]
      unfold idx
      omega

end Go.Proofs.Ytjmcpeobncoinaa
