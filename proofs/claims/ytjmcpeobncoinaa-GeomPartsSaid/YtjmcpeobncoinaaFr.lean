/- opening the arguments of these laws: geometries, places, integers. -/
import Derived.Test.YtjmcpeobncoinaaRows
import Derived.WalkKit
import Derived.ProofKit
import Derived.OpenShut
import Derived.ChangeOld
import Derived.Below
import Derived.Lib.SmallJoins
import Derived.Deep.Slices
namespace Go.Proofs.Ytjmcpeobncoinaa
open Go.ChangeShapes Go.WideShapes Go.ChangeAt Go.RowKit Go.Joins Go.Deep

theorem own : ownKnob Try.prog.godebug = none := by kernel_rfl
theorem laidOut : laidOutB Try.prog = true := by kernel_rfl

/-- a whole number of Go's int -/
def In64 (n : Int) : Prop := -9223372036854775808 ≤ n ∧ n ≤ 9223372036854775807
theorem in64_of {n : Int} (h : (Lit.int .i64 n).wf = true) : In64 n := by
  have := bounds_i64 h
  unfold In64
  omega

section
variable {H : Type} {enc : TypeId × Value → H} {P : Program} {w : World} {base : Nat} {spare : Nat → Bool} {held : Bool}
/-- a struct of integers, by value: its numbers -/
theorem open_int_struct {r : Reach} {b0 : Nat} {t : TypeId} {fs : Array Field} {v : Value} {d : DataW H} {p : List MemPlace} (hs : P.underlying t = some (.struct fs)) (hone : oneCellFields P fs = true) (hC : P.cellsOf t = fs.size)
    (hint : ∀ (i : Nat) (f : Field), fs[i]? = some f → P.underlying f.type = some (.int .i64))
    (hv : Value.okWide P w r b0 t v) (h : DataW.Trod enc P w base spare held t v d p) :
    ∃ l : List Int, v = .agg (l.map (Value.int .i64)).toArray ∧ l.length = fs.size ∧ ∀ n ∈ l, In64 n := by
  obtain ⟨cs, rfl, hsz⟩ := okWide_struct hs hv
  obtain ⟨l⟩ := cs
  have hl : l.length = fs.size := by simpa using hsz.trans hC
  obtain ⟨fuel, hf⟩ := h
  obtain ⟨xs, n, _, hx, _, hyl, hg⟩ := DataW.trod_struct hs hf
  have key : ∀ (j : Nat) (hj : j < l.length), ∃ n : Int, l[j] = .int .i64 n ∧ In64 n := by
    intro j hj
    have hjf : fs[j]? = some (fs[j]'(by omega)) := Array.getElem?_eq_getElem (by omega)
    obtain ⟨ho, hk⟩ := hone_of hone j _ hjf
    have h1 := hg j _ hjf
    rw [ho, hk] at h1
    have hone' : (l.drop j).take 1 = [l[j]] := by
      rw [List.drop_eq_getElem_cons (by omega)]
      rfl
    simp only [Value.cells, hone'] at h1
    have hyj : xs[j]? = some (xs[j]'(by omega)) := List.getElem?_eq_getElem (by omega)
    obtain ⟨n, hn, _, hw⟩ := DataW.trod_int (hint j _ hjf) (h1.trans hyj)
    exact ⟨n, by simpa using hn, in64_of hw⟩
  clear hx
  refine ⟨l.map fun v => match v with | .int _ n => n | _ => 0, ?_, by simpa using hl, ?_⟩
  · have e : l = (l.map fun v => match v with | .int _ n => n | _ => 0).map (Value.int .i64) := by
      rw [List.map_map]
      refine List.ext_getElem (by simp) fun j hj _ => ?_
      obtain ⟨n, hn, _⟩ := key j hj
      simp [hn]
    show Value.agg ⟨l⟩ = Value.agg ⟨_⟩
    rw [← e]
  · intro m hm
    rw [List.mem_map] at hm
    obtain ⟨x, hx, rfl⟩ := hm
    obtain ⟨j, hj, rfl⟩ := List.getElem_of_mem hx
    obtain ⟨n, hn, h64⟩ := key j hj
    rw [hn]
    exact h64
end

section
variable {H : Type} {enc : TypeId × Value → H} {w : World} {base : Nat} {spare : Nat → Bool} {held : Bool}
theorem open_geom {r : Reach} {b0 : Nat} {v : Value} {d : DataW H} {p : List MemPlace} (hv : Value.okWide Try.prog w r b0 23 v) (h : DataW.Trod enc Try.prog w base spare held 23 v d p) :
    ∃ a0 a1 a2 a3 a4 : Int, v = .agg #[.int .i64 a0, .int .i64 a1, .int .i64 a2, .int .i64 a3, .int .i64 a4] ∧ In64 a0 ∧ In64 a1 ∧ In64 a2 ∧ In64 a3 ∧ In64 a4 := by
  obtain ⟨l, rfl, hl, hb⟩ := open_int_struct Try.underlying23 (by kernel_rfl) (by kernel_rfl) (fun i f hf => by
    match i, hf with
    | 0, hf => cases hf; exact Try.underlying3
    | 1, hf => cases hf; exact Try.underlying3
    | 2, hf => cases hf; exact Try.underlying3
    | 3, hf => cases hf; exact Try.underlying3
    | 4, hf => cases hf; exact Try.underlying3
    | n + 5, hf => simp at hf) hv h
  match l, hl with
  | [a0, a1, a2, a3, a4], _ => exact ⟨a0, a1, a2, a3, a4, rfl, hb _ (by simp), hb _ (by simp), hb _ (by simp), hb _ (by simp), hb _ (by simp)⟩
theorem open_place {r : Reach} {b0 : Nat} {v : Value} {d : DataW H} {p : List MemPlace} (hv : Value.okWide Try.prog w r b0 25 v) (h : DataW.Trod enc Try.prog w base spare held 25 v d p) :
    ∃ a0 a1 a2 a3 : Int, v = .agg #[.int .i64 a0, .int .i64 a1, .int .i64 a2, .int .i64 a3] ∧ In64 a0 ∧ In64 a1 ∧ In64 a2 ∧ In64 a3 := by
  obtain ⟨l, rfl, hl, hb⟩ := open_int_struct Try.underlying25 (by kernel_rfl) (by kernel_rfl) (fun i f hf => by
    match i, hf with
    | 0, hf => cases hf; exact Try.underlying3
    | 1, hf => cases hf; exact Try.underlying3
    | 2, hf => cases hf; exact Try.underlying3
    | 3, hf => cases hf; exact Try.underlying3
    | n + 4, hf => simp at hf) hv h
  match l, hl with
  | [a0, a1, a2, a3], _ => exact ⟨a0, a1, a2, a3, rfl, hb _ (by simp), hb _ (by simp), hb _ (by simp), hb _ (by simp)⟩
theorem open_num {r : Reach} {b0 : Nat} {v : Value} {d : DataW H} {p : List MemPlace} (hv : Value.okWide Try.prog w r b0 3 v) (h : DataW.Trod enc Try.prog w base spare held 3 v d p) :
    ∃ n : Int, v = .int .i64 n ∧ In64 n := by
  obtain ⟨x, rfl, _, _, wx⟩ := open_int Try.underlying3 hv h
  exact ⟨x, rfl, in64_of wx⟩
end
end Go.Proofs.Ytjmcpeobncoinaa
