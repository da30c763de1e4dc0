/- shape.Tidy: nodes numbered as they come. -/
import Derived.Test.YtknplnfoekeljaaCirc
import Derived.Test.YtknplnfoekeljaaGraph
namespace Go.Proofs.Ytknplnfoekeljaa
open Go.RowKit
/-! ### plain -/
def visitN (l : List Int) (n : Int) : List Int := if n ∈ l then l else l ++ [n]
def tStep (s : List Edge × List Int) (e : Edge) : List Edge × List Int :=
  let l2 := visitN (visitN s.2 e.a) e.b
  (s.1 ++ [⟨(l2.idxOf e.a : Int), (l2.idxOf e.b : Int), e.by_⟩], l2)
def tidyS (es : List Edge) : List Edge × List Int := es.foldl tStep ([], [0, 1])
def tidyG (g : Graph) : Graph := ⟨((tidyS g.edges).2.length : Int), (tidyS g.edges).1⟩
theorem tidyS_snoc (es : List Edge) (e : Edge) : tidyS (es ++ [e]) = tStep (tidyS es) e := by simp [tidyS]
theorem tidyS_length (es : List Edge) : (tidyS es).1.length = es.length := by
  have h : ∀ (es : List Edge) (s : List Edge × List Int), (es.foldl tStep s).1.length = s.1.length + es.length := by
    intro es
    induction es with
    | nil => intro s; rfl
    | cons e es ih => intro s; rw [List.foldl_cons, ih]; simp [tStep]; omega
  rw [tidyS, h]; simp
theorem visitN_idx {l : List Int} {x n : Int} (h : x ∈ l) : (visitN l n).idxOf x = l.idxOf x := by
  unfold visitN; split
  · rfl
  · rw [List.idxOf_append, if_pos h]
theorem mem_visitN {l : List Int} {n : Int} : n ∈ visitN l n := by unfold visitN; split <;> simp_all
theorem mem_visitN_of {l : List Int} {x n : Int} (h : x ∈ l) : x ∈ visitN l n := by unfold visitN; split <;> simp_all
/-- the table of numbers: as the order says -/
def asOf (m : Nat) (l : List Int) : List Int := (List.range m).map fun (x : Nat) => if (x : Int) ∈ l then (l.idxOf (x : Int) : Int) else 0
/-- a good order: 0, 1 ahead, all below m, none twice -/
structure OrdOk (m : Nat) (l : List Int) : Prop where
  head : ∃ r, l = 0 :: 1 :: r
  lt : ∀ x, x ∈ l → 0 ≤ x ∧ x < m
  nodup : l.Nodup
theorem OrdOk.visit {m : Nat} {l : List Int} (h : OrdOk m l) {n : Int} (h0 : 0 ≤ n) (h1 : n < m) : OrdOk m (visitN l n) := by
  obtain ⟨⟨r, hr⟩, hlt, hnd⟩ := h
  unfold visitN
  split
  · exact ⟨⟨r, hr⟩, hlt, hnd⟩
  · rename_i hn
    refine ⟨⟨r ++ [n], by rw [hr]; rfl⟩, fun x hx => ?_, ?_⟩
    · rcases List.mem_append.1 hx with hx | hx
      · exact hlt x hx
      · have : x = n := by simpa using hx
        subst this; exact ⟨h0, h1⟩
    · rw [List.nodup_append]
      refine ⟨hnd, by simp, fun a ha b hb => ?_⟩
      have : b = n := by simpa using hb
      subst this; intro e; subst e; exact hn ha
theorem pigeon : ∀ (m : Nat) (l : List Int), l.Nodup → (∀ x, x ∈ l → 0 ≤ x ∧ x < m) → l.length ≤ m
  | 0, l, _, h => by
    cases l with
    | nil => exact Nat.le_refl _
    | cons a l => have := h a (by simp); omega
  | m + 1, l, hn, h => by
    by_cases hm : (m : Int) ∈ l
    · have h1 := pigeon m (l.erase (m : Int)) (hn.erase _) (fun x hx => by
        have h2 := h x (List.mem_of_mem_erase hx)
        have h3 : x ≠ m := fun e => by subst e; exact (List.Nodup.not_mem_erase hn) hx
        omega)
      have h4 := List.length_erase_of_mem hm
      omega
    · have h1 := pigeon m l hn (fun x hx => by
        have h2 := h x hx
        have h3 : x ≠ m := fun e => by subst e; exact hm hx
        omega)
      omega
theorem OrdOk.length_le {m : Nat} {l : List Int} (h : OrdOk m l) : l.length ≤ m := pigeon m l h.nodup h.lt
theorem OrdOk.start {m : Nat} (h : 2 ≤ m) : OrdOk m [0, 1] :=
  ⟨⟨[], rfl⟩, fun x hx => by simp at hx; omega, by decide⟩
theorem asOf_get {m : Nat} {l : List Int} {x : Nat} (hx : x < m) : (asOf m l)[x]? = some (if (x : Int) ∈ l then (l.idxOf (x : Int) : Int) else 0) := by
  simp [asOf, hx]
/-- is it new? as the program asks -/
theorem asked {m : Nat} {l : List Int} (h : OrdOk m l) {x : Nat} (hx : 1 < x) : (if (x : Int) ∈ l then (l.idxOf (x : Int) : Int) else 0) = 0 ↔ (x : Int) ∉ l := by
  constructor
  · intro he hm
    rw [if_pos hm] at he
    obtain ⟨r, hr⟩ := h.head
    have : l.idxOf (x : Int) = 0 := by omega
    rw [hr, List.idxOf_cons] at this
    have h2 : ((0 : Int) == (x : Int)) = false := by simp; omega
    rw [h2] at this; simp at this
  · intro hn; rw [if_neg hn]
theorem asOf_visit {m : Nat} {l : List Int} (h : OrdOk m l) {n : Nat} (hn : n < m) (hnew : (n : Int) ∉ l) : asOf m (visitN l n) = (asOf m l).set n (l.length : Int) := by
  have hv : visitN l n = l ++ [(n : Int)] := by unfold visitN; rw [if_neg hnew]
  apply List.ext_getElem?
  intro x
  by_cases hx : x < m
  · rw [asOf_get hx, List.getElem?_set, asOf_get hx, hv]
    by_cases hxn : n = x
    · subst hxn
      rw [if_pos rfl, if_pos (show n < (asOf m l).length by simp [asOf, hn]), if_pos (show (n : Int) ∈ l ++ [(n : Int)] by simp), List.idxOf_append, if_neg hnew]
      simp [List.idxOf_cons]
    · rw [if_neg hxn]
      by_cases hm : (x : Int) ∈ l
      · rw [if_pos (by simp [hm]), if_pos hm, List.idxOf_append, if_pos hm]
      · rw [if_neg hm, if_neg (by simp [hm]; omega)]
  · rw [List.getElem?_eq_none (by simp [asOf]; omega), List.getElem?_eq_none (by simp [asOf]; omega)]
theorem asOf_start {m : Nat} (h : 2 ≤ m) : asOf m [0, 1] = (List.replicate m 0).set 1 1 := by
  apply List.ext_getElem?
  intro x
  by_cases hx : x < m
  · rw [asOf_get hx, List.getElem?_set]
    by_cases hx1 : 1 = x
    · subst hx1; rw [if_pos rfl, if_pos (by simp), if_pos (by simp; omega)]; rfl
    · rw [if_neg hx1]
      by_cases hx0 : x = 0
      · subst hx0; simp [hx]
      · rw [if_neg (by simp; omega)]; simp [hx]
  · rw [List.getElem?_eq_none (by simp [asOf]; omega), List.getElem?_eq_none (by simp; omega)]
end Go.Proofs.Ytknplnfoekeljaa
