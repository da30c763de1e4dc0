/- The closure inside shape.Tidy: a node's number. -/
import Derived.Test.YtknplnfoekeljaaTidy
namespace Go.Proofs.Ytknplnfoekeljaa
open Go.RowKit
def intsV (l : List Int) : Array Value := (l.map fun x => Value.int .i64 x).toArray
theorem intsV_get {l : List Int} {i : Nat} {x : Int} (h : l[i]? = some x) : (intsV l)[i]? = some (.int .i64 x) := by simp [intsV, h]
theorem intsV_set (l : List Int) (i : Nat) (x : Int) : (intsV l).setIfInBounds i (.int .i64 x) = intsV (l.set i x) := by
  unfold intsV; rw [List.setIfInBounds_toArray, List.map_set]
structure NumIn (w : World) (bA ba bo m : Nat) (es : Value) (l : List Int) : Prop where
  ok : OrdOk m l
  m256 : m ≤ 256
  hA : w.heap[bA]? = some (.cells #[.slice (some ⟨ba, 0, none⟩) m m] 101 (0, 0))
  ha : w.heap[ba]? = some (.cells (intsV (asOf m l)) 3 (0, 0))
  ho : w.heap[bo]? = some (.cells #[.int .i64 (l.length : Int), es] 34 (0, 0))
  ne : bA ≠ ba ∧ bA ≠ bo ∧ ba ≠ bo
theorem NumIn.ca {w : World} {bA ba bo m : Nat} {es : Value} {l : List Int} (h : NumIn w bA ba bo m es l) {x : Nat} (hx : x < m) :
    w.cell? ⟨ba, x, none⟩ = some (.int .i64 (if (x : Int) ∈ l then (l.idxOf (x : Int) : Int) else 0)) := by
  rw [cell_of_row w ba x _ _ _ h.ha, intsV_get (asOf_get hx)]
theorem number_old {w : World} {bA ba bo m : Nat} {es : Value} {l : List Int} (h : NumIn w bA ba bo m es l) {x : Nat} (hx : x < m) (hl : (x : Int) ∈ l) :
    Calls Try.prog 178 #[.int .i64 (x : Int), .pointer (some ⟨bA, 0, none⟩), .pointer (some ⟨bo, 0, none⟩)] w (fun e w' => e = .returned (.int .i64 (l.idxOf (x : Int) : Int)) ∧ w = w') := by
  have c0 : w.cell? ⟨bA, 0, none⟩ = some (.slice (some ⟨ba, 0, none⟩) m m) := by rw [cell_of_row w bA 0 _ _ _ h.hA]; rfl
  have c1 := h.ca hx
  rw [if_pos hl] at c1
  have hm := h.m256
  have HA : Hid (1 < x → (l.idxOf (x : Int) : Int) ≠ 0) := fun h1 e => (asked h.ok h1).1 (by rw [if_pos hl]; exact e) hl
  clear hl
  generalize (l.idxOf (x : Int) : Int) = y at *
  by_cases h1 : 1 < x
  · have t1 : decide (1 < (x : Int)) = true := by simp; omega
    have t2 : (y == 0) = false := by simpa using HA.out h1
    go_enter Try.func178, Try.ntmps178
    go_wp2
    go_ret
    exact ⟨rfl, rfl⟩
  · have t1 : decide (1 < (x : Int)) = false := by simp; omega
    go_enter Try.func178, Try.ntmps178
    go_wp2
    go_ret
    exact ⟨rfl, rfl⟩
theorem number_new {w : World} {bA ba bo m : Nat} {es : Value} {l : List Int} (h : NumIn w bA ba bo m es l) {x : Nat} (hx : x < m) (hl : (x : Int) ∉ l) :
    Calls Try.prog 178 #[.int .i64 (x : Int), .pointer (some ⟨bA, 0, none⟩), .pointer (some ⟨bo, 0, none⟩)] w
      (fun e w' => e = .returned (.int .i64 (l.length : Int)) ∧ (w.setCell ⟨ba, x, none⟩ (.int .i64 (l.length : Int))).setCell ⟨bo, 0, none⟩ (.int .i64 ((l.length : Int) + 1)) = w') := by
  have c0 : w.cell? ⟨bA, 0, none⟩ = some (.slice (some ⟨ba, 0, none⟩) m m) := by rw [cell_of_row w bA 0 _ _ _ h.hA]; rfl
  have c1 := h.ca hx
  rw [if_neg hl] at c1
  have c2 : w.cell? ⟨bo, 0, none⟩ = some (.int .i64 (l.length : Int)) := by rw [cell_of_row w bo 0 _ _ _ h.ho]; rfl
  have fa := fun j => frozen_of_row w ba j _ _ h.ha
  have fo := fun j => frozen_of_row w bo j _ _ h.ho
  obtain ⟨n1, n2, n3⟩ := h.ne
  have hm := h.m256
  have hlen := h.ok.length_le
  have h1 : 1 < x := by
    obtain ⟨r, hr⟩ := h.ok.head
    refine Nat.lt_of_not_le fun hle => hl ?_
    rw [hr]
    have : x = 0 ∨ x = 1 := by omega
    rcases this with rfl | rfl <;> simp
  have t1 : decide (1 < (x : Int)) = true := by simp; omega
  clear hl
  generalize l.length = y at *
  go_enter Try.func178, Try.ntmps178
  go_wp2
  go_ret
  exact ⟨rfl, rfl⟩
theorem NumIn.visit {w : World} {bA ba bo m : Nat} {es : Value} {l : List Int} (h : NumIn w bA ba bo m es l) {x : Nat} (hx : x < m) (hl : (x : Int) ∉ l) :
    NumIn ((w.setCell ⟨ba, x, none⟩ (.int .i64 (l.length : Int))).setCell ⟨bo, 0, none⟩ (.int .i64 ((l.length : Int) + 1))) bA ba bo m es (visitN l x) := by
  obtain ⟨n1, n2, n3⟩ := h.ne
  refine ⟨h.ok.visit (by omega) (by omega), h.m256, ?_, ?_, ?_, h.ne⟩
  · rw [Below.heap_setCell _ _ _ _ n2, Below.heap_setCell _ _ _ _ n1]; exact h.hA
  · rw [Below.heap_setCell _ _ _ _ n3, heap_setCell_same w ba x _ _ _ h.ha, intsV_set, asOf_visit h.ok hx hl]
  · rw [heap_setCell_same _ bo 0 #[.int .i64 (l.length : Int), es] 34 _ (by rw [Below.heap_setCell _ _ _ _ (Ne.symm n3)]; exact h.ho)]
    have : (visitN l (x : Int)).length = l.length + 1 := by unfold visitN; rw [if_neg hl]; simp
    rw [this]; rfl
theorem NumIn.keep {w w' : World} {bA ba bo m : Nat} {es : Value} {l : List Int} (h : NumIn w bA ba bo m es l) (hA : w'.heap[bA]? = w.heap[bA]?) (ha : w'.heap[ba]? = w.heap[ba]?) (ho : w'.heap[bo]? = w.heap[bo]?) : NumIn w' bA ba bo m es l :=
  ⟨h.ok, h.m256, by rw [hA]; exact h.hA, by rw [ha]; exact h.ha, by rw [ho]; exact h.ho, h.ne⟩
theorem NumIn.up {w w' : World} {bA ba bo m : Nat} {es : Value} {l : List Int} (h : NumIn w bA ba bo m es l) (k : Below w.heap.size w w') : NumIn w' bA ba bo m es l :=
  h.keep (k.block _ (Array.getElem?_eq_some_iff.1 h.hA).1) (k.block _ (Array.getElem?_eq_some_iff.1 h.ha).1) (k.block _ (Array.getElem?_eq_some_iff.1 h.ho).1)
/-- nothing but two blocks has turned -/
structure Touch (ba bo : Nat) (w w' : World) : Prop where
  os : w'.os = w.os
  tape : w'.tape = w.tape
  output : w'.output = w.output
  size : w'.heap.size = w.heap.size
  block : ∀ k, k ≠ ba → k ≠ bo → w'.heap[k]? = w.heap[k]?
theorem Touch.below {ba bo B : Nat} {w w' : World} (h : Touch ba bo w w') (h1 : B ≤ ba) (h2 : B ≤ bo) : Below B w w' :=
  ⟨h.os, h.tape, h.output, Nat.le_of_eq h.size.symm, fun k hk => h.block k (by omega) (by omega)⟩
theorem Touch.cell {ba bo : Nat} {w w' : World} (h : Touch ba bo w w') {b j : Nat} (h1 : b ≠ ba) (h2 : b ≠ bo) : w'.cell? ⟨b, j, none⟩ = w.cell? ⟨b, j, none⟩ :=
  World.cell?_of_block (w := w) (h.block b h1 h2)
theorem Touch.frozen {ba bo : Nat} {w w' : World} (h : Touch ba bo w w') {b j : Nat} (h1 : b ≠ ba) (h2 : b ≠ bo) : w'.frozen? ⟨b, j, none⟩ = w.frozen? ⟨b, j, none⟩ :=
  World.frozen?_of_block (w := w) (h.block b h1 h2)
theorem number_ok {w : World} {bA ba bo m : Nat} {es : Value} {l : List Int} (h : NumIn w bA ba bo m es l) {x : Nat} (hx : x < m) :
    Calls Try.prog 178 #[.int .i64 (x : Int), .pointer (some ⟨bA, 0, none⟩), .pointer (some ⟨bo, 0, none⟩)] w
      (fun e w' => e = .returned (.int .i64 ((visitN l x).idxOf (x : Int) : Int)) ∧ NumIn w' bA ba bo m es (visitN l x) ∧ Touch ba bo w w') := by
  by_cases hl : (x : Int) ∈ l
  · refine (number_old h hx hl).mono ?_
    rintro e w' ⟨rfl, rfl⟩
    have : visitN l (x : Int) = l := by unfold visitN; rw [if_pos hl]
    rw [this]
    exact ⟨rfl, h, rfl, rfl, rfl, rfl, fun _ _ _ => rfl⟩
  · refine (number_new h hx hl).mono ?_
    rintro e w' ⟨rfl, rfl⟩
    have e1 : (visitN l (x : Int)).idxOf (x : Int) = l.length := by
      unfold visitN; rw [if_neg hl, List.idxOf_append, if_neg hl]; simp [List.idxOf_cons]
    refine ⟨by rw [e1], h.visit hx hl, rfl, rfl, rfl, by simp, fun k h1 h2 => ?_⟩
    rw [Below.heap_setCell _ _ _ _ h2, Below.heap_setCell _ _ _ _ h1]
/-! ### edges in a row -/
def eCells (e : Edge) : List Value := [.int .i64 e.a, .int .i64 e.b, .bool e.by_.relay, .int .i64 e.by_.num, .bool e.by_.brk]
def edgesV (l : List Edge) : Array Value := (l.flatMap eCells).toArray
theorem eCells_length (l : List Edge) : (l.flatMap eCells).length = l.length * 5 := by
  induction l with
  | nil => rfl
  | cons e l ih => rw [List.flatMap_cons, List.length_append, ih]; simp [eCells]; omega
theorem edges_split {l : List Edge} {k : Nat} (h : k < l.length) : l.flatMap eCells = (l.take k).flatMap eCells ++ (eCells l[k] ++ (l.drop (k + 1)).flatMap eCells) := by
  conv => lhs; rw [← List.take_append_drop k l, List.drop_eq_getElem_cons h]
  rw [List.flatMap_append, List.flatMap_cons]
theorem edges_get {l : List Edge} {k : Nat} (h : k < l.length) (j : Nat) (hj : j < 5) : (edgesV l)[k * 5 + j]? = (eCells l[k])[j]? := by
  unfold edgesV
  rw [List.getElem?_toArray, edges_split h]
  have hl : ((l.take k).flatMap eCells).length = k * 5 := by rw [eCells_length]; simp; omega
  rw [List.getElem?_append_right (by omega), hl, show k * 5 + j - k * 5 = j by omega, List.getElem?_append_left (by simp [eCells]; omega)]
theorem edges_set {l : List Edge} {k : Nat} (h : k < l.length) (e : Edge) :
    (((((edgesV l).setIfInBounds (k * 5) (.int .i64 e.a)).setIfInBounds (k * 5 + 1) (.int .i64 e.b)).setIfInBounds (k * 5 + 2) (.bool e.by_.relay)).setIfInBounds (k * 5 + 3) (.int .i64 e.by_.num)).setIfInBounds (k * 5 + 4) (.bool e.by_.brk)
      = edgesV (l.set k e) := by
  unfold edgesV
  simp only [List.setIfInBounds_toArray]
  congr 1
  have hl : ((l.take k).flatMap eCells).length = k * 5 := by rw [eCells_length]; simp; omega
  rw [edges_split h, edges_split (l := l.set k e) (k := k) (by simpa using h)]
  rw [List.take_set_of_le (Nat.le_refl k), List.getElem_set_self, List.drop_set_of_lt (by omega)]
  rw [List.set_append_right _ _ (by omega), List.set_append_right _ _ (by omega), List.set_append_right _ _ (by omega), List.set_append_right _ _ (by omega), List.set_append_right _ _ (by omega)]
  rw [hl, show k * 5 - k * 5 = 0 by omega, show k * 5 + 1 - k * 5 = 1 by omega, show k * 5 + 2 - k * 5 = 2 by omega, show k * 5 + 3 - k * 5 = 3 by omega, show k * 5 + 4 - k * 5 = 4 by omega]
  rfl
/-- a block that holds edges reads as edges -/
theorem edgesAt_of {w : World} {b cap : Nat} {l : List Edge} {T : TypeId} (h : w.heap[b]? = some (.cells (edgesV l) T (0, 0))) (hc : l.length ≤ cap) (hl : l.length ≤ 9223372036854775807) : EdgesAt w (some ⟨b, 0, none⟩) cap l := by
  refine ⟨hc, hl, fun _ _ => ⟨b, 0, rfl⟩, fun b' off he k hk => ?_⟩
  injection he with he
  injection he with h1 h2 _
  subst h1; subst h2
  have e0 := edges_get hk
  have hz : ∀ j, 0 + k * 5 + j = k * 5 + j := fun j => by omega
  refine ⟨?_, ?_, ?_, ?_, ?_⟩
  · rw [show 0 + k * 5 = k * 5 + 0 by omega, cell_of_row w b _ _ _ _ h, e0 0 (by omega)]; rfl
  · rw [hz, cell_of_row w b _ _ _ _ h, e0 1 (by omega)]; rfl
  · rw [hz, cell_of_row w b _ _ _ _ h, e0 2 (by omega)]; rfl
  · rw [hz, cell_of_row w b _ _ _ _ h, e0 3 (by omega)]; rfl
  · rw [hz, cell_of_row w b _ _ _ _ h, e0 4 (by omega)]; rfl
/-- a whole edge stored -/
def putEdge (w : World) (b k : Nat) (e : Edge) : World :=
  ((((w.setCell ⟨b, k * 5, none⟩ (.int .i64 e.a)).setCell ⟨b, k * 5 + 1, none⟩ (.int .i64 e.b)).setCell ⟨b, k * 5 + 2, none⟩ (.bool e.by_.relay)).setCell ⟨b, k * 5 + 3, none⟩ (.int .i64 e.by_.num)).setCell ⟨b, k * 5 + 4, none⟩ (.bool e.by_.brk)
theorem putEdge_ne {w : World} {b k x : Nat} {e : Edge} (h : x ≠ b) : (putEdge w b k e).heap[x]? = w.heap[x]? := by
  unfold putEdge
  rw [Below.heap_setCell _ _ _ _ h, Below.heap_setCell _ _ _ _ h, Below.heap_setCell _ _ _ _ h, Below.heap_setCell _ _ _ _ h, Below.heap_setCell _ _ _ _ h]
theorem putEdge_row {w : World} {b k : Nat} {e : Edge} {L : List Edge} {T : TypeId} (h : w.heap[b]? = some (.cells (edgesV L) T (0, 0))) (hk : k < L.length) : (putEdge w b k e).heap[b]? = some (.cells (edgesV (L.set k e)) T (0, 0)) := by
  unfold putEdge
  rw [← edges_set hk e]
  exact heap_setCell_same _ _ _ _ _ _ (heap_setCell_same _ _ _ _ _ _ (heap_setCell_same _ _ _ _ _ _ (heap_setCell_same _ _ _ _ _ _ (heap_setCell_same _ _ _ _ _ _ h))))
theorem putEdge_below {w : World} {b k : Nat} {e : Edge} {B : Nat} {a : World} (h : Below B a w) (hb : B ≤ b) : Below B a (putEdge w b k e) :=
  ((((h.setCell (p := ⟨b, _, none⟩) hb _).setCell (p := ⟨b, _, none⟩) hb _).setCell (p := ⟨b, _, none⟩) hb _).setCell (p := ⟨b, _, none⟩) hb _).setCell (p := ⟨b, _, none⟩) hb _
end Go.Proofs.Ytknplnfoekeljaa
