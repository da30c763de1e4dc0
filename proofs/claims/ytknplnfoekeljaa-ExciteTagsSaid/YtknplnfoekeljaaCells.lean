/- Rows of graphs and of relays. -/
import Derived.Test.YtknplnfoekeljaaOwn
namespace Go.Proofs.Ytknplnfoekeljaa
open Go.RowKit
section
variable {α : Type} {f : α → List Value} {s : Nat}
theorem flat_length (hf : ∀ a, (f a).length = s) (l : List α) : (l.flatMap f).length = l.length * s := by
  induction l with
  | nil => simp
  | cons a l ih => rw [List.flatMap_cons, List.length_append, ih, hf, List.length_cons, Nat.succ_mul]; omega
theorem flat_split {l : List α} {k : Nat} (h : k < l.length) : l.flatMap f = (l.take k).flatMap f ++ (f l[k] ++ (l.drop (k + 1)).flatMap f) := by
  conv => lhs; rw [← List.take_append_drop k l, List.drop_eq_getElem_cons h]
  rw [List.flatMap_append, List.flatMap_cons]
theorem flat_get (hf : ∀ a, (f a).length = s) {l : List α} {k : Nat} (h : k < l.length) {j : Nat} (hj : j < s) : (l.flatMap f)[k * s + j]? = (f l[k])[j]? := by
  have hl : ((l.take k).flatMap f).length = k * s := by rw [flat_length hf, List.length_take, Nat.min_eq_left (by omega)]
  rw [flat_split h, List.getElem?_append_right (by omega), hl, Nat.add_sub_cancel_left, List.getElem?_append_left (by rw [hf]; exact hj)]
theorem flat_set (hf : ∀ a, (f a).length = s) {l : List α} {k : Nat} (h : k < l.length) (a : α) :
    (l.set k a).flatMap f = (l.take k).flatMap f ++ (f a ++ (l.drop (k + 1)).flatMap f) := by
  have h' : k < (l.set k a).length := by simpa using h
  have e1 : (l.set k a).take k = l.take k := by rw [List.take_set_of_le (Nat.le_refl _)]
  have e2 : (l.set k a).drop (k + 1) = l.drop (k + 1) := by rw [List.drop_set_of_lt (by omega)]
  rw [flat_split (f := f) h', List.getElem_set_self, e1, e2]
end
structure GQ where
  g : Graph
  p : Option Addr
  c : Nat
def gCells (q : GQ) : List Value := [.int .i64 q.g.nodes, .slice q.p q.g.edges.length q.c]
theorem gCells_len (q : GQ) : (gCells q).length = 2 := rfl
def graphsV (l : List GQ) : Array Value := (l.flatMap gCells).toArray
def gZero : GQ := ⟨⟨0, []⟩, none, 0⟩
theorem graphs_set2 {l : List GQ} {k : Nat} (h : k < l.length) (q : GQ) :
    ((graphsV l).setIfInBounds (k * 2) (.int .i64 q.g.nodes)).setIfInBounds (k * 2 + 1) (.slice q.p q.g.edges.length q.c) = graphsV (l.set k q) := by
  unfold graphsV
  rw [List.setIfInBounds_toArray, List.setIfInBounds_toArray, flat_set gCells_len h, flat_split (f := gCells) h]
  have hl : ((l.take k).flatMap gCells).length = k * 2 := by rw [flat_length gCells_len, List.length_take, Nat.min_eq_left (by omega)]
  rw [List.set_append_right _ _ (by omega), hl, Nat.sub_self, List.set_append_right _ _ (by omega), hl, Nat.add_sub_cancel_left]
  rfl
theorem graphsAt_row {w : World} {b cap : Nat} {L : List GQ} {T : TypeId} (h : w.heap[b]? = some (.cells (graphsV L) T (0, 0))) (hE : ∀ i (h : i < L.length), EdgesAt w L[i].p L[i].c L[i].g.edges)
    (hc : L.length ≤ cap) (hl : L.length ≤ 9223372036854775807) : GraphsAt w (some ⟨b, 0, none⟩) cap (L.map (·.g)) := by
  refine ⟨by simpa using hc, by simpa using hl, fun _ _ => ⟨b, 0, rfl⟩, fun b' off he k hk => ?_⟩
  injection he with he
  injection he with h1 h2 _
  subst h1; subst h2
  have hk' : k < L.length := by simpa using hk
  have get : ∀ j, j < 2 → w.cell? ⟨b, 0 + k * 2 + j, none⟩ = (gCells L[k])[j]? := fun j hj => by
    rw [cell_of_row w b _ _ _ _ h, Nat.zero_add]
    unfold graphsV
    rw [List.getElem?_toArray]
    exact flat_get gCells_len hk' hj
  refine ⟨L[k].p, L[k].c, ?_, ?_, ?_⟩
  · rw [List.getElem_map]; exact hE k hk'
  · rw [List.getElem_map]; exact get 0 (by omega)
  · rw [List.getElem_map]; exact get 1 (by omega)
structure RQ where
  r : Relay
  p : Option Addr
  c : Nat
def rCells (q : RQ) : List Value := [.string q.r.name, .int .i64 q.r.tag, .slice q.p q.r.graphs.length q.c]
theorem rCells_len (q : RQ) : (rCells q).length = 3 := rfl
theorem relaysAt_own {w : World} {B n : Nat} {v : Value} {R : List RQ} {T : TypeId} (h : w.ownsRow B T 3 v n (R.flatMap rCells)) (hG : ∀ i (h : i < R.length), GraphsAt w R[i].p R[i].c R[i].r.graphs)
    (hs : ∀ i (h : i < R.length), R[i].r.name.size ≤ 9223372036854775807) (hn : n ≤ 9223372036854775807) :
    n = R.length ∧ ∃ p cap, v = .slice p R.length cap ∧ RelaysAt w p cap (R.map (·.r)) := by
  have hlen : R.length = n := by have := h.1; rw [flat_length rCells_len] at this; omega
  refine ⟨hlen.symm, ?_⟩
  rcases h.2 with ⟨rfl, h0⟩ | ⟨g, cap, cur, rfl, _, hg, hc, _, hz, ht⟩
  · have : R = [] := List.length_eq_zero_iff.1 (by omega)
    subst this
    exact ⟨none, 0, rfl, ⟨Nat.le_refl _, by simp, fun k hk => by simp at hk, fun _ _ _ k hk => by simp at hk⟩⟩
  · refine ⟨some ⟨g, 0, none⟩, cap, by rw [hlen], ⟨by rw [List.length_map]; omega, by rw [List.length_map]; omega, fun _ _ => ⟨g, 0, rfl⟩, fun b off he k hk => ?_⟩⟩
    injection he with he
    injection he with h1 h2 _
    subst h1; subst h2
    have hk' : k < R.length := by simpa using hk
    have get : ∀ j, j < 3 → w.cell? ⟨g, 0 + k * 3 + j, none⟩ = (rCells R[k])[j]? := fun j hj => by
      rw [cell_of_row w g _ _ _ _ hg, Nat.zero_add]
      have e1 := flat_get rCells_len hk' hj
      rw [← ht, List.getElem?_take, if_pos (by omega)] at e1
      rw [← e1]; simp
    refine ⟨R[k].p, R[k].c, ?_, ?_, ?_, ?_, ?_⟩
    · rw [List.getElem_map]; exact hG k hk'
    · rw [List.getElem_map]; exact hs k hk'
    · rw [List.getElem_map]; exact get 0 (by omega)
    · rw [List.getElem_map]; exact get 1 (by omega)
    · rw [List.getElem_map]; exact get 2 (by omega)
def relaysV (l : List RQ) : Array Value := (l.flatMap rCells).toArray
theorem relaysAt_row {w : World} {b cap : Nat} {R : List RQ} {T : TypeId} (h : w.heap[b]? = some (.cells (relaysV R) T (0, 0))) (hG : ∀ i (h : i < R.length), GraphsAt w R[i].p R[i].c R[i].r.graphs)
    (hs : ∀ i (h : i < R.length), R[i].r.name.size ≤ 9223372036854775807) (hc : R.length ≤ cap) (hl : R.length ≤ 9223372036854775807) : RelaysAt w (some ⟨b, 0, none⟩) cap (R.map (·.r)) := by
  refine ⟨by simpa using hc, by simpa using hl, fun _ _ => ⟨b, 0, rfl⟩, fun b' off he k hk => ?_⟩
  injection he with he
  injection he with h1 h2 _
  subst h1; subst h2
  have hk' : k < R.length := by simpa using hk
  have get : ∀ j, j < 3 → w.cell? ⟨b, 0 + k * 3 + j, none⟩ = (rCells R[k])[j]? := fun j hj => by
    rw [cell_of_row w b _ _ _ _ h, Nat.zero_add]
    unfold relaysV
    rw [List.getElem?_toArray]
    exact flat_get rCells_len hk' hj
  refine ⟨R[k].p, R[k].c, ?_, ?_, ?_, ?_, ?_⟩
  · rw [List.getElem_map]; exact hG k hk'
  · rw [List.getElem_map]; exact hs k hk'
  · rw [List.getElem_map]; exact get 0 (by omega)
  · rw [List.getElem_map]; exact get 1 (by omega)
  · rw [List.getElem_map]; exact get 2 (by omega)
theorem strsAt_row {w : World} {b cap : Nat} {ss : List ByteArray} {T : TypeId} (h : w.heap[b]? = some (.cells (ss.map Value.string).toArray T (0, 0))) (hs : ∀ s, s ∈ ss → s.size ≤ 9223372036854775807)
    (hc : ss.length ≤ cap) (hl : ss.length ≤ 9223372036854775807) : StrsAt w (some ⟨b, 0, none⟩) cap ss := by
  refine ⟨hc, hl, fun _ _ => ⟨b, 0, rfl⟩, fun b' off he k hk => ?_, hs⟩
  injection he with he
  injection he with h1 h2 _
  subst h1; subst h2
  rw [cell_of_row w b _ _ _ _ h, Nat.zero_add, List.getElem?_toArray]
  simp [hk]
theorem strsAt_nil (w : World) (p : Option Addr) (cap : Nat) : StrsAt w p cap [] := ⟨by simp, by simp, fun k hk => by simp at hk, fun _ _ _ k hk => by simp at hk, fun s hs => by simp at hs⟩
theorem edgesAt_nil (w : World) (p : Option Addr) (cap : Nat) : EdgesAt w p cap [] := ⟨by simp, by simp, fun k hk => by simp at hk, fun _ _ _ k hk => by simp at hk⟩
theorem run_make_graphs (n : Nat) (h : n ≤ 100000) (w : World) : (Instr.makeSlice 63 (.int .i64 (n : Int)) (.int .i64 (n : Int))).run Try.prog w = .ok (.slice (some ⟨w.heap.size, 0, none⟩) n n) (w.alloc (.cells (graphsV (List.replicate n gZero)) 34)) := by
  obtain ⟨i0, hi, hz0, hz1, hz2⟩ := info_parts (show (Try.prog.info? 34).map (fun i => (i.zero, i.size, i.bytes)) = some (some (.agg #[.int .i64 0, .slice none 0 0]), 2, 32) by kernel_rfl)
  rw [run_makeSlice w 63 34 i0 (.agg #[.int .i64 0, .slice none 0 0]) Try.underlying63 hi hz0 .i64 .i64 n n (by omega) (by omega) (by rw [hz1]; omega) (by rw [hz2]; omega) (by omega)]
  have e : madeCells (Value.agg #[.int .i64 0, .slice none 0 0]).cells ((n : Int).toNat * i0.size) = graphsV (List.replicate n gZero) := by
    rw [hz1, Int.toNat_natCast]
    apply Array.ext_getElem?
    intro j
    by_cases hj : j < n * 2
    · have h1 : (madeCells (Value.agg #[.int .i64 0, .slice none 0 0]).cells (n * 2))[j]? = (gCells gZero)[j % 2]? := by
        have : j % 2 = 0 ∨ j % 2 = 1 := by omega
        simp [madeCells, hj, Value.cells]
        rcases this with e | e <;> rw [e] <;> rfl
      have hk : j / 2 < (List.replicate n gZero).length := by simp; omega
      have h2 := flat_get gCells_len hk (show j % 2 < 2 by omega)
      rw [show j / 2 * 2 + j % 2 = j by omega] at h2
      unfold graphsV
      rw [h1, List.getElem?_toArray, h2, List.getElem_replicate]
    · rw [Array.getElem?_eq_none (by simp [madeCells]; omega), Array.getElem?_eq_none (by unfold graphsV; rw [List.size_toArray, flat_length gCells_len]; simp; omega)]
  rw [e, Int.toNat_natCast]
end Go.Proofs.Ytknplnfoekeljaa
