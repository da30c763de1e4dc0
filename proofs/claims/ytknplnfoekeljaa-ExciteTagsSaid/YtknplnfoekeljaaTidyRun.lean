/- The contract of shape.Tidy. -/
import Derived.Test.YtknplnfoekeljaaNumber
namespace Go.Proofs.Ytknplnfoekeljaa
open Go.RowKit
theorem run_make_ints (n : Nat) (h : n ≤ 100000) (w : World) : (Instr.makeSlice 101 (.int .i64 (n : Int)) (.int .i64 (n : Int))).run Try.prog w = .ok (.slice (some ⟨w.heap.size, 0, none⟩) n n) (w.alloc (.cells (intsV (List.replicate n 0)) 3)) := by
  obtain ⟨i0, hi, hz0, hz1, hz2⟩ := info_parts (show (Try.prog.info? 3).map (fun i => (i.zero, i.size, i.bytes)) = some (some (.int .i64 0), 1, 8) by kernel_rfl)
  rw [run_makeSlice w 101 3 i0 (.int .i64 0) Try.underlying101 hi hz0 .i64 .i64 n n (by omega) (by omega) (by rw [hz1]; omega) (by rw [hz2]; omega) (by omega)]
  have e : madeCells (Value.int .i64 0).cells ((n : Int).toNat * i0.size) = intsV (List.replicate n 0) := by
    rw [hz1]
    apply Array.ext
    · simp [intsV, madeCells]
    · intro j h1 h2
      simp [intsV, madeCells, Value.cells, Nat.mod_one]
  rw [e, Int.toNat_natCast]
def eZero : Edge := ⟨0, 0, ⟨false, 0, false⟩⟩
theorem run_make_edges (n : Nat) (h : n ≤ 100000) (w : World) : (Instr.makeSlice 32 (.int .i64 (n : Int)) (.int .i64 (n : Int))).run Try.prog w = .ok (.slice (some ⟨w.heap.size, 0, none⟩) n n) (w.alloc (.cells (edgesV (List.replicate n eZero)) 52)) := by
  obtain ⟨i0, hi, hz0, hz1, hz2⟩ := info_parts (show (Try.prog.info? 52).map (fun i => (i.zero, i.size, i.bytes)) = some (some (edgeV eZero), 5, 40) by kernel_rfl)
  rw [run_makeSlice w 32 52 i0 (edgeV eZero) Try.underlying32 hi hz0 .i64 .i64 n n (by omega) (by omega) (by rw [hz1]; omega) (by rw [hz2]; omega) (by omega)]
  have e : madeCells (edgeV eZero).cells ((n : Int).toNat * i0.size) = edgesV (List.replicate n eZero) := by
    rw [hz1, Int.toNat_natCast]
    apply Array.ext_getElem?
    intro j
    by_cases hj : j < n * 5
    · have h1 : (madeCells (edgeV eZero).cells (n * 5))[j]? = (eCells eZero)[j % 5]? := by
        have : j % 5 = 0 ∨ j % 5 = 1 ∨ j % 5 = 2 ∨ j % 5 = 3 ∨ j % 5 = 4 := by omega
        simp [madeCells, hj, Value.cells]
        rcases this with e | e | e | e | e <;> rw [e] <;> rfl
      have hk : j / 5 < (List.replicate n eZero).length := by simp; omega
      have h2 := edges_get hk (j % 5) (by omega)
      rw [show j / 5 * 5 + j % 5 = j by omega] at h2
      rw [h1, h2, List.getElem_replicate]
    · rw [Array.getElem?_eq_none (by simp [madeCells]; omega), Array.getElem?_eq_none (by unfold edgesV; rw [List.size_toArray, eCells_length]; simp; omega)]
  rw [e, Int.toNat_natCast]
theorem tidy_no (g : Graph) (p : Option Addr) (cap : Nat) (w : World) (hes : EdgesAt w p cap g.edges) (hr : ¬ g.right) :
    Calls Try.prog 137 #[.agg #[.int .i64 g.nodes, .slice p g.edges.length cap]] w (Ret (.tuple #[.agg #[.int .i64 0, .slice none 0 0], .int .i64 50]) w) := by
  have H0 : Hid (graphErr g = 50) := graphErr_no hr
  go_enter Try.func137, Try.ntmps137
  go_wp2_with fail
  refine (graph_ok g p cap _ (hes.up (by repeat (first | exact Below.refl _ _ | refine Below.alloc ?_ (by first | omega | (simp; done) | (simp; omega)) _ | refine Below.setCell ?_ (by first | omega | (simp; done) | (simp; omega)) _ | refine Below.drew ?_ | refine Below.drewN ?_ _ | refine Below.via (by assumption) (by first | omega | (simp; done) | (simp; omega)) ?_)))).mono ?_; rintro e w1 ⟨rfl, hb1⟩
  rw [H0.out]
  have z_hb1 := hb1.size
  obtain ⟨c_hb1, f_hb1⟩ := bcell hb1
  try simp only [hz_alloc, hz_set, hz_drew] at z_hb1 c_hb1 f_hb1
  go_wp2_with fail
  refine bodyPost_ret (v := .tuple #[.agg #[.int .i64 0, .slice none 0 0], .int .i64 50]) (by simp [results, Try.results137, go_sem, *]) rfl ⟨rfl, (by repeat (first | exact Below.refl _ _ | refine Below.alloc ?_ (by first | omega | (simp; done) | (simp; omega)) _ | refine Below.setCell ?_ (by first | omega | (simp; done) | (simp; omega)) _ | refine Below.drew ?_ | refine Below.drewN ?_ _ | refine Below.via (by assumption) (by first | omega | (simp; done) | (simp; omega)) ?_))⟩
/-- behind k rounds of Tidy -/
structure TidyTo (w1 : World) (m : Nat) (es : List Edge) (k : Nat) (wr : World) : Prop where
  num : NumIn wr (w1.heap.size + 1) w1.heap.size (w1.heap.size + 1 + 1 + 1) m (.slice (some ⟨w1.heap.size + 1 + 1, 0, none⟩) es.length es.length) (tidyS (es.take k)).2
  row : wr.heap[w1.heap.size + 1 + 1]? = some (.cells (edgesV ((tidyS (es.take k)).1 ++ List.replicate (es.length - k) eZero)) 52 (0, 0))
  below : Below w1.heap.size w1 wr
theorem TidyTo.next {w1 wr w2 w4 : World} {m k : Nat} {es L : List Edge} {x y i1 i2 : Int} {c : Contact} {o : Obj} (hB : Below w1.heap.size w1 wr) (hB3 : w1.heap.size + 1 + 1 + 1 < wr.heap.size)
    (hrow : w4.heap[w1.heap.size + 1 + 1]? = some (.cells (edgesV L) 52 (0, 0))) (hL : L = (tidyS (es.take k)).1 ++ List.replicate (es.length - k) eZero)
    (hN4 : NumIn w4 (w1.heap.size + 1) w1.heap.size (w1.heap.size + 1 + 1 + 1) m (.slice (some ⟨w1.heap.size + 1 + 1, 0, none⟩) es.length es.length) (visitN (visitN (tidyS (es.take k)).2 x) y))
    (hT2 : Touch w1.heap.size (w1.heap.size + 1 + 1 + 1) (wr.alloc o) w2) (hT4 : Touch w1.heap.size (w1.heap.size + 1 + 1 + 1) (w2.setCell ⟨wr.heap.size, 0, none⟩ (.int .i64 i1)) w4)
    (hT : tidyS (es.take (k + 1)) = tStep (tidyS (es.take k)) ⟨x, y, c⟩) (h1 : i1 = ((visitN (tidyS (es.take k)).2 x).idxOf x : Int)) (h2 : i2 = ((visitN (visitN (tidyS (es.take k)).2 x) y).idxOf y : Int)) (hk : k < es.length) :
    TidyTo w1 m es (k + 1) (putEdge (w4.setCell ⟨wr.heap.size, 1, none⟩ (.int .i64 i2)) (w1.heap.size + 1 + 1) k ⟨i1, i2, c⟩) := by
  have hz := hB.size
  have hlen : (tidyS (es.take k)).1.length = k := by rw [tidyS_length, List.length_take]; omega
  have hLl : k < L.length := by rw [hL, List.length_append, hlen, List.length_replicate]; omega
  refine ⟨?_, ?_, ?_⟩
  · rw [hT]
    refine hN4.keep ?_ ?_ ?_
    · rw [putEdge_ne (by omega), Below.heap_setCell _ _ _ _ (show w1.heap.size + 1 ≠ wr.heap.size by omega)]
    · rw [putEdge_ne (by omega), Below.heap_setCell _ _ _ _ (show w1.heap.size ≠ wr.heap.size by omega)]
    · rw [putEdge_ne (by omega), Below.heap_setCell _ _ _ _ (show w1.heap.size + 1 + 1 + 1 ≠ wr.heap.size by omega)]
  · rw [putEdge_row (L := L) (by rw [Below.heap_setCell _ _ _ _ (show w1.heap.size + 1 + 1 ≠ wr.heap.size by omega)]; exact hrow) hLl]
    have e1 : i1 = ((visitN (visitN (tidyS (es.take k)).2 x) y).idxOf x : Int) := by rw [h1, visitN_idx mem_visitN]
    rw [hT, hL, h2, e1]
    have e2 : es.length - k = (es.length - (k + 1)) + 1 := by omega
    have e3 : ((tidyS (es.take k)).1 ++ List.replicate (es.length - k) eZero).set k ⟨((visitN (visitN (tidyS (es.take k)).2 x) y).idxOf x : Int), ((visitN (visitN (tidyS (es.take k)).2 x) y).idxOf y : Int), c⟩
        = (tStep (tidyS (es.take k)) ⟨x, y, c⟩).1 ++ List.replicate (es.length - (k + 1)) eZero := by
      rw [List.set_append_right _ _ (by omega), hlen, Nat.sub_self, e2, List.replicate_succ, List.set_cons_zero]
      simp [tStep]
    rw [e3]
  · refine putEdge_below ?_ (by omega)
    have b2 : Below w1.heap.size w1 w2 := (hB.alloc hz o).trans (hT2.below (Nat.le_refl _) (by omega))
    have b4 : Below w1.heap.size w1 w4 := (b2.setCell (p := ⟨wr.heap.size, 0, none⟩) hz _).trans (hT4.below (Nat.le_refl _) (by omega))
    exact b4.setCell (p := ⟨wr.heap.size, 1, none⟩) hz _
/-- what Tidy leaves of a right graph -/
def Tidied (g : Graph) (w : World) (e : Ending) (w' : World) : Prop :=
  ∃ p cap, e = .returned (.tuple #[.agg #[.int .i64 (tidyG g).nodes, .slice p (tidyG g).edges.length cap], .int .i64 0]) ∧ EdgesAt w' p cap (tidyG g).edges ∧ Below w.heap.size w w'
set_option maxRecDepth 100000 in
set_option maxHeartbeats 1000000 in
theorem tidy_ok (m : Nat) (es : List Edge) (p : Option Addr) (cap : Nat) (w : World) (hes : EdgesAt w p cap es) (hr : Graph.right ⟨(m : Int), es⟩) :
    Calls Try.prog 137 #[.agg #[.int .i64 (m : Int), .slice p es.length cap]] w (Tidied ⟨(m : Int), es⟩ w) := by
  have H0 : Hid (graphErr ⟨(m : Int), es⟩ = 0) := graphErr_ok hr
  obtain ⟨h1, h2, h3, h4⟩ := hr
  have m2 : 2 ≤ m := by have : (2 : Int) ≤ (m : Int) := h1; omega
  have m256 : m ≤ 256 := by have : (m : Int) ≤ 256 := h2; omega
  have hl : es.length ≤ 4096 := h3
  have hok : Hid (∀ e, e ∈ es → e.ok (m : Int)) := h4
  clear h1 h2 h3 h4
  have hmk1 := run_make_ints m (by omega)
  have hmk2 := run_make_edges es.length (by omega)
  go_enter Try.func137, Try.ntmps137
  go_wp2_with fail
  refine (graph_ok ⟨(m : Int), es⟩ p cap _ (hes.up (by repeat (first | exact Below.refl _ _ | refine Below.alloc ?_ (by first | omega | (simp; done) | (simp; omega)) _ | refine Below.setCell ?_ (by first | omega | (simp; done) | (simp; omega)) _ | refine Below.drew ?_ | refine Below.drewN ?_ _ | refine Below.via (by assumption) (by first | omega | (simp; done) | (simp; omega)) ?_)))).mono ?_; rintro e w1 ⟨rfl, hb1⟩
  rw [H0.out]
  have z_hb1 := hb1.size
  obtain ⟨c_hb1, f_hb1⟩ := bcell hb1
  try simp only [hz_alloc, hz_set, hz_drew] at z_hb1 c_hb1 f_hb1
  have hi1 : (intsV (List.replicate m 0))[1]? = some (.int .i64 0) := intsV_get (by rw [List.getElem?_replicate, if_pos (by omega)])
  have hi2 : (intsV (List.replicate m 0)).setIfInBounds 1 (.int .i64 1) = intsV (asOf m [0, 1]) := by rw [intsV_set, asOf_start m2]
  have zz0 : w.heap.size < w1.heap.size := by omega
  have zz1 : w.heap.size + 1 < w1.heap.size := by omega
  have zz2 : w.heap.size < w1.heap.size + 1 := by omega
  have zz3 : w.heap.size < w1.heap.size + 1 + 1 := by omega
  have zz4 : w.heap.size < w1.heap.size + 1 + 1 + 1 := by omega
  go_wp2_with fail
  go_loopw [27] (fun v wr => ∃ k : Nat, k ≤ es.length ∧ v = .int .i64 (k : Int) ∧ TidyTo w1 m es k wr) (fun v _ => es.length - (intOf v).toNat)
  case atStart =>
    refine ⟨0, Nat.zero_le _, rfl, ⟨OrdOk.start m2, m256, ?_, ?_, ?_, ?_⟩, ?_, (by repeat (first | exact Below.refl _ _ | refine Below.alloc ?_ (by first | omega | (simp; done) | (simp; omega)) _ | refine Below.setCell ?_ (by first | omega | (simp; done) | (simp; omega)) _ | refine Below.drew ?_ | refine Below.drewN ?_ _ | refine Below.via (by assumption) (by first | omega | (simp; done) | (simp; omega)) ?_))⟩
    · exact (by simp only [hget_alloc, hget_drew, hz_alloc, hz_drew]; repeat (first | rfl | rw [if_pos (by omega)] | rw [if_neg (by omega)]))
    · exact (by simp only [hget_alloc, hget_drew, hz_alloc, hz_drew]; repeat (first | rfl | rw [if_pos (by omega)] | rw [if_neg (by omega)]))
    · exact (by simp only [hget_alloc, hget_drew, hz_alloc, hz_drew]; repeat (first | rfl | rw [if_pos (by omega)] | rw [if_neg (by omega)]))
    · omega
    · exact (by simp only [hget_alloc, hget_drew, hz_alloc, hz_drew]; repeat (first | rfl | rw [if_pos (by omega)] | rw [if_neg (by omega)]))
  case round =>
    obtain ⟨k, hk, rfl, hN, hE, hB⟩ := hrel
    have hBw : Below w.heap.size w wr := (show Below w.heap.size w w1 from (by repeat (first | exact Below.refl _ _ | refine Below.alloc ?_ (by first | omega | (simp; done) | (simp; omega)) _ | refine Below.setCell ?_ (by first | omega | (simp; done) | (simp; omega)) _ | refine Below.drew ?_ | refine Below.drewN ?_ _ | refine Below.via (by assumption) (by first | omega | (simp; done) | (simp; omega)) ?_))).trans (hB.mono (by omega))
    have hzr := hB.size
    have hB3 : w1.heap.size + 1 + 1 + 1 < wr.heap.size := (Array.getElem?_eq_some_iff.1 hN.ho).1
    by_cases hlt : k < es.length
    · obtain ⟨b, off, rfl⟩ := hes.at_ k hlt
      obtain ⟨e0, e1, e2, e3, e4⟩ := (hes.up hBw).cell b off rfl k hlt
      obtain ⟨g1, g2, g3, g4, _⟩ := hok.out _ (List.getElem_mem hlt)
      have HT : Hid (tidyS (es.take (k + 1)) = tStep (tidyS (es.take k)) es[k]) := by unfold Hid; rw [List.take_succ_eq_append_getElem hlt, tidyS_snoc]
      generalize es[k] = e at *
      obtain ⟨ea, eb, cr, cn, cb⟩ := e
      have g1 : 0 ≤ ea := g1
      have g2 : ea < m := g2
      have g3 : 0 ≤ eb := g3
      have g4 : eb < m := g4
      obtain ⟨x, rfl⟩ : ∃ x : Nat, ea = x := ⟨ea.toNat, by omega⟩
      obtain ⟨y, rfl⟩ : ∃ y : Nat, eb = y := ⟨eb.toNat, by omega⟩
      have hx : x < m := by omega
      have hy : y < m := by omega
      clear c_hb1 f_hb1 hmk1 hmk2 hi1 hi2
      go_wp2_with fail
      refine (number_ok (hN.up (below_alloc _ _)) hx).mono ?_; rintro e' w2 ⟨rfl, hN2, hT2⟩
      obtain ⟨i1, Hi1⟩ : ∃ i, Hid (i = ((visitN (tidyS (es.take k)).2 x).idxOf (x : Int) : Int)) := ⟨_, rfl⟩
      rw [← Hi1.out]
      have hb2 : w2.heap[wr.heap.size]? = some (.cells #[.int .i64 (x : Int), .int .i64 (y : Int), .bool cr, .int .i64 cn, .bool cb] 52 (0, 0)) := by
        rw [hT2.block _ (by omega) (by omega)]; exact (by simp only [hget_alloc, hget_drew, hz_alloc, hz_drew]; repeat (first | rfl | rw [if_pos (by omega)] | rw [if_neg (by omega)]))
      have s2 : w2.heap.size = wr.heap.size + 1 := by rw [hT2.size, hz_alloc]
      have q0 : w2.cell? ⟨wr.heap.size, 0, none⟩ = some (.int .i64 (x : Int)) := by rw [cell_of_row _ _ _ _ _ _ hb2]; rfl
      have q1 : w2.cell? ⟨wr.heap.size, 1, none⟩ = some (.int .i64 (y : Int)) := by rw [cell_of_row _ _ _ _ _ _ hb2]; rfl
      have qf := fun j => frozen_of_row _ _ j _ _ hb2
      have Hb2 := Lib.hid hb2
      have Hs2 := Lib.hid s2
      clear hb2 s2
      go_wp2_with fail
      refine (number_ok (hN2.keep (Below.heap_setCell _ _ _ _ (show w1.heap.size + 1 ≠ wr.heap.size by omega)) (Below.heap_setCell _ _ _ _ (show w1.heap.size ≠ wr.heap.size by omega)) (Below.heap_setCell _ _ _ _ (show w1.heap.size + 1 + 1 + 1 ≠ wr.heap.size by omega))) hy).mono ?_; rintro e' w4 ⟨rfl, hN4, hT4⟩
      obtain ⟨i2, Hi2⟩ : ∃ i, Hid (i = ((visitN (visitN (tidyS (es.take k)).2 x) y).idxOf (y : Int) : Int)) := ⟨_, rfl⟩
      rw [← Hi2.out]
      have hb4 : w4.heap[wr.heap.size]? = some (.cells #[.int .i64 i1, .int .i64 (y : Int), .bool cr, .int .i64 cn, .bool cb] 52 (0, 0)) := by
        rw [hT4.block _ (by omega) (by omega), heap_setCell_same _ _ _ _ _ _ Hb2.out]; rfl
      have s4 : w4.heap.size = wr.heap.size + 1 := by rw [hT4.size, hz_set, Hs2.out]
      have p0 : w4.cell? ⟨wr.heap.size, 0, none⟩ = some (.int .i64 i1) := by rw [cell_of_row _ _ _ _ _ _ hb4]; rfl
      have p1 : w4.cell? ⟨wr.heap.size, 1, none⟩ = some (.int .i64 (y : Int)) := by rw [cell_of_row _ _ _ _ _ _ hb4]; rfl
      have p2 : w4.cell? ⟨wr.heap.size, 2, none⟩ = some (.bool cr) := by rw [cell_of_row _ _ _ _ _ _ hb4]; rfl
      have p3 : w4.cell? ⟨wr.heap.size, 3, none⟩ = some (.int .i64 cn) := by rw [cell_of_row _ _ _ _ _ _ hb4]; rfl
      have p4 : w4.cell? ⟨wr.heap.size, 4, none⟩ = some (.bool cb) := by rw [cell_of_row _ _ _ _ _ _ hb4]; rfl
      have pf := fun j => frozen_of_row _ _ j _ _ hb4
      have o1 : w4.cell? ⟨w1.heap.size + 1 + 1 + 1, 1, none⟩ = some (.slice (some ⟨w1.heap.size + 1 + 1, 0, none⟩) es.length es.length) := by rw [cell_of_row _ _ _ _ _ _ hN4.ho]; rfl
      obtain ⟨L, HL⟩ : ∃ L, Hid (L = (tidyS (es.take k)).1 ++ List.replicate (es.length - k) eZero) := ⟨_, rfl⟩
      have hLl : k < L.length := by rw [HL.out, List.length_append, tidyS_length, List.length_take, List.length_replicate]; omega
      have hrow : w4.heap[w1.heap.size + 1 + 1]? = some (.cells (edgesV L) 52 (0, 0)) := by
        rw [hT4.block _ (by omega) (by omega), Below.heap_setCell _ _ _ _ (show w1.heap.size + 1 + 1 ≠ wr.heap.size by omega), hT2.block _ (by omega) (by omega), hget_alloc, if_neg (by omega), hE, HL.out]
      have r0 : w4.cell? ⟨w1.heap.size + 1 + 1, k * 5, none⟩ = some (.int .i64 L[k].a) := by rw [cell_of_row _ _ _ _ _ _ hrow]; exact edges_get hLl 0 (by omega)
      have r1 : w4.cell? ⟨w1.heap.size + 1 + 1, k * 5 + 1, none⟩ = some (.int .i64 L[k].b) := by rw [cell_of_row _ _ _ _ _ _ hrow]; exact edges_get hLl 1 (by omega)
      have r2 : w4.cell? ⟨w1.heap.size + 1 + 1, k * 5 + 2, none⟩ = some (.bool L[k].by_.relay) := by rw [cell_of_row _ _ _ _ _ _ hrow]; exact edges_get hLl 2 (by omega)
      have r3 : w4.cell? ⟨w1.heap.size + 1 + 1, k * 5 + 3, none⟩ = some (.int .i64 L[k].by_.num) := by rw [cell_of_row _ _ _ _ _ _ hrow]; exact edges_get hLl 3 (by omega)
      have r4 : w4.cell? ⟨w1.heap.size + 1 + 1, k * 5 + 4, none⟩ = some (.bool L[k].by_.brk) := by rw [cell_of_row _ _ _ _ _ _ hrow]; exact edges_get hLl 4 (by omega)
      have rf := fun j => frozen_of_row _ _ j _ _ hrow
      have d1 : w1.heap.size + 1 + 1 + 1 ≠ wr.heap.size := by omega
      have d2 : w1.heap.size + 1 + 1 ≠ wr.heap.size := by omega
      have Hrow := Lib.hid hrow
      have Hs4 := Lib.hid s4
      clear hb4 s4 hrow e0 e1 e2 e3 e4 q0 q1 qf
      go_wp2_with fail
      go_roundw
      case rel =>
        have hfin := TidyTo.next (c := ⟨cr, cn, cb⟩) hB hB3 Hrow.out HL.out hN4 hT2 hT4 HT.out Hi1.out Hi2.out hlt
        clear hN4 hT2 hT4 hB hN hE
        refine ⟨k + 1, by omega, ?_, hfin⟩
        go_num
      case measure => simp [intOf]; omega
    · have hke : k = es.length := by omega
      subst hke
      have HL : Hid (es.take es.length = es) := List.take_length
      have hho := hN.ho
      have hrow := hE
      rw [HL.out] at hho hrow
      rw [Nat.sub_self, List.replicate_zero, List.append_nil] at hrow
      obtain ⟨ln, Hln⟩ : ∃ ln, Hid (ln = ((tidyS es).2.length : Int)) := ⟨_, rfl⟩
      rw [← Hln.out] at hho
      have o0 : wr.cell? ⟨w1.heap.size + 1 + 1 + 1, 0, none⟩ = some (.int .i64 ln) := by rw [cell_of_row _ _ _ _ _ _ hho]; rfl
      have o1 : wr.cell? ⟨w1.heap.size + 1 + 1 + 1, 1, none⟩ = some (.slice (some ⟨w1.heap.size + 1 + 1, 0, none⟩) es.length es.length) := by rw [cell_of_row _ _ _ _ _ _ hho]; rfl
      have t0 : wr.cell? ⟨w.heap.size + 1, 0, none⟩ = some (.int .i64 0) := by rw [hB.cell (p := ⟨_, _, none⟩) zz1, c_hb1 _ _ (by omega)]; go_simp
      have t1 : wr.cell? ⟨w.heap.size + 1, 1, none⟩ = some (.slice none 0 0) := by rw [hB.cell (p := ⟨_, _, none⟩) zz1, c_hb1 _ _ (by omega)]; go_simp
      have tf : ∀ j, wr.frozen? ⟨w.heap.size + 1, j, none⟩ = false := fun j => by rw [hB.frozen (p := ⟨_, _, none⟩) zz1, f_hb1 _ _ (by omega)]; go_simp
      have hrow' : ((wr.setCell ⟨w.heap.size + 1, 0, none⟩ (.int .i64 ln)).setCell ⟨w.heap.size + 1, 1, none⟩ (.slice (some ⟨w1.heap.size + 1 + 1, 0, none⟩) es.length es.length)).heap[w1.heap.size + 1 + 1]? = some (.cells (edgesV (tidyS es).1) 52 (0, 0)) := by
        rw [Below.heap_setCell _ _ _ _ (show w1.heap.size + 1 + 1 ≠ w.heap.size + 1 by omega), Below.heap_setCell _ _ _ _ (show w1.heap.size + 1 + 1 ≠ w.heap.size + 1 by omega)]; exact hrow
      have HR := Lib.hid hrow'
      clear hrow hrow' hho hmk1 hmk2 hi1 hi2 c_hb1 f_hb1
      go_wp2_with fail
      refine bodyPost_ret (v := .tuple #[.agg #[.int .i64 ln, .slice (some ⟨w1.heap.size + 1 + 1, 0, none⟩) es.length es.length], .int .i64 0]) (by simp [results, Try.results137, go_sem, *]) rfl ?_
      have hlen := tidyS_length es
      refine ⟨some ⟨w1.heap.size + 1 + 1, 0, none⟩, es.length, ?_, edgesAt_of HR.out (Nat.le_of_eq hlen) (by show (tidyS es).1.length ≤ _; omega), (hBw.setCell (p := ⟨w.heap.size + 1, _, none⟩) (by simp) _).setCell (p := ⟨w.heap.size + 1, _, none⟩) (by simp) _⟩
      show _ = Ending.returned (.tuple #[.agg #[.int .i64 ((tidyS es).2.length : Int), .slice _ (tidyS es).1.length es.length], .int .i64 0])
      rw [hlen, Hln.out]
end Go.Proofs.Ytknplnfoekeljaa
