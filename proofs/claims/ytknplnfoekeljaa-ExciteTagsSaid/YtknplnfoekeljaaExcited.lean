/- The excited relays of a circuit. -/
import Derived.Test.YtknplnfoekeljaaCoils
namespace Go.Proofs.Ytknplnfoekeljaa
open Go.RowKit
/-- the excited ones among the first k -/
noncomputable def excTo (rs : List Relay) (I R : BS) : Nat → BS
  | 0 => BS.empty
  | k + 1 => if coil (rs.getD k ⟨ByteArray.empty, 0, []⟩) (R.hasI k) I R then (excTo rs I R k).ins k else excTo rs I R k
noncomputable def excited (rs : List Relay) (I R : BS) : BS := excTo rs I R rs.length
theorem has_excTo (rs : List Relay) (I R : BS) (k i : Nat) (hk : k ≤ 128) : (excTo rs I R k).has i = (decide (i < k) && coil (rs.getD i ⟨ByteArray.empty, 0, []⟩) (R.hasI i) I R) := by
  induction k with
  | zero => simp [excTo]
  | succ k ih =>
    have ih := ih (by omega)
    have hlt : decide (k < k + 1) = true := by simp
    unfold excTo
    by_cases e : i = k
    · subst e
      have hz : decide (i < i) = false := by simp
      rw [hz, Bool.false_and] at ih
      rw [hlt, Bool.true_and]
      cases hc : coil (rs.getD i ⟨ByteArray.empty, 0, []⟩) (R.hasI i) I R
      · rw [if_neg (by simp)]; exact ih
      · rw [if_pos rfl, BS.has_ins, ih]; simp; omega
    · have h1 : decide (i < k + 1) = decide (i < k) := by rw [Bool.eq_iff_iff]; simp; omega
      have h2 : decide ((i : Int) = (k : Int)) = false := by simp; omega
      rw [h1]
      split
      · rw [BS.has_ins, ih, h2]; simp
      · exact ih
theorem set_two {w : World} {b : Nat} {T : TypeId} {s t : BS} (h : w.heap[b]? = some (.cells #[.int .u64 s.lo.toNat, .int .u64 s.hi.toNat] T (0, 0))) :
    ((w.setCell ⟨b, 0, none⟩ (.int .u64 t.lo.toNat)).setCell ⟨b, 1, none⟩ (.int .u64 t.hi.toNat)).heap[b]? = some (.cells #[.int .u64 t.lo.toNat, .int .u64 t.hi.toNat] T (0, 0)) := by
  rw [heap_setCell_same _ _ _ _ _ _ (heap_setCell_same _ _ _ _ _ _ h)]; rfl
structure OfTo (w : World) (I R s : BS) (wr : World) : Prop where
  row : wr.heap[w.heap.size + 1 + 1 + 1]? = some (.cells #[.int .u64 s.lo.toNat, .int .u64 s.hi.toNat] 24 (0, 0))
  below : Below (w.heap.size + 1 + 1 + 1) (((w.alloc (.cells #[.int .u64 I.lo.toNat, .int .u64 I.hi.toNat] 24)).alloc (.cells #[.int .u64 R.lo.toNat, .int .u64 R.hi.toNat] 24)).alloc (.cells #[.int .u64 0, .int .u64 0] 24)) wr
set_option maxHeartbeats 1000000 in
theorem of_ok {w : World} {bk : Nat} {rs : List Relay} (h : CoilsAt w bk rs) (I R : BS) :
    Calls Try.prog 33 #[.pointer (some ⟨bk, 0, none⟩), setV I, setV R] w (Ret (setV (excited rs I R)) w) := by
  have h3 := h.n128
  go_enter Try.func33, Try.ntmps33
  go_wp2_with fail
  refine (count_ok (h.up (by repeat (first | exact Below.refl _ _ | refine Below.alloc ?_ (by first | omega | (simp; done) | (simp; omega)) _ | refine Below.setCell ?_ (by first | omega | (simp; done) | (simp; omega)) _ | refine Below.drew ?_ | refine Below.drewN ?_ _ | refine Below.via (by assumption) (by first | omega | (simp; done) | (simp; omega)) ?_)))).mono ?_; rintro e w' ⟨rfl, rfl⟩
  go_wp2_with fail
  go_loopw [11] (fun v wr => ∃ k : Nat, k ≤ rs.length ∧ v = .int .i64 (k : Int) ∧ OfTo w I R (excTo rs I R k) wr) (fun v _ => rs.length - (intOf v).toNat)
  case atStart => exact ⟨0, Nat.zero_le _, rfl, by exact (by simp only [hget_alloc, hget_drew, hz_alloc, hz_drew]; repeat (first | rfl | rw [if_pos (by omega)] | rw [if_neg (by omega)])), (Below.refl _ _).alloc (by simp) _⟩
  case round =>
    obtain ⟨k, hk, rfl, hrow, hB⟩ := hrel
    have hBw : Below w.heap.size w wr := ((((below_alloc w _).alloc (by rw [hz_alloc]; omega) _).alloc (by rw [hz_alloc, hz_alloc]; omega) _)).trans (hB.mono (by omega))
    have hz3 : w.heap.size + 1 + 1 + 1 < wr.heap.size := (Array.getElem?_eq_some_iff.1 hrow).1
    have new_wwr_0 : w.heap.size < wr.heap.size := by omega
    have new_wwr_1 : w.heap.size + 1 < wr.heap.size := by omega
    have new_wwr_2 : w.heap.size + 1 + 1 < wr.heap.size := by omega
    have i0 : wr.cell? ⟨w.heap.size, 0, none⟩ = some (.int .u64 I.lo.toNat) := by rw [hB.cell (p := ⟨_, _, none⟩) (by show w.heap.size < _; omega)]; go_simp
    have i1 : wr.cell? ⟨w.heap.size, 1, none⟩ = some (.int .u64 I.hi.toNat) := by rw [hB.cell (p := ⟨_, _, none⟩) (by show w.heap.size < _; omega)]; go_simp
    have r0 : wr.cell? ⟨w.heap.size + 1, 0, none⟩ = some (.int .u64 R.lo.toNat) := by rw [hB.cell (p := ⟨_, _, none⟩) (by show w.heap.size + 1 < _; omega)]; go_simp
    have r1 : wr.cell? ⟨w.heap.size + 1, 1, none⟩ = some (.int .u64 R.hi.toNat) := by rw [hB.cell (p := ⟨_, _, none⟩) (by show w.heap.size + 1 < _; omega)]; go_simp
    have t0 : wr.cell? ⟨w.heap.size + 1 + 1, 0, none⟩ = some (.int .u64 0) := by rw [hB.cell (p := ⟨_, _, none⟩) (by show w.heap.size + 1 + 1 < _; omega)]; go_simp
    have t1 : wr.cell? ⟨w.heap.size + 1 + 1, 1, none⟩ = some (.int .u64 0) := by rw [hB.cell (p := ⟨_, _, none⟩) (by show w.heap.size + 1 + 1 < _; omega)]; go_simp
    have tf : ∀ j, wr.frozen? ⟨w.heap.size + 1 + 1, j, none⟩ = false := fun j => by rw [hB.frozen (p := ⟨_, _, none⟩) (by show w.heap.size + 1 + 1 < _; omega)]; go_simp
    have HD : Hid (excTo rs I R (k + 1) = if coil (rs.getD k ⟨ByteArray.empty, 0, []⟩) (R.hasI k) I R then (excTo rs I R k).ins k else excTo rs I R k) := rfl
    obtain ⟨s, Hs⟩ : ∃ s, Hid (s = excTo rs I R k) := ⟨_, rfl⟩
    rw [← Hs.out] at hrow
    have q0 : wr.cell? ⟨w.heap.size + 1 + 1 + 1, 0, none⟩ = some (.int .u64 s.lo.toNat) := by rw [cell_of_row _ _ _ _ _ _ hrow]; rfl
    have q1 : wr.cell? ⟨w.heap.size + 1 + 1 + 1, 1, none⟩ = some (.int .u64 s.hi.toNat) := by rw [cell_of_row _ _ _ _ _ _ hrow]; rfl
    have qf := fun j => frozen_of_row _ _ j _ _ hrow
    have Hrow := Lib.hid hrow
    clear hrow
    by_cases hlt : k < rs.length
    · have HG : Hid (rs.getD k ⟨ByteArray.empty, 0, []⟩ = rs[k]) := by unfold Hid; simp [hlt]
      cases hc : coil rs[k] (R.hasI k) I R
      · have Hc := Lib.hid hc
        clear hc
        go_wp2_with fail
        refine (on_ok (h.up hBw) I R k hlt).mono ?_; rintro e w2 ⟨rfl, hb2⟩
        rw [Hc.out]
        go_wp2_with fail
        go_roundw
        case rel =>
          refine ⟨k + 1, by omega, by go_num, ?_, hB.trans (hb2.mono (by omega))⟩
          rw [HD.out, HG.out, Hc.out, hb2.block _ hz3, Hrow.out, Hs.out]; rfl
        case measure => simp [intOf]; omega
      · have Hc := Lib.hid hc
        clear hc
        go_wp2_with fail
        refine (on_ok (h.up hBw) I R k hlt).mono ?_; rintro e w2 ⟨rfl, hb2⟩
        rw [Hc.out]
        have z_hb2 := hb2.size
        obtain ⟨c_hb2, f_hb2⟩ := bcell hb2
        try simp only [hz_alloc, hz_set, hz_drew] at z_hb2 c_hb2 f_hb2
        go_wp2_with fail
        refine (with_ok s k _).mono ?_; rintro e w3 ⟨rfl, hb3⟩
        have z_hb3 := hb3.size
        obtain ⟨c_hb3, f_hb3⟩ := bcell hb3
        try simp only [hz_alloc, hz_set, hz_drew] at z_hb3 c_hb3 f_hb3
        have hz4 : w.heap.size + 1 + 1 + 1 < w2.heap.size := by omega
        have hr3 : w3.heap[w.heap.size + 1 + 1 + 1]? = some (.cells #[.int .u64 s.lo.toNat, .int .u64 s.hi.toNat] 24 (0, 0)) := by rw [hb3.block _ hz4, hb2.block _ hz3]; exact Hrow.out
        have Hr3 := Lib.hid hr3
        clear hr3
        go_wp2_with fail
        go_roundw
        case rel =>
          refine ⟨k + 1, by omega, by go_num, ?_, ?_⟩
          · rw [HD.out, HG.out, Hc.out, if_pos rfl, ← Hs.out]; exact set_two Hr3.out
          · exact ((hB.trans (hb2.mono (by omega))).trans (hb3.mono (by omega))).setCell (p := ⟨_, _, none⟩) (Nat.le_refl _) _ |>.setCell (p := ⟨_, _, none⟩) (Nat.le_refl _) _
        case measure => simp [intOf]; omega
    · have HE : Hid (s = excited rs I R) := by unfold Hid excited; rw [Hs.out, show k = rs.length by omega]
      go_wp2_with fail
      refine bodyPost_ret (v := setV s) (by simp [results, Try.results33, go_sem, *]) rfl ?_
      rw [← HE.out]
      exact ⟨rfl, (hBw.setCell (p := ⟨w.heap.size + 1 + 1, _, none⟩) (by show w.heap.size ≤ w.heap.size + 1 + 1; omega) _).setCell (p := ⟨w.heap.size + 1 + 1, _, none⟩) (by show w.heap.size ≤ w.heap.size + 1 + 1; omega) _⟩
set_option maxHeartbeats 1000000 in
theorem one_in {w : World} {bk : Nat} {rs : List Relay} (h : CoilsAt w bk rs) (I R : BS) (i : Nat) (hi : i < rs.length) :
    Calls Try.prog 39 #[.pointer (some ⟨bk, 0, none⟩), .int .i64 (i : Int), setV I, setV R] w (Ret (.tuple #[.bool (coil rs[i] (R.hasI i) I R), .int .i64 0]) w) := by
  obtain ⟨⟨pr, cr, h0, h1⟩, h2, h3⟩ := h
  have h := (⟨⟨pr, cr, h0, h1⟩, h2, h3⟩ : CoilsAt w bk rs)
  have hbk : bk < w.heap.size := World.block_lt_of_cell? w _ h0
  clear h1 h2
  have t1 : decide ((i : Int) < 0) = false := by simp
  have t2 : decide ((rs.length : Int) ≤ (i : Int)) = false := by simp; omega
  go_enter Try.func39, Try.ntmps39
  go_wp2_with fail
  refine (on_ok (h.up (by repeat (first | exact Below.refl _ _ | refine Below.alloc ?_ (by first | omega | (simp; done) | (simp; omega)) _ | refine Below.setCell ?_ (by first | omega | (simp; done) | (simp; omega)) _ | refine Below.drew ?_ | refine Below.drewN ?_ _ | refine Below.via (by assumption) (by first | omega | (simp; done) | (simp; omega)) ?_))) I R i hi).mono ?_; rintro e w2 ⟨rfl, hb2⟩
  have z_hb2 := hb2.size
  obtain ⟨c_hb2, f_hb2⟩ := bcell hb2
  try simp only [hz_alloc, hz_set, hz_drew] at z_hb2 c_hb2 f_hb2
  go_wp2_with fail
  go_ret2
  exact ⟨rfl, (by repeat (first | exact Below.refl _ _ | refine Below.alloc ?_ (by first | omega | (simp; done) | (simp; omega)) _ | refine Below.setCell ?_ (by first | omega | (simp; done) | (simp; omega)) _ | refine Below.drew ?_ | refine Below.drewN ?_ _ | refine Below.via (by assumption) (by first | omega | (simp; done) | (simp; omega)) ?_))⟩
theorem one_out {w : World} {bk : Nat} {rs : List Relay} (h : CoilsAt w bk rs) (I R : BS) (i : Int) (hi : ¬ (0 ≤ i ∧ i < rs.length)) :
    Calls Try.prog 39 #[.pointer (some ⟨bk, 0, none⟩), .int .i64 i, setV I, setV R] w (Ret (.tuple #[.bool false, .int .i64 2]) w) := by
  obtain ⟨⟨pr, cr, h0, h1⟩, h2, h3⟩ := h
  have hbk : bk < w.heap.size := World.block_lt_of_cell? w _ h0
  clear h1 h2
  by_cases hn : i < 0
  · have t1 : decide (i < 0) = true := by simpa using hn
    clear hi
    go_enter Try.func39, Try.ntmps39
    go_wp2
    go_ret2
    exact ⟨rfl, (by repeat (first | exact Below.refl _ _ | refine Below.alloc ?_ (by first | omega | (simp; done) | (simp; omega)) _ | refine Below.setCell ?_ (by first | omega | (simp; done) | (simp; omega)) _ | refine Below.drew ?_ | refine Below.drewN ?_ _ | refine Below.via (by assumption) (by first | omega | (simp; done) | (simp; omega)) ?_))⟩
  · have t1 : decide (i < 0) = false := by simpa using hn
    have t2 : decide ((rs.length : Int) ≤ i) = true := by simp; omega
    clear hi
    go_enter Try.func39, Try.ntmps39
    go_wp2
    go_ret2
    exact ⟨rfl, (by repeat (first | exact Below.refl _ _ | refine Below.alloc ?_ (by first | omega | (simp; done) | (simp; omega)) _ | refine Below.setCell ?_ (by first | omega | (simp; done) | (simp; omega)) _ | refine Below.drew ?_ | refine Below.drewN ?_ _ | refine Below.via (by assumption) (by first | omega | (simp; done) | (simp; omega)) ?_))⟩
theorem one_nil (I R : BS) (i : Int) (w : World) :
    Calls Try.prog 39 #[.pointer none, .int .i64 i, setV I, setV R] w (Ret (.tuple #[.bool false, .int .i64 1]) w) := by
  go_enter Try.func39, Try.ntmps39
  go_wp2
  go_ret2
  exact ⟨rfl, (by repeat (first | exact Below.refl _ _ | refine Below.alloc ?_ (by first | omega | (simp; done) | (simp; omega)) _ | refine Below.setCell ?_ (by first | omega | (simp; done) | (simp; omega)) _ | refine Below.drew ?_ | refine Below.drewN ?_ _ | refine Below.via (by assumption) (by first | omega | (simp; done) | (simp; omega)) ?_))⟩
end Go.Proofs.Ytknplnfoekeljaa
