/- armaturelaw15: the sample circuit. -/
import Derived.Test.YtknplnfoekeljaaCells
import Derived.Test.YtknplnfoekeljaaNew
namespace Go.Proofs.Ytknplnfoekeljaa
open Go.RowKit
def oneG (n : Int) (b : Bool) : Graph := ⟨2, [⟨0, 1, ⟨false, n, b⟩⟩]⟩
/-- a graph's value and its edges -/
def OneLies (g : Graph) (w : World) (e : Ending) (w' : World) : Prop :=
  ∃ p cap, e = .returned (.agg #[.int .i64 2, .slice p 1 cap]) ∧ Apart w.heap.size (fun _ => False) w' (fun W => EdgesAt W p cap g.edges) ∧ Below w.heap.size w w'
theorem law15one_ok (n : Int) (b : Bool) (w : World) : Calls Try.prog 140 #[.int .i64 n, .bool b] w (OneLies (oneG n b) w) := by
  go_enter Try.func140, Try.ntmps140
  go_wp2_with fail
  refine bodyPost_ret (v := .agg #[.int .i64 2, .slice (some ⟨w.heap.size + 1, 0, none⟩) 1 1]) (by simp [results, Try.results140, go_sem, *]) rfl ?_
  refine ⟨some ⟨w.heap.size + 1, 0, none⟩, 1, rfl, fun W hs hk => ?_, (by repeat (first | exact Below.refl _ _ | refine Below.alloc ?_ (by first | omega | (simp; done) | (simp; omega)) _ | refine Below.setCell ?_ (by first | omega | (simp; done) | (simp; omega)) _ | refine Below.drew ?_ | refine Below.drewN ?_ _ | refine Below.via (by assumption) (by first | omega | (simp; done) | (simp; omega)) ?_))⟩
  refine edgesAt_of (l := [⟨0, 1, ⟨false, n, b⟩⟩]) (T := 52) ?_ (by simp) (by simp)
  rw [hk _ (by omega) (by simp only [hz_alloc, hz_set]; omega) (fun h => h)]
  exact (by repeat (first | rfl | (rw [hget_alloc]; first | rw [if_pos (by first | omega | (simp only [hz_alloc, hz_set, hz_drew]; done) | (simp only [hz_alloc, hz_set, hz_drew]; omega) | (show _ ≠ _; omega))] | rw [if_neg (by first | omega | (simp only [hz_alloc, hz_set, hz_drew]; done) | (simp only [hz_alloc, hz_set, hz_drew]; omega) | (show _ ≠ _; omega))]) | rw [Below.heap_setCell _ _ _ _ (by first | omega | (simp only [hz_alloc, hz_set, hz_drew]; done) | (simp only [hz_alloc, hz_set, hz_drew]; omega) | (show _ ≠ _; omega))] | rw [hget_drew] | assumption))
def sampleC : Circuit := ⟨[⟨#[97]⟩, ⟨#[98]⟩], [⟨⟨#[88]⟩, 2, [oneG 0 false, oneG 1 true]⟩, ⟨⟨#[83]⟩, 1, [oneG 0 false, oneG 1 false]⟩]⟩
/-- a circuit's value and its parts -/
def CircLies (c : Circuit) (w : World) (e : Ending) (w' : World) : Prop :=
  ∃ pi ci pr cr, e = .returned (circV pi ci pr cr c) ∧ CircAt w' pi ci pr cr c ∧ Below w.heap.size w w'
set_option maxRecDepth 100000 in
set_option maxHeartbeats 1000000 in
theorem sample_ok (w : World) : Calls Try.prog 89 #[] w (CircLies sampleC w) := by
  go_enter Try.func89, Try.ntmps89
  go_wp2_with fail
  refine (law15one_ok _ _ _).mono ?_; rintro e w1 ⟨p1, c1, rfl, hE1, hb1⟩
  have z_hb1 := hb1.size
  obtain ⟨c_hb1, f_hb1⟩ := bcell hb1
  try simp only [hz_alloc, hz_set, hz_drew] at z_hb1 c_hb1 f_hb1
  have new_ww1_0 : w.heap.size < w1.heap.size := by omega
  have new_ww1_1 : w.heap.size + 1 < w1.heap.size := by omega
  go_wp2_with fail
  refine (law15one_ok _ _ _).mono ?_; rintro e w2 ⟨p2, c2, rfl, hE2, hb2⟩
  have z_hb2 := hb2.size
  obtain ⟨c_hb2, f_hb2⟩ := bcell hb2
  try simp only [hz_alloc, hz_set, hz_drew] at z_hb2 c_hb2 f_hb2
  have new_ww2_0 : w.heap.size < w2.heap.size := by omega
  have new_ww2_1 : w.heap.size + 1 < w2.heap.size := by omega
  go_wp2_with fail
  refine (law15one_ok _ _ _).mono ?_; rintro e w3 ⟨p3, c3, rfl, hE3, hb3⟩
  have z_hb3 := hb3.size
  obtain ⟨c_hb3, f_hb3⟩ := bcell hb3
  try simp only [hz_alloc, hz_set, hz_drew] at z_hb3 c_hb3 f_hb3
  have new_ww3_0 : w.heap.size < w3.heap.size := by omega
  have new_ww3_1 : w.heap.size + 1 < w3.heap.size := by omega
  go_wp2_with fail
  refine (law15one_ok _ _ _).mono ?_; rintro e w4 ⟨p4, c4, rfl, hE4, hb4⟩
  have z_hb4 := hb4.size
  obtain ⟨c_hb4, f_hb4⟩ := bcell hb4
  try simp only [hz_alloc, hz_set, hz_drew] at z_hb4 c_hb4 f_hb4
  have new_ww4_0 : w.heap.size < w4.heap.size := by omega
  have new_ww4_1 : w.heap.size + 1 < w4.heap.size := by omega
  go_wp2_with fail
  have t0 : w4.cell? ⟨w.heap.size, 0, none⟩ = some (.slice none 0 0) := by rw [c_hb4 _ _ (by omega), c_hb3 _ _ (by omega), World.cell?_alloc_lt _ _ _ (by show w.heap.size < _; omega), c_hb2 _ _ (by omega), c_hb1 _ _ (by omega)]; go_simp
  have t1 : w4.cell? ⟨w.heap.size, 1, none⟩ = some (.slice none 0 0) := by rw [c_hb4 _ _ (by omega), c_hb3 _ _ (by omega), World.cell?_alloc_lt _ _ _ (by show w.heap.size < _; omega), c_hb2 _ _ (by omega), c_hb1 _ _ (by omega)]; go_simp
  clear c_hb1 c_hb2 c_hb3 c_hb4 f_hb1 f_hb2 f_hb3 f_hb4
  refine bodyPost_ret (v := .agg #[.slice (some ⟨w.heap.size + 1, 0, none⟩) 2 2, .slice (some ⟨w4.heap.size + 1, 0, none⟩) 2 2]) (by simp [results, Try.results89, go_sem, *]) rfl ?_
  refine ⟨some ⟨w.heap.size + 1, 0, none⟩, 2, some ⟨w4.heap.size + 1, 0, none⟩, 2, rfl, ⟨?_, ?_⟩, ?_⟩
  · refine strsAt_row (T := 9) ?_ (by intro s hs; simp [sampleC] at hs; rcases hs with rfl | rfl <;> decide) (by simp [sampleC]) (by simp [sampleC])
    exact (by repeat (first | rfl | (rw [hget_alloc]; first | rw [if_pos (by first | omega | (simp only [hz_alloc, hz_set, hz_drew]; done) | (simp only [hz_alloc, hz_set, hz_drew]; omega) | (show _ ≠ _; omega))] | rw [if_neg (by first | omega | (simp only [hz_alloc, hz_set, hz_drew]; done) | (simp only [hz_alloc, hz_set, hz_drew]; omega) | (show _ ≠ _; omega))]) | rw [Below.heap_setCell _ _ _ _ (by first | omega | (simp only [hz_alloc, hz_set, hz_drew]; done) | (simp only [hz_alloc, hz_set, hz_drew]; omega) | (show _ ≠ _; omega))] | rw [hget_drew] | rw [hb4.block _ (by first | omega | (simp only [hz_alloc, hz_set, hz_drew]; done) | (simp only [hz_alloc, hz_set, hz_drew]; omega) | (show _ ≠ _; omega))] | rw [hb3.block _ (by first | omega | (simp only [hz_alloc, hz_set, hz_drew]; done) | (simp only [hz_alloc, hz_set, hz_drew]; omega) | (show _ ≠ _; omega))] | rw [hb2.block _ (by first | omega | (simp only [hz_alloc, hz_set, hz_drew]; done) | (simp only [hz_alloc, hz_set, hz_drew]; omega) | (show _ ≠ _; omega))] | rw [hb1.block _ (by first | omega | (simp only [hz_alloc, hz_set, hz_drew]; done) | (simp only [hz_alloc, hz_set, hz_drew]; omega) | (show _ ≠ _; omega))] | assumption))
  · refine relaysAt_row (R := [⟨⟨⟨#[88]⟩, 2, [oneG 0 false, oneG 1 true]⟩, some ⟨w2.heap.size, 0, none⟩, 2⟩, ⟨⟨⟨#[83]⟩, 1, [oneG 0 false, oneG 1 false]⟩, some ⟨w4.heap.size, 0, none⟩, 2⟩]) (T := 65) ?_ ?_ ?_ (by simp) (by simp)
    · exact (by repeat (first | rfl | (rw [hget_alloc]; first | rw [if_pos (by first | omega | (simp only [hz_alloc, hz_set, hz_drew]; done) | (simp only [hz_alloc, hz_set, hz_drew]; omega) | (show _ ≠ _; omega))] | rw [if_neg (by first | omega | (simp only [hz_alloc, hz_set, hz_drew]; done) | (simp only [hz_alloc, hz_set, hz_drew]; omega) | (show _ ≠ _; omega))]) | rw [Below.heap_setCell _ _ _ _ (by first | omega | (simp only [hz_alloc, hz_set, hz_drew]; done) | (simp only [hz_alloc, hz_set, hz_drew]; omega) | (show _ ≠ _; omega))] | rw [hget_drew] | rw [hb4.block _ (by first | omega | (simp only [hz_alloc, hz_set, hz_drew]; done) | (simp only [hz_alloc, hz_set, hz_drew]; omega) | (show _ ≠ _; omega))] | rw [hb3.block _ (by first | omega | (simp only [hz_alloc, hz_set, hz_drew]; done) | (simp only [hz_alloc, hz_set, hz_drew]; omega) | (show _ ≠ _; omega))] | rw [hb2.block _ (by first | omega | (simp only [hz_alloc, hz_set, hz_drew]; done) | (simp only [hz_alloc, hz_set, hz_drew]; omega) | (show _ ≠ _; omega))] | rw [hb1.block _ (by first | omega | (simp only [hz_alloc, hz_set, hz_drew]; done) | (simp only [hz_alloc, hz_set, hz_drew]; omega) | (show _ ≠ _; omega))] | assumption))
    · intro i hi
      match i, hi with
      | 0, _ =>
        refine graphsAt_row (L := [⟨oneG 0 false, p1, c1⟩, ⟨oneG 1 true, p2, c2⟩]) (T := 34) ?_ ?_ (by simp) (by simp)
        · exact (by repeat (first | rfl | (rw [hget_alloc]; first | rw [if_pos (by first | omega | (simp only [hz_alloc, hz_set, hz_drew]; done) | (simp only [hz_alloc, hz_set, hz_drew]; omega) | (show _ ≠ _; omega))] | rw [if_neg (by first | omega | (simp only [hz_alloc, hz_set, hz_drew]; done) | (simp only [hz_alloc, hz_set, hz_drew]; omega) | (show _ ≠ _; omega))]) | rw [Below.heap_setCell _ _ _ _ (by first | omega | (simp only [hz_alloc, hz_set, hz_drew]; done) | (simp only [hz_alloc, hz_set, hz_drew]; omega) | (show _ ≠ _; omega))] | rw [hget_drew] | rw [hb4.block _ (by first | omega | (simp only [hz_alloc, hz_set, hz_drew]; done) | (simp only [hz_alloc, hz_set, hz_drew]; omega) | (show _ ≠ _; omega))] | rw [hb3.block _ (by first | omega | (simp only [hz_alloc, hz_set, hz_drew]; done) | (simp only [hz_alloc, hz_set, hz_drew]; omega) | (show _ ≠ _; omega))] | rw [hb2.block _ (by first | omega | (simp only [hz_alloc, hz_set, hz_drew]; done) | (simp only [hz_alloc, hz_set, hz_drew]; omega) | (show _ ≠ _; omega))] | rw [hb1.block _ (by first | omega | (simp only [hz_alloc, hz_set, hz_drew]; done) | (simp only [hz_alloc, hz_set, hz_drew]; omega) | (show _ ≠ _; omega))] | assumption))
        · intro j hj
          match j, hj with
          | 0, _ => exact hE1 _ (by simp only [hz_alloc, hz_set]; omega) (fun b h1 h2 _ => by (try simp only [hz_alloc] at h1); exact (by repeat (first | rfl | (rw [hget_alloc]; first | rw [if_pos (by first | omega | (simp only [hz_alloc, hz_set, hz_drew]; done) | (simp only [hz_alloc, hz_set, hz_drew]; omega) | (show _ ≠ _; omega))] | rw [if_neg (by first | omega | (simp only [hz_alloc, hz_set, hz_drew]; done) | (simp only [hz_alloc, hz_set, hz_drew]; omega) | (show _ ≠ _; omega))]) | rw [Below.heap_setCell _ _ _ _ (by first | omega | (simp only [hz_alloc, hz_set, hz_drew]; done) | (simp only [hz_alloc, hz_set, hz_drew]; omega) | (show _ ≠ _; omega))] | rw [hget_drew] | rw [hb4.block _ (by first | omega | (simp only [hz_alloc, hz_set, hz_drew]; done) | (simp only [hz_alloc, hz_set, hz_drew]; omega) | (show _ ≠ _; omega))] | rw [hb3.block _ (by first | omega | (simp only [hz_alloc, hz_set, hz_drew]; done) | (simp only [hz_alloc, hz_set, hz_drew]; omega) | (show _ ≠ _; omega))] | rw [hb2.block _ (by first | omega | (simp only [hz_alloc, hz_set, hz_drew]; done) | (simp only [hz_alloc, hz_set, hz_drew]; omega) | (show _ ≠ _; omega))] | rw [hb1.block _ (by first | omega | (simp only [hz_alloc, hz_set, hz_drew]; done) | (simp only [hz_alloc, hz_set, hz_drew]; omega) | (show _ ≠ _; omega))] | assumption)))
          | 1, _ => exact hE2 _ (by simp only [hz_alloc, hz_set]; omega) (fun b h1 h2 _ => by (try simp only [hz_alloc] at h1); exact (by repeat (first | rfl | (rw [hget_alloc]; first | rw [if_pos (by first | omega | (simp only [hz_alloc, hz_set, hz_drew]; done) | (simp only [hz_alloc, hz_set, hz_drew]; omega) | (show _ ≠ _; omega))] | rw [if_neg (by first | omega | (simp only [hz_alloc, hz_set, hz_drew]; done) | (simp only [hz_alloc, hz_set, hz_drew]; omega) | (show _ ≠ _; omega))]) | rw [Below.heap_setCell _ _ _ _ (by first | omega | (simp only [hz_alloc, hz_set, hz_drew]; done) | (simp only [hz_alloc, hz_set, hz_drew]; omega) | (show _ ≠ _; omega))] | rw [hget_drew] | rw [hb4.block _ (by first | omega | (simp only [hz_alloc, hz_set, hz_drew]; done) | (simp only [hz_alloc, hz_set, hz_drew]; omega) | (show _ ≠ _; omega))] | rw [hb3.block _ (by first | omega | (simp only [hz_alloc, hz_set, hz_drew]; done) | (simp only [hz_alloc, hz_set, hz_drew]; omega) | (show _ ≠ _; omega))] | rw [hb2.block _ (by first | omega | (simp only [hz_alloc, hz_set, hz_drew]; done) | (simp only [hz_alloc, hz_set, hz_drew]; omega) | (show _ ≠ _; omega))] | rw [hb1.block _ (by first | omega | (simp only [hz_alloc, hz_set, hz_drew]; done) | (simp only [hz_alloc, hz_set, hz_drew]; omega) | (show _ ≠ _; omega))] | assumption)))
      | 1, _ =>
        refine graphsAt_row (L := [⟨oneG 0 false, p3, c3⟩, ⟨oneG 1 false, p4, c4⟩]) (T := 34) ?_ ?_ (by simp) (by simp)
        · exact (by repeat (first | rfl | (rw [hget_alloc]; first | rw [if_pos (by first | omega | (simp only [hz_alloc, hz_set, hz_drew]; done) | (simp only [hz_alloc, hz_set, hz_drew]; omega) | (show _ ≠ _; omega))] | rw [if_neg (by first | omega | (simp only [hz_alloc, hz_set, hz_drew]; done) | (simp only [hz_alloc, hz_set, hz_drew]; omega) | (show _ ≠ _; omega))]) | rw [Below.heap_setCell _ _ _ _ (by first | omega | (simp only [hz_alloc, hz_set, hz_drew]; done) | (simp only [hz_alloc, hz_set, hz_drew]; omega) | (show _ ≠ _; omega))] | rw [hget_drew] | rw [hb4.block _ (by first | omega | (simp only [hz_alloc, hz_set, hz_drew]; done) | (simp only [hz_alloc, hz_set, hz_drew]; omega) | (show _ ≠ _; omega))] | rw [hb3.block _ (by first | omega | (simp only [hz_alloc, hz_set, hz_drew]; done) | (simp only [hz_alloc, hz_set, hz_drew]; omega) | (show _ ≠ _; omega))] | rw [hb2.block _ (by first | omega | (simp only [hz_alloc, hz_set, hz_drew]; done) | (simp only [hz_alloc, hz_set, hz_drew]; omega) | (show _ ≠ _; omega))] | rw [hb1.block _ (by first | omega | (simp only [hz_alloc, hz_set, hz_drew]; done) | (simp only [hz_alloc, hz_set, hz_drew]; omega) | (show _ ≠ _; omega))] | assumption))
        · intro j hj
          match j, hj with
          | 0, _ => exact hE3 _ (by simp only [hz_alloc, hz_set]; omega) (fun b h1 h2 _ => by (try simp only [hz_alloc] at h1); exact (by repeat (first | rfl | (rw [hget_alloc]; first | rw [if_pos (by first | omega | (simp only [hz_alloc, hz_set, hz_drew]; done) | (simp only [hz_alloc, hz_set, hz_drew]; omega) | (show _ ≠ _; omega))] | rw [if_neg (by first | omega | (simp only [hz_alloc, hz_set, hz_drew]; done) | (simp only [hz_alloc, hz_set, hz_drew]; omega) | (show _ ≠ _; omega))]) | rw [Below.heap_setCell _ _ _ _ (by first | omega | (simp only [hz_alloc, hz_set, hz_drew]; done) | (simp only [hz_alloc, hz_set, hz_drew]; omega) | (show _ ≠ _; omega))] | rw [hget_drew] | rw [hb4.block _ (by first | omega | (simp only [hz_alloc, hz_set, hz_drew]; done) | (simp only [hz_alloc, hz_set, hz_drew]; omega) | (show _ ≠ _; omega))] | rw [hb3.block _ (by first | omega | (simp only [hz_alloc, hz_set, hz_drew]; done) | (simp only [hz_alloc, hz_set, hz_drew]; omega) | (show _ ≠ _; omega))] | rw [hb2.block _ (by first | omega | (simp only [hz_alloc, hz_set, hz_drew]; done) | (simp only [hz_alloc, hz_set, hz_drew]; omega) | (show _ ≠ _; omega))] | rw [hb1.block _ (by first | omega | (simp only [hz_alloc, hz_set, hz_drew]; done) | (simp only [hz_alloc, hz_set, hz_drew]; omega) | (show _ ≠ _; omega))] | assumption)))
          | 1, _ => exact hE4 _ (by simp only [hz_alloc, hz_set]; omega) (fun b h1 h2 _ => by (try simp only [hz_alloc] at h1); exact (by repeat (first | rfl | (rw [hget_alloc]; first | rw [if_pos (by first | omega | (simp only [hz_alloc, hz_set, hz_drew]; done) | (simp only [hz_alloc, hz_set, hz_drew]; omega) | (show _ ≠ _; omega))] | rw [if_neg (by first | omega | (simp only [hz_alloc, hz_set, hz_drew]; done) | (simp only [hz_alloc, hz_set, hz_drew]; omega) | (show _ ≠ _; omega))]) | rw [Below.heap_setCell _ _ _ _ (by first | omega | (simp only [hz_alloc, hz_set, hz_drew]; done) | (simp only [hz_alloc, hz_set, hz_drew]; omega) | (show _ ≠ _; omega))] | rw [hget_drew] | rw [hb4.block _ (by first | omega | (simp only [hz_alloc, hz_set, hz_drew]; done) | (simp only [hz_alloc, hz_set, hz_drew]; omega) | (show _ ≠ _; omega))] | rw [hb3.block _ (by first | omega | (simp only [hz_alloc, hz_set, hz_drew]; done) | (simp only [hz_alloc, hz_set, hz_drew]; omega) | (show _ ≠ _; omega))] | rw [hb2.block _ (by first | omega | (simp only [hz_alloc, hz_set, hz_drew]; done) | (simp only [hz_alloc, hz_set, hz_drew]; omega) | (show _ ≠ _; omega))] | rw [hb1.block _ (by first | omega | (simp only [hz_alloc, hz_set, hz_drew]; done) | (simp only [hz_alloc, hz_set, hz_drew]; omega) | (show _ ≠ _; omega))] | assumption)))
    · intro i hi
      match i, hi with
      | 0, _ => exact (show (1 : Nat) ≤ _ by omega)
      | 1, _ => exact (show (1 : Nat) ≤ _ by omega)
  · exact (by repeat (first | exact Below.refl _ _ | refine Below.alloc ?_ (by first | omega | (simp; done) | (simp; omega)) _ | refine Below.setCell ?_ (by first | omega | (simp; done) | (simp; omega)) _ | refine Below.drew ?_ | refine Below.drewN ?_ _ | refine Below.via (by assumption) (by first | omega | (simp; done) | (simp; omega)) ?_))
end Go.Proofs.Ytknplnfoekeljaa
