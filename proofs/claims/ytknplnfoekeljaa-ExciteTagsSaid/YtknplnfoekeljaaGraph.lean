/- The contract of shape.Graph: which values are graphs. -/
import Derived.Test.YtknplnfoekeljaaData
namespace Go.Proofs.Ytknplnfoekeljaa
open Go.RowKit
set_option maxHeartbeats 1000000 in
theorem graph_ok (g : Graph) (p : Option Addr) (cap : Nat) (w : World) (hes : EdgesAt w p cap g.edges) :
    Calls Try.prog 76 #[.agg #[.int .i64 g.nodes, .slice p g.edges.length cap]] w (Ret (.int .i64 (graphErr g)) w) := by
  obtain ⟨n, es⟩ := g
  have hlen := hes.len
  by_cases h : 2 ≤ n ∧ n ≤ 256 ∧ es.length ≤ 4096
  · obtain ⟨h1, h2, h3⟩ := h
    have d1 : decide (n < 2) = false := by simp; omega
    have d2 : decide (256 < n) = false := by simp; omega
    have d3 : decide (4096 < (es.length : Int)) = false := by simp; omega
    go_enter Try.func76, Try.ntmps76
    go_wp2
    go_loopw [22] (fun v wr => ∃ k : Nat, k ≤ es.length ∧ v = .int .i64 (k : Int) ∧ (∀ j (hj : j < es.length), j < k → es[j].ok n) ∧ Below (w.heap.size + 1) (w.alloc (Obj.cells #[.int .i64 n, .slice p es.length cap] 34)) wr) (fun v _ => es.length - (intOf v).toNat)
    case atStart => exact ⟨0, Nat.zero_le _, rfl, fun j _ hj => absurd hj (Nat.not_lt_zero _), Below.refl _ _⟩
    case round =>
      obtain ⟨k, hk, rfl, hall, hB⟩ := hrel
      have hBw : Below w.heap.size w wr := (below_alloc w _).trans (hB.mono (by omega))
      have hz := hB.size
      simp only [hz_alloc] at hz
      have hz0 : w.heap.size < wr.heap.size := by omega
      have n0 : wr.cell? ⟨w.heap.size, 0, none⟩ = some (.int .i64 n) := by rw [hB.cell (p := ⟨_, _, none⟩) (by simp)]; go_simp
      have HA : Hid (∀ j (hj : j < es.length), j < k → es[j].ok n) := hall
      clear hall
      by_cases hlt : k < es.length
      · obtain ⟨b, off, rfl⟩ := hes.at_ k hlt
        obtain ⟨e0, e1, e2, e3, e4⟩ := (hes.up hBw).cell b off rfl k hlt
        have HE : Hid (∃ e, e = es[k]) := ⟨_, rfl⟩
        have HN : Hid (∀ e, e = es[k] → e.ok n → ∀ j (hj : j < es.length), j < k + 1 → es[j].ok n) := fun e he ho j hj hjk => by
          by_cases hjk' : j < k
          · exact HA.out j hj hjk'
          · obtain rfl : j = k := by omega
            rw [← he]; exact ho
        have HF : Hid (∀ e, e = es[k] → ¬ e.ok n → ¬ Graph.right ⟨n, es⟩) := fun e he ho hr => ho (by rw [he]; exact hr.2.2.2 _ (List.getElem_mem hlt))
        obtain ⟨e, he⟩ : ∃ e, es[k] = e := ⟨_, rfl⟩
        rw [he] at e0 e1 e2 e3 e4
        have He : Hid (e = es[k]) := he.symm
        clear he
        by_cases c1 : min e.a e.b < 0
        · have t1 : decide (min e.a e.b < 0) = true := by simpa using c1
          have Hc : Hid (¬ e.ok n) := fun ho => by unfold Edge.ok at ho; omega
          go_wp2
          all_goals
            go_ret
            rw [graphErr_no (HF.out e He.out Hc.out)]
            exact ⟨rfl, hBw.trans ((below_alloc _ _).mono (by omega))⟩
        · have t1 : decide (min e.a e.b < 0) = false := by simpa using c1
          by_cases c2 : max e.a e.b < n
          · have t2 : decide (n ≤ max e.a e.b) = false := by simpa using c2
            by_cases c3 : e.by_.num < 0
            · have t3 : decide (e.by_.num < 0) = true := by simpa using c3
              have Hc : Hid (¬ e.ok n) := fun ho => by unfold Edge.ok at ho; omega
              go_wp2
              all_goals
                go_ret
                rw [graphErr_no (HF.out e He.out Hc.out)]
                exact ⟨rfl, hBw.trans ((below_alloc _ _).mono (by omega))⟩
            · have t3 : decide (e.by_.num < 0) = false := by simpa using c3
              by_cases c4 : 127 < e.by_.num
              · have t4 : decide (127 < e.by_.num) = true := by simpa using c4
                have Hc : Hid (¬ e.ok n) := fun ho => by unfold Edge.ok at ho; omega
                go_wp2
                all_goals
                  go_ret
                  rw [graphErr_no (HF.out e He.out Hc.out)]
                  exact ⟨rfl, hBw.trans ((below_alloc _ _).mono (by omega))⟩
              · have t4 : decide (127 < e.by_.num) = false := by simpa using c4
                have Hc : Hid (e.ok n) := by
                  unfold Hid Edge.ok
                  refine ⟨?_, ?_, ?_, ?_, ?_, ?_⟩ <;> omega
                go_wp2
                all_goals
                  go_roundw
                  case rel => exact ⟨k + 1, by omega, by go_num, HN.out e He.out Hc.out, hB.trans ((below_alloc _ _).mono (by omega))⟩
                  case measure => simp [intOf]; omega
          · have t2 : decide (n ≤ max e.a e.b) = true := by simpa using c2
            have Hc : Hid (¬ e.ok n) := fun ho => by unfold Edge.ok at ho; omega
            go_wp2
            all_goals
              go_ret
              rw [graphErr_no (HF.out e He.out Hc.out)]
              exact ⟨rfl, hBw.trans ((below_alloc _ _).mono (by omega))⟩
      · have Hr : Hid (Graph.right ⟨n, es⟩) := ⟨h1, h2, h3, fun e he => by
          obtain ⟨j, hj, rfl⟩ := List.getElem_of_mem he
          have hj' : j < es.length := hj
          exact HA.out j hj' (by omega)⟩
        go_wp2
        go_ret
        rw [graphErr_ok Hr.out]
        exact ⟨rfl, hBw⟩
  · have Hr : Hid (¬ Graph.right ⟨n, es⟩) := fun hr => h ⟨hr.1, hr.2.1, hr.2.2.1⟩
    by_cases h1 : 2 ≤ n
    · by_cases h2 : n ≤ 256
      · have h3 : ¬ es.length ≤ 4096 := fun h3 => h ⟨h1, h2, h3⟩
        clear h
        have d1 : decide (n < 2) = false := by simp; omega
        have d2 : decide (256 < n) = false := by simp; omega
        have d3 : decide (4096 < (es.length : Int)) = true := by simp; omega
        go_enter Try.func76, Try.ntmps76
        go_wp2
        go_ret
        rw [graphErr_no Hr.out]
        exact ⟨rfl, (by repeat (first | exact Below.refl _ _ | refine Below.alloc ?_ (by first | omega | (simp; done) | (simp; omega)) _ | refine Below.setCell ?_ (by first | omega | (simp; done) | (simp; omega)) _ | refine Below.drew ?_ | refine Below.drewN ?_ _ | refine Below.via (by assumption) (by first | omega | (simp; done) | (simp; omega)) ?_))⟩
      · clear h
        have d1 : decide (n < 2) = false := by simp; omega
        have d2 : decide (256 < n) = true := by simp; omega
        go_enter Try.func76, Try.ntmps76
        go_wp2
        go_ret
        rw [graphErr_no Hr.out]
        exact ⟨rfl, (by repeat (first | exact Below.refl _ _ | refine Below.alloc ?_ (by first | omega | (simp; done) | (simp; omega)) _ | refine Below.setCell ?_ (by first | omega | (simp; done) | (simp; omega)) _ | refine Below.drew ?_ | refine Below.drewN ?_ _ | refine Below.via (by assumption) (by first | omega | (simp; done) | (simp; omega)) ?_))⟩
    · clear h
      have d1 : decide (n < 2) = true := by simp; omega
      go_enter Try.func76, Try.ntmps76
      go_wp2
      go_ret
      rw [graphErr_no Hr.out]
      exact ⟨rfl, (by repeat (first | exact Below.refl _ _ | refine Below.alloc ?_ (by first | omega | (simp; done) | (simp; omega)) _ | refine Below.setCell ?_ (by first | omega | (simp; done) | (simp; omega)) _ | refine Below.drew ?_ | refine Below.drewN ?_ _ | refine Below.via (by assumption) (by first | omega | (simp; done) | (simp; omega)) ?_))⟩
end Go.Proofs.Ytknplnfoekeljaa
