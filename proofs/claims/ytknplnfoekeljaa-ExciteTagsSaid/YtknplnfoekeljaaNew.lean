/- excite.New. -/
import Derived.Test.YtknplnfoekeljaaCheck
import Derived.Test.YtknplnfoekeljaaCopy
import Derived.Test.YtknplnfoekeljaaExcited
namespace Go.Proofs.Ytknplnfoekeljaa
open Go.RowKit
theorem relayOk_of {c : Circuit} {r : Relay} (h : c.relayFine r) : RelayOk r := by
  obtain ⟨h1, h2⟩ := h
  unfold tagGraphs at h1
  refine ⟨?_, ?_, fun g hg => (h2 g hg).1⟩
  · split at h1
    · exact .inl ‹_›
    · split at h1
      · rename_i h; rcases h with h | h
        · exact .inr (.inl h)
        · exact .inr (.inr h)
      · omega
  · split at h1
    · rename_i h; rw [if_pos h]; omega
    · rename_i h; rw [if_neg h]
      split at h1 <;> omega
theorem circ_field (p q : Option Addr) (n m c d : Nat) (w : World) : (Instr.field 57 (.agg #[.slice p n c, .slice q m d]) 1).run Try.prog w = .ok (.slice q m d) w := by kernel_rfl
/-- what New leaves of a valid circuit: coils of its own -/
def NewAtC (c : Circuit) (w : World) (e : Ending) (w' : World) : Prop :=
  ∃ bk, e = .returned (.tuple #[.pointer (some ⟨bk, 0, none⟩), .int .i64 0]) ∧ Apart w.heap.size (fun _ => False) w' (fun W => CoilsAt W bk c.relays) ∧ Below w.heap.size w w' ∧ w.heap.size ≤ bk
theorem new_no (c : Circuit) (pi : Option Addr) (ci : Nat) (pr : Option Addr) (cr : Nat) (w : World) (hc : CircAt w pi ci pr cr c) (hv : ¬ c.Valid) :
    Calls Try.prog 32 #[circV pi ci pr cr c] w (Ret (.tuple #[.pointer none, .int .i64 50]) w) := by
  go_enter Try.func32, Try.ntmps32
  go_wp2_with fail
  refine (shapeCheck_ok c pi ci pr cr _ (hc.up (by repeat (first | exact Below.refl _ _ | refine Below.alloc ?_ (by first | omega | (simp; done) | (simp; omega)) _ | refine Below.setCell ?_ (by first | omega | (simp; done) | (simp; omega)) _ | refine Below.drew ?_ | refine Below.drewN ?_ _ | refine Below.via (by assumption) (by first | omega | (simp; done) | (simp; omega)) ?_)))).mono ?_; rintro e w1 ⟨n, rfl, hn, hb1⟩
  have hn0 : (n != 0) = true := by simp; exact fun h => hv (hn.1 h)
  clear hn
  have z_hb1 := hb1.size
  obtain ⟨c_hb1, f_hb1⟩ := bcell hb1
  try simp only [hz_alloc, hz_set, hz_drew] at z_hb1 c_hb1 f_hb1
  go_wp2_with fail
  go_ret2
  exact ⟨rfl, (by repeat (first | exact Below.refl _ _ | refine Below.alloc ?_ (by first | omega | (simp; done) | (simp; omega)) _ | refine Below.setCell ?_ (by first | omega | (simp; done) | (simp; omega)) _ | refine Below.drew ?_ | refine Below.drewN ?_ _ | refine Below.via (by assumption) (by first | omega | (simp; done) | (simp; omega)) ?_))⟩
set_option maxRecDepth 100000 in
theorem new_ok (c : Circuit) (pi : Option Addr) (ci : Nat) (pr : Option Addr) (cr : Nat) (w : World) (hc : CircAt w pi ci pr cr c) (hv : c.Valid) :
    Calls Try.prog 32 #[circV pi ci pr cr c] w (NewAtC c w) := by
  go_enter Try.func32, Try.ntmps32
  go_wp2_with fail
  refine (shapeCheck_ok c pi ci pr cr _ (hc.up (by repeat (first | exact Below.refl _ _ | refine Below.alloc ?_ (by first | omega | (simp; done) | (simp; omega)) _ | refine Below.setCell ?_ (by first | omega | (simp; done) | (simp; omega)) _ | refine Below.drew ?_ | refine Below.drewN ?_ _ | refine Below.via (by assumption) (by first | omega | (simp; done) | (simp; omega)) ?_)))).mono ?_; rintro e w1 ⟨n, rfl, hn, hb1⟩
  obtain rfl : n = 0 := hn.2 hv
  clear hn
  have z_hb1 := hb1.size
  obtain ⟨c_hb1, f_hb1⟩ := bcell hb1
  try simp only [hz_alloc, hz_set, hz_drew] at z_hb1 c_hb1 f_hb1
  have new_ww1_0 : w.heap.size < w1.heap.size := by omega
  go_wp2_with fail
  refine (copy_ok c pi ci pr cr _ (hc.up (by repeat (first | exact Below.refl _ _ | refine Below.alloc ?_ (by first | omega | (simp; done) | (simp; omega)) _ | refine Below.setCell ?_ (by first | omega | (simp; done) | (simp; omega)) _ | refine Below.drew ?_ | refine Below.drewN ?_ _ | refine Below.via (by assumption) (by first | omega | (simp; done) | (simp; omega)) ?_))) hv).mono ?_; rintro e w2 ⟨pi', ci', pr', cr', rfl, hA, hb2⟩
  have HA := Lib.hid hA
  clear hA
  unfold circV
  have hfd := circ_field pi' pr' c.inputs.length c.relays.length ci' cr'
  have z_hb2 := hb2.size
  obtain ⟨c_hb2, f_hb2⟩ := bcell hb2
  try simp only [hz_alloc, hz_set, hz_drew] at z_hb2 c_hb2 f_hb2
  go_wp2_with fail
  go_ret2
  refine ⟨w2.heap.size, rfl, ?_, (by repeat (first | exact Below.refl _ _ | refine Below.alloc ?_ (by first | omega | (simp; done) | (simp; omega)) _ | refine Below.setCell ?_ (by first | omega | (simp; done) | (simp; omega)) _ | refine Below.drew ?_ | refine Below.drewN ?_ _ | refine Below.via (by assumption) (by first | omega | (simp; done) | (simp; omega)) ?_)), by omega⟩
  have h1 := (HA.out.mono (B' := w.heap.size) (by omega)).alloc (.cells #[.slice pr' c.relays.length cr'] 153)
  intro W hs hk
  obtain ⟨_, hR⟩ := h1 W hs hk
  refine ⟨⟨pr', cr', ?_, hR⟩, fun r hr => relayOk_of (hv.fine r hr), hv.rels⟩
  have hh : W.heap[w2.heap.size]? = some (.cells #[.slice pr' c.relays.length cr'] 153 (0, 0)) := by
    rw [hk _ (by omega) (by rw [hz_alloc]; omega) (fun h => h)]
    exact heap_alloc_new _ _
  rw [cell_of_row _ _ _ _ _ _ hh]; rfl
end Go.Proofs.Ytknplnfoekeljaa
