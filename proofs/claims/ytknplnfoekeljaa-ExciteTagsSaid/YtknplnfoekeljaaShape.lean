/- Contracts of package shape: graphs' number, contacts. -/
import Derived.Test.YtknplnfoekeljaaCirc
namespace Go.Proofs.Ytknplnfoekeljaa
open Go.RowKit
/-- how many graphs a tag has -/
def tagGraphs (t : Int) : Int := if t = 0 then 1 else if t = 1 ∨ t = 2 then 2 else -1
theorem graphs_ok (t : Int) (w : World) : Calls Try.prog 148 #[.int .i64 t] w fun e w' => e = .returned (.int .i64 (tagGraphs t)) ∧ w = w' := by
  by_cases h0 : t = 0
  · subst h0
    go_enter Try.func148, Try.ntmps148
    go_wp2
    go_ret
    exact ⟨rfl, rfl⟩
  · have t0 : (t == 0) = false := by simpa using h0
    by_cases h1 : t = 1
    · subst h1
      go_enter Try.func148, Try.ntmps148
      go_wp2
      go_ret
      exact ⟨rfl, rfl⟩
    · have t1 : (t == 1) = false := by simpa using h1
      by_cases h2 : t = 2
      · subst h2
        go_enter Try.func148, Try.ntmps148
        go_wp2
        go_ret
        exact ⟨rfl, rfl⟩
      · have t2 : (t == 2) = false := by simpa using h2
        have H : Hid (tagGraphs t = -1) := by unfold Hid tagGraphs; rw [if_neg h0, if_neg (by omega)]
        go_enter Try.func148, Try.ntmps148
        go_wp2
        go_ret
        rw [H.out]
        exact ⟨rfl, rfl⟩
theorem wrap64_wrap (x y : Int) : wrap64 (wrap64 x + y) = wrap64 (x + y) := by unfold wrap64; omega
set_option maxHeartbeats 1000000 in
theorem contacts_ok (c : Circuit) (pi : Option Addr) (ci : Nat) (pr : Option Addr) (cr : Nat) (w : World) (hc : CircAt w pi ci pr cr c) :
    Calls Try.prog 141 #[circV pi ci pr cr c] w (Ret (.int .i64 (wrap64 (contactsR c.relays : Int))) w) := by
  obtain ⟨ins, rs⟩ := c
  have hr : RelaysAt w pr cr rs := hc.relays
  have hlen := hr.len
  clear hc
  go_enter Try.func141, Try.ntmps141
  go_wp2
  go_loopw [11, 3] (fun v s wr => ∃ k : Nat, k ≤ rs.length ∧ v = .int .i64 (k : Int) ∧ s = .int .i64 (wrap64 (contactsR (rs.take k) : Int)) ∧ Below w.heap.size w wr) (fun v _ _ => rs.length - (intOf v).toNat)
  case atStart => exact ⟨0, Nat.zero_le _, rfl, by simp [contactsR, wrap64], (by repeat (first | exact Below.refl _ _ | refine Below.alloc ?_ (by first | omega | (simp; done) | (simp; omega)) _ | refine Below.setCell ?_ (by first | omega | (simp; done) | (simp; omega)) _ | refine Below.drew ?_ | refine Below.drewN ?_ _ | refine Below.via (by assumption) (by first | omega | (simp; done) | (simp; omega)) ?_))⟩
  case round =>
    obtain ⟨k, hk, rfl, hs, hB⟩ := hrel
    obtain ⟨wo, rfl⟩ : ∃ wo : World, wo = wr := ⟨_, rfl⟩
    obtain ⟨x, Hx⟩ : ∃ x, Hid (x = wrap64 (contactsR (rs.take k) : Int)) := ⟨_, rfl⟩
    rw [← Hx.out] at hs
    subst hs
    by_cases hlt : k < rs.length
    · obtain ⟨b, off, rfl⟩ := hr.at_ k hlt
      obtain ⟨pg, cg, hg, _, e0, e1, e2⟩ := (hr.up hB).cell b off rfl k hlt
      have HT : Hid (rs.take (k + 1) = rs.take k ++ [rs[k]]) := List.take_succ_eq_append_getElem hlt
      generalize rs[k] = r at *
      obtain ⟨nm, tg, gs⟩ := r
      have hg : GraphsAt wo pg cg gs := hg
      have hgl := hg.len
      have HS : Hid (contactsR (rs.take (k + 1)) = contactsR (rs.take k) + contactsG gs) := by unfold Hid; rw [HT.out, contactsR_snoc]
      go_wp2
      go_loopw [18, 3] (fun v s wi => ∃ j : Nat, j ≤ gs.length ∧ v = .int .i64 (j : Int) ∧ s = .int .i64 (wrap64 (contactsR (rs.take k) + contactsG (gs.take j) : Int)) ∧ Below wo.heap.size wo wi) (fun v _ _ => gs.length - (intOf v).toNat)
      case atStart => exact ⟨0, Nat.zero_le _, rfl, by rw [Hx.out]; simp [contactsG], below_alloc _ _⟩
      case round =>
        obtain ⟨j, hj, rfl, hs, hBi⟩ := hrel
        obtain ⟨y, Hy⟩ : ∃ y, Hid (y = wrap64 (contactsR (rs.take k) + contactsG (gs.take j) : Int)) := ⟨_, rfl⟩
        rw [← Hy.out] at hs
        subst hs
        by_cases hjl : j < gs.length
        · obtain ⟨b2, off2, rfl⟩ := hg.at_ j hjl
          obtain ⟨pe, ce, he, f0, f1⟩ := (hg.up hBi).cell b2 off2 rfl j hjl
          have HJ : Hid (gs.take (j + 1) = gs.take j ++ [gs[j]]) := List.take_succ_eq_append_getElem hjl
          generalize gs[j] = g at *
          obtain ⟨n, es⟩ := g
          have HJ2 : Hid (contactsG (gs.take (j + 1)) = contactsG (gs.take j) + es.length) := by unfold Hid; rw [HJ.out, contactsG_snoc]
          go_wp2
          go_roundw
          case rel => exact ⟨j + 1, by omega, by go_num, by rw [Hy.out, wrap64_wrap, HJ2.out]; congr 2; omega, hBi.trans ((below_alloc _ _).mono hBi.size)⟩
          case measure => simp [intOf]; omega
        · have HJ : Hid (gs.take j = gs) := by
            unfold Hid; rw [show j = gs.length by omega]; exact List.take_length
          go_wp2
          go_roundw
          case rel => exact ⟨k + 1, by omega, by go_num, by rw [Hy.out, HS.out, HJ.out]; congr 2, hB.trans (hBi.mono hB.size)⟩
          case measure => simp [intOf]; omega
    · have HT : Hid (rs.take k = rs) := by
        unfold Hid; rw [show k = rs.length by omega]; exact List.take_length
      go_wp2
      go_ret
      rw [Hx.out, HT.out]
      exact ⟨rfl, hB⟩
end Go.Proofs.Ytknplnfoekeljaa
