/- armatureref02.Has: the bit by halving. -/
import Derived.Test.YtknplnfoekeljaaWords
namespace Go.Proofs.Ytknplnfoekeljaa
open Go.RowKit
theorem half_step (x k : Nat) : x / 2 ^ k / 2 = x / 2 ^ (k + 1) := by rw [Nat.div_div_eq_div_mul, Nat.pow_succ]
theorem half_le (x k : Nat) (h : x < 2 ^ 64) : x / 2 ^ k < 2 ^ 64 := Nat.lt_of_le_of_lt (Nat.div_le_self _ _) h
def hv (x k : Nat) : Nat := x / 2 ^ k
theorem hv_zero (x : Nat) : hv x 0 = x := by simp [hv]
theorem hv_bit (x : BitVec 64) (n : Nat) : (((hv x.toNat n : Nat) : Int) % 2 == 1) = x.getLsbD n := by
  unfold hv
  rw [BitVec.getLsbD, Nat.testBit_eq_decide_div_mod_eq]
  rw [Bool.eq_iff_iff]
  simp only [beq_iff_eq, decide_eq_true_eq]
  omega
set_option maxHeartbeats 400000 in
theorem refHas_ok (s : BS) (i : Int) (w : World) : Calls Try.prog 35 #[setV s, .int .i64 i] w (Ret (.bool (s.hasI i)) w) := by
  by_cases h0 : i < 0
  · have t0 : decide (i < 0) = true := by simpa using h0
    have hs : s.hasI i = false := by unfold BS.hasI; simp; omega
    go_enter Try.func35, Try.ntmps35
    go_wp2
    go_ret
    try rw [hs]
    exact ⟨rfl, (by repeat (first | exact Below.refl _ _ | refine Below.alloc ?_ (by first | omega | (simp; done) | (simp; omega)) _ | refine Below.setCell ?_ (by first | omega | (simp; done) | (simp; omega)) _ | refine Below.drew ?_ | refine Below.drewN ?_ _ | refine Below.via (by assumption) (by first | omega | (simp; done) | (simp; omega)) ?_))⟩
  have t0 : decide (i < 0) = false := by simpa using h0
  by_cases h1 : 127 < i
  · have t1 : decide (127 < i) = true := by simpa using h1
    have hs : s.hasI i = false := by unfold BS.hasI; rw [BS.has_ge (by omega)]; simp
    go_enter Try.func35, Try.ntmps35
    go_wp2
    go_ret
    try rw [hs]
    exact ⟨rfl, (by repeat (first | exact Below.refl _ _ | refine Below.alloc ?_ (by first | omega | (simp; done) | (simp; omega)) _ | refine Below.setCell ?_ (by first | omega | (simp; done) | (simp; omega)) _ | refine Below.drew ?_ | refine Below.drewN ?_ _ | refine Below.via (by assumption) (by first | omega | (simp; done) | (simp; omega)) ?_))⟩
  have t1 : decide (127 < i) = false := by simpa using h1
  obtain ⟨n, rfl⟩ : ∃ n : Nat, i = n := ⟨i.toNat, by omega⟩
  rw [BS.hasI_nat]
  have hlo := s.lo.isLt
  have hhi := s.hi.isLt
  by_cases h2 : n < 64
  · have t2 : decide ((63 : Int) < (n : Int)) = false := by simp; omega
    have HB : Hid (s.has n = (((hv s.lo.toNat n : Nat) : Int) % 2 == 1)) := by rw [hv_bit]; unfold Hid BS.has; rw [if_pos h2]
    go_enter Try.func35, Try.ntmps35
    go_wp2
    go_loop [5, 1] (fun x i => ∃ k : Nat, k ≤ n ∧ i = .int .i64 ((n - k : Nat) : Int) ∧ x = .int .u64 ((hv s.lo.toNat k : Nat) : Int)) (fun _ i => (intOf i).toNat)
    case atStart => exact ⟨0, Nat.zero_le _, rfl, by rw [hv_zero]⟩
    case round =>
      obtain ⟨k, hk, rfl, rfl⟩ := hrel
      have hb : hv s.lo.toNat k < 18446744073709551616 := half_le _ _ hlo
      have hst : Hid (hv s.lo.toNat (k + 1) = hv s.lo.toNat k / 2) := (half_step _ _).symm
      by_cases hlt : k < n
      · have hn : 0 < n - k := by omega
        go_wp2
        go_round
        case rel => exact ⟨k + 1, by omega, by (try simp); omega, by rw [hst.out]; simp⟩
        case measure => simp [intOf]; omega
      · have hkn : k = n := by omega
        subst hkn
        have hz : k - k = 0 := by omega
        go_wp2
        go_ret
        rw [HB.out]
        exact ⟨rfl, (by repeat (first | exact Below.refl _ _ | refine Below.alloc ?_ (by first | omega | (simp; done) | (simp; omega)) _ | refine Below.setCell ?_ (by first | omega | (simp; done) | (simp; omega)) _ | refine Below.drew ?_ | refine Below.drewN ?_ _ | refine Below.via (by assumption) (by first | omega | (simp; done) | (simp; omega)) ?_))⟩
  · have t2 : decide ((63 : Int) < (n : Int)) = true := by simp; omega
    obtain ⟨m, rfl⟩ : ∃ m, n = m + 64 := ⟨n - 64, by omega⟩
    have HB : Hid (s.has (m + 64) = (((hv s.hi.toNat m : Nat) : Int) % 2 == 1)) := by rw [hv_bit]; unfold Hid BS.has; rw [if_neg (by omega), Nat.add_sub_cancel]
    have e1 : ((m + 64 : Nat) : Int) = (m : Int) + 64 := by omega
    have E1 := Lib.hid e1
    rw [e1] at t0 t1 t2 ⊢
    clear e1
    have t3 : ((m : Int) + 64) - 64 = m := by omega
    go_enter Try.func35, Try.ntmps35
    go_wp2
    go_loop [5, 1] (fun x i => ∃ k : Nat, k ≤ m ∧ i = .int .i64 ((m - k : Nat) : Int) ∧ x = .int .u64 ((hv s.hi.toNat k : Nat) : Int)) (fun _ i => (intOf i).toNat)
    case atStart => exact ⟨0, Nat.zero_le _, by simp, by rw [hv_zero]⟩
    case round =>
      obtain ⟨k, hk, rfl, rfl⟩ := hrel
      have hb : hv s.hi.toNat k < 18446744073709551616 := half_le _ _ hhi
      have hst : Hid (hv s.hi.toNat (k + 1) = hv s.hi.toNat k / 2) := (half_step _ _).symm
      by_cases hlt : k < m
      · have hn : 0 < m - k := by omega
        go_wp2
        go_round
        case rel => exact ⟨k + 1, by omega, by (try simp); omega, by rw [hst.out]; simp⟩
        case measure => simp [intOf]; omega
      · have hkn : k = m := by omega
        subst hkn
        have hz : k - k = 0 := by omega
        go_wp2
        go_ret
        rw [HB.out]
        exact ⟨rfl, (by repeat (first | exact Below.refl _ _ | refine Below.alloc ?_ (by first | omega | (simp; done) | (simp; omega)) _ | refine Below.setCell ?_ (by first | omega | (simp; done) | (simp; omega)) _ | refine Below.drew ?_ | refine Below.drewN ?_ _ | refine Below.via (by assumption) (by first | omega | (simp; done) | (simp; omega)) ?_))⟩
end Go.Proofs.Ytknplnfoekeljaa
