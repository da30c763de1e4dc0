/- armaturelaw15.first. -/
import Derived.Test.YtknplnfoekeljaaSample
import Derived.Test.YtknplnfoekeljaaEval
import Derived.Test.YtknplnfoekeljaaEq
namespace Go.Proofs.Ytknplnfoekeljaa
open Go.RowKit
theorem sample_valid : sampleC.Valid := valid_of (by decide +kernel)
theorem sample_ex (I R : BS) : excited sampleC.relays I R = (if (I.has 0 || (R.has 0 && !I.has 1)) then (if (!I.has 1 && (I.has 0 || R.has 1)) then (BS.empty.ins 0).ins 1 else BS.empty.ins 0) else (if (!I.has 1 && (I.has 0 || R.has 1)) then BS.empty.ins 1 else BS.empty)) := by
  have h0 : coil ⟨⟨#[88]⟩, 2, [oneG 0 false, oneG 1 true]⟩ (R.hasI (0 : Nat)) I R = (I.has 0 || (R.has 0 && !I.has 1)) := by
    simp [coil, gC, oneG, conducts_one, Contact.closed, BS.hasI]
  have h1 : coil ⟨⟨#[83]⟩, 1, [oneG 0 false, oneG 1 false]⟩ (R.hasI (1 : Nat)) I R = (!I.has 1 && (I.has 0 || R.has 1)) := by
    simp [coil, gC, oneG, conducts_one, Contact.closed, BS.hasI]
  show excTo sampleC.relays I R 2 = _
  show (if coil ⟨⟨#[83]⟩, 1, [oneG 0 false, oneG 1 false]⟩ (R.hasI (1 : Nat)) I R then (if coil ⟨⟨#[88]⟩, 2, [oneG 0 false, oneG 1 true]⟩ (R.hasI (0 : Nat)) I R then BS.empty.ins (0 : Nat) else BS.empty).ins (1 : Nat) else (if coil ⟨⟨#[88]⟩, 2, [oneG 0 false, oneG 1 true]⟩ (R.hasI (0 : Nat)) I R then BS.empty.ins (0 : Nat) else BS.empty)) = _
  rw [h0, h1]
  cases (I.has 0 || (R.has 0 && !I.has 1)) <;> cases (!I.has 1 && (I.has 0 || R.has 1)) <;> rfl
theorem sample_e1 : setV (excited sampleC.relays ⟨1#64, 0#64⟩ ⟨0#64, 0#64⟩) = .agg #[.int .u64 3, .int .u64 0] := by rw [sample_ex]; kernel_rfl
theorem sample_e2 : setV (excited sampleC.relays ⟨0#64, 0#64⟩ ⟨3#64, 0#64⟩) = .agg #[.int .u64 3, .int .u64 0] := by rw [sample_ex]; kernel_rfl
theorem sample_e3 : setV (excited sampleC.relays ⟨3#64, 0#64⟩ ⟨2#64, 0#64⟩) = .agg #[.int .u64 1, .int .u64 0] := by rw [sample_ex]; kernel_rfl
set_option maxRecDepth 100000 in
set_option maxHeartbeats 1000000 in
theorem law15first_ok (w : World) : Calls Try.prog 31 #[] w (Ret (.bool true) w) := by
  have q3 : ∀ w, (binOp .eql 24 (.agg #[.int .u64 3, .int .u64 0]) (.agg #[.int .u64 3, .int .u64 0])).run Try.prog w = Result.ok (.bool true) w := fun _ => by kernel_rfl
  have q1 : ∀ w, (binOp .eql 24 (.agg #[.int .u64 1, .int .u64 0]) (.agg #[.int .u64 1, .int .u64 0])).run Try.prog w = Result.ok (.bool true) w := fun _ => by kernel_rfl
  go_enter Try.func31, Try.ntmps31
  go_wp2_with fail
  refine (sample_ok _).mono ?_; rintro e w1 ⟨pi, ci, pr, cr, rfl, hC, hb1⟩
  have z1 := hb1.size
  go_wp2_with fail
  refine (new_ok sampleC pi ci pr cr _ hC sample_valid).mono ?_; rintro e w2 ⟨bk, rfl, hA, hb2, hbk⟩
  have z2 := hb2.size
  have hK := hA.now
  clear hA
  go_wp2_with fail
  refine (count_ok hK).mono ?_; rintro e w' ⟨rfl, rfl⟩
  go_wp2_with fail
  refine (of_ok hK ⟨1#64, 0#64⟩ ⟨0#64, 0#64⟩).mono ?_; rintro e w3 ⟨rfl, hb3⟩
  have z3 := hb3.size
  rw [sample_e1]
  have hK3 := hK.up hb3
  go_wp2_with fail
  refine (of_ok hK3 ⟨0#64, 0#64⟩ ⟨3#64, 0#64⟩).mono ?_; rintro e w4 ⟨rfl, hb4⟩
  have z4 := hb4.size
  rw [sample_e2]
  have hK4 := hK3.up hb4
  go_wp2_with fail
  refine (of_ok hK4 ⟨3#64, 0#64⟩ ⟨2#64, 0#64⟩).mono ?_; rintro e w5 ⟨rfl, hb5⟩
  have z5 := hb5.size
  rw [sample_e3]
  go_wp2_with fail
  go_ret
  exact ⟨rfl, (by repeat (first | exact Below.refl _ _ | refine Below.alloc ?_ (by first | omega | (simp; done) | (simp; omega)) _ | refine Below.setCell ?_ (by first | omega | (simp; done) | (simp; omega)) _ | refine Below.drew ?_ | refine Below.drewN ?_ _ | refine Below.via (by assumption) (by first | omega | (simp; done) | (simp; omega)) ?_))⟩
end Go.Proofs.Ytknplnfoekeljaa
