/- Are all texts of a list names? slices.ContainsFunc, as shape.Check uses it. -/
import Derived.Test.YtknplnfoekeljaaCirc
import Derived.Test.YtknplnfoekeljaaLex
namespace Go.Proofs.Ytknplnfoekeljaa
open Go.RowKit
theorem notName_ok (s : ByteArray) (w : World) : Calls Try.prog 144 #[.string s] w fun e w' => e = .returned (.bool (!nameB s)) ∧ w = w' := by
  go_enter Try.func144, Try.ntmps144
  go_wp2_with (go_at_call 145; refine (name_ok s _).mono ?_; rintro e w' ⟨rfl, rfl⟩)
  go_ret
  exact ⟨rfl, rfl⟩
/-- is there one that is no name? -/
noncomputable def anyBad (ss : List ByteArray) : Bool := ss.any fun s => !nameB s
noncomputable def badAt (ss : List ByteArray) : Int := if anyBad ss then 0 else -1
theorem indexFunc_ok (ss : List ByteArray) (p : Option Addr) (cap : Nat) (w : World) (h : StrsAt w p cap ss) :
    Calls Try.prog 189 #[.slice p ss.length cap, .func (.func 144) #[] #[]] w fun e w' => ∃ i : Int, e = .returned (.int .i64 i) ∧ decide (0 ≤ i) = anyBad ss ∧ w = w' := by
  have hl := h.len
  go_enter Try.func189, Try.ntmps189
  go_wp2
  go_loop [8] (fun v => ∃ k : Nat, k ≤ ss.length ∧ v = .int .i64 (k : Int) ∧ anyBad (ss.take k) = false) (fun v => ss.length - (intOf v).toNat)
  case atStart => exact ⟨0, Nat.zero_le _, rfl, rfl⟩
  case round =>
    obtain ⟨k, hk, rfl, hA⟩ := hrel
    have HA := Lib.hid hA
    clear hA
    by_cases hlt : k < ss.length
    · obtain ⟨b, off, rfl⟩ := h.at_ k hlt
      have e0 := h.cell b off rfl k hlt
      have HT : Hid (ss.take (k + 1) = ss.take k ++ [ss[k]]) := List.take_succ_eq_append_getElem hlt
      have HM : Hid (ss[k] ∈ ss) := List.getElem_mem hlt
      generalize ss[k] = s at *
      cases hn : nameB s
      · have HR : Hid (anyBad ss = true) := by
          unfold Hid anyBad; rw [List.any_eq_true]; exact ⟨s, HM.out, by rw [hn]; rfl⟩
        have Hn := Lib.hid hn
        clear hn
        go_wp2_with (go_at_call 144; refine (notName_ok s _).mono ?_; rintro e w' ⟨rfl, rfl⟩; rw [Hn.out])
        go_ret
        exact ⟨k, rfl, by rw [HR.out]; simp, rfl⟩
      · have HN : Hid (anyBad (ss.take (k + 1)) = false) := by
          unfold Hid; rw [HT.out]; have := HA.out; unfold anyBad at this ⊢; rw [List.any_append, this]; simp [hn]
        have Hn := Lib.hid hn
        clear hn
        go_wp2_with (go_at_call 144; refine (notName_ok s _).mono ?_; rintro e w' ⟨rfl, rfl⟩; rw [Hn.out])
        go_round
        case rel => exact ⟨k + 1, by omega, by go_num, HN.out⟩
        case measure => simp [intOf]; omega
    · have HR : Hid (anyBad ss = false) := by
        have := HA.out
        rw [show k = ss.length by omega, List.take_length] at this; exact this
      go_wp2
      go_ret
      exact ⟨-1, rfl, by rw [HR.out]; decide, rfl⟩
theorem containsFunc_ok (ss : List ByteArray) (p : Option Addr) (cap : Nat) (w : World) (h : StrsAt w p cap ss) :
    Calls Try.prog 143 #[.slice p ss.length cap, .func (.func 144) #[] #[]] w fun e w' => e = .returned (.bool (anyBad ss)) ∧ w = w' := by
  go_enter Try.func143, Try.ntmps143
  go_wp2_with fail
  refine (indexFunc_ok ss p cap _ h).mono ?_; rintro e w' ⟨i, rfl, hi, rfl⟩
  have Hi := Lib.hid hi
  clear hi
  go_wp2_with fail
  go_ret
  exact ⟨by rw [← Hi.out]; rfl, rfl⟩
end Go.Proofs.Ytknplnfoekeljaa
