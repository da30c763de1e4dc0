/- Names: letters, keywords. -/
import Derived.Test.YtknplnfoekeljaaWords
namespace Go.Proofs.Ytknplnfoekeljaa
open Go.RowKit
def isLetter (n : Nat) : Bool := n == 95 || (97 ≤ n && n ≤ 122) || (65 ≤ n && n ≤ 90)
def isInName (n : Nat) : Bool := isLetter n || (48 ≤ n && n ≤ 57)
theorem letter_bits : ∀ n, n < 256 → isLetter n = (n == 95 || (97 ≤ (n ||| 32) && (n ||| 32) ≤ 122)) := by decide +kernel
theorem letter_ok (n : Nat) (h : n < 256) (w : World) : Calls Try.prog 190 #[.int .u8 (n : Int)] w fun e w' => e = .returned (.bool (isLetter n)) ∧ w = w' := by
  have hb : bits .or .u8 (n : Int) 32 = ((n ||| 32 : Nat) : Int) := u8_or_nat n 32 h (by decide)
  have HL := Lib.hid (letter_bits n h)
  obtain ⟨m, Hm⟩ : ∃ m, Hid (m = n ||| 32) := ⟨_, rfl⟩
  rw [← Hm.out] at hb
  by_cases h1 : n = 95
  · have t1 : ((n : Int) == 95) = true := by simp; omega
    have HR : Hid (isLetter n = true) := by unfold Hid; rw [HL.out]; simp [h1]
    clear h1
    go_enter Try.func190, Try.ntmps190
    go_wp2
    go_ret
    rw [HR.out]; exact ⟨rfl, rfl⟩
  · have t1 : ((n : Int) == 95) = false := by simp; omega
    have HR : Hid (isLetter n = (decide (97 ≤ m) && decide (m ≤ 122))) := by unfold Hid; rw [HL.out, ← Hm.out]; simp [h1]
    clear h1
    by_cases h2 : 97 ≤ m
    · have t2 : decide (97 ≤ (m : Int)) = true := by simp; omega
      by_cases h3 : m ≤ 122
      · have t3 : decide ((m : Int) ≤ 122) = true := by simp; omega
        have HR2 : Hid (isLetter n = true) := by unfold Hid; rw [HR.out]; simp [h2, h3]
        go_enter Try.func190, Try.ntmps190
        go_wp2
        go_ret
        rw [HR2.out]; exact ⟨rfl, rfl⟩
      · have t3 : decide ((m : Int) ≤ 122) = false := by simp; omega
        have HR2 : Hid (isLetter n = false) := by unfold Hid; rw [HR.out]; simp [h3]
        go_enter Try.func190, Try.ntmps190
        go_wp2
        go_ret
        rw [HR2.out]; exact ⟨rfl, rfl⟩
    · have t2 : decide (97 ≤ (m : Int)) = false := by simp; omega
      have HR2 : Hid (isLetter n = false) := by unfold Hid; rw [HR.out]; simp [h2]
      go_enter Try.func190, Try.ntmps190
      go_wp2
      go_ret
      rw [HR2.out]; exact ⟨rfl, rfl⟩
theorem inName_ok (n : Nat) (h : n < 256) (w : World) : Calls Try.prog 192 #[.int .u8 (n : Int)] w fun e w' => e = .returned (.bool (isInName n)) ∧ w = w' := by
  have HD : Hid (isInName n = (isLetter n || (48 ≤ n && n ≤ 57))) := rfl
  cases hl : isLetter n
  · have HD2 : Hid (isInName n = (decide (48 ≤ n) && decide (n ≤ 57))) := by unfold Hid; rw [HD.out, hl]; simp
    have Hl := Lib.hid hl
    clear hl
    by_cases h2 : 48 ≤ n
    · have t2 : decide (48 ≤ (n : Int)) = true := by simp; omega
      by_cases h3 : n ≤ 57
      · have t3 : decide ((n : Int) ≤ 57) = true := by simp; omega
        have HR2 : Hid (isInName n = true) := by unfold Hid; rw [HD2.out]; simp [h2, h3]
        go_enter Try.func192, Try.ntmps192
        go_wp2_with (go_at_call 190; refine (letter_ok n h _).mono ?_; rintro e w' ⟨rfl, rfl⟩; rw [Hl.out])
        go_ret
        rw [HR2.out]; exact ⟨rfl, rfl⟩
      · have t3 : decide ((n : Int) ≤ 57) = false := by simp; omega
        have HR2 : Hid (isInName n = false) := by unfold Hid; rw [HD2.out]; simp [h3]
        go_enter Try.func192, Try.ntmps192
        go_wp2_with (go_at_call 190; refine (letter_ok n h _).mono ?_; rintro e w' ⟨rfl, rfl⟩; rw [Hl.out])
        go_ret
        rw [HR2.out]; exact ⟨rfl, rfl⟩
    · have t2 : decide (48 ≤ (n : Int)) = false := by simp; omega
      have HR2 : Hid (isInName n = false) := by unfold Hid; rw [HD2.out]; simp [h2]
      go_enter Try.func192, Try.ntmps192
      go_wp2_with (go_at_call 190; refine (letter_ok n h _).mono ?_; rintro e w' ⟨rfl, rfl⟩; rw [Hl.out])
      go_ret
      rw [HR2.out]; exact ⟨rfl, rfl⟩
  · have HR : Hid (isInName n = true) := by unfold Hid; rw [HD.out, hl]; rfl
    have Hl := Lib.hid hl
    clear hl
    go_enter Try.func192, Try.ntmps192
    go_wp2_with (go_at_call 190; refine (letter_ok n h _).mono ?_; rintro e w' ⟨rfl, rfl⟩; rw [Hl.out])
    go_ret
    rw [HR.out]; exact ⟨rfl, rfl⟩
def isKeyword (l : List UInt8) : Bool := l == [105, 110, 112, 117, 116] || l == [114, 101, 108, 97, 121] || l == [108, 97, 116, 99, 104] || l == [104, 111, 108, 100] || l == [115, 101, 116] || l == [114, 101, 115, 101, 116] || l == [112, 105, 99, 107]
theorem keyword_ok (s : ByteArray) (w : World) : Calls Try.prog 191 #[.string s] w fun e w' => e = .returned (.bool (isKeyword s.toList)) ∧ w = w' := by
  by_cases g0 : s.toList = [105, 110, 112, 117, 116]
  · have k0 : (s.toList == [105, 110, 112, 117, 116]) = true := by rw [g0]; rfl
    have HR : Hid (isKeyword s.toList = true) := by unfold Hid isKeyword; rw [g0]; rfl
    clear g0
    go_enter Try.func191, Try.ntmps191
    go_wp2
    go_ret
    rw [HR.out]; exact ⟨rfl, rfl⟩
  have k0 : (s.toList == [105, 110, 112, 117, 116]) = false := by simpa using g0
  by_cases g1 : s.toList = [114, 101, 108, 97, 121]
  · have k1 : (s.toList == [114, 101, 108, 97, 121]) = true := by rw [g1]; rfl
    have HR : Hid (isKeyword s.toList = true) := by unfold Hid isKeyword; rw [g1]; rfl
    clear g1
    go_enter Try.func191, Try.ntmps191
    go_wp2
    go_ret
    rw [HR.out]; exact ⟨rfl, rfl⟩
  have k1 : (s.toList == [114, 101, 108, 97, 121]) = false := by simpa using g1
  by_cases g2 : s.toList = [108, 97, 116, 99, 104]
  · have k2 : (s.toList == [108, 97, 116, 99, 104]) = true := by rw [g2]; rfl
    have HR : Hid (isKeyword s.toList = true) := by unfold Hid isKeyword; rw [g2]; rfl
    clear g2
    go_enter Try.func191, Try.ntmps191
    go_wp2
    go_ret
    rw [HR.out]; exact ⟨rfl, rfl⟩
  have k2 : (s.toList == [108, 97, 116, 99, 104]) = false := by simpa using g2
  by_cases g3 : s.toList = [104, 111, 108, 100]
  · have k3 : (s.toList == [104, 111, 108, 100]) = true := by rw [g3]; rfl
    have HR : Hid (isKeyword s.toList = true) := by unfold Hid isKeyword; rw [g3]; rfl
    clear g3
    go_enter Try.func191, Try.ntmps191
    go_wp2
    go_ret
    rw [HR.out]; exact ⟨rfl, rfl⟩
  have k3 : (s.toList == [104, 111, 108, 100]) = false := by simpa using g3
  by_cases g4 : s.toList = [115, 101, 116]
  · have k4 : (s.toList == [115, 101, 116]) = true := by rw [g4]; rfl
    have HR : Hid (isKeyword s.toList = true) := by unfold Hid isKeyword; rw [g4]; rfl
    clear g4
    go_enter Try.func191, Try.ntmps191
    go_wp2
    go_ret
    rw [HR.out]; exact ⟨rfl, rfl⟩
  have k4 : (s.toList == [115, 101, 116]) = false := by simpa using g4
  by_cases g5 : s.toList = [114, 101, 115, 101, 116]
  · have k5 : (s.toList == [114, 101, 115, 101, 116]) = true := by rw [g5]; rfl
    have HR : Hid (isKeyword s.toList = true) := by unfold Hid isKeyword; rw [g5]; rfl
    clear g5
    go_enter Try.func191, Try.ntmps191
    go_wp2
    go_ret
    rw [HR.out]; exact ⟨rfl, rfl⟩
  have k5 : (s.toList == [114, 101, 115, 101, 116]) = false := by simpa using g5
  by_cases g6 : s.toList = [112, 105, 99, 107]
  · have k6 : (s.toList == [112, 105, 99, 107]) = true := by rw [g6]; rfl
    have HR : Hid (isKeyword s.toList = true) := by unfold Hid isKeyword; rw [g6]; rfl
    clear g6
    go_enter Try.func191, Try.ntmps191
    go_wp2
    go_ret
    rw [HR.out]; exact ⟨rfl, rfl⟩
  have k6 : (s.toList == [112, 105, 99, 107]) = false := by simpa using g6
  have HR : Hid (isKeyword s.toList = false) := by unfold Hid isKeyword; simp only [k0, k1, k2, k3, k4, k5, k6]; rfl
  clear g0 g1 g2 g3 g4 g5 g6
  go_enter Try.func191, Try.ntmps191
  go_wp2
  go_ret
  rw [HR.out]; exact ⟨rfl, rfl⟩
/-- which texts are names -/
def nameOk (s : ByteArray) : Prop := s.size ≠ 0 ∧ s.size ≤ 32 ∧ isKeyword s.toList = false ∧ (∀ h : 0 < s.size, isLetter s[0].toNat = true) ∧ ∀ i (h : i < s.size), isInName s[i].toNat = true
open Classical in
noncomputable def nameB (s : ByteArray) : Bool := decide (nameOk s)
theorem nameB_yes {s : ByteArray} (h : nameOk s) : nameB s = true := by unfold nameB; simp [h]
theorem nameB_no {s : ByteArray} (h : ¬ nameOk s) : nameB s = false := by unfold nameB; simp [h]
set_option maxHeartbeats 1000000 in
theorem name_ok (s : ByteArray) (w : World) : Calls Try.prog 145 #[.string s] w fun e w' => e = .returned (.bool (nameB s)) ∧ w = w' := by
  by_cases h0 : s.size = 0
  · have t0 : ((s.size : Int) == 0) = true := by simp [h0]
    have HR : Hid (nameB s = false) := nameB_no fun h => h.1 h0
    have H0 := Lib.hid h0
    clear h0
    go_enter Try.func145, Try.ntmps145
    go_wp2
    go_ret
    rw [HR.out]; exact ⟨rfl, rfl⟩
  · have t0 : ((s.size : Int) == 0) = false := beq_eq_false_iff_ne.2 (by omega)
    by_cases h1 : s.size ≤ 32
    · have t1 : decide (32 < (s.size : Int)) = false := by simp; omega
      have h0' : 0 < s.size := by omega
      have hlt := UInt8.toNat_lt s[0]
      cases hl : isLetter s[0].toNat
      · have HR : Hid (nameB s = false) := nameB_no fun h => by rw [h.2.2.2.1 h0'] at hl; cases hl
        have Hl := Lib.hid hl
        clear hl h0
        go_enter Try.func145, Try.ntmps145
        go_wp2_with (go_at_call 190; refine (letter_ok _ hlt _).mono ?_; rintro e w' ⟨rfl, rfl⟩; rw [Hl.out])
        go_ret
        rw [HR.out]; exact ⟨rfl, rfl⟩
      · have Hl := Lib.hid hl
        clear hl h0
        cases hk : isKeyword s.toList
        · have Hk := Lib.hid hk
          clear hk
          go_enter Try.func145, Try.ntmps145
          go_wp2_with (first | (go_at_call 190; refine (letter_ok _ hlt _).mono ?_; rintro e w' ⟨rfl, rfl⟩; rw [Hl.out]) | (go_at_call 191; refine (keyword_ok s _).mono ?_; rintro e w' ⟨rfl, rfl⟩; rw [Hk.out]))
          go_loop [24] (fun v => ∃ k : Nat, k ≤ s.size ∧ v = .int .i64 (k : Int) ∧ ∀ i (h : i < s.size), i < k → isInName s[i].toNat = true) (fun v => s.size - (intOf v).toNat)
          case atStart => exact ⟨0, Nat.zero_le _, rfl, fun i _ h => absurd h (Nat.not_lt_zero _)⟩
          case round =>
            obtain ⟨k, hk, rfl, hall⟩ := hrel
            have HA := Lib.hid hall
            clear hall
            by_cases hkl : k < s.size
            · have hlt2 := UInt8.toNat_lt s[k]
              cases hn : isInName s[k].toNat
              · have HR : Hid (nameB s = false) := nameB_no fun h => by rw [h.2.2.2.2 k hkl] at hn; cases hn
                have Hn := Lib.hid hn
                clear hn
                go_wp2_with (go_at_call 192; refine (inName_ok _ hlt2 _).mono ?_; rintro e w' ⟨rfl, rfl⟩; rw [Hn.out])
                go_ret
                rw [HR.out]; exact ⟨rfl, rfl⟩
              · have HN : Hid (∀ i (h : i < s.size), i < k + 1 → isInName s[i].toNat = true) := fun i h hi => by
                  by_cases hik : i < k
                  · exact HA.out i h hik
                  · obtain rfl : i = k := by omega
                    exact hn
                have Hn := Lib.hid hn
                clear hn
                go_wp2_with (go_at_call 192; refine (inName_ok _ hlt2 _).mono ?_; rintro e w' ⟨rfl, rfl⟩; rw [Hn.out])
                go_round
                case rel => exact ⟨k + 1, by omega, by go_num, HN.out⟩
                case measure => simp [intOf]; omega
            · have HR : Hid (nameB s = true) := nameB_yes ⟨by omega, h1, Hk.out, fun _ => Hl.out, fun i h => HA.out i h (by omega)⟩
              go_wp2
              go_ret
              rw [HR.out]; exact ⟨rfl, rfl⟩
        · have HR : Hid (nameB s = false) := nameB_no fun h => by rw [h.2.2.1] at hk; cases hk
          have Hk := Lib.hid hk
          clear hk
          go_enter Try.func145, Try.ntmps145
          go_wp2_with (first | (go_at_call 190; refine (letter_ok _ hlt _).mono ?_; rintro e w' ⟨rfl, rfl⟩; rw [Hl.out]) | (go_at_call 191; refine (keyword_ok s _).mono ?_; rintro e w' ⟨rfl, rfl⟩; rw [Hk.out]))
          go_ret
          rw [HR.out]; exact ⟨rfl, rfl⟩
    · have t1 : decide (32 < (s.size : Int)) = true := by simp; omega
      have HR : Hid (nameB s = false) := nameB_no fun h => h1 h.2.1
      clear h0 h1
      go_enter Try.func145, Try.ntmps145
      go_wp2
      go_ret
      rw [HR.out]; exact ⟨rfl, rfl⟩
end Go.Proofs.Ytknplnfoekeljaa
