/- The contracts of package bits: sets in two words. -/
import Derived.Test.YtknplnfoekeljaaWords
namespace Go.Proofs.Ytknplnfoekeljaa
open Go.RowKit
theorem there_ok (i : Int) (w : World) :
    Calls Try.prog 175 #[.int .i64 i] w fun e w' => e = .returned (.bool (decide (0 ≤ i ∧ i < 128))) ∧ w = w' := by
  by_cases h : 0 ≤ i
  all_goals by_cases h' : i < 128
  all_goals
    go_enter Try.func175, Try.ntmps175
    go_wp2
    go_ret
    simp [h, h']
theorem union_ok (a b : BS) (w : World) : Calls Try.prog 129 #[setV a, setV b] w (Ret (setV (a.union b)) w) := by
  go_enter Try.func129, Try.ntmps129
  go_wp2
  exact bodyPost_ret (v := setV (a.union b)) (by simp [results, Try.results129, go_sem, BS.union, *]) rfl ⟨rfl, (by repeat (first | exact Below.refl _ _ | refine Below.alloc ?_ (by first | omega | (simp; done) | (simp; omega)) _ | refine Below.setCell ?_ (by first | omega | (simp; done) | (simp; omega)) _ | refine Below.drew ?_ | refine Below.drewN ?_ _ | refine Below.via (by assumption) (by first | omega | (simp; done) | (simp; omega)) ?_))⟩
theorem meet_ok (a b : BS) (w : World) : Calls Try.prog 72 #[setV a, setV b] w (Ret (setV (a.meet b)) w) := by
  go_enter Try.func72, Try.ntmps72
  go_wp2
  exact bodyPost_ret (v := setV (a.meet b)) (by simp [results, Try.results72, go_sem, BS.meet, *]) rfl ⟨rfl, (by repeat (first | exact Below.refl _ _ | refine Below.alloc ?_ (by first | omega | (simp; done) | (simp; omega)) _ | refine Below.setCell ?_ (by first | omega | (simp; done) | (simp; omega)) _ | refine Below.drew ?_ | refine Below.drewN ?_ _ | refine Below.via (by assumption) (by first | omega | (simp; done) | (simp; omega)) ?_))⟩
theorem differ_ok (a b : BS) (w : World) : Calls Try.prog 164 #[setV a, setV b] w (Ret (setV (a.differ b)) w) := by
  go_enter Try.func164, Try.ntmps164
  go_wp2
  exact bodyPost_ret (v := setV (a.differ b)) (by simp [results, Try.results164, go_sem, BS.differ, *]) rfl ⟨rfl, (by repeat (first | exact Below.refl _ _ | refine Below.alloc ?_ (by first | omega | (simp; done) | (simp; omega)) _ | refine Below.setCell ?_ (by first | omega | (simp; done) | (simp; omega)) _ | refine Below.drew ?_ | refine Below.drewN ?_ _ | refine Below.via (by assumption) (by first | omega | (simp; done) | (simp; omega)) ?_))⟩
theorem minus_ok (a b : BS) (w : World) : Calls Try.prog 71 #[setV a, setV b] w (Ret (setV (a.minus b)) w) := by
  go_enter Try.func71, Try.ntmps71
  go_wp2
  exact bodyPost_ret (v := setV (a.minus b)) (by simp [results, Try.results71, go_sem, BS.minus, *]) rfl ⟨rfl, (by repeat (first | exact Below.refl _ _ | refine Below.alloc ?_ (by first | omega | (simp; done) | (simp; omega)) _ | refine Below.setCell ?_ (by first | omega | (simp; done) | (simp; omega)) _ | refine Below.drew ?_ | refine Below.drewN ?_ _ | refine Below.via (by assumption) (by first | omega | (simp; done) | (simp; omega)) ?_))⟩
theorem one_ok (i : Int) (w : World) : Calls Try.prog 150 #[.int .i64 i] w (Ret (setV (BS.single i)) w) := by
  by_cases h : 0 ≤ i ∧ i < 128
  · obtain ⟨n, rfl⟩ : ∃ n : Nat, i = n := ⟨i.toNat, by omega⟩
    have hd : decide (0 ≤ (n : Int) ∧ (n : Int) < 128) = true := by simpa using h
    by_cases h2 : n < 64
    · have hz : (n : Int) / 64 = 0 := by omega
      obtain ⟨hs, hh⟩ := single_lo_word n h2
      go_enter Try.func150, Try.ntmps150
      go_wp2_with (go_at_call 175; refine (there_ok _ _).mono ?_; rintro e w' ⟨rfl, rfl⟩)
      exact bodyPost_ret (v := setV (BS.single n)) (by simp [results, Try.results150, go_sem, hh, *]) rfl ⟨rfl, (by repeat (first | exact Below.refl _ _ | refine Below.alloc ?_ (by first | omega | (simp; done) | (simp; omega)) _ | refine Below.setCell ?_ (by first | omega | (simp; done) | (simp; omega)) _ | refine Below.drew ?_ | refine Below.drewN ?_ _ | refine Below.via (by assumption) (by first | omega | (simp; done) | (simp; omega)) ?_))⟩
    · have hz : (n : Int) / 64 = 1 := by omega
      obtain ⟨hs, hh⟩ := single_hi_word n (by omega) (by omega)
      go_enter Try.func150, Try.ntmps150
      go_wp2_with (go_at_call 175; refine (there_ok _ _).mono ?_; rintro e w' ⟨rfl, rfl⟩)
      exact bodyPost_ret (v := setV (BS.single n)) (by simp [results, Try.results150, go_sem, hh, *]) rfl ⟨rfl, (by repeat (first | exact Below.refl _ _ | refine Below.alloc ?_ (by first | omega | (simp; done) | (simp; omega)) _ | refine Below.setCell ?_ (by first | omega | (simp; done) | (simp; omega)) _ | refine Below.drew ?_ | refine Below.drewN ?_ _ | refine Below.via (by assumption) (by first | omega | (simp; done) | (simp; omega)) ?_))⟩
  · have hd : decide (0 ≤ i ∧ i < 128) = false := by simpa using h
    have hs := single_none i h
    go_enter Try.func150, Try.ntmps150
    go_wp2_with (go_at_call 175; refine (there_ok _ _).mono ?_; rintro e w' ⟨rfl, rfl⟩)
    exact bodyPost_ret (v := setV (BS.single i)) (by simp [results, Try.results150, go_sem, hs, BS.empty, *]) rfl ⟨rfl, (by repeat (first | exact Below.refl _ _ | refine Below.alloc ?_ (by first | omega | (simp; done) | (simp; omega)) _ | refine Below.setCell ?_ (by first | omega | (simp; done) | (simp; omega)) _ | refine Below.drew ?_ | refine Below.drewN ?_ _ | refine Below.via (by assumption) (by first | omega | (simp; done) | (simp; omega)) ?_))⟩
theorem with_ok (s : BS) (i : Int) (w : World) : Calls Try.prog 93 #[setV s, .int .i64 i] w (Ret (setV (s.ins i)) w) := by
  go_enter Try.func93, Try.ntmps93
  go_wp2_with fail
  refine wp_region_tail 4 (Up _) (by kernel_rfl) (by kernel_rfl) (Up.drew _) ?_
  dsimp only [List.take, List.drop]
  iterate 4
    refine q_step rfl (fun K hK => ?_)
    apply Exists.intro
    refine ⟨fun w' hC => ?_, ?_⟩
    · have hc := hC.cell
      have hf := hC.frozen
      have hbl := hC.below
      go_simp
      first | rfl | (go_at_call 150; refine (one_ok _ _).mono ?_; rintro e w2 ⟨rfl, h⟩; first | exact ⟨rfl, hC.then h⟩ | (subst h; exact ⟨rfl, hC⟩)) | (go_at_call 129; refine (union_ok _ _ _).mono ?_; rintro e w2 ⟨rfl, h⟩; first | exact ⟨rfl, hC.then h⟩ | (subst h; exact ⟨rfl, hC⟩))
    go_simp
    refine hK _ ?_
    clear hK K
  refine wpQuiet_nil (fun w_1 C_1 => ?_)
  have c_1 := C_1.cell
  have f_1 := C_1.frozen
  have z_1 := C_1.size
  have b_1 := C_1.below
  clear C_1
  try simp only [hz_alloc, hz_set, hz_drew] at z_1 c_1 f_1
  go_wp2
  exact bodyPost_ret (v := setV (s.ins i)) (by simp [results, Try.results93, go_sem, BS.ins, *]) rfl ⟨rfl, (by repeat (first | exact Below.refl _ _ | refine Below.alloc ?_ (by first | omega | (simp; done) | (simp; omega)) _ | refine Below.setCell ?_ (by first | omega | (simp; done) | (simp; omega)) _ | refine Below.drew ?_ | refine Below.drewN ?_ _ | refine Below.via (by assumption) (by first | omega | (simp; done) | (simp; omega)) ?_))⟩
theorem has_ok (s : BS) (i : Int) (w : World) : Calls Try.prog 133 #[setV s, .int .i64 i] w (Ret (.bool (s.hasI i)) w) := by
  by_cases h : 0 ≤ i ∧ i < 128
  · obtain ⟨n, rfl⟩ : ∃ n : Nat, i = n := ⟨i.toNat, by omega⟩
    have hd : decide (0 ≤ (n : Int) ∧ (n : Int) < 128) = true := by simpa using h
    by_cases h2 : n < 64
    · have hz : (n : Int) / 64 = 0 := by omega
      go_enter Try.func133, Try.ntmps133
      go_wp2_with (go_at_call 175; refine (there_ok _ _).mono ?_; rintro e w' ⟨rfl, rfl⟩)
      go_ret
      refine ⟨?_, (by repeat (first | exact Below.refl _ _ | refine Below.alloc ?_ (by first | omega | (simp; done) | (simp; omega)) _ | refine Below.setCell ?_ (by first | omega | (simp; done) | (simp; omega)) _ | refine Below.drew ?_ | refine Below.drewN ?_ _ | refine Below.via (by assumption) (by first | omega | (simp; done) | (simp; omega)) ?_))⟩
      rw [bit_word _ _ (by omega), BS.hasI_nat]; unfold BS.has; rw [if_pos h2, Nat.mod_eq_of_lt h2]; rfl
    · have hz : (n : Int) / 64 = 1 := by omega
      go_enter Try.func133, Try.ntmps133
      go_wp2_with (go_at_call 175; refine (there_ok _ _).mono ?_; rintro e w' ⟨rfl, rfl⟩)
      go_ret
      refine ⟨?_, (by repeat (first | exact Below.refl _ _ | refine Below.alloc ?_ (by first | omega | (simp; done) | (simp; omega)) _ | refine Below.setCell ?_ (by first | omega | (simp; done) | (simp; omega)) _ | refine Below.drew ?_ | refine Below.drewN ?_ _ | refine Below.via (by assumption) (by first | omega | (simp; done) | (simp; omega)) ?_))⟩
      rw [bit_word _ _ (by omega), BS.hasI_nat]; unfold BS.has; rw [if_neg h2, show n % 64 = n - 64 by omega]; rfl
  · have hd : decide (0 ≤ i ∧ i < 128) = false := by simpa using h
    have hs : s.hasI i = false := by
      unfold BS.hasI
      by_cases h0 : 0 ≤ i
      · rw [BS.has_ge (by omega)]; simp
      · simp [h0]
    go_enter Try.func133, Try.ntmps133
    go_wp2_with (go_at_call 175; refine (there_ok _ _).mono ?_; rintro e w' ⟨rfl, rfl⟩)
    go_ret
    rw [hs]
    exact ⟨rfl, (by repeat (first | exact Below.refl _ _ | refine Below.alloc ?_ (by first | omega | (simp; done) | (simp; omega)) _ | refine Below.setCell ?_ (by first | omega | (simp; done) | (simp; omega)) _ | refine Below.drew ?_ | refine Below.drewN ?_ _ | refine Below.via (by assumption) (by first | omega | (simp; done) | (simp; omega)) ?_))⟩
theorem without_ok (s : BS) (i : Int) (w : World) : Calls Try.prog 169 #[setV s, .int .i64 i] w (Ret (setV (s.del i)) w) := by
  go_enter Try.func169, Try.ntmps169
  go_wp2_with fail
  refine wp_region_tail 4 (Up _) (by kernel_rfl) (by kernel_rfl) (Up.drew _) ?_
  dsimp only [List.take, List.drop]
  iterate 4
    refine q_step rfl (fun K hK => ?_)
    apply Exists.intro
    refine ⟨fun w' hC => ?_, ?_⟩
    · have hc := hC.cell
      have hf := hC.frozen
      have hbl := hC.below
      go_simp
      first | rfl | (go_at_call 150; refine (one_ok _ _).mono ?_; rintro e w2 ⟨rfl, h⟩; first | exact ⟨rfl, hC.then h⟩ | (subst h; exact ⟨rfl, hC⟩)) | (go_at_call 71; refine (minus_ok _ _ _).mono ?_; rintro e w2 ⟨rfl, h⟩; first | exact ⟨rfl, hC.then h⟩ | (subst h; exact ⟨rfl, hC⟩))
    go_simp
    refine hK _ ?_
    clear hK K
  refine wpQuiet_nil (fun w_1 C_1 => ?_)
  have c_1 := C_1.cell
  have f_1 := C_1.frozen
  have z_1 := C_1.size
  have b_1 := C_1.below
  clear C_1
  try simp only [hz_alloc, hz_set, hz_drew] at z_1 c_1 f_1
  go_wp2
  exact bodyPost_ret (v := setV (s.del i)) (by simp [results, Try.results169, go_sem, BS.del, *]) rfl ⟨rfl, (by repeat (first | exact Below.refl _ _ | refine Below.alloc ?_ (by first | omega | (simp; done) | (simp; omega)) _ | refine Below.setCell ?_ (by first | omega | (simp; done) | (simp; omega)) _ | refine Below.drew ?_ | refine Below.drewN ?_ _ | refine Below.via (by assumption) (by first | omega | (simp; done) | (simp; omega)) ?_))⟩
theorem flip_ok (s : BS) (i : Int) (w : World) : Calls Try.prog 162 #[setV s, .int .i64 i] w (Ret (setV (s.flip i)) w) := by
  go_enter Try.func162, Try.ntmps162
  go_wp2_with fail
  refine wp_region_tail 4 (Up _) (by kernel_rfl) (by kernel_rfl) (Up.drew _) ?_
  dsimp only [List.take, List.drop]
  iterate 4
    refine q_step rfl (fun K hK => ?_)
    apply Exists.intro
    refine ⟨fun w' hC => ?_, ?_⟩
    · have hc := hC.cell
      have hf := hC.frozen
      have hbl := hC.below
      go_simp
      first | rfl | (go_at_call 150; refine (one_ok _ _).mono ?_; rintro e w2 ⟨rfl, h⟩; first | exact ⟨rfl, hC.then h⟩ | (subst h; exact ⟨rfl, hC⟩)) | (go_at_call 164; refine (differ_ok _ _ _).mono ?_; rintro e w2 ⟨rfl, h⟩; first | exact ⟨rfl, hC.then h⟩ | (subst h; exact ⟨rfl, hC⟩))
    go_simp
    refine hK _ ?_
    clear hK K
  refine wpQuiet_nil (fun w_1 C_1 => ?_)
  have c_1 := C_1.cell
  have f_1 := C_1.frozen
  have z_1 := C_1.size
  have b_1 := C_1.below
  clear C_1
  try simp only [hz_alloc, hz_set, hz_drew] at z_1 c_1 f_1
  go_wp2
  exact bodyPost_ret (v := setV (s.flip i)) (by simp [results, Try.results162, go_sem, BS.flip, *]) rfl ⟨rfl, (by repeat (first | exact Below.refl _ _ | refine Below.alloc ?_ (by first | omega | (simp; done) | (simp; omega)) _ | refine Below.setCell ?_ (by first | omega | (simp; done) | (simp; omega)) _ | refine Below.drew ?_ | refine Below.drewN ?_ _ | refine Below.via (by assumption) (by first | omega | (simp; done) | (simp; omega)) ?_))⟩
end Go.Proofs.Ytknplnfoekeljaa
