/- What shape.Check needs of lists of texts. -/
import Derived.Test.YtknplnfoekeljaaNames
import Derived.Test.YtknplnfoekeljaaShelf
import Derived.Sort.OwnSorted
import Derived.Lib.OwnBridge
import Derived.Lib.RowBridge
namespace Go.Proofs.Ytknplnfoekeljaa
open Go.RowKit
theorem clone_ok (ss : List ByteArray) (p : Option Addr) (cap : Nat) (w : World) (h : StrsAt w p cap ss) (hl : ss.length ≤ 128) :
    Calls Try.prog 142 #[.slice p ss.length cap] w fun e w' => ∃ v', e = .returned v' ∧ w'.ownsRow w.heap.size 9 1 v' ss.length (ss.map Value.string) ∧ Below w.heap.size w w' := by
  cases p with
  | none =>
    have h0 : ss = [] := by
      cases ss with
      | nil => rfl
      | cons a l => obtain ⟨b, off, hp⟩ := h.at_ 0 (by simp); cases hp
    subst h0
    refine (Try.slices_Clone_string_nil _ cap w).mono ?_
    rintro e w' ⟨rfl, rfl⟩
    exact ⟨_, rfl, World.ownsRow_nil _ _ _ _, Below.refl _ _⟩
  | some a =>
    cases hss : ss with
    | nil =>
      subst hss
      refine (Try.slices_Clone_string_zero a cap w).mono ?_
      rintro e w' ⟨v', rfl, h1, _, h2⟩
      exact ⟨_, rfl, h1, h2⟩
    | cons x l =>
      rw [← hss]
      obtain ⟨b, off, hp⟩ := h.at_ 0 (by rw [hss]; simp)
      injection hp with hp
      subst hp
      refine (Try.slices_Clone_string b off ss.length cap ss w (Nat.le_refl _) (by omega) (fun j hj => ?_)).mono ?_
      · have := h.cell b off rfl j hj
        rw [this]; simp [hj]
      · rintro e w' ⟨v', rfl, h1, _, h2⟩
        rw [List.take_length] at h1
        exact ⟨_, rfl, h1, h2⟩
theorem strsAt_own {w : World} {B n : Nat} {v : Value} {ss : List ByteArray} (h : w.ownsRow B 9 1 v n (ss.map Value.string)) (hs : ∀ s, s ∈ ss → s.size ≤ 9223372036854775807) (hn : n ≤ 9223372036854775807) :
    ∃ p cap, v = .slice p ss.length cap ∧ n = ss.length ∧ StrsAt w p cap ss := by
  have hlen : ss.length = n := by have := h.1; simpa using this
  rcases h.2 with ⟨rfl, h0⟩ | ⟨g, cap, cur, rfl, _, hg, hc, _, hz, ht⟩
  · have : ss = [] := List.length_eq_zero_iff.1 (by omega)
    subst this
    exact ⟨none, 0, rfl, by simpa using h0, ⟨Nat.le_refl _, by simp, fun k hk => by simp at hk, fun _ _ _ k hk => by simp at hk, hs⟩⟩
  · refine ⟨some ⟨g, 0, none⟩, cap, by rw [hlen], hlen.symm, ⟨by omega, by omega, fun _ _ => ⟨g, 0, rfl⟩, fun b off he k hk => ?_, hs⟩⟩
    injection he with he
    injection he with h1 h2 _
    subst h1; subst h2
    rw [Nat.zero_add, cell_of_row w g k _ _ _ hg]
    have hk2 : (cur.toList.take (n * 1))[k]? = some (Value.string ss[k]) := by rw [ht]; simp [hk]
    rw [List.getElem?_take] at hk2
    split at hk2
    · simpa using hk2
    · cases hk2
theorem sort_own {w : World} {B n : Nat} {v : Value} {zs : List (List UInt8)} (h : w.ownsRow B 9 1 v n (zs.map Proofs.encStr)) (hn : n ≤ 1000000) :
    Calls Try.prog 146 #[v] w fun e w' => e = .returned (.tuple #[]) ∧ w'.ownsRow B 9 1 v n ((zs.mergeSort fun x y => decide (x ≤ y)).map Proofs.encStr) ∧ Below B w w' := by
  have hlen : zs.length = n := by have := h.1; simpa using this
  subst hlen
  rcases h.2 with ⟨rfl, h0⟩ | ⟨g, cap, cur, rfl, hB, hg, hc, hm, hz, ht⟩
  · have h1 : zs = [] := by simpa using h0
    subst h1
    refine (Try.slices_Sort_string_none none 0 w).mono ?_
    rintro e w' ⟨rfl, rfl⟩
    exact ⟨rfl, by rw [List.mergeSort_nil]; exact World.ownsRow_nil _ _ _ _, Below.refl _ _⟩
  · have hgl := (Array.getElem?_eq_some_iff.1 hg).1
    refine (Try.slices_Sort_string g 0 cap zs w (holds_of_block hg (by simpa using ht)) hgl (by omega)).mono ?_
    rintro e w' ⟨rfl, nn, os, rfl⟩
    exact ⟨rfl, ownsRow_sorted (by simp) hB hg hc hm hz, (Below.refl _ _).grown (grownBy_sorted _) (by omega) (fun j hj => by cases hj; exact hB)⟩
theorem compact_own {w : World} {B n cap : Nat} {p : Option Addr} {zs : List (List UInt8)} (h : w.ownsRow B 9 1 (.slice p n cap) n (zs.map Proofs.encStr)) (hn : n ≤ 9223372036854775807) :
    Calls Try.prog 147 #[.slice p n cap] w fun e w' => e = .returned (.slice p (Lib.compact zs).length cap) ∧ Below B w w' := by
  have hlen : zs.length = n := by have := h.1; simpa using this
  subst hlen
  rcases h.2 with ⟨hv, h0⟩ | ⟨g, cap', cur, hv, hB, hg, hc, hm, hz, ht⟩
  · have h1 : zs = [] := by simpa using h0
    subst h1
    refine (Try.slices_Compact_string_empty p cap w).mono ?_
    rintro e w' ⟨rfl, rfl⟩
    exact ⟨rfl, Below.refl _ _⟩
  · cases hv
    refine (Try.slices_Compact_string g 0 cap zs w (holds_of_block hg (by simpa using ht)) (by omega) hc).mono ?_
    rintro e w' ⟨rfl, q, rfl⟩
    exact ⟨rfl, Lib.below_putRow (Below.refl _ _) hB⟩
end Go.Proofs.Ytknplnfoekeljaa
