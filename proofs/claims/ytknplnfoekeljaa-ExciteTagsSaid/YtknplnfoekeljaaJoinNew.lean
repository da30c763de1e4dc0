/- The contract of join.New. -/
import Derived.Test.YtknplnfoekeljaaJoin
namespace Go.Proofs.Ytknplnfoekeljaa
open Go.RowKit
theorem run_make_nat (n : Nat) (h : n ≤ 100000) (w : World) : (Instr.makeSlice 101 (.int .i64 (n : Int)) (.int .i64 (n : Int))).run Try.prog w = .ok (.slice (some ⟨w.heap.size, 0, none⟩) n n) (w.alloc (.cells (natsV (List.replicate n 0)) 3)) := by
  obtain ⟨i0, hi, hz0, hz1, hz2⟩ := info_parts Try.infoInt
  rw [run_makeSlice w 101 3 i0 (.int .i64 0) Try.underlying101 hi hz0 .i64 .i64 n n (by omega) (by omega) (by rw [hz1]; omega) (by rw [hz2]; omega) (by omega)]
  have e : madeCells (Value.int .i64 0).cells ((n : Int).toNat * i0.size) = natsV (List.replicate n 0) := by
    rw [hz1]
    apply Array.ext
    · simp [natsV, madeCells]
    · intro j h1 h2
      simp [natsV, madeCells, natV, Value.cells, Nat.mod_one]
  rw [e, Int.toNat_natCast]
/-- what New leaves -/
def JoinNew (w : World) (n : Nat) (e : Ending) (w' : World) : Prop :=
  ∃ bj bu bs D, e = .returned (.tuple #[.pointer (some ⟨bj, 0, none⟩), .int .i64 0]) ∧ JoinIn w' w.heap.size bj bu bs D (.slice none 0 0) [] n (List.range n) (List.replicate n 1) ∧ Below w.heap.size w w'
structure NewAt (wr w : World) (n k bu bs : Nat) : Prop where
  hj : wr.heap[w.heap.size + 2]? = some (.cells #[.slice (some ⟨bu, 0, none⟩) n n, .slice (some ⟨bs, 0, none⟩) n n, .slice none 0 0] 248 (0, 0))
  hu : wr.heap[bu]? = some (.cells (natsV (List.range k ++ List.replicate (n - k) 0)) 3 (0, 0))
  hs : wr.heap[bs]? = some (.cells (natsV (List.replicate k 1 ++ List.replicate (n - k) 0)) 3 (0, 0))
  ne : (bu = w.heap.size ∧ bs = w.heap.size + 1) ∨ (bu = w.heap.size + 1 ∧ bs = w.heap.size)
  below : Below w.heap.size w wr
namespace NewAt
variable {wr w : World} {n k bu bs : Nat}
theorem c0 (h : NewAt wr w n k bu bs) : wr.cell? ⟨w.heap.size + 2, 0, none⟩ = some (.slice (some ⟨bu, 0, none⟩) n n) := by rw [cell_of_row wr _ 0 _ _ _ h.hj]; rfl
theorem c1 (h : NewAt wr w n k bu bs) : wr.cell? ⟨w.heap.size + 2, 1, none⟩ = some (.slice (some ⟨bs, 0, none⟩) n n) := by rw [cell_of_row wr _ 1 _ _ _ h.hj]; rfl
theorem fu (h : NewAt wr w n k bu bs) : ∀ j, wr.frozen? ⟨bu, j, none⟩ = false := fun j => frozen_of_row wr bu j _ _ h.hu
theorem fs (h : NewAt wr w n k bu bs) : ∀ j, wr.frozen? ⟨bs, j, none⟩ = false := fun j => frozen_of_row wr bs j _ _ h.hs
theorem cu (h : NewAt wr w n k bu bs) (hk : k < n) : wr.cell? ⟨bu, k, none⟩ = some (.int .i64 0) := by
  rw [cell_of_row wr bu k _ _ _ h.hu]; simp [natsV, natV, show 0 < n - k by omega]
theorem cs (h : NewAt wr w n k bu bs) (hk : k < n) : wr.cell? ⟨bs, k, none⟩ = some (.int .i64 0) := by
  rw [cell_of_row wr bs k _ _ _ h.hs]; simp [natsV, natV, show 0 < n - k by omega]
theorem set_fill (l : List Nat) (n k x : Nat) (hl : l.length = k) (hk : k < n) : (l ++ List.replicate (n - k) 0).set k x = (l ++ [x]) ++ List.replicate (n - (k + 1)) 0 := by
  subst hl
  rw [List.set_append_right _ _ (Nat.le_refl _), Nat.sub_self, show n - l.length = (n - (l.length + 1)) + 1 by omega, List.replicate_succ, List.set_cons_zero, List.append_assoc]; rfl
theorem next (h : NewAt wr w n k bu bs) (hk : k < n) {w' : World}
    (hw : w'.heap = ((wr.setCell ⟨bu, k, none⟩ (natV k)).setCell ⟨bs, k, none⟩ (natV 1)).heap ∨ w'.heap = ((wr.setCell ⟨bs, k, none⟩ (natV 1)).setCell ⟨bu, k, none⟩ (natV k)).heap) (hb : Below w.heap.size w w') : NewAt w' w n (k + 1) bu bs := by
  have n1 : bu ≠ bs := by rcases h.ne with ⟨a, b⟩ | ⟨a, b⟩ <;> omega
  have n2 : w.heap.size + 2 ≠ bu := by rcases h.ne with ⟨a, b⟩ | ⟨a, b⟩ <;> omega
  have n3 : w.heap.size + 2 ≠ bs := by rcases h.ne with ⟨a, b⟩ | ⟨a, b⟩ <;> omega
  have e1 : natsV (List.range (k + 1) ++ List.replicate (n - (k + 1)) 0) = (natsV (List.range k ++ List.replicate (n - k) 0)).setIfInBounds k (natV k) := by
    rw [natsV_set, set_fill _ n k k (by simp) hk, List.range_succ]
  have e2 : natsV (List.replicate (k + 1) 1 ++ List.replicate (n - (k + 1)) 0) = (natsV (List.replicate k 1 ++ List.replicate (n - k) 0)).setIfInBounds k (natV 1) := by
    rw [natsV_set, set_fill _ n k 1 (by simp) hk, List.replicate_succ']
  refine ⟨?_, ?_, ?_, h.ne, hb⟩
  · rcases hw with hw | hw <;> rw [hw]
    · rw [heap_set_ne n3, heap_set_ne n2]; exact h.hj
    · rw [heap_set_ne n2, heap_set_ne n3]; exact h.hj
  · rw [e1]
    rcases hw with hw | hw <;> rw [hw]
    · rw [heap_set_ne n1]; exact heap_set_same h.hu
    · exact heap_set_same (by rw [heap_set_ne n1]; exact h.hu)
  · rw [e2]
    rcases hw with hw | hw <;> rw [hw]
    · exact heap_set_same (by rw [heap_set_ne (Ne.symm n1)]; exact h.hs)
    · rw [heap_set_ne (Ne.symm n1)]; exact heap_set_same h.hs
theorem start {wr w : World} {n bu bs : Nat} (hj : wr.heap[w.heap.size + 2]? = some (.cells #[.slice (some ⟨bu, 0, none⟩) n n, .slice (some ⟨bs, 0, none⟩) n n, .slice none 0 0] 248 (0, 0)))
    (hu : wr.heap[bu]? = some (.cells (natsV (List.replicate n 0)) 3 (0, 0))) (hs : wr.heap[bs]? = some (.cells (natsV (List.replicate n 0)) 3 (0, 0)))
    (ne : (bu = w.heap.size ∧ bs = w.heap.size + 1) ∨ (bu = w.heap.size + 1 ∧ bs = w.heap.size)) (below : Below w.heap.size w wr) : NewAt wr w n 0 bu bs := ⟨hj, hu, hs, ne, below⟩
theorem out (h : NewAt wr w n k bu bs) (hk : k = n) (hn : n ≤ 256) : JoinNew w n (.returned (.tuple #[.pointer (some ⟨w.heap.size + 2, 0, none⟩), .int .i64 0])) wr := by
  subst hk
  have h1 : w.heap.size + 2 < wr.heap.size := (Array.getElem?_eq_some_iff.1 h.hj).1
  refine ⟨w.heap.size + 2, bu, bs, w.heap.size + 3, rfl, ⟨Fo.Ok.new k, h.hj, ?_, ?_, World.ownsRow_nil _ _ _ _, ?_, ?_, hn⟩, h.below⟩
  · have := h.hu; simpa using this
  · have := h.hs; simpa using this
  · rcases h.ne with ⟨a, b⟩ | ⟨a, b⟩ <;> omega
  · rcases h.ne with ⟨a, b⟩ | ⟨a, b⟩ <;> omega
end NewAt
set_option maxRecDepth 100000 in
set_option maxHeartbeats 1000000 in
theorem joinNew_ok (n : Nat) (hn : n ≤ 256) (w : World) : Calls Try.prog 151 #[.int .i64 (n : Int)] w (JoinNew w n) := by
  have hmk := run_make_nat n (by omega)
  go_enter Try.func151, Try.ntmps151
  go_wp2_with fail
  go_region
  · go_wp2
    go_loopw [19] (fun v wr => ∃ k : Nat, k ≤ n ∧ v = .int .i64 (k : Int) ∧ NewAt wr w n k (w.heap.size) (w.heap.size + 1)) (fun v _ => n - (intOf v).toNat)
    case atStart => exact ⟨0, Nat.zero_le _, rfl, NewAt.start (by simp only [hget_alloc, hget_drew, hz_alloc, hz_drew]; repeat (first | rfl | rw [if_pos (by omega)] | rw [if_neg (by omega)])) (by simp only [hget_alloc, hget_drew, hz_alloc, hz_drew]; repeat (first | rfl | rw [if_pos (by omega)] | rw [if_neg (by omega)])) (by simp only [hget_alloc, hget_drew, hz_alloc, hz_drew]; repeat (first | rfl | rw [if_pos (by omega)] | rw [if_neg (by omega)])) (by omega) (by repeat (first | exact Below.refl _ _ | refine Below.alloc ?_ (by first | omega | (simp; done) | (simp; omega)) _ | refine Below.setCell ?_ (by first | omega | (simp; done) | (simp; omega)) _ | refine Below.drew ?_ | refine Below.drewN ?_ _ | refine Below.via (by assumption) (by first | omega | (simp; done) | (simp; omega)) ?_))⟩
    case round =>
      obtain ⟨k, hk, rfl, hN⟩ := hrel
      by_cases hlt : k < n
      · have c0 := hN.c0
        have c1 := hN.c1
        have fu := hN.fu
        have fs := hN.fs
        have cu := hN.cu hlt
        have cs := hN.cs hlt
        go_wp2
        go_region
        all_goals
          go_wp2
          go_roundw
          case rel => exact ⟨k + 1, by omega, by go_num, hN.next hlt (by first | exact .inl rfl | exact .inr rfl) (by have hb := hN.below; have hs := hb.size; exact (by repeat (first | exact hb | refine Below.setCell ?_ (by simp) _ | refine Below.drew ?_))) ⟩
          case measure => simp [intOf]; omega
      · go_wp2
        go_ret2
        exact hN.out (by omega) hn
  · go_wp2
    go_loopw [19] (fun v wr => ∃ k : Nat, k ≤ n ∧ v = .int .i64 (k : Int) ∧ NewAt wr w n k (w.heap.size + 1) (w.heap.size)) (fun v _ => n - (intOf v).toNat)
    case atStart => exact ⟨0, Nat.zero_le _, rfl, NewAt.start (by simp only [hget_alloc, hget_drew, hz_alloc, hz_drew]; repeat (first | rfl | rw [if_pos (by omega)] | rw [if_neg (by omega)])) (by simp only [hget_alloc, hget_drew, hz_alloc, hz_drew]; repeat (first | rfl | rw [if_pos (by omega)] | rw [if_neg (by omega)])) (by simp only [hget_alloc, hget_drew, hz_alloc, hz_drew]; repeat (first | rfl | rw [if_pos (by omega)] | rw [if_neg (by omega)])) (by omega) (by repeat (first | exact Below.refl _ _ | refine Below.alloc ?_ (by first | omega | (simp; done) | (simp; omega)) _ | refine Below.setCell ?_ (by first | omega | (simp; done) | (simp; omega)) _ | refine Below.drew ?_ | refine Below.drewN ?_ _ | refine Below.via (by assumption) (by first | omega | (simp; done) | (simp; omega)) ?_))⟩
    case round =>
      obtain ⟨k, hk, rfl, hN⟩ := hrel
      by_cases hlt : k < n
      · have c0 := hN.c0
        have c1 := hN.c1
        have fu := hN.fu
        have fs := hN.fs
        have cu := hN.cu hlt
        have cs := hN.cs hlt
        go_wp2
        go_region
        all_goals
          go_wp2
          go_roundw
          case rel => exact ⟨k + 1, by omega, by go_num, hN.next hlt (by first | exact .inl rfl | exact .inr rfl) (by have hb := hN.below; have hs := hb.size; exact (by repeat (first | exact hb | refine Below.setCell ?_ (by simp) _ | refine Below.drew ?_))) ⟩
          case measure => simp [intOf]; omega
      · go_wp2
        go_ret2
        exact hN.out (by omega) hn
end Go.Proofs.Ytknplnfoekeljaa
