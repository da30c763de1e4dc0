/- shape.sameGraph: two graphs alike. -/
import Derived.Test.YtknplnfoekeljaaData
import Derived.Laws.StructEq
namespace Go.Proofs.Ytknplnfoekeljaa
open Go.RowKit
theorem edge_neq (e f : Edge) (w : World) : (binOp .neq 52 (edgeV e) (edgeV f)).run Try.prog w = Result.ok (.bool (!decide (e = f))) w := by
  obtain ⟨a, b, r, n, k⟩ := e
  obtain ⟨a', b', r', n', k'⟩ := f
  simp [go_sem]
  repeat' split
  all_goals simp_all
/-- alike? -/
def sameG (g h : Graph) : Bool := decide (g = h)
theorem sameG_self (g : Graph) : sameG g g = true := by simp [sameG]
theorem sameG_ne {g h : Graph} (e : g ≠ h) : sameG g h = false := by simp [sameG, e]
set_option maxHeartbeats 1000000 in
theorem sameGraph_ok (g h : Graph) (p q : Option Addr) (c d : Nat) (w : World) (hg : EdgesAt w p c g.edges) (hh : EdgesAt w q d h.edges) :
    Calls Try.prog 149 #[.agg #[.int .i64 g.nodes, .slice p g.edges.length c], .agg #[.int .i64 h.nodes, .slice q h.edges.length d]] w (Ret (.bool (sameG g h)) w) := by
  obtain ⟨n, es⟩ := g
  obtain ⟨m, fs⟩ := h
  have hl1 := hg.len
  have hl2 := hh.len
  by_cases hn : n = m
  · by_cases hlen : es.length = fs.length
    · subst hn
      have t1 : ((n : Int) != n) = false := by simp
      have t2 : ((es.length : Int) != (fs.length : Int)) = false := by simp [hlen]
      have Hlen := Lib.hid hlen
      clear hlen
      go_enter Try.func149, Try.ntmps149
      go_wp2
      go_loopw [24] (fun v wr => ∃ k : Nat, k ≤ es.length ∧ v = .int .i64 (k : Int) ∧ es.take k = fs.take k ∧ Below (w.heap.size + 2) ((w.alloc (Obj.cells #[.int .i64 n, .slice p es.length c] 34)).alloc (Obj.cells #[.int .i64 n, .slice q fs.length d] 34)) wr) (fun v _ => es.length - (intOf v).toNat)
      case atStart => exact ⟨0, Nat.zero_le _, rfl, rfl, Below.refl _ _⟩
      case round =>
        obtain ⟨k, hk, rfl, hE, hB⟩ := hrel
        have HE := Lib.hid hE
        clear hE
        have hBw : Below w.heap.size w wr := ((below_alloc w _).alloc (by rw [hz_alloc]; omega) _).trans (hB.mono (by omega))
        have hz := hB.size
        simp only [hz_alloc] at hz
        have z0 : w.heap.size + 1 < wr.heap.size := by omega
        have z1 : w.heap.size < wr.heap.size := by omega
        have u0 : wr.cell? ⟨w.heap.size + 1, 1, none⟩ = some (.slice q fs.length d) := by rw [hB.cell (p := ⟨_, _, none⟩) (by simp)]; go_simp
        by_cases hlt : k < es.length
        · have hlt2 : k < fs.length := by have := Hlen.out; omega
          obtain ⟨b, off, rfl⟩ := hg.at_ k hlt
          obtain ⟨b2, off2, rfl⟩ := hh.at_ k hlt2
          obtain ⟨e0, e1, e2, e3, e4⟩ := (hg.up hBw).cell b off rfl k hlt
          obtain ⟨f0, f1, f2, f3, f4⟩ := (hh.up hBw).cell b2 off2 rfl k hlt2
          have zb : b2 < wr.heap.size := World.block_lt_of_cell? wr _ f0
          have HT1 : Hid (es.take (k + 1) = es.take k ++ [es[k]]) := List.take_succ_eq_append_getElem hlt
          have HT2 : Hid (fs.take (k + 1) = fs.take k ++ [fs[k]]) := List.take_succ_eq_append_getElem hlt2
          have hne := edge_neq es[k] fs[k]
          have HF : Hid (es[k] ≠ fs[k] → (⟨n, es⟩ : Graph) ≠ ⟨n, fs⟩) := fun hx hy => hx (by injection hy with _ hy; subst hy; rfl)
          generalize es[k] = e at *
          generalize fs[k] = f at *
          by_cases hef : e = f
          · have he1 : decide (e = f) = true := by simpa using hef
            rw [he1] at hne
            have Hef := Lib.hid hef
            clear hef he1
            go_wp2_with fail
            refine wp_region_tail 7 (Up _) (by kernel_rfl) (by kernel_rfl) (Up.drew _) ?_
            dsimp only [List.take, List.drop]
            iterate 7
              refine q_step rfl (fun K hK => ?_)
              apply Exists.intro
              refine ⟨fun w' hC => ?_, ?_⟩
              · have hc := hC.cell
                have hf := hC.frozen
                have hbl := hC.below
                go_simp
                rfl
              go_simp
              refine hK _ ?_
              clear hK K
            refine wpQuiet_nil (fun w_6 C_6 => ?_)
            refine wpList_nil ?_
            show (Exit.then _ _) Exit.normal _ _
            have c_6 := C_6.cell
            have f_6 := C_6.frozen
            have z_6 := C_6.size
            have b_6 := C_6.below
            clear C_6
            try simp only [hz_alloc, hz_set, hz_drew] at z_6 c_6 f_6
            go_wp2_with fail
            go_roundw
            case rel => exact ⟨k + 1, by omega, by go_num, by rw [HT1.out, HT2.out, HE.out, Hef.out], hB.trans ((below_alloc _ _).mono (by omega) |>.trans (b_6.mono (by rw [hz_alloc]; omega)))⟩
            case measure => simp [intOf]; omega
          · have he1 : decide (e = f) = false := by simpa using hef
            rw [he1] at hne
            have Hef := Lib.hid hef
            clear hef he1
            go_wp2_with fail
            refine wp_region_tail 7 (Up _) (by kernel_rfl) (by kernel_rfl) (Up.drew _) ?_
            dsimp only [List.take, List.drop]
            iterate 7
              refine q_step rfl (fun K hK => ?_)
              apply Exists.intro
              refine ⟨fun w' hC => ?_, ?_⟩
              · have hc := hC.cell
                have hf := hC.frozen
                have hbl := hC.below
                go_simp
                rfl
              go_simp
              refine hK _ ?_
              clear hK K
            refine wpQuiet_nil (fun w_6 C_6 => ?_)
            refine wpList_nil ?_
            show (Exit.then _ _) Exit.normal _ _
            have c_6 := C_6.cell
            have f_6 := C_6.frozen
            have z_6 := C_6.size
            have b_6 := C_6.below
            clear C_6
            try simp only [hz_alloc, hz_set, hz_drew] at z_6 c_6 f_6
            go_wp2_with fail
            go_ret
            refine ⟨?_, hBw.trans ((below_alloc _ _).mono (by omega) |>.trans (b_6.mono (by rw [hz_alloc]; omega)))⟩
            rw [sameG_ne (HF.out Hef.out)]; rfl
        · have HT : Hid (es = fs) := by
            have h1 : es.take k = es := by rw [show k = es.length by omega]; exact List.take_length
            have h2 : fs.take k = fs := by rw [show k = fs.length by have := Hlen.out; omega]; exact List.take_length
            unfold Hid; rw [← h1, HE.out, h2]
          go_wp2_with fail
          go_ret
          refine ⟨?_, hBw⟩
          rw [HT.out, sameG_self]; rfl
    · have t1 : ((n : Int) != m) = false := by simp [hn]
      have t2 : ((es.length : Int) != (fs.length : Int)) = true := by simp; omega
      have HF : Hid ((⟨n, es⟩ : Graph) ≠ ⟨m, fs⟩) := fun hy => hlen (by injection hy with _ hy; rw [hy])
      clear hn hlen
      go_enter Try.func149, Try.ntmps149
      go_wp2
      go_ret
      refine ⟨?_, (by repeat (first | exact Below.refl _ _ | refine Below.alloc ?_ (by first | omega | (simp; done) | (simp; omega)) _ | refine Below.setCell ?_ (by first | omega | (simp; done) | (simp; omega)) _ | refine Below.drew ?_ | refine Below.drewN ?_ _ | refine Below.via (by assumption) (by first | omega | (simp; done) | (simp; omega)) ?_))⟩
      rw [sameG_ne HF.out]; rfl
  · have t1 : ((n : Int) != m) = true := by simp [hn]
    have HF : Hid ((⟨n, es⟩ : Graph) ≠ ⟨m, fs⟩) := fun hy => hn (by injection hy)
    clear hn
    go_enter Try.func149, Try.ntmps149
    go_wp2
    go_ret
    refine ⟨?_, (by repeat (first | exact Below.refl _ _ | refine Below.alloc ?_ (by first | omega | (simp; done) | (simp; omega)) _ | refine Below.setCell ?_ (by first | omega | (simp; done) | (simp; omega)) _ | refine Below.drew ?_ | refine Below.drewN ?_ _ | refine Below.via (by assumption) (by first | omega | (simp; done) | (simp; omega)) ?_))⟩
    rw [sameG_ne HF.out]; rfl
end Go.Proofs.Ytknplnfoekeljaa
