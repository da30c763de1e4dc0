/- armaturelaw15.ExciteTags: the walk. -/
import Derived.Test.YtknplnfoekeljaaFirst15
import Derived.Test.YtknplnfoekeljaaSkip
import Derived.Test.YtknplnfoekeljaaHas
namespace Go.Proofs.Ytknplnfoekeljaa
open Go.RowKit
def topBit : BitVec 64 := 9223372036854775808#64
def BS.top (s : BS) : BS := ⟨s.lo, s.hi ||| topBit⟩
@[go_sem] theorem or_top (s : BS) : bits .or .u64 (s.hi.toNat : Int) 9223372036854775808 = (s.top.hi.toNat : Int) := word_or s.hi topBit
theorem top_has (s : BS) {i : Nat} (h : i < 127) : s.top.has i = s.has i := by
  unfold BS.top BS.has
  split
  · rfl
  · have : topBit.getLsbD (i - 64) = false := by
      have : ∀ j, j < 63 → topBit.getLsbD j = false := by decide +kernel
      exact this _ (by omega)
    simp [this]
/-- inputs and relays that aren't there change nothing -/
theorem top_same {c : Circuit} (V : c.Valid) (h1 : c.relays.length ≤ 127) (h2 : c.inputs.length ≤ 127) (I R : BS) : excited c.relays I.top R.top = excited c.relays I R := by
  refine (excited_congr _ V.rels (fun r hr g hg e he => ?_) fun i hi => (top_has R (by omega)).symm).symm
  have hf := (V.fine r hr).2 g hg
  have hh := hf.2.2 e he
  have ho := hf.1.2.2.2 e he
  obtain ⟨_, _, _, _, hn0, _⟩ := ho
  unfold Circuit.hits at hh
  unfold Contact.closed
  obtain ⟨n, hn⟩ : ∃ n : Nat, e.by_.num = n := ⟨e.by_.num.toNat, by omega⟩
  rw [hn] at hh ⊢
  cases hrel : e.by_.relay
  · rw [hrel] at hh
    simp at hh
    simp only [Bool.false_eq_true, if_false, BS.hasI_nat]
    rw [top_has I (by omega)]
  · rw [hrel] at hh
    simp at hh
    simp only [if_true, BS.hasI_nat]
    rw [top_has R (by omega)]
theorem tags_no (c : Circuit) (pi : Option Addr) (ci : Nat) (pr : Option Addr) (cr : Nat) (I R : BS) (w : World) (hc : CircAt w pi ci pr cr c) (hv : ¬ c.Valid) :
    Calls Try.prog 6 #[circV pi ci pr cr c, setV I, setV R] w (Ret (.bool true) w) := by
  go_enter Try.func6, Try.ntmps6
  go_wp2_with fail
  refine (law15first_ok _).mono ?_; rintro e w1 ⟨rfl, hb1⟩
  have z_hb1 := hb1.size
  obtain ⟨c_hb1, f_hb1⟩ := bcell hb1
  try simp only [hz_alloc, hz_set, hz_drew] at z_hb1 c_hb1 f_hb1
  have new_ww1_0 : w.heap.size < w1.heap.size := by omega
  have new_ww1_1 : w.heap.size + 1 < w1.heap.size := by omega
  have new_ww1_2 : w.heap.size + 1 + 1 < w1.heap.size := by omega
  go_wp2_with fail
  refine (new_no c pi ci pr cr _ (hc.up (by repeat (first | exact Below.refl _ _ | refine Below.alloc ?_ (by first | omega | (simp; done) | (simp; omega)) _ | refine Below.setCell ?_ (by first | omega | (simp; done) | (simp; omega)) _ | refine Below.drew ?_ | refine Below.drewN ?_ _ | refine Below.via (by assumption) (by first | omega | (simp; done) | (simp; omega)) ?_))) hv).mono ?_; rintro e w2 ⟨rfl, hb2⟩
  have z_hb2 := hb2.size
  obtain ⟨c_hb2, f_hb2⟩ := bcell hb2
  try simp only [hz_alloc, hz_set, hz_drew] at z_hb2 c_hb2 f_hb2
  go_wp2_with fail
  go_ret
  exact ⟨rfl, (by repeat (first | exact Below.refl _ _ | refine Below.alloc ?_ (by first | omega | (simp; done) | (simp; omega)) _ | refine Below.setCell ?_ (by first | omega | (simp; done) | (simp; omega)) _ | refine Below.drew ?_ | refine Below.drewN ?_ _ | refine Below.via (by assumption) (by first | omega | (simp; done) | (simp; omega)) ?_))⟩
set_option maxRecDepth 100000 in
set_option maxHeartbeats 8000000 in
theorem tags_ok (c : Circuit) (pi : Option Addr) (ci : Nat) (pr : Option Addr) (cr : Nat) (I R : BS) (w : World) (hc : CircAt w pi ci pr cr c) (hv : c.Valid) :
    Calls Try.prog 6 #[circV pi ci pr cr c, setV I, setV R] w (Ret (.bool true) w) := by
  have hl2 := hv.rels
  have hl1 := hv.ins
  go_enter Try.func6, Try.ntmps6
  go_wp2_with fail
  refine (law15first_ok _).mono ?_; rintro e w1 ⟨rfl, hb1⟩
  have z_hb1 := hb1.size
  obtain ⟨c_hb1, f_hb1⟩ := bcell hb1
  try simp only [hz_alloc, hz_set, hz_drew] at z_hb1 c_hb1 f_hb1
  have new_ww1_0 : w.heap.size < w1.heap.size := by omega
  have new_ww1_1 : w.heap.size + 1 < w1.heap.size := by omega
  have new_ww1_2 : w.heap.size + 1 + 1 < w1.heap.size := by omega
  go_wp2_with fail
  refine (new_ok c pi ci pr cr _ (hc.up (by repeat (first | exact Below.refl _ _ | refine Below.alloc ?_ (by first | omega | (simp; done) | (simp; omega)) _ | refine Below.setCell ?_ (by first | omega | (simp; done) | (simp; omega)) _ | refine Below.drew ?_ | refine Below.drewN ?_ _ | refine Below.via (by assumption) (by first | omega | (simp; done) | (simp; omega)) ?_))) hv).mono ?_; rintro e w2 ⟨bk, rfl, hA, hb2, hbk⟩
  have hK2 := hA.now
  clear hA
  have z_hb2 := hb2.size
  obtain ⟨c_hb2, f_hb2⟩ := bcell hb2
  try simp only [hz_alloc, hz_set, hz_drew] at z_hb2 c_hb2 f_hb2
  have new_ww2_0 : w.heap.size < w2.heap.size := by omega
  have new_ww2_1 : w.heap.size + 1 < w2.heap.size := by omega
  have new_ww2_2 : w.heap.size + 1 + 1 < w2.heap.size := by omega
  go_wp2_with fail
  refine (of_ok hK2 I R).mono ?_; rintro e w3 ⟨rfl, hb3⟩
  have hK3 := hK2.up hb3
  clear hK2
  have z_hb3 := hb3.size
  obtain ⟨c_hb3, f_hb3⟩ := bcell hb3
  try simp only [hz_alloc, hz_set, hz_drew] at z_hb3 c_hb3 f_hb3
  have new_ww3_0 : w.heap.size < w3.heap.size := by omega
  have new_ww3_1 : w.heap.size + 1 < w3.heap.size := by omega
  have new_ww3_2 : w.heap.size + 1 + 1 < w3.heap.size := by omega
  obtain ⟨S, HS⟩ : ∃ S, Hid (S = excited c.relays I R) := ⟨_, rfl⟩
  rw [← HS.out]
  go_wp2_with fail
  go_loopw [40] (fun v wr => ∃ k : Nat, k ≤ c.relays.length ∧ v = .int .i64 (k : Int) ∧ Below (w3.heap.size + 1) (w3.alloc (.cells #[.int .u64 S.lo.toNat, .int .u64 S.hi.toNat] 24)) wr) (fun v _ => c.relays.length - (intOf v).toNat)
  case atStart => exact ⟨0, Nat.zero_le _, rfl, Below.refl _ _⟩
  case round =>
    obtain ⟨k, hk, rfl, hB⟩ := hrel
    have hz := hB.size
    simp only [hz_alloc] at hz
    have hBw : Below w.heap.size w wr := (show Below w.heap.size w w3 from (by repeat (first | exact Below.refl _ _ | refine Below.alloc ?_ (by first | omega | (simp; done) | (simp; omega)) _ | refine Below.setCell ?_ (by first | omega | (simp; done) | (simp; omega)) _ | refine Below.drew ?_ | refine Below.drewN ?_ _ | refine Below.via (by assumption) (by first | omega | (simp; done) | (simp; omega)) ?_))).trans (((below_alloc w3 _).trans (hB.mono (by omega))).mono (by omega))
    have rC : wr.heap[w.heap.size]? = some (.cells #[.slice pi c.inputs.length ci, .slice pr c.relays.length cr] 57 (0, 0)) := (by repeat (first | rfl | (rw [hget_alloc]; first | rw [if_pos (by first | omega | (simp only [hz_alloc, hz_set, hz_drew]; done) | (simp only [hz_alloc, hz_set, hz_drew]; omega) | (show _ ≠ _; omega))] | rw [if_neg (by first | omega | (simp only [hz_alloc, hz_set, hz_drew]; done) | (simp only [hz_alloc, hz_set, hz_drew]; omega) | (show _ ≠ _; omega))]) | rw [Below.heap_setCell _ _ _ _ (by first | omega | (simp only [hz_alloc, hz_set, hz_drew]; done) | (simp only [hz_alloc, hz_set, hz_drew]; omega) | (show _ ≠ _; omega))] | rw [hget_drew] | rw [hB.block _ (by first | omega | (simp only [hz_alloc, hz_set, hz_drew]; done) | (simp only [hz_alloc, hz_set, hz_drew]; omega) | (show _ ≠ _; omega))] | rw [hb3.block _ (by first | omega | (simp only [hz_alloc, hz_set, hz_drew]; done) | (simp only [hz_alloc, hz_set, hz_drew]; omega) | (show _ ≠ _; omega))] | rw [hb2.block _ (by first | omega | (simp only [hz_alloc, hz_set, hz_drew]; done) | (simp only [hz_alloc, hz_set, hz_drew]; omega) | (show _ ≠ _; omega))] | rw [hb1.block _ (by first | omega | (simp only [hz_alloc, hz_set, hz_drew]; done) | (simp only [hz_alloc, hz_set, hz_drew]; omega) | (show _ ≠ _; omega))] | assumption))
    have rC_0 : wr.cell? ⟨w.heap.size, 0, none⟩ = some (.slice pi c.inputs.length ci) := by rw [cell_of_row _ _ _ _ _ _ rC]; rfl
    have rC_1 : wr.cell? ⟨w.heap.size, 1, none⟩ = some (.slice pr c.relays.length cr) := by rw [cell_of_row _ _ _ _ _ _ rC]; rfl
    have rC_z : w.heap.size < wr.heap.size := (Array.getElem?_eq_some_iff.1 rC).1
    have HrC := Lib.hid rC
    clear rC
    have rI : wr.heap[w.heap.size + 1]? = some (.cells #[.int .u64 I.lo.toNat, .int .u64 I.hi.toNat] 24 (0, 0)) := (by repeat (first | rfl | (rw [hget_alloc]; first | rw [if_pos (by first | omega | (simp only [hz_alloc, hz_set, hz_drew]; done) | (simp only [hz_alloc, hz_set, hz_drew]; omega) | (show _ ≠ _; omega))] | rw [if_neg (by first | omega | (simp only [hz_alloc, hz_set, hz_drew]; done) | (simp only [hz_alloc, hz_set, hz_drew]; omega) | (show _ ≠ _; omega))]) | rw [Below.heap_setCell _ _ _ _ (by first | omega | (simp only [hz_alloc, hz_set, hz_drew]; done) | (simp only [hz_alloc, hz_set, hz_drew]; omega) | (show _ ≠ _; omega))] | rw [hget_drew] | rw [hB.block _ (by first | omega | (simp only [hz_alloc, hz_set, hz_drew]; done) | (simp only [hz_alloc, hz_set, hz_drew]; omega) | (show _ ≠ _; omega))] | rw [hb3.block _ (by first | omega | (simp only [hz_alloc, hz_set, hz_drew]; done) | (simp only [hz_alloc, hz_set, hz_drew]; omega) | (show _ ≠ _; omega))] | rw [hb2.block _ (by first | omega | (simp only [hz_alloc, hz_set, hz_drew]; done) | (simp only [hz_alloc, hz_set, hz_drew]; omega) | (show _ ≠ _; omega))] | rw [hb1.block _ (by first | omega | (simp only [hz_alloc, hz_set, hz_drew]; done) | (simp only [hz_alloc, hz_set, hz_drew]; omega) | (show _ ≠ _; omega))] | assumption))
    have rI_0 : wr.cell? ⟨w.heap.size + 1, 0, none⟩ = some (.int .u64 I.lo.toNat) := by rw [cell_of_row _ _ _ _ _ _ rI]; rfl
    have rI_1 : wr.cell? ⟨w.heap.size + 1, 1, none⟩ = some (.int .u64 I.hi.toNat) := by rw [cell_of_row _ _ _ _ _ _ rI]; rfl
    have rI_z : w.heap.size + 1 < wr.heap.size := (Array.getElem?_eq_some_iff.1 rI).1
    have HrI := Lib.hid rI
    clear rI
    have rR : wr.heap[w.heap.size + 1 + 1]? = some (.cells #[.int .u64 R.lo.toNat, .int .u64 R.hi.toNat] 24 (0, 0)) := (by repeat (first | rfl | (rw [hget_alloc]; first | rw [if_pos (by first | omega | (simp only [hz_alloc, hz_set, hz_drew]; done) | (simp only [hz_alloc, hz_set, hz_drew]; omega) | (show _ ≠ _; omega))] | rw [if_neg (by first | omega | (simp only [hz_alloc, hz_set, hz_drew]; done) | (simp only [hz_alloc, hz_set, hz_drew]; omega) | (show _ ≠ _; omega))]) | rw [Below.heap_setCell _ _ _ _ (by first | omega | (simp only [hz_alloc, hz_set, hz_drew]; done) | (simp only [hz_alloc, hz_set, hz_drew]; omega) | (show _ ≠ _; omega))] | rw [hget_drew] | rw [hB.block _ (by first | omega | (simp only [hz_alloc, hz_set, hz_drew]; done) | (simp only [hz_alloc, hz_set, hz_drew]; omega) | (show _ ≠ _; omega))] | rw [hb3.block _ (by first | omega | (simp only [hz_alloc, hz_set, hz_drew]; done) | (simp only [hz_alloc, hz_set, hz_drew]; omega) | (show _ ≠ _; omega))] | rw [hb2.block _ (by first | omega | (simp only [hz_alloc, hz_set, hz_drew]; done) | (simp only [hz_alloc, hz_set, hz_drew]; omega) | (show _ ≠ _; omega))] | rw [hb1.block _ (by first | omega | (simp only [hz_alloc, hz_set, hz_drew]; done) | (simp only [hz_alloc, hz_set, hz_drew]; omega) | (show _ ≠ _; omega))] | assumption))
    have rR_0 : wr.cell? ⟨w.heap.size + 1 + 1, 0, none⟩ = some (.int .u64 R.lo.toNat) := by rw [cell_of_row _ _ _ _ _ _ rR]; rfl
    have rR_1 : wr.cell? ⟨w.heap.size + 1 + 1, 1, none⟩ = some (.int .u64 R.hi.toNat) := by rw [cell_of_row _ _ _ _ _ _ rR]; rfl
    have rR_z : w.heap.size + 1 + 1 < wr.heap.size := (Array.getElem?_eq_some_iff.1 rR).1
    have HrR := Lib.hid rR
    clear rR
    have rS : wr.heap[w3.heap.size]? = some (.cells #[.int .u64 S.lo.toNat, .int .u64 S.hi.toNat] 24 (0, 0)) := (by repeat (first | rfl | (rw [hget_alloc]; first | rw [if_pos (by first | omega | (simp only [hz_alloc, hz_set, hz_drew]; done) | (simp only [hz_alloc, hz_set, hz_drew]; omega) | (show _ ≠ _; omega))] | rw [if_neg (by first | omega | (simp only [hz_alloc, hz_set, hz_drew]; done) | (simp only [hz_alloc, hz_set, hz_drew]; omega) | (show _ ≠ _; omega))]) | rw [Below.heap_setCell _ _ _ _ (by first | omega | (simp only [hz_alloc, hz_set, hz_drew]; done) | (simp only [hz_alloc, hz_set, hz_drew]; omega) | (show _ ≠ _; omega))] | rw [hget_drew] | rw [hB.block _ (by first | omega | (simp only [hz_alloc, hz_set, hz_drew]; done) | (simp only [hz_alloc, hz_set, hz_drew]; omega) | (show _ ≠ _; omega))] | rw [hb3.block _ (by first | omega | (simp only [hz_alloc, hz_set, hz_drew]; done) | (simp only [hz_alloc, hz_set, hz_drew]; omega) | (show _ ≠ _; omega))] | rw [hb2.block _ (by first | omega | (simp only [hz_alloc, hz_set, hz_drew]; done) | (simp only [hz_alloc, hz_set, hz_drew]; omega) | (show _ ≠ _; omega))] | rw [hb1.block _ (by first | omega | (simp only [hz_alloc, hz_set, hz_drew]; done) | (simp only [hz_alloc, hz_set, hz_drew]; omega) | (show _ ≠ _; omega))] | assumption))
    have rS_0 : wr.cell? ⟨w3.heap.size, 0, none⟩ = some (.int .u64 S.lo.toNat) := by rw [cell_of_row _ _ _ _ _ _ rS]; rfl
    have rS_1 : wr.cell? ⟨w3.heap.size, 1, none⟩ = some (.int .u64 S.hi.toNat) := by rw [cell_of_row _ _ _ _ _ _ rS]; rfl
    have rS_z : w3.heap.size < wr.heap.size := (Array.getElem?_eq_some_iff.1 rS).1
    have HrS := Lib.hid rS
    clear rS
    have hKr : CoilsAt wr bk c.relays := hK3.up ((below_alloc w3 _).trans (hB.mono (by omega)))
    clear c_hb1 c_hb2 c_hb3 f_hb1 f_hb2 f_hb3
    by_cases hlt : k < c.relays.length
    · obtain ⟨b, off, hpr⟩ := hc.relays.at_ k hlt
      obtain ⟨pg, cg, hg, hsm, e0, e1, e2⟩ := (hc.relays.up hBw).cell b off hpr k hlt
      subst hpr
      have zb : b < wr.heap.size := World.block_lt_of_cell? wr _ e0
      have hcoil : Hid (S.hasI (k : Int) = coil c.relays[k] (R.hasI k) I R) := by unfold Hid; rw [HS.out, excited_has _ _ _ hl2 hlt]
      have hok : RelayOk c.relays[k] := relayOk_of (hv.fine _ (List.getElem_mem hlt))
      generalize c.relays[k] = r at *
      obtain ⟨nm, tg, gs⟩ := r
      obtain ⟨ht, hcnt, hright⟩ := hok
      dsimp only at e0 e1 e2 hcnt ht hright hg
      have hgl := hg.len
      have hpos : 0 < gs.length := by rw [hcnt]; split <;> omega
      obtain ⟨b0, off0, pe0, ce0, rfl, hb0, he0, g0, g1⟩ := hg.pick hpos
      obtain ⟨x0, X0⟩ : ∃ x, Hid (x = gs[0].conducts fun e => e.by_.closed I R) := ⟨gs[0].conducts fun e => e.by_.closed I R, rfl⟩
      have HG0 : Hid (gC ⟨nm, tg, gs⟩ 0 I R = x0) := by
        unfold Hid gC; rw [X0.out]; simp [hpos]
      have hr0 : Hid (gs[0].right) := hright _ (List.getElem_mem hpos)
      simp only [Nat.zero_mul, Nat.add_zero] at g0 g1
      generalize gs[0] = G0 at *
      obtain ⟨n0, es0⟩ := G0
      dsimp only at g0 g1 he0
      have old_b0wr_0 : b0 < wr.heap.size := by omega
      have old_b0wr_1 : b0 < wr.heap.size + 1 := by omega
      have old_b0wr_2 : b0 < wr.heap.size + 1 + 1 := by omega
      rcases ht with rfl | rfl | rfl
      · have HW : Hid (S.hasI (k : Int) = x0) := by
          unfold Hid; rw [hcoil.out]; unfold coil; rw [if_neg (show ¬ ((0 : Int) = 1) by decide), if_neg (show ¬ ((0 : Int) = 2) by decide)]; exact HG0.out
        go_wp2_with fail
        refine wp_region_tail 12 (Up _) (by kernel_rfl) (by kernel_rfl) (Up.drew _) ?_
        dsimp only [List.take, List.drop]
        iterate 12
          refine q_step rfl (fun K hK => ?_)
          apply Exists.intro
          refine ⟨fun w' hC => ?_, ?_⟩
          · have hc := hC.cell
            have hf := hC.frozen
            have hbl := hC.below
            go_simp
            first | rfl | (go_at_call 34; refine (conducts_is ⟨n0, es0⟩ pe0 ce0 I R _ (he0.up (by repeat (first | exact Below.refl _ _ | refine Below.alloc ?_ (by first | omega | (simp; done) | (simp; omega)) _ | refine Below.setCell ?_ (by first | omega | (simp; done) | (simp; omega)) _ | refine Below.drew ?_ | refine Below.drewN ?_ _ | refine Below.via (by assumption) (by first | omega | (simp; done) | (simp; omega)) ?_))) hr0.out X0).mono ?_; rintro e w2 ⟨rfl, h⟩; first | exact ⟨rfl, hC.then h⟩ | (subst h; exact ⟨rfl, hC⟩))
          go_simp
          refine hK _ ?_
          clear hK K
        refine wpQuiet_nil (fun w_10 C_10 => ?_)
        refine wpList_nil ?_
        show (Exit.then _ _) Exit.normal _ _
        have c_10 := C_10.cell
        have f_10 := C_10.frozen
        have z_10 := C_10.size
        have b_10 := C_10.below
        clear C_10
        try simp only [hz_alloc, hz_set, hz_drew] at z_10 c_10 f_10
        have new_wrw_10_0 : wr.heap.size < w_10.heap.size := by omega
        have new_w3w_10_0 : w3.heap.size < w_10.heap.size := by omega
        go_wp2_with fail
        refine (refHas_ok S k _).mono ?_; rintro e w9 ⟨rfl, hb9⟩
        rw [HW.out]
        have z_hb9 := hb9.size
        obtain ⟨c_hb9, f_hb9⟩ := bcell hb9
        try simp only [hz_alloc, hz_set, hz_drew] at z_hb9 c_hb9 f_hb9
        go_wp2_with fail
        go_roundw
        case rel => first | exact ⟨k + 1, by omega, by go_num, hB.trans ((((below_alloc _ _).trans (b_10.mono (by rw [hz_alloc]; omega))).trans (hb9.mono (by omega))).mono (by omega))⟩ | ((repeat apply Exists.intro); exact ⟨⟨k + 1, by omega, by go_num, hB.trans ((((below_alloc _ _).trans (b_10.mono (by rw [hz_alloc]; omega))).trans (hb9.mono (by omega))).mono (by omega))⟩, rfl⟩)
        case measure => simp [intOf]; omega
      · skip
        have gs2 : gs.length = 2 := by rw [hcnt]; rfl
        obtain ⟨b1, off1, pe1, ce1, hp1, hbb1, he1, k0, k1⟩ := hg.pick (k := 1) (by omega)
        injection hp1 with hp1
        injection hp1 with hp1 hp2 _
        subst hp1; subst hp2
        have G2 : 1 < gs.length := by omega
        obtain ⟨x1, X1⟩ : ∃ x, Hid (x = (gs[1]'G2).conducts fun e => e.by_.closed I R) := ⟨(gs[1]'G2).conducts fun e => e.by_.closed I R, rfl⟩
        have HG1 : Hid (gC ⟨nm, 1, gs⟩ 1 I R = x1) := by
          unfold Hid gC; rw [X1.out]; simp [G2]
        have hr1 : Hid ((gs[1]'G2).right) := hright _ (List.getElem_mem _)
        generalize gs[1]'G2 = G1 at *
        obtain ⟨n1, es1⟩ := G1
        dsimp only at k0 k1 he1
        simp only [Nat.one_mul] at k0 k1
        have k1' : wr.cell? ⟨b0, off0 + 3, none⟩ = some (.slice pe1 es1.length ce1) := k1
        have l1i : (1 : Int) < (gs.length : Int) := by omega
        obtain ⟨own, Own⟩ : ∃ o, Hid (o = R.hasI (k : Int)) := ⟨_, rfl⟩
        have HW : Hid (S.hasI (k : Int) = (!x1 && (x0 || own))) := by
          unfold Hid; rw [hcoil.out]; unfold coil; rw [if_pos (show ((1 : Int) = 1) from rfl), HG0.out, HG1.out, Own.out]
        clear gs2 hcnt
        go_wp2_with fail
        refine wp_region_tail 12 (Up _) (by kernel_rfl) (by kernel_rfl) (Up.drew _) ?_
        dsimp only [List.take, List.drop]
        iterate 12
          refine q_step rfl (fun K hK => ?_)
          apply Exists.intro
          refine ⟨fun w' hC => ?_, ?_⟩
          · have hc := hC.cell
            have hf := hC.frozen
            have hbl := hC.below
            go_simp
            first | rfl | (go_at_call 34; refine (conducts_is ⟨n0, es0⟩ pe0 ce0 I R _ (he0.up (by repeat (first | exact Below.refl _ _ | refine Below.alloc ?_ (by first | omega | (simp; done) | (simp; omega)) _ | refine Below.setCell ?_ (by first | omega | (simp; done) | (simp; omega)) _ | refine Below.drew ?_ | refine Below.drewN ?_ _ | refine Below.via (by assumption) (by first | omega | (simp; done) | (simp; omega)) ?_))) hr0.out X0).mono ?_; rintro e w2 ⟨rfl, h⟩; first | exact ⟨rfl, hC.then h⟩ | (subst h; exact ⟨rfl, hC⟩))
          go_simp
          refine hK _ ?_
          clear hK K
        refine wpQuiet_nil (fun w_10 C_10 => ?_)
        refine wpList_nil ?_
        show (Exit.then _ _) Exit.normal _ _
        have c_10 := C_10.cell
        have f_10 := C_10.frozen
        have z_10 := C_10.size
        have b_10 := C_10.below
        clear C_10
        try simp only [hz_alloc, hz_set, hz_drew] at z_10 c_10 f_10
        have new_wrw_10_0 : wr.heap.size < w_10.heap.size := by omega
        have new_w3w_10_0 : w3.heap.size < w_10.heap.size := by omega
        have old_b0w_10_0 : b0 < w_10.heap.size := by omega
        have n1_10 : w.heap.size < w_10.heap.size := by omega
        have n2_10 : w.heap.size + 1 < w_10.heap.size := by omega
        have n3_10 : w.heap.size + 1 + 1 < w_10.heap.size := by omega
        go_wp2_with fail
        refine wp_region_tail 12 (Up _) (by kernel_rfl) (by kernel_rfl) (Up.drew _) ?_
        dsimp only [List.take, List.drop]
        iterate 12
          refine q_step rfl (fun K hK => ?_)
          apply Exists.intro
          refine ⟨fun w' hC => ?_, ?_⟩
          · have hc := hC.cell
            have hf := hC.frozen
            have hbl := hC.below
            go_simp
            first | rfl | (go_at_call 34; refine (conducts_is ⟨n1, es1⟩ pe1 ce1 I R _ (he1.up (by repeat (first | exact Below.refl _ _ | refine Below.alloc ?_ (by first | omega | (simp; done) | (simp; omega)) _ | refine Below.setCell ?_ (by first | omega | (simp; done) | (simp; omega)) _ | refine Below.drew ?_ | refine Below.drewN ?_ _ | refine Below.via (by assumption) (by first | omega | (simp; done) | (simp; omega)) ?_))) hr1.out X1).mono ?_; rintro e w2 ⟨rfl, h⟩; first | exact ⟨rfl, hC.then h⟩ | (subst h; exact ⟨rfl, hC⟩))
          go_simp
          refine hK _ ?_
          clear hK K
        refine wpQuiet_nil (fun w_13 C_13 => ?_)
        refine wpList_nil ?_
        show (Exit.then _ _) Exit.normal _ _
        have c_13 := C_13.cell
        have f_13 := C_13.frozen
        have z_13 := C_13.size
        have b_13 := C_13.below
        clear C_13
        try simp only [hz_alloc, hz_set, hz_drew] at z_13 c_13 f_13
        have new_wrw_13_0 : wr.heap.size < w_13.heap.size := by omega
        have new_w3w_13_0 : w3.heap.size < w_13.heap.size := by omega
        have n1_13 : w.heap.size < w_13.heap.size := by omega
        have n2_13 : w.heap.size + 1 < w_13.heap.size := by omega
        have n3_13 : w.heap.size + 1 + 1 < w_13.heap.size := by omega
        go_wp2_with fail
        refine (refHas_ok R k _).mono ?_; rintro e w8 ⟨rfl, hb8⟩
        rw [← Own.out]
        have z_hb8 := hb8.size
        obtain ⟨c_hb8, f_hb8⟩ := bcell hb8
        try simp only [hz_alloc, hz_set, hz_drew] at z_hb8 c_hb8 f_hb8
        have new_wrw8_0 : wr.heap.size < w8.heap.size := by omega
        have new_w3w8_0 : w3.heap.size < w8.heap.size := by omega
        clear Own
        cases x0 <;> cases x1 <;> cases own
        all_goals
          go_wp2_with fail
          refine (refHas_ok S k _).mono ?_; rintro e w9 ⟨rfl, hb9⟩
          rw [HW.out]
          have z_hb9 := hb9.size
          obtain ⟨c_hb9, f_hb9⟩ := bcell hb9
          try simp only [hz_alloc, hz_set, hz_drew] at z_hb9 c_hb9 f_hb9
          go_wp2_with fail
          go_roundw
          case rel => first | exact ⟨k + 1, by omega, by go_num, hB.trans ((((((below_alloc _ _).trans (b_10.mono (by rw [hz_alloc]; omega))).trans (b_13.mono (by omega))).trans (hb8.mono (by omega))).trans (hb9.mono (by omega))).mono (by omega))⟩ | ((repeat apply Exists.intro); exact ⟨⟨k + 1, by omega, by go_num, hB.trans ((((((below_alloc _ _).trans (b_10.mono (by rw [hz_alloc]; omega))).trans (b_13.mono (by omega))).trans (hb8.mono (by omega))).trans (hb9.mono (by omega))).mono (by omega))⟩, rfl⟩)
          case measure => simp [intOf]; omega
      · skip
        have gs2 : gs.length = 2 := by rw [hcnt]; rfl
        obtain ⟨b1, off1, pe1, ce1, hp1, hbb1, he1, k0, k1⟩ := hg.pick (k := 1) (by omega)
        injection hp1 with hp1
        injection hp1 with hp1 hp2 _
        subst hp1; subst hp2
        have G2 : 1 < gs.length := by omega
        obtain ⟨x1, X1⟩ : ∃ x, Hid (x = (gs[1]'G2).conducts fun e => e.by_.closed I R) := ⟨(gs[1]'G2).conducts fun e => e.by_.closed I R, rfl⟩
        have HG1 : Hid (gC ⟨nm, 2, gs⟩ 1 I R = x1) := by
          unfold Hid gC; rw [X1.out]; simp [G2]
        have hr1 : Hid ((gs[1]'G2).right) := hright _ (List.getElem_mem _)
        generalize gs[1]'G2 = G1 at *
        obtain ⟨n1, es1⟩ := G1
        dsimp only at k0 k1 he1
        simp only [Nat.one_mul] at k0 k1
        have k1' : wr.cell? ⟨b0, off0 + 3, none⟩ = some (.slice pe1 es1.length ce1) := k1
        have l1i : (1 : Int) < (gs.length : Int) := by omega
        obtain ⟨own, Own⟩ : ∃ o, Hid (o = R.hasI (k : Int)) := ⟨_, rfl⟩
        have HW : Hid (S.hasI (k : Int) = (x0 || (own && x1))) := by
          unfold Hid; rw [hcoil.out]; unfold coil; rw [if_neg (show ¬ ((2 : Int) = 1) by decide), if_pos (show ((2 : Int) = 2) from rfl), HG0.out, HG1.out, Own.out]
        clear gs2 hcnt
        go_wp2_with fail
        refine wp_region_tail 12 (Up _) (by kernel_rfl) (by kernel_rfl) (Up.drew _) ?_
        dsimp only [List.take, List.drop]
        iterate 12
          refine q_step rfl (fun K hK => ?_)
          apply Exists.intro
          refine ⟨fun w' hC => ?_, ?_⟩
          · have hc := hC.cell
            have hf := hC.frozen
            have hbl := hC.below
            go_simp
            first | rfl | (go_at_call 34; refine (conducts_is ⟨n0, es0⟩ pe0 ce0 I R _ (he0.up (by repeat (first | exact Below.refl _ _ | refine Below.alloc ?_ (by first | omega | (simp; done) | (simp; omega)) _ | refine Below.setCell ?_ (by first | omega | (simp; done) | (simp; omega)) _ | refine Below.drew ?_ | refine Below.drewN ?_ _ | refine Below.via (by assumption) (by first | omega | (simp; done) | (simp; omega)) ?_))) hr0.out X0).mono ?_; rintro e w2 ⟨rfl, h⟩; first | exact ⟨rfl, hC.then h⟩ | (subst h; exact ⟨rfl, hC⟩))
          go_simp
          refine hK _ ?_
          clear hK K
        refine wpQuiet_nil (fun w_10 C_10 => ?_)
        refine wpList_nil ?_
        show (Exit.then _ _) Exit.normal _ _
        have c_10 := C_10.cell
        have f_10 := C_10.frozen
        have z_10 := C_10.size
        have b_10 := C_10.below
        clear C_10
        try simp only [hz_alloc, hz_set, hz_drew] at z_10 c_10 f_10
        have new_wrw_10_0 : wr.heap.size < w_10.heap.size := by omega
        have new_w3w_10_0 : w3.heap.size < w_10.heap.size := by omega
        have old_b0w_10_0 : b0 < w_10.heap.size := by omega
        have n1_10 : w.heap.size < w_10.heap.size := by omega
        have n2_10 : w.heap.size + 1 < w_10.heap.size := by omega
        have n3_10 : w.heap.size + 1 + 1 < w_10.heap.size := by omega
        go_wp2_with fail
        refine wp_region_tail 12 (Up _) (by kernel_rfl) (by kernel_rfl) (Up.drew _) ?_
        dsimp only [List.take, List.drop]
        iterate 12
          refine q_step rfl (fun K hK => ?_)
          apply Exists.intro
          refine ⟨fun w' hC => ?_, ?_⟩
          · have hc := hC.cell
            have hf := hC.frozen
            have hbl := hC.below
            go_simp
            first | rfl | (go_at_call 34; refine (conducts_is ⟨n1, es1⟩ pe1 ce1 I R _ (he1.up (by repeat (first | exact Below.refl _ _ | refine Below.alloc ?_ (by first | omega | (simp; done) | (simp; omega)) _ | refine Below.setCell ?_ (by first | omega | (simp; done) | (simp; omega)) _ | refine Below.drew ?_ | refine Below.drewN ?_ _ | refine Below.via (by assumption) (by first | omega | (simp; done) | (simp; omega)) ?_))) hr1.out X1).mono ?_; rintro e w2 ⟨rfl, h⟩; first | exact ⟨rfl, hC.then h⟩ | (subst h; exact ⟨rfl, hC⟩))
          go_simp
          refine hK _ ?_
          clear hK K
        refine wpQuiet_nil (fun w_13 C_13 => ?_)
        refine wpList_nil ?_
        show (Exit.then _ _) Exit.normal _ _
        have c_13 := C_13.cell
        have f_13 := C_13.frozen
        have z_13 := C_13.size
        have b_13 := C_13.below
        clear C_13
        try simp only [hz_alloc, hz_set, hz_drew] at z_13 c_13 f_13
        have new_wrw_13_0 : wr.heap.size < w_13.heap.size := by omega
        have new_w3w_13_0 : w3.heap.size < w_13.heap.size := by omega
        have n1_13 : w.heap.size < w_13.heap.size := by omega
        have n2_13 : w.heap.size + 1 < w_13.heap.size := by omega
        have n3_13 : w.heap.size + 1 + 1 < w_13.heap.size := by omega
        go_wp2_with fail
        refine (refHas_ok R k _).mono ?_; rintro e w8 ⟨rfl, hb8⟩
        rw [← Own.out]
        have z_hb8 := hb8.size
        obtain ⟨c_hb8, f_hb8⟩ := bcell hb8
        try simp only [hz_alloc, hz_set, hz_drew] at z_hb8 c_hb8 f_hb8
        have new_wrw8_0 : wr.heap.size < w8.heap.size := by omega
        have new_w3w8_0 : w3.heap.size < w8.heap.size := by omega
        clear Own
        cases x0 <;> cases x1 <;> cases own
        all_goals
          go_wp2_with fail
          refine (refHas_ok S k _).mono ?_; rintro e w9 ⟨rfl, hb9⟩
          rw [HW.out]
          have z_hb9 := hb9.size
          obtain ⟨c_hb9, f_hb9⟩ := bcell hb9
          try simp only [hz_alloc, hz_set, hz_drew] at z_hb9 c_hb9 f_hb9
          go_wp2_with fail
          go_roundw
          case rel => first | exact ⟨k + 1, by omega, by go_num, hB.trans ((((((below_alloc _ _).trans (b_10.mono (by rw [hz_alloc]; omega))).trans (b_13.mono (by omega))).trans (hb8.mono (by omega))).trans (hb9.mono (by omega))).mono (by omega))⟩ | ((repeat apply Exists.intro); exact ⟨⟨k + 1, by omega, by go_num, hB.trans ((((((below_alloc _ _).trans (b_10.mono (by rw [hz_alloc]; omega))).trans (b_13.mono (by omega))).trans (hb8.mono (by omega))).trans (hb9.mono (by omega))).mono (by omega))⟩, rfl⟩)
          case measure => simp [intOf]; omega
    · have o1 : w.heap.size < wr.heap.size + 1 := by omega
      have o2 : w.heap.size < wr.heap.size + 1 + 1 := by omega
      have o3 : w3.heap.size < wr.heap.size + 1 := by omega
      have o4 : w3.heap.size < wr.heap.size + 1 + 1 := by omega
      have hq : ∀ W, (binOp .eql 24 (setV S) (setV S)).run Try.prog W = Result.ok (.bool true) W := fun W => by rw [set_eql]; simp
      by_cases h1 : c.relays.length ≤ 127
      · have t1 : decide ((127 : Int) < (c.relays.length : Int)) = false := by simp; omega
        by_cases h2 : c.inputs.length ≤ 127
        · have t2 : decide ((127 : Int) < (c.inputs.length : Int)) = false := by simp; omega
          have HE : Hid (S = excited c.relays I.top R.top) := by unfold Hid; rw [HS.out, top_same hv h1 h2]
          go_wp2_with fail
          refine wp_region_tail 19 (Up _) (by kernel_rfl) (by kernel_rfl) (Up.drew _) ?_
          dsimp only [List.take, List.drop]
          iterate 19
            refine q_step rfl (fun K hK => ?_)
            apply Exists.intro
            refine ⟨fun w' hC => ?_, ?_⟩
            · have hc := hC.cell
              have hf := hC.frozen
              have hbl := hC.below
              go_simp
              first | rfl | (go_at_call 33; refine (of_is (hKr.up (by repeat (first | exact Below.refl _ _ | refine Below.alloc ?_ (by first | omega | (simp; done) | (simp; omega)) _ | refine Below.setCell ?_ (by first | omega | (simp; done) | (simp; omega)) _ | refine Below.drew ?_ | refine Below.drewN ?_ _ | refine Below.via (by assumption) (by first | omega | (simp; done) | (simp; omega)) ?_))) I.top R.top HE).mono ?_; rintro e w2 ⟨rfl, h⟩; first | exact ⟨rfl, hC.then h⟩ | (subst h; exact ⟨rfl, hC⟩))
            go_simp
            refine hK _ ?_
            clear hK K
          refine wpQuiet_nil (fun w_23 C_23 => ?_)
          refine wpList_nil ?_
          show (Exit.then _ _) Exit.normal _ _
          have c_23 := C_23.cell
          have f_23 := C_23.frozen
          have z_23 := C_23.size
          have b_23 := C_23.below
          clear C_23
          try simp only [hz_alloc, hz_set, hz_drew] at z_23 c_23 f_23
          go_wp2_with fail
          go_ret
          exact ⟨rfl, hBw.trans ((((below_alloc _ _).alloc (by rw [hz_alloc]; omega) _).trans (b_23.mono (by simp only [hz_alloc]; omega))).mono hBw.size)⟩
        · have t2 : decide ((127 : Int) < (c.inputs.length : Int)) = true := by simp; omega
          go_wp2_with fail
          refine wp_region_tail 19 (Up _) (by kernel_rfl) (by kernel_rfl) (Up.drew _) ?_
          dsimp only [List.take, List.drop]
          iterate 11
            refine q_step rfl (fun K hK => ?_)
            apply Exists.intro
            refine ⟨fun w' hC => ?_, ?_⟩
            · have hc := hC.cell
              have hf := hC.frozen
              have hbl := hC.below
              go_simp
              first | rfl | (go_at_call 33; refine (of_is (hKr.up (by repeat (first | exact Below.refl _ _ | refine Below.alloc ?_ (by first | omega | (simp; done) | (simp; omega)) _ | refine Below.setCell ?_ (by first | omega | (simp; done) | (simp; omega)) _ | refine Below.drew ?_ | refine Below.drewN ?_ _ | refine Below.via (by assumption) (by first | omega | (simp; done) | (simp; omega)) ?_))) I.top R.top HS).mono ?_; rintro e w2 ⟨rfl, h⟩; first | exact ⟨rfl, hC.then h⟩ | (subst h; exact ⟨rfl, hC⟩))
            go_simp
            refine hK _ ?_
            clear hK K
          iterate 6
            refine q_skip ?_ ?_
            · rfl
            simp only [Act.put, List.setIfInBounds_toArray, List.set]
          iterate 2
            refine q_step rfl (fun K hK => ?_)
            apply Exists.intro
            refine ⟨fun w' hC => ?_, ?_⟩
            · have hc := hC.cell
              have hf := hC.frozen
              have hbl := hC.below
              go_simp
              first | rfl | (go_at_call 33; refine (of_is (hKr.up (by repeat (first | exact Below.refl _ _ | refine Below.alloc ?_ (by first | omega | (simp; done) | (simp; omega)) _ | refine Below.setCell ?_ (by first | omega | (simp; done) | (simp; omega)) _ | refine Below.drew ?_ | refine Below.drewN ?_ _ | refine Below.via (by assumption) (by first | omega | (simp; done) | (simp; omega)) ?_))) I.top R.top HS).mono ?_; rintro e w2 ⟨rfl, h⟩; first | exact ⟨rfl, hC.then h⟩ | (subst h; exact ⟨rfl, hC⟩))
            go_simp
            refine hK _ ?_
            clear hK K
          refine wpQuiet_nil (fun w_23 C_23 => ?_)
          refine wpList_nil ?_
          show (Exit.then _ _) Exit.normal _ _
          have c_23 := C_23.cell
          have f_23 := C_23.frozen
          have z_23 := C_23.size
          have b_23 := C_23.below
          clear C_23
          try simp only [hz_alloc, hz_set, hz_drew] at z_23 c_23 f_23
          go_wp2_with fail
          go_ret
          exact ⟨rfl, hBw.trans ((((below_alloc _ _).alloc (by rw [hz_alloc]; omega) _).trans (b_23.mono (by simp only [hz_alloc]; omega))).mono hBw.size)⟩
      · have t1 : decide ((127 : Int) < (c.relays.length : Int)) = true := by simp; omega
        go_wp2_with fail
        refine wp_region_tail 19 (Up _) (by kernel_rfl) (by kernel_rfl) (Up.drew _) ?_
        dsimp only [List.take, List.drop]
        iterate 5
          refine q_step rfl (fun K hK => ?_)
          apply Exists.intro
          refine ⟨fun w' hC => ?_, ?_⟩
          · have hc := hC.cell
            have hf := hC.frozen
            have hbl := hC.below
            go_simp
            first | rfl | (go_at_call 33; refine (of_is (hKr.up (by repeat (first | exact Below.refl _ _ | refine Below.alloc ?_ (by first | omega | (simp; done) | (simp; omega)) _ | refine Below.setCell ?_ (by first | omega | (simp; done) | (simp; omega)) _ | refine Below.drew ?_ | refine Below.drewN ?_ _ | refine Below.via (by assumption) (by first | omega | (simp; done) | (simp; omega)) ?_))) I.top R.top HS).mono ?_; rintro e w2 ⟨rfl, h⟩; first | exact ⟨rfl, hC.then h⟩ | (subst h; exact ⟨rfl, hC⟩))
          go_simp
          refine hK _ ?_
          clear hK K
        iterate 4
          refine q_skip ?_ ?_
          · rfl
          simp only [Act.put, List.setIfInBounds_toArray, List.set]
        iterate 2
          refine q_step rfl (fun K hK => ?_)
          apply Exists.intro
          refine ⟨fun w' hC => ?_, ?_⟩
          · have hc := hC.cell
            have hf := hC.frozen
            have hbl := hC.below
            go_simp
            first | rfl | (go_at_call 33; refine (of_is (hKr.up (by repeat (first | exact Below.refl _ _ | refine Below.alloc ?_ (by first | omega | (simp; done) | (simp; omega)) _ | refine Below.setCell ?_ (by first | omega | (simp; done) | (simp; omega)) _ | refine Below.drew ?_ | refine Below.drewN ?_ _ | refine Below.via (by assumption) (by first | omega | (simp; done) | (simp; omega)) ?_))) I.top R.top HS).mono ?_; rintro e w2 ⟨rfl, h⟩; first | exact ⟨rfl, hC.then h⟩ | (subst h; exact ⟨rfl, hC⟩))
          go_simp
          refine hK _ ?_
          clear hK K
        iterate 6
          refine q_skip ?_ ?_
          · rfl
          simp only [Act.put, List.setIfInBounds_toArray, List.set]
        iterate 2
          refine q_step rfl (fun K hK => ?_)
          apply Exists.intro
          refine ⟨fun w' hC => ?_, ?_⟩
          · have hc := hC.cell
            have hf := hC.frozen
            have hbl := hC.below
            go_simp
            first | rfl | (go_at_call 33; refine (of_is (hKr.up (by repeat (first | exact Below.refl _ _ | refine Below.alloc ?_ (by first | omega | (simp; done) | (simp; omega)) _ | refine Below.setCell ?_ (by first | omega | (simp; done) | (simp; omega)) _ | refine Below.drew ?_ | refine Below.drewN ?_ _ | refine Below.via (by assumption) (by first | omega | (simp; done) | (simp; omega)) ?_))) I.top R.top HS).mono ?_; rintro e w2 ⟨rfl, h⟩; first | exact ⟨rfl, hC.then h⟩ | (subst h; exact ⟨rfl, hC⟩))
          go_simp
          refine hK _ ?_
          clear hK K
        refine wpQuiet_nil (fun w_23 C_23 => ?_)
        refine wpList_nil ?_
        show (Exit.then _ _) Exit.normal _ _
        have c_23 := C_23.cell
        have f_23 := C_23.frozen
        have z_23 := C_23.size
        have b_23 := C_23.below
        clear C_23
        try simp only [hz_alloc, hz_set, hz_drew] at z_23 c_23 f_23
        go_wp2_with fail
        go_ret
        exact ⟨rfl, hBw.trans ((((below_alloc _ _).alloc (by rw [hz_alloc]; omega) _).trans (b_23.mono (by simp only [hz_alloc]; omega))).mono hBw.size)⟩
end Go.Proofs.Ytknplnfoekeljaa
