/- The contracts of package excite: the coils. -/
import Derived.Test.YtknplnfoekeljaaCirc
import Derived.Test.YtknplnfoekeljaaConduct
namespace Go.Proofs.Ytknplnfoekeljaa
open Go.RowKit
/-- which relays are right: as many graphs as the tag has, each right -/
structure RelayOk (r : Relay) : Prop where
  tag : r.tag = 0 ∨ r.tag = 1 ∨ r.tag = 2
  count : r.graphs.length = if r.tag = 0 then 1 else 2
  right : ∀ g, g ∈ r.graphs → g.right
/-- does its graph number k conduct? -/
noncomputable def gC (r : Relay) (k : Nat) (I R : BS) : Bool := (r.graphs.getD k ⟨0, []⟩).conducts fun e => e.by_.closed I R
/-- the coil's value -/
noncomputable def coil (r : Relay) (own : Bool) (I R : BS) : Bool :=
  if r.tag = 1 then (!gC r 1 I R && (gC r 0 I R || own)) else if r.tag = 2 then (gC r 0 I R || (own && gC r 1 I R)) else gC r 0 I R
structure CoilsAt (w : World) (bk : Nat) (rs : List Relay) : Prop where
  at_ : ∃ pr cr, w.cell? ⟨bk, 0, none⟩ = some (.slice pr rs.length cr) ∧ RelaysAt w pr cr rs
  ok : ∀ r, r ∈ rs → RelayOk r
  n128 : rs.length ≤ 128
theorem CoilsAt.up {w w' : World} {bk : Nat} {rs : List Relay} (h : CoilsAt w bk rs) (k : Below w.heap.size w w') : CoilsAt w' bk rs := by
  obtain ⟨⟨pr, cr, h0, h1⟩, h2, h3⟩ := h
  exact ⟨⟨pr, cr, by rw [k.cell (p := ⟨bk, _, none⟩) (World.block_lt_of_cell? w _ h0)]; exact h0, h1.up k⟩, h2, h3⟩
theorem count_ok {w : World} {bk : Nat} {rs : List Relay} (h : CoilsAt w bk rs) : Calls Try.prog 37 #[.pointer (some ⟨bk, 0, none⟩)] w fun e w' => e = .returned (.int .i64 (rs.length : Int)) ∧ w = w' := by
  obtain ⟨⟨pr, cr, h0, h1⟩, h2, h3⟩ := h
  go_enter Try.func37, Try.ntmps37
  go_wp2
  go_ret
  exact ⟨rfl, rfl⟩
theorem count_nil (w : World) : Calls Try.prog 37 #[.pointer none] w fun e w' => e = .returned (.int .i64 0) ∧ w = w' := by
  go_enter Try.func37, Try.ntmps37
  go_wp2
  go_ret
  exact ⟨rfl, rfl⟩
/-- a graph of a list, as it lies -/
theorem GraphsAt.pick {w : World} {p : Option Addr} {cap : Nat} {gs : List Graph} (h : GraphsAt w p cap gs) {k : Nat} (hk : k < gs.length) :
    ∃ b off pe ce, p = some ⟨b, off, none⟩ ∧ b < w.heap.size ∧ EdgesAt w pe ce gs[k].edges ∧ w.cell? ⟨b, off + k * 2, none⟩ = some (.int .i64 gs[k].nodes) ∧ w.cell? ⟨b, off + k * 2 + 1, none⟩ = some (.slice pe gs[k].edges.length ce) := by
  obtain ⟨b, off, hp⟩ := h.at_ k hk
  obtain ⟨pe, ce, he, h0, h1⟩ := h.cell b off hp k hk
  exact ⟨b, off, pe, ce, hp, World.block_lt_of_cell? w _ h0, he, h0, h1⟩
set_option maxRecDepth 100000 in
set_option maxHeartbeats 2000000 in
theorem on_ok {w : World} {bk : Nat} {rs : List Relay} (h : CoilsAt w bk rs) (I R : BS) (i : Nat) (hi : i < rs.length) :
    Calls Try.prog 92 #[.pointer (some ⟨bk, 0, none⟩), .int .i64 (i : Int), setV I, setV R] w (Ret (.bool (coil rs[i] (R.hasI i) I R)) w) := by
  obtain ⟨⟨pr, cr, h0, h1⟩, h2, h3⟩ := h
  obtain ⟨b, off, rfl⟩ := h1.at_ i hi
  obtain ⟨pg, cg, hg, _, e0, e1, e2⟩ := h1.cell b off rfl i hi
  have hok := h2 _ (List.getElem_mem hi)
  have hbk : bk < w.heap.size := World.block_lt_of_cell? w _ h0
  have hbb : b < w.heap.size := World.block_lt_of_cell? w _ e0
  generalize rs[i] = r at *
  obtain ⟨nm, tg, gs⟩ := r
  obtain ⟨ht, hcnt, hright⟩ := hok
  dsimp only at e0 e1 e2 hcnt ht hright hg
  have hgl := hg.len
  clear h1 h2
  have hpos : 0 < gs.length := by rw [hcnt]; split <;> omega
  obtain ⟨b0, off0, pe0, ce0, rfl, hb0, he0, g0, g1⟩ := hg.pick hpos
  have HG0 : Hid (gC ⟨nm, tg, gs⟩ 0 I R = gs[0].conducts fun e => e.by_.closed I R) := by
    unfold Hid gC; simp [hpos]
  have hr0 : Hid (gs[0].right) := hright _ (List.getElem_mem hpos)
  simp only [Nat.zero_mul, Nat.add_zero] at g0 g1
  generalize gs[0] = G0 at *
  obtain ⟨n0, es0⟩ := G0
  dsimp only at g0 g1 he0
  have old_b0w_0 : b0 < w.heap.size := by omega
  have old_b0w_1 : b0 < w.heap.size + 1 := by omega
  have old_b0w_2 : b0 < w.heap.size + 1 + 1 := by omega
  have old_b0w_3 : b0 < w.heap.size + 1 + 1 + 1 := by omega
  have old_b0w_4 : b0 < w.heap.size + 1 + 1 + 1 + 1 := by omega
  have old_bw_0 : b < w.heap.size := by omega
  have old_bw_1 : b < w.heap.size + 1 := by omega
  have old_bw_2 : b < w.heap.size + 1 + 1 := by omega
  have old_bw_3 : b < w.heap.size + 1 + 1 + 1 := by omega
  have old_bw_4 : b < w.heap.size + 1 + 1 + 1 + 1 := by omega
  rcases ht with rfl | rfl | rfl
  · have HR : Hid (coil ⟨nm, 0, gs⟩ (R.hasI i) I R = Graph.conducts ⟨n0, es0⟩ fun e => e.by_.closed I R) := by
      unfold Hid coil; rw [if_neg (show ¬ ((0 : Int) = 1) by decide), if_neg (show ¬ ((0 : Int) = 2) by decide)]; exact HG0.out
    go_enter Try.func92, Try.ntmps92
    go_wp2_with fail
    refine wp_region_tail 12 (Up _) (by kernel_rfl) (by kernel_rfl) (Up.drew _) ?_
    dsimp only [List.take, List.drop]
    iterate 12
      refine q_step rfl (fun K hK => ?_)
      apply Exists.intro
      refine ⟨fun w' hC => ?_, ?_⟩
      · have hc := hC.cell
        have hf := hC.frozen
        have hbl := hC.below
        go_simp
        first | rfl | (go_at_call 34; refine (conducts_ok ⟨n0, es0⟩ pe0 ce0 I R _ (he0.up (by repeat (first | exact Below.refl _ _ | refine Below.alloc ?_ (by first | omega | (simp; done) | (simp; omega)) _ | refine Below.setCell ?_ (by first | omega | (simp; done) | (simp; omega)) _ | refine Below.drew ?_ | refine Below.drewN ?_ _ | refine Below.via (by assumption) (by first | omega | (simp; done) | (simp; omega)) ?_))) hr0.out).mono ?_; rintro e w2 ⟨rfl, h⟩; first | exact ⟨rfl, hC.then h⟩ | (subst h; exact ⟨rfl, hC⟩))
      go_simp
      refine hK _ ?_
      clear hK K
    refine wpQuiet_nil (fun w_2 C_2 => ?_)
    refine wpList_nil ?_
    show (Exit.then _ _) Exit.normal _ _
    have c_2 := C_2.cell
    have f_2 := C_2.frozen
    have z_2 := C_2.size
    have b_2 := C_2.below
    clear C_2
    try simp only [hz_alloc, hz_set, hz_drew] at z_2 c_2 f_2
    go_wp2_with fail
    go_ret
    rw [HR.out]
    exact ⟨rfl, (by repeat (first | exact Below.refl _ _ | refine Below.alloc ?_ (by first | omega | (simp; done) | (simp; omega)) _ | refine Below.setCell ?_ (by first | omega | (simp; done) | (simp; omega)) _ | refine Below.drew ?_ | refine Below.drewN ?_ _ | refine Below.via (by assumption) (by first | omega | (simp; done) | (simp; omega)) ?_))⟩
  · have hl2 : gs.length = 2 := by rw [hcnt]; rfl
    obtain ⟨b1, off1, pe1, ce1, hp1, hb1, he1, k0, k1⟩ := hg.pick (k := 1) (by omega)
    injection hp1 with hp1
    injection hp1 with hp1 hp2 _
    subst hp1; subst hp2
    have HG1 : Hid (gC ⟨nm, 1, gs⟩ 1 I R = (gs[1]'(by omega)).conducts fun e => e.by_.closed I R) := by
      unfold Hid gC; simp [show 1 < gs.length by omega]
    have hr1 : Hid ((gs[1]'(by omega)).right) := hright _ (List.getElem_mem _)
    have Hl2 := Lib.hid hl2
    generalize gs[1]'(by omega) = G1 at *
    obtain ⟨n1, es1⟩ := G1
    dsimp only at k0 k1 he1
    simp only [Nat.one_mul] at k0 k1
    have k1' : w.cell? ⟨b0, off0 + 3, none⟩ = some (.slice pe1 es1.length ce1) := k1
    have l1 : (1 : Nat) < gs.length := by omega
    have l1i : (1 : Int) < (gs.length : Int) := by omega
    clear hcnt hl2
    have HC : Hid (coil ⟨nm, 1, gs⟩ (R.hasI i) I R = (!Graph.conducts ⟨n1, es1⟩ (fun e => e.by_.closed I R) && (Graph.conducts ⟨n0, es0⟩ (fun e => e.by_.closed I R) || R.hasI i))) := by
      unfold Hid coil; rw [if_pos (show ((1 : Int) = 1) from rfl), HG0.out, HG1.out]
    cases hc1 : Graph.conducts ⟨n1, es1⟩ (fun e => e.by_.closed I R)
    · cases hc0 : Graph.conducts ⟨n0, es0⟩ (fun e => e.by_.closed I R)
      · have HR : Hid (coil ⟨nm, 1, gs⟩ (R.hasI i) I R = R.hasI i) := by unfold Hid; rw [HC.out, hc0, hc1]; rfl
        go_enter Try.func92, Try.ntmps92
        go_wp2_with fail
        refine wp_region_tail 12 (Up _) (by kernel_rfl) (by kernel_rfl) (Up.drew _) ?_
        dsimp only [List.take, List.drop]
        iterate 12
          refine q_step rfl (fun K hK => ?_)
          apply Exists.intro
          refine ⟨fun w' hC => ?_, ?_⟩
          · have hc := hC.cell
            have hf := hC.frozen
            have hbl := hC.below
            go_simp
            first | rfl | (go_at_call 34; refine (conducts_ok ⟨n0, es0⟩ pe0 ce0 I R _ (he0.up (by repeat (first | exact Below.refl _ _ | refine Below.alloc ?_ (by first | omega | (simp; done) | (simp; omega)) _ | refine Below.setCell ?_ (by first | omega | (simp; done) | (simp; omega)) _ | refine Below.drew ?_ | refine Below.drewN ?_ _ | refine Below.via (by assumption) (by first | omega | (simp; done) | (simp; omega)) ?_))) hr0.out).mono ?_; rintro e w2 ⟨rfl, h⟩; first | exact ⟨rfl, hC.then h⟩ | (subst h; exact ⟨rfl, hC⟩))
          go_simp
          refine hK _ ?_
          clear hK K
        refine wpQuiet_nil (fun w_2 C_2 => ?_)
        refine wpList_nil ?_
        show (Exit.then _ _) Exit.normal _ _
        have c_2 := C_2.cell
        have f_2 := C_2.frozen
        have z_2 := C_2.size
        have b_2 := C_2.below
        clear C_2
        try simp only [hz_alloc, hz_set, hz_drew] at z_2 c_2 f_2
        have old_b0w_2_0 : b0 < w_2.heap.size := by omega
        have new_ww_2_0 : w.heap.size < w_2.heap.size := by omega
        have new_ww_2_1 : w.heap.size + 1 < w_2.heap.size := by omega
        have new_ww_2_2 : w.heap.size + 1 + 1 < w_2.heap.size := by omega
        go_wp2_with fail
        refine wp_region_tail 12 (Up _) (by kernel_rfl) (by kernel_rfl) (Up.drew _) ?_
        dsimp only [List.take, List.drop]
        iterate 12
          refine q_step rfl (fun K hK => ?_)
          apply Exists.intro
          refine ⟨fun w' hC => ?_, ?_⟩
          · have hc := hC.cell
            have hf := hC.frozen
            have hbl := hC.below
            go_simp
            first | rfl | (go_at_call 34; refine (conducts_ok ⟨n1, es1⟩ pe1 ce1 I R _ (he1.up (by repeat (first | exact Below.refl _ _ | refine Below.alloc ?_ (by first | omega | (simp; done) | (simp; omega)) _ | refine Below.setCell ?_ (by first | omega | (simp; done) | (simp; omega)) _ | refine Below.drew ?_ | refine Below.drewN ?_ _ | refine Below.via (by assumption) (by first | omega | (simp; done) | (simp; omega)) ?_))) hr1.out).mono ?_; rintro e w2 ⟨rfl, h⟩; first | exact ⟨rfl, hC.then h⟩ | (subst h; exact ⟨rfl, hC⟩))
          go_simp
          refine hK _ ?_
          clear hK K
        refine wpQuiet_nil (fun w_5 C_5 => ?_)
        refine wpList_nil ?_
        show (Exit.then _ _) Exit.normal _ _
        have c_5 := C_5.cell
        have f_5 := C_5.frozen
        have z_5 := C_5.size
        have b_5 := C_5.below
        clear C_5
        try simp only [hz_alloc, hz_set, hz_drew] at z_5 c_5 f_5
        go_wp2_with fail
        refine (has_ok R i _).mono ?_; rintro e w9 ⟨rfl, hb9⟩
        have z_hb9 := hb9.size
        obtain ⟨c_hb9, f_hb9⟩ := bcell hb9
        try simp only [hz_alloc, hz_set, hz_drew] at z_hb9 c_hb9 f_hb9
        go_wp2_with fail
        go_ret
        rw [HR.out]
        exact ⟨rfl, (by repeat (first | exact Below.refl _ _ | refine Below.alloc ?_ (by first | omega | (simp; done) | (simp; omega)) _ | refine Below.setCell ?_ (by first | omega | (simp; done) | (simp; omega)) _ | refine Below.drew ?_ | refine Below.drewN ?_ _ | refine Below.via (by assumption) (by first | omega | (simp; done) | (simp; omega)) ?_))⟩
      · have HR : Hid (coil ⟨nm, 1, gs⟩ (R.hasI i) I R = true) := by unfold Hid; rw [HC.out, hc0, hc1]; rfl
        go_enter Try.func92, Try.ntmps92
        go_wp2_with fail
        refine wp_region_tail 12 (Up _) (by kernel_rfl) (by kernel_rfl) (Up.drew _) ?_
        dsimp only [List.take, List.drop]
        iterate 12
          refine q_step rfl (fun K hK => ?_)
          apply Exists.intro
          refine ⟨fun w' hC => ?_, ?_⟩
          · have hc := hC.cell
            have hf := hC.frozen
            have hbl := hC.below
            go_simp
            first | rfl | (go_at_call 34; refine (conducts_ok ⟨n0, es0⟩ pe0 ce0 I R _ (he0.up (by repeat (first | exact Below.refl _ _ | refine Below.alloc ?_ (by first | omega | (simp; done) | (simp; omega)) _ | refine Below.setCell ?_ (by first | omega | (simp; done) | (simp; omega)) _ | refine Below.drew ?_ | refine Below.drewN ?_ _ | refine Below.via (by assumption) (by first | omega | (simp; done) | (simp; omega)) ?_))) hr0.out).mono ?_; rintro e w2 ⟨rfl, h⟩; first | exact ⟨rfl, hC.then h⟩ | (subst h; exact ⟨rfl, hC⟩))
          go_simp
          refine hK _ ?_
          clear hK K
        refine wpQuiet_nil (fun w_2 C_2 => ?_)
        refine wpList_nil ?_
        show (Exit.then _ _) Exit.normal _ _
        have c_2 := C_2.cell
        have f_2 := C_2.frozen
        have z_2 := C_2.size
        have b_2 := C_2.below
        clear C_2
        try simp only [hz_alloc, hz_set, hz_drew] at z_2 c_2 f_2
        have old_b0w_2_0 : b0 < w_2.heap.size := by omega
        have new_ww_2_0 : w.heap.size < w_2.heap.size := by omega
        have new_ww_2_1 : w.heap.size + 1 < w_2.heap.size := by omega
        have new_ww_2_2 : w.heap.size + 1 + 1 < w_2.heap.size := by omega
        go_wp2_with fail
        refine wp_region_tail 12 (Up _) (by kernel_rfl) (by kernel_rfl) (Up.drew _) ?_
        dsimp only [List.take, List.drop]
        iterate 12
          refine q_step rfl (fun K hK => ?_)
          apply Exists.intro
          refine ⟨fun w' hC => ?_, ?_⟩
          · have hc := hC.cell
            have hf := hC.frozen
            have hbl := hC.below
            go_simp
            first | rfl | (go_at_call 34; refine (conducts_ok ⟨n1, es1⟩ pe1 ce1 I R _ (he1.up (by repeat (first | exact Below.refl _ _ | refine Below.alloc ?_ (by first | omega | (simp; done) | (simp; omega)) _ | refine Below.setCell ?_ (by first | omega | (simp; done) | (simp; omega)) _ | refine Below.drew ?_ | refine Below.drewN ?_ _ | refine Below.via (by assumption) (by first | omega | (simp; done) | (simp; omega)) ?_))) hr1.out).mono ?_; rintro e w2 ⟨rfl, h⟩; first | exact ⟨rfl, hC.then h⟩ | (subst h; exact ⟨rfl, hC⟩))
          go_simp
          refine hK _ ?_
          clear hK K
        refine wpQuiet_nil (fun w_5 C_5 => ?_)
        refine wpList_nil ?_
        show (Exit.then _ _) Exit.normal _ _
        have c_5 := C_5.cell
        have f_5 := C_5.frozen
        have z_5 := C_5.size
        have b_5 := C_5.below
        clear C_5
        try simp only [hz_alloc, hz_set, hz_drew] at z_5 c_5 f_5
        go_wp2_with fail
        go_ret
        rw [HR.out]
        exact ⟨rfl, (by repeat (first | exact Below.refl _ _ | refine Below.alloc ?_ (by first | omega | (simp; done) | (simp; omega)) _ | refine Below.setCell ?_ (by first | omega | (simp; done) | (simp; omega)) _ | refine Below.drew ?_ | refine Below.drewN ?_ _ | refine Below.via (by assumption) (by first | omega | (simp; done) | (simp; omega)) ?_))⟩
    · have HR : Hid (coil ⟨nm, 1, gs⟩ (R.hasI i) I R = false) := by unfold Hid; rw [HC.out, hc1]; rfl
      go_enter Try.func92, Try.ntmps92
      go_wp2_with fail
      refine wp_region_tail 12 (Up _) (by kernel_rfl) (by kernel_rfl) (Up.drew _) ?_
      dsimp only [List.take, List.drop]
      iterate 12
        refine q_step rfl (fun K hK => ?_)
        apply Exists.intro
        refine ⟨fun w' hC => ?_, ?_⟩
        · have hc := hC.cell
          have hf := hC.frozen
          have hbl := hC.below
          go_simp
          first | rfl | (go_at_call 34; refine (conducts_ok ⟨n0, es0⟩ pe0 ce0 I R _ (he0.up (by repeat (first | exact Below.refl _ _ | refine Below.alloc ?_ (by first | omega | (simp; done) | (simp; omega)) _ | refine Below.setCell ?_ (by first | omega | (simp; done) | (simp; omega)) _ | refine Below.drew ?_ | refine Below.drewN ?_ _ | refine Below.via (by assumption) (by first | omega | (simp; done) | (simp; omega)) ?_))) hr0.out).mono ?_; rintro e w2 ⟨rfl, h⟩; first | exact ⟨rfl, hC.then h⟩ | (subst h; exact ⟨rfl, hC⟩))
        go_simp
        refine hK _ ?_
        clear hK K
      refine wpQuiet_nil (fun w_2 C_2 => ?_)
      refine wpList_nil ?_
      show (Exit.then _ _) Exit.normal _ _
      have c_2 := C_2.cell
      have f_2 := C_2.frozen
      have z_2 := C_2.size
      have b_2 := C_2.below
      clear C_2
      try simp only [hz_alloc, hz_set, hz_drew] at z_2 c_2 f_2
      have old_b0w_2_0 : b0 < w_2.heap.size := by omega
      have new_ww_2_0 : w.heap.size < w_2.heap.size := by omega
      have new_ww_2_1 : w.heap.size + 1 < w_2.heap.size := by omega
      have new_ww_2_2 : w.heap.size + 1 + 1 < w_2.heap.size := by omega
      go_wp2_with fail
      refine wp_region_tail 12 (Up _) (by kernel_rfl) (by kernel_rfl) (Up.drew _) ?_
      dsimp only [List.take, List.drop]
      iterate 12
        refine q_step rfl (fun K hK => ?_)
        apply Exists.intro
        refine ⟨fun w' hC => ?_, ?_⟩
        · have hc := hC.cell
          have hf := hC.frozen
          have hbl := hC.below
          go_simp
          first | rfl | (go_at_call 34; refine (conducts_ok ⟨n1, es1⟩ pe1 ce1 I R _ (he1.up (by repeat (first | exact Below.refl _ _ | refine Below.alloc ?_ (by first | omega | (simp; done) | (simp; omega)) _ | refine Below.setCell ?_ (by first | omega | (simp; done) | (simp; omega)) _ | refine Below.drew ?_ | refine Below.drewN ?_ _ | refine Below.via (by assumption) (by first | omega | (simp; done) | (simp; omega)) ?_))) hr1.out).mono ?_; rintro e w2 ⟨rfl, h⟩; first | exact ⟨rfl, hC.then h⟩ | (subst h; exact ⟨rfl, hC⟩))
        go_simp
        refine hK _ ?_
        clear hK K
      refine wpQuiet_nil (fun w_5 C_5 => ?_)
      refine wpList_nil ?_
      show (Exit.then _ _) Exit.normal _ _
      have c_5 := C_5.cell
      have f_5 := C_5.frozen
      have z_5 := C_5.size
      have b_5 := C_5.below
      clear C_5
      try simp only [hz_alloc, hz_set, hz_drew] at z_5 c_5 f_5
      go_wp2_with fail
      go_ret
      rw [HR.out]
      exact ⟨rfl, (by repeat (first | exact Below.refl _ _ | refine Below.alloc ?_ (by first | omega | (simp; done) | (simp; omega)) _ | refine Below.setCell ?_ (by first | omega | (simp; done) | (simp; omega)) _ | refine Below.drew ?_ | refine Below.drewN ?_ _ | refine Below.via (by assumption) (by first | omega | (simp; done) | (simp; omega)) ?_))⟩
  · have hl2 : gs.length = 2 := by rw [hcnt]; rfl
    obtain ⟨b1, off1, pe1, ce1, hp1, hb1, he1, k0, k1⟩ := hg.pick (k := 1) (by omega)
    injection hp1 with hp1
    injection hp1 with hp1 hp2 _
    subst hp1; subst hp2
    have HG1 : Hid (gC ⟨nm, 2, gs⟩ 1 I R = (gs[1]'(by omega)).conducts fun e => e.by_.closed I R) := by
      unfold Hid gC; simp [show 1 < gs.length by omega]
    have hr1 : Hid ((gs[1]'(by omega)).right) := hright _ (List.getElem_mem _)
    have Hl2 := Lib.hid hl2
    generalize gs[1]'(by omega) = G1 at *
    obtain ⟨n1, es1⟩ := G1
    dsimp only at k0 k1 he1
    simp only [Nat.one_mul] at k0 k1
    have k1' : w.cell? ⟨b0, off0 + 3, none⟩ = some (.slice pe1 es1.length ce1) := k1
    have l1 : (1 : Nat) < gs.length := by omega
    have l1i : (1 : Int) < (gs.length : Int) := by omega
    clear hcnt hl2
    have HC : Hid (coil ⟨nm, 2, gs⟩ (R.hasI i) I R = (Graph.conducts ⟨n0, es0⟩ (fun e => e.by_.closed I R) || (R.hasI i && Graph.conducts ⟨n1, es1⟩ (fun e => e.by_.closed I R)))) := by
      unfold Hid coil; rw [if_neg (show ¬ ((2 : Int) = 1) by decide), if_pos (show ((2 : Int) = 2) from rfl), HG0.out, HG1.out]
    cases hc0 : Graph.conducts ⟨n0, es0⟩ (fun e => e.by_.closed I R)
    · cases ho : R.hasI i
      · have HR : Hid (coil ⟨nm, 2, gs⟩ false I R = false) := by have := HC.out; rw [ho, hc0] at this; exact this
        have Ho := Lib.hid ho
        clear ho
        go_enter Try.func92, Try.ntmps92
        go_wp2_with fail
        refine wp_region_tail 12 (Up _) (by kernel_rfl) (by kernel_rfl) (Up.drew _) ?_
        dsimp only [List.take, List.drop]
        iterate 12
          refine q_step rfl (fun K hK => ?_)
          apply Exists.intro
          refine ⟨fun w' hC => ?_, ?_⟩
          · have hc := hC.cell
            have hf := hC.frozen
            have hbl := hC.below
            go_simp
            first | rfl | (go_at_call 34; refine (conducts_ok ⟨n0, es0⟩ pe0 ce0 I R _ (he0.up (by repeat (first | exact Below.refl _ _ | refine Below.alloc ?_ (by first | omega | (simp; done) | (simp; omega)) _ | refine Below.setCell ?_ (by first | omega | (simp; done) | (simp; omega)) _ | refine Below.drew ?_ | refine Below.drewN ?_ _ | refine Below.via (by assumption) (by first | omega | (simp; done) | (simp; omega)) ?_))) hr0.out).mono ?_; rintro e w2 ⟨rfl, h⟩; first | exact ⟨rfl, hC.then h⟩ | (subst h; exact ⟨rfl, hC⟩))
          go_simp
          refine hK _ ?_
          clear hK K
        refine wpQuiet_nil (fun w_2 C_2 => ?_)
        refine wpList_nil ?_
        show (Exit.then _ _) Exit.normal _ _
        have c_2 := C_2.cell
        have f_2 := C_2.frozen
        have z_2 := C_2.size
        have b_2 := C_2.below
        clear C_2
        try simp only [hz_alloc, hz_set, hz_drew] at z_2 c_2 f_2
        go_wp2_with fail
        refine (has_ok R i _).mono ?_; rintro e w9 ⟨rfl, hb9⟩
        rw [Ho.out]
        have z_hb9 := hb9.size
        obtain ⟨c_hb9, f_hb9⟩ := bcell hb9
        try simp only [hz_alloc, hz_set, hz_drew] at z_hb9 c_hb9 f_hb9
        go_wp2_with fail
        go_ret
        rw [HR.out]
        exact ⟨rfl, (by repeat (first | exact Below.refl _ _ | refine Below.alloc ?_ (by first | omega | (simp; done) | (simp; omega)) _ | refine Below.setCell ?_ (by first | omega | (simp; done) | (simp; omega)) _ | refine Below.drew ?_ | refine Below.drewN ?_ _ | refine Below.via (by assumption) (by first | omega | (simp; done) | (simp; omega)) ?_))⟩
      · have HR : Hid (coil ⟨nm, 2, gs⟩ true I R = Graph.conducts ⟨n1, es1⟩ (fun e => e.by_.closed I R)) := by have := HC.out; rw [ho, hc0] at this; unfold Hid; simpa using this
        have Ho := Lib.hid ho
        clear ho
        go_enter Try.func92, Try.ntmps92
        go_wp2_with fail
        refine wp_region_tail 12 (Up _) (by kernel_rfl) (by kernel_rfl) (Up.drew _) ?_
        dsimp only [List.take, List.drop]
        iterate 12
          refine q_step rfl (fun K hK => ?_)
          apply Exists.intro
          refine ⟨fun w' hC => ?_, ?_⟩
          · have hc := hC.cell
            have hf := hC.frozen
            have hbl := hC.below
            go_simp
            first | rfl | (go_at_call 34; refine (conducts_ok ⟨n0, es0⟩ pe0 ce0 I R _ (he0.up (by repeat (first | exact Below.refl _ _ | refine Below.alloc ?_ (by first | omega | (simp; done) | (simp; omega)) _ | refine Below.setCell ?_ (by first | omega | (simp; done) | (simp; omega)) _ | refine Below.drew ?_ | refine Below.drewN ?_ _ | refine Below.via (by assumption) (by first | omega | (simp; done) | (simp; omega)) ?_))) hr0.out).mono ?_; rintro e w2 ⟨rfl, h⟩; first | exact ⟨rfl, hC.then h⟩ | (subst h; exact ⟨rfl, hC⟩))
          go_simp
          refine hK _ ?_
          clear hK K
        refine wpQuiet_nil (fun w_2 C_2 => ?_)
        refine wpList_nil ?_
        show (Exit.then _ _) Exit.normal _ _
        have c_2 := C_2.cell
        have f_2 := C_2.frozen
        have z_2 := C_2.size
        have b_2 := C_2.below
        clear C_2
        try simp only [hz_alloc, hz_set, hz_drew] at z_2 c_2 f_2
        have old_b0w_2_0 : b0 < w_2.heap.size := by omega
        have new_ww_2_0 : w.heap.size < w_2.heap.size := by omega
        have new_ww_2_1 : w.heap.size + 1 < w_2.heap.size := by omega
        have new_ww_2_2 : w.heap.size + 1 + 1 < w_2.heap.size := by omega
        go_wp2_with fail
        refine (has_ok R i _).mono ?_; rintro e w9 ⟨rfl, hb9⟩
        rw [Ho.out]
        have z_hb9 := hb9.size
        obtain ⟨c_hb9, f_hb9⟩ := bcell hb9
        try simp only [hz_alloc, hz_set, hz_drew] at z_hb9 c_hb9 f_hb9
        have old_b0w9_0 : b0 < w9.heap.size := by omega
        have new_ww9_0 : w.heap.size < w9.heap.size := by omega
        have new_ww9_1 : w.heap.size + 1 < w9.heap.size := by omega
        have new_ww9_2 : w.heap.size + 1 + 1 < w9.heap.size := by omega
        go_wp2_with fail
        refine wp_region_tail 12 (Up _) (by kernel_rfl) (by kernel_rfl) (Up.drew _) ?_
        dsimp only [List.take, List.drop]
        iterate 12
          refine q_step rfl (fun K hK => ?_)
          apply Exists.intro
          refine ⟨fun w' hC => ?_, ?_⟩
          · have hc := hC.cell
            have hf := hC.frozen
            have hbl := hC.below
            go_simp
            first | rfl | (go_at_call 34; refine (conducts_ok ⟨n1, es1⟩ pe1 ce1 I R _ (he1.up (by repeat (first | exact Below.refl _ _ | refine Below.alloc ?_ (by first | omega | (simp; done) | (simp; omega)) _ | refine Below.setCell ?_ (by first | omega | (simp; done) | (simp; omega)) _ | refine Below.drew ?_ | refine Below.drewN ?_ _ | refine Below.via (by assumption) (by first | omega | (simp; done) | (simp; omega)) ?_))) hr1.out).mono ?_; rintro e w2 ⟨rfl, h⟩; first | exact ⟨rfl, hC.then h⟩ | (subst h; exact ⟨rfl, hC⟩))
          go_simp
          refine hK _ ?_
          clear hK K
        refine wpQuiet_nil (fun w_12 C_12 => ?_)
        refine wpList_nil ?_
        show (Exit.then _ _) Exit.normal _ _
        have c_12 := C_12.cell
        have f_12 := C_12.frozen
        have z_12 := C_12.size
        have b_12 := C_12.below
        clear C_12
        try simp only [hz_alloc, hz_set, hz_drew] at z_12 c_12 f_12
        go_wp2_with fail
        go_ret
        rw [HR.out]
        exact ⟨rfl, (by repeat (first | exact Below.refl _ _ | refine Below.alloc ?_ (by first | omega | (simp; done) | (simp; omega)) _ | refine Below.setCell ?_ (by first | omega | (simp; done) | (simp; omega)) _ | refine Below.drew ?_ | refine Below.drewN ?_ _ | refine Below.via (by assumption) (by first | omega | (simp; done) | (simp; omega)) ?_))⟩
    · have HR : Hid (coil ⟨nm, 2, gs⟩ (R.hasI i) I R = true) := by unfold Hid; rw [HC.out, hc0]; rfl
      go_enter Try.func92, Try.ntmps92
      go_wp2_with fail
      refine wp_region_tail 12 (Up _) (by kernel_rfl) (by kernel_rfl) (Up.drew _) ?_
      dsimp only [List.take, List.drop]
      iterate 12
        refine q_step rfl (fun K hK => ?_)
        apply Exists.intro
        refine ⟨fun w' hC => ?_, ?_⟩
        · have hc := hC.cell
          have hf := hC.frozen
          have hbl := hC.below
          go_simp
          first | rfl | (go_at_call 34; refine (conducts_ok ⟨n0, es0⟩ pe0 ce0 I R _ (he0.up (by repeat (first | exact Below.refl _ _ | refine Below.alloc ?_ (by first | omega | (simp; done) | (simp; omega)) _ | refine Below.setCell ?_ (by first | omega | (simp; done) | (simp; omega)) _ | refine Below.drew ?_ | refine Below.drewN ?_ _ | refine Below.via (by assumption) (by first | omega | (simp; done) | (simp; omega)) ?_))) hr0.out).mono ?_; rintro e w2 ⟨rfl, h⟩; first | exact ⟨rfl, hC.then h⟩ | (subst h; exact ⟨rfl, hC⟩))
        go_simp
        refine hK _ ?_
        clear hK K
      refine wpQuiet_nil (fun w_2 C_2 => ?_)
      refine wpList_nil ?_
      show (Exit.then _ _) Exit.normal _ _
      have c_2 := C_2.cell
      have f_2 := C_2.frozen
      have z_2 := C_2.size
      have b_2 := C_2.below
      clear C_2
      try simp only [hz_alloc, hz_set, hz_drew] at z_2 c_2 f_2
      go_wp2_with fail
      go_ret
      rw [HR.out]
      exact ⟨rfl, (by repeat (first | exact Below.refl _ _ | refine Below.alloc ?_ (by first | omega | (simp; done) | (simp; omega)) _ | refine Below.setCell ?_ (by first | omega | (simp; done) | (simp; omega)) _ | refine Below.drew ?_ | refine Below.drewN ?_ _ | refine Below.via (by assumption) (by first | omega | (simp; done) | (simp; omega)) ?_))⟩
end Go.Proofs.Ytknplnfoekeljaa
