/- shape.Copy: memory of its own. -/
import Derived.Test.YtknplnfoekeljaaCells
import Derived.Test.YtknplnfoekeljaaValid
import Derived.Test.YtknplnfoekeljaaTidyRun
import Derived.Deep.RegionHeld3
import Derived.Deep.DrawnRows
namespace Go.Proofs.Ytknplnfoekeljaa
open Go.RowKit
attribute [local go_sem ↓] Go.wp_at_zero Go.wp_at_succ
/-- behind k rounds -/
def CopyTo (w : World) (bo : Nat) (W0 : World) (c : Circuit) (pI : Option Addr) (cI : Nat) (k : Nat) (wr : World) : Prop :=
  ∃ (vR : Value) (R : List RQ), R.map (·.r) = c.relays.take k ∧ wr.heap[bo]? = some (.cells #[.slice pI c.inputs.length cI, vR] 57 (0, 0)) ∧
    wr.ownsRow (bo + 1) 65 3 vR k (R.flatMap rCells) ∧
    Apart (w.heap.size + 2) (fun b => b = bo ∨ vR.ownBlock = some b) wr (fun W => StrsAt W pI cI c.inputs ∧ ∀ i (h : i < R.length), GraphsAt W R[i].p R[i].c R[i].r.graphs) ∧
    Below (w.heap.size + 2) W0 wr ∧ w.heap.size + 2 ≤ bo
/-- behind j rounds of the inner loop -/
def CopyG (bg : Nat) (W0 : World) (gs : List Graph) (j : Nat) (wi : World) : Prop :=
  ∃ L : List GQ, L.length = gs.length ∧ (∀ i (h : i < L.length) (h' : i < gs.length), i < j → L[i].g = gs[i]) ∧ wi.heap[bg]? = some (.cells (graphsV L) 34 (0, 0)) ∧
    Apart (bg + 1) (fun _ => False) wi (fun W => ∀ i (h : i < L.length), i < j → EdgesAt W L[i].p L[i].c L[i].g.edges) ∧ Below bg W0 wi
/-- what Copy leaves: its own -/
def Copied (c : Circuit) (w : World) (e : Ending) (w' : World) : Prop :=
  ∃ pi ci pr cr, e = .returned (circV pi ci pr cr c) ∧ Apart w.heap.size (fun _ => False) w' (fun W => CircAt W pi ci pr cr c) ∧ Below w.heap.size w w'
set_option maxRecDepth 100000 in
set_option maxHeartbeats 2000000 in
theorem copy_ok (c : Circuit) (pi : Option Addr) (ci : Nat) (pr : Option Addr) (cr : Nat) (w : World) (hc : CircAt w pi ci pr cr c) (hv : c.Valid) :
    Calls Try.prog 91 #[circV pi ci pr cr c] w (Copied c w) := by
  obtain ⟨is, his, hzs0, hzs1, hzs2⟩ := info_parts (show (Try.prog.info? 9).map (fun i => (i.zero, i.size, i.bytes)) = some (some (.string ⟨#[]⟩), 1, 16) by kernel_rfl)
  obtain ⟨ie, hie, hze0, hze1, hze2⟩ := info_parts (show (Try.prog.info? 52).map (fun i => (i.zero, i.size, i.bytes)) = some (some (edgeV eZero), 5, 40) by kernel_rfl)
  obtain ⟨ir, hir, hzr0, hzr1, hzr2⟩ := info_parts (show (Try.prog.info? 65).map (fun i => (i.zero, i.size, i.bytes)) = some (some (.agg #[.string ⟨#[]⟩, .int .i64 0, .slice none 0 0]), 3, 48) by kernel_rfl)
  have His := Lib.hid his; have Hs0 := Lib.hid hzs0; have Hs1 := Lib.hid hzs1; have Hs2 := Lib.hid hzs2
  have Hie := Lib.hid hie; have He0 := Lib.hid hze0; have He1 := Lib.hid hze1; have He2 := Lib.hid hze2
  have Hir := Lib.hid hir; have Hr0 := Lib.hid hzr0; have Hr1 := Lib.hid hzr1; have Hr2 := Lib.hid hzr2
  clear his hzs0 hzs1 hzs2 hie hze0 hze1 hze2 hir hzr0 hzr1 hzr2
  have hl1 := hv.ins
  have hl2 := hv.rels
  go_enter Try.func91, Try.ntmps91
  go_wp2_with (at_builtin; refine wpList_fresh (by rfl) _ _ 54 (by rfl) 9 is (.string ⟨#[]⟩) 1 16 Try.underlying54 His.out Hs0.out Hs1.out Hs2.out rfl (by decide) (by rfl) pi c.inputs.length ci (c.inputs.map Value.string) (by rfl) (by simp) (hc.inputs.up (by repeat (first | exact Below.refl _ _ | refine Below.alloc ?_ (by first | omega | (simp; done) | (simp; omega)) _ | refine Below.setCell ?_ (by first | omega | (simp; done) | (simp; omega)) _ | refine Below.drew ?_ | refine Below.drewN ?_ _ | refine Below.via (by assumption) (by first | omega | (simp; done) | (simp; omega)) ?_))).flat (strs_one _) (by unfold maxLen; omega) (by omega) ?_; go_must (intro v1 w1 hown1 hg1 hat1; obtain ⟨pI, cI, rfl, -, hI⟩ := strsAt_own hown1 hc.inputs.small (by omega); have hb1 : Below (w.heap.size + 2) ((w.alloc (.cells #[.slice pi c.inputs.length ci, .slice pr c.relays.length cr] 57)).alloc (.cells #[.slice none 0 0, .slice none 0 0] 57)) w1 := (Below.refl _ _).grown hg1 (by simp only [hz_alloc]; omega) (fun k hk => by cases hk); have z1 := hb1.size; obtain ⟨c1, f1⟩ := bcellB hb1; simp only [hz_alloc] at z1; have zz0 : w.heap.size < w1.heap.size := (by omega); have zz1 : w.heap.size + 1 < w1.heap.size := (by omega); have HA1 := Lib.hid (own_apart (B' := w.heap.size + 2) (X := fun b => b = w1.heap.size) hown1 (by simp only [hz_alloc]; omega) (fun b hb e => by have := (hown1.lt b hb).2; omega)); clear hown1 hg1 hat1))
  go_loopw [16] (fun v wr => ∃ k : Nat, k ≤ c.relays.length ∧ v = .int .i64 (k : Int) ∧ CopyTo w w1.heap.size ((w.alloc (.cells #[.slice pi c.inputs.length ci, .slice pr c.relays.length cr] 57)).alloc (.cells #[.slice none 0 0, .slice none 0 0] 57)) c pI cI k wr) (fun v _ => c.relays.length - (intOf v).toNat)
  case atStart =>
    refine ⟨0, Nat.zero_le _, rfl, .slice none 0 0, [], rfl, (by simp only [hget_alloc, hget_drew, hz_alloc, hz_drew]; repeat (first | rfl | rw [if_pos (by omega)] | rw [if_neg (by omega)])), World.ownsRow_nil _ _ _ _, ?_, hb1.alloc (by omega) _, by omega⟩
    refine ((HA1.out.imp fun W hW => ?_).alloc _).less fun b _ _ hy => ?_
    · obtain ⟨p, cap, hv', -, hS⟩ := strsAt_own hW hc.inputs.small (by omega)
      cases hv'
      exact ⟨hS, fun i hi => by simp at hi⟩
    · rcases hy with hy | hy
      · exact hy
      · cases hy
  case round =>
    clear HA1 hI
    obtain ⟨k, hk, rfl, vR, R, hR, hout, hrow, hAp, hB, hbo⟩ := hrel
    obtain ⟨wo, rfl⟩ : ∃ wo : World, wo = wr := ⟨_, rfl⟩
    have hBw : Below w.heap.size w wo := (show Below w.heap.size w _ from (by repeat (first | exact Below.refl _ _ | refine Below.alloc ?_ (by first | omega | (simp; done) | (simp; omega)) _ | refine Below.setCell ?_ (by first | omega | (simp; done) | (simp; omega)) _ | refine Below.drew ?_ | refine Below.drewN ?_ _ | refine Below.via (by assumption) (by first | omega | (simp; done) | (simp; omega)) ?_))).trans (hB.mono (by omega))
    have hz := hB.size
    simp only [hz_alloc] at hz
    have hbol : w1.heap.size < wo.heap.size := (Array.getElem?_eq_some_iff.1 hout).1
    by_cases hlt : k < c.relays.length
    · obtain ⟨b, off, hpr⟩ := hc.relays.at_ k hlt
      obtain ⟨pg, cg, hg, hsm, e0w, e1w, e2w⟩ := hc.relays.cell b off hpr k hlt
      have hbw : b < w.heap.size := World.block_lt_of_cell? w _ e0w
      have e0 := (hBw.cell (p := ⟨b, _, none⟩) hbw).trans e0w
      have e1 := (hBw.cell (p := ⟨b, _, none⟩) hbw).trans e1w
      have e2 := (hBw.cell (p := ⟨b, _, none⟩) hbw).trans e2w
      clear e0w e1w e2w
      subst hpr
      have zb : b < wo.heap.size := by omega
      have HT : Hid (c.relays.take (k + 1) = c.relays.take k ++ [c.relays[k]]) := List.take_succ_eq_append_getElem hlt
      have hfin : c.relayFine c.relays[k] := hv.fine _ (List.getElem_mem hlt)
      generalize c.relays[k] = r at *
      obtain ⟨nm, tg, gs⟩ := r
      dsimp only at e0 e1 e2 hg hsm
      have hgn : gs.length ≤ 2 := by
        have h := hfin.1
        simp only [tagGraphs] at h
        split at h
        · omega
        · split at h <;> omega
      have hgr : Hid (∀ g, g ∈ gs → g.edges.length ≤ 4096) := fun g hg => (hfin.2 g hg).1.2.2.1
      clear hfin
      have hmk := run_make_graphs gs.length (by omega)
      have HR := Lib.hid hR; have Hout := Lib.hid hout; have Hrow := Lib.hid hrow; have HAp := Lib.hid hAp
      clear hR hout hrow hAp c1 f1
      go_wp2_with fail
      clear hmk
      go_loopw [27] (fun v wi => ∃ j : Nat, j ≤ gs.length ∧ v = .int .i64 (j : Int) ∧ CopyG (wo.heap.size + 1) (wo.alloc (.cells #[.string nm, .int .i64 tg, .slice pg gs.length cg] 65)) gs j wi) (fun v _ => gs.length - (intOf v).toNat)
      case atStart =>
        refine ⟨0, Nat.zero_le _, rfl, List.replicate gs.length gZero, by simp, fun i _ _ h => absurd h (Nat.not_lt_zero _), (by simp only [hget_alloc, hget_drew, hz_alloc, hz_drew]; repeat (first | rfl | rw [if_pos (by omega)] | rw [if_neg (by omega)])), fun W _ _ i _ h => absurd h (Nat.not_lt_zero _), (Below.refl _ _).alloc (by rw [hz_alloc]; omega) _⟩
      case round =>
        obtain ⟨j, hj, rfl, L, hL1, hL2, hrowG, hApG, hBG⟩ := hrel
        obtain ⟨wi, rfl⟩ : ∃ wi : World, wi = wr := ⟨_, rfl⟩
        have hBi : Below wo.heap.size wo wi := (below_alloc wo _).trans (hBG.mono (by omega))
        have hBwi : Below w.heap.size w wi := hBw.trans (hBi.mono (by omega))
        have hgl : wo.heap.size + 1 < wi.heap.size := (Array.getElem?_eq_some_iff.1 hrowG).1
        have zi0 : wo.heap.size < wi.heap.size := by omega
        have HL2 := Lib.hid hL2; have HrowG := Lib.hid hrowG; have HApG := Lib.hid hApG; have HL1 := Lib.hid hL1
        clear hL2 hrowG hApG hL1
        by_cases hjl : j < gs.length
        · obtain ⟨b2, off2, hpg⟩ := hg.at_ j hjl
          obtain ⟨pe, ce, he, f0w, f1w⟩ := hg.cell b2 off2 hpg j hjl
          have hbw2 : b2 < w.heap.size := World.block_lt_of_cell? w _ f0w
          have f0 := (hBwi.cell (p := ⟨b2, _, none⟩) hbw2).trans f0w
          have f1 := (hBwi.cell (p := ⟨b2, _, none⟩) hbw2).trans f1w
          have zb2 : b2 < wi.heap.size := by omega
          clear f0w f1w
          have hen : gs[j].edges.length ≤ 4096 := hgr.out _ (List.getElem_mem hjl)
          subst hpg
          obtain ⟨g, Hg⟩ : ∃ g, Hid (g = gs[j]) := ⟨gs[j], rfl⟩
          rw [← Hg.out] at f0 f1 he hen
          obtain ⟨nn, es⟩ := g
          dsimp only at f0 f1 he hen
          have i1 : (0 : Int) ≤ (j : Int) := by omega
          have i2 : (j : Int) < (gs.length : Int) := by omega
          have hLj : j < L.length := by have := HL1.out; omega
          go_wp2_with fail
          go_region_held3 (fun w' => w'.cell? ⟨wi.heap.size, 0, none⟩ = some (.int .i64 nn) ∧ w'.cell? ⟨wi.heap.size, 1, none⟩ = some (.slice pe es.length ce)) (first | go_keep | (refine ⟨hg2.cell (by go_simp) (by simp), hg2.cell (by go_simp) (by simp)⟩) | (refine ⟨?_, ?_⟩ <;> (rw [cell_set_ne (by omega), cell_set_ne (by omega)]; exact hg2.cell (by go_simp) (by simp)))) ((refine step_fresh (by rfl) _ _ 32 (by rfl) 52 ie (edgeV eZero) 5 40 Try.underlying32 Hie.out He0.out He1.out He2.out rfl (by decide) (by rfl) pe es.length ce (es.flatMap eCells) (by rfl) (eCells_length _) (he.up (by repeat (first | exact Below.refl _ _ | refine Below.alloc ?_ (by first | omega | (simp; done) | (simp; omega)) _ | refine Below.setCell ?_ (by first | omega | (simp; done) | (simp; omega)) _ | refine Below.drew ?_ | refine Below.drewN ?_ _ | refine Below.via (by assumption) (by first | omega | (simp; done) | (simp; omega)) ?_))).flat (eCells_one _) (by unfold maxLen; omega) (by omega) ?_; intro v2 w2 hown2 hg2 hat2; obtain ⟨-, p2, c2, rfl, hE2⟩ := edgesAt_own hown2 (by omega); have hw2 : w2.heap[wo.heap.size + 1]? = some (.cells (graphsV L) 34 (0, 0)) := (by rw [hg2.block _ (by simp; omega) (by simp), hget_drew, hget_alloc, if_neg (by omega)]; exact HrowG.out); have hb2 : Below wi.heap.size wi w2 := (by refine Below.grown ?_ hg2 (by simp) (by simp); exact (below_alloc _ _).drew); have r0 : w2.cell? ⟨wo.heap.size + 1, j * 2, none⟩ = some (.int .i64 L[j].g.nodes) := (by rw [cell_of_row _ _ _ _ _ _ hw2]; unfold graphsV; rw [List.getElem?_toArray]; exact flat_get gCells_len hLj (show 0 < 2 by omega)); have r1 : w2.cell? ⟨wo.heap.size + 1, j * 2 + 1, none⟩ = some (.slice L[j].p L[j].g.edges.length L[j].c) := (by rw [cell_of_row _ _ _ _ _ _ hw2]; unfold graphsV; rw [List.getElem?_toArray]; exact flat_get gCells_len hLj (show 1 < 2 by omega)); have rf := fun x => frozen_of_row _ _ x _ _ hw2; have Hw2 := Lib.hid hw2; clear hw2))
          clear f0 f1
          go_wp2_with fail
          go_roundw
          case rel =>
            have hbj : Below wi.heap.size wi ((w2.setCell ⟨wo.heap.size + 1, j * 2, none⟩ (.int .i64 nn)).setCell ⟨wo.heap.size + 1, j * 2 + 1, none⟩ (.slice p2 es.length c2)) ∨ True := .inr trivial
            clear hbj
            have hL1 := HL1.out
            have hA2 : Apart (wo.heap.size + 1 + 1) (fun _ => False) w2 (fun W => EdgesAt W p2 c2 es) :=
              (own_apart (B' := wo.heap.size + 1 + 1) (X := fun _ => False) hown2 (by simp; omega) (fun _ _ h => h)).imp fun W hW => by
                obtain ⟨-, p', c', hv', hE⟩ := edgesAt_own hW (by omega)
                cases hv'; exact hE
            refine ⟨j + 1, by omega, by go_num, L.set j ⟨⟨nn, es⟩, p2, c2⟩, by simpa using hL1, fun i h h' hij => ?_, ?_, ?_, ?_⟩
            · by_cases e : j = i
              · subst e; rw [List.getElem_set_self, ← Hg.out]
              · rw [List.getElem_set_ne e]; exact HL2.out i (by simpa using h) h' (by omega)
            · rw [heap_setCell_same _ _ _ _ _ _ (heap_setCell_same _ _ _ _ _ _ Hw2.out)]
              exact congrArg some (congrArg (fun x => Obj.cells x _ _) (graphs_set2 hLj ⟨⟨nn, es⟩, p2, c2⟩))
            · refine ((((HApG.out.below hb2).and hA2).set (by omega)).set (by omega)).imp fun W hW i hi hij => ?_
              by_cases e : j = i
              · subst e; rw [List.getElem_set_self]; exact hW.2
              · rw [List.getElem_set_ne e]; exact hW.1 i (by simpa using hi) (by omega)
            · exact ((hBG.trans (hb2.mono (by omega))).setCell (p := ⟨_, _, none⟩) (Nat.le_refl _) _).setCell (p := ⟨_, _, none⟩) (Nat.le_refl _) _
          case measure => simp [intOf]; omega
        · have hGA : Apart (wo.heap.size + 1) (fun _ => False) wi (fun W => GraphsAt W (some ⟨wo.heap.size + 1, 0, none⟩) gs.length gs) := fun W h1 h2 => by
            have hL1 := HL1.out
            have hmap : L.map (·.g) = gs := List.ext_getElem (by simpa using hL1) fun i h1 h2 => by
              rw [List.getElem_map]; exact HL2.out i (by simpa using h1) h2 (by omega)
            have hE := HApG.out W h1 fun b hb hlt hx => h2 b (by omega) hlt hx
            have hrow := (h2 (wo.heap.size + 1) (Nat.le_refl _) hgl (fun h => h)).trans HrowG.out
            have := graphsAt_row (cap := gs.length) hrow (fun i hi => hE i hi (by omega)) (by omega) (by omega)
            rwa [hmap] at this
          have u0 : wi.cell? ⟨wo.heap.size, 0, none⟩ = some (.string nm) := by rw [hBG.cell (p := ⟨wo.heap.size, 0, none⟩) (by show wo.heap.size < _; omega)]; go_simp
          have u1 : wi.cell? ⟨wo.heap.size, 1, none⟩ = some (.int .i64 tg) := by rw [hBG.cell (p := ⟨wo.heap.size, 1, none⟩) (by show wo.heap.size < _; omega)]; go_simp
          have o1 : wi.cell? ⟨w1.heap.size, 1, none⟩ = some vR := by rw [hBi.cell (p := ⟨w1.heap.size, 1, none⟩) hbol, cell_of_row _ _ _ _ _ _ Hout.out]; rfl
          have zi1 : w1.heap.size < wi.heap.size := by omega
          obtain ⟨pv, lv, cv, rfl⟩ := own_slice Hrow.out
          have hrowi : wi.ownsRow (w1.heap.size + 1) 65 3 (.slice pv lv cv) k (R.flatMap rCells) := by
            have h := own_apart (B' := 0) (X := fun b => wo.heap.size ≤ b) Hrow.out (Nat.zero_le _) (fun b hb => by have := (Hrow.out.lt b hb).2; omega)
            exact h wi hBi.size fun b _ hlt _ => hBi.block b hlt
          have Hrowi := Lib.hid hrowi
          have houti : wi.heap[w1.heap.size]? = _ := (hBi.block _ hbol).trans Hout.out
          have Houti := Lib.hid houti
          clear hrowi houti
          go_wp2_with (at_builtin; refine wpList_append_own_at _ (by rfl) _ _ 55 (by rfl) (w1.heap.size + 1) 65 ir (.agg #[.string ⟨#[]⟩, .int .i64 0, .slice none 0 0]) 3 48 Try.underlying55 Hir.out Hr0.out Hr1.out Hr2.out rfl (by decide) _ _ _ (by rfl) (Hrowi.out.alloc _) ⟨wi.heap.size, 0, none⟩ 1 1 (rCells ⟨⟨nm, tg, gs⟩, some ⟨wo.heap.size + 1, 0, none⟩, gs.length⟩) (by rfl) (by rfl) (World.news_of_block (cs := #[.string nm, .int .i64 tg, .slice (some ⟨wo.heap.size + 1, 0, none⟩) gs.length gs.length]) (t := 65) (fr := (0, 0)) (heap_alloc_new _ _)) (by simp [rCells, Value.oneCell']) (by unfold maxLen; omega) (by omega) (by rw [hz_alloc]; omega) ?_; go_must (intro v3 w3 hown3 hg3 hn3 hat3; obtain ⟨p3, l3, c3, rfl⟩ := own_slice hown3; have hne : (some w1.heap.size : Option Nat) ≠ (Value.slice pv lv cv).ownBlock := (fun e => by have := (Hrowi.out.lt _ e.symm).1; omega); have hw3 := (hg3.block w1.heap.size (by rw [hz_alloc]; omega) hne).trans ((Below.heap_alloc wi _ _ zi1).trans Houti.out); have s1 : w3.cell? ⟨w1.heap.size, 1, none⟩ = some (.slice pv lv cv) := (by rw [cell_of_row _ _ _ _ _ _ hw3]; rfl); have sf := fun x => frozen_of_row _ _ x _ _ hw3; have Hw3 := Lib.hid hw3; have Hg3 := Lib.hid hg3; have Hown3 := Lib.hid hown3; have Hat3 := Lib.hid hat3; clear hw3 hg3 hown3 hn3 hat3 hne))
          clear e0 e1 e2 u0 u1 o1 s1 sf
          go_wp2_with fail
          go_roundw
          case rel =>
            have hz3 : wi.heap.size + 1 ≤ w3.heap.size := by have := Hg3.out.size; rwa [hz_alloc] at this
            have hbl : ∀ b, (Value.slice p3 l3 c3).ownBlock = some b → b < wi.heap.size + 1 → (Value.slice pv lv cv).ownBlock = some b ∧ b < wo.heap.size := fun b hb hlt => by
              rcases Hat3.out with h | h
              · rw [h] at hb; exact ⟨hb, (Hrow.out.lt b hb).2⟩
              · rw [h, hz_alloc] at hb
                injection hb with hb; omega
            refine ⟨k + 1, by omega, by go_num, .slice p3 l3 c3, R ++ [⟨⟨nm, tg, gs⟩, some ⟨wo.heap.size + 1, 0, none⟩, gs.length⟩], ?_, ?_, ?_, ?_, ?_, hbo⟩
            · rw [HT.out, List.map_append, HR.out]; rfl
            · rw [heap_setCell_same _ _ _ _ _ _ Hw3.out]; rfl
            · rw [List.flatMap_append]
              have h := Hown3.out
              refine ownsRow_setCell_below ?_ (show w1.heap.size < w1.heap.size + 1 by omega) _
              simpa using h
            · have hold := HAp.out.go (w' := w3) (Y := fun b => b = w1.heap.size ∨ (Value.slice p3 l3 c3).ownBlock = some b) (by have := hBi.size; omega) (fun b h1 h2 hx => by
                have h3 := hBi.size
                rw [Hg3.out.block b (by rw [hz_alloc]; omega) (fun e => hx (.inr e.symm)), Below.heap_alloc wi _ _ (by omega)]
                exact hBi.block b h2) (fun b h1 h2 hy => by
                have h3 := hBi.size
                rcases hy with hy | hy
                · exact .inl hy
                · exact .inr (hbl b hy (by omega)).1)
              have hnew := (hGA.go (w' := w3) (Y := fun b => b = w1.heap.size ∨ (Value.slice p3 l3 c3).ownBlock = some b) (by omega) (fun b h1 h2 hx => by
                rw [Hg3.out.block b (by rw [hz_alloc]; omega) (fun e => by have := (Hrow.out.lt b e.symm).2; omega), Below.heap_alloc wi _ _ h2]) (fun b h1 h2 hy => by
                rcases hy with hy | hy
                · omega
                · have := (hbl b hy (by omega)).2; omega)).mono (B' := w.heap.size + 2) (by omega)
              refine ((hold.and hnew).set (b := w1.heap.size) (fun _ => .inl rfl)).imp fun W hW => ⟨hW.1.1, fun i hi => ?_⟩
              by_cases hir : i < R.length
              · rw [List.getElem_append_left hir]; exact hW.1.2 i hir
              · have : i = R.length := by rw [List.length_append] at hi; simp at hi; omega
                subst this
                rw [List.getElem_append_right (Nat.le_refl _)]
                simpa using hW.2
            · exact (((hB.trans (hBi.mono (by omega))).alloc (by omega) _).grown Hg3.out (by rw [hz_alloc]; omega) (fun j hj => by have := (Hrow.out.lt j hj).1; omega)).setCell (p := ⟨w1.heap.size, 1, none⟩) hbo _
          case measure => simp [intOf]; omega
    · have hke : c.relays.take k = c.relays := by rw [show k = c.relays.length by omega, List.take_length]
      rw [hke] at hR
      have hnm : ∀ i (h : i < R.length), R[i].r.name.size ≤ 9223372036854775807 := fun i h => by
        have hi : i < c.relays.length := by rw [← hR]; simpa using h
        have he : R[i].r = c.relays[i] := by simp [← hR]
        obtain ⟨b, off, hp⟩ := hc.relays.at_ i hi
        obtain ⟨_, _, _, hs, _⟩ := hc.relays.cell b off hp i hi
        rw [he]; exact hs
      obtain ⟨hk2, pR, cR, hvR, hRA⟩ := relaysAt_own hrow hAp.now.2 hnm (by omega)
      subst hvR
      have hA : Apart (w.heap.size + 2) (fun _ => False) wo (fun W => CircAt W pI cI pR cR c) := fun W h1 h2 => by
        have e1 := hAp W h1 fun b hb hlt _ => h2 b hb hlt (fun h => h)
        have e2 := own_apart (B' := w.heap.size + 2) (X := fun _ => False) hrow (by omega) (fun _ _ h => h) W h1 h2
        obtain ⟨-, p', c', hv', hRA'⟩ := relaysAt_own e2 e1.2 hnm (by omega)
        cases hv'
        rw [hR] at hRA'
        exact ⟨e1.1, hRA'⟩
      have hlenR : R.length = c.relays.length := by rw [← hR]; simp
      have HA := Lib.hid hA
      have o0 : wo.cell? ⟨w1.heap.size, 0, none⟩ = some (.slice pI c.inputs.length cI) := by rw [cell_of_row _ _ _ _ _ _ hout]; rfl
      have o1 : wo.cell? ⟨w1.heap.size, 1, none⟩ = some (.slice pR c.relays.length cR) := by rw [cell_of_row _ _ _ _ _ _ hout, ← hlenR]; rfl
      have zr : w.heap.size + 1 < wo.heap.size := by omega
      have t0 : wo.cell? ⟨w.heap.size + 1, 0, none⟩ = some (.slice none 0 0) := by rw [hB.cell (p := ⟨w.heap.size + 1, 0, none⟩) (by show w.heap.size + 1 < _; omega)]; go_simp
      have t1 : wo.cell? ⟨w.heap.size + 1, 1, none⟩ = some (.slice none 0 0) := by rw [hB.cell (p := ⟨w.heap.size + 1, 1, none⟩) (by show w.heap.size + 1 < _; omega)]; go_simp
      have tf : ∀ j, wo.frozen? ⟨w.heap.size + 1, j, none⟩ = false := fun j => by rw [hB.frozen (p := ⟨w.heap.size + 1, j, none⟩) (by show w.heap.size + 1 < _; omega)]; go_simp
      clear hA hR hke hRA hAp hrow hout hlenR hnm hk2 c1 f1
      go_wp2_with fail
      refine bodyPost_ret (v := circV pI cI pR cR c) (by simp [results, Try.results91, go_sem, *]) rfl ?_
      refine ⟨pI, cI, pR, cR, rfl, ?_, ?_⟩
      · exact ((HA.out.set (by omega)).set (by omega)).mono (by omega)
      · exact (hBw.setCell (p := ⟨w.heap.size + 1, _, none⟩) (by show w.heap.size ≤ w.heap.size + 1; omega) _).setCell (p := ⟨w.heap.size + 1, _, none⟩) (by show w.heap.size ≤ w.heap.size + 1; omega) _
end Go.Proofs.Ytknplnfoekeljaa
