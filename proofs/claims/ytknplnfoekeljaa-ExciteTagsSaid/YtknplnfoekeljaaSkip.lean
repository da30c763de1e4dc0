/- Small words: an operation whose guard is false; coils that see the same. -/
import Derived.Test.YtknplnfoekeljaaWords
import Derived.Test.YtknplnfoekeljaaExcited
import Derived.Test.YtknplnfoekeljaaEval
namespace Go.Proofs.Ytknplnfoekeljaa
open Go.RowKit
theorem q_skip {P : Program} {ops : Array Oper} {C : World → Prop} {Q : Act → Prop} {a : Act} {o : Oper} {rest : List Oper} (hw : Region.wanted o (yielded ops a.tmps) = false)
    (h : wpQuiet P ops C Q rest (a.put o.dst undef)) : wpQuiet P ops C Q (o :: rest) a := by
  unfold wpQuiet; rw [if_neg (by rw [hw]; exact Bool.false_ne_true)]; exact h
theorem conducts_is (g : Graph) (p : Option Addr) (cap : Nat) (I R : BS) (w : World) (hes : EdgesAt w p cap g.edges) (hr : g.right) {x : Bool} (hx : Hid (x = g.conducts fun e => e.by_.closed I R)) :
    Calls Try.prog 34 #[.agg #[.int .i64 g.nodes, .slice p g.edges.length cap], setV I, setV R] w (Ret (.tuple #[.bool x, .int .i64 0]) w) := by
  rw [hx.out]; exact conducts_ok g p cap I R w hes hr
theorem of_is {w : World} {bk : Nat} {rs : List Relay} (h : CoilsAt w bk rs) (I R : BS) {S : BS} (hS : Hid (S = excited rs I R)) :
    Calls Try.prog 33 #[.pointer (some ⟨bk, 0, none⟩), setV I, setV R] w (Ret (setV S) w) := by
  rw [hS.out]; exact of_ok h I R
theorem conducts_congr (g : Graph) {cl cl' : Edge → Bool} (h : ∀ e, e ∈ g.edges → cl e = cl' e) : g.conducts cl = g.conducts cl' := by
  rw [Bool.eq_iff_iff, conducts_iff, conducts_iff]
  constructor
  · exact fun k => k.mono fun e he hc => ⟨he, by rw [← h e he]; exact hc⟩
  · exact fun k => k.mono fun e he hc => ⟨he, by rw [h e he]; exact hc⟩
theorem gC_congr (r : Relay) (k : Nat) {I R I' R' : BS} (h : ∀ g, g ∈ r.graphs → ∀ e, e ∈ g.edges → e.by_.closed I R = e.by_.closed I' R') : gC r k I R = gC r k I' R' := by
  unfold gC
  by_cases hk : k < r.graphs.length
  · have hm : r.graphs.getD k ⟨0, []⟩ ∈ r.graphs := by simp [hk]
    exact conducts_congr _ fun e he => h _ hm e he
  · have : r.graphs.getD k ⟨0, []⟩ = ⟨0, []⟩ := by simp [hk]
    rw [this]
    exact conducts_congr _ fun e he => by simp at he
theorem coil_congr (r : Relay) (own : Bool) {I R I' R' : BS} (h : ∀ g, g ∈ r.graphs → ∀ e, e ∈ g.edges → e.by_.closed I R = e.by_.closed I' R') : coil r own I R = coil r own I' R' := by
  unfold coil; rw [gC_congr r 0 h, gC_congr r 1 h]
theorem excited_congr (rs : List Relay) {I R I' R' : BS} (h128 : rs.length ≤ 128) (h : ∀ r, r ∈ rs → ∀ g, g ∈ r.graphs → ∀ e, e ∈ g.edges → e.by_.closed I R = e.by_.closed I' R')
    (hR : ∀ i, i < rs.length → R.has i = R'.has i) : excited rs I R = excited rs I' R' := by
  refine BS.ext_has fun i hi => ?_
  unfold excited
  rw [has_excTo _ _ _ _ _ h128, has_excTo _ _ _ _ _ h128]
  by_cases hlt : i < rs.length
  · have hm : rs.getD i ⟨ByteArray.empty, 0, []⟩ ∈ rs := by simp [hlt]
    rw [BS.hasI_nat, BS.hasI_nat, hR i hlt, coil_congr _ _ (h _ hm)]
  · have : decide (i < rs.length) = false := by simpa using hlt
    rw [this]; rfl
theorem excited_has (rs : List Relay) (I R : BS) (h128 : rs.length ≤ 128) {i : Nat} (hi : i < rs.length) : (excited rs I R).hasI (i : Int) = coil rs[i] (R.hasI (i : Int)) I R := by
  rw [BS.hasI_nat]
  unfold excited
  rw [has_excTo _ _ _ _ _ h128]
  simp [hi]
end Go.Proofs.Ytknplnfoekeljaa
