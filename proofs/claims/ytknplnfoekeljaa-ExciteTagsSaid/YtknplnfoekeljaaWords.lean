/- The words that the contracts of this claim use. -/
import Derived.Test.YtknplnfoekeljaaProg
import Derived.Test.YtknplnfoekeljaaSets
import Derived.Test.YtknplnfoekeljaaRegion
import Derived.WalkSpells
import Derived.WalkLawsBesides
import Derived.Deep.QuietTactic
import Derived.BigQuiet
import Derived.Lib.Hide
import Derived.Laws.MakeOwn
import Derived.RegionTactic
import Derived.BigRegion
namespace Go.Proofs.Ytknplnfoekeljaa
open Go.RowKit
/-- returns v; nothing that was there has turned -/
def Ret (v : Value) (w : World) (e : Ending) (w' : World) : Prop := e = .returned v ∧ Below w.heap.size w w'
theorem hz_alloc (w : World) (o : Obj) : (w.alloc o).heap.size = w.heap.size + 1 := by rw [show (w.alloc o).heap = w.heap.push o from rfl, Array.size_push]
theorem hz_set (w : World) (a : Addr) (v : Value) : (w.setCell a v).heap.size = w.heap.size := by simp [World.setCell]
theorem hz_drew (w : World) : w.drew.heap.size = w.heap.size := rfl
theorem hget_alloc (w : World) (o : Obj) (i : Nat) : (w.alloc o).heap[i]? = if i = w.heap.size then some o else w.heap[i]? := by
  rw [show (w.alloc o).heap = w.heap.push o from rfl, Array.getElem?_push]
theorem hget_drew (w : World) (i : Nat) : w.drew.heap[i]? = w.heap[i]? := rfl
/-- the worlds that are w below its heap's end -/
structure Up (w w' : World) : Prop where
  below : Below w.heap.size w w'
  cell : ∀ b o, b < w.heap.size → w'.cell? ⟨b, o, none⟩ = w.cell? ⟨b, o, none⟩
  frozen : ∀ b o, b < w.heap.size → w'.frozen? ⟨b, o, none⟩ = w.frozen? ⟨b, o, none⟩
theorem Up.of {w w' : World} (h : Below w.heap.size w w') : Up w w' := ⟨h, fun b o hb => h.cell (p := ⟨b, o, none⟩) hb, fun b o hb => h.frozen (p := ⟨b, o, none⟩) hb⟩
theorem Up.size {w w' : World} (h : Up w w') : w.heap.size ≤ w'.heap.size := h.below.size
theorem Up.refl (w : World) : Up w w := Up.of (Below.refl _ _)
theorem Up.drew (w : World) : Up w { w with drawn := w.drawn + 1 } := Up.of ⟨rfl, rfl, rfl, Nat.le_refl _, fun _ _ => rfl⟩
theorem Up.then {w w' w2 : World} (h : Up w w') (k : Below w'.heap.size w' w2) : Up w w2 := Up.of (h.below.trans (k.mono h.below.size))
theorem q_step {P : Program} {ops : Array Oper} {C : World → Prop} {Q : Act → Prop} {a : Act} {o : Oper} {rest : List Oper} (hw : Region.wanted o (yielded ops a.tmps) = true)
    (h : ∀ K : Act → Prop, (∀ a, wpQuiet P ops C Q rest a → K a) → ∃ v, (∀ w, C w → o.quietAt P a C w v) ∧ K (a.put o.dst v)) : wpQuiet P ops C Q (o :: rest) a := by
  unfold wpQuiet; rw [if_pos hw]; exact h _ (fun _ h => h)
theorem own_slice {w : World} {D T s n : Nat} {v : Value} {xs : List Value} (h : w.ownsRow D T s v n xs) : ∃ p l c, v = .slice p l c := by
  rcases h.2 with ⟨e, _⟩ | ⟨g, cap, cur, e, _⟩ <;> exact ⟨_, _, _, e⟩
theorem cell_one_at {w : World} {v : Value} {t : TypeId} {b : Nat} (hb : b = w.heap.size) : ∀ j u, [v][j]? = some u → (w.alloc (.cells #[v] t)).cell? ((⟨b, 0, none⟩ : Addr).add j) = some u := by
  subst hb; exact cell_one_new w v t
end Go.Proofs.Ytknplnfoekeljaa
namespace Go.RowKit
theorem _root_.Go.Proofs.Ytknplnfoekeljaa.below_alloc (w : World) (o : Obj) : Below w.heap.size w (w.alloc o) := (Below.refl _ _).alloc (Nat.le_refl _) o
theorem Below.via {B : Nat} {a w w1 : World} (h : Below w.heap.size w w1) (hB : B ≤ w.heap.size) (h0 : Below B a w) : Below B a w1 := h0.trans (h.mono hB)
theorem bcell {W w1 : World} (hb : Below W.heap.size W w1) : (∀ b o, b < W.heap.size → w1.cell? ⟨b, o, none⟩ = W.cell? ⟨b, o, none⟩) ∧ (∀ b o, b < W.heap.size → w1.frozen? ⟨b, o, none⟩ = W.frozen? ⟨b, o, none⟩) :=
  ⟨fun b o h => hb.cell (p := ⟨b, o, none⟩) h, fun b o h => hb.frozen (p := ⟨b, o, none⟩) h⟩
end Go.RowKit
