/- Sets compared. -/
import Derived.Test.YtknplnfoekeljaaWords
import Derived.DeepKeys
import Derived.OpenShut
namespace Go.Proofs.Ytknplnfoekeljaa
open Go.RowKit
theorem eql_lits {t : TypeId} (hk : Try.prog.keyTypeAt 8 t = true) {xs ys : Array Value} {lx ly : List Lit} {D D' : Nat} (fx : (Value.agg xs).formed Try.prog t = true) (fy : (Value.agg ys).formed Try.prog t = true)
    (hx : Try.prog.keyLits D t xs.toList = some lx) (hy : Try.prog.keyLits D' t ys.toList = some ly) (w : World) {b : Bool} (hb : b = true ↔ lx = ly) :
    (binOp .eql t (.agg xs) (.agg ys)).run Try.prog w = Result.ok (.bool b) w ∧ (binOp .neq t (.agg xs) (.agg ys)).run Try.prog w = Result.ok (.bool (!b)) w := by
  obtain ⟨r, h1, h2⟩ := run_equalIn_deep (P := Try.prog) 9992 8 t hk w D D' (.agg xs) (.agg ys) lx ly fx fy hx hy
  have e : r = b := by rw [Bool.eq_iff_iff, h2, hb]
  subst e
  rw [run_eql_struct, run_neq_struct, h1]
  exact ⟨rfl, rfl⟩
theorem word_wf (x : BitVec 64) : (Lit.int .u64 (x.toNat : Int)).wf = true := by
  have h := x.isLt
  exact WalkArith.wf_u64 (by omega)
theorem set_lits (d : Nat) (a : BS) : Try.prog.keyLits (d + 2) 24 [.int .u64 (a.lo.toNat : Int), .int .u64 (a.hi.toNat : Int)] = some [.int .u64 (a.lo.toNat : Int), .int .u64 (a.hi.toNat : Int)] := by
  have hc : Try.prog.cellsOf 24 = 2 := by kernel_rfl
  have hc2 : Try.prog.cellsOf 22 = 1 := by kernel_rfl
  have w0 := word_wf a.lo
  have w1 := word_wf a.hi
  have r2 : List.range 2 = [0, 1] := rfl
  unfold Program.keyLits
  simp only [Try.underlying24, hc, hc2, r2]
  simp [Program.keyLits, Try.underlying22, w0, w1]
theorem lits_set {a b : BS} : decide (a = b) = true ↔ ([Lit.int .u64 (a.lo.toNat : Int), Lit.int .u64 (a.hi.toNat : Int)] = [Lit.int .u64 (b.lo.toNat : Int), Lit.int .u64 (b.hi.toNat : Int)]) := by
  rw [decide_eq_true_eq]
  constructor
  · intro h; rw [h]
  · intro h
    obtain ⟨a0, a1⟩ := a
    obtain ⟨b0, b1⟩ := b
    simp at h
    have h1 : a0 = b0 := BitVec.eq_of_toNat_eq (by omega)
    have h2 : a1 = b1 := BitVec.eq_of_toNat_eq (by omega)
    rw [h1, h2]
theorem set_formed (a : BS) : (setV a).formed Try.prog 24 = true := by
  have hc : Try.prog.cellsOf 24 = 2 := by kernel_rfl
  simp [Value.formed, Try.underlying24, hc]
theorem set_eql (a b : BS) (w : World) : (binOp .eql 24 (setV a) (setV b)).run Try.prog w = Result.ok (.bool (decide (a = b))) w :=
  (eql_lits (by kernel_rfl) (set_formed a) (set_formed b) (set_lits 0 a) (set_lits 0 b) w lits_set).1
theorem set_neq (a b : BS) (w : World) : (binOp .neq 24 (setV a) (setV b)).run Try.prog w = Result.ok (.bool (!decide (a = b))) w :=
  (eql_lits (by kernel_rfl) (set_formed a) (set_formed b) (set_lits 0 a) (set_lits 0 b) w lits_set).2
end Go.Proofs.Ytknplnfoekeljaa
