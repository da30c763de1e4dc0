/-
Proved: the law ExciteTags answers true for every circuit and every two sets, and leaves its arguments as they were.
Conditions: none.
-/
import Derived.Test.YtknplnfoekeljaaRows
import Derived.Test.YtknplnfoekeljaaOpen
import Derived.Test.YtknplnfoekeljaaTags
namespace Go.Proofs.Ytknplnfoekeljaa.lawTags
open Go.ChangeShapes Go.WideShapes Go.ChangeAt Go.RowKit
theorem own : ownKnob Try.prog.godebug = none := by kernel_rfl
theorem laid : laidOutB Try.prog = true := by kernel_rfl
set_option maxRecDepth 100000 in
theorem lifted (os : Os) (started : os.Started) (H : Type) (enc : TypeId × Value → H) :
    ReturnsInHanded {} Try.checked os 6 .any (Rows.exciteTagsSpec.pre6 enc Try.prog Try.f6 Rows.exciteTagsRow.domain false) (Rows.exciteTagsSpec.post enc Try.prog Try.f6 false true false false) := by
  refine returnsInHanded_of_change (C := Try.checked) own started (by kernel_rfl) Try.func6
    (ChangeSpec.witness6 (enc := enc) (C := Try.checked) false ⟨#[], #[.agg #[.slice none 0 0, .slice none 0 0], .agg #[.int .u64 0, .int .u64 0], .agg #[.int .u64 0, .int .u64 0]], []⟩ 8 (by kernel_rfl) (by kernel_rfl) (by kernel_rfl) (by kernel_rfl)) ?_
  intro W base args ds gs before hval0 hW hcnd _
  have hval : ∀ (j : Nat) t v, Try.f6.params[j]? = some t → args[j]? = some v → Value.okWide Try.prog W .any base t v := hval0
  have hW' := hW
  obtain ⟨p, q, hA0, hV, rfl, hfz, hnd⟩ := hW
  have hA : DataW.TrodAll enc Try.prog W 0 (fun _ => true) true Try.f6.params.toList args.toList ds p := hA0
  rw [Try.params6] at hA hval
  obtain ⟨v0, vs0, d0, ds0, p0, q0, hargs, rfl, rfl, h0, r0⟩ := trodAll_cons hA
  obtain ⟨v1, vs1, d1, ds1, p1, q1, rfl, rfl, rfl, h1, r1⟩ := trodAll_cons r0
  obtain ⟨v2, vs2, d2, ds2, p2, q2, rfl, rfl, rfl, h2, r2⟩ := trodAll_cons r1
  obtain ⟨rfl, rfl, rfl⟩ := trodAll_nil r2
  obtain rfl : args = #[v0, v1, v2] := by cases args; simp_all
  obtain ⟨rfl, rfl⟩ := trodVars_none hV
  obtain ⟨c, pi, ci, pr, cr, rfl, hc⟩ := open_circ (hval 0 _ v0 rfl rfl) h0
  obtain ⟨I, rfl⟩ := open_set (hval 1 _ v1 rfl rfl) h1
  obtain ⟨R, rfl⟩ := open_set (hval 2 _ v2 rfl rfl) h2
  have walk : Calls Try.prog 6 #[circV pi ci pr cr c, setV I, setV R] W (Ret (.bool true) W) := by
    by_cases hv : c.Valid
    · exact tags_ok c pi ci pr cr I R W hc hv
    · exact tags_no c pi ci pr cr I R W hc hv
  refine walk.mono fun e W' ⟨he, hb⟩ => ?_
  subst he
  exact ⟨_, rfl, law_post laid (by kernel_rfl) rfl rfl Try.underlying4 hW' rfl rfl rfl hb⟩
set_option maxHeartbeats 4000000 in
theorem closed : joinedFacts Try.prog 6 Try.f6 Rows.exciteTagsSpec Rows.exciteTagsRow = true := by
  unfold joinedFacts
  repeat' with_reducible refine Bool.and_eq_true_iff.mpr ⟨?_, ?_⟩
  all_goals (as_aux_lemma => kernel_rfl)
theorem over : Rows.exciteTagsRow.holds Try.pinned (OpenSpec.ofChange Rows.exciteTagsSpec) :=
  OpenClaim.holds_of_wide 6 Try.f6 rfl rfl rfl rfl rfl rfl rfl ⟨rfl, rfl, rfl, rfl, rfl⟩ rfl rfl rfl rfl rfl (by kernel_rfl) Try.func6 closed
    (of_decide_eq_true (by kernel_rfl)) (by unfold Func.isWrapper; rw [if_neg (of_decide_eq_false (by kernel_rfl))]; exact ⟨rfl, rfl⟩)
    (fun os started H enc _ => lifted os started H enc)
/-- the law -/
theorem proved : Rows.ExciteTagsSaid := over
#print axioms proved
end Go.Proofs.Ytknplnfoekeljaa.lawTags
