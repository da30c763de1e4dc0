/- Small circuits reckoned: what coils of graphs of one contact say. Without a program. -/
import Derived.Test.YtknplnfoekeljaaExcited
import Derived.Test.YtknplnfoekeljaaValid
namespace Go.Proofs.Ytknplnfoekeljaa
open Classical in
theorem conducts_iff (g : Graph) (cl : Edge → Bool) : g.conducts cl = true ↔ Conn g.edges cl 0 1 := by unfold Graph.conducts; exact decide_eq_true_iff
theorem conducts_one (n : Int) (by_ : Contact) (cl : Edge → Bool) : Graph.conducts ⟨n, [⟨0, 1, by_⟩]⟩ cl = cl ⟨0, 1, by_⟩ := by
  rw [Bool.eq_iff_iff, conducts_iff]
  constructor
  · intro h
    have key : ∀ x y, Conn [⟨0, 1, by_⟩] cl x y → cl ⟨0, 1, by_⟩ = true ∨ x = y := by
      intro x y h
      induction h with
      | refl => exact .inr rfl
      | fwd _ he hc _ => simp at he; subst he; exact .inl hc
      | bwd _ he hc _ => simp at he; subst he; exact .inl hc
    rcases key _ _ h with h | h
    · exact h
    · cases h
  · intro h
    exact Conn.fwd (e := ⟨0, 1, by_⟩) (.refl _) (by simp) h
theorem nameOk_of {s : ByteArray} (h : (s.size != 0 && decide (s.size ≤ 32) && !isKeyword s.toList && (s.data.toList.take 1).all (fun c => isLetter c.toNat) && s.data.toList.all (fun c => isInName c.toNat)) = true) : nameOk s := by
  simp only [Bool.and_eq_true, bne_iff_ne, decide_eq_true_eq, Bool.not_eq_true'] at h
  obtain ⟨⟨⟨⟨h1, h2⟩, h3⟩, h4⟩, h5⟩ := h
  refine ⟨h1, h2, h3, fun hp => ?_, fun i hi => ?_⟩
  · have hl : 0 < s.data.toList.length := by simpa using hp
    have : s.data.toList[0] ∈ s.data.toList.take 1 := List.mem_take_iff_getElem.2 ⟨0, by omega, rfl⟩
    exact List.all_eq_true.1 h4 _ this
  · have hl : i < s.data.toList.length := by simpa using hi
    exact List.all_eq_true.1 h5 _ (List.getElem_mem hl)
def nameOkB (s : ByteArray) : Bool := s.size != 0 && decide (s.size ≤ 32) && !isKeyword s.toList && (s.data.toList.take 1).all (fun c => isLetter c.toNat) && s.data.toList.all (fun c => isInName c.toNat)
instance (c : Circuit) (g : Graph) : Decidable (c.graphFine g) := by unfold Circuit.graphFine; infer_instance
instance (c : Circuit) (r : Relay) : Decidable (c.relayFine r) := by unfold Circuit.relayFine; infer_instance
/-- is it valid? as a check -/
def Circuit.validB (c : Circuit) : Bool :=
  decide (c.inputs.length ≤ 128) && decide (c.relays.length ≤ 128) && decide (contactsR c.relays ≤ 4096) && c.names.all nameOkB && decide c.names.Nodup && decide (∀ r, r ∈ c.relays → c.relayFine r)
theorem valid_of {c : Circuit} (h : c.validB = true) : c.Valid := by
  simp only [Circuit.validB, Bool.and_eq_true, decide_eq_true_eq] at h
  obtain ⟨⟨⟨⟨⟨h1, h2⟩, h3⟩, h4⟩, h5⟩, h6⟩ := h
  exact ⟨h1, h2, h3, fun s hs => nameOk_of (List.all_eq_true.1 h4 s hs), h5, h6⟩
end Go.Proofs.Ytknplnfoekeljaa
