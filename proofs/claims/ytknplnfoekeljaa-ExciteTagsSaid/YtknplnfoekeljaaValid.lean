/- Which circuits are valid; texts sorted and compacted: as many as before just if none comes twice. Without a program. -/
import Derived.Test.YtknplnfoekeljaaCirc
import Derived.Test.YtknplnfoekeljaaTidy
import Derived.Test.YtknplnfoekeljaaShape
import Derived.Test.YtknplnfoekeljaaLex
import Derived.Test.YtknplnfoekeljaaNames
import Derived.Lib.SlicesCompact
import Derived.Lib.RowBridge
namespace Go.Proofs.Ytknplnfoekeljaa
open Go.RowKit
section
open Go.Lib
theorem le_sorted (zs : List (List UInt8)) : (zs.mergeSort fun x y => decide (x ≤ y)).Pairwise (· ≤ ·) := by
  have h := List.pairwise_mergeSort (le := fun x y : List UInt8 => decide (x ≤ y)) (fun a b c h1 h2 => by
    simp only [decide_eq_true_eq] at *; exact List.le_trans h1 h2) (fun a b => by simp only [Bool.or_eq_true, decide_eq_true_eq]; exact List.le_total a b) zs
  exact h.imp (by intro a b h; simpa using h)
theorem filter_length_all {α : Type} (p : α → Bool) (l : List α) : (l.filter p).length = l.length ↔ ∀ a ∈ l, p a = true := by
  constructor
  · intro h
    exact List.filter_eq_self.1 (List.filter_sublist.eq_of_length h)
  · intro h; rw [List.filter_eq_self.2 h]
theorem compact_sorted (zs : List (List UInt8)) : (Lib.compact (zs.mergeSort fun x y => decide (x ≤ y))).length = zs.length ↔ zs.Nodup := by
  have hs := le_sorted zs
  have hp : (zs.mergeSort fun x y => decide (x ≤ y)).Perm zs := List.mergeSort_perm _ _
  rw [← hp.nodup_iff]
  have hl : zs.length = (zs.mergeSort fun x y => decide (x ≤ y)).length := hp.length_eq.symm
  rw [hl]
  generalize (zs.mergeSort fun x y => decide (x ≤ y)) = ts at hs
  have e : (Lib.compact ts).length = ((List.range ts.length).filter (keeps ts.toArray)).length := by unfold Lib.compact compactUpTo; rw [List.length_map]
  rw [e]
  have e2 : ts.length = (List.range ts.length).length := by simp
  conv => lhs; rhs; rw [e2]
  rw [filter_length_all]
  have get : ∀ j (hj : j < ts.length), ts.toArray[j]! = ts[j] := fun j hj => by rw [getElem!_pos _ _ (by simpa using hj)]; simp
  constructor
  · intro h
    refine List.pairwise_iff_getElem.2 fun i j hi hj hij heq => ?_
    have hk := h j (List.mem_range.2 hj)
    unfold keeps at hk
    simp only [decide_eq_true_eq] at hk
    rcases hk with hk | hk
    · omega
    · rw [get j hj, get (j - 1) (by omega)] at hk
      have h2 : ts[j - 1] ≤ ts[j] := List.pairwise_iff_getElem.1 hs (j - 1) j (by omega) hj (by omega)
      by_cases hij2 : i = j - 1
      · subst hij2; exact hk heq.symm
      · have h1 : ts[i] ≤ ts[j - 1] := List.pairwise_iff_getElem.1 hs i (j - 1) hi (by omega) (by omega)
        rw [heq] at h1
        exact hk (List.le_antisymm h1 h2)
  · intro h j hj
    have hj := List.mem_range.1 hj
    unfold keeps
    simp only [decide_eq_true_eq]
    by_cases h0 : j = 0
    · exact .inl h0
    · right
      rw [get j hj, get (j - 1) (by omega)]
      intro heq
      exact List.pairwise_iff_getElem.1 h (j - 1) j (by omega) hj (by omega) heq.symm
end
def bytesOf (ss : List ByteArray) : List (List UInt8) := ss.map (·.data.toList)
theorem bytesOf_nodup (ss : List ByteArray) : (bytesOf ss).Nodup ↔ ss.Nodup := by
  unfold bytesOf List.Nodup
  rw [List.pairwise_map]
  constructor
  · exact fun h => h.imp fun hab e => hab (by rw [e])
  · refine fun h => h.imp fun {a b} hab e => hab ?_
    obtain ⟨⟨a⟩⟩ := a; obtain ⟨⟨b⟩⟩ := b
    simp at e; rw [e]
/-- does the contact name an input, a relay that is there? -/
def Circuit.hits (c : Circuit) (x : Contact) : Prop := if x.relay then x.num < c.relays.length else x.num < c.inputs.length
instance (c : Circuit) (x : Contact) : Decidable (c.hits x) := by unfold Circuit.hits; infer_instance
def Circuit.graphFine (c : Circuit) (g : Graph) : Prop := g.right ∧ tidyG g = g ∧ ∀ e, e ∈ g.edges → c.hits e.by_
def Circuit.relayFine (c : Circuit) (r : Relay) : Prop := (r.graphs.length : Int) = tagGraphs r.tag ∧ ∀ g, g ∈ r.graphs → c.graphFine g
def Circuit.names (c : Circuit) : List ByteArray := c.inputs ++ c.relays.map (·.name)
/-- which circuits New takes -/
structure Circuit.Valid (c : Circuit) : Prop where
  ins : c.inputs.length ≤ 128
  rels : c.relays.length ≤ 128
  contacts : contactsR c.relays ≤ 4096
  names : ∀ s, s ∈ c.names → nameOk s
  apart : c.names.Nodup
  fine : ∀ r, r ∈ c.relays → c.relayFine r
theorem anyBad_iff (ss : List ByteArray) : anyBad ss = false ↔ ∀ s, s ∈ ss → nameOk s := by
  unfold anyBad
  rw [List.any_eq_false]
  constructor
  · intro h s hs
    have := h s hs
    unfold nameB at this
    simpa using this
  · intro h s hs
    rw [nameB_yes (h s hs)]; simp
/-- the graphs are fine, and the sum of the contacts does not wrap -/
theorem contacts_small {rs : List Relay} {m : Nat} (h : ∀ r, r ∈ rs → contactsG r.graphs ≤ m) : contactsR rs ≤ rs.length * m := by
  induction rs with
  | nil => simp [contactsR]
  | cons r rs ih =>
    have h1 := h r (by simp)
    have h2 := ih fun r hr => h r (by simp [hr])
    have : contactsR (r :: rs) = contactsG r.graphs + contactsR rs := by simp [contactsR]
    rw [this, List.length_cons, Nat.succ_mul]; omega
theorem contactsG_small {gs : List Graph} {m : Nat} (h : ∀ g, g ∈ gs → g.edges.length ≤ m) : contactsG gs ≤ gs.length * m := by
  induction gs with
  | nil => simp [contactsG]
  | cons g gs ih =>
    have h1 := h g (by simp)
    have h2 := ih fun g hg => h g (by simp [hg])
    have : contactsG (g :: gs) = g.edges.length + contactsG gs := by simp [contactsG]
    rw [this, List.length_cons, Nat.succ_mul]; omega
theorem contacts_exact {c : Circuit} (hr : c.relays.length ≤ 128) (hf : ∀ r, r ∈ c.relays → c.relayFine r) : wrap64 (contactsR c.relays : Int) = contactsR c.relays := by
  have h1 : contactsR c.relays ≤ c.relays.length * 8192 := contacts_small fun r hm => by
    obtain ⟨h2, h3⟩ := hf r hm
    have h4 : r.graphs.length ≤ 2 := by
      unfold tagGraphs at h2
      split at h2
      · omega
      · split at h2 <;> omega
    have h5 : contactsG r.graphs ≤ r.graphs.length * 4096 := contactsG_small fun g hg => (h3 g hg).1.2.2.1
    omega
  unfold wrap64; omega
end Go.Proofs.Ytknplnfoekeljaa
