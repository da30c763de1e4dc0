/- Circuits as plain Lean, and how they lie in memory. -/
import Derived.Test.YtknplnfoekeljaaData
namespace Go.Proofs.Ytknplnfoekeljaa
open Go.RowKit
structure Relay where
  name : ByteArray
  tag : Int
  graphs : List Graph
structure Circuit where
  inputs : List ByteArray
  relays : List Relay
structure StrsAt (w : World) (p : Option Addr) (cap : Nat) (ss : List ByteArray) : Prop where
  cap : ss.length ≤ cap
  len : ss.length ≤ 9223372036854775807
  at_ : ∀ k, k < ss.length → ∃ b off, p = some ⟨b, off, none⟩
  cell : ∀ b off, p = some ⟨b, off, none⟩ → ∀ k (h : k < ss.length), w.cell? ⟨b, off + k, none⟩ = some (.string ss[k])
  small : ∀ s, s ∈ ss → s.size ≤ 9223372036854775807
structure GraphsAt (w : World) (p : Option Addr) (cap : Nat) (gs : List Graph) : Prop where
  cap : gs.length ≤ cap
  len : gs.length ≤ 9223372036854775807
  at_ : ∀ k, k < gs.length → ∃ b off, p = some ⟨b, off, none⟩
  cell : ∀ b off, p = some ⟨b, off, none⟩ → ∀ k (h : k < gs.length), ∃ pe ce, EdgesAt w pe ce gs[k].edges ∧
    w.cell? ⟨b, off + k * 2, none⟩ = some (.int .i64 gs[k].nodes) ∧ w.cell? ⟨b, off + k * 2 + 1, none⟩ = some (.slice pe gs[k].edges.length ce)
structure RelaysAt (w : World) (p : Option Addr) (cap : Nat) (rs : List Relay) : Prop where
  cap : rs.length ≤ cap
  len : rs.length ≤ 9223372036854775807
  at_ : ∀ k, k < rs.length → ∃ b off, p = some ⟨b, off, none⟩
  cell : ∀ b off, p = some ⟨b, off, none⟩ → ∀ k (h : k < rs.length), ∃ pg cg, GraphsAt w pg cg rs[k].graphs ∧ rs[k].name.size ≤ 9223372036854775807 ∧
    w.cell? ⟨b, off + k * 3, none⟩ = some (.string rs[k].name) ∧ w.cell? ⟨b, off + k * 3 + 1, none⟩ = some (.int .i64 rs[k].tag) ∧ w.cell? ⟨b, off + k * 3 + 2, none⟩ = some (.slice pg rs[k].graphs.length cg)
theorem StrsAt.up {w w' : World} {p : Option Addr} {cap : Nat} {ss : List ByteArray} (h : StrsAt w p cap ss) (k : Below w.heap.size w w') : StrsAt w' p cap ss := by
  refine ⟨h.cap, h.len, h.at_, fun b off hp i hi => ?_, h.small⟩
  have h0 := h.cell b off hp i hi
  rw [k.cell (p := ⟨b, _, none⟩) (World.block_lt_of_cell? w _ h0)]; exact h0
theorem GraphsAt.up {w w' : World} {p : Option Addr} {cap : Nat} {gs : List Graph} (h : GraphsAt w p cap gs) (k : Below w.heap.size w w') : GraphsAt w' p cap gs := by
  refine ⟨h.cap, h.len, h.at_, fun b off hp i hi => ?_⟩
  obtain ⟨pe, ce, he, h0, h1⟩ := h.cell b off hp i hi
  have hb : b < w.heap.size := World.block_lt_of_cell? w _ h0
  exact ⟨pe, ce, he.up k, by rw [k.cell (p := ⟨b, _, none⟩) hb]; exact h0, by rw [k.cell (p := ⟨b, _, none⟩) hb]; exact h1⟩
theorem RelaysAt.up {w w' : World} {p : Option Addr} {cap : Nat} {rs : List Relay} (h : RelaysAt w p cap rs) (k : Below w.heap.size w w') : RelaysAt w' p cap rs := by
  refine ⟨h.cap, h.len, h.at_, fun b off hp i hi => ?_⟩
  obtain ⟨pg, cg, hg, hs, h0, h1, h2⟩ := h.cell b off hp i hi
  have hb : b < w.heap.size := World.block_lt_of_cell? w _ h0
  exact ⟨pg, cg, hg.up k, hs, by rw [k.cell (p := ⟨b, _, none⟩) hb]; exact h0, by rw [k.cell (p := ⟨b, _, none⟩) hb]; exact h1, by rw [k.cell (p := ⟨b, _, none⟩) hb]; exact h2⟩
/-- a circuit's value, its parts in memory -/
structure CircAt (w : World) (pi : Option Addr) (ci : Nat) (pr : Option Addr) (cr : Nat) (c : Circuit) : Prop where
  inputs : StrsAt w pi ci c.inputs
  relays : RelaysAt w pr cr c.relays
theorem CircAt.up {w w' : World} {pi pr : Option Addr} {ci cr : Nat} {c : Circuit} (h : CircAt w pi ci pr cr c) (k : Below w.heap.size w w') : CircAt w' pi ci pr cr c := ⟨h.inputs.up k, h.relays.up k⟩
abbrev circV (pi : Option Addr) (ci : Nat) (pr : Option Addr) (cr : Nat) (c : Circuit) : Value := .agg #[.slice pi c.inputs.length ci, .slice pr c.relays.length cr]
/-- how many contacts -/
def contactsG (gs : List Graph) : Nat := (gs.map fun g => g.edges.length).sum
def contactsR (rs : List Relay) : Nat := (rs.map fun r => contactsG r.graphs).sum
theorem contactsG_snoc (gs : List Graph) (g : Graph) : contactsG (gs ++ [g]) = contactsG gs + g.edges.length := by simp [contactsG]
theorem contactsR_snoc (rs : List Relay) (r : Relay) : contactsR (rs ++ [r]) = contactsR rs + contactsG r.graphs := by simp [contactsR]
end Go.Proofs.Ytknplnfoekeljaa
