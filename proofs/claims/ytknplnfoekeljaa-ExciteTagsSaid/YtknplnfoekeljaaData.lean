/- The data of the program, as plain Lean, and how they lie in memory. -/
import Derived.Test.YtknplnfoekeljaaWords
namespace Go.Proofs.Ytknplnfoekeljaa
open Go.RowKit
structure Contact where
  relay : Bool
  num : Int
  brk : Bool
  deriving DecidableEq
structure Edge where
  a : Int
  b : Int
  by_ : Contact
  deriving DecidableEq
structure Graph where
  nodes : Int
  edges : List Edge
  deriving DecidableEq
abbrev contactV (c : Contact) : Value := .agg #[.bool c.relay, .int .i64 c.num, .bool c.brk]
abbrev edgeV (e : Edge) : Value := .agg #[.int .i64 e.a, .int .i64 e.b, .bool e.by_.relay, .int .i64 e.by_.num, .bool e.by_.brk]
/-- the edges' list: a slice of structs of five cells -/
structure EdgesAt (w : World) (p : Option Addr) (cap : Nat) (es : List Edge) : Prop where
  cap : es.length ≤ cap
  len : es.length ≤ 9223372036854775807
  at_ : ∀ k, k < es.length → ∃ b off, p = some ⟨b, off, none⟩
  cell : ∀ b off, p = some ⟨b, off, none⟩ → ∀ k (h : k < es.length),
    w.cell? ⟨b, off + k * 5, none⟩ = some (.int .i64 es[k].a) ∧ w.cell? ⟨b, off + k * 5 + 1, none⟩ = some (.int .i64 es[k].b) ∧ w.cell? ⟨b, off + k * 5 + 2, none⟩ = some (.bool es[k].by_.relay) ∧
    w.cell? ⟨b, off + k * 5 + 3, none⟩ = some (.int .i64 es[k].by_.num) ∧ w.cell? ⟨b, off + k * 5 + 4, none⟩ = some (.bool es[k].by_.brk)
theorem EdgesAt.up {w w' : World} {p : Option Addr} {cap : Nat} {es : List Edge} (h : EdgesAt w p cap es) (k : Below w.heap.size w w') : EdgesAt w' p cap es := by
  refine ⟨h.cap, h.len, h.at_, fun b off hp i hi => ?_⟩
  obtain ⟨h0, h1, h2, h3, h4⟩ := h.cell b off hp i hi
  have hb : b < w.heap.size := World.block_lt_of_cell? w _ h0
  refine ⟨?_, ?_, ?_, ?_, ?_⟩ <;> rw [k.cell (p := ⟨b, _, none⟩) hb] <;> assumption
/-- is the contact closed? -/
def Contact.closed (c : Contact) (I R : BS) : Bool := ((if c.relay then R else I).hasI c.num) != c.brk
/-- hangs together over closed edges -/
inductive Conn (es : List Edge) (cl : Edge → Bool) : Int → Int → Prop
  | refl (x : Int) : Conn es cl x x
  | fwd {x : Int} {e : Edge} (h : Conn es cl x e.a) (he : e ∈ es) (hc : cl e = true) : Conn es cl x e.b
  | bwd {x : Int} {e : Edge} (h : Conn es cl x e.b) (he : e ∈ es) (hc : cl e = true) : Conn es cl x e.a
namespace Conn
variable {es : List Edge} {cl : Edge → Bool}
theorem trans {x y z : Int} (h : Conn es cl x y) (k : Conn es cl y z) : Conn es cl x z := by
  induction k with
  | refl => exact h
  | fwd _ he hc ih => exact .fwd ih he hc
  | bwd _ he hc ih => exact .bwd ih he hc
theorem symm {x y : Int} (h : Conn es cl x y) : Conn es cl y x := by
  induction h with
  | refl => exact .refl _
  | fwd _ he hc ih => exact trans (.bwd (.refl _) he hc) ih
  | bwd _ he hc ih => exact trans (.fwd (.refl _) he hc) ih
theorem mono {es' : List Edge} {cl' : Edge → Bool} (hs : ∀ e, e ∈ es → cl e = true → e ∈ es' ∧ cl' e = true) {x y : Int} (h : Conn es cl x y) : Conn es' cl' x y := by
  induction h with
  | refl => exact .refl _
  | fwd _ he hc ih => exact .fwd ih (hs _ he hc).1 (hs _ he hc).2
  | bwd _ he hc ih => exact .bwd ih (hs _ he hc).1 (hs _ he hc).2
theorem nil {x y : Int} : Conn [] cl x y ↔ x = y := by
  constructor
  · intro h
    cases h with
    | refl => rfl
    | fwd _ he _ => cases he
    | bwd _ he _ => cases he
  · intro h; subst h; exact .refl _
/-- one more edge -/
def Plus (R : Int → Int → Prop) (a b x y : Int) : Prop := R x y ∨ (R x a ∧ R b y) ∨ (R x b ∧ R a y)
theorem snoc_closed {e : Edge} (hc : cl e = true) {x y : Int} : Conn (es ++ [e]) cl x y ↔ Plus (Conn es cl) e.a e.b x y := by
  have up : ∀ {x y}, Conn es cl x y → Conn (es ++ [e]) cl x y := fun h => h.mono (fun f hf hc => ⟨List.mem_append_left _ hf, hc⟩)
  have hm : e ∈ es ++ [e] := by simp
  constructor
  · intro h
    induction h with
    | refl => exact .inl (.refl _)
    | @fwd f _ he hc' ih =>
      rcases List.mem_append.1 he with he | he
      · rcases ih with ih | ⟨i1, i2⟩ | ⟨i1, i2⟩
        · exact .inl (.fwd ih he hc')
        · exact .inr (.inl ⟨i1, .fwd i2 he hc'⟩)
        · exact .inr (.inr ⟨i1, .fwd i2 he hc'⟩)
      · have : f = e := by simpa using he
        subst this
        rcases ih with ih | ⟨i1, i2⟩ | ⟨i1, i2⟩
        · exact .inr (.inl ⟨ih, .refl _⟩)
        · exact .inr (.inl ⟨i1, .refl _⟩)
        · exact .inl i1
    | @bwd f _ he hc' ih =>
      rcases List.mem_append.1 he with he | he
      · rcases ih with ih | ⟨i1, i2⟩ | ⟨i1, i2⟩
        · exact .inl (.bwd ih he hc')
        · exact .inr (.inl ⟨i1, .bwd i2 he hc'⟩)
        · exact .inr (.inr ⟨i1, .bwd i2 he hc'⟩)
      · have : f = e := by simpa using he
        subst this
        rcases ih with ih | ⟨i1, i2⟩ | ⟨i1, i2⟩
        · exact .inr (.inr ⟨ih, .refl _⟩)
        · exact .inl i1
        · exact .inr (.inr ⟨i1, .refl _⟩)
  · rintro (h | ⟨h1, h2⟩ | ⟨h1, h2⟩)
    · exact up h
    · exact (Conn.fwd (up h1) hm hc).trans (up h2)
    · exact (Conn.bwd (up h1) hm hc).trans (up h2)
theorem snoc_open {e : Edge} (hc : cl e = false) {x y : Int} : Conn (es ++ [e]) cl x y ↔ Conn es cl x y := by
  constructor <;> intro h
  · refine h.mono (fun f hf hc' => ⟨?_, hc'⟩)
    rcases List.mem_append.1 hf with hf | hf
    · exact hf
    · have : f = e := by simpa using hf
      subst this; rw [hc] at hc'; cases hc'
  · exact h.mono (fun f hf hc => ⟨List.mem_append_left _ hf, hc⟩)
end Conn
def Edge.ok (e : Edge) (n : Int) : Prop := 0 ≤ e.a ∧ e.a < n ∧ 0 ≤ e.b ∧ e.b < n ∧ 0 ≤ e.by_.num ∧ e.by_.num ≤ 127
instance (e : Edge) (n : Int) : Decidable (e.ok n) := by unfold Edge.ok; infer_instance
/-- which values are graphs -/
def Graph.right (g : Graph) : Prop := 2 ≤ g.nodes ∧ g.nodes ≤ 256 ∧ g.edges.length ≤ 4096 ∧ ∀ e, e ∈ g.edges → e.ok g.nodes
instance (g : Graph) : Decidable g.right := by unfold Graph.right; infer_instance
/-- a graph's error -/
def graphErr (g : Graph) : Int := if g.right then 0 else 50
theorem graphErr_ok {g : Graph} (h : g.right) : graphErr g = 0 := if_pos h
theorem graphErr_no {g : Graph} (h : ¬ g.right) : graphErr g = 50 := if_neg h
open Classical in
/-- does it conduct? -/
noncomputable def Graph.conducts (g : Graph) (cl : Edge → Bool) : Bool := decide (Conn g.edges cl 0 1)
end Go.Proofs.Ytknplnfoekeljaa
