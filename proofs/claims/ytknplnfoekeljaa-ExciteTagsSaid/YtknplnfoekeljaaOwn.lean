/- What lies in a call's own memory; append onto nil. -/
import Derived.Test.YtknplnfoekeljaaCirc
import Derived.Test.YtknplnfoekeljaaNumber
import Derived.Test.YtknplnfoekeljaaCheckWords
import Derived.Maps.AppendAt
import Derived.Deep.AppendLies
namespace Go.Proofs.Ytknplnfoekeljaa
open Go.RowKit
theorem bcellB {B : Nat} {W w1 : World} (hb : Below B W w1) : (∀ b o, b < B → w1.cell? ⟨b, o, none⟩ = W.cell? ⟨b, o, none⟩) ∧ (∀ b o, b < B → w1.frozen? ⟨b, o, none⟩ = W.frozen? ⟨b, o, none⟩) :=
  ⟨fun b o h => hb.cell (p := ⟨b, o, none⟩) h, fun b o h => hb.frozen (p := ⟨b, o, none⟩) h⟩
theorem cell_set_ne {w : World} {b b' i j : Nat} {v : Value} (h : b ≠ b') : (w.setCell ⟨b', i, none⟩ v).cell? ⟨b, j, none⟩ = w.cell? ⟨b, j, none⟩ :=
  World.cell?_setCell_other w _ _ v fun e => h (by injection e with e; exact e.symm)
/-- it holds, whatever becomes of the blocks below B, of those in X, and of new ones -/
def Apart (B : Nat) (X : Nat → Prop) (w : World) (Φ : World → Prop) : Prop :=
  ∀ w', w.heap.size ≤ w'.heap.size → (∀ b, B ≤ b → b < w.heap.size → ¬ X b → w'.heap[b]? = w.heap[b]?) → Φ w'
namespace Apart
variable {B B' : Nat} {X Y : Nat → Prop} {w w' : World} {Φ Ψ : World → Prop}
theorem now (h : Apart B X w Φ) : Φ w := h w (Nat.le_refl _) fun _ _ _ _ => rfl
theorem and (h : Apart B X w Φ) (k : Apart B X w Ψ) : Apart B X w (fun W => Φ W ∧ Ψ W) := fun w' h1 h2 => ⟨h w' h1 h2, k w' h1 h2⟩
theorem imp (h : Apart B X w Φ) (k : ∀ W, Φ W → Ψ W) : Apart B X w Ψ := fun w' h1 h2 => k _ (h w' h1 h2)
/-- the world goes on: blocks of X alone and new ones have turned -/
theorem go (h : Apart B X w Φ) (hs : w.heap.size ≤ w'.heap.size) (hk : ∀ b, B ≤ b → b < w.heap.size → ¬ X b → w'.heap[b]? = w.heap[b]?)
    (hY : ∀ b, B ≤ b → b < w.heap.size → Y b → X b) : Apart B Y w' Φ := fun w2 h1 h2 => by
  refine h w2 (by omega) fun b hb hlt hx => ?_
  rw [h2 b hb (by omega) (fun hy => hx (hY b hb hlt hy))]
  exact hk b hb hlt hx
theorem grown (h : Apart B X w Φ) {row : Option Nat} (hg : w.grownBy w' row) (hr : ∀ b, row = some b → B ≤ b → b < w.heap.size → X b)
    (hY : ∀ b, B ≤ b → b < w.heap.size → Y b → X b) : Apart B Y w' Φ :=
  h.go hg.size (fun b hb hlt hx => hg.block b hlt fun e => hx (hr b e.symm hb hlt)) hY
theorem below (h : Apart B X w Φ) (hb : Below w.heap.size w w') : Apart B X w' Φ := h.go hb.size (fun b _ hlt _ => hb.block b hlt) fun _ _ _ hy => hy
theorem alloc (h : Apart B X w Φ) (o : Obj) : Apart B X (w.alloc o) Φ := h.below (below_alloc w o)
theorem set (h : Apart B X w Φ) {b j : Nat} {v : Value} (hb : B ≤ b → X b) : Apart B X (w.setCell ⟨b, j, none⟩ v) Φ :=
  h.go (by rw [hz_set]; exact Nat.le_refl _) (fun c hc _ hx => Below.heap_setCell w ⟨b, j, none⟩ v c fun e => hx (by have e : c = b := e; subst e; exact hb hc)) fun _ _ _ hy => hy
theorem mono (h : Apart B X w Φ) (hB : B' ≤ B) : Apart B' X w Φ := fun w' h1 h2 => h w' h1 fun b hb hlt hx => h2 b (by omega) hlt hx
theorem less (h : Apart B X w Φ) (hY : ∀ b, B ≤ b → b < w.heap.size → Y b → X b) : Apart B Y w Φ := h.go (Nat.le_refl _) (fun _ _ _ _ => rfl) hY
end Apart
/-- a row that a call owns -/
theorem own_apart {B B' : Nat} {X : Nat → Prop} {w : World} {e : TypeId} {s n : Nat} {v : Value} {xs : List Value} (h : w.ownsRow B e s v n xs) (hB : B' ≤ B) (hx : ∀ b, v.ownBlock = some b → ¬ X b) :
    Apart B' X w (fun W => W.ownsRow B e s v n xs) := fun w' h1 h2 => by
  refine ⟨h.1, ?_⟩
  rcases h.2 with h0 | ⟨g, cap, cur, hv, hg, hh, hr⟩
  · exact .inl h0
  · refine .inr ⟨g, cap, cur, hv, hg, ?_, hr⟩
    rw [h2 g (by omega) (Array.getElem?_eq_some_iff.1 hh).1 (hx g (by rw [hv]; rfl))]; exact hh
/-- append onto nil: the new slice owns a row -/
theorem run_fresh {P : Program} (w : World) (t ty e : TypeId) (i : TypeInfo) (z : Value) (size bytes : Nat) (ht : P.underlying t = some (.slice e)) (hi : P.info? e = some i) (hz : i.zero = some z)
    (hsize : i.size = size) (hby : i.bytes = bytes) (hzs : z.cells.size = size) (hsz : 0 < size) (A : Option Addr) (m c : Nat) (news : List Value) (hlen : news.length = m * size)
    (hat : ∀ j u, news[j]? = some u → ∃ ad, A = some ad ∧ w.cell? (ad.add j) = some u) (h1 : ∀ u ∈ news, u.oneCell' = true) (h63 : m ≤ maxLen) (hbytes : m * bytes ≤ 140737488355328) :
    ∃ v' w', (Builtin.append_ #[t, t] ty #[.slice none 0 0, .slice A m c]).run P w = .ok v' w' ∧ w'.ownsRow w.heap.size e size v' m news ∧ w.grownBy w' none ∧ (v'.ownBlock = none ∨ v'.ownBlock = some w.heap.size) := by
  cases A with
  | none =>
    have hn : news = [] := by
      cases news with
      | nil => rfl
      | cons u l => obtain ⟨ad, h, _⟩ := hat 0 u rfl; cases h
    subst hn
    have hm : m = 0 := by
      rcases Nat.eq_zero_or_pos m with h | h
      · exact h
      · have h2 : 0 < m * size := Nat.mul_pos h hsz
        have h3 : (0 : Nat) = m * size := hlen
        omega
    subst hm
    refine ⟨.slice none 0 0, w, ?_, World.ownsRow_nil _ _ _ _, World.grownBy.refl w _, .inl rfl⟩
    simp [Builtin.append_, run_underlying ht, sizeOf, typeInfo, hi, Builtin.lenOf, Builtin.firstCells]
  | some ad =>
    obtain ⟨v', w', hr, ho, hg, _, hb⟩ := run_append_own_at (P := P) w w.heap.size t ty e i z size bytes ht hi hz hsize hby hzs hsz (.slice none 0 0) 0 [] (World.ownsRow_nil _ _ _ _) ad m c news hlen
      (fun j u hu => by obtain ⟨ad', h, hc⟩ := hat j u hu; cases h; exact hc) h1 (by omega) (by rw [Nat.zero_add]; exact hbytes) (Nat.le_refl _)
    refine ⟨v', w', hr, by simpa using ho, hg, hb⟩
theorem wp_fresh {P : Program} (w : World) {o : Oper} {a : Act} {K : Act → World → Prop} {Q : Exit → Act → World → Prop} (s x : Operand) (t : TypeId)
    (ho : o.op = .call { callee := .builtin .append, args := #[s, x], argTypes := #[t, t] })
    (e : TypeId) (i : TypeInfo) (z : Value) (size bytes : Nat) (ht : P.underlying t = some (.slice e)) (hi : P.info? e = some i) (hz : i.zero = some z)
    (hsize : i.size = size) (hby : i.bytes = bytes) (hzs : z.cells.size = size) (hsz : 0 < size) (hs : a.eval s = .slice none 0 0)
    (A : Option Addr) (m c : Nat) (news : List Value) (hx : a.eval x = .slice A m c) (hlen : news.length = m * size)
    (hat : ∀ j u, news[j]? = some u → ∃ ad, A = some ad ∧ w.cell? (ad.add j) = some u) (h1 : ∀ u ∈ news, u.oneCell' = true) (h63 : m ≤ maxLen) (hbytes : m * bytes ≤ 140737488355328)
    (h : ∀ v' w', w'.ownsRow w.heap.size e size v' m news → w.grownBy w' none → (v'.ownBlock = none ∨ v'.ownBlock = some w.heap.size) → K (a.put o.dst v') w') : o.wp P a w K Q := by
  obtain ⟨v', w', hrun, h2, h3, h4⟩ := run_fresh (P := P) w t o.type e i z size bytes ht hi hz hsize hby hzs hsz A m c news hlen hat h1 h63 hbytes
  unfold Oper.wp execOp
  simp only [ho, resolve, invoke, builtin, Sem.run_bind, Sem.run_pure, Result.andThen_ok, List.map_toArray, List.map_cons, List.map_nil, hs, hx, hrun]
  exact h v' w' h2 h3 h4
theorem wpList_fresh {P : Program} {w : World} {ops : Array Oper} {rest : List Oper} {o : Oper} {a : Act} {Q : Exit → Act → World → Prop} (hgd : o.guard = none) (s x : Operand) (t : TypeId)
    (ho : o.op = .call { callee := .builtin .append, args := #[s, x], argTypes := #[t, t] })
    (e : TypeId) (i : TypeInfo) (z : Value) (size bytes : Nat) (ht : P.underlying t = some (.slice e)) (hi : P.info? e = some i) (hz : i.zero = some z)
    (hsize : i.size = size) (hby : i.bytes = bytes) (hzs : z.cells.size = size) (hsz : 0 < size) (hs : a.eval s = .slice none 0 0)
    (A : Option Addr) (m c : Nat) (news : List Value) (hx : a.eval x = .slice A m c) (hlen : news.length = m * size)
    (hat : ∀ j u, news[j]? = some u → ∃ ad, A = some ad ∧ w.cell? (ad.add j) = some u) (h1 : ∀ u ∈ news, u.oneCell' = true) (h63 : m ≤ maxLen) (hbytes : m * bytes ≤ 140737488355328)
    (h : ∀ v' w', w'.ownsRow w.heap.size e size v' m news → w.grownBy w' none → (v'.ownBlock = none ∨ v'.ownBlock = some w.heap.size) → wpList P ops Q rest (a.put o.dst v') w') : wpList P ops Q (o :: rest) a w :=
  wpList_plain hgd fun _ hK => wp_fresh w s x t ho e i z size bytes ht hi hz hsize hby hzs hsz hs A m c news hx hlen hat h1 h63 hbytes fun v' w' h2 h3 h4 => hK _ _ (h v' w' h2 h3 h4)
theorem step_fresh {P : Program} {w : World} {ops : Array Oper} {o : Oper} {a : Act} {K : Act → World → Prop} {Q : Exit → Act → World → Prop} {E : Prop} (hgd : o.guard = none) (s x : Operand) (t : TypeId)
    (ho : o.op = .call { callee := .builtin .append, args := #[s, x], argTypes := #[t, t] })
    (e : TypeId) (i : TypeInfo) (z : Value) (size bytes : Nat) (ht : P.underlying t = some (.slice e)) (hi : P.info? e = some i) (hz : i.zero = some z)
    (hsize : i.size = size) (hby : i.bytes = bytes) (hzs : z.cells.size = size) (hsz : 0 < size) (hs : a.eval s = .slice none 0 0)
    (A : Option Addr) (m c : Nat) (news : List Value) (hx : a.eval x = .slice A m c) (hlen : news.length = m * size)
    (hat : ∀ j u, news[j]? = some u → ∃ ad, A = some ad ∧ w.cell? (ad.add j) = some u) (h1 : ∀ u ∈ news, u.oneCell' = true) (h63 : m ≤ maxLen) (hbytes : m * bytes ≤ 140737488355328)
    (h : ∀ v' w', w'.ownsRow w.heap.size e size v' m news → w.grownBy w' none → (v'.ownBlock = none ∨ v'.ownBlock = some w.heap.size) → K (a.put o.dst v') w') :
    if Region.wanted o (yielded ops a.tmps) = true then Oper.wp P o a w K Q else E := by
  have hw : Region.wanted o (yielded ops a.tmps) = true := by simp [Region.wanted, hgd]
  rw [if_pos hw]
  exact wp_fresh w s x t ho e i z size bytes ht hi hz hsize hby hzs hsz hs A m c news hx hlen hat h1 h63 hbytes h
/-! ### lists of edges, of graphs, of relays as rows -/
theorem addr_add (b off j : Nat) : (⟨b, off, none⟩ : Addr).add j = ⟨b, off + j, none⟩ := by
  unfold Addr.add; split
  · rename_i h; have h : j = 0 := h; subst h; rfl
  · rfl
theorem eCells_one (l : List Edge) : ∀ u ∈ l.flatMap eCells, u.oneCell' = true := by
  intro u hu
  obtain ⟨e, _, hu⟩ := List.mem_flatMap.1 hu
  unfold eCells at hu
  simp only [List.mem_cons, List.not_mem_nil, or_false] at hu
  rcases hu with rfl | rfl | rfl | rfl | rfl <;> rfl
theorem EdgesAt.flat {w : World} {p : Option Addr} {cap : Nat} {es : List Edge} (h : EdgesAt w p cap es) : ∀ j u, (es.flatMap eCells)[j]? = some u → ∃ ad, p = some ad ∧ w.cell? (ad.add j) = some u := by
  intro j u hu
  have hj : j < es.length * 5 := by rw [← eCells_length]; exact (List.getElem?_eq_some_iff.1 hu).1
  have hk : j / 5 < es.length := by omega
  obtain ⟨b, off, rfl⟩ := h.at_ _ hk
  obtain ⟨c0, c1, c2, c3, c4⟩ := h.cell b off rfl _ hk
  refine ⟨_, rfl, ?_⟩
  have hg := edges_get hk (j % 5) (by omega)
  rw [show j / 5 * 5 + j % 5 = j by omega] at hg
  unfold edgesV at hg
  rw [List.getElem?_toArray, hu] at hg
  rw [addr_add]
  have hr : j % 5 = 0 ∨ j % 5 = 1 ∨ j % 5 = 2 ∨ j % 5 = 3 ∨ j % 5 = 4 := by omega
  have hjj : off + j = off + j / 5 * 5 + j % 5 := by omega
  rw [hjj, hg]
  rcases hr with e | e | e | e | e <;> rw [e]
  · exact c0
  · exact c1
  · exact c2
  · exact c3
  · exact c4
theorem StrsAt.flat {w : World} {p : Option Addr} {cap : Nat} {ss : List ByteArray} (h : StrsAt w p cap ss) : ∀ j u, (ss.map Value.string)[j]? = some u → ∃ ad, p = some ad ∧ w.cell? (ad.add j) = some u := by
  intro j u hu
  have hj : j < ss.length := by have := (List.getElem?_eq_some_iff.1 hu).1; simpa using this
  obtain ⟨b, off, rfl⟩ := h.at_ _ hj
  refine ⟨_, rfl, ?_⟩
  rw [addr_add, h.cell b off rfl j hj, ← hu]
  simp [hj]
theorem strs_one (ss : List ByteArray) : ∀ u ∈ ss.map Value.string, u.oneCell' = true := by
  intro u hu
  obtain ⟨s, _, rfl⟩ := List.mem_map.1 hu
  rfl
/-- a row of edges reads as their list -/
theorem edgesAt_own {w : World} {B n : Nat} {v : Value} {es : List Edge} {T : TypeId} (h : w.ownsRow B T 5 v n (es.flatMap eCells)) (hn : n ≤ 9223372036854775807) :
    n = es.length ∧ ∃ p cap, v = .slice p es.length cap ∧ EdgesAt w p cap es := by
  have hlen : es.length = n := by have := h.1; rw [eCells_length] at this; omega
  refine ⟨hlen.symm, ?_⟩
  rcases h.2 with ⟨rfl, h0⟩ | ⟨g, cap, cur, rfl, _, hg, hc, _, hz, ht⟩
  · have : es = [] := List.length_eq_zero_iff.1 (by omega)
    subst this
    exact ⟨none, 0, rfl, ⟨Nat.le_refl _, by simp, fun k hk => by simp at hk, fun _ _ _ k hk => by simp at hk⟩⟩
  · refine ⟨some ⟨g, 0, none⟩, cap, by rw [hlen], ⟨by omega, by omega, fun _ _ => ⟨g, 0, rfl⟩, fun b off he k hk => ?_⟩⟩
    injection he with he
    injection he with h1 h2 _
    subst h1; subst h2
    have get : ∀ j, j < 5 → w.cell? ⟨g, 0 + k * 5 + j, none⟩ = (eCells es[k])[j]? := fun j hj => by
      rw [cell_of_row w g _ _ _ _ hg, Nat.zero_add]
      have e1 := edges_get hk j hj
      unfold edgesV at e1
      rw [List.getElem?_toArray, ← ht, List.getElem?_take, if_pos (by omega)] at e1
      rw [← e1]; simp
    exact ⟨get 0 (by omega), get 1 (by omega), get 2 (by omega), get 3 (by omega), get 4 (by omega)⟩
end Go.Proofs.Ytknplnfoekeljaa
