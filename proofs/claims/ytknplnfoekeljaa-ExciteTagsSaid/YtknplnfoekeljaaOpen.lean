/- The arguments of the laws: how they lie in memory as data; the laws' common end. -/
import Derived.Test.YtknplnfoekeljaaCirc
import Derived.ProofKit
import Derived.OpenShut
import Derived.Deep.Slices
namespace Go.Proofs.Ytknplnfoekeljaa
open Go.ChangeShapes Go.WideShapes Go.ChangeAt Go.RowKit Go.Deep
section
variable {H : Type} {enc : TypeId × Value → H} {W : World} {base : Nat} {sp : Nat → Bool} {hd : Bool}
theorem addr_plus (b off j : Nat) : (⟨b, off, none⟩ : Addr).add j = ⟨b, off + j, none⟩ := by
  unfold Addr.add; split
  · rename_i h; have h : j = 0 := h; subst h; rfl
  · rfl
/-- a slice whose elements read as Q -/
theorem slice_list {α : Type} {t e : TypeId} {s : Nat} (ht : Try.prog.underlying t = some (.slice e)) (hs : Try.prog.cellsOf e = s) (hpos : 0 < s) (Q : Nat → Nat → α → Prop)
    (hQ : ∀ b off cs n y, (∀ i, i < s → W.cell? ⟨b, off + i, none⟩ = cs[i]?) → cs.length = s → DataW.trod enc Try.prog W base sp hd n e cs = some y → ∃ x, Q b off x)
    {fuel : Nat} {cs : List Value} {x : DataW H × List MemPlace} (h : DataW.trod enc Try.prog W base sp hd fuel t cs = some x) :
    ∃ p cap xs, cs = [.slice p (List.length (α := α) xs) cap] ∧ xs.length ≤ cap ∧ xs.length ≤ 9223372036854775807 ∧ (∀ k, k < xs.length → ∃ b off, p = some ⟨b, off, none⟩) ∧
      ∀ b off, p = some ⟨b, off, none⟩ → ∀ k (h : k < xs.length), Q b (off + k * s) xs[k] := by
  rcases open_slice ht h with ⟨rfl, -⟩ | ⟨a, len, cap, m, n, D, Pl, rfl, -, hlc, hcm, hm, -, hel⟩
  · exact ⟨none, 0, [], rfl, by simp, by simp, fun k hk => by simp at hk, fun _ _ _ k hk => by simp at hk⟩
  have hmax : cap ≤ 9223372036854775807 := hcm
  have hlm : len ≤ m := by rw [hm]; split <;> omega
  rw [hs] at hel
  obtain ⟨b, off, spot⟩ := a
  by_cases h0 : len = 0
  · subst h0
    exact ⟨some ⟨b, off, spot⟩, cap, [], rfl, by simp, by simp, fun k hk => by simp at hk, fun _ _ _ k hk => by simp at hk⟩
  have hspot : spot = none := by
    obtain ⟨cs', h1, h2⟩ := hel 0 (by omega)
    obtain ⟨_, hl, hc⟩ := World.cells?_some h1
    have h3 := hc 0 hpos
    rw [List.getElem?_eq_getElem (by omega)] at h3
    simpa [Addr.add] using World.cell?_spot h3
  subst hspot
  have hex : ∀ i : Fin len, ∃ x, Q b (off + i * s) x := fun i => by
    obtain ⟨cs', h1, h2⟩ := hel i.1 (by omega)
    obtain ⟨_, hl, hc⟩ := World.cells?_some h1
    refine hQ b (off + i * s) cs' n (D i, Pl i) (fun j hj => ?_) hl h2
    have := hc j hj
    rwa [addr_plus, addr_plus] at this
  refine ⟨some ⟨b, off, none⟩, cap, List.ofFn fun i => Classical.choose (hex i), by simp, by simpa using hlc, by rw [List.length_ofFn]; omega, fun _ _ => ⟨b, off, rfl⟩, fun b' off' he k hk => ?_⟩
  injection he with he
  injection he with h1 h2 _
  subst h1; subst h2
  rw [List.getElem_ofFn]
  exact Classical.choose_spec (hex ⟨k, by simpa using hk⟩)
theorem cells2 {c : List Value} (h : c.length = 2) : ∃ a b, c = [a, b] := by
  match c, h with
  | [a, b], _ => exact ⟨a, b, rfl⟩
theorem cells3 {c : List Value} (h : c.length = 3) : ∃ a b d, c = [a, b, d] := by
  match c, h with
  | [a, b, d], _ => exact ⟨a, b, d, rfl⟩
theorem cells5 {c : List Value} (h : c.length = 5) : ∃ a b d e f, c = [a, b, d, e, f] := by
  match c, h with
  | [a, b, d, e, f], _ => exact ⟨a, b, d, e, f, rfl⟩
theorem read_contact {n : Nat} {cs : List Value} {y : DataW H × List MemPlace} (hl : cs.length = 3) (h : DataW.trod enc Try.prog W base sp hd n 50 cs = some y) :
    ∃ c : Contact, cs = [.bool c.relay, .int .i64 c.num, .bool c.brk] := by
  obtain ⟨a, b, d, rfl⟩ := cells3 hl
  obtain ⟨xs, m, _, _, _, hxl, hf⟩ := DataW.trod_struct Try.underlying50 h
  match xs, hxl with
  | [x0, x1, x2], _ =>
    have hb : Try.prog.cellsOf 4 = 1 := by kernel_rfl
    have hi : Try.prog.cellsOf 3 = 1 := by kernel_rfl
    have g0 := hf 0 _ rfl
    have g1 := hf 1 _ rfl
    have g2 := hf 2 _ rfl
    simp [hb, hi] at g0 g1 g2
    obtain ⟨r, h0, _⟩ := DataW.trod_bool Try.underlying4 g0
    obtain ⟨k, h1, _⟩ := DataW.trod_int Try.underlying3 g1
    obtain ⟨q, h2, _⟩ := DataW.trod_bool Try.underlying4 g2
    have e0 : a = .bool r := by simpa using h0
    have e1 : b = .int .i64 k := by simpa using h1
    have e2 : d = .bool q := by simpa using h2
    exact ⟨⟨r, k, q⟩, by rw [e0, e1, e2]⟩
theorem read_edge {n : Nat} {cs : List Value} {y : DataW H × List MemPlace} (hl : cs.length = 5) (h : DataW.trod enc Try.prog W base sp hd n 52 cs = some y) :
    ∃ e : Edge, cs = [.int .i64 e.a, .int .i64 e.b, .bool e.by_.relay, .int .i64 e.by_.num, .bool e.by_.brk] := by
  obtain ⟨a, b, d, e, f, rfl⟩ := cells5 hl
  obtain ⟨xs, m, _, _, _, hxl, hf⟩ := DataW.trod_struct Try.underlying52 h
  match xs, hxl with
  | [x0, x1, x2], _ =>
    have hc : Try.prog.cellsOf 50 = 3 := by kernel_rfl
    have hi : Try.prog.cellsOf 3 = 1 := by kernel_rfl
    have g0 := hf 0 _ rfl
    have g1 := hf 1 _ rfl
    have g2 := hf 2 _ rfl
    simp [hc, hi] at g0 g1 g2
    obtain ⟨p, h0, _⟩ := DataW.trod_int Try.underlying3 g0
    obtain ⟨q, h1, _⟩ := DataW.trod_int Try.underlying3 g1
    obtain ⟨c, h2⟩ := read_contact rfl g2
    have e0 : a = .int .i64 p := by simpa using h0
    have e1 : b = .int .i64 q := by simpa using h1
    injection h2 with h20 h2
    injection h2 with h21 h2
    injection h2 with h22 h2
    exact ⟨⟨p, q, c⟩, by rw [e0, e1, h20, h21, h22]⟩
theorem read_edges {n : Nat} {cs : List Value} {y : DataW H × List MemPlace} (h : DataW.trod enc Try.prog W base sp hd n 32 cs = some y) :
    ∃ p cap es, cs = [.slice p (List.length es) cap] ∧ EdgesAt W p cap es := by
  obtain ⟨p, cap, es, rfl, h1, h2, h3, h4⟩ := slice_list (α := Edge) (s := 5) Try.underlying32 (by kernel_rfl) (by omega)
    (fun b off e => W.cell? ⟨b, off, none⟩ = some (.int .i64 e.a) ∧ W.cell? ⟨b, off + 1, none⟩ = some (.int .i64 e.b) ∧ W.cell? ⟨b, off + 2, none⟩ = some (.bool e.by_.relay) ∧
      W.cell? ⟨b, off + 3, none⟩ = some (.int .i64 e.by_.num) ∧ W.cell? ⟨b, off + 4, none⟩ = some (.bool e.by_.brk))
    (fun b off cs n y hc hl ht => by
      obtain ⟨e, rfl⟩ := read_edge hl ht
      exact ⟨e, hc 0 (by omega), hc 1 (by omega), hc 2 (by omega), hc 3 (by omega), hc 4 (by omega)⟩) h
  exact ⟨p, cap, es, rfl, ⟨h1, h2, h3, h4⟩⟩
theorem read_graph {n : Nat} {cs : List Value} {y : DataW H × List MemPlace} (hl : cs.length = 2) (h : DataW.trod enc Try.prog W base sp hd n 34 cs = some y) :
    ∃ (g : Graph) (p : Option Addr) (cap : Nat), cs = [.int .i64 g.nodes, .slice p g.edges.length cap] ∧ EdgesAt W p cap g.edges := by
  obtain ⟨a, b, rfl⟩ := cells2 hl
  obtain ⟨xs, m, _, _, _, hxl, hf⟩ := DataW.trod_struct Try.underlying34 h
  match xs, hxl with
  | [x0, x1], _ =>
    have hc : Try.prog.cellsOf 32 = 1 := by kernel_rfl
    have hi : Try.prog.cellsOf 3 = 1 := by kernel_rfl
    have g0 := hf 0 _ rfl
    have g1 := hf 1 _ rfl
    simp [hc, hi] at g0 g1
    obtain ⟨p, h0, _⟩ := DataW.trod_int Try.underlying3 g0
    obtain ⟨q, cap, es, h1, hE⟩ := read_edges g1
    have e0 : a = .int .i64 p := by simpa using h0
    have e1 : b = .slice q es.length cap := by simpa using h1
    exact ⟨⟨p, es⟩, q, cap, by rw [e0, e1], hE⟩
theorem read_graphs {n : Nat} {cs : List Value} {y : DataW H × List MemPlace} (h : DataW.trod enc Try.prog W base sp hd n 63 cs = some y) :
    ∃ p cap gs, cs = [.slice p (List.length gs) cap] ∧ GraphsAt W p cap gs := by
  obtain ⟨p, cap, es, rfl, h1, h2, h3, h4⟩ := slice_list (α := Graph) (s := 2) Try.underlying63 (by kernel_rfl) (by omega)
    (fun b off g => ∃ pe ce, EdgesAt W pe ce g.edges ∧ W.cell? ⟨b, off, none⟩ = some (.int .i64 g.nodes) ∧ W.cell? ⟨b, off + 1, none⟩ = some (.slice pe g.edges.length ce))
    (fun b off cs n y hc hl ht => by
      obtain ⟨g, pe, ce, rfl, hE⟩ := read_graph hl ht
      exact ⟨g, pe, ce, hE, hc 0 (by omega), hc 1 (by omega)⟩) h
  exact ⟨p, cap, es, rfl, ⟨h1, h2, h3, h4⟩⟩
theorem read_relay {n : Nat} {cs : List Value} {y : DataW H × List MemPlace} (hl : cs.length = 3) (h : DataW.trod enc Try.prog W base sp hd n 65 cs = some y) :
    ∃ (r : Relay) (p : Option Addr) (cap : Nat), cs = [.string r.name, .int .i64 r.tag, .slice p r.graphs.length cap] ∧ GraphsAt W p cap r.graphs ∧ r.name.size ≤ 9223372036854775807 := by
  obtain ⟨a, b, d, rfl⟩ := cells3 hl
  obtain ⟨xs, m, _, _, _, hxl, hf⟩ := DataW.trod_struct Try.underlying65 h
  match xs, hxl with
  | [x0, x1, x2], _ =>
    have hc : Try.prog.cellsOf 63 = 1 := by kernel_rfl
    have hi : Try.prog.cellsOf 62 = 1 := by kernel_rfl
    have hs : Try.prog.cellsOf 9 = 1 := by kernel_rfl
    have g0 := hf 0 _ rfl
    have g1 := hf 1 _ rfl
    have g2 := hf 2 _ rfl
    simp [hc, hi, hs] at g0 g1 g2
    obtain ⟨s, h0, _, hsz⟩ := DataW.trod_string Try.underlying9 g0
    obtain ⟨p, h1, _⟩ := DataW.trod_int Try.underlying62 g1
    obtain ⟨q, cap, gs, h2, hG⟩ := read_graphs g2
    have e0 : a = .string s := by simpa using h0
    have e1 : b = .int .i64 p := by simpa using h1
    have e2 : d = .slice q gs.length cap := by simpa using h2
    exact ⟨⟨s, p, gs⟩, q, cap, by rw [e0, e1, e2], hG, hsz⟩
theorem read_relays {n : Nat} {cs : List Value} {y : DataW H × List MemPlace} (h : DataW.trod enc Try.prog W base sp hd n 55 cs = some y) :
    ∃ p cap rs, cs = [.slice p (List.length rs) cap] ∧ RelaysAt W p cap rs := by
  obtain ⟨p, cap, es, rfl, h1, h2, h3, h4⟩ := slice_list (α := Relay) (s := 3) Try.underlying55 (by kernel_rfl) (by omega)
    (fun b off r => ∃ pg cg, GraphsAt W pg cg r.graphs ∧ r.name.size ≤ 9223372036854775807 ∧ W.cell? ⟨b, off, none⟩ = some (.string r.name) ∧ W.cell? ⟨b, off + 1, none⟩ = some (.int .i64 r.tag) ∧
      W.cell? ⟨b, off + 2, none⟩ = some (.slice pg r.graphs.length cg))
    (fun b off cs n y hc hl ht => by
      obtain ⟨r, pg, cg, rfl, hG, hs⟩ := read_relay hl ht
      exact ⟨r, pg, cg, hG, hs, hc 0 (by omega), hc 1 (by omega), hc 2 (by omega)⟩) h
  exact ⟨p, cap, es, rfl, ⟨h1, h2, h3, h4⟩⟩
theorem read_strs {n : Nat} {cs : List Value} {y : DataW H × List MemPlace} (h : DataW.trod enc Try.prog W base sp hd n 54 cs = some y) :
    ∃ p cap ss, cs = [.slice p (List.length ss) cap] ∧ StrsAt W p cap ss := by
  obtain ⟨p, cap, ss, rfl, h1, h2, h3, h4⟩ := slice_list (α := ByteArray) (s := 1) Try.underlying54 (by kernel_rfl) (by omega)
    (fun b off s => s.size ≤ 9223372036854775807 ∧ W.cell? ⟨b, off, none⟩ = some (.string s))
    (fun b off cs n y hc hl ht => by
      obtain ⟨s, rfl, _, hs⟩ := DataW.trod_string Try.underlying9 ht
      exact ⟨s, hs, hc 0 (by omega)⟩) h
  refine ⟨p, cap, ss, rfl, ⟨h1, h2, h3, fun b off hp k hk => by simpa using (h4 b off hp k hk).2, fun s hs => ?_⟩⟩
  obtain ⟨k, hk, rfl⟩ := List.getElem_of_mem hs
  obtain ⟨b, off, hp⟩ := h3 k hk
  exact (h4 b off hp k hk).1
theorem read_circ {n : Nat} {cs : List Value} {y : DataW H × List MemPlace} (hl : cs.length = 2) (h : DataW.trod enc Try.prog W base sp hd n 57 cs = some y) :
    ∃ (c : Circuit) (pi : Option Addr) (ci : Nat) (pr : Option Addr) (cr : Nat), cs = [.slice pi c.inputs.length ci, .slice pr c.relays.length cr] ∧ CircAt W pi ci pr cr c := by
  obtain ⟨a, b, rfl⟩ := cells2 hl
  obtain ⟨xs, m, _, _, _, hxl, hf⟩ := DataW.trod_struct Try.underlying57 h
  match xs, hxl with
  | [x0, x1], _ =>
    have hc : Try.prog.cellsOf 54 = 1 := by kernel_rfl
    have hi : Try.prog.cellsOf 55 = 1 := by kernel_rfl
    have g0 := hf 0 _ rfl
    have g1 := hf 1 _ rfl
    simp [hc, hi] at g0 g1
    obtain ⟨p, cp, ss, h0, hS⟩ := read_strs g0
    obtain ⟨q, cq, rs, h1, hR⟩ := read_relays g1
    have e0 : a = .slice p ss.length cp := by simpa using h0
    have e1 : b = .slice q rs.length cq := by simpa using h1
    exact ⟨⟨ss, rs⟩, p, cp, q, cq, by rw [e0, e1], ⟨hS, hR⟩⟩

set_option maxRecDepth 100000 in
theorem open_circ {v : Value} {d : DataW H} {p : List MemPlace} (hv : Value.okWide Try.prog W .any base 57 v) (h : DataW.Trod enc Try.prog W 0 sp hd 57 v d p) :
    ∃ (c : Circuit) (pi : Option Addr) (ci : Nat) (pr : Option Addr) (cr : Nat), v = circV pi ci pr cr c ∧ CircAt W pi ci pr cr c := by
  obtain ⟨cs, rfl, hsz⟩ := okWide_struct Try.underlying57 hv
  have h2 : Try.prog.cellsOf 57 = 2 := by kernel_rfl
  obtain ⟨n, hn⟩ := h
  obtain ⟨c, pi, ci, pr, cr, h1, h3⟩ := read_circ (by show cs.toList.length = 2; rw [Array.length_toList, hsz, h2]) hn
  refine ⟨c, pi, ci, pr, cr, ?_, h3⟩
  have h1 : cs.toList = _ := h1
  rw [← Array.toArray_toList (xs := cs), h1]

theorem read_set {n : Nat} {cs : List Value} {y : DataW H × List MemPlace} (hl : cs.length = 2) (h : DataW.trod enc Try.prog W base sp hd n 24 cs = some y) :
    ∃ s : BS, cs = [.int .u64 (s.lo.toNat : Int), .int .u64 (s.hi.toNat : Int)] := by
  obtain ⟨a, b, rfl⟩ := cells2 hl
  obtain ⟨xs, m, _, _, _, hxl, hf⟩ := DataW.trod_array Try.underlying24 h
  have hi : Try.prog.cellsOf 22 = 1 := by kernel_rfl
  have g0 := hf 0 (by omega)
  have g1 := hf 1 (by omega)
  match xs, hxl with
  | [x0, x1], _ =>
    simp [hi] at g0 g1
    obtain ⟨p, h0, _, w0⟩ := DataW.trod_int Try.underlying22 g0
    obtain ⟨q, h1, _, w1⟩ := DataW.trod_int Try.underlying22 g1
    have e0 : a = .int .u64 p := by simpa using h0
    have e1 : b = .int .u64 q := by simpa using h1
    have b0 := bounds_u64 w0
    have b1 := bounds_u64 w1
    refine ⟨⟨BitVec.ofNat 64 p.toNat, BitVec.ofNat 64 q.toNat⟩, ?_⟩
    rw [e0, e1, BitVec.toNat_ofNat, BitVec.toNat_ofNat, Nat.mod_eq_of_lt (by omega), Nat.mod_eq_of_lt (by omega), Int.toNat_of_nonneg b0.1, Int.toNat_of_nonneg b1.1]
set_option maxRecDepth 100000 in
theorem open_set {v : Value} {d : DataW H} {p : List MemPlace} (hv : Value.okWide Try.prog W .any base 24 v) (h : DataW.Trod enc Try.prog W 0 sp hd 24 v d p) : ∃ s : BS, v = setV s := by
  obtain ⟨cs, rfl, hsz⟩ : ∃ cs, v = .agg cs ∧ cs.size = Try.prog.cellsOf 24 := by
    simp only [Value.okWide, Try.underlying24] at hv
    obtain ⟨cs, h1, h2, _⟩ := hv
    exact ⟨cs, h1, h2⟩
  have h2 : Try.prog.cellsOf 24 = 2 := by kernel_rfl
  obtain ⟨n, hn⟩ := h
  obtain ⟨s, h1⟩ := read_set (by show cs.toList.length = 2; rw [Array.length_toList, hsz, h2]) hn
  refine ⟨s, ?_⟩
  have h1 : cs.toList = _ := h1
  rw [← Array.toArray_toList (xs := cs), h1]
end
/-! ### the end of a law's proof -/
section
variable {H : Type} {enc : TypeId × Value → H}
theorem stays {P : Program} (hl : laidOutB P = true) {W W' : World} {sp : Nat → Bool} (hb : Below W.heap.size W W') :
    ∀ {ts : List TypeId} {vs : List Value} {ds : List (DataW H)} {ps : List MemPlace}, ts.all (fun t => P.readableRec t && decide (t < P.types.size)) = true → DataW.TrodAll enc P W 0 (fun _ => true) true ts vs ds ps →
      (∀ x ∈ ps, x.block < W.heap.size) → (∀ x ∈ ps, sp x.block = true) → DataW.TrodAll enc P W' 0 sp true ts vs ds ps := by
  intro ts
  induction ts with
  | nil =>
    intro vs ds ps _ h _ _
    obtain ⟨rfl, rfl, rfl⟩ := trodAll_nil h
    exact trodAll_mk0
  | cons t ts ih =>
    intro vs ds ps hr h hlt hs
    obtain ⟨v, vs', d, ds', p, q, rfl, rfl, rfl, h1, h2⟩ := trodAll_cons h
    simp only [List.all_cons, Bool.and_eq_true, decide_eq_true_eq] at hr
    exact trodAll_cons_mk (WideElems.Trod_stays hl hr.1.1 hr.1.2 h1 (fun x hx => hb.same (hlt x (List.mem_append_left _ hx))) (fun x hx => hs x (List.mem_append_left _ hx)))
      (ih (by simpa using hr.2) h2 (fun x hx => hlt x (List.mem_append_right _ hx)) (fun x hx => hs x (List.mem_append_right _ hx)))
/-- a law that returns true and leaves what was there alone -/
theorem law_post {P : Program} {f : Func} {s : ChangeSpec} {fresh : Bool} {W W' : World} {args : Array Value} {ds : List (DataW H)} {before : List MemPlace} {tb : TypeId} (hl : laidOutB P = true)
    (hr : f.params.toList.all (fun t => P.readableRec t && decide (t < P.types.size)) = true) (hvars : s.vars = []) (hrt : f.resultTypes = #[tb]) (hbt : P.underlying tb = some .bool)
    (hW : DataW.Whole enc P f.params.toList s.vars false W args.toList ds [] before) (hres : (s.fn H (ds ++ [])).results = [.lit (.bool true)]) (hargs : (s.fn H (ds ++ [])).args = ds) (hvs : (s.fn H (ds ++ [])).vars = [])
    (hb : Below W.heap.size W W') : s.post enc P f false fresh false false W args (.bool true) W' := by
  have hlt : ∀ p ∈ before, p.block < W.heap.size := fun p hp => hW.lt p hp
  have hW2 := hW
  obtain ⟨p, q, hA, hV, rfl, _, _⟩ := hW2
  refine ⟨ds, [], p ++ q, [], p, [], hW, ?_, ?_, ?_, hb.frame _, fun h => by cases h⟩
  · rw [hres, hrt]
    exact trodAll_cons_mk (shut_bool hbt true) trodAll_mk0
  · rw [hargs]
    exact stays hl hb hr hA (fun x hx => hlt x (List.mem_append_left _ hx)) (fun x hx => by simpa using hlt x (List.mem_append_left _ hx))
  · rw [hvs, hvars]; rfl
end
end Go.Proofs.Ytknplnfoekeljaa
