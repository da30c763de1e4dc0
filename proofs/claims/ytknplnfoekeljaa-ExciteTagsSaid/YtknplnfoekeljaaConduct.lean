/- The contracts of package conduct. -/
import Derived.Test.YtknplnfoekeljaaData
import Derived.Test.YtknplnfoekeljaaBits
import Derived.Test.YtknplnfoekeljaaJoinNew
import Derived.Test.YtknplnfoekeljaaGraph
namespace Go.Proofs.Ytknplnfoekeljaa
open Go.RowKit
theorem closed_ok (c : Contact) (I R : BS) (w : World) : Calls Try.prog 152 #[contactV c, setV I, setV R] w (Ret (.bool (c.closed I R)) w) := by
  obtain ⟨r, n, b⟩ := c
  cases r
  all_goals
    go_enter Try.func152, Try.ntmps152
    go_wp2_with fail
    refine wp_region_tail 8 (Up _) (by kernel_rfl) (by kernel_rfl) (Up.drew _) ?_
    dsimp only [List.take, List.drop]
    iterate 8
      refine q_step rfl (fun K hK => ?_)
      apply Exists.intro
      refine ⟨fun w' hC => ?_, ?_⟩
      · have hc := hC.cell
        have hf := hC.frozen
        have hbl := hC.below
        go_simp
        first | rfl | (go_at_call 133; refine (has_ok _ _ _).mono ?_; rintro e w2 ⟨rfl, h⟩; first | exact ⟨rfl, hC.then h⟩ | (subst h; exact ⟨rfl, hC⟩))
      go_simp
      refine hK _ ?_
      clear hK K
    refine wpQuiet_nil (fun w_4 C_4 => ?_)
    refine wpList_nil ?_
    show (Exit.then _ _) Exit.normal _ _
    have c_4 := C_4.cell
    have f_4 := C_4.frozen
    have z_4 := C_4.size
    have b_4 := C_4.below
    clear C_4
    try simp only [hz_alloc, hz_set, hz_drew] at z_4 c_4 f_4
    go_wp2
    go_ret
    refine ⟨?_, (by repeat (first | exact Below.refl _ _ | refine Below.alloc ?_ (by first | omega | (simp; done) | (simp; omega)) _ | refine Below.setCell ?_ (by first | omega | (simp; done) | (simp; omega)) _ | refine Below.drew ?_ | refine Below.drewN ?_ _ | refine Below.via (by assumption) (by first | omega | (simp; done) | (simp; omega)) ?_))⟩
    simp [Contact.closed]
    try (cases BS.hasI _ n <;> cases b <;> rfl)
def JoinedAt (w : World) (n : Nat) (R : Nat → Nat → Prop) (e : Ending) (w' : World) : Prop :=
  ∃ bj bu bs D dv ds up size, e = .returned (.pointer (some ⟨bj, 0, none⟩)) ∧ JoinIn w' w.heap.size bj bu bs D dv ds n up size ∧ Below w.heap.size w w' ∧ ∀ x y, x < n → y < n → (Fo.Same up x y ↔ R x y)
/-- behind k rounds of joined -/
def JoinedTo (w : World) (n : Nat) (p : Option Addr) (cap : Nat) (es : List Edge) (I R : BS) (bj bu bs D k : Nat) (wr : World) : Prop :=
  ∃ dv ds up size, JoinIn wr (w.heap.size + 3) bj bu bs D dv ds n up size ∧
    Below (w.heap.size + 3) (((w.alloc (Obj.cells #[.int .i64 (n : Int), .slice p es.length cap] 34)).alloc (Obj.cells #[.int .u64 I.lo.toNat, .int .u64 I.hi.toNat] 24)).alloc (Obj.cells #[.int .u64 R.lo.toNat, .int .u64 R.hi.toNat] 24)) wr ∧
    ds.length ≤ k ∧ ∀ x y : Nat, x < n → y < n → (Fo.Same up x y ↔ Conn (es.take k) (fun e => e.by_.closed I R) x y)
set_option maxRecDepth 100000 in
set_option maxHeartbeats 1000000 in
theorem joined_ok (n : Nat) (hn : n ≤ 256) (p : Option Addr) (cap : Nat) (es : List Edge) (I R : BS) (w : World) (hes : EdgesAt w p cap es) (hlen : es.length ≤ 4096)
    (hok : ∀ e, e ∈ es → 0 ≤ e.a ∧ e.a < n ∧ 0 ≤ e.b ∧ e.b < n) :
    Calls Try.prog 94 #[.agg #[.int .i64 (n : Int), .slice p es.length cap], setV I, setV R] w (JoinedAt w n (fun x y => Conn es (fun e => e.by_.closed I R) x y)) := by
  go_enter Try.func94, Try.ntmps94
  go_wp2_with fail
  refine (joinNew_ok n hn _).mono ?_; rintro e w' ⟨bj, bu, bs, D, rfl, hJ, hb1⟩
  obtain ⟨hc1, hf1⟩ := bcell hb1
  have hJ0 : JoinIn w' (w.heap.size + 3) bj bu bs D (.slice none 0 0) [] n (List.range n) (List.replicate n 1) := by simpa only [hz_alloc] using hJ
  go_wp2_with fail
  go_loopw [20] (fun v wr => ∃ k : Nat, k ≤ es.length ∧ v = .int .i64 (k : Int) ∧ JoinedTo w n p cap es I R bj bu bs D k wr) (fun v _ => es.length - (intOf v).toNat)
  case atStart => exact ⟨0, Nat.zero_le _, rfl, _, _, _, _, hJ0, (by simpa only [hz_alloc] using hb1), Nat.zero_le _, fun x y _ _ => by rw [Fo.same_new, List.take_zero, Conn.nil]; omega⟩
  case round =>
    clear hc1 hf1 hb1 hJ hJ0
    obtain ⟨k, hk, rfl, dv, ds, up, size, hJ2, hB2, hd2, hS2⟩ := hrel
    have hBw : Below w.heap.size w wr := (((below_alloc w _).alloc (by rw [hz_alloc]; omega) _).alloc (by rw [hz_alloc, hz_alloc]; omega) _).trans (hB2.mono (by omega))
    have i0 : wr.cell? ⟨w.heap.size + 1, 0, none⟩ = some (.int .u64 I.lo.toNat) := by rw [hB2.cell (p := ⟨_, _, none⟩) (by simp)]; go_simp
    have i1 : wr.cell? ⟨w.heap.size + 1, 1, none⟩ = some (.int .u64 I.hi.toNat) := by rw [hB2.cell (p := ⟨_, _, none⟩) (by simp)]; go_simp
    have r0 : wr.cell? ⟨w.heap.size + 1 + 1, 0, none⟩ = some (.int .u64 R.lo.toNat) := by rw [hB2.cell (p := ⟨_, _, none⟩) (by simp)]; go_simp
    have r1 : wr.cell? ⟨w.heap.size + 1 + 1, 1, none⟩ = some (.int .u64 R.hi.toNat) := by rw [hB2.cell (p := ⟨_, _, none⟩) (by simp)]; go_simp
    have hzr := hB2.size
    simp only [hz_alloc] at hzr
    have hz0 : w.heap.size < wr.heap.size := by omega
    have hz1 : w.heap.size + 1 < wr.heap.size := by omega
    have hz2 : w.heap.size + 1 + 1 < wr.heap.size := by omega
    by_cases hlt : k < es.length
    · obtain ⟨b, off, rfl⟩ := hes.at_ k hlt
      obtain ⟨e0, e1, e2, e3, e4⟩ := (hes.up hBw).cell b off rfl k hlt
      obtain ⟨g1, g2, g3, g4⟩ := hok _ (List.getElem_mem hlt)
      have HT : Hid (es.take (k + 1) = es.take k ++ [es[k]]) := List.take_succ_eq_append_getElem hlt
      generalize es[k] = e at *
      cases hcl : e.by_.closed I R
      · go_wp2_with fail
        refine (closed_ok e.by_ I R _).mono ?_; rintro e' w1 ⟨rfl, hb1⟩
        rw [hcl]
        go_wp2_with fail
        go_roundw
        case rel =>
          have hb1' : Below wr.heap.size wr w1 := (below_alloc _ _).trans (hb1.mono (by rw [hz_alloc]; omega))
          exact ⟨k + 1, by omega, by go_num, dv, ds, up, size, hJ2.up hb1', hB2.trans (hb1'.mono (by omega)), by omega, fun x y hx hy => by rw [hS2 x y hx hy, HT.out, Conn.snoc_open hcl]⟩
        case measure => simp [intOf]; omega
      · obtain ⟨x, hx⟩ : ∃ x : Nat, e.a = x := ⟨e.a.toNat, by omega⟩
        obtain ⟨y, hy⟩ : ∃ y : Nat, e.b = y := ⟨e.b.toNat, by omega⟩
        go_wp2_with fail
        refine (closed_ok e.by_ I R _).mono ?_; rintro e' w1 ⟨rfl, hb1⟩
        rw [hcl]
        obtain ⟨hc1, hf1⟩ := bcell hb1
        have hb1' : Below wr.heap.size wr w1 := (below_alloc _ _).trans (hb1.mono (by rw [hz_alloc]; omega))
        have hJ3 := hJ2.up hb1'
        have Hxy : Hid (e.a = x ∧ e.b = y) := ⟨hx, hy⟩
        have hxn : x < n := by omega
        have hyn : y < n := by omega
        clear hx hy
        go_wp2_with fail
        refine (unite_ok hJ3 (a := x) (b := y) (by omega) (by omega) (by omega)).mono ?_; rintro e' w2 ⟨r, dv', ds', up', size', rfl, hJ4, hd4, hb4, hS4⟩
        have HS4 : Hid (∀ p q, p < n → q < n → (Fo.Same up' p q ↔ Fo.Join (Fo.Same up) x y p q)) := hS4
        clear hS4
        go_wp2_with fail
        go_roundw
        case rel =>
          refine ⟨k + 1, by omega, by go_num, dv', ds', up', size', hJ4, (hB2.trans (hb1'.mono (by omega))).trans hb4, by omega, fun p q hp hq => ?_⟩
          rw [HS4.out p q hp hq, HT.out, Conn.snoc_closed hcl, Hxy.out.1, Hxy.out.2]
          unfold Fo.Join Conn.Plus
          rw [hS2 p q hp hq, hS2 p x hp (by omega), hS2 y q (by omega) hq, hS2 p y hp (by omega), hS2 x q (by omega) hq]
        case measure => simp [intOf]; omega
    · have hke : k = es.length := by omega
      have HT : Hid (es.take k = es) := by subst hke; exact List.take_length
      clear hke
      go_wp2_with fail
      go_ret
      refine ⟨bj, bu, bs, D, dv, ds, up, size, rfl, hJ2.mono (by omega), hBw, fun x y hx hy => ?_⟩
      rw [hS2 x y hx hy, HT.out]
theorem conducts_ok (g : Graph) (p : Option Addr) (cap : Nat) (I R : BS) (w : World) (hes : EdgesAt w p cap g.edges) (hr : g.right) :
    Calls Try.prog 34 #[.agg #[.int .i64 g.nodes, .slice p g.edges.length cap], setV I, setV R] w
      (Ret (.tuple #[.bool (g.conducts fun e => e.by_.closed I R), .int .i64 0]) w) := by
  obtain ⟨n, es⟩ := g
  obtain ⟨h1, h2, h3, h4⟩ := hr
  have h1 : 2 ≤ n := h1
  have h2 : n ≤ 256 := h2
  have h3 : es.length ≤ 4096 := h3
  obtain ⟨m, rfl⟩ : ∃ m : Nat, n = m := ⟨n.toNat, by omega⟩
  have H0 : Hid (graphErr ⟨(m : Int), es⟩ = 0) := graphErr_ok ⟨h1, h2, h3, h4⟩
  have h4' : ∀ e, e ∈ es → 0 ≤ e.a ∧ e.a < m ∧ 0 ≤ e.b ∧ e.b < m := fun e he => by
    obtain ⟨a1, a2, a3, a4, _⟩ := h4 e he
    exact ⟨a1, a2, a3, a4⟩
  clear h4
  have hm2 : 2 ≤ m := by omega
  have hm3 : m ≤ 256 := by omega
  clear h1 h2
  go_enter Try.func34, Try.ntmps34
  go_wp2_with fail
  refine (graph_ok ⟨(m : Int), es⟩ p cap _ (hes.up (by repeat (first | exact Below.refl _ _ | refine Below.alloc ?_ (by first | omega | (simp; done) | (simp; omega)) _ | refine Below.setCell ?_ (by first | omega | (simp; done) | (simp; omega)) _ | refine Below.drew ?_ | refine Below.drewN ?_ _ | refine Below.via (by assumption) (by first | omega | (simp; done) | (simp; omega)) ?_)))).mono ?_; rintro e w1 ⟨rfl, hb1⟩
  rw [H0.out]
  have z_hb1 := hb1.size
  obtain ⟨c_hb1, f_hb1⟩ := bcell hb1
  try simp only [hz_alloc, hz_set, hz_drew] at z_hb1 c_hb1 f_hb1
  go_wp2_with fail
  refine (joined_ok m hm3 p cap es I R _ (hes.up (by repeat (first | exact Below.refl _ _ | refine Below.alloc ?_ (by first | omega | (simp; done) | (simp; omega)) _ | refine Below.setCell ?_ (by first | omega | (simp; done) | (simp; omega)) _ | refine Below.drew ?_ | refine Below.drewN ?_ _ | refine Below.via (by assumption) (by first | omega | (simp; done) | (simp; omega)) ?_))) h3 h4').mono ?_; rintro e w2 ⟨bj, bu, bs, D, dv, ds, up, size, rfl, hJ, hb2, hS⟩
  have z_hb2 := hb2.size
  obtain ⟨c_hb2, f_hb2⟩ := bcell hb2
  try simp only [hz_alloc, hz_set, hz_drew] at z_hb2 c_hb2 f_hb2
  have Hc : ((Fo.rt up 0 : Int) == (Fo.rt up 1 : Int)) = Graph.conducts ⟨(m : Int), es⟩ (fun e => e.by_.closed I R) := by
    have h0 := hS 0 1 (by omega) (by omega)
    rw [Fo.same_iff (Fo.rt_root hJ.ok (by omega)) (Fo.rt_root hJ.ok (by omega))] at h0
    unfold Graph.conducts
    rw [Bool.eq_iff_iff]
    simp only [beq_iff_eq, Int.natCast_inj, decide_eq_true_eq]
    exact h0
  go_wp2_with fail
  refine (same_ok hJ (a := 0) (b := 1) (by omega) (by omega)).mono ?_; rintro e w3 ⟨rfl, hb3⟩
  rw [Hc]
  have z_hb3 := hb3.size
  obtain ⟨c_hb3, f_hb3⟩ := bcell hb3
  try simp only [hz_alloc, hz_set, hz_drew] at z_hb3 c_hb3 f_hb3
  clear hS Hc
  go_wp2_with fail
  go_ret2
  exact ⟨rfl, (by repeat (first | exact Below.refl _ _ | refine Below.alloc ?_ (by first | omega | (simp; done) | (simp; omega)) _ | refine Below.setCell ?_ (by first | omega | (simp; done) | (simp; omega)) _ | refine Below.drew ?_ | refine Below.drewN ?_ _ | refine Below.via (by assumption) (by first | omega | (simp; done) | (simp; omega)) ?_))⟩
end Go.Proofs.Ytknplnfoekeljaa
