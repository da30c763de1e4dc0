/- The contracts of package join. -/
import Derived.Test.YtknplnfoekeljaaWords
import Derived.Test.YtknplnfoekeljaaForest
namespace Go.Proofs.Ytknplnfoekeljaa
open Go.RowKit
def natV (x : Nat) : Value := .int .i64 (x : Int)
def natsV (l : List Nat) : Array Value := (l.map natV).toArray
structure JoinIn (w : World) (B bj bu bs D : Nat) (dv : Value) (ds : List Value) (n : Nat) (up size : List Nat) : Prop where
  ok : Fo.Ok n up size
  hj : w.heap[bj]? = some (.cells #[.slice (some ⟨bu, 0, none⟩) n n, .slice (some ⟨bs, 0, none⟩) n n, dv] 248 (0, 0))
  hu : w.heap[bu]? = some (.cells (natsV up) 3 (0, 0))
  hs : w.heap[bs]? = some (.cells (natsV size) 3 (0, 0))
  done : w.ownsRow D 3 1 dv ds.length ds
  lo : B ≤ bj ∧ B ≤ bu ∧ B ≤ bs ∧ bj < D ∧ bu < D ∧ bs < D ∧ D ≤ w.heap.size
  ne : bj ≠ bu ∧ bj ≠ bs ∧ bu ≠ bs
  n256 : n ≤ 256
noncomputable def Fo.rt (up : List Nat) (a : Nat) : Nat := by
  classical exact if h : ∃ l, Fo.Root up a l then h.choose else a
theorem Fo.rt_root {n : Nat} {up size : List Nat} (h : Fo.Ok n up size) {a : Nat} (ha : a < n) : Fo.Root up a (Fo.rt up a) := by
  obtain ⟨l, _, r⟩ := h.root_ex ha
  have hex : ∃ l, Fo.Root up a l := ⟨l, r⟩
  unfold Fo.rt; rw [dif_pos hex]; exact hex.choose_spec
theorem Fo.rt_eq {up : List Nat} {a l : Nat} (r : Fo.Root up a l) : Fo.rt up a = l := by
  have hex : ∃ l, Fo.Root up a l := ⟨l, r⟩
  unfold Fo.rt; rw [dif_pos hex]; exact hex.choose_spec.uniq r
theorem JoinIn.upc {w : World} {B bj bu bs D n : Nat} {dv : Value} {ds : List Value} {up size : List Nat} (h : JoinIn w B bj bu bs D dv ds n up size) {i : Nat} (hi : i < n) :
    w.cell? ⟨bu, i, none⟩ = some (.int .i64 (Fo.nx up i : Int)) := by
  rw [cell_of_row w bu i _ _ _ h.hu]
  have : i < up.length := by rw [h.ok.lu]; exact hi
  simp [natsV, natV, Fo.nx, this]
theorem JoinIn.szc {w : World} {B bj bu bs D n : Nat} {dv : Value} {ds : List Value} {up size : List Nat} (h : JoinIn w B bj bu bs D dv ds n up size) {i : Nat} (hi : i < n) :
    w.cell? ⟨bs, i, none⟩ = some (.int .i64 (Fo.sz size i : Int)) := by
  rw [cell_of_row w bs i _ _ _ h.hs]
  have : i < size.length := by rw [h.ok.ls]; exact hi
  simp [natsV, natV, Fo.sz, this]
theorem lead_ok {w : World} {B bj bu bs D n : Nat} {dv : Value} {ds : List Value} {up size : List Nat} (h : JoinIn w B bj bu bs D dv ds n up size) {a : Nat} (ha : a < n) :
    Calls Try.prog 155 #[.pointer (some ⟨bj, 0, none⟩), .int .i64 (a : Int)] w (fun e w' => e = .returned (.int .i64 (Fo.rt up a : Int)) ∧ w = w') := by
  have c0 : w.cell? ⟨bj, 0, none⟩ = some (.slice (some ⟨bu, 0, none⟩) n n) := by rw [cell_of_row w bj 0 _ _ _ h.hj]; rfl
  have hn := h.n256
  go_enter Try.func155, Try.ntmps155
  go_wp2
  go_loop [1] (fun v => ∃ x : Nat, x < n ∧ v = .int .i64 (x : Int) ∧ Fo.rt up x = Fo.rt up a) (fun v => n - Fo.sz size (intOf v).toNat)
  case atStart => exact ⟨a, ha, rfl, rfl⟩
  case round =>
    obtain ⟨x, hx, rfl, hr⟩ := hrel
    have hc := h.upc hx
    have hx2 := h.ok.lt x hx
    have Hr : Hid (Fo.rt up x = Fo.rt up a) := hr
    clear hr
    by_cases hf : Fo.nx up x = x
    · have hf1 : ((Fo.nx up x : Int) == (x : Int)) = true := by simp [hf]
      have hf2 : ((Fo.nx up x : Int) != (x : Int)) = false := by simp [hf]
      have Hf : Hid (Fo.nx up x = x) := hf
      clear hf
      go_wp2
      go_ret
      rw [← Hr.out, Fo.rt_eq (.here Hf.out)]
      exact ⟨rfl, rfl⟩
    · have hf1 : ((Fo.nx up x : Int) == (x : Int)) = false := by simpa using fun e => hf (by omega)
      have hf2 : ((Fo.nx up x : Int) != (x : Int)) = true := by simpa using fun e => hf (by omega)
      have Hf : Hid (Fo.nx up x ≠ x) := hf
      clear hf
      go_wp2
      go_round
      case rel =>
        refine ⟨Fo.nx up x, hx2, rfl, ?_⟩
        have := Fo.rt_root h.ok hx2
        rw [← Hr.out]; exact (Fo.rt_eq (.step Hf.out this)).symm
      case measure =>
        have h1 := h.ok.rise x hx Hf.out
        have h2 := h.ok.sz_le hx2
        simp [intOf]; omega
theorem check_ok {w : World} {B bj bu bs D n : Nat} {dv : Value} {ds : List Value} {up size : List Nat} (h : JoinIn w B bj bu bs D dv ds n up size) (g : Nat) (zs : List Nat) (hlen : zs.length ≤ 2)
    (hz : ∀ k, k < zs.length → zs.getD k 0 < n ∧ w.cell? ⟨g, k, none⟩ = some (.int .i64 (zs.getD k 0 : Int))) :
    Calls Try.prog 154 #[.pointer (some ⟨bj, 0, none⟩), .slice (some ⟨g, 0, none⟩) zs.length zs.length] w (fun e w' => e = .returned (.int .i64 0) ∧ w = w') := by
  have c0 : w.cell? ⟨bj, 0, none⟩ = some (.slice (some ⟨bu, 0, none⟩) n n) := by rw [cell_of_row w bj 0 _ _ _ h.hj]; rfl
  have hn := h.n256
  go_enter Try.func154, Try.ntmps154
  go_wp2
  go_loop [11] (fun v => ∃ k : Nat, k ≤ zs.length ∧ v = .int .i64 (k : Int)) (fun v => zs.length - (intOf v).toNat)
  case atStart => exact ⟨0, Nat.zero_le _, rfl⟩
  case round =>
    obtain ⟨k, hk, rfl⟩ := hrel
    by_cases hlt : k < zs.length
    · obtain ⟨hv, hc⟩ := hz k hlt
      clear hz
      generalize zs.getD k 0 = x at *
      go_wp2
      go_round
      case rel => exact ⟨k + 1, by omega, by go_num⟩
      case measure => simp [intOf]; omega
    · clear hz
      go_wp2
      go_ret
      exact ⟨rfl, rfl⟩
theorem JoinIn.up {w w' : World} {B bj bu bs D n : Nat} {dv : Value} {ds : List Value} {up size : List Nat} (h : JoinIn w B bj bu bs D dv ds n up size) (k : Below w.heap.size w w') :
    JoinIn w' B bj bu bs D dv ds n up size := by
  have hlt : ∀ {b : Nat} {o : Obj}, w.heap[b]? = some o → w'.heap[b]? = some o := fun {b o} hb => by
    rw [k.block b (Array.getElem?_eq_some_iff.1 hb).1]; exact hb
  exact ⟨h.ok, hlt h.hj, hlt h.hu, hlt h.hs, h.done.kept (row := none) ⟨k.os, k.tape, k.output, k.size, fun i hi _ => k.block i hi⟩ (by cases hv : dv.ownBlock <;> simp),
    ⟨h.lo.1, h.lo.2.1, h.lo.2.2.1, h.lo.2.2.2.1, h.lo.2.2.2.2.1, h.lo.2.2.2.2.2.1, Nat.le_trans h.lo.2.2.2.2.2.2 k.size⟩, h.ne, h.n256⟩
theorem JoinIn.mono {w : World} {B B' bj bu bs D n : Nat} {dv : Value} {ds : List Value} {up size : List Nat} (h : JoinIn w B bj bu bs D dv ds n up size) (hb : B' ≤ B) : JoinIn w B' bj bu bs D dv ds n up size :=
  ⟨h.ok, h.hj, h.hu, h.hs, h.done, ⟨Nat.le_trans hb h.lo.1, Nat.le_trans hb h.lo.2.1, Nat.le_trans hb h.lo.2.2.1, h.lo.2.2.2⟩, h.ne, h.n256⟩
theorem same_ok {w : World} {B bj bu bs D n : Nat} {dv : Value} {ds : List Value} {up size : List Nat} (h : JoinIn w B bj bu bs D dv ds n up size) {a b : Nat} (ha : a < n) (hb : b < n) :
    Calls Try.prog 95 #[.pointer (some ⟨bj, 0, none⟩), .int .i64 (a : Int), .int .i64 (b : Int)] w
      (Ret (.tuple #[.bool ((Fo.rt up a : Int) == (Fo.rt up b : Int)), .int .i64 0]) w) := by
  have hz : ∀ k, k < [a, b].length → [a, b].getD k 0 < n ∧ (w.alloc (.cells #[.int .i64 (a : Int), .int .i64 (b : Int)] 3)).cell? ⟨w.heap.size, k, none⟩ = some (.int .i64 ([a, b].getD k 0 : Int)) := by
    intro k hk
    have : k = 0 ∨ k = 1 := by simp at hk; omega
    rcases this with rfl | rfl
    · exact ⟨ha, by go_simp⟩
    · exact ⟨hb, by go_simp⟩
  have h' := h.up (below_alloc w (.cells #[.int .i64 (a : Int), .int .i64 (b : Int)] 3))
  go_enter Try.func95, Try.ntmps95
  go_wp2_with fail
  refine (check_ok h' w.heap.size [a, b] (by simp) hz).mono ?_; rintro e w' ⟨rfl, rfl⟩
  go_wp2_with fail
  refine (lead_ok h' ha).mono ?_; rintro e w' ⟨rfl, rfl⟩
  go_wp2_with fail
  refine (lead_ok h' hb).mono ?_; rintro e w' ⟨rfl, rfl⟩
  go_wp2_with fail
  go_ret2
  exact ⟨rfl, (by repeat (first | exact Below.refl _ _ | refine Below.alloc ?_ (by first | omega | (simp; done) | (simp; omega)) _ | refine Below.setCell ?_ (by first | omega | (simp; done) | (simp; omega)) _ | refine Below.drew ?_ | refine Below.drewN ?_ _ | refine Below.via (by assumption) (by first | omega | (simp; done) | (simp; omega)) ?_))⟩
theorem natsV_set (l : List Nat) (i x : Nat) : (natsV l).setIfInBounds i (natV x) = natsV (l.set i x) := by
  unfold natsV
  rw [List.setIfInBounds_toArray, List.map_set]
theorem heap_set_same {w : World} {b i : Nat} {cs : Array Value} {t : TypeId} {v : Value} (h : w.heap[b]? = some (.cells cs t (0, 0))) : (w.setCell ⟨b, i, none⟩ v).heap[b]? = some (.cells (cs.setIfInBounds i v) t (0, 0)) :=
  heap_setCell_same w b i cs t v h
theorem heap_set_ne {w : World} {b b' i : Nat} {v : Value} (h : b' ≠ b) : (w.setCell ⟨b, i, none⟩ v).heap[b']? = w.heap[b']? := Below.heap_setCell w ⟨b, i, none⟩ v b' h
theorem JoinIn.set {w w1 : World} {B bj bu bs D n : Nat} {dv : Value} {ds : List Value} {up size : List Nat} (h : JoinIn w B bj bu bs D dv ds n up size) {a b : Nat} (ha : a < n) (hb : b < n)
    (hra : Fo.nx up a = a) (hrb : Fo.nx up b = b) (hab : a ≠ b) (k : Below (w.setCell ⟨bu, b, none⟩ (natV a)).heap.size (w.setCell ⟨bu, b, none⟩ (natV a)) w1) :
    JoinIn (w1.setCell ⟨bs, a, none⟩ (natV (Fo.sz size a + Fo.sz size b))) B bj bu bs D dv ds n (up.set b a) (size.set a (Fo.sz size a + Fo.sz size b)) := by
  obtain ⟨n1, n2, n3⟩ := h.ne
  obtain ⟨l1, l2, l3, l4, l5, l6, l7⟩ := h.lo
  rw [hz_set] at k
  have hs := k.size
  rw [hz_set] at hs
  have hk : ∀ {x : Nat} {o : Obj}, (w.setCell ⟨bu, b, none⟩ (natV a)).heap[x]? = some o → w1.heap[x]? = some o := fun {x o} hx => by
    rw [k.block x (by have := (Array.getElem?_eq_some_iff.1 hx).1; rwa [hz_set] at this)]; exact hx
  have hd := (ownsRow_setCell_below h.done (a := ⟨bu, b, none⟩) l5 (natV a)).kept (w' := w1) (row := none)
    ⟨k.os, k.tape, k.output, k.size, fun i hi _ => k.block i (by rwa [hz_set] at hi)⟩ (by cases hv : dv.ownBlock <;> simp)
  refine ⟨h.ok.attach ha hb hra hrb hab, ?_, ?_, ?_, ?_, ⟨l1, l2, l3, l4, l5, l6, by rw [hz_set]; omega⟩, h.ne, h.n256⟩
  · rw [heap_set_ne n2]; exact hk (by rw [heap_set_ne n1]; exact h.hj)
  · rw [heap_set_ne n3, hk (o := .cells (natsV (up.set b a)) 3 (0, 0)) (by rw [heap_set_same h.hu, natsV_set])]
  · rw [heap_set_same (cs := natsV size) (t := 3) (hk (by rw [heap_set_ne (Ne.symm n3)]; exact h.hs)), natsV_set]
  · exact ownsRow_setCell_below hd (a := ⟨bs, a, none⟩) l6 _
theorem JoinIn.push {w w' : World} {B bj bu bs D n : Nat} {dv dv' : Value} {ds : List Value} {x : Value} {up size : List Nat} (h : JoinIn w B bj bu bs D dv ds n up size)
    (ho : w'.ownsRow D 3 1 dv' (ds.length + 1) (ds ++ [x])) (hg : w.grownBy w' dv.ownBlock) :
    JoinIn (w'.setCell ⟨bj, 2, none⟩ dv') B bj bu bs D dv' (ds ++ [x]) n up size := by
  obtain ⟨n1, n2, n3⟩ := h.ne
  obtain ⟨l1, l2, l3, l4, l5, l6, l7⟩ := h.lo
  have hk : ∀ {b : Nat} {o : Obj}, b < D → w.heap[b]? = some o → w'.heap[b]? = some o := fun {b o} hb ho => by
    rw [hg.block b (Array.getElem?_eq_some_iff.1 ho).1 (fun e => by have := (h.done.lt b e.symm).1; omega)]; exact ho
  refine ⟨h.ok, ?_, ?_, ?_, ?_, ⟨l1, l2, l3, l4, l5, l6, by rw [hz_set]; exact Nat.le_trans l7 hg.size⟩, h.ne, h.n256⟩
  · rw [heap_set_same (hk l4 h.hj)]; rfl
  · rw [heap_set_ne (Ne.symm n1)]; exact hk l5 h.hu
  · rw [heap_set_ne (Ne.symm n2)]; exact hk l6 h.hs
  · have := ownsRow_setCell_below ho (a := ⟨bj, 2, none⟩) l4 dv'
    simpa using this
theorem Fo.join_same {up : List Nat} {a b x y lx ly : Nat} (ra : Fo.Root up a (Fo.rt up a)) (rb : Fo.Root up b (Fo.rt up b)) (he : Fo.rt up a = Fo.rt up b) (rx : Fo.Root up x lx) (ry : Fo.Root up y ly) :
    Fo.Same up x y ↔ Fo.Join (Fo.Same up) a b x y := by
  unfold Fo.Join
  rw [Fo.same_iff rx ry, Fo.same_iff rx ra, Fo.same_iff rb ry, Fo.same_iff rx rb, Fo.same_iff ra ry]
  omega
theorem Try.infoInt : (Try.prog.info? 3).map (fun i => (i.zero, i.size, i.bytes)) = some (some (.int .i64 0), 1, 8) := by kernel_rfl
/-- what Unite leaves -/
def United (w : World) (B bj bu bs D : Nat) (m n : Nat) (up : List Nat) (a b : Nat) (e : Ending) (w' : World) : Prop :=
  ∃ r dv ds up' size', e = .returned (.tuple #[.bool r, .int .i64 0]) ∧ JoinIn w' B bj bu bs D dv ds n up' size' ∧ ds.length ≤ m + 1 ∧ Below B w w' ∧ ∀ x y, x < n → y < n → (Fo.Same up' x y ↔ Fo.Join (Fo.Same up) a b x y)
theorem unite_end {w w7 w10 w2 : World} {B bj bu bs D n a b : Nat} {dv v' : Value} {ds : List Value} {up size : List Nat} (h : JoinIn w B bj bu bs D dv ds n up size) (ha : a < n) (hb : b < n)
    (h7 : JoinIn w7 B bj bu bs D dv ds n up size) (hb7 : Below w.heap.size w w7) {p q : Nat}
    (hx : (p = Fo.rt up a ∧ q = Fo.rt up b) ∨ (p = Fo.rt up b ∧ q = Fo.rt up a)) (hpq : p ≠ q)
    (k : Below (w7.setCell ⟨bu, q, none⟩ (natV p)).heap.size (w7.setCell ⟨bu, q, none⟩ (natV p)) w10)
    (ho : w2.ownsRow D 3 1 v' (ds.length + 1) (ds ++ [natV q])) {o : Obj}
    (hg : ((w10.setCell ⟨bs, p, none⟩ (natV (Fo.sz size p + Fo.sz size q))).alloc o).grownBy w2 dv.ownBlock) :
    United w B bj bu bs D ds.length n up a b (.returned (.tuple #[.bool true, .int .i64 0])) (w2.setCell ⟨bj, 2, none⟩ v') := by
  obtain ⟨l1, l2, l3, l4, l5, l6, l7⟩ := h.lo
  have ra := Fo.rt_root h.ok ha
  have rb := Fo.rt_root h.ok hb
  have hq : q < n := by rcases hx with ⟨_, e⟩ | ⟨_, e⟩ <;> rw [e]; exact rb.lt h.ok hb; exact ra.lt h.ok ha
  have hp : p < n := by rcases hx with ⟨e, _⟩ | ⟨e, _⟩ <;> rw [e]; exact ra.lt h.ok ha; exact rb.lt h.ok hb
  have fq : Fo.nx up q = q := by rcases hx with ⟨_, e⟩ | ⟨_, e⟩ <;> rw [e]; exact rb.fix; exact ra.fix
  have fp : Fo.nx up p = p := by rcases hx with ⟨e, _⟩ | ⟨e, _⟩ <;> rw [e]; exact ra.fix; exact rb.fix
  have h10 := h7.set hp hq fp fq hpq k
  have h11 := h10.up (below_alloc _ o)
  refine ⟨true, v', ds ++ [natV q], up.set q p, size.set p (Fo.sz size p + Fo.sz size q), rfl, h11.push ho hg, by simp, ?_, fun x y hx' hy' => ?_⟩
  · refine Below.setCell ?_ l1 _
    have s7 := hb7.size
    have s10 := k.size
    rw [hz_set] at s10
    have e1 : Below B w (w10.setCell ⟨bs, p, none⟩ (natV (Fo.sz size p + Fo.sz size q))) :=
      (((hb7.mono (by omega)).setCell (p := ⟨bu, q, none⟩) l2 _).trans (k.mono (by rw [hz_set]; omega))).setCell (p := ⟨bs, p, none⟩) l3 _
    refine (e1.alloc (by rw [hz_set]; omega) o).grown hg (by rw [hz_alloc, hz_set]; omega) (fun i hi => ?_)
    have := (h.done.lt i hi).1; omega
  · rcases hx with ⟨rfl, rfl⟩ | ⟨rfl, rfl⟩
    · exact Fo.Same.attach h.ok hp hq ra rb hpq hx' hy'
    · rw [Fo.Join.swap]; exact Fo.Same.attach h.ok hp hq rb ra hpq hx' hy'
set_option maxRecDepth 100000 in
set_option maxHeartbeats 1000000 in
theorem unite_ok {w : World} {B bj bu bs D n : Nat} {dv : Value} {ds : List Value} {up size : List Nat} (h : JoinIn w B bj bu bs D dv ds n up size) {a b : Nat} (ha : a < n) (hb : b < n) (hm : ds.length ≤ 100000) :
    Calls Try.prog 153 #[.pointer (some ⟨bj, 0, none⟩), .int .i64 (a : Int), .int .i64 (b : Int)] w (United w B bj bu bs D ds.length n up a b) := by
  have hz : ∀ k, k < [a, b].length → [a, b].getD k 0 < n ∧ (w.alloc (.cells #[.int .i64 (a : Int), .int .i64 (b : Int)] 3)).cell? ⟨w.heap.size, k, none⟩ = some (.int .i64 ([a, b].getD k 0 : Int)) := by
    intro k hk
    have : k = 0 ∨ k = 1 := by simp at hk; omega
    rcases this with rfl | rfl
    · exact ⟨ha, by go_simp⟩
    · exact ⟨hb, by go_simp⟩
  have h' := h.up (below_alloc w (.cells #[.int .i64 (a : Int), .int .i64 (b : Int)] 3))
  have HR : Hid (∀ x, x < n → Fo.Root up x (Fo.rt up x) ∧ Fo.rt up x < n) := fun x hx => ⟨Fo.rt_root h.ok hx, (Fo.rt_root h.ok hx).lt h.ok hx⟩
  obtain ⟨l1, l2, l3, l4, l5, l6, l7⟩ := h.lo
  have la : Fo.rt up a < n := (HR.out a ha).2
  have lb : Fo.rt up b < n := (HR.out b hb).2
  have hn := h.n256
  by_cases heq : Fo.rt up a = Fo.rt up b
  · have e1 : ((Fo.rt up a : Int) == (Fo.rt up b : Int)) = true := by simp [heq]
    have Heq : Hid (Fo.rt up a = Fo.rt up b) := heq
    clear heq
    go_enter Try.func153, Try.ntmps153
    go_wp2_with fail
    refine (check_ok h' w.heap.size [a, b] (by simp) hz).mono ?_; rintro e w' ⟨rfl, rfl⟩
    go_wp2_with fail
    refine (lead_ok h' ha).mono ?_; rintro e w' ⟨rfl, rfl⟩
    go_wp2_with fail
    refine (lead_ok h' hb).mono ?_; rintro e w' ⟨rfl, rfl⟩
    go_wp2_with fail
    go_ret2
    refine ⟨false, dv, ds, up, size, rfl, h', by omega, (below_alloc _ _).mono (by omega), fun x y hx hy => ?_⟩
    exact Fo.join_same (HR.out a ha).1 ((HR.out b hb).1) Heq.out (HR.out x hx).1 (HR.out y hy).1
  · have e1 : ((Fo.rt up a : Int) == (Fo.rt up b : Int)) = false := by simpa using fun e => heq (by omega)
    have Heq : Hid (Fo.rt up a ≠ Fo.rt up b) := heq
    clear heq
    obtain ⟨n1, n2, n3⟩ := h.ne
    have c0 : w.cell? ⟨bj, 0, none⟩ = some (.slice (some ⟨bu, 0, none⟩) n n) := by rw [cell_of_row w bj 0 _ _ _ h.hj]; rfl
    have c1 : w.cell? ⟨bj, 1, none⟩ = some (.slice (some ⟨bs, 0, none⟩) n n) := by rw [cell_of_row w bj 1 _ _ _ h.hj]; rfl
    have c2 : w.cell? ⟨bj, 2, none⟩ = some dv := by rw [cell_of_row w bj 2 _ _ _ h.hj]; rfl
    have sa := h.szc la
    have sb := h.szc lb
    have ua := h.upc la
    have ub := h.upc lb
    have fj := fun j => frozen_of_row w bj j _ _ h.hj
    have fu := fun j => frozen_of_row w bu j _ _ h.hu
    have fs := fun j => frozen_of_row w bs j _ _ h.hs
    have z1 := h.ok.sz_le la
    have z2 := h.ok.sz_le lb
    have k1 : bj < w.heap.size := by omega
    have k2 : bu < w.heap.size := by omega
    have k3 : bs < w.heap.size := by omega
    by_cases hlt : Fo.sz size (Fo.rt up a) < Fo.sz size (Fo.rt up b)
    · have e2 : decide ((Fo.sz size (Fo.rt up a) : Int) < (Fo.sz size (Fo.rt up b) : Int)) = true := by simpa using hlt
      go_enter Try.func153, Try.ntmps153
      go_wp2_with fail
      refine (check_ok h' w.heap.size [a, b] (by simp) hz).mono ?_; rintro e w' ⟨rfl, rfl⟩
      go_wp2_with fail
      refine (lead_ok h' ha).mono ?_; rintro e w' ⟨rfl, rfl⟩
      go_wp2_with fail
      refine (lead_ok h' hb).mono ?_; rintro e w' ⟨rfl, rfl⟩
      go_wp2_with fail
      clear hz
      refine wp_region_tail 15 (Up _) (by kernel_rfl) (by kernel_rfl) (Up.drew _) ?_
      dsimp only [List.take, List.drop]
      iterate 15
        refine q_step rfl (fun K hK => ?_)
        apply Exists.intro
        refine ⟨fun w' hC => ?_, ?_⟩
        · have hc := hC.cell
          have hf := hC.frozen
          have hbl := hC.below
          go_simp
          rfl
        go_simp
        refine hK _ ?_
        clear hK K
      refine wpQuiet_nil (fun w_7 C_7 => ?_)
      refine wpList_nil ?_
      show (Exit.then _ _) Exit.normal _ _
      have c_7 := C_7.cell
      have f_7 := C_7.frozen
      have z_7 := C_7.size
      have b_7 := C_7.below
      clear C_7
      try simp only [hz_alloc, hz_set, hz_drew] at z_7 c_7 f_7
      have h7 := h'.up b_7
      have k4 : bj < w_7.heap.size := by omega
      have k5 : bu < w_7.heap.size := by omega
      have k6 : bs < w_7.heap.size := by omega
      go_wp2_with fail
      refine wp_region_tail 16 (Up _) (by kernel_rfl) (by kernel_rfl) (Up.drew _) ?_
      dsimp only [List.take, List.drop]
      iterate 16
        refine q_step rfl (fun K hK => ?_)
        apply Exists.intro
        refine ⟨fun w' hC => ?_, ?_⟩
        · have hc := hC.cell
          have hf := hC.frozen
          have hbl := hC.below
          go_simp
          rfl
        go_simp
        refine hK _ ?_
        clear hK K
      refine wpQuiet_nil (fun w_10 C_10 => ?_)
      have c_10 := C_10.cell
      have f_10 := C_10.frozen
      have z_10 := C_10.size
      have b_10 := C_10.below
      clear C_10
      try simp only [hz_alloc, hz_set, hz_drew] at z_10 c_10 f_10
      have k7 : bj < w_10.heap.size := by omega
      have k8 : bs < w_10.heap.size := by omega
      have h10 := h7.set lb la (HR.out b hb).1.fix (HR.out a ha).1.fix (Ne.symm Heq.out) (k := b_10)
      obtain ⟨i0, hi, hz0, hz1, hz2⟩ := info_parts Try.infoInt
      have h11 := h10.up (below_alloc _ (.cells #[.int .i64 (Fo.rt up a : Int)] 3))
      have hown := h11.done
      go_wp2_with (at_builtin; refine wpList_append_own _ rfl _ _ 101 rfl D 3 i0 (.int .i64 0) 1 8 Try.underlying101 hi hz0 hz1 hz2 rfl (by decide) _ _ _ rfl hown ⟨_, 0, none⟩ 1 1 [.int .i64 (Fo.rt up a : Int)] rfl rfl ?c1 ?c2 ?c3 ?c4 ?c5 ?_)
      case c1 => exact cell_one_at (by rw [hz_set])
      case c2 => simp [Value.oneCell']
      case c3 => unfold maxLen; omega
      case c4 => omega
      case c5 => rw [hz_alloc, hz_set]; omega
      intro v' w2 ho hg _
      obtain ⟨vp, vl, vc, rfl⟩ := own_slice ho
      have hj2 : w2.heap[bj]? = some (.cells #[.slice (some ⟨bu, 0, none⟩) n n, .slice (some ⟨bs, 0, none⟩) n n, dv] 248 (0, 0)) := by
        rw [hg.block bj (by rw [hz_alloc, hz_set]; omega) (fun e => by have := (h.done.lt bj e.symm).1; omega)]; exact h11.hj
      have cj : w2.cell? ⟨bj, 2, none⟩ = some dv := by rw [cell_of_row w2 bj 2 _ _ _ hj2]; rfl
      have fj2 := fun j => frozen_of_row w2 bj j _ _ hj2
      clear hj2
      go_wp2_with fail
      go_ret2
      exact unite_end h ha hb h7 (((below_alloc _ _).trans (b_7.mono (by rw [hz_alloc]; omega)))) (.inr ⟨rfl, rfl⟩) (Ne.symm Heq.out) b_10 ho hg
    · have e2 : decide ((Fo.sz size (Fo.rt up a) : Int) < (Fo.sz size (Fo.rt up b) : Int)) = false := by simpa using hlt
      go_enter Try.func153, Try.ntmps153
      go_wp2_with fail
      refine (check_ok h' w.heap.size [a, b] (by simp) hz).mono ?_; rintro e w' ⟨rfl, rfl⟩
      go_wp2_with fail
      refine (lead_ok h' ha).mono ?_; rintro e w' ⟨rfl, rfl⟩
      go_wp2_with fail
      refine (lead_ok h' hb).mono ?_; rintro e w' ⟨rfl, rfl⟩
      go_wp2_with fail
      clear hz
      refine wp_region_tail 15 (Up _) (by kernel_rfl) (by kernel_rfl) (Up.drew _) ?_
      dsimp only [List.take, List.drop]
      iterate 15
        refine q_step rfl (fun K hK => ?_)
        apply Exists.intro
        refine ⟨fun w' hC => ?_, ?_⟩
        · have hc := hC.cell
          have hf := hC.frozen
          have hbl := hC.below
          go_simp
          rfl
        go_simp
        refine hK _ ?_
        clear hK K
      refine wpQuiet_nil (fun w_7 C_7 => ?_)
      refine wpList_nil ?_
      show (Exit.then _ _) Exit.normal _ _
      have c_7 := C_7.cell
      have f_7 := C_7.frozen
      have z_7 := C_7.size
      have b_7 := C_7.below
      clear C_7
      try simp only [hz_alloc, hz_set, hz_drew] at z_7 c_7 f_7
      have h7 := h'.up b_7
      have k4 : bj < w_7.heap.size := by omega
      have k5 : bu < w_7.heap.size := by omega
      have k6 : bs < w_7.heap.size := by omega
      go_wp2_with fail
      refine wp_region_tail 16 (Up _) (by kernel_rfl) (by kernel_rfl) (Up.drew _) ?_
      dsimp only [List.take, List.drop]
      iterate 16
        refine q_step rfl (fun K hK => ?_)
        apply Exists.intro
        refine ⟨fun w' hC => ?_, ?_⟩
        · have hc := hC.cell
          have hf := hC.frozen
          have hbl := hC.below
          go_simp
          rfl
        go_simp
        refine hK _ ?_
        clear hK K
      refine wpQuiet_nil (fun w_10 C_10 => ?_)
      have c_10 := C_10.cell
      have f_10 := C_10.frozen
      have z_10 := C_10.size
      have b_10 := C_10.below
      clear C_10
      try simp only [hz_alloc, hz_set, hz_drew] at z_10 c_10 f_10
      have k7 : bj < w_10.heap.size := by omega
      have k8 : bs < w_10.heap.size := by omega
      have h10 := h7.set la lb (HR.out a ha).1.fix (HR.out b hb).1.fix Heq.out (k := b_10)
      obtain ⟨i0, hi, hz0, hz1, hz2⟩ := info_parts Try.infoInt
      have h11 := h10.up (below_alloc _ (.cells #[.int .i64 (Fo.rt up b : Int)] 3))
      have hown := h11.done
      go_wp2_with (at_builtin; refine wpList_append_own _ rfl _ _ 101 rfl D 3 i0 (.int .i64 0) 1 8 Try.underlying101 hi hz0 hz1 hz2 rfl (by decide) _ _ _ rfl hown ⟨_, 0, none⟩ 1 1 [.int .i64 (Fo.rt up b : Int)] rfl rfl ?c1 ?c2 ?c3 ?c4 ?c5 ?_)
      case c1 => exact cell_one_at (by rw [hz_set])
      case c2 => simp [Value.oneCell']
      case c3 => unfold maxLen; omega
      case c4 => omega
      case c5 => rw [hz_alloc, hz_set]; omega
      intro v' w2 ho hg _
      obtain ⟨vp, vl, vc, rfl⟩ := own_slice ho
      have hj2 : w2.heap[bj]? = some (.cells #[.slice (some ⟨bu, 0, none⟩) n n, .slice (some ⟨bs, 0, none⟩) n n, dv] 248 (0, 0)) := by
        rw [hg.block bj (by rw [hz_alloc, hz_set]; omega) (fun e => by have := (h.done.lt bj e.symm).1; omega)]; exact h11.hj
      have cj : w2.cell? ⟨bj, 2, none⟩ = some dv := by rw [cell_of_row w2 bj 2 _ _ _ hj2]; rfl
      have fj2 := fun j => frozen_of_row w2 bj j _ _ hj2
      clear hj2
      go_wp2_with fail
      go_ret2
      exact unite_end h ha hb h7 (((below_alloc _ _).trans (b_7.mono (by rw [hz_alloc]; omega)))) (.inl ⟨rfl, rfl⟩) Heq.out b_10 ho hg
end Go.Proofs.Ytknplnfoekeljaa
