/- shape.Check: which circuits New takes. -/
import Derived.Test.YtknplnfoekeljaaValid
import Derived.Test.YtknplnfoekeljaaCheckWords
import Derived.Test.YtknplnfoekeljaaTidyRun
import Derived.Test.YtknplnfoekeljaaSame
import Derived.Test.YtknplnfoekeljaaPlan
namespace Go.Proofs.Ytknplnfoekeljaa
open Go.RowKit
/-- what Check answers: 0 just for the valid ones -/
def Checked (c : Circuit) (w : World) (e : Ending) (w' : World) : Prop := ∃ n : Int, e = .returned (.int .i64 n) ∧ (n = 0 ↔ c.Valid) ∧ Below w.heap.size w w'
theorem Checked.no {c : Circuit} {w w' : World} {n : Int} (hn : n ≠ 0) (hv : ¬ c.Valid) (hb : Below w.heap.size w w') : Checked c w (.returned (.int .i64 n)) w' := ⟨n, rfl, ⟨fun h => absurd h hn, fun h => absurd h hv⟩, hb⟩
set_option maxHeartbeats 2000000 in
theorem shapeCheck_big (c : Circuit) (pi : Option Addr) (ci : Nat) (pr : Option Addr) (cr : Nat) (w : World) (hc : CircAt w pi ci pr cr c) (h : ¬ (c.inputs.length ≤ 128 ∧ c.relays.length ≤ 128 ∧ wrap64 (contactsR c.relays : Int) ≤ 4096)) :
    Calls Try.prog 90 #[circV pi ci pr cr c] w (Checked c w) := by
  have hv : ¬ c.Valid := fun V => h ⟨V.ins, V.rels, by rw [contacts_exact V.rels V.fine]; have := V.contacts; omega⟩
  have HV := Lib.hid hv
  clear hv
  have hl1 := hc.inputs.len
  have hl2 := hc.relays.len
  by_cases h1 : c.inputs.length ≤ 128
  · have t1 : decide ((128 : Int) < (c.inputs.length : Int)) = false := by simp; omega
    by_cases h2 : c.relays.length ≤ 128
    · have t2 : decide ((128 : Int) < (c.relays.length : Int)) = false := by simp; omega
      have t3 : decide ((4096 : Int) < wrap64 (contactsR c.relays : Int)) = true := by simp; by_cases h3 : wrap64 (contactsR c.relays : Int) ≤ 4096; exact absurd ⟨h1, h2, h3⟩ h; omega
      clear h
      go_enter Try.func90, Try.ntmps90
      go_wp2_with fail
      refine (contacts_ok c pi ci pr cr _ (hc.up (by repeat (first | exact Below.refl _ _ | refine Below.alloc ?_ (by first | omega | (simp; done) | (simp; omega)) _ | refine Below.setCell ?_ (by first | omega | (simp; done) | (simp; omega)) _ | refine Below.drew ?_ | refine Below.drewN ?_ _ | refine Below.via (by assumption) (by first | omega | (simp; done) | (simp; omega)) ?_)))).mono ?_; rintro e w1 ⟨rfl, hb1⟩
      have z_hb1 := hb1.size
      obtain ⟨c_hb1, f_hb1⟩ := bcell hb1
      try simp only [hz_alloc, hz_set, hz_drew] at z_hb1 c_hb1 f_hb1
      go_wp2_with fail
      go_ret
      exact Checked.no (by decide) HV.out (by repeat (first | exact Below.refl _ _ | refine Below.alloc ?_ (by first | omega | (simp; done) | (simp; omega)) _ | refine Below.setCell ?_ (by first | omega | (simp; done) | (simp; omega)) _ | refine Below.drew ?_ | refine Below.drewN ?_ _ | refine Below.via (by assumption) (by first | omega | (simp; done) | (simp; omega)) ?_))
    · have t2 : decide ((128 : Int) < (c.relays.length : Int)) = true := by simp; omega
      clear h
      go_enter Try.func90, Try.ntmps90
      go_wp2
      go_ret
      exact Checked.no (by decide) HV.out (by repeat (first | exact Below.refl _ _ | refine Below.alloc ?_ (by first | omega | (simp; done) | (simp; omega)) _ | refine Below.setCell ?_ (by first | omega | (simp; done) | (simp; omega)) _ | refine Below.drew ?_ | refine Below.drewN ?_ _ | refine Below.via (by assumption) (by first | omega | (simp; done) | (simp; omega)) ?_))
  · have t1 : decide ((128 : Int) < (c.inputs.length : Int)) = true := by simp; omega
    clear h
    go_enter Try.func90, Try.ntmps90
    go_wp2
    go_ret
    exact Checked.no (by decide) HV.out (by repeat (first | exact Below.refl _ _ | refine Below.alloc ?_ (by first | omega | (simp; done) | (simp; omega)) _ | refine Below.setCell ?_ (by first | omega | (simp; done) | (simp; omega)) _ | refine Below.drew ?_ | refine Below.drewN ?_ _ | refine Below.via (by assumption) (by first | omega | (simp; done) | (simp; omega)) ?_))
/-- behind k rounds: the names so far, in a row of the call's own -/
structure NamesTo (w1 : World) (B : Nat) (v : Value) (c : Circuit) (k : Nat) (wr : World) : Prop where
  own : wr.ownsRow B 9 1 v (c.inputs.length + k) ((c.inputs ++ (c.relays.take k).map (·.name)).map Value.string)
  below : Below B w1 wr
  size : B ≤ wr.heap.size
/-- the first k relays are fine -/
def FineTo (c : Circuit) (k : Nat) : Prop := ∀ i (h : i < c.relays.length), i < k → c.relayFine c.relays[i]
/-- the circuit's own copy still lies there -/
structure BoxAt (w : World) (pi : Option Addr) (ci : Nat) (pr : Option Addr) (cr : Nat) (c : Circuit) (w1 w' : World) : Prop where
  ins : w'.cell? ⟨w.heap.size, 0, none⟩ = some (.slice pi c.inputs.length ci)
  rels : w'.cell? ⟨w.heap.size, 1, none⟩ = some (.slice pr c.relays.length cr)
  below : Below w1.heap.size w1 w'
theorem BoxAt.up {w : World} {pi : Option Addr} {ci : Nat} {pr : Option Addr} {cr : Nat} {c : Circuit} {w1 wr w' : World} (hz : w.heap.size < w1.heap.size) (h : BoxAt w pi ci pr cr c w1 wr) (k : Below w1.heap.size wr w') : BoxAt w pi ci pr cr c w1 w' :=
  ⟨by rw [k.cell (p := ⟨w.heap.size, 0, none⟩) hz]; exact h.ins, by rw [k.cell (p := ⟨w.heap.size, 1, none⟩) hz]; exact h.rels, h.below.trans k⟩
theorem FineTo.next {c : Circuit} {k : Nat} (h : FineTo c k) (hk : k < c.relays.length) (hf : c.relayFine c.relays[k]) : FineTo c (k + 1) := fun i hi hik => by
  by_cases e : i = k
  · subst e; exact hf
  · exact h i hi (by omega)
/-- the first j graphs are fine -/
def GFine (c : Circuit) (gs : List Graph) (j : Nat) : Prop := ∀ i (h : i < gs.length), i < j → c.graphFine gs[i]
theorem GFine.next {c : Circuit} {gs : List Graph} {k : Nat} (h : GFine c gs k) (hk : k < gs.length) (hf : c.graphFine gs[k]) : GFine c gs (k + 1) := fun i hi hik => by
  by_cases e : i = k
  · subst e; exact hf
  · exact h i hi (by omega)
theorem GFine.all {c : Circuit} {gs : List Graph} {k : Nat} (h : GFine c gs k) (hk : gs.length ≤ k) : ∀ g, g ∈ gs → c.graphFine g := fun g hg => by
  obtain ⟨i, hi, rfl⟩ := List.getElem_of_mem hg
  exact h i hi (by omega)
/-- the first j edges' contacts are there -/
def EFine (c : Circuit) (es : List Edge) (j : Nat) : Prop := ∀ i (h : i < es.length), i < j → c.hits es[i].by_
theorem EFine.next {c : Circuit} {es : List Edge} {k : Nat} (h : EFine c es k) (hk : k < es.length) (hf : c.hits es[k].by_) : EFine c es (k + 1) := fun i hi hik => by
  by_cases e : i = k
  · subst e; exact hf
  · exact h i hi (by omega)
theorem EFine.all {c : Circuit} {es : List Edge} {k : Nat} (h : EFine c es k) (hk : es.length ≤ k) : ∀ e, e ∈ es → c.hits e.by_ := fun g hg => by
  obtain ⟨i, hi, rfl⟩ := List.getElem_of_mem hg
  exact h i hi (by omega)
theorem names_small {w : World} {pi : Option Addr} {ci : Nat} {pr : Option Addr} {cr : Nat} {c : Circuit} (hc : CircAt w pi ci pr cr c) : ∀ s, s ∈ c.names → s.size ≤ 9223372036854775807 := by
  intro s hs
  rcases List.mem_append.1 hs with hs | hs
  · exact hc.inputs.small s hs
  · obtain ⟨r, hr, rfl⟩ := List.mem_map.1 hs
    obtain ⟨k, hk, rfl⟩ := List.getElem_of_mem hr
    obtain ⟨b, off, rfl⟩ := hc.relays.at_ k hk
    obtain ⟨_, _, _, h, _⟩ := hc.relays.cell b off rfl k hk
    exact h
set_option maxHeartbeats 4000000 in
set_option maxRecDepth 100000 in
theorem shapeCheck_ok (c : Circuit) (pi : Option Addr) (ci : Nat) (pr : Option Addr) (cr : Nat) (w : World) (hc : CircAt w pi ci pr cr c) :
    Calls Try.prog 90 #[circV pi ci pr cr c] w (Checked c w) := by
  by_cases h : c.inputs.length ≤ 128 ∧ c.relays.length ≤ 128 ∧ wrap64 (contactsR c.relays : Int) ≤ 4096
  case neg => exact shapeCheck_big c pi ci pr cr w hc h
  obtain ⟨h1, h2, h3⟩ := h
  obtain ⟨i0, hi, hz0, hz1, hz2⟩ := info_parts (show (Try.prog.info? 9).map (fun i => (i.zero, i.size, i.bytes)) = some (some (.string ⟨#[]⟩), 1, 16) by kernel_rfl)
  have t1 : decide ((128 : Int) < (c.inputs.length : Int)) = false := by simp; omega
  have t2 : decide ((128 : Int) < (c.relays.length : Int)) = false := by simp; omega
  have t3 : decide ((4096 : Int) < wrap64 (contactsR c.relays : Int)) = false := by simp; omega
  have H3 := Lib.hid h3
  clear h3
  have Hi := Lib.hid hi
  have Hz0 := Lib.hid hz0
  have Hz1 := Lib.hid hz1
  have Hz2 := Lib.hid hz2
  clear hi hz0 hz1 hz2
  have hl2 := hc.relays.len
  go_enter Try.func90, Try.ntmps90
  go_wp2_with fail
  refine (contacts_ok c pi ci pr cr _ (hc.up (by repeat (first | exact Below.refl _ _ | refine Below.alloc ?_ (by first | omega | (simp; done) | (simp; omega)) _ | refine Below.setCell ?_ (by first | omega | (simp; done) | (simp; omega)) _ | refine Below.drew ?_ | refine Below.drewN ?_ _ | refine Below.via (by assumption) (by first | omega | (simp; done) | (simp; omega)) ?_)))).mono ?_; rintro e w1 ⟨rfl, hb1⟩
  have z_hb1 := hb1.size
  obtain ⟨c_hb1, f_hb1⟩ := bcell hb1
  try simp only [hz_alloc, hz_set, hz_drew] at z_hb1 c_hb1 f_hb1
  go_wp2_with fail
  refine (clone_ok c.inputs pi ci _ (hc.inputs.up (by repeat (first | exact Below.refl _ _ | refine Below.alloc ?_ (by first | omega | (simp; done) | (simp; omega)) _ | refine Below.setCell ?_ (by first | omega | (simp; done) | (simp; omega)) _ | refine Below.drew ?_ | refine Below.drewN ?_ _ | refine Below.via (by assumption) (by first | omega | (simp; done) | (simp; omega)) ?_))) h1).mono ?_; rintro e w2 ⟨v2, rfl, hown, hb2⟩
  have z_hb2 := hb2.size
  obtain ⟨c_hb2, f_hb2⟩ := bcell hb2
  try simp only [hz_alloc, hz_set, hz_drew] at z_hb2 c_hb2 f_hb2
  obtain ⟨p2, l2, c2, rfl⟩ := own_slice hown
  have hs2 : w1.heap.size ≤ w2.heap.size := hb2.size
  have zz0 : w.heap.size < w1.heap.size := by omega
  have zz1 : w.heap.size < w2.heap.size := by omega
  have Hown := Lib.hid hown
  clear hown
  go_wp2_with fail
  go_loopw [35, 3] (fun v s wr => ∃ k : Nat, k ≤ c.relays.length ∧ v = .int .i64 (k : Int) ∧ NamesTo w1 w1.heap.size s c k wr) (fun v _ _ => c.relays.length - (intOf v).toNat)
  case atStart => exact ⟨0, Nat.zero_le _, rfl, by simpa using Hown.out, by exact hb2, hs2⟩
  case round =>
    obtain ⟨k, hk, rfl, hown, hB, hz⟩ := hrel
    have hBw : Below w.heap.size w wr := (show Below w.heap.size w w1 from (by repeat (first | exact Below.refl _ _ | refine Below.alloc ?_ (by first | omega | (simp; done) | (simp; omega)) _ | refine Below.setCell ?_ (by first | omega | (simp; done) | (simp; omega)) _ | refine Below.drew ?_ | refine Below.drewN ?_ _ | refine Below.via (by assumption) (by first | omega | (simp; done) | (simp; omega)) ?_))).trans (hB.mono (by omega))
    have b0 : wr.cell? ⟨w.heap.size, 0, none⟩ = some (.slice pi c.inputs.length ci) := by rw [hB.cell (p := ⟨_, _, none⟩) (by show w.heap.size < _; omega)]; rw [c_hb1 _ _ (by omega)]; go_simp
    have b1 : wr.cell? ⟨w.heap.size, 1, none⟩ = some (.slice pr c.relays.length cr) := by rw [hB.cell (p := ⟨_, _, none⟩) (by show w.heap.size < _; omega)]; rw [c_hb1 _ _ (by omega)]; go_simp
    obtain ⟨px, lx, cx, rfl⟩ := own_slice hown
    by_cases hlt : k < c.relays.length
    · obtain ⟨b, off, rfl⟩ := hc.relays.at_ k hlt
      obtain ⟨pg, cg, hg, hsm, e0, e1, e2⟩ := (hc.relays.up hBw).cell b off rfl k hlt
      have HT : Hid (c.relays.take (k + 1) = c.relays.take k ++ [c.relays[k]]) := List.take_succ_eq_append_getElem hlt
      generalize c.relays[k] = r at *
      have Hown := Lib.hid hown
      clear hown
      go_wp2_with (at_builtin; refine wpList_append_own _ rfl _ _ 54 rfl w1.heap.size 9 i0 (.string ⟨#[]⟩) 1 16 Try.underlying54 Hi.out Hz0.out Hz1.out Hz2.out rfl (by decide) _ _ _ rfl ((Hown.out.alloc _).alloc _) ⟨wr.heap.size + 1, 0, none⟩ 1 1 [.string r.name] rfl rfl (cell_one_at (by rw [hz_alloc])) (by simp [Value.oneCell']) (by unfold maxLen; omega) (by omega) (by rw [hz_alloc, hz_alloc]; omega) ?_; intro v' w3 hown' hg3 _)
      obtain ⟨py, ly, cy, rfl⟩ := own_slice hown'
      have Hg3 := Lib.hid hg3
      have Hown' := Lib.hid hown'
      clear hown' hg3
      go_wp2_with fail
      go_roundw
      case rel =>
        refine ⟨k + 1, by omega, by go_num, ?_, ?_, ?_⟩
        · have := Hown'.out
          rw [HT.out]
          simpa [Nat.add_assoc] using this
        · exact ((hB.alloc hz _).alloc (by rw [hz_alloc]; omega) _).grown Hg3.out (by rw [hz_alloc, hz_alloc]; omega) (fun j hj => (Hown.out.lt j hj).1)
        · have := Hg3.out.size
          rw [hz_alloc, hz_alloc] at this; omega
      case measure => simp [intOf]; omega
    · have hown : wr.ownsRow w1.heap.size 9 1 (.slice px lx cx) (c.inputs.length + k) (c.names.map Value.string) := by
        have he : c.relays.take k = c.relays := by rw [show k = c.relays.length by omega, List.take_length]
        rw [he] at hown
        exact hown
      obtain ⟨p, cap, hv, hn, hS⟩ := strsAt_own hown (names_small hc) (by omega)
      cases hv
      rw [hn] at hown
      have hnl : c.names.length ≤ 256 := by omega
      have Hown := Lib.hid hown
      clear hown
      cases hbad : anyBad c.names
      case true =>
        have HV : Hid (¬ c.Valid) := fun V => by rw [(anyBad_iff c.names).2 V.names] at hbad; cases hbad
        have Hbad := Lib.hid hbad
        clear hbad
        go_wp2_with fail
        refine (containsFunc_ok c.names px cx _ hS).mono ?_; rintro e w' ⟨rfl, rfl⟩
        rw [Hbad.out]
        go_wp2_with fail
        go_ret
        exact Checked.no (by decide) HV.out hBw
      case false =>
        have HN : Hid (∀ s, s ∈ c.names → nameOk s) := (anyBad_iff c.names).1 hbad
        have Hbad := Lib.hid hbad
        clear hbad
        go_wp2_with fail
        refine (containsFunc_ok c.names px cx _ hS).mono ?_; rintro e w' ⟨rfl, rfl⟩
        rw [Hbad.out]
        go_wp2_with fail
        refine (sort_own (zs := bytesOf c.names) (by unfold bytesOf; rw [Lib.map_encStr]; exact Hown.out) (by omega)).mono ?_; rintro e w4 ⟨rfl, hown4, hb4⟩
        have hB4 := hB.trans hb4
        obtain ⟨m, HM⟩ : ∃ m : Nat, Hid (m = (Lib.compact ((bytesOf c.names).mergeSort fun x y => decide (x ≤ y))).length) := ⟨_, rfl⟩
        have d0 : w4.cell? ⟨w.heap.size, 0, none⟩ = some (.slice pi c.inputs.length ci) := by rw [hB4.cell (p := ⟨_, _, none⟩) (by show w.heap.size < _; omega)]; rw [c_hb1 _ _ (by omega)]; go_simp
        have d1 : w4.cell? ⟨w.heap.size, 1, none⟩ = some (.slice pr c.relays.length cr) := by rw [hB4.cell (p := ⟨_, _, none⟩) (by show w.heap.size < _; omega)]; rw [c_hb1 _ _ (by omega)]; go_simp
        have Hown4 := Lib.hid hown4
        clear hown4
        go_wp2_with fail
        refine wp_region_fills 1 [(49, .slice px c.names.length cx), (50, .slice px m cx), (51, .int .i64 (m : Int)), (52, .pointer (some ⟨w.heap.size, 0, none⟩)), (53, .slice pi c.inputs.length ci), (54, .int .i64 (c.inputs.length : Int)), (55, .pointer (some ⟨w.heap.size, 1, none⟩)), (56, .slice pr c.relays.length cr), (57, .int .i64 (c.relays.length : Int)), (58, .int .i64 ((c.inputs.length : Int) + (c.relays.length : Int))), (59, .bool ((m : Int) != (c.inputs.length : Int) + (c.relays.length : Int)))] (fun w' => w'.ownsRow w1.heap.size 9 1 (.slice px c.names.length cx) c.names.length (((bytesOf c.names).mergeSort fun x y => decide (x ≤ y)).map Proofs.encStr) ∧ BoxAt w pi ci pr cr c w1 w') (BoxAt w pi ci pr cr c w1)
          (by kernel_rfl) (by kernel_rfl) (by rfl) ?h0 ?hd ?hQ
        case h0 => exact ⟨Hown4.out, d0, d1, hB4.trans ⟨rfl, rfl, rfl, Nat.le_refl _, fun _ _ => rfl⟩⟩
        case hd =>
          simp only [fills, List.foldl, Act.put]
          intro i o d ho hod
          rcases i with _ | i
          · simp only [List.getElem?_cons_zero, Option.some.injEq] at ho; subst ho; cases hod
            refine ⟨.slice px c.names.length cx, by simp, ?_⟩
            unfold Does
            rw [if_neg (by decide)]
            intro w' hw'
            obtain ⟨q0, q1, qb⟩ := hw'.elim And.right id
            go_simp
          simp only [Nat.zero_add, List.getElem?_cons_succ] at ho
          rcases i with _ | i
          · simp only [List.getElem?_cons_zero, Option.some.injEq] at ho; subst ho; cases hod
            refine ⟨.slice px m cx, by simp, ?_⟩
            unfold Does
            rw [if_pos rfl]
            rintro w' ⟨ho', hw'⟩
            obtain ⟨q0, q1, qb⟩ := hw'
            refine ⟨147, #[.slice px c.names.length cx], by go_simp, ?_⟩
            refine (compact_own ho' (by omega)).mono ?_
            rintro e w6 ⟨rfl, hb6⟩
            rw [← HM.out]
            refine ⟨rfl, ?_, ?_, qb.trans hb6⟩
            · rw [hb6.cell (p := ⟨_, _, none⟩) (by show w.heap.size < _; omega)]; exact q0
            · rw [hb6.cell (p := ⟨_, _, none⟩) (by show w.heap.size < _; omega)]; exact q1
          simp only [Nat.zero_add, List.getElem?_cons_succ] at ho
          rcases i with _ | i
          · simp only [List.getElem?_cons_zero, Option.some.injEq] at ho; subst ho; cases hod
            refine ⟨.int .i64 (m : Int), by simp, ?_⟩
            unfold Does
            rw [if_neg (by decide)]
            intro w' hw'
            obtain ⟨q0, q1, qb⟩ := hw'.elim And.right id
            go_simp
          simp only [Nat.zero_add, List.getElem?_cons_succ] at ho
          rcases i with _ | i
          · simp only [List.getElem?_cons_zero, Option.some.injEq] at ho; subst ho; cases hod
            refine ⟨.pointer (some ⟨w.heap.size, 0, none⟩), by simp, ?_⟩
            unfold Does
            rw [if_neg (by decide)]
            intro w' hw'
            obtain ⟨q0, q1, qb⟩ := hw'.elim And.right id
            go_simp
          simp only [Nat.zero_add, List.getElem?_cons_succ] at ho
          rcases i with _ | i
          · simp only [List.getElem?_cons_zero, Option.some.injEq] at ho; subst ho; cases hod
            refine ⟨.slice pi c.inputs.length ci, by simp, ?_⟩
            unfold Does
            rw [if_neg (by decide)]
            intro w' hw'
            obtain ⟨q0, q1, qb⟩ := hw'.elim And.right id
            go_simp
          simp only [Nat.zero_add, List.getElem?_cons_succ] at ho
          rcases i with _ | i
          · simp only [List.getElem?_cons_zero, Option.some.injEq] at ho; subst ho; cases hod
            refine ⟨.int .i64 (c.inputs.length : Int), by simp, ?_⟩
            unfold Does
            rw [if_neg (by decide)]
            intro w' hw'
            obtain ⟨q0, q1, qb⟩ := hw'.elim And.right id
            go_simp
          simp only [Nat.zero_add, List.getElem?_cons_succ] at ho
          rcases i with _ | i
          · simp only [List.getElem?_cons_zero, Option.some.injEq] at ho; subst ho; cases hod
            refine ⟨.pointer (some ⟨w.heap.size, 1, none⟩), by simp, ?_⟩
            unfold Does
            rw [if_neg (by decide)]
            intro w' hw'
            obtain ⟨q0, q1, qb⟩ := hw'.elim And.right id
            go_simp
          simp only [Nat.zero_add, List.getElem?_cons_succ] at ho
          rcases i with _ | i
          · simp only [List.getElem?_cons_zero, Option.some.injEq] at ho; subst ho; cases hod
            refine ⟨.slice pr c.relays.length cr, by simp, ?_⟩
            unfold Does
            rw [if_neg (by decide)]
            intro w' hw'
            obtain ⟨q0, q1, qb⟩ := hw'.elim And.right id
            go_simp
          simp only [Nat.zero_add, List.getElem?_cons_succ] at ho
          rcases i with _ | i
          · simp only [List.getElem?_cons_zero, Option.some.injEq] at ho; subst ho; cases hod
            refine ⟨.int .i64 (c.relays.length : Int), by simp, ?_⟩
            unfold Does
            rw [if_neg (by decide)]
            intro w' hw'
            obtain ⟨q0, q1, qb⟩ := hw'.elim And.right id
            go_simp
          simp only [Nat.zero_add, List.getElem?_cons_succ] at ho
          rcases i with _ | i
          · simp only [List.getElem?_cons_zero, Option.some.injEq] at ho; subst ho; cases hod
            refine ⟨.int .i64 ((c.inputs.length : Int) + (c.relays.length : Int)), by simp, ?_⟩
            unfold Does
            rw [if_neg (by decide)]
            intro w' hw'
            obtain ⟨q0, q1, qb⟩ := hw'.elim And.right id
            go_simp
            rw [IntKind.wrap_i64]; omega
          simp only [Nat.zero_add, List.getElem?_cons_succ] at ho
          rcases i with _ | i
          · simp only [List.getElem?_cons_zero, Option.some.injEq] at ho; subst ho; cases hod
            refine ⟨.bool ((m : Int) != (c.inputs.length : Int) + (c.relays.length : Int)), by simp, ?_⟩
            unfold Does
            rw [if_neg (by decide)]
            intro w' hw'
            obtain ⟨q0, q1, qb⟩ := hw'.elim And.right id
            go_simp
          simp only [Nat.zero_add, List.getElem?_cons_succ] at ho
          simp at ho
        case hQ =>
          intro w5 hw5
          obtain ⟨q0, q1, qb⟩ := hw5
          have hb5 : Below w.heap.size w w5 := (show Below w.heap.size w w1 from (by repeat (first | exact Below.refl _ _ | refine Below.alloc ?_ (by first | omega | (simp; done) | (simp; omega)) _ | refine Below.setCell ?_ (by first | omega | (simp; done) | (simp; omega)) _ | refine Below.drew ?_ | refine Below.drewN ?_ _ | refine Below.via (by assumption) (by first | omega | (simp; done) | (simp; omega)) ?_))).trans (qb.mono (by omega))
          have hd : m = c.names.length ↔ c.names.Nodup := by
            rw [HM.out, ← bytesOf_nodup, ← compact_sorted]; simp [bytesOf]
          have HD := Lib.hid hd
          have HNn : Hid (c.names.length = c.inputs.length + c.relays.length) := by simp [Hid, Circuit.names]
          clear hd
          simp only [fills, List.foldl, Act.put]
          cases hm : ((m : Int) != (c.inputs.length : Int) + (c.relays.length : Int))
          case true =>
            have HV : Hid (¬ c.Valid) := fun V => by
              have := HD.out.2 V.apart
              have := HNn.out
              simp at hm; omega
            clear hm
            simp only [List.setIfInBounds_toArray, List.set]
            show (Exit.then _ _) Exit.normal _ _
            go_wp2_with fail
            go_ret
            exact Checked.no (by decide) HV.out hb5
          case false =>
            have HA : Hid (c.names.Nodup) := HD.out.1 (by have := HNn.out; simp at hm; omega)
            clear hm
            simp only [List.setIfInBounds_toArray, List.set]
            show (Exit.then _ _) Exit.normal _ _
            go_wp2_with fail
            go_loopw [63] (fun v wr => ∃ k : Nat, k ≤ c.relays.length ∧ v = .int .i64 (k : Int) ∧ FineTo c k ∧ BoxAt w pi ci pr cr c w1 wr) (fun v _ => c.relays.length - (intOf v).toNat)
            case atStart => exact ⟨0, Nat.zero_le _, rfl, fun i _ hi => absurd hi (Nat.not_lt_zero _), q0, q1, qb⟩
            case round =>
              obtain ⟨k, hk, rfl, hF, hX⟩ := hrel
              obtain ⟨wo, rfl⟩ : ∃ wo : World, wo = wr := ⟨_, rfl⟩
              have hX' := hX
              obtain ⟨x0, x1, xb⟩ := hX'
              have hw1 : Below w.heap.size w w1 := (by repeat (first | exact Below.refl _ _ | refine Below.alloc ?_ (by first | omega | (simp; done) | (simp; omega)) _ | refine Below.setCell ?_ (by first | omega | (simp; done) | (simp; omega)) _ | refine Below.drew ?_ | refine Below.drewN ?_ _ | refine Below.via (by assumption) (by first | omega | (simp; done) | (simp; omega)) ?_))
              have xw : Below w.heap.size w wo := hw1.trans (xb.mono (by omega))
              have xs := xb.size
              clear q0 q1 qb hb5 d0 d1
              by_cases hlt : k < c.relays.length
              · obtain ⟨b, off, hpr⟩ := hc.relays.at_ k hlt
                obtain ⟨pg, cg, hg, hsm, e0w, e1w, e2w⟩ := hc.relays.cell b off hpr k hlt
                have hbw : b < w.heap.size := World.block_lt_of_cell? w _ e0w
                have e0 := (xw.cell (p := ⟨b, _, none⟩) hbw).trans e0w
                have e1 := (xw.cell (p := ⟨b, _, none⟩) hbw).trans e1w
                have e2 := (xw.cell (p := ⟨b, _, none⟩) hbw).trans e2w
                clear e0w e1w e2w
                subst hpr
                have hrm : c.relays[k] ∈ c.relays := List.getElem_mem hlt
                have HN1 : Hid (c.relayFine c.relays[k] → FineTo c (k + 1)) := fun h => hF.next hlt h
                have HX := Lib.hid hX
                clear hF hX
                generalize c.relays[k] = r at *
                obtain ⟨nm, tg, gs⟩ := r
                dsimp only at e0 e1 e2 hg hsm
                have zb : b < wo.heap.size := World.block_lt_of_cell? wo _ e0
                have zz : w.heap.size < wo.heap.size := by omega
                have hgl := hg.len
                cases ht : ((gs.length : Int) != tagGraphs tg)
                case true =>
                  have HV : Hid (¬ c.Valid) := fun V => by
                    have h := (V.fine _ hrm).1
                    simp only at h
                    rw [h] at ht; simp at ht
                  clear hrm HN1
                  go_wp2_with fail
                  refine wp_region_tail 7 (Up _) (by kernel_rfl) (by kernel_rfl) (Up.drew _) ?_
                  dsimp only [List.take, List.drop]
                  iterate 7
                    refine q_step rfl (fun K hK => ?_)
                    apply Exists.intro
                    refine ⟨fun w' hC => ?_, ?_⟩
                    · have hc := hC.cell
                      have hf := hC.frozen
                      have hbl := hC.below
                      go_simp
                      first | rfl | (go_at_call 148; refine (graphs_ok _ _).mono ?_; rintro e w2 ⟨rfl, h⟩; first | exact ⟨rfl, hC.then h⟩ | (subst h; exact ⟨rfl, hC⟩))
                    go_simp
                    refine hK _ ?_
                    clear hK K
                  refine wpQuiet_nil (fun w_17 C_17 => ?_)
                  refine wpList_nil ?_
                  show (Exit.then _ _) Exit.normal _ _
                  have c_17 := C_17.cell
                  have f_17 := C_17.frozen
                  have z_17 := C_17.size
                  have b_17 := C_17.below
                  clear C_17
                  try simp only [hz_alloc, hz_set, hz_drew] at z_17 c_17 f_17
                  go_wp2_with fail
                  go_ret
                  exact Checked.no (by decide) HV.out (xw.trans (((below_alloc _ _).mono xw.size).trans (b_17.mono (by rw [hz_alloc]; omega))))
                case false =>
                  have HTg : Hid ((gs.length : Int) = tagGraphs tg) := by unfold Hid; simpa using ht
                  go_wp2_with fail
                  refine wp_region_tail 7 (Up _) (by kernel_rfl) (by kernel_rfl) (Up.drew _) ?_
                  dsimp only [List.take, List.drop]
                  iterate 7
                    refine q_step rfl (fun K hK => ?_)
                    apply Exists.intro
                    refine ⟨fun w' hC => ?_, ?_⟩
                    · have hc := hC.cell
                      have hf := hC.frozen
                      have hbl := hC.below
                      go_simp
                      first | rfl | (go_at_call 148; refine (graphs_ok _ _).mono ?_; rintro e w2 ⟨rfl, h⟩; first | exact ⟨rfl, hC.then h⟩ | (subst h; exact ⟨rfl, hC⟩))
                    go_simp
                    refine hK _ ?_
                    clear hK K
                  refine wpQuiet_nil (fun w_17 C_17 => ?_)
                  refine wpList_nil ?_
                  show (Exit.then _ _) Exit.normal _ _
                  have c_17 := C_17.cell
                  have f_17 := C_17.frozen
                  have z_17 := C_17.size
                  have b_17 := C_17.below
                  clear C_17
                  try simp only [hz_alloc, hz_set, hz_drew] at z_17 c_17 f_17
                  go_wp2_with fail
                  have hX17 : BoxAt w pi ci (some ⟨b, off, none⟩) cr c w1 w_17 := HX.out.up zz0 (((below_alloc _ _).mono xs).trans (b_17.mono (by rw [hz_alloc]; omega)))
                  clear x0 x1 e0 e1 e2 c_17 f_17 z_17 b_17 xw xb xs HX ht hsm zb zz
                  go_loopw [77] (fun v wi => ∃ j : Nat, j ≤ gs.length ∧ v = .int .i64 (j : Int) ∧ GFine c gs j ∧ BoxAt w pi ci (some ⟨b, off, none⟩) cr c w1 wi) (fun v _ => gs.length - (intOf v).toNat)
                  case atStart => exact ⟨0, Nat.zero_le _, rfl, fun i _ hi => absurd hi (Nat.not_lt_zero _), hX17⟩
                  case round =>
                    clear hX17
                    obtain ⟨j, hj, rfl, hG, hY⟩ := hrel
                    obtain ⟨wi, rfl⟩ : ∃ wi : World, wi = wr := ⟨_, rfl⟩
                    have hY' := hY
                    obtain ⟨y0, y1, yb⟩ := hY'
                    have yw : Below w.heap.size w wi := hw1.trans (yb.mono (by omega))
                    have ys := yb.size
                    by_cases hjl : j < gs.length
                    · obtain ⟨b2, off2, hpg⟩ := hg.at_ j hjl
                      obtain ⟨pe, ce, he, f0w, f1w⟩ := hg.cell b2 off2 hpg j hjl
                      have hbw2 : b2 < w.heap.size := World.block_lt_of_cell? w _ f0w
                      have f0 := (yw.cell (p := ⟨b2, _, none⟩) hbw2).trans f0w
                      have f1 := (yw.cell (p := ⟨b2, _, none⟩) hbw2).trans f1w
                      clear f0w f1w
                      have hgm : gs[j] ∈ gs := List.getElem_mem hjl
                      have HN2 : Hid (c.graphFine gs[j] → GFine c gs (j + 1)) := fun h => hG.next hjl h
                      have HY := Lib.hid hY
                      clear hG hY
                      subst hpg
                      generalize gs[j] = g at *
                      obtain ⟨n, es⟩ := g
                      dsimp only at f0 f1 he
                      have zb2 : b2 < wi.heap.size := World.block_lt_of_cell? wi _ f0
                      have zw : w.heap.size < wi.heap.size := by omega
                      by_cases hr : (⟨n, es⟩ : Graph).right
                      case neg =>
                        have HV : Hid (¬ c.Valid) := fun V => hr ((V.fine _ hrm).2 _ hgm).1
                        go_wp2_with fail
                        refine (tidy_no ⟨n, es⟩ pe ce _ (he.up (by repeat (first | exact Below.refl _ _ | refine Below.alloc ?_ (by first | omega | (simp; done) | (simp; omega)) _ | refine Below.setCell ?_ (by first | omega | (simp; done) | (simp; omega)) _ | refine Below.drew ?_ | refine Below.drewN ?_ _ | refine Below.via (by assumption) (by first | omega | (simp; done) | (simp; omega)) ?_))) hr).mono ?_; rintro e w7 ⟨rfl, hb7⟩
                        have z_hb7 := hb7.size
                        obtain ⟨c_hb7, f_hb7⟩ := bcell hb7
                        try simp only [hz_alloc, hz_set, hz_drew] at z_hb7 c_hb7 f_hb7
                        go_wp2_with fail
                        go_ret
                        exact Checked.no (by decide) HV.out (by repeat (first | exact Below.refl _ _ | refine Below.alloc ?_ (by first | omega | (simp; done) | (simp; omega)) _ | refine Below.setCell ?_ (by first | omega | (simp; done) | (simp; omega)) _ | refine Below.drew ?_ | refine Below.drewN ?_ _ | refine Below.via (by assumption) (by first | omega | (simp; done) | (simp; omega)) ?_))
                      case pos =>
                        obtain ⟨m, rfl⟩ : ∃ m : Nat, n = m := ⟨n.toNat, by have : (2 : Int) ≤ n := hr.1; omega⟩
                        have hok := tidy_ok m es pe ce
                        have HHr := Lib.hid hr
                        clear hr
                        go_wp2_with fail
                        refine (hok _ (he.up (by repeat (first | exact Below.refl _ _ | refine Below.alloc ?_ (by first | omega | (simp; done) | (simp; omega)) _ | refine Below.setCell ?_ (by first | omega | (simp; done) | (simp; omega)) _ | refine Below.drew ?_ | refine Below.drewN ?_ _ | refine Below.via (by assumption) (by first | omega | (simp; done) | (simp; omega)) ?_))) HHr.out).mono ?_; rintro e w7 ⟨pt, ct, rfl, hE7, hb7⟩
                        clear hok
                        have z_hb7 := hb7.size
                        obtain ⟨c_hb7, f_hb7⟩ := bcell hb7
                        try simp only [hz_alloc, hz_set, hz_drew] at z_hb7 c_hb7 f_hb7
                        have new_wiw7_0 : wi.heap.size < w7.heap.size := by omega
                        have zw7 : w.heap.size < w7.heap.size := by omega
                        have hb7' : Below w1.heap.size wi w7 := ((below_alloc _ _).mono ys).trans (hb7.mono (by rw [hz_alloc]; omega))
                        obtain ⟨T, HT⟩ : ∃ T, Hid (T = tidyG ⟨(m : Int), es⟩) := ⟨_, rfl⟩
                        rw [← HT.out] at hE7 ⊢
                        cases hsg : sameG T ⟨(m : Int), es⟩
                        case false =>
                          have HV : Hid (¬ c.Valid) := fun V => by
                            have h := ((V.fine _ hrm).2 _ hgm).2.1
                            rw [← HT.out] at h
                            rw [h, sameG_self] at hsg; cases hsg
                          have Hsg := Lib.hid hsg
                          clear hsg
                          go_wp2_with fail
                          refine (sameGraph_ok T ⟨(m : Int), es⟩ pt pe ct ce _ (hE7.up (by repeat (first | exact Below.refl _ _ | refine Below.alloc ?_ (by first | omega | (simp; done) | (simp; omega)) _ | refine Below.setCell ?_ (by first | omega | (simp; done) | (simp; omega)) _ | refine Below.drew ?_ | refine Below.drewN ?_ _ | refine Below.via (by assumption) (by first | omega | (simp; done) | (simp; omega)) ?_))) (he.up (by repeat (first | exact Below.refl _ _ | refine Below.alloc ?_ (by first | omega | (simp; done) | (simp; omega)) _ | refine Below.setCell ?_ (by first | omega | (simp; done) | (simp; omega)) _ | refine Below.drew ?_ | refine Below.drewN ?_ _ | refine Below.via (by assumption) (by first | omega | (simp; done) | (simp; omega)) ?_)))).mono ?_; rintro e w8 ⟨rfl, hb8⟩
                          rw [Hsg.out]
                          have z_hb8 := hb8.size
                          obtain ⟨c_hb8, f_hb8⟩ := bcell hb8
                          try simp only [hz_alloc, hz_set, hz_drew] at z_hb8 c_hb8 f_hb8
                          go_wp2_with fail
                          go_ret
                          exact Checked.no (by decide) HV.out (by repeat (first | exact Below.refl _ _ | refine Below.alloc ?_ (by first | omega | (simp; done) | (simp; omega)) _ | refine Below.setCell ?_ (by first | omega | (simp; done) | (simp; omega)) _ | refine Below.drew ?_ | refine Below.drewN ?_ _ | refine Below.via (by assumption) (by first | omega | (simp; done) | (simp; omega)) ?_))
                        case true =>
                          have HS : Hid (tidyG ⟨(m : Int), es⟩ = ⟨(m : Int), es⟩) := by
                            unfold sameG at hsg
                            rw [← HT.out]
                            show T = _
                            exact of_decide_eq_true hsg
                          have Hsg := Lib.hid hsg
                          clear hsg
                          go_wp2_with fail
                          refine (sameGraph_ok T ⟨(m : Int), es⟩ pt pe ct ce _ (hE7.up (by repeat (first | exact Below.refl _ _ | refine Below.alloc ?_ (by first | omega | (simp; done) | (simp; omega)) _ | refine Below.setCell ?_ (by first | omega | (simp; done) | (simp; omega)) _ | refine Below.drew ?_ | refine Below.drewN ?_ _ | refine Below.via (by assumption) (by first | omega | (simp; done) | (simp; omega)) ?_))) (he.up (by repeat (first | exact Below.refl _ _ | refine Below.alloc ?_ (by first | omega | (simp; done) | (simp; omega)) _ | refine Below.setCell ?_ (by first | omega | (simp; done) | (simp; omega)) _ | refine Below.drew ?_ | refine Below.drewN ?_ _ | refine Below.via (by assumption) (by first | omega | (simp; done) | (simp; omega)) ?_)))).mono ?_; rintro e w8 ⟨rfl, hb8⟩
                          rw [Hsg.out]
                          have z_hb8 := hb8.size
                          obtain ⟨c_hb8, f_hb8⟩ := bcell hb8
                          try simp only [hz_alloc, hz_set, hz_drew] at z_hb8 c_hb8 f_hb8
                          have new_wiw8_0 : wi.heap.size < w8.heap.size := by omega
                          go_wp2_with fail
                          have hX8 : BoxAt w pi ci (some ⟨b, off, none⟩) cr c w1 w8 := HY.out.up zz0 (hb7'.trans (((below_alloc _ _).mono (by omega)).trans (hb8.mono (by rw [hz_alloc]; omega))))
                          have HHr2 := Lib.hid (show ∀ e, e ∈ es → e.ok (m : Int) from HHr.out.2.2.2)
                          clear hE7 hb7 hb7' c_hb7 f_hb7 z_hb7 hb8 c_hb8 f_hb8 z_hb8 HY f0 f1 y0 y1 yb yw ys
                          have hel := he.len
                          go_loopw [97] (fun v wj => ∃ i : Nat, i ≤ es.length ∧ v = .int .i64 (i : Int) ∧ EFine c es i ∧ BoxAt w pi ci (some ⟨b, off, none⟩) cr c w1 wj) (fun v _ => es.length - (intOf v).toNat)
                          case atStart => exact ⟨0, Nat.zero_le _, rfl, fun i _ hi => absurd hi (Nat.not_lt_zero _), hX8⟩
                          case round =>
                            clear hX8
                            obtain ⟨i, hi, rfl, hEF, hU⟩ := hrel
                            obtain ⟨wj, rfl⟩ : ∃ wj : World, wj = wr := ⟨_, rfl⟩
                            have hU' := hU
                            obtain ⟨u0, u1, ub⟩ := hU'
                            have uw : Below w.heap.size w wj := hw1.trans (ub.mono (by omega))
                            have us := ub.size
                            by_cases hil : i < es.length
                            · obtain ⟨b3, off3, hpe⟩ := he.at_ i hil
                              obtain ⟨g0, g1, g2, g3, g4⟩ := (he.up uw).cell b3 off3 hpe i hil
                              have HN3 : Hid (c.hits es[i].by_ → EFine c es (i + 1)) := fun h => hEF.next hil h
                              have hem : es[i] ∈ es := List.getElem_mem hil
                              have HU := Lib.hid hU
                              clear hEF hU
                              subst hpe
                              generalize es[i] = e at *
                              obtain ⟨ea, eb, cr', cn, cb⟩ := e
                              dsimp only at g0 g1 g2 g3 g4
                              have zb3 : b3 < wj.heap.size := World.block_lt_of_cell? wj _ g0
                              have zwj : w.heap.size < wj.heap.size := by omega
                              cases cr'
                              · cases hh : decide ((c.inputs.length : Int) ≤ cn)
                                · have Hh : Hid (c.hits ⟨false, cn, cb⟩) := by
                                    unfold Hid Circuit.hits
                                    simp at hh ⊢; omega
                                  go_wp2_with fail
                                  go_roundw
                                  case rel => first | exact ⟨i + 1, by omega, by go_num, HN3.out Hh.out, HU.out.up zz0 (by repeat (first | exact Below.refl _ _ | refine Below.alloc ?_ (by first | omega | (simp; done) | (simp; omega)) _ | refine Below.setCell ?_ (by first | omega | (simp; done) | (simp; omega)) _ | refine Below.drew ?_ | refine Below.drewN ?_ _ | refine Below.via (by assumption) (by first | omega | (simp; done) | (simp; omega)) ?_))⟩ | ((repeat apply Exists.intro); exact ⟨⟨i + 1, by omega, by go_num, HN3.out Hh.out, HU.out.up zz0 (by repeat (first | exact Below.refl _ _ | refine Below.alloc ?_ (by first | omega | (simp; done) | (simp; omega)) _ | refine Below.setCell ?_ (by first | omega | (simp; done) | (simp; omega)) _ | refine Below.drew ?_ | refine Below.drewN ?_ _ | refine Below.via (by assumption) (by first | omega | (simp; done) | (simp; omega)) ?_))⟩, rfl⟩)
                                  case measure => simp [intOf]; omega
                                · have HV : Hid (¬ c.Valid) := fun V => by
                                    have h := ((V.fine _ hrm).2 _ hgm).2.2 _ hem
                                    unfold Circuit.hits at h
                                    simp at h hh; omega
                                  go_wp2_with fail
                                  go_ret
                                  exact Checked.no (by decide) HV.out (by repeat (first | exact Below.refl _ _ | refine Below.alloc ?_ (by first | omega | (simp; done) | (simp; omega)) _ | refine Below.setCell ?_ (by first | omega | (simp; done) | (simp; omega)) _ | refine Below.drew ?_ | refine Below.drewN ?_ _ | refine Below.via (by assumption) (by first | omega | (simp; done) | (simp; omega)) ?_))
                              · cases hh : decide ((c.relays.length : Int) ≤ cn)
                                · have Hh : Hid (c.hits ⟨true, cn, cb⟩) := by
                                    unfold Hid Circuit.hits
                                    simp at hh ⊢; omega
                                  go_wp2_with fail
                                  go_roundw
                                  case rel => first | exact ⟨i + 1, by omega, by go_num, HN3.out Hh.out, HU.out.up zz0 (by repeat (first | exact Below.refl _ _ | refine Below.alloc ?_ (by first | omega | (simp; done) | (simp; omega)) _ | refine Below.setCell ?_ (by first | omega | (simp; done) | (simp; omega)) _ | refine Below.drew ?_ | refine Below.drewN ?_ _ | refine Below.via (by assumption) (by first | omega | (simp; done) | (simp; omega)) ?_))⟩ | ((repeat apply Exists.intro); exact ⟨⟨i + 1, by omega, by go_num, HN3.out Hh.out, HU.out.up zz0 (by repeat (first | exact Below.refl _ _ | refine Below.alloc ?_ (by first | omega | (simp; done) | (simp; omega)) _ | refine Below.setCell ?_ (by first | omega | (simp; done) | (simp; omega)) _ | refine Below.drew ?_ | refine Below.drewN ?_ _ | refine Below.via (by assumption) (by first | omega | (simp; done) | (simp; omega)) ?_))⟩, rfl⟩)
                                  case measure => simp [intOf]; omega
                                · have HV : Hid (¬ c.Valid) := fun V => by
                                    have h := ((V.fine _ hrm).2 _ hgm).2.2 _ hem
                                    unfold Circuit.hits at h
                                    simp at h hh; omega
                                  go_wp2_with fail
                                  go_ret
                                  exact Checked.no (by decide) HV.out (by repeat (first | exact Below.refl _ _ | refine Below.alloc ?_ (by first | omega | (simp; done) | (simp; omega)) _ | refine Below.setCell ?_ (by first | omega | (simp; done) | (simp; omega)) _ | refine Below.drew ?_ | refine Below.drewN ?_ _ | refine Below.via (by assumption) (by first | omega | (simp; done) | (simp; omega)) ?_))
                            · have HFi := Lib.hid (HN2.out ⟨HHr.out, HS.out, hEF.all (by omega)⟩)
                              have HU := Lib.hid hU
                              clear hEF hU
                              go_wp2_with fail
                              go_roundw
                              case rel => first | exact ⟨j + 1, by omega, by go_num, HFi.out, HU.out⟩ | ((repeat apply Exists.intro); exact ⟨⟨j + 1, by omega, by go_num, HFi.out, HU.out⟩, rfl⟩)
                              case measure => simp [intOf]; omega
                    · have HFi := Lib.hid (HN1.out ⟨HTg.out, hG.all (by omega)⟩)
                      have HY := Lib.hid hY
                      clear hG hY
                      go_wp2_with fail
                      go_roundw
                      case rel => first | exact ⟨k + 1, by omega, by go_num, HFi.out, HY.out⟩ | ((repeat apply Exists.intro); exact ⟨⟨k + 1, by omega, by go_num, HFi.out, HY.out⟩, rfl⟩)
                      case measure => simp [intOf]; omega
              · have HF : Hid (∀ r, r ∈ c.relays → c.relayFine r) := fun r hr => by
                  obtain ⟨i, hi, rfl⟩ := List.getElem_of_mem hr
                  exact hF i hi (by omega)
                have HV : Hid c.Valid := ⟨h1, h2, by have := H3.out; rw [contacts_exact h2 HF.out] at this; omega, HN.out, HA.out, HF.out⟩
                clear hF
                go_wp2_with fail
                go_ret
                exact ⟨0, rfl, ⟨fun _ => HV.out, fun _ => rfl⟩, xw⟩
end Go.Proofs.Ytknplnfoekeljaa
