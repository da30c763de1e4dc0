/- A region that draws its order: quiet operations in any order, then a tail in a forced order. Without a program. -/
import Derived.Deep.Quiet
import Derived.StillTail
namespace Go.Proofs.Ytknplnfoekeljaa
open Go
section
variable {P : Program} {C : World → Prop} {md : Region.Mode}
/-- every edge leads back -/
def backB (md : Region.Mode) (ops : Array Oper) : Bool := (List.range ops.size).all fun i => ((ops[i]?).map fun o => o.after.all fun e => !Region.binds md e || decide (e.on < i)).getD true
/-- each operation from n on waits for each one ahead of it -/
def waitsB (md : Region.Mode) (ops : Array Oper) (n : Nat) : Bool :=
  (List.range ops.size).all fun t => decide (t < n) || (List.range t).all fun i => Region.waitsFor md ops t i
def tailB (md : Region.Mode) (l : List Oper) (n : Nat) : Bool :=
  decide (n ≤ l.length) && backB md l.toArray && waitsB md l.toArray n && Region.lexB md (l.take n).toArray
theorem back_spec {ops : Array Oper} (h : backB md ops = true) {i : Nat} {o : Oper} (ho : ops[i]? = some o) {e : Edge} (he : e ∈ o.after) (hbd : Region.binds md e = true) : e.on < i := by
  have hi : i < ops.size := (Array.getElem?_eq_some_iff.1 ho).1
  have h1 := List.all_eq_true.1 h i (List.mem_range.2 hi)
  simp only [ho, Option.map_some, Option.getD_some] at h1
  have h2 := Array.all_eq_true'.1 h1 e he
  simpa [hbd] using h2
theorem waits_spec {ops : Array Oper} {n t i : Nat} (h : waitsB md ops n = true) (ht : t < ops.size) (hn : n ≤ t) (hi : i < t) :
    ∃ o, ops[t]? = some o ∧ ∃ e ∈ o.after, Region.binds md e = true ∧ e.on = i := by
  have h1 := List.all_eq_true.1 h t (List.mem_range.2 ht)
  simp only [Bool.or_eq_true, decide_eq_true_eq] at h1
  rcases h1 with h1 | h1
  · omega
  · exact Region.waitsFor_spec (List.all_eq_true.1 h1 i (List.mem_range.2 hi))
/-- where an operation waits for all ahead of it: ready ones are found at the least that isn't listed -/
theorem ready_least {ops : Array Oper} (hb : backB md ops = true) {listed : Array Bool} (hs : listed.size = ops.size) :
    ∀ k, k < ops.size → listed.getD k true = false → ∃ i, i ≤ k ∧ i ∈ Region.ready md ops listed := by
  intro k
  induction k using Nat.strongRecOn with
  | _ k ih =>
    intro hk hl
    obtain ⟨o, ho⟩ : ∃ o, ops[k]? = some o := ⟨ops[k], by simp [hk]⟩
    by_cases hr : ∀ e ∈ o.after, Region.binds md e = true → listed.getD e.on false = true
    · exact ⟨k, Nat.le_refl _, mem_ready.2 ⟨hl, o, ho, hr⟩⟩
    · obtain ⟨e, h1⟩ := Classical.not_forall.1 hr
      obtain ⟨he, h2⟩ := Classical.not_forall.1 h1
      obtain ⟨h2', h3⟩ := Classical.not_forall.1 h2
      have hlt := back_spec hb ho he (by simpa using h2')
      have hl' : listed.getD e.on true = false := getD_in (by omega) (by simpa using h3)
      obtain ⟨i, hi, hm⟩ := ih e.on hlt (by omega) hl'
      exact ⟨i, by omega, hm⟩
/-- in the order of the text -/
theorem any_seq {ops : Array Oper} {Q : Exit → Act → World → Prop} {extra : Nat} (hb : backB md ops = true) {n : Nat} (hw : waitsB md ops n = true) :
    ∀ (l : List Oper) (k : Nat) (listed : Array Bool) (a : Act) (w : World), n ≤ k → k + l.length = ops.size → (∀ j, l[j]? = ops[k + j]?) → listed.size = ops.size →
      (∀ i, i < k → listed.getD i false = true) → (∀ i, k ≤ i → i < ops.size → listed.getD i true = false) →
      wpList P ops Q l a w → wpAny P md ops Q (l.length + extra) listed a w
  | [], k, listed, a, w, _, hk, _, hsz, h1, _, h => by
    have hnil : Region.ready md ops listed = [] := by
      cases hr : Region.ready md ops listed with
      | nil => rfl
      | cons i r =>
        obtain ⟨hu, o, ho, _⟩ := mem_ready.1 (show i ∈ Region.ready md ops listed by rw [hr]; exact List.mem_cons_self ..)
        have hi : i < ops.size := (Array.getElem?_eq_some_iff.1 ho).1
        have := h1 i (by simp at hk; omega)
        rw [getD_both hu] at this; cases this
    have e0 : ([] : List Oper).length + extra = extra := by simp
    rw [e0]
    cases extra with
    | zero => exact ⟨hnil, h⟩
    | succ m => exact ⟨fun _ => h, fun i hi => by rw [hnil] at hi; cases hi⟩
  | o :: l, k, listed, a, w, hn, hk, hl, hsz, h1, h2, h => by
    have hk0 : k < ops.size := by simp at hk; omega
    have h0 : ops[k]? = some o := by simpa using (hl 0).symm
    have honly : ∀ i ∈ Region.ready md ops listed, i = k := by
      intro i hi
      obtain ⟨hu, oi, hoi, hall⟩ := mem_ready.1 hi
      have hilt : i < ops.size := (Array.getElem?_eq_some_iff.1 hoi).1
      rcases Nat.lt_trichotomy i k with hik | hik | hik
      · have := h1 i hik; rw [getD_both hu] at this; cases this
      · exact hik
      · obtain ⟨o', ho', e, he, hbd, hon⟩ := waits_spec hw hilt (by omega) hik
        have : o' = oi := Option.some.inj (ho'.symm.trans hoi)
        subst this
        have h3 := hall e he hbd
        rw [hon, getD_both (h2 k (Nat.le_refl _) hk0)] at h3; cases h3
    have e1 : (o :: l).length + extra = (l.length + extra) + 1 := by simp; omega
    rw [e1]
    refine ⟨fun hr => ?_, fun i hi => ?_⟩
    · obtain ⟨i, hi, hm⟩ := ready_least (md := md) hb hsz k hk0 (h2 k (Nat.le_refl _) hk0)
      rw [hr] at hm; cases hm
    · have := honly i hi
      subst this
      have hrec : ∀ a w, wpList P ops Q l a w → wpAny P md ops Q (l.length + extra) (listed.setIfInBounds i true) a w := fun a w hh =>
        any_seq hb hw l (i + 1) _ a w (by omega) (by simp at hk; omega) (fun j => by have := hl (j + 1); simpa [Nat.add_assoc, Nat.add_comm 1 j] using this) (by simpa using hsz)
          (fun j hj => by
            by_cases hji : i = j
            · subst hji; rw [Array.getD_eq_getD_getElem?, Array.getElem?_setIfInBounds_self]; simp [hsz, hk0]
            · rw [getD_set_ne false hji]; exact h1 j (by omega))
          (fun j hj hj' => by rw [getD_set_ne true (by omega)]; exact h2 j (by omega) hj') hh
      unfold wpOp
      simp only [h0]
      unfold wpList at h
      split
      · rename_i hwd; simp only [hwd, if_true] at h; exact h.imp (Oper.wp_mono hrec) id
      · rename_i hwd; simp only [hwd] at h; exact hrec _ _ h
theorem yielded_take {l : List Oper} {n : Nat} (tmps : Array Value) {j : Nat} (hj : j < n) : yielded (l.take n).toArray tmps j = yielded l.toArray tmps j := by
  unfold yielded
  simp [hj]
/-- every guard leads back -/
def guardB (l : List Oper) : Bool := (List.range l.length).all fun i => ((l[i]?).map fun o => (o.guard.map fun g => decide (g.1 < i)).getD true).getD true
theorem qOp_take {l : List Oper} {n i : Nat} (hg : guardB l = true) (hi : i < n) {K K' : Act → Prop} (hK : ∀ a, K a → K' a) {a : Act} (h : qOp P (l.take n).toArray C i K a) : qOp P l.toArray C i K' a := by
  refine qOp_mono hK ?_
  unfold qOp at *
  have e : (l.take n).toArray[i]? = l.toArray[i]? := by simp [hi]
  rw [e] at h
  cases ho : l.toArray[i]? with
  | none => simpa [ho] using h
  | some o =>
    simp only [ho] at h ⊢
    have hw : Region.wanted o (yielded (l.take n).toArray a.tmps) = Region.wanted o (yielded l.toArray a.tmps) := by
      unfold Region.wanted
      cases hgd : o.guard with
      | none => rfl
      | some g =>
        obtain ⟨j, b⟩ := g
        have hil : i < l.length := by have := (Array.getElem?_eq_some_iff.1 ho).1; simpa using this
        have h1 := List.all_eq_true.1 hg i (List.mem_range.2 hil)
        have ho' : l[i]? = some o := by simpa using ho
        simp only [ho', hgd, Option.map_some, Option.getD_some, decide_eq_true_eq] at h1
        simp only [yielded_take (l := l) a.tmps (show j < n by omega)]
    rwa [hw] at h
theorem any_head {l : List Oper} {Q : Exit → Act → World → Prop} {n : Nat} (hn : n ≤ l.length) (hb : backB md l.toArray = true) (hgd : guardB l = true) (hw : waitsB md l.toArray n = true) {Qh : Act → Prop}
    (hQ : ∀ a w, C w → Qh a → wpList P l.toArray Q (l.drop n) a w) :
    ∀ (f : Nat) (lh listed : Array Bool) (a : Act) (w : World), C w → lh.size = n → listed.size = l.length → (∀ i, i < n → listed[i]? = lh[i]?) → (∀ i, n ≤ i → i < l.length → listed.getD i true = false) →
      wpAnyQ P md (l.take n).toArray C Qh f lh a → wpAny P md l.toArray Q (f + (l.length - n)) listed a w := by
  have hbh : backB md (l.take n).toArray = true := by
    refine List.all_eq_true.2 fun i hi => ?_
    have hi' : i < n := by have := List.mem_range.1 hi; simp at this; omega
    have h1 := List.all_eq_true.1 hb i (List.mem_range.2 (by simp; omega))
    simpa [hi'] using h1
  have hgetD : ∀ {lh listed : Array Bool} (b : Bool), (∀ i, i < n → listed[i]? = lh[i]?) → ∀ i, i < n → listed.getD i b = lh.getD i b := fun b h i hi => by
    rw [Array.getD_eq_getD_getElem?, Array.getD_eq_getD_getElem?, h i hi]
  have hhead : ∀ {lh listed : Array Bool}, (∀ i, i < n → listed[i]? = lh[i]?) → ∀ i, i < n → (i ∈ Region.ready md (l.take n).toArray lh ↔ i ∈ Region.ready md l.toArray listed) := fun {lh listed} h i hi => by
    rw [mem_ready, mem_ready, hgetD true h i hi]
    have e : (l.take n).toArray[i]? = l.toArray[i]? := by simp [hi]
    rw [e]
    refine and_congr_right fun _ => exists_congr fun o => and_congr_right fun ho => forall_congr' fun e => forall_congr' fun he => forall_congr' fun hbd => ?_
    have := back_spec hb ho he hbd
    rw [hgetD false h e.on (by omega)]
  have hdone : ∀ (f : Nat) (lh listed : Array Bool) (a : Act) (w : World), C w → lh.size = n → listed.size = l.length → (∀ i, i < n → listed[i]? = lh[i]?) → (∀ i, n ≤ i → i < l.length → listed.getD i true = false) →
      Region.ready md (l.take n).toArray lh = [] → Qh a → wpAny P md l.toArray Q (f + (l.length - n)) listed a w := by
    intro f lh listed a w hC h1 h2 h3 h4 hr hq
    have hall : ∀ i, i < n → listed.getD i false = true := by
      intro i hi
      cases hx : lh.getD i true with
      | false =>
        obtain ⟨j, _, hm⟩ := ready_least (md := md) hbh (listed := lh) (by simp [h1]; omega) i (by simp; omega) hx
        rw [hr] at hm; cases hm
      | true =>
        rw [hgetD false h3 i hi]
        have hil : i < lh.size := by omega
        simpa [Array.getD_eq_getD_getElem?, hil] using hx
    have := any_seq (P := P) (Q := Q) (extra := f) hb hw (l.drop n) n listed a w (Nat.le_refl _) (by simp; omega) (fun j => by simp) (by simpa using h2) hall (fun i hi hi' => h4 i hi (by simpa using hi')) (hQ a w hC hq)
    rw [List.length_drop] at this
    rwa [Nat.add_comm] at this
  intro f
  induction f with
  | zero =>
    intro lh listed a w hC h1 h2 h3 h4 h
    exact hdone 0 lh listed a w hC h1 h2 h3 h4 h.1 h.2
  | succ f ih =>
    intro lh listed a w hC h1 h2 h3 h4 h
    by_cases hr : Region.ready md (l.take n).toArray lh = []
    · exact hdone (f + 1) lh listed a w hC h1 h2 h3 h4 hr (h.1 hr)
    · obtain ⟨k, hk⟩ := List.exists_mem_of_ne_nil _ hr
      have hkn : k < n := by
        obtain ⟨_, o, ho, _⟩ := mem_ready.1 hk
        have := (Array.getElem?_eq_some_iff.1 ho).1
        simp at this; omega
      have hkf := (hhead h3 k hkn).1 hk
      rw [show f + 1 + (l.length - n) = (f + (l.length - n)) + 1 by omega]
      refine ⟨fun h0 => ?_, fun i hi => ?_⟩
      · rw [h0] at hkf; cases hkf
      · have hin : i < n := by
          rcases Nat.lt_or_ge i n with hin | hin
          · exact hin
          · obtain ⟨_, oi, hoi, hall⟩ := mem_ready.1 hi
            have hil : i < l.toArray.size := (Array.getElem?_eq_some_iff.1 hoi).1
            obtain ⟨o', ho', e, he, hbd, hon⟩ := waits_spec hw hil hin (show k < i by omega)
            have : o' = oi := Option.some.inj (ho'.symm.trans hoi)
            subst this
            have h5 := hall e he hbd
            rw [hon, getD_both ((mem_ready.1 hkf).1)] at h5; cases h5
        have hih := (hhead h3 i hin).2 hi
        refine wpOp_of_qOp (K := fun a' => wpAnyQ P md (l.take n).toArray C Qh f (lh.setIfInBounds i true) a') hC (fun a' w' hC' hh => ?_) (qOp_take hgd hin (fun _ h => h) (h.2 i hih))
        refine ih (lh.setIfInBounds i true) (listed.setIfInBounds i true) a' w' hC' (by simpa using h1) (by simpa using h2) (fun j hj => ?_) (fun j hj hj' => by rw [getD_set_ne true (by omega)]; exact h4 j hj hj') hh
        by_cases hji : i = j
        · subst hji
          rw [Array.getElem?_setIfInBounds_self, Array.getElem?_setIfInBounds_self, h1, h2]
          simp [hin, show i < l.length by omega]
        · rw [Array.getElem?_setIfInBounds_ne hji, Array.getElem?_setIfInBounds_ne hji]; exact h3 j hj
/-- A region that draws: its first n operations are quiet in the class C (calls that may make memory, loads, arithmetic), walked in the order of the text; the others follow in that order. -/
theorem wp_region_tail {id : Nat} {Q : Exit → Act → World → Prop} {a : Act} {w : World} {l : List Oper} (n : Nat) (C : World → Prop) (hm : P.follows .mixedOrders = true) (hB : (tailB .any l n && guardB l) = true)
    (hC : C { w with drawn := w.drawn + 1 }) (h : wpQuiet P (l.take n).toArray C (fun a' => ∀ w', C w' → wpList P l.toArray Q (l.drop n) a' w') (l.take n) a) : (Code.region id l.toArray true).wp P Q a w := by
  simp only [tailB, Bool.and_eq_true, decide_eq_true_eq] at hB
  obtain ⟨⟨⟨⟨hn, hb⟩, hw⟩, hlex⟩, hg⟩ := hB
  simp only [Region.lexB, Bool.and_eq_true] at hlex
  have hlen : (l.take n).length = n := by simp; omega
  have h1 := wpAnyQ_lex (C := C) (md := .any) hlex.1 (l.take n) 0 (Array.replicate (l.take n).toArray.size false) a (by simp) (by simpa using hlex.2) h
  have h2 := any_head (Q := Q) hn hb hg hw (fun a w hC hq => hq w hC) (l.take n).length (Array.replicate (l.take n).toArray.size false) (Array.replicate l.length false) a { w with drawn := w.drawn + 1 } hC (by simp; omega) (by simp)
    (fun i hi => by simp [hi, Nat.min_eq_left hn, show i < l.length by omega]) (fun i hi hi' => by simp [hi']) h1
  refine wp_region_any hm ?_
  rw [hlen, show n + (l.length - n) = l.length by omega] at h2
  simpa using h2
end
end Go.Proofs.Ytknplnfoekeljaa
