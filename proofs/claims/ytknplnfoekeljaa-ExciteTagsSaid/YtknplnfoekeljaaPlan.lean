/- A region that draws its order, with one call that writes: every other operation yields its value ahead of the call and behind it. Without a program. -/
import Derived.Test.YtknplnfoekeljaaRegion
import Derived.Test.YtknplnfoekeljaaForest
namespace Go.Proofs.Ytknplnfoekeljaa
open Go
section
variable {P : Program}
def fills (l : List (Tmp × Value)) (a : Act) : Act := l.foldl (fun a x => a.put (some x.1) x.2) a
/-- what is asked of the operations' text: no guard, no select, each has a slot; who reads a slot that the region writes waits for its writer -/
def planB (md : Region.Mode) (l : List Oper) : Bool :=
  Region.noSelect l.toArray && backB md l.toArray && (List.range l.length).all fun i => ((l[i]?).map fun o => o.guard.isNone && o.dst.isSome &&
    (List.range l.length).all fun j => (((l[j]?).bind (·.dst)).map fun d => !(o.looksAt l.toArray).contains d || o.after.any fun e => Region.binds md e && e.on == j).getD true).getD true
def cnt (n : Nat) (listed : Array Bool) : Nat := Fo.sumTo (fun i => if listed.getD i true then 0 else 1) n
theorem cnt_set {n i : Nat} {listed : Array Bool} (hs : listed.size = n) (hi : i < n) (hu : listed.getD i true = false) : cnt n (listed.setIfInBounds i true) + 1 = cnt n listed := by
  have e : cnt n (listed.setIfInBounds i true) = Fo.sumTo (fun x => if x = i then 0 else (if listed.getD x true then 0 else 1)) n := by
    refine Fo.sumTo_congr fun x hx => ?_
    by_cases hxi : x = i
    · subst hxi
      rw [if_pos rfl, Array.getD_eq_getD_getElem?, Array.getElem?_setIfInBounds_self]
      rw [if_pos (show x < listed.size by omega)]; rfl
    · rw [getD_set_ne true (Ne.symm hxi), if_neg hxi]
  have h := Fo.sumTo_upd (fun x => if listed.getD x true then 0 else 1) (n := n) (a := i) (v := 0) hi
  rw [e]
  simp only [hu] at h
  unfold cnt
  simpa using h
theorem all_of_cnt {n : Nat} {listed : Array Bool} (h : cnt n listed = 0) {i : Nat} (hi : i < n) : listed.getD i true = true := by
  have := Fo.le_sumTo (fun i => if listed.getD i true then 0 else 1) hi
  unfold cnt at h
  rw [h] at this
  cases hx : listed.getD i true with
  | true => rfl
  | false => simp [hx] at this
/-- the slots that no operation still to come writes hold what they will hold at the end -/
structure Ag (l : List Oper) (aF : Act) (listed : Array Bool) (a : Act) : Prop where
  defers : a.defers = aF.defers
  size : a.tmps.size = aF.tmps.size
  slot : ∀ t : Nat, (∀ j o, l[j]? = some o → listed.getD j true = false → o.dst ≠ some t) → a.tmps[t]? = aF.tmps[t]?
theorem Ag.eval {l : List Oper} {aF a : Act} {listed : Array Bool} (h : Ag l aF listed a) {x : Operand} (hx : ∀ t, x = .tmp t → ∀ j o, l[j]? = some o → listed.getD j true = false → o.dst ≠ some t) : a.eval x = aF.eval x := by
  cases x with
  | tmp t =>
    have := h.slot t (hx t rfl)
    show a.tmps.getD t undef = aF.tmps.getD t undef
    rw [Array.getD_eq_getD_getElem?, Array.getD_eq_getD_getElem?, this]
  | const v => rfl
  | global g => rfl
  | func f => rfl
theorem plan_spec {md : Region.Mode} {l : List Oper} (h : planB md l = true) {i : Nat} {o : Oper} (ho : l[i]? = some o) :
    o.guard = none ∧ (∃ d, o.dst = some d) ∧ ∀ j oj d, l[j]? = some oj → oj.dst = some d → d ∈ o.looksAt l.toArray → ∃ e ∈ o.after, Region.binds md e = true ∧ e.on = j := by
  simp only [planB, Bool.and_eq_true] at h
  have hi : i < l.length := (List.getElem?_eq_some_iff.1 ho).1
  have h1 := List.all_eq_true.1 h.2 i (List.mem_range.2 hi)
  simp only [ho, Option.map_some, Option.getD_some, Bool.and_eq_true] at h1
  obtain ⟨⟨h2, h3⟩, h4⟩ := h1
  refine ⟨by simpa using h2, Option.isSome_iff_exists.1 h3, fun j oj d hj hd hm => ?_⟩
  have hjl : j < l.length := (List.getElem?_eq_some_iff.1 hj).1
  have h5 := List.all_eq_true.1 h4 j (List.mem_range.2 hjl)
  simp only [hj, Option.bind_some, hd, Option.map_some, Option.getD_some, Bool.or_eq_true, Bool.not_eq_true'] at h5
  rcases h5 with h5 | h5
  · rw [List.contains_iff_mem.2 hm] at h5; cases h5
  · obtain ⟨e, he, hb⟩ := Array.any_eq_true'.1 h5
    simp only [Bool.and_eq_true, beq_iff_eq] at hb
    exact ⟨e, he, hb.1, hb.2⟩
/-- what one operation does, seen from the end -/
def Does (P : Program) (C0 C1 : World → Prop) (aF : Act) (s i : Nat) (o : Oper) (v : Value) : Prop :=
  if i = s then ∀ w, C0 w → ∃ f args, (execOp aF.eval o).run P w = .ok (.enter f args) w ∧ Calls P f args w (fun e w' => e = .returned v ∧ C1 w')
  else ∀ w, C0 w ∨ C1 w → (execOp aF.eval o).run P w = .ok (.value v) w
theorem any_plan {md : Region.Mode} {l : List Oper} {Q : Exit → Act → World → Prop} {C0 C1 : World → Prop} {aF : Act} {s : Nat} (hB : planB md l = true) (hs : s < l.length)
    (hd : ∀ i o d, l[i]? = some o → o.dst = some d → ∃ v, aF.tmps[d]? = some v ∧ Does P C0 C1 aF s i o v) (hQ : ∀ w, C1 w → Q .normal aF w) :
    ∀ (f : Nat) (listed : Array Bool) (a : Act) (w : World), listed.size = l.length → cnt l.length listed ≤ f → Ag l aF listed a → (if listed.getD s true then C1 w else C0 w) → wpAny P md l.toArray Q f listed a w := by
  have hB' := hB
  simp only [planB, Bool.and_eq_true] at hB'
  obtain ⟨⟨hsel, hback⟩, _⟩ := hB'
  have hend : ∀ (listed : Array Bool) (a : Act) (w : World), (∀ i, i < l.length → listed.getD i true = true) → Ag l aF listed a → (if listed.getD s true then C1 w else C0 w) → Q .normal a w := by
    intro listed a w hall hag hC
    have ea : a = aF := by
      obtain ⟨ta, da⟩ := a
      obtain ⟨tf, df⟩ := aF
      have h1 : da = df := hag.defers
      have h2 : ta = tf := Array.ext_getElem? fun t => hag.slot t (fun j o hj hu => by
        have := hall j (List.getElem?_eq_some_iff.1 hj).1
        rw [this] at hu; cases hu)
      rw [h1, h2]
    rw [ea]
    rw [hall s hs, if_pos rfl] at hC
    exact hQ w hC
  have hempty : ∀ (listed : Array Bool), listed.size = l.length → Region.ready md l.toArray listed = [] → ∀ i, i < l.length → listed.getD i true = true := by
    intro listed hsz hr i hi
    cases hx : listed.getD i true with
    | true => rfl
    | false =>
      obtain ⟨j, _, hm⟩ := ready_least (md := md) hback (listed := listed) (by simpa using hsz) i (by simpa using hi) hx
      rw [hr] at hm; cases hm
  intro f
  induction f with
  | zero =>
    intro listed a w hsz hc hag hC
    have hall : ∀ i, i < l.length → listed.getD i true = true := fun i hi => all_of_cnt (by omega) hi
    refine ⟨?_, hend listed a w hall hag hC⟩
    cases hr : Region.ready md l.toArray listed with
    | nil => rfl
    | cons i r =>
      obtain ⟨hu, o, ho, _⟩ := mem_ready.1 (show i ∈ Region.ready md l.toArray listed by rw [hr]; exact List.mem_cons_self ..)
      have := hall i (by have := (Array.getElem?_eq_some_iff.1 ho).1; simpa using this)
      rw [this] at hu; cases hu
  | succ f ih =>
    intro listed a w hsz hc hag hC
    refine ⟨fun hr => hend listed a w (hempty listed hsz hr) hag hC, fun i hi => ?_⟩
    obtain ⟨hu, o, ho, hall⟩ := mem_ready.1 hi
    have ho' : l[i]? = some o := by simpa using ho
    have hil : i < l.length := (List.getElem?_eq_some_iff.1 ho').1
    obtain ⟨hg, ⟨d, hdst⟩, hw⟩ := plan_spec hB ho'
    obtain ⟨v, hv, hdo⟩ := hd i o d ho' hdst
    have he : execOp a.eval o = execOp aF.eval o := execOp_congr o (fun cs b => Region.noSelect_spec hsel i o cs b ho) (fun x hx => hag.eval fun t hxt j oj hj hju hjd => by
      have hm : t ∈ o.looksAt l.toArray := by
        unfold Oper.looksAt
        refine List.mem_append_left _ (List.mem_filterMap.2 ⟨x, ?_, by rw [hxt]⟩)
        simpa using hx
      obtain ⟨e, hee, hb, hon⟩ := hw j oj t hj hjd hm
      have := hall e hee hb
      rw [hon, getD_both hju] at this; cases this)
    have hag' : Ag l aF (listed.setIfInBounds i true) (a.put o.dst v) := by
      rw [hdst]
      refine ⟨hag.defers, by simpa [Act.put] using hag.size, fun t ht => ?_⟩
      show (a.tmps.setIfInBounds d v)[t]? = aF.tmps[t]?
      by_cases htd : d = t
      · subst htd
        have hlt : d < a.tmps.size := by rw [hag.size]; exact (Array.getElem?_eq_some_iff.1 hv).1
        rw [Array.getElem?_setIfInBounds_self, if_pos hlt, hv]
      · rw [Array.getElem?_setIfInBounds_ne htd]
        refine hag.slot t fun j oj hj hju hjd => ?_
        by_cases hji : i = j
        · subst hji
          rw [ho'] at hj; cases hj
          rw [hdst] at hjd; exact htd (Option.some.inj hjd)
        · exact ht j oj hj (by rw [getD_set_ne true hji]; exact hju) hjd
    have hcnt : cnt l.length (listed.setIfInBounds i true) ≤ f := by have := cnt_set hsz hil hu; omega
    unfold wpOp
    simp only [ho]
    have hwd : Region.wanted o (yielded l.toArray a.tmps) = true := by unfold Region.wanted; rw [hg]
    rw [if_pos hwd]
    refine .inl ?_
    unfold Oper.wp
    rw [he]
    unfold Does at hdo
    by_cases his : i = s
    · subst his
      rw [if_pos rfl] at hdo
      rw [hu, if_neg (by simp)] at hC
      obtain ⟨fn, args, hrun, hcall⟩ := hdo w hC
      rw [hrun]
      refine hcall.mono ?_
      rintro e w' ⟨rfl, hw'⟩
      refine ih _ _ w' (by simpa using hsz) hcnt hag' ?_
      rw [Array.getD_eq_getD_getElem?, Array.getElem?_setIfInBounds_self, if_pos (show i < listed.size by omega)]
      exact hw'
    · rw [if_neg his] at hdo
      have hC' : C0 w ∨ C1 w := by split at hC; exact .inr hC; exact .inl hC
      rw [hdo w hC']
      refine ih _ _ w (by simpa using hsz) hcnt hag' ?_
      rw [getD_set_ne true his]; exact hC
/-- A region that draws: s is the one call that may write; the values that all operations yield are told ahead ('aF': the frame at the end). -/
theorem wp_region_plan {id : Nat} {Q : Exit → Act → World → Prop} {a : Act} {w : World} {l : List Oper} (s : Nat) (C0 C1 : World → Prop) (aF : Act) (hm : P.follows .mixedOrders = true) (hB : (planB .any l && decide (s < l.length)) = true)
    (h0 : C0 { w with drawn := w.drawn + 1 }) (hsz : a.tmps.size = aF.tmps.size) (hdf : a.defers = aF.defers) (hout : ∀ t, (∀ o ∈ l, o.dst ≠ some t) → a.tmps[t]? = aF.tmps[t]?)
    (hd : ∀ i o d, l[i]? = some o → o.dst = some d → ∃ v, aF.tmps[d]? = some v ∧ Does P C0 C1 aF s i o v) (hQ : ∀ w, C1 w → Q .normal aF w) : (Code.region id l.toArray true).wp P Q a w := by
  simp only [Bool.and_eq_true, decide_eq_true_eq] at hB
  refine wp_region_any hm ?_
  have hrep : ∀ i, i < l.length → (Array.replicate l.length false).getD i true = false := fun i hi => by simp [hi]
  have hsize : l.toArray.size = l.length := by simp
  rw [hsize]
  refine any_plan hB.1 hB.2 hd hQ l.length (Array.replicate l.length false) a _ (by simp) ?_ ⟨hdf, hsz, fun t ht => hout t fun o ho hod => ?_⟩ ?_
  · unfold cnt
    have : Fo.sumTo (fun i => if (Array.replicate l.length false).getD i true then 0 else 1) l.length = Fo.sumTo (fun _ => 1) l.length := Fo.sumTo_congr fun x hx => by rw [hrep x hx]; rfl
    rw [this, Fo.sumTo_ones]
    exact Nat.le_refl _
  · obtain ⟨j, hj⟩ := List.getElem?_of_mem ho
    exact ht j o hj (hrep j (List.getElem?_eq_some_iff.1 hj).1) hod
  · rw [hrep s hB.2, if_neg (by simp)]; exact h0
theorem fills_size (V : List (Tmp × Value)) (a : Act) : (fills V a).tmps.size = a.tmps.size := by
  induction V generalizing a with
  | nil => rfl
  | cons p V ih => show (fills V (a.put (some p.1) p.2)).tmps.size = _; rw [ih]; simp [Act.put]
theorem fills_defers (V : List (Tmp × Value)) (a : Act) : (fills V a).defers = a.defers := by
  induction V generalizing a with
  | nil => rfl
  | cons p V ih => show (fills V (a.put (some p.1) p.2)).defers = _; rw [ih]; rfl
theorem fills_out {V : List (Tmp × Value)} {t : Nat} (a : Act) (h : ∀ p, p ∈ V → p.1 ≠ t) : (fills V a).tmps[t]? = a.tmps[t]? := by
  induction V generalizing a with
  | nil => rfl
  | cons p V ih =>
    show (fills V (a.put (some p.1) p.2)).tmps[t]? = _
    rw [ih _ fun q hq => h q (List.mem_cons_of_mem _ hq)]
    show (a.tmps.setIfInBounds p.1 p.2)[t]? = _
    rw [Array.getElem?_setIfInBounds_ne (h p (List.mem_cons_self ..))]
/-- The same, the values told as a list: slot and value. -/
theorem wp_region_fills {id : Nat} {Q : Exit → Act → World → Prop} {a : Act} {w : World} {l : List Oper} (s : Nat) (V : List (Tmp × Value)) (C0 C1 : World → Prop) (hm : P.follows .mixedOrders = true) (hB : (planB .any l && decide (s < l.length)) = true)
    (hV : (V.map (·.1)).all (fun t => l.any fun o => o.dst == some t) = true) (h0 : C0 { w with drawn := w.drawn + 1 })
    (hd : ∀ i o d, l[i]? = some o → o.dst = some d → ∃ v, (fills V a).tmps[d]? = some v ∧ Does P C0 C1 (fills V a) s i o v) (hQ : ∀ w, C1 w → Q .normal (fills V a) w) : (Code.region id l.toArray true).wp P Q a w := by
  refine wp_region_plan s C0 C1 (fills V a) hm hB h0 (fills_size V a).symm (fills_defers V a).symm (fun t ht => (fills_out a fun p hp e => ?_).symm) hd hQ
  have h := List.all_eq_true.1 hV p.1 (List.mem_map.2 ⟨p, hp, rfl⟩)
  obtain ⟨o, ho, hod⟩ := List.any_eq_true.1 h
  refine ht o ho ?_
  rw [← e]; simpa using hod
end
end Go.Proofs.Ytknplnfoekeljaa
