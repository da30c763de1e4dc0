/- Classes that grow together, as a forest with sizes: plain, without a program. -/
import Derived.WalkKit
namespace Go.Proofs.Ytknplnfoekeljaa.Fo
def sumTo (f : Nat → Nat) : Nat → Nat
  | 0 => 0
  | n + 1 => sumTo f n + f n
theorem le_sumTo (f : Nat → Nat) {n x : Nat} (h : x < n) : f x ≤ sumTo f n := by
  induction n with
  | zero => omega
  | succ n ih =>
    unfold sumTo
    by_cases hx : x = n
    · subst hx; omega
    · have := ih (by omega); omega
theorem sumTo_congr {f g : Nat → Nat} {n : Nat} (h : ∀ x, x < n → f x = g x) : sumTo f n = sumTo g n := by
  induction n with
  | zero => rfl
  | succ n ih => unfold sumTo; rw [ih (fun x hx => h x (by omega)), h n (by omega)]
theorem sumTo_upd (f : Nat → Nat) {n a v : Nat} (h : a < n) : sumTo (fun x => if x = a then v else f x) n + f a = sumTo f n + v := by
  induction n with
  | zero => omega
  | succ n ih =>
    unfold sumTo
    by_cases ha : a = n
    · subst ha
      rw [if_pos rfl, sumTo_congr (g := f) (fun x hx => if_neg (by omega))]; omega
    · rw [if_neg (by omega)]; have := ih (by omega); omega
def nx (up : List Nat) (x : Nat) : Nat := up.getD x x
def sz (size : List Nat) (x : Nat) : Nat := size.getD x 0
inductive Root (up : List Nat) : Nat → Nat → Prop
  | here {x : Nat} (h : nx up x = x) : Root up x x
  | step {x l : Nat} (h : nx up x ≠ x) (r : Root up (nx up x) l) : Root up x l
theorem Root.uniq {up : List Nat} {x l l' : Nat} (h : Root up x l) (h' : Root up x l') : l = l' := by
  induction h with
  | here e => cases h' with | here => rfl | step n _ => exact absurd e n
  | step n _ ih => cases h' with | here e => exact absurd e n | step _ r => exact ih r
theorem Root.fix {up : List Nat} {x l : Nat} (h : Root up x l) : nx up l = l := by
  induction h with
  | here e => exact e
  | step _ _ ih => exact ih
structure Ok (n : Nat) (up size : List Nat) : Prop where
  lu : up.length = n
  ls : size.length = n
  lt : ∀ x, x < n → nx up x < n
  rise : ∀ x, x < n → nx up x ≠ x → sz size x < sz size (nx up x)
  pos : ∀ x, x < n → 1 ≤ sz size x
  sum : sumTo (fun x => if nx up x = x then sz size x else 0) n = n
variable {n : Nat} {up size : List Nat}
theorem Ok.root_ex (h : Ok n up size) {x : Nat} (hx : x < n) : ∃ l, l < n ∧ Root up x l := by
  have hb : ∀ y, y < n → sz size y ≤ sumTo (sz size) n := fun y hy => le_sumTo _ hy
  generalize hd : sumTo (sz size) n - sz size x = d
  induction d using Nat.strongRecOn generalizing x with
  | _ d ih =>
    by_cases hr : nx up x = x
    · exact ⟨x, hx, .here hr⟩
    · have h1 := h.rise x hx hr
      have h2 := hb _ (h.lt x hx)
      obtain ⟨l, hl, r⟩ := ih (sumTo (sz size) n - sz size (nx up x)) (by omega) (h.lt x hx) rfl
      exact ⟨l, hl, .step hr r⟩
theorem Ok.sz_le (h : Ok n up size) {x : Nat} (hx : x < n) : sz size x ≤ n := by
  obtain ⟨l, hl, r⟩ := h.root_ex hx
  induction r with
  | here e =>
    rename_i y
    have := le_sumTo (fun x => if nx up x = x then sz size x else 0) hx
    simp only [e, if_true] at this
    rw [h.sum] at this; exact this
  | step e _ ih => have h1 := h.rise _ hx e; have := ih (h.lt _ hx) hl; omega
theorem Root.lt (h : Ok n up size) {x l : Nat} (hx : x < n) (r : Root up x l) : l < n := by
  obtain ⟨l', hl, r'⟩ := h.root_ex hx
  rw [r.uniq r']; exact hl
theorem nx_set {a b : Nat} (h : b < up.length) (x : Nat) : nx (up.set b a) x = if x = b then a else nx up x := by
  unfold nx
  simp only [List.getD_eq_getElem?_getD, List.getElem?_set]
  by_cases hx : b = x
  · subst hx; simp [h]
  · rw [if_neg hx, if_neg (Ne.symm hx)]
theorem sz_set {a v : Nat} (h : a < size.length) (x : Nat) : sz (size.set a v) x = if x = a then v else sz size x := by
  unfold sz
  simp only [List.getD_eq_getElem?_getD, List.getElem?_set]
  by_cases hx : a = x
  · subst hx; simp [h]
  · rw [if_neg hx, if_neg (Ne.symm hx)]
/-- a root is laid under another -/
theorem Ok.attach (h : Ok n up size) {a b : Nat} (ha : a < n) (hb : b < n) (hra : nx up a = a) (hrb : nx up b = b) (hab : a ≠ b) :
    Ok n (up.set b a) (size.set a (sz size a + sz size b)) where
  lu := by simp [h.lu]
  ls := by simp [h.ls]
  lt := fun x hx => by rw [nx_set (by rw [h.lu]; exact hb)]; split; exact ha; exact h.lt x hx
  pos := fun x hx => by rw [sz_set (by rw [h.ls]; exact ha)]; split; have := h.pos a ha; omega; exact h.pos x hx
  rise := fun x hx => by
    rw [nx_set (by rw [h.lu]; exact hb), sz_set (by rw [h.ls]; exact ha), sz_set (by rw [h.ls]; exact ha)]
    intro hne
    by_cases hxb : x = b
    · subst hxb
      rw [if_pos rfl, if_neg (Ne.symm hab), if_pos rfl]; have := h.pos a ha; omega
    · rw [if_neg hxb] at hne ⊢
      have h1 := h.rise x hx hne
      have hxa : x ≠ a := fun e => hne (by rw [e]; exact hra)
      rw [if_neg hxa]
      split
      · rename_i e; rw [e] at h1; omega
      · exact h1
  sum := by
    have e : sumTo (fun x => if nx (up.set b a) x = x then sz (size.set a (sz size a + sz size b)) x else 0) n
        = sumTo (fun x => if x = b then 0 else (if x = a then sz size a + sz size b else (if nx up x = x then sz size x else 0))) n := by
      refine sumTo_congr fun x hx => ?_
      rw [nx_set (by rw [h.lu]; exact hb), sz_set (by rw [h.ls]; exact ha)]
      by_cases hxb : x = b
      · subst hxb; rw [if_pos rfl, if_pos rfl, if_neg (by omega)]
      · rw [if_neg hxb, if_neg hxb]
        by_cases hxa : x = a
        · subst hxa; rw [if_pos rfl, if_pos rfl, if_pos hra]
        · rw [if_neg hxa, if_neg hxa]
    rw [e]
    have e1 := sumTo_upd (fun x => if x = a then sz size a + sz size b else (if nx up x = x then sz size x else 0)) (n := n) (a := b) (v := 0) hb
    have e2 := sumTo_upd (fun x => if nx up x = x then sz size x else 0) (n := n) (a := a) (v := sz size a + sz size b) ha
    have e3 := h.sum
    simp only [if_neg (Ne.symm hab), hrb, hra, if_true] at e1 e2
    omega
theorem Root.attach (h : Ok n up size) {a b : Nat} (ha : a < n) (hb : b < n) (hra : nx up a = a) (hrb : nx up b = b) (hab : a ≠ b) {x l : Nat} (r : Root up x l) :
    Root (up.set b a) x (if l = b then a else l) := by
  have hbl : b < up.length := by rw [h.lu]; exact hb
  have hrt : Root (up.set b a) a a := .here (by rw [nx_set hbl, if_neg hab]; exact hra)
  induction r with
  | here e =>
    rename_i y
    by_cases hy : y = b
    · subst hy; rw [if_pos rfl]
      refine .step (by rw [nx_set hbl, if_pos rfl]; exact hab) ?_
      rw [nx_set hbl, if_pos rfl]; exact hrt
    · rw [if_neg hy]; exact .here (by rw [nx_set hbl, if_neg hy]; exact e)
  | step e r ih =>
    rename_i y l
    have hy : y ≠ b := fun he => e (by rw [he]; exact hrb)
    refine .step (by rw [nx_set hbl, if_neg hy]; exact e) ?_
    rw [nx_set hbl, if_neg hy]; exact ih
/-- which are of one class -/
def Same (up : List Nat) (x y : Nat) : Prop := ∃ l, Root up x l ∧ Root up y l
def Join (R : Nat → Nat → Prop) (a b x y : Nat) : Prop := R x y ∨ (R x a ∧ R b y) ∨ (R x b ∧ R a y)
theorem same_iff {x y lx ly : Nat} (hx : Root up x lx) (hy : Root up y ly) : Same up x y ↔ lx = ly :=
  ⟨fun ⟨_, h1, h2⟩ => (hx.uniq h1).trans (hy.uniq h2).symm, fun e => ⟨lx, hx, e ▸ hy⟩⟩
theorem Same.attach (h : Ok n up size) {a b p q : Nat} (ha : a < n) (hb : b < n) (hra : Root up p a) (hrb : Root up q b) (hab : a ≠ b) {x y : Nat} (hx : x < n) (hy : y < n) :
    Same (up.set b a) x y ↔ Join (Same up) p q x y := by
  obtain ⟨lx, _, rx⟩ := h.root_ex hx
  obtain ⟨ly, _, ry⟩ := h.root_ex hy
  rw [same_iff (rx.attach h ha hb hra.fix hrb.fix hab) (ry.attach h ha hb hra.fix hrb.fix hab)]
  unfold Join
  rw [same_iff rx ry, same_iff rx hra, same_iff hrb ry, same_iff rx hrb, same_iff hra ry]
  split <;> split <;> omega
theorem Join.swap {R : Nat → Nat → Prop} {a b x y : Nat} : Join R a b x y ↔ Join R b a x y := by
  unfold Join
  constructor <;> (rintro (h | h | h); exact .inl h; exact .inr (.inr h); exact .inr (.inl h))
theorem nx_range (n x : Nat) : nx (List.range n) x = x := by
  unfold nx; rw [List.getD_eq_getElem?_getD]
  by_cases h : x < n
  · simp [h]
  · simp [Nat.le_of_not_lt h]
theorem sz_ones (n x : Nat) (h : x < n) : sz (List.replicate n 1) x = 1 := by
  unfold sz; simp [h]
theorem sumTo_ones (n : Nat) : sumTo (fun _ => 1) n = n := by
  induction n with
  | zero => rfl
  | succ n ih => unfold sumTo; rw [ih]
theorem Ok.new (n : Nat) : Ok n (List.range n) (List.replicate n 1) where
  lu := by simp
  ls := by simp
  lt := fun x hx => by rw [nx_range]; exact hx
  rise := fun x _ h => absurd (nx_range n x) h
  pos := fun x hx => by rw [sz_ones n x hx]; exact Nat.le_refl _
  sum := by
    rw [sumTo_congr (g := fun _ => 1) (fun x hx => by rw [if_pos (nx_range n x), sz_ones n x hx])]
    exact sumTo_ones n
theorem same_new {n x y : Nat} : Same (List.range n) x y ↔ x = y := by
  rw [same_iff (.here (nx_range n x)) (.here (nx_range n y))]
end Go.Proofs.Ytknplnfoekeljaa.Fo
