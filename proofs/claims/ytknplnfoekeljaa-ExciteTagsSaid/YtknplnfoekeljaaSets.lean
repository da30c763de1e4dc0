/- Sets of 128 numbers in two words, without a program. -/
import Derived.WalkKit
import Derived.Laws.BitsAllLaws
namespace Go.Proofs.Ytknplnfoekeljaa
structure BS where
  lo : BitVec 64
  hi : BitVec 64
  deriving DecidableEq
namespace BS
def has (s : BS) (i : Nat) : Bool := if i < 64 then s.lo.getLsbD i else s.hi.getLsbD (i - 64)
def empty : BS := ⟨0#64, 0#64⟩
def union (a b : BS) : BS := ⟨a.lo ||| b.lo, a.hi ||| b.hi⟩
def meet (a b : BS) : BS := ⟨a.lo &&& b.lo, a.hi &&& b.hi⟩
def minus (a b : BS) : BS := ⟨a.lo &&& ~~~ b.lo, a.hi &&& ~~~ b.hi⟩
def differ (a b : BS) : BS := ⟨a.lo ^^^ b.lo, a.hi ^^^ b.hi⟩
/-- the set of one number; of a number outside: empty -/
def single (i : Int) : BS := if 0 ≤ i ∧ i < 128 then (if i < 64 then ⟨1#64 <<< i.toNat, 0#64⟩ else ⟨0#64, 1#64 <<< (i - 64).toNat⟩) else empty
def ins (s : BS) (i : Int) : BS := s.union (single i)
def del (s : BS) (i : Int) : BS := s.minus (single i)
def flip (s : BS) (i : Int) : BS := s.differ (single i)
/-- is the number in it? -/
def hasI (s : BS) (i : Int) : Bool := decide (0 ≤ i) && s.has i.toNat
theorem ext_has {a b : BS} (h : ∀ i, i < 128 → a.has i = b.has i) : a = b := by
  obtain ⟨al, ah⟩ := a
  obtain ⟨bl, bh⟩ := b
  have h1 : al = bl := BitVec.eq_of_getLsbD_eq (fun i hi => by have := h i (by omega); simpa [has, hi] using this)
  have h2 : ah = bh := BitVec.eq_of_getLsbD_eq (fun i hi => by have := h (i + 64) (by omega); simpa [has, show ¬ (i + 64 < 64) by omega] using this)
  rw [h1, h2]
theorem has_ge {s : BS} {i : Nat} (h : 128 ≤ i) : s.has i = false := by
  unfold has
  rw [if_neg (by omega)]
  exact BitVec.getLsbD_of_ge _ _ (by omega)
@[simp] theorem has_empty (i : Nat) : empty.has i = false := by simp [has, empty]
@[simp] theorem has_union (a b : BS) (i : Nat) : (a.union b).has i = (a.has i || b.has i) := by
  unfold has union; split <;> simp
@[simp] theorem has_meet (a b : BS) (i : Nat) : (a.meet b).has i = (a.has i && b.has i) := by
  unfold has meet; split <;> simp
@[simp] theorem has_differ (a b : BS) (i : Nat) : (a.differ b).has i = (a.has i ^^ b.has i) := by
  unfold has differ; split <;> simp
@[simp] theorem has_minus (a b : BS) (i : Nat) : (a.minus b).has i = (a.has i && !b.has i) := by
  unfold has minus
  split
  · rename_i h; simp [h]
  · by_cases h2 : i - 64 < 64
    · simp [h2]
    · simp [BitVec.getLsbD_of_ge _ _ (show 64 ≤ i - 64 by omega)]
theorem has_single (i : Int) (j : Nat) : (single i).has j = (decide ((j : Int) = i) && decide (j < 128)) := by
  unfold single
  by_cases h : 0 ≤ i ∧ i < 128
  · rw [if_pos h]
    obtain ⟨n, rfl⟩ : ∃ n : Nat, i = n := ⟨i.toNat, by omega⟩
    by_cases h2 : (n : Int) < 64
    · rw [if_pos h2]
      unfold has
      by_cases h3 : j < 64
      · simp only [h3, if_true, BitVec.getLsbD_shiftLeft, BitVec.getLsbD_one]
        rw [Bool.eq_iff_iff]; simp; omega
      · simp only [h3, if_false, BitVec.getLsbD_zero]
        rw [Bool.eq_iff_iff]; simp; omega
    · rw [if_neg h2]
      unfold has
      by_cases h3 : j < 64
      · simp only [h3, if_true, BitVec.getLsbD_zero]
        rw [Bool.eq_iff_iff]; simp; omega
      · simp only [h3, if_false, BitVec.getLsbD_shiftLeft, BitVec.getLsbD_one]
        rw [Bool.eq_iff_iff]; simp; omega
  · rw [if_neg h]
    rw [Bool.eq_iff_iff]; simp; omega
theorem has_ins (s : BS) (i : Int) (j : Nat) : (s.ins i).has j = (s.has j || (decide ((j : Int) = i) && decide (j < 128))) := by
  rw [ins, has_union, has_single]
theorem has_del (s : BS) (i : Int) (j : Nat) : (s.del i).has j = (s.has j && !decide ((j : Int) = i)) := by
  rw [del, has_minus, has_single]
  by_cases h : j < 128
  · simp [h]
  · simp [has_ge (show 128 ≤ j by omega)]
theorem has_flip (s : BS) (i : Int) (j : Nat) : (s.flip i).has j = (s.has j ^^ (decide ((j : Int) = i) && decide (j < 128))) := by
  rw [flip, has_differ, has_single]
theorem hasI_nat (s : BS) (i : Nat) : s.hasI i = s.has i := by simp [hasI]
/-- the numbers below n -/
def below (n : Int) : BS :=
  if n ≤ 0 then empty else if 128 ≤ n then ⟨BitVec.allOnes 64, BitVec.allOnes 64⟩ else if 64 ≤ n then ⟨BitVec.allOnes 64, 1#64 <<< (n - 64).toNat - 1#64⟩ else ⟨1#64 <<< n.toNat - 1#64, 0#64⟩
theorem mask_bit (k j : Nat) (hk : k < 64) : (1#64 <<< k - 1#64).getLsbD j = decide (j < k) := by
  have h : (1#64 <<< k - 1#64).toNat = 2 ^ k - 1 := by
    have hp : 2 ^ k < 2 ^ 64 := Nat.pow_lt_pow_right (by omega) hk
    have h1 : 1 ≤ 2 ^ k := Nat.one_le_two_pow
    rw [BitVec.toNat_sub, BitVec.toNat_shiftLeft]
    simp only [BitVec.toNat_ofNat, Nat.shiftLeft_eq]
    rw [show (1 % 2 ^ 64) = 1 by decide, Nat.one_mul, Nat.mod_eq_of_lt hp]
    rw [show (2 ^ 64 - 1 + 2 ^ k) = (2 ^ k - 1) + 2 ^ 64 by omega, Nat.add_mod_right, Nat.mod_eq_of_lt (by omega)]
  rw [BitVec.getLsbD, h, Nat.testBit_two_pow_sub_one]
theorem has_below (n : Int) (j : Nat) : (below n).has j = (decide ((j : Int) < n) && decide (j < 128)) := by
  unfold below
  by_cases h0 : n ≤ 0
  · rw [if_pos h0]; rw [Bool.eq_iff_iff]; simp; omega
  rw [if_neg h0]
  by_cases h1 : 128 ≤ n
  · rw [if_pos h1]
    unfold has
    by_cases h3 : j < 64
    · simp only [h3, if_true, BitVec.getLsbD_allOnes]; rw [Bool.eq_iff_iff]; simp; omega
    · simp only [h3, if_false, BitVec.getLsbD_allOnes]; rw [Bool.eq_iff_iff]; simp; omega
  rw [if_neg h1]
  by_cases h2 : 64 ≤ n
  · rw [if_pos h2]
    unfold has
    by_cases h3 : j < 64
    · simp only [h3, if_true, BitVec.getLsbD_allOnes]; rw [Bool.eq_iff_iff]; simp; omega
    · simp only [h3, if_false]
      rw [mask_bit _ _ (by omega), Bool.eq_iff_iff]; simp; omega
  · rw [if_neg h2]
    unfold has
    by_cases h3 : j < 64
    · simp only [h3, if_true]
      rw [mask_bit _ _ (by omega), Bool.eq_iff_iff]; simp; omega
    · simp only [h3, if_false, BitVec.getLsbD_zero]
      rw [Bool.eq_iff_iff]; simp; omega
/-- the members, rising -/
def list (s : BS) : List Nat := (List.range 128).filter s.has
theorem mem_list (s : BS) (i : Nat) : i ∈ s.list ↔ s.has i = true := by
  unfold list
  rw [List.mem_filter, List.mem_range]
  exact ⟨fun h => h.2, fun h => ⟨Nat.lt_of_not_le fun g => (by rw [has_ge g] at h; cases h), h⟩⟩
/-- out of a list -/
def ofList (l : List Int) : BS := l.foldl ins empty
theorem has_foldl (l : List Int) : ∀ (s : BS) (j : Nat), (l.foldl ins s).has j = (s.has j || (decide ((j : Int) ∈ l) && decide (j < 128))) := by
  induction l with
  | nil => intro s j; simp
  | cons x l ih =>
    intro s j
    rw [List.foldl_cons, ih, has_ins, Bool.eq_iff_iff]
    simp
    constructor
    · rintro ((h | h) | h)
      · exact Or.inl h
      · exact Or.inr ⟨Or.inl h.1, h.2⟩
      · exact Or.inr ⟨Or.inr h.1, h.2⟩
    · rintro (h | ⟨h | h, h2⟩)
      · exact Or.inl (Or.inl h)
      · exact Or.inl (Or.inr ⟨h, h2⟩)
      · exact Or.inr ⟨h, h2⟩
theorem has_ofList (l : List Int) (j : Nat) : (ofList l).has j = (decide ((j : Int) ∈ l) && decide (j < 128)) := by
  rw [ofList, has_foldl]; simp
end BS
theorem ofInt_word (x : BitVec 64) : BitVec.ofInt 64 (x.toNat : Int) = x := by
  apply BitVec.eq_of_toNat_eq
  have := x.isLt
  rw [BitVec.toNat_ofInt]
  omega
@[go_sem] theorem word_or (x y : BitVec 64) : bits .or .u64 (x.toNat : Int) (y.toNat : Int) = ((x ||| y).toNat : Int) := by
  rw [u64_or_nat _ _ x.isLt y.isLt, BitVec.toNat_or]
@[go_sem] theorem word_and (x y : BitVec 64) : bits .and .u64 (x.toNat : Int) (y.toNat : Int) = ((x &&& y).toNat : Int) := by
  rw [u64_and_nat _ _ x.isLt y.isLt, BitVec.toNat_and]
@[go_sem] theorem word_xor (x y : BitVec 64) : bits .xor .u64 (x.toNat : Int) (y.toNat : Int) = ((x ^^^ y).toNat : Int) := by
  rw [u64_xor_nat _ _ x.isLt y.isLt, BitVec.toNat_xor]
@[go_sem] theorem word_andNot (x y : BitVec 64) : bits .andNot .u64 (x.toNat : Int) (y.toNat : Int) = ((x &&& ~~~ y).toNat : Int) := by
  rw [u64_andNot_nat _ _ x.isLt y.isLt, BitVec.toNat_and, BitVec.toNat_not]
theorem wrap_u64_ok (n : Int) (h0 : 0 ≤ n) (h1 : n < 18446744073709551616) : IntKind.u64.wrap n = n := by
  rw [show IntKind.u64.wrap n = n % 18446744073709551616 by simp [IntKind.wrap, IntKind.bits, IntKind.signed]]; omega
theorem and63 (i : Nat) (h : i < 128) : bits .and .i64 (i : Int) 63 = ((i % 64 : Nat) : Int) := by
  have h := bits_mask .i64 63 (by decide) (fun n h0 h1 => by rw [IntKind.wrap_i64]; omega) 6 (by decide) (i : Int) (by omega) (by omega)
  simpa using h
theorem pow_word (k : Nat) (h : k < 64) : IntKind.u64.wrap (2 ^ k) = ((1#64 <<< k).toNat : Int) := by
  have hp : 2 ^ k < 2 ^ 64 := Nat.pow_lt_pow_right (by omega) h
  have hq : ((2 : Int) ^ k) = ((2 ^ k : Nat) : Int) := by rw [Int.natCast_pow]; rfl
  rw [hq, wrap_u64_ok _ (Int.natCast_nonneg _) (by omega), BitVec.toNat_shiftLeft, Nat.shiftLeft_eq, BitVec.toNat_ofNat, show (1 % 2 ^ 64) = 1 by decide, Nat.one_mul, Nat.mod_eq_of_lt hp]
/-- what 1 << uint(i & 63) comes to -/
theorem shl_word (i : Nat) (h : i < 128) : IntKind.u64.wrap (2 ^ min (IntKind.u64.wrap (bits .and .i64 (i : Int) 63)).toNat 64) = ((1#64 <<< (i % 64)).toNat : Int) := by
  rw [and63 i h, wrap_u64_ok ((i % 64 : Nat) : Int) (by omega) (by omega), Int.toNat_natCast, Nat.min_eq_left (by omega), pow_word _ (by omega)]
theorem single_lo (n : Nat) (h : n < 64) : BS.single n = ⟨1#64 <<< n, 0#64⟩ := by
  unfold BS.single; rw [if_pos (by omega), if_pos (by omega)]; rfl
theorem single_hi (n : Nat) (h1 : 64 ≤ n) (h : n < 128) : BS.single n = ⟨0#64, 1#64 <<< (n - 64)⟩ := by
  unfold BS.single; rw [if_pos (by omega), if_neg (by omega), show ((n : Int) - 64).toNat = n - 64 by omega]
theorem single_none (i : Int) (h : ¬ (0 ≤ i ∧ i < 128)) : BS.single i = BS.empty := by
  unfold BS.single; rw [if_neg h]
theorem single_lo_word (n : Nat) (h : n < 64) : IntKind.u64.wrap (2 ^ min (IntKind.u64.wrap (bits .and .i64 (n : Int) 63)).toNat 64) = ((BS.single n).lo.toNat : Int) ∧ (BS.single n).hi.toNat = 0 := by
  rw [shl_word n (by omega), single_lo n h, Nat.mod_eq_of_lt h]; exact ⟨rfl, rfl⟩
theorem single_hi_word (n : Nat) (h1 : 64 ≤ n) (h : n < 128) : IntKind.u64.wrap (2 ^ min (IntKind.u64.wrap (bits .and .i64 (n : Int) 63)).toNat 64) = ((BS.single n).hi.toNat : Int) ∧ (BS.single n).lo.toNat = 0 := by
  rw [shl_word n h, single_hi n h1 h, show n % 64 = n - 64 by omega]; exact ⟨rfl, rfl⟩
theorem bit_word (x : BitVec 64) (n : Nat) (h : n < 128) : (bits .and .u64 ((x.toNat : Int) / 2 ^ min (IntKind.u64.wrap (bits .and .i64 (n : Int) 63)).toNat 64) 1 == 1) = x.getLsbD (n % 64) := by
  rw [and63 n h, wrap_u64_ok ((n % 64 : Nat) : Int) (by omega) (by omega), Int.toNat_natCast, Nat.min_eq_left (by omega)]
  have hq : ((2 : Int) ^ (n % 64)) = ((2 ^ (n % 64) : Nat) : Int) := by rw [Int.natCast_pow]; rfl
  have hx := x.isLt
  have hle : x.toNat / 2 ^ (n % 64) ≤ x.toNat := Nat.div_le_self _ _
  have h2 := u64_and_nat (x.toNat / 2 ^ (n % 64)) 1 (by omega) (by omega)
  rw [hq, ← Int.natCast_ediv, show (1 : Int) = ((1 : Nat) : Int) from rfl, h2, nat_mask1, BitVec.getLsbD, Nat.testBit_eq_decide_div_mod_eq]
  generalize x.toNat / 2 ^ (n % 64) = q
  rcases Nat.mod_two_eq_zero_or_one q with h | h <;> rw [h] <;> rfl
/-- a set as a value -/
abbrev setV (s : BS) : Value := .agg #[.int .u64 (s.lo.toNat : Int), .int .u64 (s.hi.toNat : Int)]
end Go.Proofs.Ytknplnfoekeljaa
