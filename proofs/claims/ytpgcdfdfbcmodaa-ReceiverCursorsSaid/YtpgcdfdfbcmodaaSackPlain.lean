/- Plain laws on maps of bits: no program in sight. -/
import Derived.Test.YtpgcdfdfbcmodaaOnes
namespace Go.Proofs.Ytpgcdfdfbcmodaa
set_option linter.unusedVariables false
set_option linter.unusedSimpArgs false
/-- The number whose bits are a list. -/
def valB : List Bool → Nat
  | [] => 0
  | b :: l => b.toNat + 2 * valB l
theorem toNat_lt2 (b : Bool) : b.toNat < 2 := by cases b <;> decide
theorem testBit_valB : ∀ (l : List Bool) (i : Nat), (valB l).testBit i = l.getD i false
  | [], i => by simp [valB]
  | b :: l, 0 => by
    simp only [valB, Nat.testBit_zero, List.getD_cons_zero]
    cases b <;> simp
  | b :: l, i + 1 => by
    have := toNat_lt2 b
    rw [Nat.testBit_succ, List.getD_cons_succ, ← testBit_valB l i, valB, show (b.toNat + 2 * valB l) / 2 = valB l by omega]
theorem valB_lt : ∀ l : List Bool, valB l < 2 ^ l.length
  | [] => by simp [valB]
  | b :: l => by
    have := valB_lt l
    have := toNat_lt2 b
    rw [List.length_cons, Nat.pow_succ, valB]; omega
theorem bit_div (x i : Nat) : x / 2 ^ i % 2 = (x.testBit i).toNat := by
  rw [Nat.testBit_eq_decide_div_mod_eq]
  have := Nat.mod_two_eq_zero_or_one (x / 2 ^ i)
  rcases this with h | h <;> simp [h]
/-- A map's words. -/
def wd (B : List Bool) (j : Nat) : Nat := valB ((B.drop (64 * j)).take 64)
theorem wd_lt (B : List Bool) (j : Nat) : wd B j < 18446744073709551616 := by
  have h1 := valB_lt ((B.drop (64 * j)).take 64)
  have h2 : ((B.drop (64 * j)).take 64).length ≤ 64 := by rw [List.length_take]; omega
  have h3 := Nat.pow_le_pow_right (n := 2) (by omega) h2
  unfold wd
  omega
theorem getD_take_drop (B : List Bool) (a n k : Nat) : ((B.drop a).take n).getD k false = (decide (k < n) && B.getD (a + k) false) := by
  simp only [List.getD_eq_getElem?_getD, List.getElem?_take, List.getElem?_drop]
  by_cases h : k < n <;> simp [h]
theorem wd_bit (B : List Bool) (j k : Nat) : (wd B j).testBit k = (decide (k < 64) && B.getD (64 * j + k) false) := by
  unfold wd; rw [testBit_valB, getD_take_drop]
theorem getD_set (B : List Bool) (i k : Nat) (b : Bool) (h : i < B.length) : (B.set i b).getD k false = if k = i then b else B.getD k false := by
  simp only [List.getD_eq_getElem?_getD, List.getElem?_set]
  by_cases e : i = k
  · subst e; simp [h]
  · rw [if_neg e, if_neg (fun h => e h.symm)]
theorem wd_set (B : List Bool) (i j : Nat) (h : i < B.length) : wd (B.set i true) j = if j = i / 64 then wd B j ||| 2 ^ (i % 64) else wd B j := by
  apply Nat.eq_of_testBit_eq
  intro k
  rw [wd_bit, getD_set _ _ _ _ h]
  by_cases hj : j = i / 64
  · rw [if_pos hj, Nat.testBit_or, wd_bit, Nat.testBit_two_pow]
    by_cases hk : k < 64
    · by_cases e : 64 * j + k = i
      · have : i % 64 = k := by omega
        simp [e, this, hk]
      · have : ¬ i % 64 = k := by omega
        simp [e, this, hk]
    · have : ¬ i % 64 = k := by omega
      simp [hk, this]
  · rw [if_neg hj, wd_bit]
    by_cases hk : k < 64
    · have : ¬ 64 * j + k = i := by omega
      simp [this]
    · simp [hk]
/-- What a map's word tells of one. -/
theorem wd_has (B : List Bool) (i : Nat) : wd B (i / 64) / 2 ^ (i % 64) % 2 = (B.getD i false).toNat := by
  rw [bit_div, wd_bit, show 64 * (i / 64) + i % 64 = i by omega]
  have : i % 64 < 64 := by omega
  simp [this]
theorem pop_valB : ∀ (n : Nat) (l : List Bool), l.length ≤ n → pop n (valB l) = l.count true
  | n, [], _ => by
    have : ∀ n, pop n 0 = 0 := by intro n; induction n with
      | zero => rfl
      | succ n ih => simp [pop, ih]
    simp [valB, this]
  | 0, _ :: _, h => by simp at h
  | n + 1, b :: l, h => by
    have ih := pop_valB n l (by simpa using h)
    have := toNat_lt2 b
    rw [pop, valB, show (b.toNat + 2 * valB l) / 2 = valB l by omega, ih, show (b.toNat + 2 * valB l) % 2 = b.toNat by omega]
    cases b <;> simp [List.count_cons] <;> omega
theorem count_words (B : List Bool) (h : B.length ≤ 256) : pop 64 (wd B 0) + pop 64 (wd B 1) + pop 64 (wd B 2) + pop 64 (wd B 3) = B.count true := by
  have hp : ∀ j, pop 64 (wd B j) = ((B.drop (64 * j)).take 64).count true := fun j => pop_valB 64 _ (by rw [List.length_take]; omega)
  have hs : ∀ (l : List Bool) n, l.count true = (l.take n).count true + (l.drop n).count true := fun l n => by
    rw [← List.count_append, List.take_append_drop]
  rw [hp, hp, hp, hp, hs B 64, hs (B.drop 64) 64, hs ((B.drop 64).drop 64) 64]
  simp only [List.drop_drop, Nat.mul_zero, List.drop_zero, Nat.mul_one]
  rw [show 64 + 64 = 64 * 2 from rfl, show 64 * 2 + 64 = 64 * 3 from rfl, List.take_of_length_le (l := B.drop (64 * 3)) (by rw [List.length_drop]; omega)]
  omega
/-- The first that isn't there. -/
def baseB : List Bool → Nat
  | true :: l => 1 + baseB l
  | _ => 0
theorem baseB_le : ∀ B : List Bool, baseB B ≤ B.length
  | [] => Nat.le_refl _
  | true :: l => by have := baseB_le l; simp only [baseB, List.length_cons]; omega
  | false :: l => by simp [baseB]
theorem baseB_below : ∀ (B : List Bool) (i : Nat), i < baseB B → B.getD i false = true
  | [], i, h => by simp [baseB] at h
  | false :: l, i, h => by simp [baseB] at h
  | true :: l, 0, h => by simp
  | true :: l, i + 1, h => by
    rw [List.getD_cons_succ]
    exact baseB_below l i (by simp only [baseB] at h; omega)
theorem baseB_at : ∀ B : List Bool, B.getD (baseB B) false = false
  | [] => by simp
  | false :: l => by simp [baseB]
  | true :: l => by
    rw [baseB, Nat.add_comm, List.getD_cons_succ]
    exact baseB_at l
theorem baseB_unique (B : List Bool) (i : Nat) (h : ∀ k, k < i → B.getD k false = true) (hi : B.getD i false = false) : baseB B = i := by
  rcases Nat.lt_trichotomy (baseB B) i with h1 | h1 | h1
  · have := h _ h1; rw [baseB_at] at this; cases this
  · exact h1
  · have := baseB_below B i h1; rw [hi] at this; cases this
theorem getD_lt {B : List Bool} {i : Nat} (h : B.getD i false = true) : i < B.length := by
  rcases Nat.lt_or_ge i B.length with h1 | h1
  · exact h1
  · rw [List.getD_eq_getElem?_getD, List.getElem?_eq_none h1] at h; cases h
theorem getD_ge {B : List Bool} {i : Nat} (h : B.length ≤ i) : B.getD i false = false := by
  rw [List.getD_eq_getElem?_getD, List.getElem?_eq_none h]; rfl
/-- Whether one is there. -/
def hasB (B : List Bool) (i : Int) : Bool := decide (0 ≤ i) && B.getD i.toNat false
theorem hasB_nat (B : List Bool) (i : Nat) : hasB B (i : Int) = B.getD i false := by simp [hasB]
theorem hasB_neg (B : List Bool) (i : Int) (h : i < 0) : hasB B i = false := by
  unfold hasB; rw [decide_eq_false (by omega)]; rfl
/-- Bits as bytes, of which those up to i are set. -/
def byteV (f : Nat → Bool) (i j : Nat) : Nat := valB ((List.range 8).map fun r => decide (8 * j + r < i) && f (8 * j + r))
theorem byteV_bit (f : Nat → Bool) (i j r : Nat) : (byteV f i j).testBit r = (decide (r < 8) && (decide (8 * j + r < i) && f (8 * j + r))) := by
  unfold byteV
  rw [testBit_valB, List.getD_eq_getElem?_getD, List.getElem?_map]
  by_cases h : r < 8
  · rw [List.getElem?_range h]; simp [h]
  · rw [List.getElem?_eq_none (by rw [List.length_range]; omega)]; simp [h]
theorem byteV_lt (f : Nat → Bool) (i j : Nat) : byteV f i j < 256 := by
  have := valB_lt ((List.range 8).map fun r => decide (8 * j + r < i) && f (8 * j + r))
  simpa [byteV] using this
theorem byteV_zero (f : Nat → Bool) (j : Nat) : byteV f 0 j = 0 := by
  apply Nat.eq_of_testBit_eq; intro r; rw [byteV_bit]; simp
theorem byteV_step (f : Nat → Bool) (i j : Nat) : byteV f (i + 1) j = if j = i / 8 ∧ f i = true then byteV f i j ||| 2 ^ (i % 8) else byteV f i j := by
  apply Nat.eq_of_testBit_eq
  intro r
  rw [byteV_bit]
  by_cases hc : j = i / 8 ∧ f i = true
  · rw [if_pos hc, Nat.testBit_or, byteV_bit, Nat.testBit_two_pow]
    by_cases hr : r < 8
    · by_cases e : 8 * j + r = i
      · have h1 : i % 8 = r := by omega
        simp [hr, h1, e, hc.2]
      · have h1 : ¬ i % 8 = r := by omega
        have h2 : (8 * j + r < i + 1) ↔ (8 * j + r < i) := by omega
        simp [hr, h1, h2]
    · have h1 : ¬ i % 8 = r := by omega
      simp [hr, h1]
  · rw [if_neg hc, byteV_bit]
    by_cases hr : r < 8
    · by_cases e : 8 * j + r = i
      · have hj : j = i / 8 := by omega
        have : f i = false := by
          cases hf : f i with
          | false => rfl
          | true => exact absurd ⟨hj, hf⟩ hc
        simp [e, this]
      · have h2 : (8 * j + r < i + 1) ↔ (8 * j + r < i) := by omega
        simp [h2]
    · simp [hr]
theorem byteV_fresh (f : Nat → Bool) (i : Nat) : byteV f i (i / 8) ||| 2 ^ (i % 8) = byteV f i (i / 8) + 2 ^ (i % 8) := by
  have h : (byteV f i (i / 8)) < 2 ^ (i % 8) := by
    apply Nat.lt_pow_two_of_testBit
    intro r hr
    rw [byteV_bit]
    by_cases h8 : r < 8
    · have : ¬ 8 * (i / 8) + r < i := by omega
      simp [this]
    · simp [h8]
  rw [Nat.or_comm]
  have := Nat.two_pow_add_eq_or_of_lt h 1
  rw [Nat.mul_one] at this
  omega
def bytesV (f : Nat → Bool) (i n : Nat) : List Nat := (List.range n).map (byteV f i)
theorem bytesV_length (f : Nat → Bool) (i n : Nat) : (bytesV f i n).length = n := by simp [bytesV]
theorem bytesV_zero (f : Nat → Bool) (n : Nat) : bytesV f 0 n = List.replicate n 0 := by
  unfold bytesV
  apply List.ext_getElem
  · simp
  · intro k h1 h2; simp [byteV_zero]
theorem bytesV_get (f : Nat → Bool) (i n j : Nat) (h : j < n) : (bytesV f i n)[j]? = some (byteV f i j) := by
  unfold bytesV; rw [List.getElem?_map, List.getElem?_range h]; rfl
theorem bytesV_skip (f : Nat → Bool) (i n : Nat) (h : f i = false) : bytesV f (i + 1) n = bytesV f i n := by
  unfold bytesV
  apply List.map_congr_left
  intro j _
  rw [byteV_step, if_neg (fun e => by rw [h] at e; cases e.2)]
theorem bytesV_set (f : Nat → Bool) (i n : Nat) (h : f i = true) (hn : i / 8 < n) : bytesV f (i + 1) n = (bytesV f i n).set (i / 8) (byteV f i (i / 8) ||| 2 ^ (i % 8)) := by
  apply List.ext_getElem?
  intro j
  rw [List.getElem?_set]
  by_cases hj : j < n
  · rw [bytesV_get _ _ _ _ hj, byteV_step, bytesV_length]
    by_cases e : i / 8 = j
    · subst e; simp [h, hj]
    · rw [if_neg e, bytesV_get _ _ _ _ hj, if_neg (fun q => e q.1.symm)]
  · have hn' : ∀ i, (bytesV f i n)[j]? = none := fun i => List.getElem?_eq_none (by rw [bytesV_length]; omega)
    have : i / 8 ≠ j := by omega
    rw [hn', hn', if_neg this]
/-- What a map tells of those behind its base. -/
def behindF (B : List Bool) (k : Nat) : Bool := B.getD (baseB B + 1 + k) false
def upTo (k : Int) : Nat := (min (max k 0) 256).toNat
def tellB (B : List Bool) (k : Int) : ByteArray := ⟨((bytesV (behindF B) (upTo k) ((upTo k + 7) / 8)).map UInt8.ofNat).toArray⟩
/-- A bit of some bytes. -/
def bitS (s : ByteArray) (k : Nat) : Bool := (s.data.toList.getD (k / 8) 0).toNat.testBit (k % 8)
theorem bitS_out (s : ByteArray) (k : Nat) (h : s.size ≤ k / 8) : bitS s k = false := by
  unfold bitS
  rw [List.getD_eq_getElem?_getD, List.getElem?_eq_none (by exact h)]
  simp
theorem bitS_tell (B : List Bool) (k : Int) (i : Nat) : bitS (tellB B k) i = (decide (i < upTo k) && behindF B i) := by
  unfold bitS tellB
  simp only
  rw [List.getD_eq_getElem?_getD, List.getElem?_map]
  by_cases h : i / 8 < (upTo k + 7) / 8
  · rw [bytesV_get _ _ _ _ h]
    simp only [Option.map_some, Option.getD_some, UInt8.toNat_ofNat']
    rw [Nat.mod_eq_of_lt (byteV_lt _ _ _), byteV_bit, show 8 * (i / 8) + i % 8 = i by omega]
    have : i % 8 < 8 := by omega
    simp [this]
  · rw [List.getElem?_eq_none (by rw [bytesV_length]; omega)]
    have : ¬ i < upTo k := by omega
    simp [this]
/-- Whether somebody tells one. -/
def toldB (base : Int) (s : ByteArray) (i : Nat) : Bool := decide ((i : Int) < base) || (decide (base < (i : Int)) && decide (0 ≤ (i : Int) - base - 1) && bitS s ((i : Int) - base - 1).toNat)
/-- With those up to j that are told. -/
def withB (B : List Bool) (t : Nat → Bool) (j : Nat) : List Bool := (List.range B.length).map fun i => B.getD i false || (decide (i < j) && t i)
def newB (B : List Bool) (t : Nat → Bool) : Nat → Nat
  | 0 => 0
  | j + 1 => newB B t j + (t j && !B.getD j false).toNat
theorem withB_length (B : List Bool) (t : Nat → Bool) (j : Nat) : (withB B t j).length = B.length := by simp [withB]
theorem withB_get (B : List Bool) (t : Nat → Bool) (j i : Nat) (h : i < B.length) : (withB B t j).getD i false = (B.getD i false || (decide (i < j) && t i)) := by
  unfold withB; rw [List.getD_eq_getElem?_getD, List.getElem?_map, List.getElem?_range h]; rfl
theorem list_ext_getD (A B : List Bool) (hl : A.length = B.length) (h : ∀ i, i < B.length → A.getD i false = B.getD i false) : A = B := by
  apply List.ext_getElem hl
  intro i h1 h2
  have := h i h2
  simpa [List.getD_eq_getElem?_getD, h1, h2] using this
theorem withB_zero (B : List Bool) (t : Nat → Bool) : withB B t 0 = B := by
  apply list_ext_getD _ _ (withB_length _ _ _)
  intro i h; rw [withB_get _ _ _ _ h]; simp
theorem withB_step (B : List Bool) (t : Nat → Bool) (j : Nat) (h : j < B.length) : withB B t (j + 1) = if (t j && !B.getD j false) = true then (withB B t j).set j true else withB B t j := by
  split
  · rename_i hc
    apply list_ext_getD
    · rw [withB_length, List.length_set, withB_length]
    · intro i hi
      rw [List.length_set, withB_length] at hi
      rw [withB_get _ _ _ _ hi, getD_set _ _ _ _ (by rw [withB_length]; exact h), withB_get _ _ _ _ hi]
      simp only [Bool.and_eq_true] at hc
      by_cases e : i = j
      · subst e; simp [hc.1]
      · have : (i < j + 1) ↔ (i < j) := by omega
        simp [e, this]
  · rename_i hc
    apply list_ext_getD
    · rw [withB_length, withB_length]
    · intro i hi
      rw [withB_length] at hi
      rw [withB_get _ _ _ _ hi, withB_get _ _ _ _ hi]
      by_cases e : i = j
      · subst e
        cases ht : t i <;> cases hb : B.getD i false <;> simp_all
      · have : (i < j + 1) ↔ (i < j) := by omega
        simp [this]
theorem withB_at (B : List Bool) (t : Nat → Bool) (j : Nat) : (withB B t j).getD j false = B.getD j false := by
  by_cases h : j < B.length
  · rw [withB_get _ _ _ _ h]; simp
  · rw [getD_ge (by rw [withB_length]; omega), getD_ge (by omega)]
/-- Those that aren't there, of some. -/
def missF (B : List Bool) (a b : Int) (i : Nat) : Bool := decide (a ≤ (i : Int)) && decide ((i : Int) < b) && !B.getD i false
def missB (B : List Bool) (a b : Int) (j : Nat) : List Nat := (List.range j).filter (missF B a b)
theorem missB_step (B : List Bool) (a b : Int) (j : Nat) : missB B a b (j + 1) = if missF B a b j = true then missB B a b j ++ [j] else missB B a b j := by
  unfold missB
  rw [List.range_succ, List.filter_append]
  split
  · rename_i h; rw [List.filter_cons_of_pos h]; rfl
  · rename_i h; rw [List.filter_cons_of_neg h]; simp
theorem missB_skip (B : List Bool) (a b : Int) : ∀ (n j : Nat), j ≤ n → (∀ i, j ≤ i → i < n → missF B a b i = false) → missB B a b n = missB B a b j
  | 0, j, h, _ => by obtain rfl : j = 0 := by omega
                     rfl
  | n + 1, j, h, hf => by
    by_cases e : j = n + 1
    · subst e; rfl
    · rw [missB_step, if_neg (by rw [hf n (by omega) (by omega)]; decide)]
      exact missB_skip B a b n j (by omega) (fun i h1 h2 => hf i h1 (by omega))
theorem count_set (B : List Bool) (i : Nat) (h : i < B.length) (hb : B.getD i false = false) : (B.set i true).count true = B.count true + 1 := by
  induction B generalizing i with
  | nil => simp at h
  | cons b B ih =>
    cases i with
    | zero =>
      have : b = false := by simpa using hb
      subst this; simp [List.count_cons]
    | succ i =>
      rw [List.set_cons_succ, List.count_cons, List.count_cons, ih i (by simpa using h) (by simpa using hb)]
      omega
end Go.Proofs.Ytpgcdfdfbcmodaa
