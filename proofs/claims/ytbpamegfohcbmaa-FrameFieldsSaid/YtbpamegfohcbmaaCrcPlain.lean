/- The plain laws behind the crc's statements: what opens, what a burst does, sums of texts exclusive-or'ed. -/
import Derived.Test.YtbpamegfohcbmaaCrcAwake
namespace Go.Proofs.Ytbpamegfohcbmaa
set_option linter.unusedVariables false

theorem take_data (u : ByteArray) (n : Nat) : (u.extract 0 n).data.toList = u.data.toList.take n := by simp [ByteArray.data_extract]
theorem bytes_ext {a b : ByteArray} (h : a.data.toList = b.data.toList) : a = b := ByteArray.ext (Array.toList_inj.1 h)
theorem sealB_take (s : ByteArray) : (sealB s).extract 0 ((sealB s).size - 4) = s := by
  apply bytes_ext
  rw [take_data, sealB_size, sealB_data, sealL, show s.size + 4 - 4 = s.data.toList.length from rfl, List.take_left]
theorem open_seal (s : ByteArray) : openB (sealB s) = (s, 0) := by
  unfold openB
  rw [if_neg (by rw [sealB_size]; omega), sealB_take, if_pos rfl]
/-- What opens is just what leads the register to the one number. -/
theorem open_iff (u : ByteArray) (h : 4 ≤ u.size) : sealB (u.extract 0 (u.size - 4)) = u ↔ reg 4294967295 u.data.toList = Tn 32 4294967295 := by
  have hl : u.data.toList.length = u.size := rfl
  have hq : (u.data.toList.drop (u.size - 4)).length = 4 := by rw [List.length_drop, hl]; omega
  have hs := sealed_iff (u.data.toList.take (u.size - 4)) _ hq
  rw [List.take_append_drop] at hs
  rw [← hs]
  constructor
  · intro e
    have e2 := congrArg (fun x : ByteArray => x.data.toList) e
    simp only [sealB_data, sealL, take_data] at e2
    have e3 : u.data.toList.take (u.size - 4) ++ le4 (sum (u.data.toList.take (u.size - 4))) = u.data.toList.take (u.size - 4) ++ u.data.toList.drop (u.size - 4) := by rw [e2, List.take_append_drop]
    exact (List.append_cancel_left e3).symm
  · intro e
    apply bytes_ext
    rw [sealB_data, sealL, take_data, ← e, List.take_append_drop]
theorem reg_seal (s : ByteArray) : reg 4294967295 (sealB s).data.toList = Tn 32 4294967295 := by
  rw [sealB_data, sealL, ← sealed_iff _ _ (le4_length _)]
theorem open_bad (u : ByteArray) (h : 4 ≤ u.size) (hr : reg 4294967295 u.data.toList ≠ Tn 32 4294967295) : openB u = (⟨#[]⟩, 5) := by
  unfold openB
  rw [if_neg (by omega), if_neg (fun e => hr ((open_iff u h).1 e))]
theorem open_burst (s u : ByteArray) (hl : u.size = s.size + 4) (B at_ : Nat) (hB : B < 4294967296) (h0 : B ≠ 0) (ha : at_ ≤ 8 * (s.size + 4)) (hd : V u.data.toList = V (sealB s).data.toList ^^^ B * 2 ^ at_) :
    openB u = (⟨#[]⟩, 5) := by
  refine open_bad u (by omega) ?_
  have e1 : (sealB s).data.toList.length = s.size + 4 := sealB_size s
  exact burst (sealB s).data.toList u.data.toList (by rw [e1]; exact hl) B at_ hB h0 (by rw [e1]; exact ha) hd (reg_seal s)
theorem mask_burst (at_ bs n : Nat) (hb : bs < 4294967296) (hodd : bs % 2 = 1) (ha : at_ < 8 * n) :
    ∃ B, B < 4294967296 ∧ B ≠ 0 ∧ maskTo (at_ : Int) bs n 32 = B * 2 ^ at_ := by
  refine ⟨bs % 2 ^ (8 * n - at_), Nat.lt_of_le_of_lt (Nat.mod_le _ _) hb, ?_, ?_⟩
  · intro e
    have h1 : 2 ∣ 2 ^ (8 * n - at_) := by
      obtain ⟨m, hm⟩ : ∃ m, 8 * n - at_ = m + 1 := ⟨8 * n - at_ - 1, by omega⟩
      rw [hm, Nat.pow_succ]; exact Nat.dvd_mul_left 2 _
    have h2 := Nat.dvd_trans h1 (Nat.dvd_of_mod_eq_zero e)
    omega
  · apply Nat.eq_of_testBit_eq; intro p
    rw [maskTo_bit, Nat.testBit_mul_two_pow, Nat.testBit_mod_two_pow]
    by_cases hp : at_ ≤ p
    · have e : ((p : Int) - (at_ : Int)).toNat = p - at_ := by omega
      rw [e]
      by_cases h32 : p - at_ < 32
      · by_cases hn : p < 8 * n
        · have c : (0 ≤ (p : Int) - at_ ∧ (p : Int) - at_ < ((32 : Nat) : Int) ∧ bs.testBit (p - at_) = true ∧ p < 8 * n) ↔ bs.testBit (p - at_) = true := by
            constructor
            · rintro ⟨_, _, h, _⟩; exact h
            · intro h; exact ⟨by omega, by omega, h, hn⟩
          have c2 : decide (0 ≤ (p : Int) - at_ ∧ (p : Int) - at_ < ((32 : Nat) : Int) ∧ bs.testBit (p - at_) = true ∧ p < 8 * n) = bs.testBit (p - at_) := by
            rw [Bool.eq_iff_iff, decide_eq_true_iff]; exact c
          rw [c2, decide_eq_true hp, decide_eq_true (show p - at_ < 8 * n - at_ by omega)]
          simp
        · rw [decide_eq_false (by omega), decide_eq_false (show ¬ p - at_ < 8 * n - at_ by omega)]
          simp
      · have hf : bs.testBit (p - at_) = false := Nat.testBit_lt_two_pow (Nat.lt_of_lt_of_le hb (by
          have : (2 : Nat) ^ 32 ≤ 2 ^ (p - at_) := Nat.pow_le_pow_right (by omega) (by omega)
          simpa using this))
        rw [hf, decide_eq_false (by omega)]
        simp
    · rw [decide_eq_false (by omega), decide_eq_false hp]
      simp
theorem flip_burst (s : ByteArray) (at_ bs : Nat) (hb : bs < 4294967296) (hodd : bs % 2 = 1) (ha : at_ < 8 * (s.size + 4)) :
    openB ⟨(flipL (sealB s).data.toList (at_ : Int) bs).toArray⟩ = (⟨#[]⟩, 5) ∧ (⟨(flipL (sealB s).data.toList (at_ : Int) bs).toArray⟩ : ByteArray) ≠ sealB s := by
  have e1 : (sealB s).data.toList.length = s.size + 4 := sealB_size s
  obtain ⟨B, hB, h0, hm⟩ := mask_burst at_ bs (s.size + 4) hb hodd ha
  have hV : V (flipL (sealB s).data.toList (at_ : Int) bs) = V (sealB s).data.toList ^^^ B * 2 ^ at_ := by rw [V_flipL, e1, hm]
  constructor
  · refine open_burst s _ ?_ B at_ hB h0 (by omega) hV
    show (flipL (sealB s).data.toList (at_ : Int) bs).toArray.size = _
    rw [List.size_toArray, flipL_length, e1]
  · intro e
    have e2 := congrArg (fun x : ByteArray => V x.data.toList) e
    simp only at e2
    rw [hV] at e2
    have e3 : B * 2 ^ at_ = 0 := by
      have := congrArg (V (sealB s).data.toList ^^^ ·) e2
      simpa [← Nat.xor_assoc] using this
    rcases Nat.mul_eq_zero.1 e3 with h | h
    · exact h0 h
    · have := Nat.two_pow_pos at_; omega

/-- Three texts, byte by byte. -/
def xor3 : List UInt8 → List UInt8 → List UInt8 → List UInt8
  | a :: l, b :: m, c :: n => (a ^^^ b ^^^ c) :: xor3 l m n
  | _, _, _ => []
theorem V_xor3 : ∀ (l m n : List UInt8), m.length = l.length → n.length = l.length → V (xor3 l m n) = V l ^^^ V m ^^^ V n
  | [], [], [], _, _ => by simp [xor3, V]
  | a :: l, b :: m, c :: n, h1, h2 => by
    rw [xor3, V_cons, V_cons, V_cons, V_cons, V_xor3 l m n (by simpa using h1) (by simpa using h2), xor_mul_pow, xor_mul_pow, UInt8.toNat_xor, UInt8.toNat_xor]
    ac_rfl
theorem xor3_length : ∀ (l m n : List UInt8), m.length = l.length → n.length = l.length → (xor3 l m n).length = l.length
  | [], [], [], _, _ => rfl
  | a :: l, b :: m, c :: n, h1, h2 => by simp [xor3, xor3_length l m n (by simpa using h1) (by simpa using h2)]
theorem xor3_get : ∀ (l m n : List UInt8) (h1 : m.length = l.length) (h2 : n.length = l.length) (k : Nat) (h : k < l.length), (xor3 l m n)[k]'(by rw [xor3_length l m n h1 h2]; exact h) = l[k] ^^^ m[k] ^^^ n[k]
  | a :: l, b :: m, c :: n, _, _, 0, _ => rfl
  | a :: l, b :: m, c :: n, h1, h2, k + 1, h => by
    simp only [xor3, List.getElem_cons_succ]
    exact xor3_get l m n (by simpa using h1) (by simpa using h2) k (by simpa using h)
theorem sum_xor3 (l m n : List UInt8) (h1 : m.length = l.length) (h2 : n.length = l.length) : sum l ^^^ sum m ^^^ sum n ^^^ sum (xor3 l m n) = 0 := by
  have key : ∀ A B C M N : Nat, (M ^^^ Tn N (M ^^^ A)) ^^^ (M ^^^ Tn N (M ^^^ B)) ^^^ (M ^^^ Tn N (M ^^^ C)) ^^^ (M ^^^ Tn N (M ^^^ (A ^^^ B ^^^ C))) = 0 := by
    intro A B C M N
    simp only [Tn_xor]
    generalize Tn N A = a; generalize Tn N B = b; generalize Tn N C = c; generalize Tn N M = m
    apply Nat.eq_of_testBit_eq; intro i
    simp only [Nat.testBit_xor, Nat.zero_testBit]
    cases M.testBit i <;> cases m.testBit i <;> cases a.testBit i <;> cases b.testBit i <;> cases c.testBit i <;> rfl
  simp only [sum, reg_V, xor3_length l m n h1 h2, V_xor3 l m n h1 h2, h1, h2]
  exact key _ _ _ _ _

theorem tab_xor (a b : Nat) : tab (a ^^^ b) = tab a ^^^ tab b := Tn_xor 8 a b
theorem tab_zero : tab 0 = 0 := Tn_zero 8
theorem tab_lt (a : Nat) (h : a < 256) : tab a < 4294967296 := Tn_lt 8 a (by omega)
theorem tab_inj (a b : Nat) (ha : a < 256) (hb : b < 256) : tab a = tab b ↔ a = b := ⟨fun h => Tn_inj 8 a b (by omega) (by omega) h, fun h => by rw [h]⟩

/-- A text with four bytes behind it opens just where they are its sum. -/
def endB (s : ByteArray) (x : Nat) : ByteArray := ⟨(s.data.toList ++ le4 x).toArray⟩
theorem endB_size (s : ByteArray) (x : Nat) : (endB s x).size = s.size + 4 := by
  show (s.data.toList ++ le4 x).toArray.size = _
  rw [List.size_toArray, List.length_append, le4_length]; rfl
theorem open_end (s : ByteArray) (x : Nat) (hx : x < 4294967296) : openB (endB s x) = if x = sum s.data.toList then (s, 0) else (⟨#[]⟩, 5) := by
  have ht : (endB s x).extract 0 ((endB s x).size - 4) = s := by
    apply bytes_ext
    rw [take_data, endB_size]
    show (s.data.toList ++ le4 x).take _ = _
    rw [show s.size + 4 - 4 = s.data.toList.length from rfl, List.take_left]
  unfold openB
  rw [if_neg (by rw [endB_size]; omega), ht]
  by_cases h : x = sum s.data.toList
  · rw [if_pos h, if_pos (by rw [h]; rfl)]
  · rw [if_neg h, if_neg]
    intro e
    apply h
    have e2 := congrArg (fun b : ByteArray => b.data.toList) e
    have e3 : s.data.toList ++ le4 (sum s.data.toList) = s.data.toList ++ le4 x := e2
    have e4 := congrArg V (List.append_cancel_left e3)
    rw [V_le4 _ (sum_lt _), V_le4 _ hx] at e4
    exact e4.symm
theorem open_ok_seal (s : ByteArray) (h : (openB s).2 = 0) : sealB (openB s).1 = s := by
  unfold openB at *
  by_cases h4 : s.size < 4
  · rw [if_pos h4] at h; cases h
  · rw [if_neg h4] at h ⊢
    by_cases hc : sealB (s.extract 0 (s.size - 4)) = s
    · rw [if_pos hc]; exact hc
    · rw [if_neg hc] at h; cases h
end Go.Proofs.Ytbpamegfohcbmaa
