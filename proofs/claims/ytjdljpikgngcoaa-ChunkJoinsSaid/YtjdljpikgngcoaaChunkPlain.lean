/- The plain law of chunks: sizes, counts, and the chunks of a text. No program in sight. -/
namespace Go.Proofs.Ytjdljpikgngcoaa
set_option linter.unusedVariables false

/-- A chunk's size; 0: none. -/
def szI (m : Int) : Int := if m < 64 ∨ 65535 < m then 0 else if 1019 < m then 1000 else m - 19
def szE (m : Int) : Int := if m < 64 ∨ 65535 < m then 1 else 0
theorem szI_le (m : Int) : 0 ≤ szI m ∧ szI m ≤ 1000 := by unfold szI; split <;> (try split) <;> omega
theorem szI_pos (m : Int) (h : ¬ (m < 64 ∨ 65535 < m)) : 45 ≤ szI m := by unfold szI; rw [if_neg h]; split <;> omega
theorem szI_zero (m : Int) (h : m < 64 ∨ 65535 < m) : szI m = 0 := by unfold szI; rw [if_pos h]
theorem szE_zero (m : Int) (h : ¬ (m < 64 ∨ 65535 < m)) : szE m = 0 := by unfold szE; rw [if_neg h]
theorem szE_one (m : Int) (h : m < 64 ∨ 65535 < m) : szE m = 1 := by unfold szE; rw [if_pos h]
theorem szI_mono (m : Int) (h : ¬ (m < 64 ∨ 65535 < m)) (h2 : m < 65535) : szI m ≤ szI (m + 1) := by
  unfold szI
  rw [if_neg h, if_neg (show ¬ (m + 1 < 64 ∨ 65535 < m + 1) by omega)]
  by_cases c : 1019 < m
  · rw [if_pos c, if_pos (by omega)]; omega
  · rw [if_neg c]; by_cases d : 1019 < m + 1
    · rw [if_pos d]; omega
    · rw [if_neg d]; omega

/-- How many chunks; -1: none. -/
def cntI (n m : Int) : Int := if szI m = 0 ∨ n < 0 ∨ 256 * szI m < n then -1 else if n = 0 then 1 else (n - 1) / szI m + 1
theorem cnt_div (n k : Int) (hk : 0 < k) (hn : 0 < n) : (n + k - 1) / k = (n - 1) / k + 1 := by
  rw [show n + k - 1 = (n - 1) + 1 * k by omega, Int.add_mul_ediv_right _ _ (by omega)]

/-- The first chunks of a text, k bytes each. -/
def chs (s : ByteArray) (k : Nat) (n : Nat) : List ByteArray := (List.range n).map fun i => s.extract (i * k) (min s.size (i * k + k))
theorem chs_length (s : ByteArray) (k n : Nat) : (chs s k n).length = n := by simp [chs]
theorem chs_succ (s : ByteArray) (k n : Nat) : chs s k (n + 1) = chs s k n ++ [s.extract (n * k) (min s.size (n * k + k))] := by
  simp [chs, List.range_succ]
theorem chs_get (s : ByteArray) (k n i : Nat) (h : i < n) : (chs s k n)[i]? = some (s.extract (i * k) (min s.size (i * k + k))) := by
  simp [chs, h]
/-- How many, of a text of so many bytes. -/
def cntN (n k : Nat) : Nat := if n = 0 then 1 else (n - 1) / k + 1
theorem cntN_lt (n k i : Nat) (hk : 0 < k) (h : i * k < n) : i < cntN n k := by
  unfold cntN
  rw [if_neg (by omega)]
  have : i ≤ (n - 1) / k := (Nat.le_div_iff_mul_le hk).2 (by omega)
  omega
theorem cntN_last (n k i : Nat) (hk : 0 < k) (h1 : n ≤ (i + 1) * k) (h2 : i * k < n ∨ i = 0) : cntN n k = i + 1 := by
  unfold cntN
  by_cases h0 : n = 0
  · subst h0
    rw [if_pos rfl]
    have : i = 0 := by rcases h2 with h | h <;> omega
    omega
  · rw [if_neg h0]
    have a : (n - 1) / k < i + 1 := (Nat.div_lt_iff_lt_mul hk).2 (by omega)
    have b : i ≤ (n - 1) / k := by
      rcases h2 with h | h
      · exact (Nat.le_div_iff_mul_le hk).2 (by omega)
      · rw [h]; exact Nat.zero_le _
    generalize (n - 1) / k = q at a b
    omega
theorem cntN_pos (n k : Nat) : 1 ≤ cntN n k := by
  unfold cntN
  generalize (n - 1) / k = q
  split <;> omega
theorem cntN_mul (n k : Nat) (hk : 0 < k) : n ≤ cntN n k * k := by
  unfold cntN
  split
  · omega
  · have := Nat.div_add_mod (n - 1) k
    have := Nat.mod_lt (n - 1) hk
    rw [Nat.add_mul, Nat.mul_comm ((n - 1) / k)]; omega
theorem cntN_pred (n k : Nat) (hk : 0 < k) (i : Nat) (h : i + 1 < cntN n k) : (i + 1) * k < n := by
  unfold cntN at h
  split at h
  · omega
  · have := (Nat.le_div_iff_mul_le hk (x := i + 1) (y := n - 1)).1 (by omega)
    omega
theorem cntI_N (n : Nat) (m : Int) (k : Nat) (hk : szI m = k) (h0 : 0 < k) (h : n ≤ 256 * k) : cntI n m = cntN n k := by
  unfold cntI cntN
  rw [hk, if_neg (by omega)]
  by_cases h : n = 0
  · subst h; simp
  · rw [if_neg (by omega), if_neg h]
    have e : ((n : Int) - 1) = ((n - 1 : Nat) : Int) := by omega
    rw [e, ← Int.natCast_ediv]; omega
theorem cntN_le (n k : Nat) (hk : 0 < k) (h : n ≤ 256 * k) : cntN n k ≤ 256 := by
  unfold cntN
  split
  · omega
  · have : (n - 1) / k < 256 := (Nat.div_lt_iff_lt_mul hk).2 (by omega)
    omega

/-! The chunks joined are the text. -/
theorem extract_list (s : ByteArray) (a b : Nat) : (s.extract a b).data.toList = (s.data.toList.take b).drop a := by
  simp [ByteArray.data_extract, List.drop_take]
theorem chs_join (s : ByteArray) (k : Nat) : ∀ n, ((chs s k n).map fun x => x.data.toList).flatten = s.data.toList.take (n * k)
  | 0 => by simp [chs]
  | n + 1 => by
    rw [chs_succ, List.map_append, List.flatten_append, chs_join s k n]
    simp only [List.map_cons, List.map_nil, List.flatten_cons, List.flatten_nil, List.append_nil, extract_list]
    have e : s.data.toList.take (min s.size (n * k + k)) = s.data.toList.take ((n + 1) * k) := by
      rw [Nat.add_mul, Nat.one_mul]
      by_cases h : s.size ≤ n * k + k
      · rw [Nat.min_eq_left h, List.take_of_length_le (show s.data.toList.length ≤ s.size from Nat.le_refl _), List.take_of_length_le (show s.data.toList.length ≤ n * k + k from h)]
      · rw [Nat.min_eq_right (by omega)]
    rw [e]
    have e2 : s.data.toList.take (n * k) = (s.data.toList.take ((n + 1) * k)).take (n * k) := by
      rw [List.take_take, Nat.min_eq_left (Nat.mul_le_mul_right k (by omega))]
    rw [e2, List.take_append_drop]
theorem bytes_ext {a b : ByteArray} (h : a.data.toList = b.data.toList) : a = b := ByteArray.ext (Array.toList_inj.1 h)
theorem chs_all (s : ByteArray) (k n : Nat) (h : s.size ≤ n * k) : (⟨((chs s k n).map fun x => x.data.toList).flatten.toArray⟩ : ByteArray) = s := by
  apply bytes_ext
  rw [chs_join, List.take_of_length_le (show s.data.toList.length ≤ n * k from h)]
end Go.Proofs.Ytjdljpikgngcoaa
