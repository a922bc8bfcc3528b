/- What is made of one address: plain. -/
import Derived.Test.YtmccnmccegbdjaaDoorPfxKinds
namespace Go.Proofs.YtmccnmccegbdjaaDoor
open Go.RowKit Go.Sort
set_option linter.unusedVariables false
set_option linter.unusedSimpArgs false
theorem byte_mm : ∀ x : Fin 256, ∀ k : Fin 9, ∀ l : Fin 9, mk1 ((k.val : Nat) : Int) (mk1 ((l.val : Nat) : Int) x.val) = mk1 ((min k.val l.val : Nat) : Int) x.val := by decide +kernel
theorem byte_le : ∀ x : Fin 256, ∀ k : Fin 9, ∀ l : Fin 9, k.val ≤ l.val → mk1 ((k.val : Nat) : Int) x.val ≤ mk1 ((l.val : Nat) : Int) x.val := by decide +kernel
theorem byte_bit : ∀ x : Fin 256, ∀ l : Fin 9, ∀ t : Fin 8, t.val < l.val → mk1 ((l.val : Nat) : Int) x.val / 2 ^ (7 - t.val) % 2 = x.val / 2 ^ (7 - t.val) % 2 := by decide +kernel
theorem mask_get (A : List Nat) (n j : Nat) (hA : A.length = 16) (hj : j < 16) : (maskL A n).getD j 0 = mk1 ((n : Int) - 8 * j) (A.getD j 0) := by
  unfold maskL; rw [maskTo_get _ _ _ _ (by omega), if_pos (by omega)]
theorem mask_small (A : List Nat) (n : Nat) (hA : A.length = 16) (hs : ∀ i, A.getD i 0 < 256) (i : Nat) : (maskL A n).getD i 0 < 256 := by
  by_cases hi : i < 16
  · rw [mask_get A n i hA hi]; exact mk1_le _ _ (hs i)
  · rw [List.getD_eq_getElem?_getD, List.getElem?_eq_none (by unfold maskL; rw [maskTo_length]; omega)]; decide
theorem mask_len (A : List Nat) (n : Int) : (maskL A n).length = A.length := by unfold maskL; rw [maskTo_length]
theorem mask_mask (A : List Nat) (hA : A.length = 16) (hs : ∀ i, A.getD i 0 < 256) (a b : Nat) : maskL (maskL A b) a = maskL A ((min a b : Nat) : Int) := by
  apply list_ext_getD
  · rw [mask_len, mask_len, mask_len]
  · intro j hj
    rw [mask_len, mask_len, hA] at hj
    rw [mask_get _ a j (by rw [mask_len]; exact hA) hj, mask_get A b j hA hj, mask_get A (min a b) j hA hj, mk1_clamp a, mk1_clamp b, mk1_clamp (min a b)]
    have h := byte_mm ⟨A.getD j 0, hs j⟩ ⟨min (a - 8 * j) 8, by omega⟩ ⟨min (b - 8 * j) 8, by omega⟩
    simp only at h
    rw [h]
    congr 2
    omega
theorem mask_bit (A : List Nat) (hA : A.length = 16) (hs : ∀ i, A.getD i 0 < 256) (n i : Nat) (hi : i < n) (h128 : i < 128) : bitN (maskL A n) i = bitN A i := by
  unfold bitN
  rw [mask_get A n (i / 8) hA (by omega), mk1_clamp]
  exact byte_bit ⟨A.getD (i / 8) 0, hs _⟩ ⟨min (n - 8 * (i / 8)) 8, by omega⟩ ⟨i % 8, by omega⟩ (by show i % 8 < min (n - 8 * (i / 8)) 8; omega)
theorem mk_right (six : Bool) (A : List Nat) (hA : A.length = 16) (hs : ∀ i, A.getD i 0 < 256) (n : Nat) (hn : n ≤ widthN six) : (⟨six, maskL A n, n⟩ : Px).right = true := by
  unfold Px.right
  have h : maskL (maskL A n) n = maskL A n := by rw [mask_mask A hA hs n n, Nat.min_self]
  simp only [h]
  rw [decide_eq_true (show (0 : Int) ≤ n by omega), decide_eq_true (show (n : Int) ≤ widthN six by omega)]
  simp
theorem mk_contains (six : Bool) (A : List Nat) (hA : A.length = 16) (hs : ∀ i, A.getD i 0 < 256) (a b : Nat) (ha : a ≤ widthN six) (hb : b ≤ widthN six) : (⟨six, maskL A a, a⟩ : Px).contains ⟨six, maskL A b, b⟩ = decide (a ≤ b) := by
  unfold Px.contains
  rw [mk_right six A hA hs a ha, mk_right six A hA hs b hb]
  by_cases h : a ≤ b
  · simp only [mask_mask A hA hs a b]
    rw [Nat.min_eq_left h, decide_eq_true h, decide_eq_true (show (a : Int) ≤ b by omega)]
    simp
  · rw [decide_eq_false h, decide_eq_false (show ¬ (a : Int) ≤ b by omega)]
    simp
theorem mk_common (six : Bool) (A : List Nat) (hA : A.length = 16) (hs : ∀ i, A.getD i 0 < 256) (a b : Nat) (ha : a ≤ widthN six) (hb : b ≤ widthN six) : (⟨six, maskL A a, a⟩ : Px).common ⟨six, maskL A b, b⟩ = ((min a b : Nat) : Int) := by
  have hw := widthN_le six
  unfold Px.common
  rw [mk_right six A hA hs a ha, mk_right six A hA hs b hb, decide_eq_true rfl]
  simp only [Bool.and_self, if_true, Int.toNat_natCast]
  rw [cmnN_at (maskL A a) (maskL A b) (min a b) (min a b) (fun j hj => by rw [mask_bit A hA hs a j (by omega) (by omega), mask_bit A hA hs b j (by omega) (by omega)]) (Nat.le_refl _) (.inl rfl)]
theorem cmpN_le (A B : List Nat) (h : ∀ i, i < 16 → A.getD i 0 ≤ B.getD i 0) : cmpN A B ≤ 0 := by
  unfold cmpN
  cases e : (List.range 16).find? (fun i => A.getD i 0 != B.getD i 0) with
  | none => exact Int.le_refl 0
  | some i =>
    have hi : i < 16 := List.mem_range.1 (List.mem_of_find?_eq_some e)
    have hne := List.find?_some e
    have h1 := h i hi
    have h2 : A.getD i 0 ≠ B.getD i 0 := by simpa using hne
    simp only
    rw [if_pos (by omega)]; decide
theorem mk_compare (six : Bool) (A : List Nat) (hA : A.length = 16) (hs : ∀ i, A.getD i 0 < 256) (a b : Nat) (h : a ≤ b) : (⟨six, maskL A a, a⟩ : Px).compare ⟨six, maskL A b, b⟩ ≤ 0 := by
  have h1 : cmpN (maskL A a) (maskL A b) ≤ 0 := cmpN_le _ _ fun i hi => by
    rw [mask_get A a i hA hi, mask_get A b i hA hi, mk1_clamp a, mk1_clamp b]
    exact byte_le ⟨A.getD i 0, hs i⟩ ⟨min (a - 8 * i) 8, by omega⟩ ⟨min (b - 8 * i) 8, by omega⟩ (by show min (a - 8 * i) 8 ≤ min (b - 8 * i) 8; omega)
  unfold Px.compare
  have h0 : cmpI (kindN six) (kindN six) = 0 := by unfold cmpI; rw [if_neg (by omega), if_neg (by omega)]
  have h2 : cmpI (a : Int) (b : Int) ≤ 0 := by unfold cmpI; split <;> (try split) <;> omega
  show orL [cmpI (kindN six) (kindN six), cmpN (maskL A a) (maskL A b), cmpI (a : Int) (b : Int)] ≤ 0
  rw [h0]
  simp only [orL, if_true]
  split
  · split
    · exact Int.le_refl 0
    · exact h2
  · exact h1
theorem sl_get (s : ByteArray) (i : Nat) (hi : i < s.size) : (padL s).getD i 0 = (s[i]'hi).toNat := by
  unfold padL
  rw [List.getD_eq_getElem?_getD, List.getElem?_append_left (by rw [sl_length]; exact hi)]
  unfold sl
  rw [List.getElem?_map]
  have : s.data.toList[i]? = some (s[i]'hi) := by
    rw [Array.getElem?_toList]
    exact Array.getElem?_eq_getElem hi
  rw [this]; rfl
theorem run_str_index (w : World) (s : ByteArray) (k : Nat) (hk : k < s.size) :
    (Instr.index 9 (.string s) (.int .i64 (k : Int))).run Tryd.prog w = .ok (.int .u8 ((padL s).getD k 0 : Nat)) w := by
  unfold Instr.index
  have ha : (asIntOf (.int .i64 (k : Int))).run Tryd.prog w = .ok (.i64, (k : Int)) w := rfl
  rw [Sem.run_bind, ha]
  simp only [Result.andThen_ok, Sem.run_bind, run_underlying Tryd.underlying9 w]
  have hg : s[(k : Int).toNat]? = some (s[k]'hk) := by rw [Int.toNat_natCast]; exact getElem?_pos s k hk
  rw [if_pos (by omega), hg, sl_get s k hk]
  rfl
def mkR (six : Bool) (s : ByteArray) (n : Int) : Px × Nat := if goodMk six s.size n then (mkPx six s n, 0) else (Px.zero, 1)
theorem Make_calls (w : World) (six : Bool) (s : ByteArray) (n : Int) (hs : s.size ≤ 140737488351232) : Calls Tryd.prog 13 #[.bool six, .string s, .int .i64 n] w fun e w' => e = .returned (.tuple #[.agg (mkR six s n).1.row, .int .i64 (mkR six s n).2]) ∧ Below w.heap.size w w' := by
  unfold mkR
  cases h : goodMk six s.size n with
  | false => exact Make_bad w six s n hs h
  | true =>
    unfold goodMk at h
    simp only [Bool.and_eq_true, decide_eq_true_eq] at h
    obtain ⟨h1, h2, h3⟩ := h
    obtain ⟨n, rfl⟩ := Int.eq_ofNat_of_zero_le h2
    exact Make_good w six s n h1 (by omega)
end Go.Proofs.YtmccnmccegbdjaaDoor
