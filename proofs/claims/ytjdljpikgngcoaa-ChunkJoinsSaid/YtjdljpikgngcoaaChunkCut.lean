/- The walk of chunk.Cut: the chunks of a text. -/
import Derived.Test.YtjdljpikgngcoaaChunkWalk
namespace Go.Proofs.Ytjdljpikgngcoaa
open Go.RowKit
set_option linter.unusedVariables false
theorem info_str : (Try.prog.info? 9).map (fun i => (i.zero, i.size, i.bytes)) = some (some (.string ⟨#[]⟩), 1, 16) := by kernel_rfl
/-- A list of texts in a row of the call's own. -/
def Texts (B : Nat) (w : World) (v : Value) (xs : List ByteArray) : Prop :=
  ∃ g cap, v = .slice (some ⟨g, 0, none⟩) xs.length cap ∧ B ≤ g ∧ g < w.heap.size ∧ xs.length ≤ cap ∧ ∀ (j : Nat) x, xs[j]? = some x → w.cell? ⟨g, j, none⟩ = some (.string x)
theorem texts_of_own {B : Nat} {w : World} {v : Value} {xs : List ByteArray} (h : w.ownsRow B 9 1 v xs.length (xs.map .string)) (h0 : xs ≠ []) : Texts B w v xs := by
  have hc : ∀ g, v.ownBlock = some g → _ := fun g hg => h.cells (g := g) hg
  have hl := h.lt
  obtain ⟨_, h⟩ := h
  rcases h with ⟨_, h⟩ | ⟨g, cap, cur, rfl, h1, h2, h3, _⟩
  · exact absurd (List.eq_nil_of_length_eq_zero h) h0
  · refine ⟨g, cap, rfl, h1, (hl g rfl).2, h3, fun j x hx => ?_⟩
    have := hc g rfl j (.string x) (by simp [hx])
    rwa [Addr.add_lit, Nat.zero_add] at this
def CutOk (w : World) (xs : List ByteArray) (e : Ending) (w' : World) : Prop :=
  ∃ v, e = .returned (.tuple #[v, .int .i64 0]) ∧ Below w.heap.size w w' ∧ Texts w.heap.size w' v xs
theorem nonempty_ext (s : ByteArray) (a : Nat) (h : a < s.size) : (s.extract a s.size).toList.isEmpty = false := by
  rw [ByteArray.toList_eq]
  cases e : (s.extract a s.size).data.toList with
  | nil =>
    have := congrArg List.length e
    simp at this; omega
  | cons x l => rfl
theorem empty_ext (s : ByteArray) (a : Nat) (h : s.size ≤ a) : (s.extract a s.size).toList.isEmpty = true := by
  rw [ByteArray.toList_eq]
  have : (s.extract a s.size).data.toList = [] := List.eq_nil_of_length_eq_zero (by simp; omega)
  rw [this]; rfl
theorem ext_ext (s : ByteArray) (i k : Nat) (h : i * k ≤ s.size) : (s.extract (i * k) s.size).extract k (s.extract (i * k) s.size).size = s.extract ((i + 1) * k) s.size := by
  apply bytes_ext
  rw [extract_list, extract_list, extract_list]
  have e1 : s.data.toList.take s.size = s.data.toList := List.take_of_length_le (Nat.le_refl _)
  rw [e1]
  have e2 : (s.extract (i * k) s.size).size = (s.data.toList.drop (i * k)).length := by
    rw [List.length_drop, ByteArray.size_extract]; show _ = s.size - i * k; omega
  rw [e2, List.take_length, List.drop_drop, Nat.add_mul, Nat.one_mul]
theorem ext_first (s : ByteArray) (i k n : Nat) (h : i * k + n ≤ s.size) : (s.extract (i * k) s.size).extract 0 n = s.extract (i * k) (i * k + n) := by
  apply bytes_ext
  rw [extract_list, extract_list, extract_list, List.drop_zero, List.take_of_length_le (show s.data.toList.length ≤ s.size from Nat.le_refl _), List.drop_take]
  congr 1; omega
/-- What holds at every jump of Cut. -/
def CutJ (w : World) (s : ByteArray) (m : Int) (k : Nat) (a' : Act) (w' : World) : Prop :=
  ∃ (i : Nat) (v : Value) (X : ByteArray), i * k < s.size ∧ X = s.extract (i * k) s.size ∧ Below w.heap.size w w' ∧ w'.ownsRow w.heap.size 9 1 v i ((chs s k i).map .string) ∧ ∃ (u2 u3 u7 u8 u9 u10 u11 u12 u13 u14 u15 u16 u17 u18 u19 u20 u21 u22 u23 u24 u25 u26 u27 u28 u29 u30 u31 u32 u33 u34 u35 u36 u37 u38 : Value),
     a' = { tmps := #[.string X, .int .i64 m, u2, u3, v, .int .i64 0, .int .i64 k, u7, u8, u9, u10, u11, u12, u13, u14, u15, u16, u17, u18, u19, u20, u21, u22, u23, u24, u25, u26, u27, u28, u29, u30, u31, u32, u33, u34, u35, u36, u37, u38], defers := [] }
def CutM (a' : Act) (_ : World) : Nat := match a'.tmps.getD 0 undef with | .string x => x.size | _ => 0
set_option maxRecDepth 100000 in
set_option maxHeartbeats 2000000 in
theorem Cut_ok (w : World) (s : ByteArray) (m : Int) (k : Nat) (h1 : -9223372036854775808 ≤ m) (h2 : m ≤ 9223372036854775807) (hk : szI m = k) (h0 : 0 < k) (hE : szE m = 0) (hs : s.size ≤ 256 * k) (hk2 : k ≤ 1000) :
   Calls Try.prog 9 #[.string s, .int .i64 m] w (CutOk w (chs s k (cntN s.size k))) := by
  have hc := cntI_N s.size m k hk h0 hs
  have hc1 := cntN_pos s.size k
  have hcl := cntN_le s.size k h0 hs
  have Hc := Lib.hid hc; clear hc
  have Hk := Lib.hid hk; clear hk
  have HE := Lib.hid hE; clear hE
  go_enter Try.func9, Try.ntmps9
  go_wp2_with fail
  refine wp_scope_jumps 0 (CutJ w s m k) CutM rfl ?_ ?_
  · go_wp2_with fail
    with_reducible refine (Size_calls _ m h1 h2).mono ?_
    rintro e w' ⟨rfl, rfl⟩
    rw [HE.out, Hk.out]
    go_wp2_with fail
    with_reducible refine (Count_calls _ s.size m h1 h2 (by omega) (by omega)).mono ?_
    rintro e w' ⟨rfl, rfl⟩
    rw [Hc.out]
    have hd : decide (((cntN s.size k : Nat) : Int) < 0) = false := by simp
    by_cases hm : k < s.size
    · have hmin : min (k : Int) ((s.size : Nat) : Int) = k := by omega
      have hne := nonempty_ext s k hm
      have hmul : (0 + 1) * k = 0 * k + k := by rw [Nat.add_mul, Nat.one_mul]
      have Hmul := Lib.hid hmul; clear hmul
      go_wp2
      go_step3
      go_wp2_with (with_reducible refine wpList_mark (o := ⟨some 32, _, _, _, _, _⟩) ?_)
      refine Marked.intro ?_
      refine wpList_push rfl _ _ 23 rfl w.heap.size 9 (.string ⟨#[]⟩) 1 16 Try.underlying23 info_str rfl (by omega) w _ 0 [] rfl (World.ownsRow_nil _ _ _ _) [.string (s.extract 0 k)] (by rfl) rfl (by simp [Value.oneCell']) (by omega) (by unfold maxLen; omega) (Nat.le_refl _) ?_
      intro v1 w1 hown hbel hsz
      go_wp2
      go_step3
      exact ⟨rfl, 1, v1, _, by omega, by rw [Nat.one_mul], hbel, by rw [show (chs s k 1).map Value.string = [] ++ [.string (s.extract 0 k)] from by simp [chs, Nat.min_eq_right (Nat.le_of_lt hm)]]; exact hown, _, _, _, _, _, _, _, _, _, _, _, _, _, _, _, _, _, _, _, _, _, _, _, _, _, _, _, _, _, _, _, _, _, _, rfl⟩
    · have hmin : min (k : Int) ((s.size : Nat) : Int) = s.size := by omega
      have hem := empty_ext s s.size (Nat.le_refl _)
      have hcn : Hid (cntN s.size k = 1) := cntN_last s.size k 0 h0 (by omega) (by omega)
      go_wp2
      go_step3
      go_wp2_with (with_reducible refine wpList_mark (o := ⟨some 32, _, _, _, _, _⟩) ?_)
      refine Marked.intro ?_
      refine wpList_push rfl _ _ 23 rfl w.heap.size 9 (.string ⟨#[]⟩) 1 16 Try.underlying23 info_str rfl (by omega) w _ 0 [] rfl (World.ownsRow_nil _ _ _ _) [.string s] (by rfl) rfl (by simp [Value.oneCell']) (by omega) (by unfold maxLen; omega) (Nat.le_refl _) ?_
      intro v1 w1 hown hbel hsz
      go_wp2
      simp only [Exit.jump]
      go_ret2
      refine ⟨v1, rfl, hbel, texts_of_own ?_ ?_⟩
      · rw [chs_length, hcn.out, show (chs s k 1).map Value.string = [] ++ [.string s] from by simp [chs, Nat.min_eq_left (Nat.le_of_not_lt hm)]]; exact hown
      · intro e
        have := congrArg List.length e
        rw [chs_length, hcn.out] at this; cases this
  · rintro a' wr ⟨i, v, X0, hik, hX0, hbel0, hown0, u2, u3, u7, u8, u9, u10, u11, u12, u13, u14, u15, u16, u17, u18, u19, u20, u21, u22, u23, u24, u25, u26, u27, u28, u29, u30, u31, u32, u33, u34, u35, u36, u37, u38, rfl⟩
    subst hX0
    have hXs : (s.extract (i * k) s.size).size = s.size - i * k := by rw [ByteArray.size_extract]; omega
    have hrest := ext_ext s i k (by omega)
    have hi256 : i < 256 := by
      have := cntN_lt s.size k i h0 hik
      omega
    have hch : k < (s.extract (i * k) s.size).size → [Value.string ((s.extract (i * k) s.size).extract 0 k)] = [s.extract (i * k) (min s.size (i * k + k))].map Value.string := by
      intro h
      rw [ext_first s i k k (by omega), Nat.min_eq_right (by omega)]; rfl
    have hlast : ¬ k < (s.extract (i * k) s.size).size → [Value.string (s.extract (i * k) s.size)] = [s.extract (i * k) (min s.size (i * k + k))].map Value.string := by
      intro h
      rw [Nat.min_eq_left (by omega)]; rfl
    generalize hX : s.extract (i * k) s.size = X at hXs hrest hch hlast ⊢
    clear hX
    have Hrest := Lib.hid hrest; clear hrest
    have Hch : Hid _ := Lib.hid hch; clear hch
    have Hlast := Lib.hid hlast; clear hlast
    have hx1 : X.size ≤ s.size - i * k := by omega
    have hx2 : s.size - i * k ≤ X.size := by omega
    clear hXs
    by_cases hm : k < X.size
    · have hmin : min (k : Int) ((X.size : Nat) : Int) = k := by omega
      have hne := nonempty_ext X k hm
      have hmul : (i + 1) * k = i * k + k := by rw [Nat.add_mul, Nat.one_mul]
      have Hmul := Lib.hid hmul; clear hmul
      go_wp2_with (with_reducible refine wpList_mark (o := ⟨some 32, _, _, _, _, _⟩) ?_)
      refine Marked.intro ?_
      refine wpList_push rfl _ _ 23 rfl w.heap.size 9 (.string ⟨#[]⟩) 1 16 Try.underlying23 info_str rfl (by omega) wr v i ((chs s k i).map .string) (by rfl) hown0 [.string (X.extract 0 k)] (by rfl) rfl (by simp [Value.oneCell']) (by omega) (by unfold maxLen; omega) hbel0.size ?_
      intro v1 w1 hown hbel hsz
      go_wp2
      go_step3
      have hlt : (X.extract k X.size).size < X.size := by rw [ByteArray.size_extract]; omega
      exact ⟨rfl, ⟨i + 1, v1, _, by have := Hmul.out; omega, Hrest.out, hbel0.trans hbel, by rw [chs_succ, List.map_append, ← Hch.out hm]; exact hown, _, _, _, _, _, _, _, _, _, _, _, _, _, _, _, _, _, _, _, _, _, _, _, _, _, _, _, _, _, _, _, _, _, _, rfl⟩, hlt⟩
    · have hmin : min (k : Int) ((X.size : Nat) : Int) = X.size := by omega
      have hem := empty_ext X X.size (Nat.le_refl _)
      have hcn : Hid (cntN s.size k = i + 1) := cntN_last s.size k i h0 (by rw [Nat.add_mul, Nat.one_mul]; omega) (Or.inl hik)
      go_wp2_with (with_reducible refine wpList_mark (o := ⟨some 32, _, _, _, _, _⟩) ?_)
      refine Marked.intro ?_
      refine wpList_push rfl _ _ 23 rfl w.heap.size 9 (.string ⟨#[]⟩) 1 16 Try.underlying23 info_str rfl (by omega) wr v i ((chs s k i).map .string) (by rfl) hown0 [.string X] (by rfl) rfl (by simp [Value.oneCell']) (by omega) (by unfold maxLen; omega) hbel0.size ?_
      intro v1 w1 hown hbel hsz
      go_wp2
      simp only [Exit.jump]
      go_ret2
      refine ⟨v1, rfl, hbel0.trans hbel, texts_of_own ?_ ?_⟩
      · rw [chs_length, hcn.out, chs_succ, List.map_append, ← Hlast.out hm]; exact hown
      · intro e
        have := congrArg List.length e
        rw [chs_length, hcn.out] at this; cases this
end Go.Proofs.Ytjdljpikgngcoaa
