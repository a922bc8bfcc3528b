/- What is written of a prefix is read back; unlike ones have unlike bytes and texts: plain. -/
import Derived.Test.YtmccnmccegbdjaaDoorPfxOrd
namespace Go.Proofs.YtmccnmccegbdjaaDoor
open Go.RowKit Go.Sort
set_option linter.unusedVariables false
set_option linter.unusedSimpArgs false
theorem right_mask {p : Px} (h : p.right = true) : maskL p.A p.n = p.A := by
  unfold Px.right at h
  simp only [Bool.and_eq_true, decide_eq_true_eq] at h
  exact h.2
theorem right_zero {p : Px} (hp : p.wf) (h : p.right = true) (n : Nat) (hn : p.n = n) (j : Nat) (hj : j < 16) (hnj : n ≤ 8 * j) : p.A.getD j 0 = 0 := by
  have hm := right_mask h
  rw [hn] at hm
  rw [← hm, mask_get p.A n j hp.len hj]
  unfold mk1; rw [if_pos (by omega)]
theorem map_ofNat_back (L : List Nat) (h : ∀ x ∈ L, x < 256) : (L.map fun x => UInt8.ofNat x).map (fun b => b.toNat) = L := by
  rw [List.map_map]
  have : ∀ x ∈ L, ((fun b : UInt8 => b.toNat) ∘ fun x => UInt8.ofNat x) x = x := fun x hx => by
    show (UInt8.ofNat x).toNat = x
    rw [UInt8.toNat_ofNat', Nat.mod_eq_of_lt (h x hx)]
  exact (List.map_congr_left this).trans (List.map_id' L)
theorem read_bytes {p : Px} (hp : p.wf) (hr : p.right = true) (more : List UInt8) : readR (p.bytes.data.toList ++ more) = (p, 0, more, 0) := by
  obtain ⟨n, hn, hn2⟩ := Px.right_n hr
  have hw := widthN_le p.six
  obtain ⟨m, hm⟩ : ∃ m, (n + 7) / 8 = m := ⟨_, rfl⟩
  have hb : p.bytes.data.toList = UInt8.ofNat (n + 64 * kindN p.six) :: (p.A.take m).map fun x => UInt8.ofNat x := by
    unfold Px.bytes
    rw [if_pos hr]
    show ((bytesL p).map fun x => UInt8.ofNat x).toArray.toList = _
    unfold bytesL
    rw [hn]
    show (List.map _ ((n + 64 * kindN p.six) :: p.A.take ((n + 7) / 8))) = _
    rw [hm]; rfl
  rw [hb, List.cons_append]
  have hk := kindN_le p.six
  have hc : (UInt8.ofNat (n + 64 * kindN p.six)).toNat = n + 64 * kindN p.six := by rw [UInt8.toNat_ofNat']; omega
  have hS : headSix (n + 64 * kindN p.six) = p.six := by
    unfold headSix
    cases h : p.six with
    | false => rw [h] at hn2; exact decide_eq_false (by simp only [widthN, kindN] at hn2 ⊢; simp at hn2 ⊢; omega)
    | true => exact decide_eq_true (by simp [kindN])
  have hL : headLen (n + 64 * kindN p.six) = n := by
    unfold headLen
    cases h : p.six with
    | false => rw [h] at hn2; simp only [widthN, kindN] at hn2 ⊢; simp at hn2 ⊢; intro; omega
    | true => simp [kindN]
  have hll : ((p.A.take m).map fun x => UInt8.ofNat x).length = m := by rw [List.length_map, List.length_take, hp.len]; omega
  have htk : (((p.A.take m).map fun x => UInt8.ofNat x) ++ more).take m = (p.A.take m).map fun x => UInt8.ofNat x := by
    rw [List.take_append_of_le_length (by omega), List.take_of_length_le (by omega)]
  have hdr : (((p.A.take m).map fun x => UInt8.ofNat x) ++ more).drop m = more := by
    rw [List.drop_append_of_le_length (by omega), List.drop_of_length_le (by omega), List.nil_append]
  have hpx : readPx (n + 64 * kindN p.six) ((p.A.take m).map fun x => UInt8.ofNat x) = p := by
    unfold readPx
    rw [hS, hL]
    have hsm : ∀ x ∈ p.A.take m, x < 256 := fun x hx => by
      obtain ⟨i, hi, rfl⟩ := List.getElem_of_mem (List.mem_of_mem_take hx)
      have := hp.small i
      rwa [List.getD_eq_getElem?_getD, List.getElem?_eq_getElem hi] at this
    have hA : padL (bstr ((p.A.take m).map fun x => UInt8.ofNat x)) = p.A := by
      unfold padL sl
      rw [bstr_size, hll]
      show List.map _ (List.map _ (p.A.take m)) ++ _ = _
      rw [map_ofNat_back _ hsm]
      apply list_ext_getD
      · simp [hp.len]; omega
      · intro j hj
        have hj16 : j < 16 := by
          simp [hp.len] at hj; omega
        by_cases h : j < m
        · rw [List.getD_eq_getElem?_getD, List.getElem?_append_left (by rw [List.length_take, hp.len]; omega), List.getElem?_take_of_lt h, ← List.getD_eq_getElem?_getD]
        · rw [List.getD_eq_getElem?_getD, List.getElem?_append_right (by rw [List.length_take, hp.len]; omega), right_zero hp hr n hn j hj16 (by omega), List.getElem?_replicate]
          split <;> rfl
    rw [hA, ← hn]
  show (if widthN (headSix (UInt8.ofNat (n + 64 * kindN p.six)).toNat) < headLen (UInt8.ofNat (n + 64 * kindN p.six)).toNat then _ else _) = _
  rw [hc, hS, hL, if_neg (by omega), hm, if_neg (by rw [List.length_append]; omega), htk, hpx, if_pos hr, hdr]
theorem bytes_inj {p q : Px} (hp : p.wf) (hq : q.wf) (h1 : p.right = true) (h2 : q.right = true) : p.bytes = q.bytes ↔ p = q := by
  constructor
  · intro h
    have a := read_bytes hp h1 []
    have b := read_bytes hq h2 []
    rw [h] at a
    rw [a] at b
    exact congrArg (·.1) b
  · rintro rfl; rfl
/-! ### Texts -/
theorem split_at {c : UInt8} : ∀ {l1 l2 d1 d2 : List UInt8}, c ∉ l1 → c ∉ l2 → l1 ++ c :: d1 = l2 ++ c :: d2 → l1 = l2 ∧ d1 = d2
  | [], [], d1, d2, _, _, h => ⟨rfl, by simpa using h⟩
  | [], y :: l2, d1, d2, _, h2, h => by
    simp only [List.nil_append, List.cons_append, List.cons.injEq] at h
    exact absurd (by rw [h.1]; simp) h2
  | x :: l1, [], d1, d2, h1, _, h => by
    simp only [List.nil_append, List.cons_append, List.cons.injEq] at h
    exact absurd (by rw [← h.1]; simp) h1
  | x :: l1, y :: l2, d1, d2, h1, h2, h => by
    simp only [List.cons_append, List.cons.injEq] at h
    obtain ⟨e1, e2⟩ := split_at (l1 := l1) (l2 := l2) (fun hh => h1 (by simp [hh])) (fun hh => h2 (by simp [hh])) h.2
    exact ⟨by rw [h.1, e1], e2⟩
theorem join_two (x y : List UInt8) (r : List (List UInt8)) (c : UInt8) : Go.Lib.join (x :: y :: r) [c] = x ++ c :: Go.Lib.join (y :: r) [c] := by
  rw [Go.Lib.join_cons, Go.Lib.join_cons]
  simp [Go.Lib.joinTail]
theorem join_inj {c : UInt8} : ∀ {xs ys : List (List UInt8)}, xs.length = ys.length → (∀ x ∈ xs, c ∉ x) → (∀ x ∈ ys, c ∉ x) → Go.Lib.join xs [c] = Go.Lib.join ys [c] → xs = ys
  | [], [], _, _, _, _ => rfl
  | [x], [y], _, _, _, h => by rw [Go.Lib.join_one, Go.Lib.join_one] at h; rw [h]
  | x :: x2 :: xs, y :: y2 :: ys, hl, h1, h2, h => by
    rw [join_two, join_two] at h
    obtain ⟨e1, e2⟩ := split_at (h1 x (by simp)) (h2 y (by simp)) h
    have := join_inj (xs := x2 :: xs) (ys := y2 :: ys) (by simpa using hl) (fun z hz => h1 z (by simp [hz])) (fun z hz => h2 z (by simp [hz])) e2
    rw [e1, this]
theorem mem_join {c b : UInt8} : ∀ {xs : List (List UInt8)}, b ∈ Go.Lib.join xs [c] → b = c ∨ ∃ x ∈ xs, b ∈ x
  | [], h => by simp [Go.Lib.join, List.intercalate] at h
  | [x], h => by rw [Go.Lib.join_one] at h; exact .inr ⟨x, by simp, h⟩
  | x :: y :: r, h => by
    rw [join_two] at h
    rcases List.mem_append.1 h with h | h
    · exact .inr ⟨x, by simp, h⟩
    · rcases List.mem_cons.1 h with h | h
      · exact .inl h
      · rcases mem_join (xs := y :: r) h with h | ⟨z, hz, h⟩
        · exact .inl h
        · exact .inr ⟨z, by simp [hz], h⟩
theorem dec_mem {u : Nat} : ∀ {b : UInt8}, b ∈ Go.Lib.decDigits u → 48 ≤ b.toNat ∧ b.toNat ≤ 57 := by
  induction u using Nat.strongRecOn with
  | _ u ih =>
    intro b h
    rw [Go.Lib.decDigits] at h
    split at h
    · obtain rfl := List.mem_singleton.1 h
      rw [UInt8.toNat_ofNat']; omega
    · rcases List.mem_append.1 h with h | h
      · exact ih (u / 10) (by omega) h
      · obtain rfl := List.mem_singleton.1 h
        rw [UInt8.toNat_ofNat']; omega
def decVal (l : List UInt8) : Nat := l.foldl (fun a b => 10 * a + (b.toNat - 48)) 0
theorem decVal_dec (u : Nat) : decVal (Go.Lib.decDigits u) = u := by
  induction u using Nat.strongRecOn with
  | _ u ih =>
    rw [Go.Lib.decDigits]
    split
    · rename_i h
      show 10 * 0 + ((UInt8.ofNat (48 + u)).toNat - 48) = u
      rw [UInt8.toNat_ofNat']; omega
    · rename_i h
      have := ih (u / 10) (by omega)
      unfold decVal at this ⊢
      rw [List.foldl_append, this]
      show 10 * (u / 10) + ((UInt8.ofNat (48 + u % 10)).toNat - 48) = u
      rw [UInt8.toNat_ofNat']; omega
theorem dec_inj {u v : Nat} (h : Go.Lib.decDigits u = Go.Lib.decDigits v) : u = v := by rw [← decVal_dec u, ← decVal_dec v, h]
theorem hexd_facts : ∀ x : Fin 16, 48 ≤ (hexd x.val).toNat ∧ (hexd x.val).toNat ≠ 58 := by decide +kernel
theorem hexd_inj : ∀ x y : Fin 16, hexd x.val = hexd y.val → x = y := by decide +kernel
theorem hexs_two (A : List Nat) (i : Nat) : hexs A i 2 = [hexd (A.getD i 0 / 16), hexd (A.getD i 0 % 16), hexd (A.getD (i + 1) 0 / 16), hexd (A.getD (i + 1) 0 % 16)] := rfl
theorem hex_back {A B : List Nat} (hA : ∀ i, A.getD i 0 < 256) (hB : ∀ i, B.getD i 0 < 256) (i : Nat) (h : hexs A i 2 = hexs B i 2) : A.getD i 0 = B.getD i 0 ∧ A.getD (i + 1) 0 = B.getD (i + 1) 0 := by
  rw [hexs_two, hexs_two] at h
  simp only [List.cons.injEq, and_true] at h
  obtain ⟨h1, h2, h3, h4⟩ := h
  have a1 := hA i; have a2 := hA (i + 1); have b1 := hB i; have b2 := hB (i + 1)
  have e1 := congrArg Fin.val (hexd_inj ⟨A.getD i 0 / 16, by omega⟩ ⟨B.getD i 0 / 16, by omega⟩ h1)
  have e2 := congrArg Fin.val (hexd_inj ⟨A.getD i 0 % 16, by omega⟩ ⟨B.getD i 0 % 16, by omega⟩ h2)
  have e3 := congrArg Fin.val (hexd_inj ⟨A.getD (i + 1) 0 / 16, by omega⟩ ⟨B.getD (i + 1) 0 / 16, by omega⟩ h3)
  have e4 := congrArg Fin.val (hexd_inj ⟨A.getD (i + 1) 0 % 16, by omega⟩ ⟨B.getD (i + 1) 0 % 16, by omega⟩ h4)
  simp only at e1 e2 e3 e4
  omega
theorem hexs_mem {A : List Nat} (hA : ∀ i, A.getD i 0 < 256) (i : Nat) {b : UInt8} (h : b ∈ hexs A i 2) : 48 ≤ b.toNat ∧ b.toNat ≠ 58 := by
  rw [hexs_two] at h
  have a1 := hA i; have a2 := hA (i + 1)
  simp only [List.mem_cons, List.not_mem_nil, or_false] at h
  rcases h with rfl | rfl | rfl | rfl
  · exact hexd_facts ⟨A.getD i 0 / 16, by omega⟩
  · exact hexd_facts ⟨A.getD i 0 % 16, by omega⟩
  · exact hexd_facts ⟨A.getD (i + 1) 0 / 16, by omega⟩
  · exact hexd_facts ⟨A.getD (i + 1) 0 % 16, by omega⟩
/-- The parts of a text, ahead of its '/'. -/
def parts4 (A : List Nat) : List (List UInt8) := (List.range 4).map fun j => Go.Lib.decDigits (A.getD j 0)
def parts8 (A : List Nat) : List (List UInt8) := (List.range 8).map fun j => hexs A (2 * j) 2
theorem text4_list (A : List Nat) (n : Nat) : (text4 A n).data.toList = Go.Lib.join (parts4 A) [46] ++ 47 :: Go.Lib.decDigits n := by
  unfold text4
  rw [ByteArray.data_append, ByteArray.data_append]
  simp [joinB, decB, parts4, tx4]
  rfl
theorem text8_list (A : List Nat) (n : Nat) : (text8 A n).data.toList = Go.Lib.join (parts8 A) [58] ++ 47 :: Go.Lib.decDigits n := by
  unfold text8
  rw [ByteArray.data_append, ByteArray.data_append]
  simp [joinB, decB, parts8, tx8]
  rfl
theorem p4_mem (A : List Nat) {x : List UInt8} {b : UInt8} (hx : x ∈ parts4 A) (hb : b ∈ x) : 48 ≤ b.toNat ∧ b.toNat ≤ 57 := by
  obtain ⟨j, _, rfl⟩ := List.mem_map.1 hx
  exact dec_mem hb
theorem p8_mem {A : List Nat} (hA : ∀ i, A.getD i 0 < 256) {x : List UInt8} {b : UInt8} (hx : x ∈ parts8 A) (hb : b ∈ x) : 48 ≤ b.toNat ∧ b.toNat ≠ 58 := by
  obtain ⟨j, _, rfl⟩ := List.mem_map.1 hx
  exact hexs_mem hA _ hb
theorem no47_4 (A : List Nat) : (47 : UInt8) ∉ Go.Lib.join (parts4 A) [46] := fun h => by
  rcases mem_join h with h | ⟨x, hx, h⟩
  · exact absurd h (by decide)
  · have := (p4_mem A hx h).1; exact absurd this (by decide)
theorem no47_8 {A : List Nat} (hA : ∀ i, A.getD i 0 < 256) : (47 : UInt8) ∉ Go.Lib.join (parts8 A) [58] := fun h => by
  rcases mem_join h with h | ⟨x, hx, h⟩
  · exact absurd h (by decide)
  · have := (p8_mem hA hx h).1; exact absurd this (by decide)
theorem no46_8 {A : List Nat} (hA : ∀ i, A.getD i 0 < 256) : (46 : UInt8) ∉ Go.Lib.join (parts8 A) [58] := fun h => by
  rcases mem_join h with h | ⟨x, hx, h⟩
  · exact absurd h (by decide)
  · have := (p8_mem hA hx h).1; exact absurd this (by decide)
theorem has46_4 (A : List Nat) : (46 : UInt8) ∈ Go.Lib.join (parts4 A) [46] := by
  show (46 : UInt8) ∈ Go.Lib.join [Go.Lib.decDigits (A.getD 0 0), Go.Lib.decDigits (A.getD 1 0), Go.Lib.decDigits (A.getD 2 0), Go.Lib.decDigits (A.getD 3 0)] [46]
  rw [join_two]; simp
theorem text_list {p : Px} (h : p.right = true) : p.text.data.toList = (if p.six then Go.Lib.join (parts8 p.A) [58] else Go.Lib.join (parts4 p.A) [46]) ++ 47 :: Go.Lib.decDigits p.n.toNat := by
  unfold Px.text
  rw [if_pos h]
  cases p.six with
  | true => exact text8_list _ _
  | false => exact text4_list _ _
theorem text_inj {p q : Px} (hp : p.wf) (hq : q.wf) (h1 : p.right = true) (h2 : q.right = true) : p.text = q.text ↔ p = q := by
  constructor
  · intro h
    have hl : p.text.data.toList = q.text.data.toList := by rw [h]
    rw [text_list h1, text_list h2] at hl
    obtain ⟨n, hn, hn2⟩ := Px.right_n h1
    obtain ⟨m, hm, hm2⟩ := Px.right_n h2
    have nb : ∀ r : Px, r.wf → (47 : UInt8) ∉ (if r.six then Go.Lib.join (parts8 r.A) [58] else Go.Lib.join (parts4 r.A) [46]) := fun r hr => by
      cases r.six with
      | true => exact no47_8 hr.small
      | false => exact no47_4 _
    obtain ⟨e1, e2⟩ := split_at (nb p hp) (nb q hq) hl
    have hnm := dec_inj e2
    rw [hn, hm] at hnm
    have hnm2 : n = m := by simpa using hnm
    have done : p.six = q.six → p.A = q.A → p = q := fun a b => by
      have c : p.n = q.n := by rw [hn, hm, hnm2]
      cases p; cases q; simp_all
    cases s1 : p.six with
    | true =>
      cases s2 : q.six with
      | false =>
        rw [s1, s2] at e1
        simp only [if_true, Bool.false_eq_true, if_false] at e1
        exact absurd (e1 ▸ has46_4 q.A) (no46_8 hp.small)
      | true =>
        rw [s1, s2] at e1
        simp only [if_true] at e1
        have hj := join_inj (c := 58) (by simp [parts8]) (fun x hx hh => by have := (p8_mem hp.small hx hh).2; exact this rfl) (fun x hx hh => by have := (p8_mem hq.small hx hh).2; exact this rfl) e1
        refine done (s1.trans s2.symm) (list_ext_getD _ _ (by rw [hp.len, hq.len]) fun j hjl => ?_)
        rw [hp.len] at hjl
        have hk : (parts8 p.A)[j / 2]? = (parts8 q.A)[j / 2]? := by rw [hj]
        unfold parts8 at hk
        rw [List.getElem?_map, List.getElem?_map, List.getElem?_range (by omega)] at hk
        have hk2 : hexs p.A (2 * (j / 2)) 2 = hexs q.A (2 * (j / 2)) 2 := by simpa using hk
        obtain ⟨b1, b2⟩ := hex_back hp.small hq.small _ hk2
        by_cases h0 : j % 2 = 0
        · rwa [show 2 * (j / 2) = j by omega] at b1
        · rwa [show 2 * (j / 2) + 1 = j by omega] at b2
    | false =>
      cases s2 : q.six with
      | true =>
        rw [s1, s2] at e1
        simp only [if_true, Bool.false_eq_true, if_false] at e1
        exact absurd (e1 ▸ has46_4 p.A) (no46_8 hq.small)
      | false =>
        rw [s1, s2] at e1
        simp only [Bool.false_eq_true, if_false] at e1
        have hj := join_inj (c := 46) (by simp [parts4]) (fun x hx hh => by have := (p4_mem p.A hx hh).1; exact absurd this (by decide)) (fun x hx hh => by have := (p4_mem q.A hx hh).1; exact absurd this (by decide)) e1
        refine done (s1.trans s2.symm) (list_ext_getD _ _ (by rw [hp.len, hq.len]) fun j hjl => ?_)
        rw [hp.len] at hjl
        rw [s1] at hn2
        have hn32 : n ≤ 32 := hn2
        by_cases h4 : j < 4
        · have hk : (parts4 p.A)[j]? = (parts4 q.A)[j]? := by rw [hj]
          unfold parts4 at hk
          rw [List.getElem?_map, List.getElem?_map, List.getElem?_range h4] at hk
          exact dec_inj (by simpa using hk)
        · rw [right_zero hp h1 n hn j hjl (by omega), right_zero hq h2 m hm j hjl (by omega)]
  · rintro rfl; rfl
end Go.Proofs.YtmccnmccegbdjaaDoor
