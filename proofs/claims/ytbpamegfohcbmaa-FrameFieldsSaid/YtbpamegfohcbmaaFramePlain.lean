/- Plain laws on frames' bytes. -/
import Derived.Test.YtbpamegfohcbmaaFrameRead
namespace Go.Proofs.Ytbpamegfohcbmaa
open Go.RowKit
set_option linter.unusedVariables false
set_option linter.unusedSimpArgs false
theorem be_bev : ∀ l : List UInt8, be (bev l) l.length = l := by
  intro l
  induction h : l.length generalizing l with
  | zero => rw [List.length_eq_zero_iff.1 h]; rfl
  | succ n ih =>
    have hne : l ≠ [] := fun e => by rw [e] at h; cases h
    obtain ⟨m, b, rfl⟩ : ∃ m b, l = m ++ [b] := ⟨l.dropLast, l.getLast hne, (List.dropLast_concat_getLast hne).symm⟩
    have hm : m.length = n := by simpa using h
    have hb := b.toNat_lt
    rw [be_snoc, bev_snoc, show (256 * bev m + b.toNat) / 256 = bev m by omega, ih m hm]
    congr 2
    apply UInt8.toNat_inj.1
    rw [UInt8.toNat_ofNat']; omega
theorem ext_data (s : ByteArray) (a b : Nat) : (s.extract a b).data.toList = (s.data.toList.take b).drop a := by
  rw [ByteArray.data_extract, Array.toList_extract]
  simp [List.extract, List.drop_take]
theorem printB_size (f : Fn) : (printB f).size = 19 + f.d.size := by unfold printB; rw [sealB_size, bodyB_size]; omega
theorem body_data (f : Fn) : (bodyB f).data.toList = headL f ++ f.d.data.toList := rfl
theorem print_data (f : Fn) : (printB f).data.toList = headL f ++ (f.d.data.toList ++ le4 (sum (bodyB f).data.toList)) := by
  unfold printB; rw [sealB_data, sealL, body_data, List.append_assoc]
theorem head_len (f : Fn) (r : List UInt8) : ((headL f ++ r).take 15).drop 13 = be f.d.size 2 := rfl
theorem print_number (f : Fn) (h : f.good) : bev ((printB f).extract 13 15).data.toList = f.d.size := by
  rw [ext_data, print_data, head_len, bev_be]
  have := h.d; omega
theorem readFr_body (f : Fn) (h : f.good) : readFr (bodyB f) = f.fr := by
  have h1 : ((bodyB f).data.toList.headD 0).toNat = f.k := by
    rw [body_data]
    show (UInt8.ofNat (f.k / 256 ^ 0)).toNat = _
    rw [UInt8.toNat_ofNat']; have := h.k; omega
  have h2 : bev ((bodyB f).extract 1 5).data.toList = f.s := by
    rw [ext_data, body_data, show ((headL f ++ f.d.data.toList).take 5).drop 1 = be f.s 4 from rfl, bev_be]; have := h.s; omega
  have h3 : bev ((bodyB f).extract 5 9).data.toList = f.e := by
    rw [ext_data, body_data, show ((headL f ++ f.d.data.toList).take 9).drop 5 = be f.e 4 from rfl, bev_be]; have := h.e; omega
  have h4 : bev ((bodyB f).extract 9 11).data.toList = f.i := by
    rw [ext_data, body_data, show ((headL f ++ f.d.data.toList).take 11).drop 9 = be f.i 2 from rfl, bev_be]; have := h.i; omega
  have h5 : bev ((bodyB f).extract 11 13).data.toList = f.t := by
    rw [ext_data, body_data, show ((headL f ++ f.d.data.toList).take 13).drop 11 = be f.t 2 from rfl, bev_be]; have := h.t; omega
  have h6 : (bodyB f).extract 15 (bodyB f).size = f.d := by
    apply bytes_ext
    rw [ext_data, bodyB_size, body_data, List.take_of_length_le (by rw [List.length_append, headL_length]; exact Nat.le_refl _), List.drop_append_of_le_length (by rw [headL_length]; omega), List.drop_of_length_le (by rw [headL_length]; omega), List.nil_append]
  unfold readFr Fn.fr
  rw [h1, h2, h3, h4, h5, h6]
theorem read_print (f : Fn) (h : f.good) : readB (printB f) = (f.fr, 0) := by
  unfold readB
  have hs := printB_size f
  rw [if_neg (by omega), if_neg (by rw [print_number f h]; omega)]
  unfold printB
  rw [open_seal, if_neg (fun h => h rfl)]
  simp only
  rw [readFr_body f h, if_pos h.ok]
theorem head_split (l : List UInt8) : l.take 1 ++ (l.take 5).drop 1 ++ (l.take 9).drop 5 ++ (l.take 11).drop 9 ++ (l.take 13).drop 11 ++ (l.take 15).drop 13 ++ l.drop 15 = l := by
  have st : ∀ a b, a ≤ b → l.take a ++ (l.take b).drop a = l.take b := fun a b h => by
    have := List.take_append_drop a (l.take b)
    rwa [List.take_take, Nat.min_eq_left h] at this
  rw [st 1 5 (by omega), st 5 9 (by omega), st 9 11 (by omega), st 11 13 (by omega), st 13 15 (by omega), List.take_append_drop]
theorem be_one (c : UInt8) : be c.toNat 1 = [c] := by
  have := be_bev [c]
  simpa [bev] using this
/-- What is read is what is written. -/
theorem read_good (s : ByteArray) (g : Fr) (h : readB s = (g, 0)) : ∃ f : Fn, f.good ∧ g = f.fr ∧ s = printB f := by
  unfold readB at h
  by_cases h1 : s.size < 19
  · rw [if_pos h1] at h; cases (Prod.mk.inj h).2
  rw [if_neg h1] at h
  by_cases h2 : s.size ≠ 19 + bev (s.extract 13 15).data.toList
  · rw [if_pos h2] at h; cases (Prod.mk.inj h).2
  rw [if_neg h2] at h
  by_cases h3 : (openB s).2 ≠ 0
  · rw [if_pos h3] at h; cases (Prod.mk.inj h).2
  rw [if_neg h3] at h
  by_cases h4 : (readFr (openB s).1).ok
  · rw [if_pos h4] at h
    have hg := (Prod.mk.inj h).1
    subst hg
    obtain ⟨f, hf, he⟩ := Fr.good h4
    refine ⟨f, hf, he, ?_⟩
    rcases open_codes s h1 with ⟨h5, -⟩ | ⟨h5, h6⟩
    · omega
    have hseal : sealB (s.extract 0 (s.size - 4)) = s := by
      unfold openB at h5
      rw [if_neg (by omega)] at h5
      by_cases hq : sealB (s.extract 0 (s.size - 4)) = s
      · exact hq
      · rw [if_neg hq] at h5; cases h5
    rw [h6] at he
    have hts : (s.extract 0 (s.size - 4)).size = s.size - 4 := by rw [ByteArray.size_extract]; omega
    have hlen : s.extract 13 15 = (s.extract 0 (s.size - 4)).extract 13 15 := by
      apply bytes_ext
      rw [ext_data, ext_data, ext_data, List.drop_zero, List.take_take, Nat.min_eq_left (by omega)]
    rw [hlen] at h2
    generalize s.extract 0 (s.size - 4) = t at *
    have hb : bodyB f = t := by
      apply bytes_ext
      rw [body_data]
      obtain ⟨k, a, e, i, n, d⟩ := f
      unfold readFr Fn.fr at he
      simp only [Fr.mk.injEq, Int.ofNat_inj] at he
      obtain ⟨e1, e2, e3, e4, e5, e6⟩ := he
      have hd : d.size = bev (t.extract 13 15).data.toList := by
        rw [← e6, ByteArray.size_extract]; omega
      have hx : ∀ a b, b ≤ t.size → ((t.data.toList.take b).drop a).length = b - a := fun a b h => by
        rw [List.length_drop, List.length_take, show t.data.toList.length = t.size from rfl, Nat.min_eq_left h]
      have hB : ∀ a b, b ≤ t.size → be (bev (t.extract a b).data.toList) (b - a) = (t.data.toList.take b).drop a := fun a b h => by
        rw [ext_data]
        have := be_bev ((t.data.toList.take b).drop a)
        rwa [hx a b h] at this
      have hh : headL ⟨k, a, e, i, n, d⟩ = t.data.toList.take 1 ++ (t.data.toList.take 5).drop 1 ++ (t.data.toList.take 9).drop 5 ++ (t.data.toList.take 11).drop 9 ++ (t.data.toList.take 13).drop 11 ++ (t.data.toList.take 15).drop 13 := by
        unfold headL
        simp only
        have h0 : be k 1 = t.data.toList.take 1 := by
          rw [← e1, be_one]
          have : 0 < t.data.toList.length := by show 0 < t.size; omega
          match hl : t.data.toList, this with
          | c :: r, _ => rfl
        rw [h0, ← e2, ← e3, ← e4, ← e5, hd, hB 1 5 (by omega), hB 5 9 (by omega), hB 9 11 (by omega), hB 11 13 (by omega), hB 13 15 (by omega)]
      rw [hh]
      have hd2 : d.data.toList = t.data.toList.drop 15 := by
        rw [← e6, ext_data, show t.size = t.data.toList.length from rfl, List.take_length]
      simp only
      rw [hd2]
      exact head_split _
    unfold printB
    rw [hb, hseal]
  · rw [if_neg h4] at h; cases (Prod.mk.inj h).2
theorem fr_inj {f g : Fn} (h : f.fr = g.fr) : f = g := by
  obtain ⟨k, s, e, i, t, d⟩ := f
  obtain ⟨k', s', e', i', t', d'⟩ := g
  simp only [Fn.fr, Fr.mk.injEq, Int.ofNat_inj] at h
  obtain ⟨rfl, rfl, rfl, rfl, rfl, rfl⟩ := h
  rfl
theorem print_inj {f g : Fn} (hf : f.good) (hg : g.good) (h : printB f = printB g) : f = g := by
  have h1 := read_print f hf
  rw [h, read_print g hg] at h1
  exact (fr_inj (Prod.mk.inj h1).1).symm
/-- Bytes whose length is another one than they say. -/
theorem read_form (u : ByteArray) (h : ¬ u.size < 19) (h2 : u.size ≠ 19 + bev (u.extract 13 15).data.toList) : readB u = (Fr.zero, 4) := by
  unfold readB; rw [if_neg h, if_pos h2]
theorem read_burst (f : Fn) (u : ByteArray) (hs : u.size = (printB f).size) (ho : (openB u).2 = 5) : readB u = (Fr.zero, 4) ∨ readB u = (Fr.zero, 5) := by
  have h := printB_size f
  unfold readB
  rw [if_neg (by omega)]
  split
  · exact .inl rfl
  · rw [if_pos (by omega)]; exact .inr rfl
theorem read_cut (f : Fn) (hf : f.good) (c : Nat) (hc : c < (printB f).size) : readB ((printB f).extract 0 c) = (Fr.zero, 3) ∨ readB ((printB f).extract 0 c) = (Fr.zero, 4) := by
  have h := printB_size f
  have hz : ((printB f).extract 0 c).size = c := by rw [ByteArray.size_extract]; omega
  by_cases h1 : c < 19
  · left; unfold readB; rw [if_pos (by omega)]
  · right
    refine read_form _ (by omega) ?_
    have e : ((printB f).extract 0 c).extract 13 15 = (printB f).extract 13 15 := by
      apply bytes_ext
      rw [ext_data, ext_data, ext_data, List.drop_zero, List.take_take, Nat.min_eq_left (by omega)]
    rw [e, print_number f hf]; omega
theorem read_more (f : Fn) (hf : f.good) (m : ByteArray) (hm : m.size ≠ 0) : readB (printB f ++ m) = (Fr.zero, 4) := by
  have h := printB_size f
  have hz : (printB f ++ m).size = (printB f).size + m.size := ByteArray.size_append
  refine read_form _ (by omega) ?_
  have e : (printB f ++ m).extract 13 15 = (printB f).extract 13 15 := by
    apply bytes_ext
    rw [ext_data, ext_data, ByteArray.data_append, Array.toList_append, List.take_append_of_le_length (by show 15 ≤ (printB f).size; omega)]
  rw [e, print_number f hf]; omega
end Go.Proofs.Ytbpamegfohcbmaa
