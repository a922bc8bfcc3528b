/- The walk of the law ReceiverOrder. -/
import Derived.Test.YtpgcdfdfbcmodaaRecOrdP
import Derived.Test.YtpgcdfdfbcmodaaQuietMade
namespace Go.Proofs.Ytpgcdfdfbcmodaa
open Go.RowKit
set_option linter.unusedVariables false
set_option linter.unusedSimpArgs false
/-- A pointer to a map that stands there. -/
def MpPost (B : List Bool) (u : Value) (w : World) : Prop := ∃ g, u = .pointer (some ⟨g, 0, none⟩) ∧ Mp B g w
theorem MpPost.grows {B : List Bool} {u : Value} {w w' : World} (h : MpPost B u w) (hg : Lib.Grows w w') : MpPost B u w' := by
  obtain ⟨g, h1, h2⟩ := h; exact ⟨g, h1, h2.below hg⟩
set_option maxRecDepth 100000 in
set_option maxHeartbeats 16000000 in
theorem ReceiverOrder_walk (v0 : Value) (C : List ByteArray) (v1 : Value) (ys : List Nat) (w : World)
    (w0 : ∃ ad cap, v0 = .slice ad C.length cap ∧ C.length ≤ maxLen ∧ (C ≠ [] → ∃ g o, ad = some ⟨g, o, none⟩ ∧ ∀ (j : Nat) x, C[j]? = some x → w.cell? ⟨g, o + j, none⟩ = some (.string x)))
    (w1 : ∃ ad cap, v1 = .slice ad ys.length cap ∧ (∀ (j : Nat) x, ys[j]? = some x → x < 256) ∧ ys.length ≤ 140737488351232 ∧ (ys ≠ [] → ∃ g o, ad = some ⟨g, o, none⟩ ∧ ∀ (j : Nat) x, ys[j]? = some x → w.cell? ⟨g, o + j, none⟩ = some (.int .u8 (x : Int)))) :
    Calls Try.prog 9 #[v0, v1] w fun e w' => e = .returned (.bool true) ∧ Below w.heap.size w w' := by
  obtain ⟨adx, capx, rfl, hnC, hxs⟩ := w0
  obtain ⟨ady, capy, rfl, hy256, hny, hys⟩ := w1
  have HXS := Lib.hid hxs; have HYS := Lib.hid hys; have HY := Lib.hid hy256; clear hxs hys hy256
  by_cases hgood : 1 ≤ C.length ∧ C.length ≤ 50 ∧ ys.length ≤ 300
  · obtain ⟨g1, g2, g3⟩ := hgood
    obtain ⟨gx, ox, rfl, hcx⟩ := HXS.out (by intro e; rw [e] at g1; simp at g1)
    have HCX := Lib.hid hcx; clear hcx HXS
    have i1 : decide ((C.length : Int) < 1) = false := by simp; omega
    have i2 : decide (50 < (C.length : Int)) = false := by simp; omega
    have i3 : decide (300 < (ys.length : Int)) = false := by simp; omega
    obtain ⟨n, hn⟩ : ∃ n, C.length = n := ⟨_, rfl⟩
    have HN := Lib.hid hn
    rw [hn] at g1 g2 i1 i2 hnC ⊢
    clear hn
    have hb0 := ((Below.refl w.heap.size w).alloc (Nat.le_refl _) (.cells #[.slice (some ⟨gx, ox, none⟩) n capx] 51)).alloc (by simp) (.cells #[.int .i64 (n : Int)] 3)
    have hq3 := (Below.heap_alloc (w.alloc (.cells #[.slice (some ⟨gx, ox, none⟩) n capx] 51)) (.cells #[.int .i64 (n : Int)] 3) w.heap.size (by simp)).trans (heap_alloc_new w (.cells #[.slice (some ⟨gx, ox, none⟩) n capx] 51))
    have hq2 := heap_alloc_new (w.alloc (.cells #[.slice (some ⟨gx, ox, none⟩) n capx] 51)) (.cells #[.int .i64 (n : Int)] 3)
    rw [show (w.alloc (.cells #[.slice (some ⟨gx, ox, none⟩) n capx] 51)).heap.size = w.heap.size + 1 by simp] at hq2
    have HB0 := Lib.hid hb0; have HQ3 := Lib.hid hq3; have HQ2 := Lib.hid hq2; clear hb0 hq3 hq2
    go_enter Try.func9, Try.ntmps9
    go_wp2_with fail
    refine (awake_calls _).mono ?_
    generalize (w.alloc (.cells #[.slice (some ⟨gx, ox, none⟩) n capx] 51)).alloc (.cells #[.int .i64 (n : Int)] 3) = x0 at *
    rintro e x1 ⟨rfl, hb⟩
    have h3 := (hb.block _ (Array.getElem?_eq_some_iff.1 HQ3.out).1).trans HQ3.out
    have h2 := (hb.block _ (Array.getElem?_eq_some_iff.1 HQ2.out).1).trans HQ2.out
    have c3 : x1.cell? ⟨w.heap.size, 0, none⟩ = some (.slice (some ⟨gx, ox, none⟩) n capx) := by rw [cell_of_row _ _ 0 _ _ _ h3]; rfl
    have c2 : x1.cell? ⟨w.heap.size + 1, 0, none⟩ = some (.int .i64 n) := by rw [cell_of_row _ _ 0 _ _ _ h2]; rfl
    have HB1 := Lib.hid (bn HB0.out hb); have H3 := Lib.hid h3; have H2 := Lib.hid h2
    clear hb h3 h2 HB0 HQ3 HQ2
    go_wp2
    go_loopw [6, 37] (fun s6 s37 wr => ∃ (j : Nat) (t : ByteArray), s6 = .string t ∧ s37 = .int .i64 j ∧ j ≤ n ∧ Hid (t.data.toList = flatC (C.take j)) ∧ t.size ≤ 1000 * j ∧ Hid (∀ k, k < j → (C.getD k ⟨#[]⟩).size ≤ 1000) ∧ wr = x1) (fun _ s37 _ => n - (intOf s37).toNat)
    case atStart => exact ⟨0, ⟨#[]⟩, rfl, rfl, by omega, Lib.hid (by simp [flatC]), Nat.zero_le _, Lib.hid (fun k hk => by omega), by first | rfl | trivial⟩
    case round =>
      obtain ⟨wo, rfl⟩ : ∃ wo : World, wo = wr := ⟨_, rfl⟩
      obtain ⟨j, t, rfl, rfl, hj, ht, hts, hk, rfl⟩ := hrel
      by_cases hlt : j < n
      · have hx : C[j]? = some (C[j]'(by rw [HN.out]; exact hlt)) := List.getElem?_eq_getElem _
        have hc := (HB1.out.cell (World.block_lt_of_cell? w _ (HCX.out j _ hx))).trans (HCX.out j _ hx)
        have hgd : C.getD j ⟨#[]⟩ = C[j]'(by rw [HN.out]; exact hlt) := by rw [List.getD_eq_getElem?_getD, hx]; rfl
        have htk : C.take (j + 1) = C.take j ++ [C[j]'(by rw [HN.out]; exact hlt)] := by rw [List.take_add_one, hx]; rfl
        generalize (C[j]'(by rw [HN.out]; exact hlt)) = c at *
        have HTK := Lib.hid htk; have HGD := Lib.hid hgd
        clear hx htk hgd
        have hjI : (j : Int) < (n : Int) := by omega
        by_cases hbig : 1000 < (c.size : Int)
        · have hbd : decide (1000 < (c.size : Int)) = true := by simpa using hbig
          go_wp2
          go_ret
          exact ⟨rfl, HB1.out⟩
        · have hbd : decide (1000 < (c.size : Int)) = false := by simpa using hbig
          have hsum : ¬ 9223372036854775807 < t.size + c.size := by omega
          have HCS : Hid (c.size ≤ 1000) := Lib.hid (by omega)
          clear hbig
          go_wp2
          refine ⟨⟨j + 1, t ++ c, by first | rfl | trivial, by go_num, by omega, Lib.hid ?_, ?_, Lib.hid ?_, by first | rfl | trivial⟩, by simp only [intOf]; omega⟩
          · rw [HTK.out]
            have := ht.out
            simp [flatC] at this ⊢
            rw [this]
          · have := HCS.out; rw [ByteArray.size_append]; omega
          · intro k hk2
            by_cases h : k = j
            · subst h; rw [HGD.out]; exact HCS.out
            · exact hk.out k (by omega)
      · obtain rfl : j = n := by omega
        rw [List.take_of_length_le (by rw [HN.out]; omega)] at ht
        have hnew := RNew_good wo 1 2 j (by decide) (by decide) (by decide) (by decide) g1 (by omega)
        have hord := ord_start j C
        generalize Rv.start 1 2 j = R0 at *
        have HNEW := Lib.hid hnew; have HORD := Lib.hid hord
        clear hnew hord
        go_wp2_with fail
        refine HNEW.out.mono ?_
        rintro e w3 ⟨a, rfl, hv, hb, hka⟩
        have hl3 := (Array.getElem?_eq_some_iff.1 H3.out).1
        have hl2 := (Array.getElem?_eq_some_iff.1 H2.out).1
        have n3 : w.heap.size ∉ a.all := fun h => by have := hka _ h; omega
        have n2 : w.heap.size + 1 ∉ a.all := fun h => by have := hka _ h; omega
        have n1 : w3.heap.size ∉ a.all := fun h => by have := hv.lt _ h; omega
        have hba := (Below.refl w3.heap.size w3).alloc (Nat.le_refl _) (.cells #[.pointer (some ⟨a.g, 0, none⟩)] 23)
        have hp1 := heap_alloc_new w3 (.cells #[.pointer (some ⟨a.g, 0, none⟩)] 23)
        have h33 := (hb.block _ hl3).trans H3.out
        have h23 := (hb.block _ hl2).trans H2.out
        have h34 := (hba.block _ (Array.getElem?_eq_some_iff.1 h33).1).trans h33
        have h24 := (hba.block _ (Array.getElem?_eq_some_iff.1 h23).1).trans h23
        have HB4 := Lib.hid (bn (bn HB1.out hb) hba); have HV4 := Lib.hid (hv.below hba (Nat.le_refl _))
        have HKA : Hid (∀ k ∈ a.all, w.heap.size ≤ k) := Lib.hid fun k h => by have := hka k h; have := HB1.out.size; omega
        have HP := Lib.hid (And.intro hp1 (And.intro h24 h34)); have HNN := Lib.hid (And.intro n1 (And.intro n2 n3))
        have q3 : (w3.alloc (.cells #[.pointer (some ⟨a.g, 0, none⟩)] 23)).cell? ⟨w.heap.size, 0, none⟩ = some (.slice (some ⟨gx, ox, none⟩) j capx) := by rw [cell_of_row _ _ 0 _ _ _ h34]; rfl
        have q2 : (w3.alloc (.cells #[.pointer (some ⟨a.g, 0, none⟩)] 23)).cell? ⟨w.heap.size + 1, 0, none⟩ = some (.int .i64 j) := by rw [cell_of_row _ _ 0 _ _ _ h24]; rfl
        clear hv hb hka hl3 hl2 n3 n2 n1 hba hp1 h33 h23 h34 h24 H3 H2 HB1 HNEW
        go_wp2
        generalize w3.alloc (.cells #[.pointer (some ⟨a.g, 0, none⟩)] 23) = w4 at *
        generalize w3.heap.size = b1 at *
        go_loopw [56] (fun s wr => ∃ (m : Nat) (R : Rv), s = .int .i64 m ∧ m ≤ ys.length ∧ Hid (RvAt R a wr) ∧ Hid (OrdR j C (m) R) ∧ Hid (wr.heap[b1]? = some (.cells #[.pointer (some ⟨a.g, 0, none⟩)] 23) ∧ wr.heap[w.heap.size + 1]? = some (.cells #[.int .i64 (j : Int)] 3) ∧ wr.heap[w.heap.size]? = some (.cells #[.slice (some ⟨gx, ox, none⟩) j capx] 51)) ∧ Hid (Below w.heap.size w wr)) (fun s _ => ys.length - (intOf s).toNat)
        case atStart => exact ⟨0, R0, rfl, by omega, HV4, HORD, HP, HB4⟩
        case round =>
          clear HV4 HORD HP HB4 q3 q2 c3 c2
          obtain ⟨wo, rfl⟩ : ∃ wo : World, wo = wr := ⟨_, rfl⟩
          obtain ⟨m, R, rfl, hm, hv, ho, hp, hb⟩ := hrel
          have c1 : wo.cell? ⟨b1, 0, none⟩ = some (.pointer (some ⟨a.g, 0, none⟩)) := by rw [cell_of_row _ _ 0 _ _ _ hp.out.1]; rfl
          have c2 : wo.cell? ⟨w.heap.size + 1, 0, none⟩ = some (.int .i64 j) := by rw [cell_of_row _ _ 0 _ _ _ hp.out.2.1]; rfl
          have c3 : wo.cell? ⟨w.heap.size, 0, none⟩ = some (.slice (some ⟨gx, ox, none⟩) j capx) := by rw [cell_of_row _ _ 0 _ _ _ hp.out.2.2]; rfl
          by_cases hlt2 : m < ys.length
          · obtain ⟨gy, oy, rfl, hcy⟩ := HYS.out (by intro e; subst e; simp at hlt2)
            have hy := List.getElem?_eq_getElem hlt2
            have hcy := (hb.out.cell (World.block_lt_of_cell? w _ (hcy m _ hy))).trans (hcy m _ hy)
            have hy256 := HY.out m _ hy
            generalize hyy : ys[m] = y at *
            clear hy hyy HYS HY
            have hmI : (m : Int) < (ys.length : Int) := by omega
            have hij : y % j < j := Nat.mod_lt _ (by omega)
            have hrem : (y : Int).tmod (j : Int) = ((y % j : Nat) : Int) := by rw [Int.tmod_eq_emod_of_nonneg (by omega)]; simp
            have hj0 : ((j : Int) == 0) = false := by simp; omega
            generalize y % j = i at *
            have hxi : C[i]? = some (C.getD i ⟨#[]⟩) := by rw [List.getD_eq_getElem?_getD, List.getElem?_eq_getElem (by rw [HN.out]; exact hij)]; rfl
            have hci := (hb.out.cell (World.block_lt_of_cell? w _ (HCX.out i _ hxi))).trans (HCX.out i _ hxi)
            have htk := take_one wo R a b1 (w.heap.size + 1) w.heap.size gx ox i j capx (C.getD i ⟨#[]⟩) hv.out (by have := ho.out.k; omega) (fun e => by have := ho.out.b e; omega) c1 c2 c3 hij hci
            have hot := ord_take ho.out i hij (by omega) (hk.out i hij)
            have HTK := Lib.hid htk; have HOT := Lib.hid hot
            clear htk hot hci hxi
            go_wp2_with fail
            refine HTK.out.mono ?_
            rintro e x5 ⟨rfl, hv5, hg5⟩
            have HV5 := Lib.hid hv5
            have HP5 := Lib.hid (And.intro ((hg5.other _ (Array.getElem?_eq_some_iff.1 hp.out.1).1 HNN.out.1).trans hp.out.1) (And.intro ((hg5.other _ (Array.getElem?_eq_some_iff.1 hp.out.2.1).1 HNN.out.2.1).trans hp.out.2.1) ((hg5.other _ (Array.getElem?_eq_some_iff.1 hp.out.2.2).1 HNN.out.2.2).trans hp.out.2.2)))
            have HB5 := Lib.hid (hb.out.trans (hg5.below HKA.out hb.out.size))
            have HO5 := Lib.hid HOT.out.1
            clear hv5 hg5 HOT HTK
            go_wp2
            exact ⟨⟨m + 1, _, by go_num, by omega, HV5, HO5, HP5, HB5⟩, by simp only [intOf]; omega⟩
          · obtain rfl : m = ys.length := by omega
            have HRV := hv; have HRO := ho; have HRP := hp; have HRB := hb
            clear hv ho hp hb c1 c3
            go_wp2
            go_loopw [68] (fun s wr => ∃ (m : Nat) (R : Rv), s = .int .i64 m ∧ m ≤ j ∧ Hid (RvAt R a wr) ∧ Hid (OrdR j C (ys.length + m) R) ∧ Hid (∀ k, j - m ≤ k → k < j → R.B.getD k false = true) ∧ Hid (wr.heap[b1]? = some (.cells #[.pointer (some ⟨a.g, 0, none⟩)] 23) ∧ wr.heap[w.heap.size + 1]? = some (.cells #[.int .i64 (j : Int)] 3) ∧ wr.heap[w.heap.size]? = some (.cells #[.slice (some ⟨gx, ox, none⟩) j capx] 51)) ∧ Hid (Below w.heap.size w wr)) (fun s _ => j - (intOf s).toNat)
            case atStart => exact ⟨0, R, rfl, by omega, HRV, HRO, Lib.hid (fun k h1 h2 => by omega), HRP, HRB⟩
            case round =>
              clear HRV HRO HRP HRB c2
              obtain ⟨wo, rfl⟩ : ∃ wo : World, wo = wr := ⟨_, rfl⟩
              obtain ⟨m, R, rfl, hm, hv, ho, hall, hp, hb⟩ := hrel
              have c1 : wo.cell? ⟨b1, 0, none⟩ = some (.pointer (some ⟨a.g, 0, none⟩)) := by rw [cell_of_row _ _ 0 _ _ _ hp.out.1]; rfl
              have c2 : wo.cell? ⟨w.heap.size + 1, 0, none⟩ = some (.int .i64 j) := by rw [cell_of_row _ _ 0 _ _ _ hp.out.2.1]; rfl
              have c3 : wo.cell? ⟨w.heap.size, 0, none⟩ = some (.slice (some ⟨gx, ox, none⟩) j capx) := by rw [cell_of_row _ _ 0 _ _ _ hp.out.2.2]; rfl
              by_cases hlt3 : m < j
              · have hmI : (m : Int) < (j : Int) := by omega
                obtain ⟨i, hi⟩ : ∃ i, i = j - 1 - m := ⟨_, rfl⟩
                have hij : i < j := by omega
                have hsub : (j : Int) - 1 - (m : Int) = (i : Int) := by omega
                have hxi : C[i]? = some (C.getD i ⟨#[]⟩) := by rw [List.getD_eq_getElem?_getD, List.getElem?_eq_getElem (by rw [HN.out]; exact hij)]; rfl
                have hci := (hb.out.cell (World.block_lt_of_cell? w _ (HCX.out i _ hxi))).trans (HCX.out i _ hxi)
                have htk := take_one wo R a b1 (w.heap.size + 1) w.heap.size gx ox i j capx (C.getD i ⟨#[]⟩) hv.out (by have := ho.out.k; omega) (fun e => by have := ho.out.b e; omega) c1 c2 c3 hij hci
                have hot := ord_take ho.out i hij (by omega) (hk.out i hij)
                have HTK := Lib.hid htk; have HOT := Lib.hid hot; have HI := Lib.hid hi
                clear htk hot hci hxi hi
                go_wp2_with fail
                refine HTK.out.mono ?_
                rintro e x5 ⟨rfl, hv5, hg5⟩
                have HV5 := Lib.hid hv5
                have HP5 := Lib.hid (And.intro ((hg5.other _ (Array.getElem?_eq_some_iff.1 hp.out.1).1 HNN.out.1).trans hp.out.1) (And.intro ((hg5.other _ (Array.getElem?_eq_some_iff.1 hp.out.2.1).1 HNN.out.2.1).trans hp.out.2.1) ((hg5.other _ (Array.getElem?_eq_some_iff.1 hp.out.2.2).1 HNN.out.2.2).trans hp.out.2.2)))
                have HB5 := Lib.hid (hb.out.trans (hg5.below HKA.out hb.out.size))
                have HO5 := Lib.hid HOT.out.1
                have hall5 : Hid (∀ k, j - (m + 1) ≤ k → k < j → (R.take ⟨1, 1, 2, i, j, C.getD i ⟨#[]⟩⟩).2.B.getD k false = true) := Lib.hid fun k h1 h2 => by
                  by_cases h : k = i
                  · subst h; exact HOT.out.2.1
                  · exact HOT.out.2.2 k (hall.out k (by have := HI.out; omega) h2)
                clear hv5 hg5 HOT HTK
                go_wp2
                exact ⟨⟨m + 1, _, by go_num, by omega, HV5, HO5, hall5, HP5, HB5⟩, by simp only [intOf]; omega⟩
              · obtain rfl : m = j := by omega
                obtain ⟨e1, e2, e3, e4⟩ := ord_end ho.out HN.out (fun i hi => hall.out i (by omega) hi)
                have hdf := fun w' (h : RvAt R a w') => Data_full w' R a h e1
                rw [e2, show bstr (flatC C) = t from by rw [← ht.out]; rfl] at hdf
                have hdn := fun w' (h : RvAt R a w') => RDone_calls w' R a h
                rw [decide_eq_true e1] at hdn
                have hdr := fun w' (h : RvAt R a w') => RDrops_calls w' R a 9 h (by decide)
                have e9 : R.D ((9 : Nat) : Int) = ys.length := by
                  have h9 : R.D ((9 : Nat) : Int) = R.D 9 := rfl
                  rw [h9]; omega
                rw [e9] at hdr
                have hth := fun w' (h : RvAt R a w') => RThere_calls w' R a h
                have hct := fun w' g (h : Mp R.B g w') => Count_calls w' g R.B h
                rw [e4] at hct
                have HDF := Lib.hid hdf; have HDN := Lib.hid hdn; have HDR := Lib.hid hdr; have HTH := Lib.hid hth; have HCT := Lib.hid hct
                clear hdf hdn hdr hth hct e1 e2 e3 e4 e9 c3
                go_wp2_with fail
                refine (HDF.out _ hv.out).mono ?_
                rintro e x5 ⟨rfl, hb5⟩
                have hv5 := hv.out.below hb5 (Nat.le_refl _)
                have c1 := (hb5.cell (World.block_lt_of_cell? wo _ c1)).trans c1
                have c2 := (hb5.cell (World.block_lt_of_cell? wo _ c2)).trans c2
                have HV5 := Lib.hid hv5; have HB5 := Lib.hid (bn hb.out hb5)
                clear hv5 hb5
                go_wp2_with fail
                have HM := HB5
                have k1 := cell_regrown c1
                have k2 := cell_regrown c2
                have cDN : ∀ d os, Calls Try.prog 20 #[.pointer (some ⟨a.g, 0, none⟩)] (Sort.grow (redrawn x5 d) os) fun e w'' => e = .returned (.bool true) ∧ Lib.Grows (Sort.grow (redrawn x5 d) os) w'' := fun d os => Lib.Calls.grows_of (HDN.out _ (HV5.out.below (below_regrown x5 d os) (Nat.le_refl _)))
                have cDR : ∀ d os, Calls Try.prog 17 #[.pointer (some ⟨a.g, 0, none⟩), .int .i64 9] (Sort.grow (redrawn x5 d) os) fun e w'' => e = .returned (.int .i64 (ys.length : Nat)) ∧ Lib.Grows (Sort.grow (redrawn x5 d) os) w'' := fun d os => (HDR.out _ (HV5.out.below (below_regrown x5 d os) (Nat.le_refl _))).mono fun e w' ⟨h1, h2⟩ => ⟨h1, by subst h2; exact Lib.Grows.refl _⟩
                have cTH : ∀ d os, Calls Try.prog 21 #[.pointer (some ⟨a.g, 0, none⟩)] (Sort.grow (redrawn x5 d) os) fun e w'' => ∃ u, e = .returned u ∧ Lib.Grows (Sort.grow (redrawn x5 d) os) w'' ∧ MpPost R.B u w'' := fun d os => (HTH.out _ (HV5.out.below (below_regrown x5 d os) (Nat.le_refl _))).mono fun e w' ⟨h1, h2, h3, _⟩ => ⟨_, h1, h3, _, rfl, h2⟩
                clear HDN HDR HTH HV5 c1 c2
                refine Lib.wp_region_made 30 (fun k => if k = 24 then some (MpPost R.B) else none) (by kernel_rfl) (by kernel_rfl) (fun k Post h v w w' hp hg => ?_) ?_
                · simp only [] at h
                  split at h
                  · cases h; exact hp.grows hg
                  · cases h
                simp only [List.take_succ_cons, List.take_zero, List.drop_succ_cons, List.drop_zero]
                repeat (refine Lib.wpML_step (by rfl) (fun K hK => ?_); go_simp; first | (refine hK _ ?_; clear hK K) | (apply Exists.intro; refine ⟨fun _ => ?_, hK _ ?_⟩; (first | exact ⟨Lib.noInit (by kernel_rfl), cDN _ _⟩ | exact ⟨Lib.noInit (by kernel_rfl), cDR _ _⟩); clear hK K))
                refine Lib.wpML_make (Post := MpPost R.B) (by rfl) (fun K hK => ?_)
                go_simp
                first | refine fun v => hK _ _ ?_ | refine ⟨fun _ => cTH _ _, fun v => hK _ _ ?_⟩
                clear hK K
                rintro ⟨wv, hbv, g, rfl, hmv⟩
                have cCT : ∀ d os, MpPost R.B (.pointer (some ⟨g, 0, none⟩)) (Sort.grow (redrawn x5 d) os) → Calls Try.prog 28 #[.pointer (some ⟨g, 0, none⟩)] (Sort.grow (redrawn x5 d) os) fun e w'' => e = .returned (.int .i64 m) ∧ Lib.Grows (Sort.grow (redrawn x5 d) os) w'' := fun d os h => by
                  obtain ⟨g2, h1, h2⟩ := h
                  cases h1
                  exact (HCT.out _ _ h2).mono fun e w' ⟨h1, h2⟩ => ⟨h1, by subst h2; exact Lib.Grows.refl _⟩
                clear hbv hmv wv HCT
                refine Lib.wpML_use 24 (MpPost R.B (.pointer (some ⟨g, 0, none⟩))) (by rfl) (by kernel_rfl) (fun w h => h.2 rfl) (fun K hK => ?_)
                go_simp
                apply Exists.intro
                refine ⟨fun _ hR => ⟨Lib.noInit (by kernel_rfl), cCT _ _ hR⟩, hK _ ?_⟩
                clear hK K cCT
                repeat (refine Lib.wpML_step (by rfl) (fun K hK => ?_); go_simp; first | (refine hK _ ?_; clear hK K))
                refine Lib.wpML_nil ?_
                intro w2 hw2 _
                have hb2 : Below x5.heap.size x5 w2 := by obtain ⟨p, rfl⟩ := hw2; exact below_regrown x5 _ _
                have HB2 := Lib.hid (bn HM.out hb2)
                clear hw2 hb2 k1 k2 cDN cDR cTH
                go_wp2
                go_ret
                exact ⟨rfl, HB2.out⟩
  · have hb0 := ((Below.refl w.heap.size w).alloc (Nat.le_refl _) (.cells #[.slice adx C.length capx] 51)).alloc (by simp) (.cells #[.int .i64 (C.length : Int)] 3)
    have c0 : ((w.alloc (.cells #[.slice adx C.length capx] 51)).alloc (.cells #[.int .i64 (C.length : Int)] 3)).cell? ⟨w.heap.size + 1, 0, none⟩ = some (.int .i64 (C.length : Int)) := by
      rw [show w.heap.size + 1 = (w.alloc (.cells #[.slice adx C.length capx] 51)).heap.size by simp]
      exact World.cell?_alloc_new _ #[.int .i64 (C.length : Int)] 3 0
    have HB0 := Lib.hid hb0; clear hb0
    by_cases i1 : (C.length : Int) < 1
    · have i1d : decide ((C.length : Int) < 1) = true := by simpa using i1
      clear hgood i1
      go_enter Try.func9, Try.ntmps9
      go_wp2_with fail
      refine (awake_calls _).mono ?_
      rintro e x1 ⟨rfl, hb1⟩
      have H2 := Lib.hid (bn HB0.out hb1)
      have c2 := (hb1.cell (World.block_lt_of_cell? _ _ c0)).trans c0
      clear hb1
      go_wp2_with fail
      refine (awake_calls _).mono ?_
      rintro e x2 ⟨rfl, hb2⟩
      have H3 := Lib.hid (bn H2.out hb2)
      clear hb2
      go_wp2
      go_ret
      exact ⟨rfl, H3.out⟩
    · have i1d : decide ((C.length : Int) < 1) = false := by simpa using i1
      by_cases i2 : 50 < (C.length : Int)
      · have i2d : decide (50 < (C.length : Int)) = true := by simpa using i2
        clear hgood i1 i2
        go_enter Try.func9, Try.ntmps9
        go_wp2_with fail
        refine (awake_calls _).mono ?_
        rintro e x1 ⟨rfl, hb1⟩
        have H2 := Lib.hid (bn HB0.out hb1)
        have c2 := (hb1.cell (World.block_lt_of_cell? _ _ c0)).trans c0
        clear hb1
        go_wp2_with fail
        refine (awake_calls _).mono ?_
        rintro e x2 ⟨rfl, hb2⟩
        have H3 := Lib.hid (bn H2.out hb2)
        clear hb2
        go_wp2
        go_ret
        exact ⟨rfl, H3.out⟩
      · have i2d : decide (50 < (C.length : Int)) = false := by simpa using i2
        have i3d : decide (300 < (ys.length : Int)) = true := by simp; omega
        clear hgood i1 i2
        go_enter Try.func9, Try.ntmps9
        go_wp2_with fail
        refine (awake_calls _).mono ?_
        rintro e x1 ⟨rfl, hb1⟩
        have H2 := Lib.hid (bn HB0.out hb1)
        have c2 := (hb1.cell (World.block_lt_of_cell? _ _ c0)).trans c0
        clear hb1
        go_wp2_with fail
        refine (awake_calls _).mono ?_
        rintro e x2 ⟨rfl, hb2⟩
        have H3 := Lib.hid (bn H2.out hb2)
        clear hb2
        go_wp2
        go_ret
        exact ⟨rfl, H3.out⟩
end Go.Proofs.Ytpgcdfdfbcmodaa
