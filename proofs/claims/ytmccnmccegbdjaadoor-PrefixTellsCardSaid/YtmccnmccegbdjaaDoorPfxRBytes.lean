/- The walk of the reference's Bytes. (Printed by wip/print/pfxrbytes.py.) -/
import Derived.Test.YtmccnmccegbdjaaDoorPfxRText6
namespace Go.Proofs.YtmccnmccegbdjaaDoor
open Go.RowKit Go.Sort
set_option linter.unusedVariables false
set_option linter.unusedSimpArgs false
theorem bv_snoc (x : Nat) (A : List Nat) (i : Nat) (h : i < A.length) : bv (x :: A.take (i + 1)) = bv (x :: A.take i) ++ [.int .u8 ((A.getD i 0 : Nat) : Int)] := by
  have : A.take (i + 1) = A.take i ++ [A.getD i 0] := by
    rw [List.take_add_one, List.getElem?_eq_getElem h, List.getD_eq_getElem?_getD, List.getElem?_eq_getElem h]; rfl
  unfold bv
  rw [this, List.map_cons, List.map_append, List.map_cons]
  rfl
theorem bytes_right {p : Px} (h : p.right = true) : p.bytes = toBA (bytesL p) := by unfold Px.bytes; rw [if_pos h]
set_option maxRecDepth 100000 in
set_option maxHeartbeats 16000000 in
theorem RBytes_calls (w : World) (p : Px) (hp : p.wf) (hr : p.right = true) : Calls Tryd.prog 20 #[.agg p.row] w fun e w' => e = .returned (.string p.bytes) ∧ Below w.heap.size w w' := by
  have hb0 := (Below.refl w.heap.size w).alloc (Nat.le_refl _) (.cells p.row 30)
  have h0 := PxAt.new w p hp.len
  have HB0 := Lib.hid hb0; have H0 := Lib.hid h0; clear hb0 h0
  obtain ⟨n, hn, hn2⟩ := Px.right_n hr
  have hw := widthN_le p.six
  have hn128 : n ≤ 128 := by omega
  clear hn2 hw
  obtain ⟨rr, hrr⟩ : ∃ rr, rr = p.bytes := ⟨_, rfl⟩
  rw [← hrr]
  have ht := hrr.trans (bytes_right hr)
  have hbl : bytesL p = (n + 64 * kindN p.six) :: p.A.take ((n + 7) / 8) := by unfold bytesL; rw [hn]; rfl
  rw [hbl] at ht
  have HRR := Lib.hid ht; clear hrr hr ht hbl
  have HN := Lib.hid hn; clear hn
  cases e6 : p.six with
  | true =>
    rw [e6] at HRR
    have H6 := Lib.hid e6; clear e6
    have HX : Hid (n + 64 * kindN true = n + 64) := Lib.hid rfl
    obtain ⟨x, hx⟩ : ∃ x, n + 64 = x := ⟨_, rfl⟩
    have hx256 : x < 256 := by omega
    have hw1 : IntKind.i64.wrap ((n : Int) + 64) = (x : Int) := by rw [show (n : Int) + 64 = (x : Int) by omega]; exact IntWalk.i64_in _ (by omega)
    have hw3 : IntKind.u8.wrap (x : Int) = (x : Int) := by rw [IntKind.wrap_u8]; omega
    have HXX := Lib.hid hx; clear hx
    go_enter Tryd.func20, Tryd.ntmps20
    go_wp2_with (with_reducible refine wpList_mark (o := ⟨some 6, _, _, _, _, _⟩) ?_)
    generalize w.alloc (.cells p.row 30) = w1 at *
    have c6 := H0.out.six
    rw [H6.out] at c6
    have cn := H0.out.len
    rw [HN.out] at cn
    refine Marked.intro ?_
    go_wp2_with fail
    clear c6 cn
    obtain ⟨b1, hb1⟩ : ∃ b1, w1.heap.size = b1 := ⟨_, rfl⟩
    have hown0 := World.ownsRow_lit (base := b1) (e := 5) (size := 1) w1 #[.int .u8 (x : Int)] 1 (by omega) (by unfold maxLen; omega) rfl
    have HB1 := Lib.hid ((Below.refl b1 w1).alloc (by omega) (.cells #[.int .u8 (x : Int)] 5))
    have HOWN := Lib.hid hown0; clear hown0
    have HS1 := Lib.hid hb1; clear hb1
    generalize w1.alloc (.cells #[.int .u8 (x : Int)] 5) = w2 at *
    go_loopw [4, 5] (fun s4 s5 wr => ∃ (i : Nat) (v : Value), s4 = v ∧ s5 = .int .i64 i ∧ i ≤ 16 ∧ 8 * i < n + 8 ∧ Hid (wr.ownsRow b1 5 1 v (i + 1) (bv (x :: p.A.take i))) ∧ Hid (Below b1 w1 wr)) (fun _ s5 _ => 16 - (intOf s5).toNat)
    case atStart => exact ⟨0, _, rfl, rfl, by omega, by omega, HOWN, HB1⟩
    case round =>
      clear HOWN HB1
      obtain ⟨wo, rfl⟩ : ∃ wo : World, wo = wr := ⟨_, rfl⟩
      obtain ⟨i, v, rfl, rfl, hi, hi8, HOWN, HB⟩ := hrel
      have P1 := Lib.hid (H0.out.b (by have := HB.out; rw [← HS1.out] at this; exact this))
      have cn := P1.out.len
      rw [HN.out] at cn
      have hw8 : IntKind.i64.wrap (8 * (i : Int)) = 8 * (i : Int) := IntWalk.i64_in _ (by omega)
      by_cases hlt : 8 * i < n
      · have hltI : 8 * (i : Int) < (n : Int) := by omega
        have hi16 : i < 16 := by omega
        have hi16I : (i : Int) < 16 := by omega
        have hc := P1.out.byte i hi16
        have HTX := Lib.hid (bv_snoc x p.A i (by rw [hp.len]; exact hi16))
        generalize p.A.getD i 0 = y at *
        have HBS : Hid (b1 ≤ wo.heap.size) := Lib.hid (by have h1 := HB.out.size; have h3 := HS1.out; omega)
        go_wp2_with (with_reducible refine wpList_mark (o := ⟨some 28, _, _, _, _, _⟩) ?_)
        refine Marked.intro ?_
        refine wpList_push rfl _ _ 56 rfl b1 5 (.int .u8 0) 1 1 Tryd.underlying56 info_byte rfl (by omega) wo u4 (i + 1) _ rfl HOWN.out [.int .u8 (y : Int)] (by rfl) rfl (by simp [Value.oneCell']) (by omega) (by unfold maxLen; omega) HBS.out ?_
        intro v' w4 hown4 hb4 _
        rw [← HTX.out] at hown4
        have HO4 := Lib.hid hown4
        have HB4 := Lib.hid (HB.out.trans hb4)
        clear hown4 hb4 HOWN HBS HB P1
        go_wp2
        exact ⟨⟨i + 1, _, rfl, by go_num, by omega, by omega, HO4, HB4⟩, by simp only [intOf]; omega⟩
      · have hltI : ¬ 8 * (i : Int) < (n : Int) := by omega
        have HI : Hid ((n + 7) / 8 = i) := Lib.hid (by omega)
        obtain ⟨g7, c7, rfl⟩ : ∃ g cap, u4 = .slice (some ⟨g, 0, none⟩) (i + 1) cap := by
          obtain ⟨_, h⟩ := HOWN.out
          rcases h with ⟨_, h⟩ | ⟨g, cap, cur, h, _⟩
          · cases h
          · exact ⟨g, cap, h⟩
        have HCS := Lib.hid (HOWN.out.cells (g := g7) rfl)
        have hsm : ∀ z ∈ x :: p.A.take i, z < 256 := fun z hz => by
          rcases List.mem_cons.1 hz with rfl | hz
          · exact hx256
          · have hz := List.mem_of_mem_take hz
            obtain ⟨j, hj, rfl⟩ := List.mem_iff_getElem.1 hz
            have := hp.small j
            rw [List.getD_eq_getElem?_getD, List.getElem?_eq_getElem hj] at this
            exact this
        have hlen : (x :: p.A.take i).length = i + 1 := by rw [List.length_cons, List.length_take, hp.len]; omega
        have HR : Hid (rr = toBA (x :: p.A.take i)) := Lib.hid (by rw [HRR.out, HX.out, HXX.out, HI.out])
        obtain ⟨L, hL⟩ : ∃ L, L = (x :: p.A.take i).map fun z => UInt8.ofNat z := ⟨_, rfl⟩
        have HLEN : Hid (i + 1 = L.length) := Lib.hid (by rw [hL, List.length_map, hlen])
        have HCL : Hid (∀ (j : Nat) (hj : j < L.length), wo.cell? ((⟨g7, 0, none⟩ : Addr).add j) = some (.int .u8 (L[j].toNat : Int))) := Lib.hid (fun j hj => by
          subst hL
          rw [List.length_map] at hj
          have hz := hsm _ (List.getElem_mem hj)
          refine HCS.out j _ ?_
          rw [bv, List.getElem?_map, List.getElem?_eq_getElem hj, List.getElem_map, UInt8.toNat_ofNat', Nat.mod_eq_of_lt hz]
          rfl)
        have HL : Hid (toBA (x :: p.A.take i) = ⟨L.toArray⟩) := Lib.hid (by rw [hL]; rfl)
        clear hsm hlen hL HCS
        have HBO := Lib.hid (HB0.out.trans (HB.out.mono (by have h1 := HB0.out.size; have := HS1.out; omega)))
        clear HOWN HB P1
        go_wp2_with (with_reducible refine wpList_mark (o := ⟨some 30, _, _, _, _, _⟩) ?_)
        refine Marked.intro ?_
        refine wpList_run rfl (exec_bytes_back _ 56 9 5 _ rfl wo ⟨g7, 0, none⟩ (i + 1) c7 (by rfl) L HLEN.out Tryd.underlying56 Tryd.underlying5 Tryd.underlying9 HCL.out) ?_
        clear HCL HLEN
        go_wp2
        go_ret
        exact ⟨by rw [HR.out, HL.out]; rfl, HBO.out⟩
  | false =>
    rw [e6] at HRR
    have H6 := Lib.hid e6; clear e6
    have HX : Hid (n + 64 * kindN false = n) := Lib.hid rfl
    obtain ⟨x, hx⟩ : ∃ x, n = x := ⟨_, rfl⟩
    have hx256 : x < 256 := by omega
    rw [hx] at HN HX
    have hw3 : IntKind.u8.wrap (n : Int) = (n : Int) := by rw [IntKind.wrap_u8]; omega
    subst hx
    go_enter Tryd.func20, Tryd.ntmps20
    go_wp2_with (with_reducible refine wpList_mark (o := ⟨some 6, _, _, _, _, _⟩) ?_)
    generalize w.alloc (.cells p.row 30) = w1 at *
    have c6 := H0.out.six
    rw [H6.out] at c6
    have cn := H0.out.len
    rw [HN.out] at cn
    refine Marked.intro ?_
    go_wp2_with fail
    clear c6 cn
    obtain ⟨b1, hb1⟩ : ∃ b1, w1.heap.size = b1 := ⟨_, rfl⟩
    have hown0 := World.ownsRow_lit (base := b1) (e := 5) (size := 1) w1 #[.int .u8 (n : Int)] 1 (by omega) (by unfold maxLen; omega) rfl
    have HB1 := Lib.hid ((Below.refl b1 w1).alloc (by omega) (.cells #[.int .u8 (n : Int)] 5))
    have HOWN := Lib.hid hown0; clear hown0
    have HS1 := Lib.hid hb1; clear hb1
    generalize w1.alloc (.cells #[.int .u8 (n : Int)] 5) = w2 at *
    go_loopw [4, 5] (fun s4 s5 wr => ∃ (i : Nat) (v : Value), s4 = v ∧ s5 = .int .i64 i ∧ i ≤ 16 ∧ 8 * i < n + 8 ∧ Hid (wr.ownsRow b1 5 1 v (i + 1) (bv (n :: p.A.take i))) ∧ Hid (Below b1 w1 wr)) (fun _ s5 _ => 16 - (intOf s5).toNat)
    case atStart => exact ⟨0, _, rfl, rfl, by omega, by omega, HOWN, HB1⟩
    case round =>
      clear HOWN HB1
      obtain ⟨wo, rfl⟩ : ∃ wo : World, wo = wr := ⟨_, rfl⟩
      obtain ⟨i, v, rfl, rfl, hi, hi8, HOWN, HB⟩ := hrel
      have P1 := Lib.hid (H0.out.b (by have := HB.out; rw [← HS1.out] at this; exact this))
      have cn := P1.out.len
      rw [HN.out] at cn
      have hw8 : IntKind.i64.wrap (8 * (i : Int)) = 8 * (i : Int) := IntWalk.i64_in _ (by omega)
      by_cases hlt : 8 * i < n
      · have hltI : 8 * (i : Int) < (n : Int) := by omega
        have hi16 : i < 16 := by omega
        have hi16I : (i : Int) < 16 := by omega
        have hc := P1.out.byte i hi16
        have HTX := Lib.hid (bv_snoc n p.A i (by rw [hp.len]; exact hi16))
        generalize p.A.getD i 0 = y at *
        have HBS : Hid (b1 ≤ wo.heap.size) := Lib.hid (by have h1 := HB.out.size; have h3 := HS1.out; omega)
        go_wp2_with (with_reducible refine wpList_mark (o := ⟨some 28, _, _, _, _, _⟩) ?_)
        refine Marked.intro ?_
        refine wpList_push rfl _ _ 56 rfl b1 5 (.int .u8 0) 1 1 Tryd.underlying56 info_byte rfl (by omega) wo u4 (i + 1) _ rfl HOWN.out [.int .u8 (y : Int)] (by rfl) rfl (by simp [Value.oneCell']) (by omega) (by unfold maxLen; omega) HBS.out ?_
        intro v' w4 hown4 hb4 _
        rw [← HTX.out] at hown4
        have HO4 := Lib.hid hown4
        have HB4 := Lib.hid (HB.out.trans hb4)
        clear hown4 hb4 HOWN HBS HB P1
        go_wp2
        exact ⟨⟨i + 1, _, rfl, by go_num, by omega, by omega, HO4, HB4⟩, by simp only [intOf]; omega⟩
      · have hltI : ¬ 8 * (i : Int) < (n : Int) := by omega
        have HI : Hid ((n + 7) / 8 = i) := Lib.hid (by omega)
        obtain ⟨g7, c7, rfl⟩ : ∃ g cap, u4 = .slice (some ⟨g, 0, none⟩) (i + 1) cap := by
          obtain ⟨_, h⟩ := HOWN.out
          rcases h with ⟨_, h⟩ | ⟨g, cap, cur, h, _⟩
          · cases h
          · exact ⟨g, cap, h⟩
        have HCS := Lib.hid (HOWN.out.cells (g := g7) rfl)
        have hsm : ∀ z ∈ n :: p.A.take i, z < 256 := fun z hz => by
          rcases List.mem_cons.1 hz with rfl | hz
          · exact hx256
          · have hz := List.mem_of_mem_take hz
            obtain ⟨j, hj, rfl⟩ := List.mem_iff_getElem.1 hz
            have := hp.small j
            rw [List.getD_eq_getElem?_getD, List.getElem?_eq_getElem hj] at this
            exact this
        have hlen : (n :: p.A.take i).length = i + 1 := by rw [List.length_cons, List.length_take, hp.len]; omega
        have HR : Hid (rr = toBA (n :: p.A.take i)) := Lib.hid (by rw [HRR.out, HX.out, HI.out])
        obtain ⟨L, hL⟩ : ∃ L, L = (n :: p.A.take i).map fun z => UInt8.ofNat z := ⟨_, rfl⟩
        have HLEN : Hid (i + 1 = L.length) := Lib.hid (by rw [hL, List.length_map, hlen])
        have HCL : Hid (∀ (j : Nat) (hj : j < L.length), wo.cell? ((⟨g7, 0, none⟩ : Addr).add j) = some (.int .u8 (L[j].toNat : Int))) := Lib.hid (fun j hj => by
          subst hL
          rw [List.length_map] at hj
          have hz := hsm _ (List.getElem_mem hj)
          refine HCS.out j _ ?_
          rw [bv, List.getElem?_map, List.getElem?_eq_getElem hj, List.getElem_map, UInt8.toNat_ofNat', Nat.mod_eq_of_lt hz]
          rfl)
        have HL : Hid (toBA (n :: p.A.take i) = ⟨L.toArray⟩) := Lib.hid (by rw [hL]; rfl)
        clear hsm hlen hL HCS
        have HBO := Lib.hid (HB0.out.trans (HB.out.mono (by have h1 := HB0.out.size; have := HS1.out; omega)))
        clear HOWN HB P1
        go_wp2_with (with_reducible refine wpList_mark (o := ⟨some 30, _, _, _, _, _⟩) ?_)
        refine Marked.intro ?_
        refine wpList_run rfl (exec_bytes_back _ 56 9 5 _ rfl wo ⟨g7, 0, none⟩ (i + 1) c7 (by rfl) L HLEN.out Tryd.underlying56 Tryd.underlying5 Tryd.underlying9 HCL.out) ?_
        clear HCL HLEN
        go_wp2
        go_ret
        exact ⟨by rw [HR.out, HL.out]; rfl, HBO.out⟩
end Go.Proofs.YtmccnmccegbdjaaDoor
