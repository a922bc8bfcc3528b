/- The walk of Receiver.Cursor. -/
import Derived.Test.YtpgcdfdfbcmodaaRecTell
namespace Go.Proofs.Ytpgcdfdfbcmodaa
open Go.RowKit Go.Maps
set_option linter.unusedVariables false
set_option linter.unusedSimpArgs false
theorem wr_new (w : World) : WrAt w.heap.size w.heap.size [] (w.alloc (.cells #[.pointer none, .slice none 0 0] 84)) :=
  ⟨Or.inl ⟨Nat.le_refl _, .slice none 0 0, heap_alloc_new w _, World.ownsRow_nil _ _ _ _, by simp [Value.ownBlock]⟩, by simp⟩
def Rv.ent (R : Rv) (i : Nat) : List UInt8 := if R.B.getD i false = true then numL i ++ (numL (R.C.getD i ⟨#[]⟩).size ++ (R.C.getD i ⟨#[]⟩).data.toList) else []
def Rv.curC (R : Rv) (j : Nat) : List UInt8 := ((List.range j).map R.ent).flatten
theorem Rv.curC_succ (R : Rv) (j : Nat) : R.curC (j + 1) = R.curC j ++ R.ent j := by simp [Rv.curC, List.range_succ]
theorem Rv.curL_eq (R : Rv) : R.curL = numL R.ses.toNat ++ (numL R.ep.toNat ++ (numL R.B.length ++ (R.curC R.B.length ++ numL R.B.length))) := rfl
theorem Rv.cs_at {R : Rv} (h : R.wf) (i : Nat) : (R.C.getD i ⟨#[]⟩).size ≤ 1000 := by
  rw [List.getD_eq_getElem?_getD]
  cases hx : R.C[i]? with
  | none => exact Nat.zero_le _
  | some c => exact h.cs c (List.mem_of_getElem? hx)
theorem Rv.ent_le {R : Rv} (h : R.wf) (i : Nat) (hi : i < 1000000) : (R.ent i).length ≤ 1020 := by
  have h1 := R.cs_at h i
  have h2 := numL_64 i (by omega)
  have h3 := numL_64 (R.C.getD i ⟨#[]⟩).size (by omega)
  unfold Rv.ent
  split
  · rw [List.length_append, List.length_append, show (R.C.getD i ⟨#[]⟩).data.toList.length = (R.C.getD i ⟨#[]⟩).size from rfl]; omega
  · simp
theorem Rv.curC_le {R : Rv} (h : R.wf) : ∀ j : Nat, j ≤ 1000000 → (R.curC j).length ≤ 1020 * j
  | 0, _ => by simp [Rv.curC]
  | j + 1, hj => by
    have h1 := R.curC_le h j (by omega)
    have h2 := R.ent_le h j (by omega)
    rw [R.curC_succ, List.length_append]; omega
set_option maxHeartbeats 8000000 in
set_option maxRecDepth 100000 in
theorem RCur_calls (w : World) (R : Rv) (a : Ra) (h : RvAt R a w) :
    Calls Try.prog 13 #[.pointer (some ⟨a.g, 0, none⟩)] w fun e w' => e = .returned (.string (bstr R.curL)) ∧ Below w.heap.size w w' := by
  have hw0 := wr_new w
  have hb0 := (Below.refl w.heap.size w).alloc (Nat.le_refl _) (.cells #[.pointer none, .slice none 0 0] 84)
  obtain ⟨S, hS⟩ : ∃ S : Nat, R.ses = S := ⟨R.ses.toNat, by have := h.wf.s0; omega⟩
  obtain ⟨E, hE⟩ : ∃ E : Nat, R.ep = E := ⟨R.ep.toNat, by have := h.wf.e0; omega⟩
  have hS1 : S < 4294967296 := by have := h.wf.s1; omega
  have hE1 : E < 4294967296 := by have := h.wf.e1; omega
  obtain ⟨N, hN⟩ : ∃ N : Nat, R.B.length = N := ⟨_, rfl⟩
  have hle : N ≤ 256 := hN ▸ h.mp.le
  have hcur := R.curL_eq
  rw [hS, hE, hN, Int.toNat_natCast, Int.toNat_natCast] at hcur
  have hcel := fun (w : World) (h : RvAt R a w) => h.cells
  rw [hS, hE, hN] at hcel
  have hcc := fun (w : World) (h : RvAt R a w) (i : Nat) (hi : i < N) => h.ccell i (hN ▸ hi)
  have hCl := fun j (hj : j ≤ 256) => R.curC_le h.wf j (by omega)
  have hCs := fun i => R.cs_at h.wf i
  have n1 := numL_64 S (by omega)
  have n2 := numL_64 E (by omega)
  have n3 := numL_64 N (by omega)
  have hl1 : (numL S ++ (numL E ++ numL N)).length ≤ 30 := by rw [List.length_append, List.length_append]; omega
  have H := Lib.hid h; have HW0 := Lib.hid hw0; have HB0 := Lib.hid hb0; have HCur := Lib.hid hcur; have HCel := Lib.hid hcel; have HCC := Lib.hid hcc; have HCl := Lib.hid hCl; have HCs := Lib.hid hCs
  have HN := Lib.hid hN; have N1 := Lib.hid n1; have N2 := Lib.hid n2; have N3 := Lib.hid n3; have HL1 := Lib.hid hl1
  clear h hw0 hb0 hcur hcel hcc hCl hCs hS hE hN n1 n2 n3 hl1
  obtain ⟨c0, c1, c2, c3, -⟩ := HCel.out _ (H.out.below HB0.out (Nat.le_refl _))
  have HC := Lib.hid (And.intro c0 (And.intro c1 (And.intro c2 c3)))
  go_enter Try.func13, Try.ntmps13
  go_wp2_with fail
  refine (WUint_calls w.heap.size w.heap.size [] S _ HW0.out (by omega) (by simp)).mono ?_
  rintro e w1 ⟨rfl, hw1, hb1⟩
  have hb1 := HB0.out.trans hb1
  clear c0 c1 c2 c3
  obtain ⟨c0, c1, c2, c3, -⟩ := HCel.out _ (H.out.below hb1 (Nat.le_refl _))
  have HW1 := Lib.hid hw1; have HB1 := Lib.hid hb1; clear hw1 hb1
  go_wp2_with fail
  refine (WUint_calls w.heap.size w.heap.size _ E _ HW1.out (by omega) (by rw [List.nil_append]; have := N1.out; omega)).mono ?_
  rintro e w2 ⟨rfl, hw2, hb2⟩
  have hb2 := HB1.out.trans hb2
  rw [List.nil_append] at hw2
  have HW2 := Lib.hid hw2; have HB2 := Lib.hid hb2; clear hw2 hb2
  clear c0 c1 c2 c3
  go_wp2_with fail
  refine (WUint_calls w.heap.size w.heap.size _ N _ HW2.out (by omega) (by rw [List.length_append]; have := N1.out; have := N2.out; omega)).mono ?_
  rintro e w3 ⟨rfl, hw3, hb3⟩
  have hb3 := HB2.out.trans hb3
  rw [List.append_assoc] at hw3
  obtain ⟨c0, c1, c2, c3, -⟩ := HCel.out _ (H.out.below hb3 (Nat.le_refl _))
  have HW3 := Lib.hid hw3; have HB3 := Lib.hid hb3; clear hw3 hb3
  go_wp2
  go_loopw [39] (fun i wr => ∃ j : Nat, j ≤ N ∧ i = .int .i64 j ∧ Hid (WrAt w.heap.size w.heap.size ((numL S ++ (numL E ++ numL N)) ++ R.curC j) wr) ∧ Hid (Below w.heap.size w wr)) (fun i _ => N - (intOf i).toNat)
  case atStart => exact ⟨0, by omega, rfl, Lib.hid (by rw [show R.curC 0 = [] from rfl, List.append_nil]; exact HW3.out), HB3⟩
  case round =>
    clear HW3 HB3 HW2 HB2 HW1 HB1 c0 c1 c2 c3 HC
    obtain ⟨j, hj, rfl, hw, hb⟩ := hrel
    by_cases hlt : j < N
    · have hjN : (j : Int) < (N : Int) := by omega
      have hrv := H.out.below hb.out (Nat.le_refl _)
      obtain ⟨c0, c1, c2, c3, -⟩ := HCel.out _ hrv
      have c4 := HCC.out _ hrv j hlt
      have hlen := HCl.out j (by omega)
      have hhas := Has_calls wr a.gm R.B j hrv.mp
      rw [hasB_nat] at hhas
      have hsucc := R.curC_succ j
      have HH := Lib.hid hhas; have HLen := Lib.hid hlen; have HRV := Lib.hid hrv
      clear hhas hlen hrv
      cases hB : R.B.getD j false with
      | false =>
        rw [show R.ent j = [] by unfold Rv.ent; rw [hB]; rfl, List.append_nil] at hsucc
        have HS := Lib.hid hsucc; have HHB := Lib.hid hB; clear hsucc hB
        go_wp2_with fail
        refine HH.out.mono ?_
        rintro e w4 ⟨rfl, rfl⟩
        rw [HHB.out]
        go_wp2
        exact ⟨⟨j + 1, by omega, by go_num, by rw [HS.out]; exact hw, hb⟩, by simp only [intOf]; omega⟩
      | true =>
        rw [show R.ent j = numL j ++ (numL (R.C.getD j ⟨#[]⟩).size ++ (R.C.getD j ⟨#[]⟩).data.toList) by unfold Rv.ent; rw [hB]; rfl] at hsucc
        have hcs := HCs.out j
        generalize R.C.getD j ⟨#[]⟩ = c at *
        have HS := Lib.hid hsucc; have HHB := Lib.hid hB; have HCS := Lib.hid hcs; clear hsucc hB hcs
        go_wp2_with fail
        refine HH.out.mono ?_
        rintro e w4 ⟨rfl, rfl⟩
        rw [HHB.out]
        go_wp2_with fail
        refine (WUint_calls w.heap.size w.heap.size _ j _ hw.out (by omega) (by rw [List.length_append]; have := HL1.out; have := HLen.out; omega)).mono ?_
        rintro e w4 ⟨rfl, hw4, hb4⟩
        have HW4 := Lib.hid hw4; have HB4 := Lib.hid (hb.out.trans hb4); clear hw4 hb4
        have nj := Lib.hid (numL_64 j (by omega))
        go_wp2_with fail
        refine (WText_calls w.heap.size w.heap.size _ c _ HW4.out (by rw [List.length_append, List.length_append]; have := HL1.out; have := HLen.out; have := nj.out; have := HCS.out; omega)).mono ?_
        rintro e w5 ⟨rfl, hw5, hb5⟩
        have HW5 := Lib.hid hw5; have HB5 := Lib.hid (HB4.out.trans hb5); clear hw5 hb5
        go_wp2
        exact ⟨⟨j + 1, by omega, by go_num, Lib.hid (by have := HW5.out; rw [HS.out]; simpa only [List.append_assoc] using this), HB5⟩, by simp only [intOf]; omega⟩
    · obtain rfl : j = N := by omega
      have hlen := HCl.out j (by omega)
      have HLen := Lib.hid hlen; clear hlen
      go_wp2_with fail
      refine (WUint_calls w.heap.size w.heap.size _ j _ hw.out (by omega) (by rw [List.length_append]; have := HL1.out; have := HLen.out; omega)).mono ?_
      rintro e w4 ⟨rfl, hw4, hb4⟩
      obtain ⟨v, hv⟩ := hw4.tx
      have HV := Lib.hid hv; have HB4 := Lib.hid (hb.out.trans hb4); clear hw4 hb4 hv
      go_wp2_with fail
      refine (WString_calls _ _ v _ _ HV.out).mono ?_
      rintro e w5 ⟨rfl, -, hb5, -⟩
      have HB5 := Lib.hid (HB4.out.trans hb5); clear hb5
      go_wp2
      go_ret
      refine ⟨?_, HB5.out⟩
      rw [HCur.out]
      simp only [bstr, List.append_assoc]
      rfl
end Go.Proofs.Ytpgcdfdfbcmodaa
