/- The walk of Sender.Ack. -/
import Derived.Test.YtcmgmdgeimmbeaaSenTickW
namespace Go.Proofs.Ytcmgmdgeimmbeaa
open Go.RowKit
set_option linter.unusedVariables false
set_option linter.unusedSimpArgs false
theorem SnAt.merge {S : Sn} {a : Sa} {w w' : World} {B : List Bool} (h : SnAt S a w) (hm : Mp B a.gm w') (hu : Upd a.gm w w') (hl : B.length = S.B.length) : SnAt { S with B := B } a w' := by
  obtain ⟨n1, -, -, -, n5, n6, n7, -⟩ := h.nodup
  obtain ⟨cs, t, fr, hc, hc2⟩ := h.crow
  refine ⟨(hu.other _ n1).trans ?_, hm, ⟨cs, t, fr, (hu.other _ n5.symm).trans hc, hc2⟩, (hu.other _ n6.symm).trans h.trow, (hu.other _ n7.symm).trans h.arow, ⟨h.wf.lc.trans hl.symm, h.wf.lt.trans hl.symm, h.wf.la.trans hl.symm, h.wf.ale⟩, h.ne⟩
  rw [h.row]
  unfold senRow
  simp only [hl]
def AckPost (S : Sn) (a : Sa) (w : World) (r : Nat × Sn) (x : Ending) (w' : World) : Prop := x = .returned (.int .i64 (r.1 : Nat)) ∧ SnAt r.2 a w' ∧ Chg a.all w w'
set_option maxHeartbeats 8000000 in
set_option maxRecDepth 100000 in
theorem Ack_calls (w : World) (S : Sn) (a : Sa) (k s e i t : Int) (d : ByteArray) (h : SnAt S a w) (hd : d.size ≤ 140737488351232) :
    Calls Try.prog 13 #[.pointer (some ⟨a.g, 0, none⟩), .agg #[.int .i64 k, .int .i64 s, .int .i64 e, .int .i64 i, .int .i64 t, .string d]] w (AckPost S a w (S.ack k s e i t d)) := by
  have hbw := (Below.refl w.heap.size w).alloc (Nat.le_refl _) (.cells #[.int .i64 k, .int .i64 s, .int .i64 e, .int .i64 i, .int .i64 t, .string d] 31)
  have h1 := h.below hbw (Nat.le_refl _)
  have hR := heap_alloc_new w (.cells #[.int .i64 k, .int .i64 s, .int .i64 e, .int .i64 i, .int .i64 t, .string d] 31)
  have hc := Chg.of_below (K := a.all) hbw
  have hle := h.mp.le
  obtain ⟨c0, c1, c2, c3, -⟩ := h1.cells
  have q1 : (w.alloc (.cells #[.int .i64 k, .int .i64 s, .int .i64 e, .int .i64 i, .int .i64 t, .string d] 31)).cell? ⟨w.heap.size, 1, none⟩ = some (.int .i64 s) := by rw [cell_of_row _ _ 1 _ _ _ hR]; rfl
  have q2 : (w.alloc (.cells #[.int .i64 k, .int .i64 s, .int .i64 e, .int .i64 i, .int .i64 t, .string d] 31)).cell? ⟨w.heap.size, 2, none⟩ = some (.int .i64 e) := by rw [cell_of_row _ _ 2 _ _ _ hR]; rfl
  have q3 : (w.alloc (.cells #[.int .i64 k, .int .i64 s, .int .i64 e, .int .i64 i, .int .i64 t, .string d] 31)).cell? ⟨w.heap.size, 3, none⟩ = some (.int .i64 i) := by rw [cell_of_row _ _ 3 _ _ _ hR]; rfl
  have q4 : (w.alloc (.cells #[.int .i64 k, .int .i64 s, .int .i64 e, .int .i64 i, .int .i64 t, .string d] 31)).cell? ⟨w.heap.size, 4, none⟩ = some (.int .i64 t) := by rw [cell_of_row _ _ 4 _ _ _ hR]; rfl
  have q5 : (w.alloc (.cells #[.int .i64 k, .int .i64 s, .int .i64 e, .int .i64 i, .int .i64 t, .string d] 31)).cell? ⟨w.heap.size, 5, none⟩ = some (.string d) := by rw [cell_of_row _ _ 5 _ _ _ hR]; rfl
  have q0 : (w.alloc (.cells #[.int .i64 k, .int .i64 s, .int .i64 e, .int .i64 i, .int .i64 t, .string d] 31)).cell? ⟨w.heap.size, 0, none⟩ = some (.int .i64 k) := by rw [cell_of_row _ _ 0 _ _ _ hR]; rfl
  have hm := fun w' (h : Mp S.B a.gm w') (h0 : 0 ≤ i) (h1 : i ≤ 256) => Merge_calls w' a.gm S.B i d h (by omega) (by omega) hd
  have hwl := withB_length S.B (toldB i d) S.B.length
  obtain ⟨R, hR2⟩ : ∃ R, S.ack k s e i t d = R := ⟨_, rfl⟩
  rw [hR2]
  unfold Sn.ack at hR2
  have H1 := Lib.hid h1; have HC := Lib.hid hc; have HM := Lib.hid hm; have HWL := Lib.hid hwl; have HR := Lib.hid hR2
  clear h1 hc hm hwl h hbw hR hR2
  by_cases hk : k = 2
  · subst hk
    have hrr := HR.out
    rw [if_neg (by simp)] at hrr
    by_cases hs : s = S.ses
    · rw [if_neg (by simp [hs])] at hrr
      have hsb : (s != S.ses) = false := by simp [hs]
      by_cases he : e = S.ep
      · rw [if_neg (by simp [he])] at hrr
        have heb : (e != S.ep) = false := by simp [he]
        by_cases ht : t = (S.B.length : Nat)
        · have htb : (t != (S.B.length : Int)) = false := by simp [ht]
          by_cases hi : i < 0
          · rw [if_pos (Or.inr (Or.inl hi))] at hrr
            have hib : decide (i < 0) = true := by simpa using hi
            have HRR := Lib.hid hrr; clear hrr HR hs he ht hi
            go_enter Try.func13, Try.ntmps13
            go_wp2
            go_quiet (fail)
            go_wp2
            go_quiet (fail)
            go_wp2
            go_quiet (fail)
            go_wp2
            go_ret
            exact ⟨by rw [← HRR.out]; rfl, by rw [← HRR.out]; exact H1.out.keep fun _ _ => rfl, HC.out.trans ⟨rfl, rfl, rfl, Nat.le_refl _, fun _ _ _ => rfl⟩⟩
          · have hib : decide (i < 0) = false := by simpa using hi
            by_cases hj : t < i
            · rw [if_pos (Or.inr (Or.inr hj))] at hrr
              have hjb : decide (t < i) = true := by simpa using hj
              have HRR := Lib.hid hrr; clear hrr HR hs he ht hi hj
              go_enter Try.func13, Try.ntmps13
              go_wp2
              go_quiet (fail)
              go_wp2
              go_quiet (fail)
              go_wp2
              go_quiet (fail)
              go_wp2
              go_ret
              exact ⟨by rw [← HRR.out]; rfl, by rw [← HRR.out]; exact H1.out.keep fun _ _ => rfl, HC.out.trans ⟨rfl, rfl, rfl, Nat.le_refl _, fun _ _ _ => rfl⟩⟩
            · have hjb : decide (t < i) = false := by simpa using hj
              rw [if_neg (by omega)] at hrr
              have hm2 := fun w' h => HM.out w' h (by omega) (by omega)
              have HM2 := Lib.hid hm2
              have HRR := Lib.hid hrr; clear hrr HR hs he ht hi hj hm2 HM
              go_enter Try.func13, Try.ntmps13
              go_wp2
              go_quiet (fail)
              generalize nq = n1
              go_wp2
              go_quiet (fail)
              generalize nq = n2
              go_wp2
              go_quiet (fail)
              go_wp2_with fail
              have c0X : ((((w.alloc (.cells #[.int .i64 2, .int .i64 s, .int .i64 e, .int .i64 i, .int .i64 t, .string d] 31)).drewN n1).drewN n2).drewN nq).cell? ⟨a.g, 0, none⟩ = some (.pointer (some ⟨a.gm, 0, none⟩)) := c0
              have q3X : ((((w.alloc (.cells #[.int .i64 2, .int .i64 s, .int .i64 e, .int .i64 i, .int .i64 t, .string d] 31)).drewN n1).drewN n2).drewN nq).cell? ⟨w.heap.size, 3, none⟩ = some (.int .i64 i) := q3
              have q5X : ((((w.alloc (.cells #[.int .i64 2, .int .i64 s, .int .i64 e, .int .i64 i, .int .i64 t, .string d] 31)).drewN n1).drewN n2).drewN nq).cell? ⟨w.heap.size, 5, none⟩ = some (.string d) := q5
              have H1X : Hid (SnAt S a ((((w.alloc (.cells #[.int .i64 2, .int .i64 s, .int .i64 e, .int .i64 i, .int .i64 t, .string d] 31)).drewN n1).drewN n2).drewN nq)) := Lib.hid (H1.out.keep fun _ _ => rfl)
              have HCX : Hid (Chg a.all w ((((w.alloc (.cells #[.int .i64 2, .int .i64 s, .int .i64 e, .int .i64 i, .int .i64 t, .string d] 31)).drewN n1).drewN n2).drewN nq)) := Lib.hid (HC.out.trans ⟨rfl, rfl, rfl, Nat.le_refl _, fun _ _ _ => rfl⟩)
              clear c0 c1 c2 c3 q0 q1 q2 q3 q4 q5 H1 HC
              generalize ((((w.alloc (.cells #[.int .i64 2, .int .i64 s, .int .i64 e, .int .i64 i, .int .i64 t, .string d] 31)).drewN n1).drewN n2).drewN nq) = X at *
              go_still_tail 8, (by kernel_rfl)
              change wpList _ _ _ _ _ X.drew
              go_wp2_with fail
              refine (HM2.out X.drew ⟨H1X.out.mp.row, H1X.out.mp.one, H1X.out.mp.le⟩).mono ?_
              rintro x w2 ⟨rfl, hm3, hu3⟩
              have HM3 := Lib.hid hm3; have HU3 := Lib.hid hu3
              clear hm3 hu3 HM2
              go_wp2
              go_ret
              exact ⟨by rw [← HRR.out]; rfl, by rw [← HRR.out]; exact SnAt.merge (w := X) H1X.out HM3.out ⟨HU3.out.os, HU3.out.tape, HU3.out.output, HU3.out.size, HU3.out.other⟩ HWL.out, HCX.out.trans ⟨HU3.out.os, HU3.out.tape, HU3.out.output, Nat.le_of_eq HU3.out.size.symm, fun k _ hk => HU3.out.other k fun e => hk (e ▸ by simp [Sa.all])⟩⟩
        · rw [if_pos (Or.inl ht)] at hrr
          have htb : (t != (S.B.length : Int)) = true := by simpa using ht
          have HRR := Lib.hid hrr; clear hrr HR hs he ht
          go_enter Try.func13, Try.ntmps13
          go_wp2
          go_quiet (fail)
          go_wp2
          go_quiet (fail)
          go_wp2
          go_quiet (fail)
          go_wp2
          go_ret
          exact ⟨by rw [← HRR.out]; rfl, by rw [← HRR.out]; exact H1.out.keep fun _ _ => rfl, HC.out.trans ⟨rfl, rfl, rfl, Nat.le_refl _, fun _ _ _ => rfl⟩⟩
      · rw [if_pos he] at hrr
        have heb : (e != S.ep) = true := by simpa using he
        have HRR := Lib.hid hrr; clear hrr HR hs he
        go_enter Try.func13, Try.ntmps13
        go_wp2
        go_quiet (fail)
        go_wp2
        go_quiet (fail)
        go_wp2
        go_ret
        exact ⟨by rw [← HRR.out]; rfl, by rw [← HRR.out]; exact H1.out.keep fun _ _ => rfl, HC.out.trans ⟨rfl, rfl, rfl, Nat.le_refl _, fun _ _ _ => rfl⟩⟩
    · rw [if_pos hs] at hrr
      have hsb : (s != S.ses) = true := by simpa using hs
      have HRR := Lib.hid hrr; clear hrr HR hs
      go_enter Try.func13, Try.ntmps13
      go_wp2
      go_quiet (fail)
      go_wp2
      go_ret
      exact ⟨by rw [← HRR.out]; rfl, by rw [← HRR.out]; exact H1.out.keep fun _ _ => rfl, HC.out.trans ⟨rfl, rfl, rfl, Nat.le_refl _, fun _ _ _ => rfl⟩⟩
  · have hrr := HR.out
    rw [if_pos hk] at hrr
    have hkb : (k != 2) = true := by simpa using hk
    have HRR := Lib.hid hrr; clear hrr HR hk
    go_enter Try.func13, Try.ntmps13
    go_wp2
    go_ret
    exact ⟨by rw [← HRR.out]; rfl, by rw [← HRR.out]; exact H1.out, HC.out⟩
end Go.Proofs.Ytcmgmdgeimmbeaa
