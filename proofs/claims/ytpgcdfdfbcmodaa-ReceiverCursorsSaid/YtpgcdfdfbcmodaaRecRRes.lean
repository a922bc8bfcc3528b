/- The walk of the reference's Resume. -/
import Derived.Test.YtpgcdfdfbcmodaaRecRUint
namespace Go.Proofs.Ytpgcdfdfbcmodaa
open Go.RowKit Go.Sort
set_option linter.unusedVariables false
set_option linter.unusedSimpArgs false
def QResPost (w : World) (F : Option Rv × Nat) (e : Ending) (w' : World) : Prop :=
  ((F.1 = none ∧ e = .returned (.tuple #[.pointer none, .int .i64 (F.2 : Nat)])) ∨ ∃ R q, F.1 = some R ∧ F.2 = 0 ∧ e = .returned (.tuple #[.pointer (some ⟨Rq.g q, 0, none⟩), .int .i64 0]) ∧ RqAt R q w' ∧ ∀ k ∈ q.all, w.heap.size ≤ k) ∧ Below w.heap.size w w'
theorem QResPost.bad {w w' : World} {F : Option Rv × Nat} {c : Nat} (hF : F = (none, c)) (hb : Below w.heap.size w w') : QResPost w F (.returned (.tuple #[.pointer none, .int .i64 (c : Nat)])) w' := by
  subst hF; exact ⟨Or.inl ⟨rfl, rfl⟩, hb⟩
set_option maxHeartbeats 8000000 in
set_option maxRecDepth 100000 in
theorem QResume_calls (w : World) (s : ByteArray) :
    Calls Try.prog 12 #[.string s] w (QResPost w (resR s.data.toList)) := by
  obtain ⟨F, hF⟩ : ∃ F, resR s.data.toList = F := ⟨_, rfl⟩
  rw [hF]
  have hu1 := fun w' (h : RRd w.heap.size s.data.toList 0 w') => RUint_calls w' w.heap.size 0 s.data.toList h (by omega)
  have q1 := uintR_lt s.data.toList 0 (by omega)
  have hr0 : RRd w.heap.size s.data.toList 0 (w.alloc (.cells #[.string s, .int .i64 0] 78)) := heap_alloc_new w _
  have hb0 := (Below.refl w.heap.size w).alloc (Nat.le_refl _) (.cells #[.string s, .int .i64 0] 78)
  have hs0 : (w.alloc (.cells #[.string s, .int .i64 0] 78)).heap.size = w.heap.size + 1 := by simp
  unfold resR at hF
  generalize uintR s.data.toList 0 = u1 at *
  obtain ⟨a1, l1, e1⟩ := u1
  have hu2 := fun w' (h : RRd w.heap.size l1 e1 w') => RUint_calls w' w.heap.size e1 l1 h q1.1
  have q2 := uintR_lt l1 e1 q1.1
  simp only at hF hu1
  generalize uintR l1 e1 = u2 at *
  obtain ⟨a2, l2, e2⟩ := u2
  have hu3 := fun w' (h : RRd w.heap.size l2 e2 w') => RUint_calls w' w.heap.size e2 l2 h q2.1
  have q3 := uintR_lt l2 e2 q2.1
  simp only at hF hu2
  generalize uintR l2 e2 = u3 at *
  obtain ⟨n, l3, e3⟩ := u3
  simp only at hF hu3 q1 q2 q3
  have HF := Lib.hid hF; have HU1 := Lib.hid hu1; have HU2 := Lib.hid hu2; have HU3 := Lib.hid hu3
  have HR1 := Lib.hid hr0; have HB1 := Lib.hid hb0; have HS1 := Lib.hid hs0
  have Q1 := Lib.hid q1; have Q2 := Lib.hid q2; have Q3 := Lib.hid q3
  clear hF hu1 hu2 hu3 hr0 hb0 hs0 q1 q2 q3
  go_enter Try.func12, Try.ntmps12
  go_wp2_with fail
  refine (HU1.out _ HR1.out).mono ?_
  generalize w.alloc (.cells #[.string s, .int .i64 0] 78) = w1 at *
  rintro e w2 ⟨rfl, hr2, hp2⟩
  have HR2 := Lib.hid hr2; have HP2 := Lib.hid hp2; clear hr2 hp2
  go_wp2_with fail
  refine (HU2.out _ HR2.out).mono ?_
  rintro e w3 ⟨rfl, hr3, hp3⟩
  have HR3 := Lib.hid hr3; have HP3 := Lib.hid (HP2.out.trans hp3); clear hr3 hp3
  go_wp2_with fail
  refine (HU3.out _ HR3.out).mono ?_
  rintro e w4 ⟨rfl, hr4, hp4⟩
  have HR4 := Lib.hid hr4; have HP4 := Lib.hid (HP3.out.trans hp4); clear hr4 hp4
  have HB4 := Lib.hid (HB1.out.trans (HP4.out.below (Nat.le_refl _)))
  have HS4 := Lib.hid (HP4.out.size.trans HS1.out)
  clear HR1 HR2 HR3 HP2 HP3 HP4 HB1 HS1 HU1 HU2 HU3
  by_cases h3 : e3 = 0
  · subst h3
    have hF2 := HF.out
    rw [if_neg (by decide)] at hF2
    have HF2 := Lib.hid hF2; clear hF2 HF
    have c1 := HR4.out.c1
    go_wp2_with fail
    refine (rsmall_calls _ a1 Q1.out.2).mono ?_
    rintro e w5 ⟨rfl, rfl⟩
    clear c1
    obtain ⟨b1, hs1⟩ : ∃ b, b = sm a1 := ⟨_, rfl⟩
    rw [← hs1]
    rw [← hs1] at HF2
    have S1 := Lib.hid hs1; clear hs1
    go_wp2_with fail
    refine (rsmall_calls _ a2 Q2.out.2).mono ?_
    rintro e w5 ⟨rfl, rfl⟩
    obtain ⟨b2, hs2⟩ : ∃ b, b = sm a2 := ⟨_, rfl⟩
    rw [← hs2]
    rw [← hs2] at HF2
    have S2 := Lib.hid hs2; clear hs2
    go_wp2_with fail
    refine (rsmall_calls _ n Q3.out.2).mono ?_
    rintro e w5 ⟨rfl, rfl⟩
    obtain ⟨b3, hs3⟩ : ∃ b, b = sm n := ⟨_, rfl⟩
    rw [← hs3]
    have S3 := Lib.hid hs3
    obtain ⟨K, hK⟩ : ∃ K, K = 257 := ⟨_, rfl⟩
    rw [← hs3, ← hK] at HF2
    have HK := Lib.hid hK
    clear hs3 hK
    have hmc := fun w => QMay_calls w (b1 : Int) (b2 : Int) (b3 : Int)
    by_cases hmay : mayR b1 b2 b3 = false
    · have hf := HF2.out
      rw [if_pos hmay] at hf
      subst hf
      rw [hmay] at hmc
      have HMC := Lib.hid hmc; clear hmc
      go_wp2_with fail
      refine (HMC.out _).mono ?_
      rintro e w5 ⟨rfl, rfl⟩
      go_wp2
      go_ret2
      exact QResPost.bad rfl HB4.out
    · have hf := HF2.out
      rw [if_neg hmay] at hf
      rw [show mayR b1 b2 b3 = true by simpa using hmay] at hmc
      have HMC := Lib.hid hmc; clear hmc
      have hm2 : ((0 : Int) ≤ b1 ∧ (b1 : Int) < 4294967296) ∧ ((0 : Int) ≤ b2 ∧ (b2 : Int) < 4294967296) ∧ 1 ≤ b3 ∧ b3 ≤ 256 := by
        simp only [mayR, Bool.not_eq_false, Bool.and_eq_true, decide_eq_true_eq] at hmay
        omega
      have hsn : b3 = n := by have := hm2.2.2; have hs3 := S3.out; unfold sm at hs3; omega
      have hs1 : b1 = a1 := by have := hm2.1.2; have hs3 := S1.out; unfold sm at hs3; omega
      have hs2 : b2 = a2 := by have := hm2.2.1.2; have hs3 := S2.out; unfold sm at hs3; omega
      clear S1 S2 S3
      subst hsn
      subst hs1
      subst hs2
      have hn1 : 1 ≤ b3 ∧ b3 ≤ 256 := hm2.2.2
      generalize b3 = n at *
      obtain ⟨hn1, hn2⟩ := hn1
      have hnew := QNew_calls w4 b1 b2 n hm2.1.1 hm2.1.2 hm2.2.1.1 hm2.2.1.2 hn1 hn2
      unfold QNewPost at hnew
      have HNEW := Lib.hid hnew; have HF3 := Lib.hid hf
      have ww1 : wrap64 (b1 : Int) = b1 := by have := hm2.1.2; unfold wrap64; omega
      have ww2 : wrap64 (b2 : Int) = b2 := by have := hm2.2.1.2; unfold wrap64; omega
      have ww3 : wrap64 (n : Int) = n := by unfold wrap64; omega
      clear hnew hf hm2 hmay HF2
      go_wp2_with fail
      refine (HMC.out _).mono ?_
      rintro e w5 ⟨rfl, rfl⟩
      go_wp2_with fail
      refine HNEW.out.mono ?_
      rintro e w5 ⟨q, rfl, hv5, hb5, hk5⟩
      have hR5 : RRd w.heap.size l3 0 w5 := (hb5.block _ (by have := HS4.out; omega)).trans HR4.out
      have HB5 := Lib.hid (HB4.out.trans (Below.mono hb5 (by have := HS4.out; omega)))
      have hng : ∀ k ∈ q.all, k ≠ w.heap.size ∧ w.heap.size ≤ k := fun k hk => by have := hk5 k hk; have := HS4.out; omega
      have hlen : (Rv.start b1 b2 n).B.length = n := by simp [Rv.start]
      generalize Rv.start b1 b2 n = R0 at *
      have HV5 := Lib.hid hv5; have HR5 := Lib.hid hR5; have HNG := Lib.hid hng; have HL := Lib.hid hlen
      clear hv5 hb5 hk5 hR5 hng hlen HNEW HB4 HS4 HR4 HMC ww1 ww2
      have hnn : (n : Int) ≤ 256 := by omega
      go_wp2
      go_loopw [9] (fun i wr => ∃ (k : Nat) (R : Rv) (l : List UInt8) (la : Int), i = .int .i64 la ∧ -1 ≤ la ∧ la < n ∧ (n : Int) - la ≤ k ∧ Hid (resGo k R n la l = F) ∧ Hid (RRd w.heap.size l 0 wr) ∧ Hid (RqAt R q wr) ∧ Hid (R.B.length = n) ∧ Hid (Below w.heap.size w wr)) (fun i _ => ((n : Int) - intOf i).toNat)
      case atStart => exact ⟨K, R0, l3, -1, rfl, by omega, by omega, by rw [HK.out]; omega, HF3, HR5, HV5, HL, HB5⟩
      case round =>
        clear HF3 HR5 HV5 HL HB5
        obtain ⟨k, R, l, la, rfl, hla0, hla1, hk, hres, hrd, hrv, hln, hb⟩ := hrel
        obtain ⟨k, rfl⟩ : ∃ k', k = k' + 1 := ⟨k - 1, by omega⟩
        have hu := RUint_calls wr w.heap.size 0 l hrd.out (by omega)
        have hq := uintR_lt l 0 (by omega)
        have hF := hres.out
        rw [resGo] at hF
        generalize uintR l 0 = u at *
        obtain ⟨i, l', e'⟩ := u
        simp only at hu hq hF
        obtain ⟨hq1, hq2⟩ := hq
        have HU := Lib.hid hu; have HF := Lib.hid hF; clear hu hF hres
        go_wp2_with fail
        refine HU.out.mono ?_
        rintro e w6 ⟨rfl, hr6, hp6⟩
        have HR6 := Lib.hid hr6; have HV6 := Lib.hid (hrv.out.keep (w' := w6) fun k hk => hp6.other k (HNG.out k hk).1)
        have HB6 := Lib.hid (hb.out.trans (hp6.below (Nat.le_refl _)))
        clear hr6 hp6 HU hrd hrv hb
        by_cases he : e' = 0
        · subst he
          have hF := HF.out
          rw [if_neg (by decide)] at hF
          have c1 := HR6.out.c1
          by_cases hin : i = n
          · subst hin
            rw [if_pos rfl] at hF
            have HF2 := Lib.hid hF; clear hF HF
            have c0 := HR6.out.c0
            cases l' with
            | nil =>
              have hz : (bstr []).toList.isEmpty = true := by rw [ByteArray.toList_eq]; rfl
              generalize bstr [] = bs at *
              have hf := HF2.out
              rw [if_neg (by decide)] at hf
              go_wp2
              go_ret2
              exact ⟨Or.inr ⟨R, q, by rw [← hf], by rw [← hf], rfl, HV6.out, fun k hk => (HNG.out k hk).2⟩, HB6.out⟩
            | cons y ys =>
              have hz : (bstr (y :: ys)).toList.isEmpty = false := by rw [ByteArray.toList_eq]; rfl
              have hd : doneR (y :: ys) 0 = 4 := by unfold doneR; rw [if_neg (by decide), if_neg (by simp)]
              have hf := HF2.out
              rw [hd, if_pos (by decide)] at hf
              clear HR6 hd
              generalize bstr (y :: ys) = bs at *
              go_wp2
              go_ret2
              exact QResPost.bad hf.symm HB6.out
          · rw [if_neg hin] at hF
            have hine : ((i : Int) == (n : Int)) = false := by simp; omega
            by_cases hni : n < i
            · rw [if_pos hni] at hF
              have HF2 := Lib.hid hF; clear hF HF hin
              have hnd : decide ((n : Int) < (i : Int)) = true := by simp; omega
              go_wp2
              go_ret2
              exact QResPost.bad HF2.out.symm HB6.out
            · rw [if_neg hni] at hF
              have hnd : decide ((n : Int) < (i : Int)) = false := by simp; omega
              have hilt : (i : Int) < 256 := by omega
              have wwi : wrap64 (i : Int) = i := by unfold wrap64; omega
              by_cases hil : (i : Int) ≤ la
              · rw [if_pos hil] at hF
                have HF2 := Lib.hid hF; clear hF HF hin
                have hild : decide ((i : Int) ≤ la) = true := by simpa using hil
                go_wp2
                go_ret2
                exact QResPost.bad HF2.out.symm HB6.out
              · rw [if_neg hil] at hF
                have hiN : i < n := by omega
                have hild : decide ((i : Int) ≤ la) = false := by simpa using hil
                have ht := RdText_calls w6 w.heap.size 0 l' 1000 HR6.out (by omega) (by omega)
                have htl := textR_le l' 0 1000 (by omega)
                generalize textR l' 0 1000 = t at *
                obtain ⟨c, l'', e2⟩ := t
                simp only at ht htl hF
                have HT := Lib.hid ht; have HTL := Lib.hid htl; have HF2 := Lib.hid hF
                clear ht htl hF HF hin hni hine
                have hine : ((i : Int) == (n : Int)) = false := by simp; omega
                go_wp2_with fail
                refine HT.out.mono ?_
                rintro e w7 ⟨rfl, hr7, hp7⟩
                have HR7 := Lib.hid hr7; have HV7 := Lib.hid (HV6.out.keep (w' := w7) fun k hk => hp7.other k (HNG.out k hk).1)
                have HB7 := Lib.hid (HB6.out.trans (hp7.below (Nat.le_refl _)))
                clear hr7 hp7 HT HR6 HV6 HB6 c1
                by_cases he2 : e2 = 0
                · subst he2
                  have hF := HF2.out
                  rw [if_neg (by decide)] at hF
                  have HF3 := Lib.hid hF; clear hF HF2
                  have c1 := HR7.out.c1
                  have c2 := HV7.out.cells.2.2.1
                  rw [hln.out] at c2
                  have hiB : i < R.B.length := by rw [hln.out]; exact hiN
                  have ci := HV7.out.icell i hiB
                  have fi : w7.frozen? ⟨q.gi, i, none⟩ = false := HV7.out.irow.frozen i
                  have h8 := HV7.out.set_in i hiB
                  have c3 := h8.cells.2.2.2.1
                  have cc := h8.ccell i (by rw [List.length_set]; exact hiB)
                  simp only [List.length_set] at c3
                  rw [hln.out] at c3
                  have fc : (w7.setCell ⟨q.gi, i, none⟩ (.bool true)).frozen? ⟨q.gc, i, none⟩ = false := by simp [World.frozen?, h8.crow]
                  have hcs : (bstr c).size ≤ 1000 := by show c.toArray.size ≤ 1000; have := HTL.out; simp; omega
                  have h9 : RqAt (R.put i (bstr c)) q ((w7.setCell ⟨q.gi, i, none⟩ (.bool true)).setCell ⟨q.gc, i, none⟩ (.string (bstr c))) := h8.set_c i (bstr c) hcs
                  have hgi := HNG.out q.gi (by simp [Rq.all])
                  have hgc := HNG.out q.gc (by simp [Rq.all])
                  have hb9 := ((HB7.out).setCell (p := ⟨q.gi, i, none⟩) hgi.2 (.bool true)).setCell (p := ⟨q.gc, i, none⟩) hgc.2 (.string (bstr c))
                  have hr9 := (HR7.out.cell_other (k := q.gi) (j := i) hgi.1.symm (.bool true)).cell_other (k := q.gc) (j := i) hgc.1.symm (.string (bstr c))
                  have H9 := Lib.hid h9; have HB9 := Lib.hid hb9; have HR9 := Lib.hid hr9
                  have hln2 : Hid ((R.put i (bstr c)).B.length = n) := Lib.hid (by simp [Rv.put, hln.out])
                  generalize R.C.getD i ⟨#[]⟩ = old at *
                  generalize R.B.getD i false = oldb at *
                  clear h8 h9 hb9 hr9 hgi hgc hcs hiB HV7 HR7 HB7 hln
                  have hiI : (i : Int) < (n : Int) := by omega
                  go_wp2
                  exact ⟨⟨k, _, _, i, rfl, by omega, by omega, by omega, HF3, HR9, H9, hln2, HB9⟩, by simp only [intOf]; omega⟩
                · skip
                  have hF := HF2.out
                  rw [if_pos (by simpa using he2)] at hF
                  have hne : ((e2 : Int) != 0) = true := by simp; omega
                  have c1 := HR7.out.c1
                  clear he2
                  go_wp2
                  go_quiet (fail)
                  go_wp2
                  go_ret2
                  exact QResPost.bad hF.symm (below_drewN HB7.out _)

        · skip
          have hF := HF.out
          rw [if_pos (by simpa using he)] at hF
          have hne : ((e' : Int) != 0) = true := by simp; omega
          have c1 := HR6.out.c1
          clear he
          go_wp2
          go_quiet (fail)
          go_wp2
          go_ret2
          exact QResPost.bad hF.symm (below_drewN HB6.out _)

  · skip
    have hF := HF.out
    rw [if_pos (by simpa using h3)] at hF
    have hne : ((e3 : Int) != 0) = true := by simp; omega
    have c1 := HR4.out.c1
    clear h3
    go_wp2
    go_quiet (fail)
    go_wp2
    go_ret2
    exact QResPost.bad hF.symm (below_drewN HB4.out _)

end Go.Proofs.Ytpgcdfdfbcmodaa
