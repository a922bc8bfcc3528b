/- The walk of receiver.Resume. -/
import Derived.Test.YtpgcdfdfbcmodaaRecNil
namespace Go.Proofs.Ytpgcdfdfbcmodaa
open Go.RowKit Go.Maps
set_option linter.unusedVariables false
set_option linter.unusedSimpArgs false
def resGo : Nat → Rv → Nat → Int → List UInt8 → Option Rv × Nat
  | 0, _, _, _, _ => (none, 0)
  | k + 1, R, n, la, l =>
    match uintR l 0 with
    | (i, l', e') =>
      if e' ≠ 0 then (none, e')
      else if i = n then (if doneR l' 0 ≠ 0 then (none, doneR l' 0) else (some R, 0))
      else if n < i then (none, 14)
      else if (i : Int) ≤ la then (none, 6)
      else match textR l' 0 1000 with
        | (c, l2, e2) => if e2 ≠ 0 then (none, e2) else resGo k (R.put i (bstr c)) n i l2
def sm (n : Nat) : Nat := min n 4294967296
def resR (l : List UInt8) : Option Rv × Nat :=
  match uintR l 0 with
  | (a, l1, e1) => match uintR l1 e1 with
    | (b, l2, e2) => match uintR l2 e2 with
      | (n, l3, e3) =>
        if e3 ≠ 0 then (none, e3) else if mayR (sm a) (sm b) (sm n) = false then (none, 1) else resGo 257 (Rv.start (sm a) (sm b) n) n (-1) l3
theorem rawR_le (l : List UInt8) (e : Nat) (n : Int) : ((rawR l e n).1.length : Int) ≤ max n 0 := by
  unfold rawR
  repeat' split
  all_goals simp
  all_goals omega
theorem textR_le (l : List UInt8) (e : Nat) (m : Int) (hm : 0 ≤ m) : ((textR l e m).1.length : Int) ≤ m := by
  unfold textR
  split
  · simpa using hm
  · split
    · simpa using hm
    · have := rawR_le (uintR l e).2.1 0 ((uintR l e).1 : Int)
      omega
def ResPost (w : World) (F : Option Rv × Nat) (e : Ending) (w' : World) : Prop :=
  ((F.1 = none ∧ e = .returned (.tuple #[.pointer none, .int .i64 (F.2 : Nat)])) ∨ ∃ R a, F.1 = some R ∧ F.2 = 0 ∧ e = .returned (.tuple #[.pointer (some ⟨Ra.g a, 0, none⟩), .int .i64 0]) ∧ RvAt R a w' ∧ ∀ k ∈ a.all, w.heap.size ≤ k) ∧ Below w.heap.size w w'
theorem ResPost.bad {w w' : World} {F : Option Rv × Nat} {c : Nat} (hF : F = (none, c)) (hb : Below w.heap.size w w') : ResPost w F (.returned (.tuple #[.pointer none, .int .i64 (c : Nat)])) w' := by
  subst hF; exact ⟨Or.inl ⟨rfl, rfl⟩, hb⟩
set_option maxHeartbeats 8000000 in
set_option maxRecDepth 100000 in
theorem Resume_calls (w : World) (s : ByteArray) :
    Calls Try.prog 11 #[.string s] w (ResPost w (resR s.data.toList)) := by
  obtain ⟨F, hF⟩ : ∃ F, resR s.data.toList = F := ⟨_, rfl⟩
  rw [hF]
  have hu1 := fun w' (h : Rd w.heap.size s.data.toList 0 w') => Uint_calls w' w.heap.size 0 s.data.toList h (by omega)
  have q1 := uintR_lt s.data.toList 0 (by omega)
  unfold resR at hF
  generalize uintR s.data.toList 0 = u1 at *
  obtain ⟨a1, l1, e1⟩ := u1
  have hu2 := fun w' (h : Rd w.heap.size l1 e1 w') => Uint_calls w' w.heap.size e1 l1 h q1.1
  have q2 := uintR_lt l1 e1 q1.1
  simp only at hF hu1
  generalize uintR l1 e1 = u2 at *
  obtain ⟨a2, l2, e2⟩ := u2
  have hu3 := fun w' (h : Rd w.heap.size l2 e2 w') => Uint_calls w' w.heap.size e2 l2 h q2.1
  have q3 := uintR_lt l2 e2 q2.1
  simp only at hF hu2
  generalize uintR l2 e2 = u3 at *
  obtain ⟨n, l3, e3⟩ := u3
  simp only at hF hu3 q1 q2 q3
  have hrd := RdNew_calls w s
  have HF := Lib.hid hF; have HU1 := Lib.hid hu1; have HU2 := Lib.hid hu2; have HU3 := Lib.hid hu3; have HRD := Lib.hid hrd
  have Q1 := Lib.hid q1; have Q2 := Lib.hid q2; have Q3 := Lib.hid q3
  clear hF hu1 hu2 hu3 hrd q1 q2 q3
  go_enter Try.func11, Try.ntmps11
  go_wp2_with fail
  refine HRD.out.mono ?_
  rintro e w1 ⟨rfl, hr1, hb1, hs1⟩
  have HR1 := Lib.hid hr1; have HB1 := Lib.hid hb1; have HS1 := Lib.hid hs1; clear hr1 hb1 hs1
  go_wp2_with fail
  refine (HU1.out _ HR1.out).mono ?_
  rintro e w2 ⟨rfl, hr2, hp2⟩
  have HR2 := Lib.hid hr2; have HP2 := Lib.hid hp2; clear hr2 hp2
  go_wp2_with fail
  refine (HU2.out _ HR2.out).mono ?_
  rintro e w3 ⟨rfl, hr3, hp3⟩
  have HR3 := Lib.hid hr3; have HP3 := Lib.hid (HP2.out.trans hp3); clear hr3 hp3
  go_wp2_with fail
  refine (HU3.out _ HR3.out).mono ?_
  rintro e w4 ⟨rfl, hr4, hp4⟩
  have HR4 := Lib.hid hr4; have HP4 := Lib.hid (HP3.out.trans hp4); clear hr4 hp4
  have HB4 := Lib.hid (HB1.out.trans (HP4.out.below (Nat.le_refl _)))
  have HS4 := Lib.hid (HP4.out.size.trans HS1.out)
  clear HR1 HR2 HR3 HP2 HP3 HP4 HB1 HS1 HU1 HU2 HU3
  go_wp2_with fail
  refine (RdErr_calls _ _ _ _ HR4.out).mono ?_
  rintro e w5 ⟨rfl, rfl⟩
  by_cases h3 : e3 = 0
  · subst h3
    have hF2 := HF.out
    rw [if_neg (by decide)] at hF2
    have HF2 := Lib.hid hF2; clear hF2 HF
    go_wp2_with fail
    refine (small_calls _ a1 Q1.out.2).mono ?_
    rintro e w5 ⟨rfl, rfl⟩
    go_wp2_with fail
    refine (small_calls _ a2 Q2.out.2).mono ?_
    rintro e w5 ⟨rfl, rfl⟩
    go_wp2_with fail
    refine (small_calls _ n Q3.out.2).mono ?_
    rintro e w5 ⟨rfl, rfl⟩
    obtain ⟨b1, hs1⟩ : ∃ b, b = sm a1 := ⟨_, rfl⟩
    obtain ⟨b2, hs2⟩ : ∃ b, b = sm a2 := ⟨_, rfl⟩
    rw [show min a1 4294967296 = b1 from hs1.symm, show min a2 4294967296 = b2 from hs2.symm]
    obtain ⟨b3, hs3⟩ : ∃ b, b = sm n := ⟨_, rfl⟩
    obtain ⟨K, hK⟩ : ∃ K, K = 257 := ⟨_, rfl⟩
    rw [show min n 4294967296 = b3 from hs3.symm]
    rw [← hs1, ← hs2, ← hs3, ← hK] at HF2
    have S3 := Lib.hid hs3; have HK := Lib.hid hK
    clear hs1 hs2 hs3 hK
    by_cases hmay : mayR b1 b2 b3 = false
    · have hf := HF2.out
      rw [if_pos hmay] at hf
      subst hf
      go_wp2_with fail
      refine (RNew_bad _ b1 b2 _ hmay).mono ?_
      rintro e w5 ⟨rfl, hb5⟩
      have HB5 := Lib.hid (HB4.out.trans (Below.mono hb5 (by have := HS4.out; omega)))
      clear hb5
      go_wp2
      go_ret2
      exact ResPost.bad rfl HB5.out
    · have hf := HF2.out
      rw [if_neg hmay] at hf
      have hm2 : ((0 : Int) ≤ b1 ∧ (b1 : Int) < 4294967296) ∧ ((0 : Int) ≤ b2 ∧ (b2 : Int) < 4294967296) ∧ 1 ≤ b3 ∧ b3 ≤ 256 := by
        simp only [mayR, Bool.not_eq_false, Bool.and_eq_true, decide_eq_true_eq] at hmay
        omega
      have hsn : b3 = n := by have := hm2.2.2; have hs3 := S3.out; unfold sm at hs3; omega
      clear S3
      subst hsn
      have hn1 : 1 ≤ b3 ∧ b3 ≤ 256 := hm2.2.2
      generalize b3 = n at *
      obtain ⟨hn1, hn2⟩ := hn1
      have hnew := RNew_good w4 b1 b2 n hm2.1.1 hm2.1.2 hm2.2.1.1 hm2.2.1.2 hn1 hn2
      have HNEW := Lib.hid hnew; have HF3 := Lib.hid hf
      clear hnew hf hm2 hmay HF2
      go_wp2_with fail
      refine HNEW.out.mono ?_
      rintro e w5 ⟨a, rfl, hv5, hb5, hk5⟩
      have hR5 : Rd w.heap.size l3 0 w5 := (hb5.block _ (by have := HS4.out; omega)).trans HR4.out
      have HB5 := Lib.hid (HB4.out.trans (Below.mono hb5 (by have := HS4.out; omega)))
      have hng : ∀ k ∈ a.all, k ≠ w.heap.size ∧ w.heap.size ≤ k := fun k hk => by have := hk5 k hk; have := HS4.out; omega
      have hlen : (Rv.start b1 b2 n).B.length = n := by simp [Rv.start]
      generalize Rv.start b1 b2 n = R0 at *
      have HV5 := Lib.hid hv5; have HR5 := Lib.hid hR5; have HNG := Lib.hid hng; have HL := Lib.hid hlen
      clear hv5 hb5 hk5 hR5 hng hlen HNEW HB4 HS4 HR4
      have hnn : (n : Int) ≤ 256 := by omega
      go_wp2
      go_loopw [11] (fun i wr => ∃ (k : Nat) (R : Rv) (l : List UInt8) (la : Int), i = .int .i64 la ∧ -1 ≤ la ∧ la < n ∧ (n : Int) - la ≤ k ∧ Hid (resGo k R n la l = F) ∧ Hid (Rd w.heap.size l 0 wr) ∧ Hid (RvAt R a wr) ∧ Hid (R.B.length = n) ∧ Hid (Below w.heap.size w wr)) (fun i _ => ((n : Int) - intOf i).toNat)
      case atStart => exact ⟨K, R0, l3, -1, rfl, by omega, by omega, by rw [HK.out]; omega, HF3, HR5, HV5, HL, HB5⟩
      case round =>
        clear HF3 HR5 HV5 HL HB5
        obtain ⟨k, R, l, la, rfl, hla0, hla1, hk, hres, hrd, hrv, hln, hb⟩ := hrel
        obtain ⟨k, rfl⟩ : ∃ k', k = k' + 1 := ⟨k - 1, by omega⟩
        have hu := Uint_calls wr w.heap.size 0 l hrd.out (by omega)
        have hq := uintR_lt l 0 (by omega)
        have hF := hres.out
        rw [resGo] at hF
        generalize uintR l 0 = u at *
        obtain ⟨i, l', e'⟩ := u
        simp only at hu hq hF
        obtain ⟨hq1, hq2⟩ := hq
        have HU := Lib.hid hu; have HF := Lib.hid hF; clear hu hF hres
        go_wp2_with fail
        refine HU.out.mono ?_
        rintro e w6 ⟨rfl, hr6, hp6⟩
        have HR6 := Lib.hid hr6; have HV6 := Lib.hid (hrv.out.keep (w' := w6) fun k hk => hp6.other k (HNG.out k hk).1)
        have HB6 := Lib.hid (hb.out.trans (hp6.below (Nat.le_refl _)))
        clear hr6 hp6 HU hrd hrv hb
        go_wp2_with fail
        refine (RdErr_calls _ _ _ _ HR6.out).mono ?_
        rintro e w7 ⟨rfl, rfl⟩
        by_cases he : e' = 0
        · subst he
          have hF := HF.out
          rw [if_neg (by decide)] at hF
          by_cases hin : i = n
          · subst hin
            rw [if_pos rfl] at hF
            have HF2 := Lib.hid hF; clear hF HF
            go_wp2_with fail
            refine (RdDone_calls _ _ _ _ HR6.out).mono ?_
            rintro e w7 ⟨rfl, rfl⟩
            by_cases hd : doneR l' 0 = 0
            · have hf := HF2.out
              rw [if_neg (by simpa using hd)] at hf
              rw [hd]
              clear hd
              go_wp2
              go_ret2
              exact ⟨Or.inr ⟨R, a, by rw [← hf], by rw [← hf], rfl, HV6.out, fun k hk => (HNG.out k hk).2⟩, HB6.out⟩
            · have hf := HF2.out
              rw [if_pos (by simpa using hd)] at hf
              generalize doneR l' 0 = d at *
              have hne : ((d : Int) != 0) = true := by simp; omega
              clear hd
              go_wp2
              go_ret2
              exact ResPost.bad hf.symm HB6.out
          · rw [if_neg hin] at hF
            have hine : ((i : Int) == (n : Int)) = false := by simp; omega
            by_cases hni : n < i
            · rw [if_pos hni] at hF
              have HF2 := Lib.hid hF; clear hF HF hin
              have hnd : decide ((n : Int) < (i : Int)) = true := by simp; omega
              go_wp2
              go_ret2
              exact ResPost.bad HF2.out.symm HB6.out
            · rw [if_neg hni] at hF
              have hnd : decide ((n : Int) < (i : Int)) = false := by simp; omega
              have hilt : (i : Int) < 256 := by omega
              by_cases hil : (i : Int) ≤ la
              · rw [if_pos hil] at hF
                have HF2 := Lib.hid hF; clear hF HF hin
                go_wp2
                go_ret2
                exact ResPost.bad HF2.out.symm HB6.out
              · rw [if_neg hil] at hF
                have hiN : i < n := by omega
                have hild : decide ((i : Int) ≤ la) = false := by simpa using hil
                have ht := Text_calls w6 w.heap.size 0 l' 1000 HR6.out (by omega) (by omega)
                have htl := textR_le l' 0 1000 (by omega)
                generalize textR l' 0 1000 = t at *
                obtain ⟨c, l'', e2⟩ := t
                simp only at ht htl hF
                have HT := Lib.hid ht; have HTL := Lib.hid htl; have HF2 := Lib.hid hF
                clear ht htl hF HF hin hni hine
                have hine : ((i : Int) == (n : Int)) = false := by simp; omega
                go_wp2_with fail
                refine HT.out.mono ?_
                rintro e w7 ⟨rfl, hr7, hp7⟩
                have HR7 := Lib.hid hr7; have HV7 := Lib.hid (HV6.out.keep (w' := w7) fun k hk => hp7.other k (HNG.out k hk).1)
                have HB7 := Lib.hid (HB6.out.trans (hp7.below (Nat.le_refl _)))
                clear hr7 hp7 HT HR6 HV6 HB6
                go_wp2_with fail
                refine (RdErr_calls _ _ _ _ HR7.out).mono ?_
                rintro e w8 ⟨rfl, rfl⟩
                by_cases he2 : e2 = 0
                · subst he2
                  have hF := HF2.out
                  rw [if_neg (by decide)] at hF
                  have HF3 := Lib.hid hF; clear hF HF2
                  obtain ⟨-, -, c2, -, -⟩ := HV7.out.cells
                  have hset := Set_calls w7 a.gm R.B i HV7.out.mp
                  rw [show setB R.B (i : Int) = R.B.set i true by unfold setB; rw [if_pos (by have := hln.out; omega)]; rfl] at hset
                  have HSet := Lib.hid hset; clear hset
                  go_wp2_with fail
                  refine HSet.out.mono ?_
                  rintro e w8 ⟨rfl, hm8, hu8⟩
                  obtain ⟨n1, n2, n3, n4, n5, n6⟩ := HV7.out.nodup
                  have hrow8 := (hu8.other a.g n1).trans HV7.out.row
                  have hcr8 := (hu8.other a.gc n4.symm).trans HV7.out.crow
                  have c3 : w8.cell? ⟨a.g, 3, none⟩ = some (.slice (some ⟨a.gc, 0, none⟩) n n) := by rw [cell_of_row _ _ 3 _ _ _ hrow8, ← hln.out]; rfl
                  have hcl : i < R.C.length := by rw [HV7.out.wf.lc, hln.out]; exact hiN
                  have cc : w8.cell? ⟨a.gc, i, none⟩ = some (.string (R.C.getD i ⟨#[]⟩)) := by
                    rw [cell_of_row _ _ _ _ _ _ hcr8]
                    simp [strsV, List.getD_eq_getElem?_getD, hcl]
                  generalize R.C.getD i ⟨#[]⟩ = old at *
                  have fc : w8.frozen? ⟨a.gc, i, none⟩ = false := by simp [World.frozen?, hcr8]
                  have hset8 := row_setCell w8 a.gc i _ _ _ (.string (bstr c)) hcr8
                  rw [strsV_set] at hset8
                  have hfin := HV7.out.put (w1 := w8) (w2 := w8.setCell ⟨a.gc, i, none⟩ (.string (bstr c))) i (bstr c) (by show c.toArray.size ≤ 1000; have := HTL.out; simp; omega) hm8 hu8 hset8 (upd_set a.gc i w8 _)
                  have hgm := HNG.out a.gm (by simp [Ra.all])
                  have hgc := HNG.out a.gc (by simp [Ra.all])
                  have hbf := (HB7.out.trans (show Below w.heap.size w7 w8 from ⟨hu8.os, hu8.tape, hu8.output, Nat.le_of_eq hu8.size.symm, fun k hk => hu8.other k (by omega)⟩)).setCell (p := ⟨a.gc, i, none⟩) hgc.2 (.string (bstr c))
                  have hrf : Rd w.heap.size l'' 0 (w8.setCell ⟨a.gc, i, none⟩ (.string (bstr c))) := ((upd_set a.gc i w8 (.string (bstr c))).other _ hgc.1.symm).trans ((hu8.other _ hgm.1.symm).trans HR7.out)
                  have HFin := Lib.hid hfin; have HBF := Lib.hid hbf; have HRF := Lib.hid hrf
                  have hln2 : Hid ((R.put i (bstr c)).B.length = n) := Lib.hid (by simp [Rv.put, hln.out])
                  clear hm8 hu8 n1 n2 n3 n4 n5 n6 hrow8 hcr8 hset8 hfin hbf hrf hgm hgc hcl c2
                  have hiI : (i : Int) < (n : Int) := by omega
                  go_wp2
                  exact ⟨⟨k, _, _, i, rfl, by omega, by omega, by omega, HF3, HRF, HFin, hln2, HBF⟩, by simp only [intOf]; omega⟩
                · have hF := HF2.out
                  rw [if_pos (by simpa using he2)] at hF
                  have hne : ((e2 : Int) != 0) = true := by simp; omega
                  clear he2
                  go_wp2
                  go_ret2
                  exact ResPost.bad hF.symm HB7.out
        · have hF := HF.out
          rw [if_pos (by simpa using he)] at hF
          have hne : ((e' : Int) != 0) = true := by simp; omega
          clear he
          go_wp2
          go_ret2
          exact ResPost.bad hF.symm HB6.out
  · have hF := HF.out
    rw [if_pos (by simpa using h3)] at hF
    have hne : ((e3 : Int) != 0) = true := by simp; omega
    clear h3
    go_wp2
    go_ret2
    exact ResPost.bad hF.symm HB4.out
end Go.Proofs.Ytpgcdfdfbcmodaa
