/- The walk of the law SenderAcks: it answers true. -/
import Derived.Test.YtcmgmdgeimmbeaaSenFacts
import Derived.Test.YtcmgmdgeimmbeaaSenLawB
import Derived.Test.YtcmgmdgeimmbeaaOpenFrs
namespace Go.Proofs.Ytcmgmdgeimmbeaa
open Go.RowKit
set_option linter.unusedVariables false
set_option linter.unusedSimpArgs false
theorem FrCells.below {w w' : World} {g p : Nat} {f : Fr} (h : FrCells w g p f) (hb : Below w.heap.size w w') : FrCells w' g p f := by
  obtain ⟨q0, q1, q2, q3, q4, q5⟩ := h
  exact ⟨(hb.cell (World.block_lt_of_cell? w _ q0)).trans q0, (hb.cell (World.block_lt_of_cell? w _ q1)).trans q1, (hb.cell (World.block_lt_of_cell? w _ q2)).trans q2, (hb.cell (World.block_lt_of_cell? w _ q3)).trans q3, (hb.cell (World.block_lt_of_cell? w _ q4)).trans q4, (hb.cell (World.block_lt_of_cell? w _ q5)).trans q5⟩
theorem Mp.chg {B : List Bool} {g : Nat} {K : List Nat} {w w' : World} (h : Mp B g w) (hc : Chg K w w') (hk : g ∉ K) : Mp B g w' := ⟨(hc.other g h.lt hk).trans h.row, h.one, h.le⟩
set_option maxRecDepth 100000 in
set_option maxHeartbeats 16000000 in
theorem SenderAcks_walk (v0 : Value) (C : List ByteArray) (v1 : Value) (xs : List Fr) (w : World)
    (w0 : ∃ ad cap, v0 = .slice ad C.length cap ∧ C.length ≤ maxLen ∧ (C ≠ [] → ∃ g o, ad = some ⟨g, o, none⟩ ∧ ∀ (j : Nat) x, C[j]? = some x → w.cell? ⟨g, o + j, none⟩ = some (.string x)))
    (w1 : Frs w v1 xs) :
    Calls Try.prog 3 #[v0, v1] w fun e w' => e = .returned (.bool true) ∧ Below w.heap.size w w' := by
  obtain ⟨adx, capx, rfl, hxs⟩ := w1
  have HXS := Lib.hid hxs; clear hxs
  obtain ⟨ad0, cap0, rfl, hn0, hx⟩ := w0
  have hstr : Strs C ad0 w := fun j c hj => by
    obtain ⟨g, o, rfl, h⟩ := hx (by intro e; subst e; simp at hj)
    exact ⟨_, rfl, rfl, h j c hj⟩
  clear hx
  cases hmay : mayB 1 2 C with
  | false =>
    have hm := fun w h => May_calls w 1 2 C ad0 cap0 h (by unfold maxLen at hn0; omega)
    rw [hmay] at hm
    have HM := Lib.hid hm; have HS := Lib.hid hstr
    clear hm hstr hmay
    go_enter Try.func3, Try.ntmps3
    go_wp2_with fail
    refine (awake_calls _).mono ?_
    rintro e w1 ⟨rfl, hb1⟩
    go_wp2_with fail
    refine (HM.out _ (HS.out.below hb1)).mono ?_
    rintro e w2 ⟨rfl, rfl⟩
    go_wp2_with fail
    refine (awake_calls _).mono ?_
    rintro e w2 ⟨rfl, hb2⟩
    go_wp2
    go_ret
    exact ⟨rfl, bn hb1 hb2⟩
  | true =>
  obtain ⟨-, -, -, -, hn1, hn2, hc1000⟩ := mayB_true hmay
  have hm := fun w h => May_calls w 1 2 C ad0 cap0 h (by omega)
  rw [hmay] at hm
  have hnew := fun w ad cap h => SNew_good w 1 2 C ad cap h (by decide) (by decide) (by decide) (by decide) hn1 hn2 hc1000
  have HM := Lib.hid hm; have HS := Lib.hid hstr; have HNEW := Lib.hid hnew; have HC1000 := Lib.hid hc1000
  clear hm hstr hmay hnew hc1000
  by_cases hbig : 100 < (xs.length : Int)
  · go_enter Try.func3, Try.ntmps3
    go_wp2_with fail
    refine (awake_calls _).mono ?_
    rintro e w1 ⟨rfl, hb1⟩
    go_wp2_with fail
    refine (HM.out _ (HS.out.below hb1)).mono ?_
    rintro e w2 ⟨rfl, rfl⟩
    go_wp2_with fail
    refine (awake_calls _).mono ?_
    rintro e w2 ⟨rfl, hb2⟩
    go_wp2
    go_ret
    exact ⟨rfl, bn hb1 hb2⟩
  have hnx : xs.length ≤ 100 := by omega
  have hd1 : decide (100 < (xs.length : Int)) = false := by simpa using hbig
  go_enter Try.func3, Try.ntmps3
  go_wp2_with fail
  refine (awake_calls _).mono ?_
  rintro e w1 ⟨rfl, hb1⟩
  go_wp2_with fail
  refine (HM.out _ (HS.out.below hb1)).mono ?_
  rintro e w2 ⟨rfl, rfl⟩
  have HS1 := Lib.hid (HS.out.below hb1)
  go_wp2_with (with_reducible refine wpList_mark (o := ⟨some 33, _, _, _, _, _⟩) ?_)
  refine Marked.intro ?_
  refine wpList_copy rfl _ _ (by rfl) C ad0 cap0 (by rfl) (by rfl) HS1.out hn1 (by omega) ?_
  intro gc0 cap1 w2 hs2 hb2
  have hc2 := bn hb1 hb2
  have HS2 := Lib.hid hs2
  clear hb1 hb2 hs2
  go_wp2_with fail
  refine (HNEW.out _ _ _ HS2.out).mono ?_
  rintro e w3 ⟨a, rfl, hs3, hb3, hk3⟩
  have hc3 := bn hc2 hb3
  have HK : Hid (∀ k ∈ a.all, w.heap.size ≤ k) := Lib.hid fun k hk => Nat.le_trans hc2.size (hk3 k hk)
  have HS3 := Lib.hid hs3
  clear hc2 hb3 hs3 hk3 HNEW HS2 HS1 HM
  have hstB : (Sn.start 1 2 C).B.length = C.length := by simp [Sn.start]
  have HSTB := Lib.hid hstB; clear hstB
  generalize C.length = N at *
  go_wp2
  go_loopw [41] (fun s41 wr => ∃ (j : Nat) (S : Sn), s41 = .int .i64 j ∧ j ≤ xs.length ∧ Hid (SnAt S a wr) ∧ S.now ≤ j ∧ Hid (S.B.length = N) ∧ Below w.heap.size w wr) (fun s41 _ => xs.length - (intOf s41).toNat)
  case atStart => exact ⟨0, _, rfl, by omega, HS3, Nat.le_refl _, HSTB, hc3⟩
  case round =>
    clear HS3 HSTB hc3
    obtain ⟨wo, rfl⟩ : ∃ wo : World, wo = wr := ⟨_, rfl⟩
    obtain ⟨j, S, rfl, hj, hs, hnow, hbl, hc⟩ := hrel
    by_cases hlt : j < xs.length
    · have hx := List.getElem?_eq_getElem hlt
      obtain ⟨gx, ox, rfl, hcl⟩ := HXS.out (by intro e; subst e; simp at hlt)
      have hfc := (hcl j _ hx).1
      generalize xs[j] = f at *
      obtain ⟨k, s, e, i, t, d⟩ := f
      obtain ⟨q0, q1, q2, q3, q4, q5⟩ := hfc
      have r0 := (hc.cell (World.block_lt_of_cell? w _ q0)).trans q0
      have r1 := (hc.cell (World.block_lt_of_cell? w _ q1)).trans q1
      have r2 := (hc.cell (World.block_lt_of_cell? w _ q2)).trans q2
      have r3 := (hc.cell (World.block_lt_of_cell? w _ q3)).trans q3
      have r4 := (hc.cell (World.block_lt_of_cell? w _ q4)).trans q4
      have r5 := (hc.cell (World.block_lt_of_cell? w _ q5)).trans q5
      simp only at r0 r1 r2 r3 r4 r5
      clear q0 q1 q2 q3 q4 q5 hcl HXS hx
      have hba := (Below.refl wo.heap.size wo).alloc (Nat.le_refl _) (.cells #[.int .i64 k, .int .i64 s, .int .i64 e, .int .i64 i, .int .i64 t, .string d] 31)
      have hR := heap_alloc_new wo (.cells #[.int .i64 k, .int .i64 s, .int .i64 e, .int .i64 i, .int .i64 t, .string d] 31)
      have hca := hc.trans (hba.mono hc.size)
      have hsa := hs.out.below hba (Nat.le_refl _)
      by_cases hd : 100 < d.size
      · have hd1 : 100 < (d.size : Int) := by omega
        have HCA := Lib.hid hca
        clear hca hsa hba hR
        go_wp2
        go_ret
        exact ⟨rfl, HCA.out⟩
      have hd2 : ¬ 100 < (d.size : Int) := by omega
      have hdd : d.size ≤ 140737488351232 := by omega
      clear hd
      have HCA := Lib.hid hca; have HSA := Lib.hid hsa; have HR := Lib.hid hR
      clear hca hsa hba hR hc hs
      go_wp2_with fail
      generalize hx0 : wo.alloc (.cells #[.int .i64 k, .int .i64 s, .int .i64 e, .int .i64 i, .int .i64 t, .string d] 31) = x0 at *
      clear hx0 r0 r1 r2 r3 r4 r5
      have hpa : wo.heap.size < x0.heap.size := (Array.getElem?_eq_some_iff.1 HR.out).1
      generalize wo.heap.size = pb at *
      refine (There_calls x0 S a HSA.out).mono ?_
      rintro x x1 ⟨rfl, hm1, hb1, hz1⟩
      have hR1 := (hb1.block pb hpa).trans HR.out
      have q0 : x1.cell? ⟨pb, 0, none⟩ = some (.int .i64 k) := by rw [cell_of_row _ _ 0 _ _ _ hR1]; rfl
      have q1 : x1.cell? ⟨pb, 1, none⟩ = some (.int .i64 s) := by rw [cell_of_row _ _ 1 _ _ _ hR1]; rfl
      have q2 : x1.cell? ⟨pb, 2, none⟩ = some (.int .i64 e) := by rw [cell_of_row _ _ 2 _ _ _ hR1]; rfl
      have q3 : x1.cell? ⟨pb, 3, none⟩ = some (.int .i64 i) := by rw [cell_of_row _ _ 3 _ _ _ hR1]; rfl
      have q4 : x1.cell? ⟨pb, 4, none⟩ = some (.int .i64 t) := by rw [cell_of_row _ _ 4 _ _ _ hR1]; rfl
      have q5 : x1.cell? ⟨pb, 5, none⟩ = some (.string d) := by rw [cell_of_row _ _ 5 _ _ _ hR1]; rfl
      have hc1 := HCA.out.trans (hb1.mono HCA.out.size)
      have hs1 := HSA.out.below hb1 (Nat.le_refl _)
      have hgn1 : x0.heap.size ∉ a.all := fun h => by have := HSA.out.lt _ h; omega
      generalize x0.heap.size = g1 at *
      have HS1 := Lib.hid hs1; have HM1 := Lib.hid hm1
      clear hR1 hb1 hs1 hm1 HR HCA HSA
      go_wp2_with fail
      refine (Ack_calls x1 S a k s e i t d HS1.out hdd).mono ?_
      rintro x x2 ⟨rfl, hs2, hg2⟩
      have hfacts := ack_facts S k s e i t d
      generalize S.ack k s e i t d = R at *
      obtain ⟨er, S2⟩ := R
      obtain ⟨a1, a2, a3, a4, -⟩ := hfacts
      simp only at a1 a2 a3 a4
      have hm2 := HM1.out.chg hg2 hgn1
      have hc2 := hc1.trans (hg2.below HK.out hc1.size)
      have HS2 := Lib.hid hs2; have HM2 := Lib.hid hm2
      have A3 := Lib.hid a3; have A4 := Lib.hid a4
      rw [hbl.out] at a1
      have A1 := Lib.hid a1; have A2 := Lib.hid a2
      clear hs2 hm2 hg2 hc1 a1 a2 a3 a4 q0 q1 q2 q3 q4 q5 HM1 HS1 hbl
      go_wp2_with fail
      refine (There_calls x2 S2 a HS2.out).mono ?_
      rintro x x3 ⟨rfl, hm3, hb3, hz3⟩
      have hm3' := HM2.out.below hb3
      have hs3 := HS2.out.below hb3 (Nat.le_refl _)
      have hc3 := hc2.trans (hb3.mono hc2.size)
      have hgn2 : x2.heap.size ∉ a.all := fun h => by have := HS2.out.lt _ h; omega
      generalize x2.heap.size = g2 at *
      have HM3 := Lib.hid hm3'; have HN3 := Lib.hid hm3; have HS3 := Lib.hid hs3
      clear hm3 hm3' hs3 hb3 hc2 HM2 HS2
      go_wp2
      go_loop [58] (fun s58 => ∃ i : Nat, s58 = .int .i64 i ∧ i ≤ N) (fun s58 => N - (intOf s58).toNat)
      case atStart => exact ⟨0, rfl, by omega⟩
      case round =>
        obtain ⟨ci, rfl, hci⟩ := hrel
        by_cases hlc : ci < N
        · have hlci : (ci : Int) < (N : Int) := by omega
          have h1 := fun w h => Has_calls w g1 S.B ci h
          have h2 := fun w h => Has_calls w g2 S2.B ci h
          have hkeep : hasB S.B (ci : Int) = true → hasB S2.B (ci : Int) = true := by
            rw [hasB_nat, hasB_nat]; exact A3.out ci
          by_cases he : er = 0
          · have heb : ((er : Int) != 0) = false := by simp [he]
            cases hw : hasB S.B (ci : Int) with
            | true =>
              have hw2 := hkeep hw
              have c1 := h1 x3 HM3.out
              have c2 := h2 x3 HN3.out
              rw [hw] at c1; rw [hw2] at c2
              have C1 := Lib.hid c1; have C2 := Lib.hid c2
              clear h1 h2 c1 c2 hw hw2 hkeep he
              go_wp2_with fail
              refine C1.out.mono ?_
              rintro x y ⟨rfl, rfl⟩
              go_wp2_with fail
              refine C2.out.mono ?_
              rintro x y ⟨rfl, rfl⟩
              go_wp2
              exact ⟨⟨ci + 1, by go_num, by omega⟩, by simp only [intOf]; omega⟩
            | false =>
              have c1 := h1 x3 HM3.out
              rw [hw] at c1
              have C1 := Lib.hid c1
              clear h1 h2 c1 hw hkeep he
              go_wp2_with fail
              refine C1.out.mono ?_
              rintro x y ⟨rfl, rfl⟩
              go_wp2
              exact ⟨⟨ci + 1, by go_num, by omega⟩, by simp only [intOf]; omega⟩
          · have heb : ((er : Int) != 0) = true := by simp [he]
            have hSS := A4.out he
            cases hw : hasB S.B (ci : Int) with
            | true =>
              have hw2 := hkeep hw
              have c1 := h1 x3 HM3.out
              have c2 := h2 x3 HN3.out
              rw [hw] at c1; rw [hw2] at c2
              have C1 := Lib.hid c1; have C2 := Lib.hid c2
              clear h1 h2 c1 c2 hw hw2 hkeep he hSS
              go_wp2_with fail
              refine C1.out.mono ?_
              rintro x y ⟨rfl, rfl⟩
              go_wp2_with fail
              refine C2.out.mono ?_
              rintro x y ⟨rfl, rfl⟩
              go_wp2_with fail
              refine C2.out.mono ?_
              rintro x y ⟨rfl, rfl⟩
              go_wp2_with fail
              refine C1.out.mono ?_
              rintro x y ⟨rfl, rfl⟩
              go_wp2
              exact ⟨⟨ci + 1, by go_num, by omega⟩, by simp only [intOf]; omega⟩
            | false =>
              have hw2 : hasB S2.B (ci : Int) = false := by rw [hSS]; exact hw
              have c1 := h1 x3 HM3.out
              have c2 := h2 x3 HN3.out
              rw [hw] at c1; rw [hw2] at c2
              have C1 := Lib.hid c1; have C2 := Lib.hid c2
              clear h1 h2 c1 c2 hw hw2 hkeep he hSS
              go_wp2_with fail
              refine C1.out.mono ?_
              rintro x y ⟨rfl, rfl⟩
              go_wp2_with fail
              refine C2.out.mono ?_
              rintro x y ⟨rfl, rfl⟩
              go_wp2_with fail
              refine C1.out.mono ?_
              rintro x y ⟨rfl, rfl⟩
              go_wp2
              exact ⟨⟨ci + 1, by go_num, by omega⟩, by simp only [intOf]; omega⟩
        · have hlci : ¬ (ci : Int) < (N : Int) := by omega
          have hnow2 : S2.now ≤ j := by rw [A2.out]; exact hnow
          have htc := Tick_calls x3 S2 a HS3.out (by omega)
          obtain ⟨b1, b2, b3, -⟩ := tick_facts S2
          have HTC := Lib.hid htc; have B1 := Lib.hid b1; have B2 := Lib.hid b2
          clear htc b1 b2
          go_wp2_with fail
          refine HTC.out.mono ?_
          rintro x x4 ⟨v, rfl, hs4, ⟨ad, cap, rfl, hfr⟩, hg4⟩
          have hm4 := HN3.out.chg hg4 hgn2
          have hc4 := hc3.trans (hg4.below HK.out hc3.size)
          have HS4 := Lib.hid hs4; have HM4 := Lib.hid hm4; have HFR := Lib.hid hfr
          have hl300 : S2.tick.1.length ≤ 300 := by have := tick_len S2; have := A1.out; omega
          clear hs4 hm4 hfr hg4 hc3 HTC HN3 HM3 HS3
          generalize S2.tick = R at *
          obtain ⟨l, er2, S3⟩ := R
          simp only at *
          go_wp2
          go_loopw [91] (fun s91 wr2 => ∃ m : Nat, s91 = .int .i64 m ∧ m ≤ l.length ∧ Below x4.heap.size x4 wr2) (fun s91 _ => l.length - (intOf s91).toNat)
          case atStart => exact ⟨0, rfl, by omega, Below.refl _ _⟩
          case round =>
            obtain ⟨m, rfl, hm, hb⟩ := hrel
            by_cases hlm : m < l.length
            · have hjl := List.getElem?_eq_getElem hlm
              obtain ⟨gl, rfl, hg1, hg2', hq⟩ := HFR.out (by intro e; subst e; simp at hlm)
              have hce := fr_cells (fun q hq2 => (hb.cell (p := ⟨gl, m * 6 + q, none⟩) hg2').trans (hq m _ q hjl hq2))
              have hnh := (B1.out _ (List.getElem_mem hlm)).2.2.2
              generalize l[m] = ii at *
              obtain ⟨q0, q1, q2, q3, q4, q5⟩ := hce
              have hba := (Below.refl wr.heap.size wr).alloc (Nat.le_refl _) (.cells #[.int .i64 1, .int .i64 S2.ses, .int .i64 S2.ep, .int .i64 (ii : Int), .int .i64 (S2.B.length : Nat), .string (S2.C.getD ii ⟨#[]⟩)] 31)
              have hb2 := hb.trans (hba.mono hb.size)
              have hmm := (HM4.out.below hb).below hba
              have hh := Has_calls _ g2 S2.B ii hmm
              rw [hasB_nat, hnh] at hh
              have HH := Lib.hid hh; have HB2 := Lib.hid hb2
              clear hq hjl HFR hnh hba hb2 hmm hh hb
              generalize S2.C.getD ii ⟨#[]⟩ = cc at *
              have hml : (m : Int) < (l.length : Int) := by omega
              go_wp2_with fail
              refine HH.out.mono ?_
              rintro x y ⟨rfl, rfl⟩
              go_wp2
              exact ⟨⟨m + 1, by go_num, by omega, HB2.out⟩, by simp only [intOf]; omega⟩
            · have hml : ¬ (m : Int) < (l.length : Int) := by omega
              have HS5 := Lib.hid (HS4.out.below hb (Nat.le_refl _))
              have hc5 := hc4.trans (hb.mono hc4.size)
              clear hb HFR
              go_wp2
              exact ⟨⟨j + 1, S3, by go_num, by omega, HS5, by omega, Lib.hid (by rw [B2.out]; exact A1.out), hc5⟩, by simp only [intOf]; omega⟩
    · have hlt2 : ¬ (j : Int) < (xs.length : Int) := by omega
      go_wp2
      go_ret
      exact ⟨rfl, hc⟩
end Go.Proofs.Ytcmgmdgeimmbeaa
