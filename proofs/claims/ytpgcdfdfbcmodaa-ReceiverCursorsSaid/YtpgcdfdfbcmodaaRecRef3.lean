/- The walks of the reference's receiver: Take, Ack, Data, Cursor. -/
import Derived.Test.YtpgcdfdfbcmodaaRecRef2
import Derived.Test.YtpgcdfdfbcmodaaQuietTwo
namespace Go.Proofs.Ytpgcdfdfbcmodaa
open Go.RowKit Go.Sort
set_option linter.unusedVariables false
set_option linter.unusedSimpArgs false
def QTakePost (R : Rv) (q : Rq) (w : World) (r : Nat × Rv) (e : Ending) (w' : World) : Prop := e = .returned (.int .i64 (r.1 : Nat)) ∧ RqAt r.2 q w' ∧ Chg q.all w w'
theorem RqAt.drew {R : Rv} {q : Rq} {w : World} (h : RqAt R q w) : RqAt R q w.drew := h.keep fun _ _ => rfl
set_option maxHeartbeats 8000000 in
set_option maxRecDepth 100000 in
theorem QTake_calls (w : World) (R : Rv) (q : Rq) (f : Fr) (h : RqAt R q w) (hD : ∀ e, R.D e < 1000000) :
    Calls Try.prog 24 #[.pointer (some ⟨q.g, 0, none⟩), f.val] w (QTakePost R q w (R.take f)) := by
  have hwr := fun w h => Qwrong_calls w R q f h
  have hz := @Rv.wrong_zero R f
  have hlt := R.wrong_lt f
  have htk : R.take f = if R.wrong f ≠ 0 then (R.wrong f, R.drop (R.wrong f)) else (0, R.put f.i.toNat f.d) := rfl
  have hbw := (Below.refl w.heap.size w).alloc (Nat.le_refl _) (.cells #[.int .i64 f.k, .int .i64 f.s, .int .i64 f.e, .int .i64 f.i, .int .i64 f.t, .string f.d] 32)
  have h1 := h.below hbw (Nat.le_refl _)
  have hR := heap_alloc_new w (.cells #[.int .i64 f.k, .int .i64 f.s, .int .i64 f.e, .int .i64 f.i, .int .i64 f.t, .string f.d] 32)
  have hle := h.le
  have hql := h.lt
  obtain ⟨X, hX⟩ : ∃ X, R.wrong f = X := ⟨_, rfl⟩
  rw [hX] at htk hz hlt
  simp only [hX] at hwr
  unfold Fr.val at *
  have H1 := Lib.hid h1; have HB := Lib.hid hbw; have HP := Lib.hid hR; have HW := Lib.hid hwr; have HQL := Lib.hid hql
  clear h1 hbw hR hwr hX h hql
  by_cases hx0 : X = 0
  · subst hx0
    rw [if_neg (by simp)] at htk
    obtain ⟨-, hok, -, -, z1, z2, z3, -⟩ := hz rfl
    have hi0 : 0 ≤ f.i := hok.2.2.2.2.2.1
    have HT := Lib.hid htk
    clear htk hz hlt hok hD
    obtain ⟨m, hm⟩ := Int.eq_ofNat_of_zero_le hi0
    have hml : m < R.B.length := by omega
    have hmi : f.i.toNat = m := by rw [hm]; rfl
    rw [hmi] at HT
    rw [hm] at HP HB H1 HW
    rw [hm]
    have hmI : (m : Int) < (R.B.length : Int) := by omega
    clear z1 z2 hi0 hm hmi
    go_enter Try.func24, Try.ntmps24
    go_wp2_with (with_reducible refine wpList_mark (o := ⟨some 7, _, _, _, _, _⟩) ?_)
    generalize w.alloc (.cells #[.int .i64 f.k, .int .i64 f.s, .int .i64 f.e, .int .i64 (m : Int), .int .i64 f.t, .string f.d] 32) = w1 at *
    refine Marked.intro ?_
    obtain ⟨p0, p1, p2, p3, p4, p5⟩ := frq_cells HP.out
    go_wp2_with fail
    clear p0 p1 p2 p3 p4 p5
    refine (HW.out _ H1.out).mono ?_
    rintro x w2 ⟨rfl, hb⟩
    have H2 := Lib.hid (H1.out.below hb (Nat.le_refl _)); have HP2 := Lib.hid ((hb.block w.heap.size (Array.getElem?_eq_some_iff.1 HP.out).1).trans HP.out); have HB2 := Lib.hid (bn HB.out hb)
    clear hb H1 HP HB HW
    go_wp2_with fail
    have p3 := (frq_cells HP2.out).2.2.2.1
    have c2 := H2.out.cells.2.2.1
    have ci := H2.out.icell m hml
    have fi : w2.frozen? ⟨q.gi, m, none⟩ = false := H2.out.irow.frozen m
    have h3 : RqAt { R with B := R.B.set m true } q (w2.setCell ⟨q.gi, m, none⟩ (.bool true)).drew := (H2.out.set_in m hml).drew
    have hc3 : Chg q.all w (w2.setCell ⟨q.gi, m, none⟩ (.bool true)).drew := ((Chg.of_below HB2.out).trans (Chg.of_upd (upd_set q.gi m w2 (.bool true)) (by simp [Rq.all]))).trans (Chg.of_below ((Below.refl _ _).drew))
    have hp3 : (w2.setCell ⟨q.gi, m, none⟩ (.bool true)).drew.heap[w.heap.size]? = some (.cells #[.int .i64 f.k, .int .i64 f.s, .int .i64 f.e, .int .i64 (m : Int), .int .i64 f.t, .string f.d] 32 (0, 0)) := (Below.heap_setCell w2 ⟨q.gi, m, none⟩ (.bool true) w.heap.size (by have := HQL.out q.gi (by simp [Rq.all]); show w.heap.size ≠ q.gi; omega)).trans HP2.out
    have H3 := Lib.hid h3; have HC3 := Lib.hid hc3; have HP3 := Lib.hid hp3
    clear h3 hc3 hp3
    go_region
    clear p3 c2 ci fi H2 HP2 HB2
    generalize (w2.setCell ⟨q.gi, m, none⟩ (.bool true)).drew = w3 at *
    go_wp2_with fail
    have p3 := (frq_cells HP3.out).2.2.2.1
    have p5 := (frq_cells HP3.out).2.2.2.2.2
    have c3 := H3.out.cells.2.2.2.1
    have cc := H3.out.ccell m (by rw [List.length_set]; exact hml)
    have fc : w3.frozen? ⟨q.gc, m, none⟩ = false := by simp [World.frozen?, H3.out.crow]
    simp only [List.length_set] at c3
    have h4 : RqAt (R.put m f.d) q (w3.setCell ⟨q.gc, m, none⟩ (.string f.d)).drew := (H3.out.set_c m f.d z3).drew
    have hc4 : Chg q.all w (w3.setCell ⟨q.gc, m, none⟩ (.string f.d)).drew := (HC3.out.trans (Chg.of_upd (upd_set q.gc m w3 (.string f.d)) (by simp [Rq.all]))).trans (Chg.of_below ((Below.refl _ _).drew))
    have H4 := Lib.hid h4; have HC4 := Lib.hid hc4
    clear h4 hc4
    go_region
    clear p3 p5 c3 cc fc H3 HC3 HP3
    go_wp2
    go_ret
    rw [HT.out]
    exact ⟨rfl, H4.out, HC4.out⟩
  · rw [if_pos hx0] at htk
    have HT := Lib.hid htk
    have hxb : ((X : Int) != 0) = true := by simp; omega
    have hxI : (X : Int) < 20 := by omega
    clear htk hz hx0
    go_enter Try.func24, Try.ntmps24
    go_wp2_with (with_reducible refine wpList_mark (o := ⟨some 7, _, _, _, _, _⟩) ?_)
    generalize w.alloc (.cells #[.int .i64 f.k, .int .i64 f.s, .int .i64 f.e, .int .i64 f.i, .int .i64 f.t, .string f.d] 32) = w1 at *
    refine Marked.intro ?_
    obtain ⟨p0, p1, p2, p3, p4, p5⟩ := frq_cells HP.out
    go_wp2_with fail
    clear p0 p1 p2 p3 p4 p5
    refine (HW.out _ H1.out).mono ?_
    rintro x w2 ⟨rfl, hb⟩
    have H2 := Lib.hid (H1.out.below hb (Nat.le_refl _)); have HB2 := Lib.hid (bn HB.out hb)
    clear hb H1 HP HB HW
    have c4 := H2.out.cells.2.2.2.2
    have cd := H2.out.dcell X hlt
    have fd : w2.frozen? ⟨q.gd, X, none⟩ = false := by simp [World.frozen?, H2.out.drow]
    have hdx := hD (X : Int)
    have h3 := H2.out.set_drop X hlt
    generalize R.D (X : Int) = y at *
    rw [show ((y + 1 : Nat) : Int) = (y : Int) + 1 by simp] at h3
    have H3 := Lib.hid h3
    have HC3 := Lib.hid ((Chg.of_below HB2.out).trans (Chg.of_upd (upd_set q.gd X w2 (.int .i64 ((y : Int) + 1))) (by simp [Rq.all] : q.gd ∈ q.all)))
    clear h3 H2 HB2
    go_wp2
    go_ret
    rw [HT.out]
    exact ⟨rfl, H3.out, HC3.out⟩
end Go.Proofs.Ytpgcdfdfbcmodaa
