/- The receiver as it lies in memory; the walks of New, wrong. -/
import Derived.Test.YtpgcdfdfbcmodaaRecPlain
import Derived.Maps.OwnOps
import Derived.Deep.RegionLaw
import Derived.Deep.AppendLies
import Derived.RegionTactic
import Derived.StillTailTactics
namespace Go.Proofs.Ytpgcdfdfbcmodaa
open Go.RowKit Go.Maps
set_option linter.unusedVariables false
set_option linter.unusedSimpArgs false
theorem lawE : Keyed Try.prog 24 := int_keyed Try.underlying24
theorem zeroInt (w : World) : (zeroValue 3).run Try.prog w = .ok (.int .i64 0) w := by kernel_rfl
/-- How often a frame was refused so: a map. -/
def DropsAt (D : Int → Nat) (k b : Nat) (w : World) : Prop := ∃ M : DataW Unit, IsMap M ∧ w.ownsMap Try.prog 24 (plainElem Try.prog 3) b k M ∧ ∀ e : Int, M.atKey (.int .i64 e) (.lit (.int .i64 0)) = .lit (.int .i64 (D e : Int))
structure Ra where
  g : Nat
  gm : Nat
  gc : Nat
  gd : Nat
def Ra.all (a : Ra) : List Nat := [a.g, a.gm, a.gc, a.gd]
def strsV (C : List ByteArray) : Array Value := (C.map Value.string).toArray
def recRow (R : Rv) (a : Ra) : Array Value := #[.int .i64 R.ses, .int .i64 R.ep, .pointer (some ⟨a.gm, 0, none⟩), .slice (some ⟨a.gc, 0, none⟩) R.B.length R.B.length, .map (some a.gd)]
structure RvAt (R : Rv) (a : Ra) (w : World) : Prop where
  row : w.heap[a.g]? = some (.cells (recRow R a) 74 (0, 0))
  mp : Mp R.B a.gm w
  crow : w.heap[a.gc]? = some (.cells (strsV R.C) 9 (0, 0))
  drops : DropsAt R.D R.cnt a.gd w
  wf : R.wf
  ne : a.all.Nodup
theorem DropsAt.keep {D : Int → Nat} {k b : Nat} {w w' : World} (h : DropsAt D k b w) (hk : w'.heap[b]? = w.heap[b]?) : DropsAt D k b w' := by
  obtain ⟨M, h1, ⟨es, clock, hb, F, hs, hD⟩, h3⟩ := h
  exact ⟨M, h1, ⟨es, clock, hk.trans hb, F, hs, hD⟩, h3⟩
theorem DropsAt.lt {D : Int → Nat} {k b : Nat} {w : World} (h : DropsAt D k b w) : b < w.heap.size := by
  obtain ⟨M, h1, h2, h3⟩ := h
  exact h2.lt
theorem RvAt.lt {R : Rv} {a : Ra} {w : World} (h : RvAt R a w) : ∀ k ∈ a.all, k < w.heap.size := by
  have lt : ∀ {k : Nat} {o}, w.heap[k]? = some o → k < w.heap.size := fun {k o} e => (Array.getElem?_eq_some_iff.1 e).1
  intro k hk
  simp only [Ra.all, List.mem_cons, List.not_mem_nil, or_false] at hk
  rcases hk with rfl | rfl | rfl | rfl
  · exact lt h.row
  · exact h.mp.lt
  · exact lt h.crow
  · exact h.drops.lt
theorem RvAt.keep {R : Rv} {a : Ra} {w w' : World} (h : RvAt R a w) (hk : ∀ k ∈ a.all, w'.heap[k]? = w.heap[k]?) : RvAt R a w' :=
  ⟨(hk _ (by simp [Ra.all])).trans h.row, ⟨(hk _ (by simp [Ra.all])).trans h.mp.row, h.mp.one, h.mp.le⟩, (hk _ (by simp [Ra.all])).trans h.crow, h.drops.keep (hk _ (by simp [Ra.all])), h.wf, h.ne⟩
theorem RvAt.below {R : Rv} {a : Ra} {w w' : World} {N : Nat} (h : RvAt R a w) (hb : Below N w w') (hN : w.heap.size ≤ N) : RvAt R a w' := h.keep fun k hk => hb.block k (Nat.lt_of_lt_of_le (h.lt k hk) hN)
theorem RvAt.cells {R : Rv} {a : Ra} {w : World} (h : RvAt R a w) :
    w.cell? ⟨a.g, 0, none⟩ = some (.int .i64 R.ses) ∧ w.cell? ⟨a.g, 1, none⟩ = some (.int .i64 R.ep) ∧ w.cell? ⟨a.g, 2, none⟩ = some (.pointer (some ⟨a.gm, 0, none⟩)) ∧ w.cell? ⟨a.g, 3, none⟩ = some (.slice (some ⟨a.gc, 0, none⟩) R.B.length R.B.length) ∧ w.cell? ⟨a.g, 4, none⟩ = some (.map (some a.gd)) :=
  ⟨by rw [cell_of_row _ _ 0 _ _ _ h.row]; rfl, by rw [cell_of_row _ _ 1 _ _ _ h.row]; rfl, by rw [cell_of_row _ _ 2 _ _ _ h.row]; rfl, by rw [cell_of_row _ _ 3 _ _ _ h.row]; rfl, by rw [cell_of_row _ _ 4 _ _ _ h.row]; rfl⟩
theorem RvAt.ccell {R : Rv} {a : Ra} {w : World} (h : RvAt R a w) (i : Nat) (hi : i < R.B.length) : w.cell? ⟨a.gc, i, none⟩ = some (.string (R.C.getD i ⟨#[]⟩)) := by
  rw [cell_of_row _ _ _ _ _ _ h.crow]
  have hc : i < R.C.length := by rw [h.wf.lc]; exact hi
  simp [strsV, List.getD_eq_getElem?_getD, hc]
theorem RvAt.nodup {R : Rv} {a : Ra} {w : World} (h : RvAt R a w) : a.g ≠ a.gm ∧ a.g ≠ a.gc ∧ a.g ≠ a.gd ∧ a.gm ≠ a.gc ∧ a.gm ≠ a.gd ∧ a.gc ≠ a.gd := by
  have := h.ne
  simp only [Ra.all, List.nodup_cons, List.mem_cons, List.not_mem_nil, or_false, not_or, List.nodup_nil, and_true, not_false_eq_true] at this
  obtain ⟨⟨a1, a2, a3⟩, ⟨b1, b2⟩, c⟩ := this
  exact ⟨a1, a2, a3, b1, b2, c⟩
theorem alloc_at (w : World) (o : Obj) : (w.alloc o).heap[w.heap.size]? = some o ∧ (w.alloc o).heap.size = w.heap.size + 1 := by
  unfold World.alloc
  simp
theorem rows_three (w : World) (o p q : Obj) : (((w.alloc o).alloc p).alloc q).heap[w.heap.size]? = some o ∧ (((w.alloc o).alloc p).alloc q).heap[w.heap.size + 1]? = some p ∧ (((w.alloc o).alloc p).alloc q).heap[w.heap.size + 1 + 1]? = some q := by
  obtain ⟨a1, a2⟩ := alloc_at w o
  obtain ⟨b1, b2⟩ := alloc_at (w.alloc o) p
  obtain ⟨c1, c2⟩ := alloc_at ((w.alloc o).alloc p) q
  rw [a2] at b1 b2
  rw [b2] at c1
  exact ⟨(Below.heap_alloc _ _ _ (by omega)).trans ((Below.heap_alloc _ _ _ (by omega)).trans a1), (Below.heap_alloc _ _ _ (by omega)).trans b1, c1⟩
theorem drops_new (w : World) : DropsAt (fun _ => 0) 0 w.heap.size (w.alloc (.map #[] 0)) := ⟨.map [], ⟨[], rfl⟩, World.ownsMap_made _ _ _ _, fun e => rfl⟩
theorem rec_at {w : World} {ses ep : Int} {n gm : Nat} (hm : Mp (List.replicate n false) gm w) (h0 : 0 ≤ ses) (h1 : ses < 4294967296) (h2 : 0 ≤ ep) (h3 : ep < 4294967296) (hgm : gm < w.heap.size) :
    RvAt (Rv.start ses ep n) ⟨w.heap.size + 1 + 1, gm, w.heap.size, w.heap.size + 1⟩ (((w.alloc (.cells (Array.replicate n (Value.string ⟨#[]⟩)) 9)).alloc (.map #[] 0)).alloc (.cells #[.int .i64 ses, .int .i64 ep, .pointer (some ⟨gm, 0, none⟩), .slice (some ⟨w.heap.size, 0, none⟩) n n, .map (some (w.heap.size + 1))] 74)) := by
  obtain ⟨r1, r2, r3⟩ := rows_three w (.cells (Array.replicate n (Value.string ⟨#[]⟩)) 9) (.map #[] 0) (.cells #[.int .i64 ses, .int .i64 ep, .pointer (some ⟨gm, 0, none⟩), .slice (some ⟨w.heap.size, 0, none⟩) n n, .map (some (w.heap.size + 1))] 74)
  refine ⟨?_, ⟨?_, hm.one, hm.le⟩, ?_, ?_, ⟨h0, h1, h2, h3, by simp [Rv.start], fun c hc => ?_⟩, ?_⟩
  · rw [r3]; simp [recRow, Rv.start]
  · rw [Below.heap_alloc _ _ _ (by simp; omega), Below.heap_alloc _ _ _ (by simp; omega), Below.heap_alloc _ _ _ hgm]
    exact hm.row
  · rw [r1]; simp [strsV, Rv.start]
  · have hd := drops_new (w.alloc (.cells (Array.replicate n (Value.string ⟨#[]⟩)) 9))
    rw [show (w.alloc (.cells (Array.replicate n (Value.string ⟨#[]⟩)) 9)).heap.size = w.heap.size + 1 by simp] at hd
    exact hd.keep (Below.heap_alloc _ _ _ (by simp))
  · rw [show (Rv.start ses ep n).C = List.replicate n ⟨#[]⟩ from rfl, List.mem_replicate] at hc
    rw [hc.2]; decide
  · simp only [Ra.all, List.nodup_cons, List.mem_cons, List.not_mem_nil, or_false, not_or, List.nodup_nil, and_true, not_false_eq_true]
    omega
set_option maxHeartbeats 8000000 in
set_option maxRecDepth 100000 in
theorem RNew_good (w : World) (ses ep : Int) (n : Nat) (h0 : 0 ≤ ses) (h1 : ses < 4294967296) (h2 : 0 ≤ ep) (h3 : ep < 4294967296) (h4 : 1 ≤ n) (h5 : n ≤ 256) :
    Calls Try.prog 16 #[.int .i64 ses, .int .i64 ep, .int .i64 n] w fun e w' => ∃ a : Ra, e = .returned (.tuple #[.pointer (some ⟨a.g, 0, none⟩), .int .i64 0]) ∧ RvAt (Rv.start ses ep n) a w' ∧ Below w.heap.size w w' ∧ ∀ k ∈ a.all, w.heap.size ≤ k := by
  have hnew := fun w => New_calls w n h4 h5
  have hmm := @run_makeMap Try.prog
  have hmk : ∀ w : World, (Instr.makeSlice 51 (.int .i64 n) (.int .i64 n)).run Try.prog w = .ok (.slice (some ⟨w.heap.size, 0, none⟩) n n) (w.alloc (.cells (Array.replicate n (Value.string ⟨#[]⟩)) 9)) := fun w => by
    obtain ⟨i, hi1, hi2, hi3, hi4⟩ := info_parts (show (Try.prog.info? 9).map (fun i => (i.zero, i.size, i.bytes)) = some (some (.string ⟨#[]⟩), 1, 16) from by kernel_rfl)
    have h := run_make (P := Try.prog) (w := w) 51 9 i (.string ⟨#[]⟩) Try.underlying51 hi1 hi2 .i64 .i64 n n (by omega) (by omega) (by rw [hi4]; omega) (by omega)
    rw [show (Value.string ⟨#[]⟩).cells = #[.string ⟨#[]⟩] from rfl, hi3, Nat.mul_one, Int.toNat_natCast, madeCells_one, List.toArray_replicate] at h
    exact h
  have HNEW := Lib.hid hnew; clear hnew
  have d1 : decide (ses < 0) = false := by simpa using h0
  have d2 : decide (4294967296 ≤ ses) = false := by simp; omega
  have d3 : decide (ep < 0) = false := by simpa using h2
  have d4 : decide (4294967296 ≤ ep) = false := by simp; omega
  go_enter Try.func16, Try.ntmps16
  go_wp2_with fail
  refine (HNEW.out _).mono ?_
  rintro e w2 ⟨rfl, hm2, hb2, hs2⟩
  have HM2 := Lib.hid hm2; have HB2 := Lib.hid hb2; have HZ2 := Lib.hid hs2
  clear hm2 hb2 hs2
  go_wp2
  go_ret2
  have hgm : w.heap.size < w2.heap.size := by have := HZ2.out; omega
  refine ⟨⟨w2.heap.size + 1 + 1, w.heap.size, w2.heap.size, w2.heap.size + 1⟩, rfl, rec_at HM2.out h0 h1 h2 h3 hgm, ?_, ?_⟩
  · exact ((HB2.out.alloc HB2.out.size _).alloc (by have := HB2.out.size; simp; omega) _).alloc (by have := HB2.out.size; simp; omega) _
  · intro k hk
    simp only [Ra.all, List.mem_cons, List.not_mem_nil, or_false] at hk
    omega
set_option maxHeartbeats 8000000 in
set_option maxRecDepth 100000 in
theorem wrong_calls (w : World) (R : Rv) (a : Ra) (f : Fr) (gf : Nat) (h : RvAt R a w) (hf : w.heap[gf]? = some (.cells #[.int .i64 f.k, .int .i64 f.s, .int .i64 f.e, .int .i64 f.i, .int .i64 f.t, .string f.d] 32 (0, 0))) :
    Calls Try.prog 50 #[.pointer (some ⟨a.g, 0, none⟩), .pointer (some ⟨gf, 0, none⟩)] w fun e w' => e = .returned (.int .i64 (R.wrong f : Nat)) ∧ Below w.heap.size w w' := by
  obtain ⟨c0, c1, c2, c3, -⟩ := h.cells
  have q0 : w.cell? ⟨gf, 0, none⟩ = some (.int .i64 f.k) := by rw [cell_of_row _ _ 0 _ _ _ hf]; rfl
  have q1 : w.cell? ⟨gf, 1, none⟩ = some (.int .i64 f.s) := by rw [cell_of_row _ _ 1 _ _ _ hf]; rfl
  have q2 : w.cell? ⟨gf, 2, none⟩ = some (.int .i64 f.e) := by rw [cell_of_row _ _ 2 _ _ _ hf]; rfl
  have q3 : w.cell? ⟨gf, 3, none⟩ = some (.int .i64 f.i) := by rw [cell_of_row _ _ 3 _ _ _ hf]; rfl
  have q4 : w.cell? ⟨gf, 4, none⟩ = some (.int .i64 f.t) := by rw [cell_of_row _ _ 4 _ _ _ hf]; rfl
  have q5 : w.cell? ⟨gf, 5, none⟩ = some (.string f.d) := by rw [cell_of_row _ _ 5 _ _ _ hf]; rfl
  have hr := fun w => Right_calls w f
  obtain ⟨W, hW⟩ : ∃ W, R.wrong f = W := ⟨_, rfl⟩
  rw [hW]
  unfold Rv.wrong at hW
  have H := Lib.hid h; have HF := Lib.hid hf; have HR := Lib.hid hr; have HW := Lib.hid hW
  clear h hf hr hW
  by_cases hk : f.k = 1
  · have hkb : (f.k != 1) = false := by simp [hk]
    by_cases hok : f.ok
    · have hW2 := HW.out
      rw [if_neg (by simp [hk, hok])] at hW2
      have hr2 := fun w => HR.out w
      rw [decide_eq_true hok] at hr2
      have HR2 := Lib.hid hr2
      clear hr2 HR hk
      obtain ⟨-, -, -, -, -, hi0, -⟩ := hok
      clear c0 c1 c2 c3 q0 q1 q2 q3 q4 q5
      have q0 : w.cell? ⟨gf, 0, none⟩ = some (.int .i64 f.k) := by rw [cell_of_row _ _ 0 _ _ _ HF.out]; rfl
      have q10 : w.cell? ⟨gf, 1, none⟩ = some (.int .i64 f.s) := by rw [cell_of_row _ _ 1 _ _ _ HF.out]; rfl
      have q20 : w.cell? ⟨gf, 2, none⟩ = some (.int .i64 f.e) := by rw [cell_of_row _ _ 2 _ _ _ HF.out]; rfl
      have q30 : w.cell? ⟨gf, 3, none⟩ = some (.int .i64 f.i) := by rw [cell_of_row _ _ 3 _ _ _ HF.out]; rfl
      have q40 : w.cell? ⟨gf, 4, none⟩ = some (.int .i64 f.t) := by rw [cell_of_row _ _ 4 _ _ _ HF.out]; rfl
      have q50 : w.cell? ⟨gf, 5, none⟩ = some (.string f.d) := by rw [cell_of_row _ _ 5 _ _ _ HF.out]; rfl
      by_cases hs : f.s = R.ses
      · have hsb : (f.s != R.ses) = false := by simp [hs]
        rw [if_neg (by simp [hs])] at hW2
        by_cases he : f.e = R.ep
        · have heb : (f.e != R.ep) = false := by simp [he]
          rw [if_neg (by simp [he])] at hW2
          by_cases ht : f.t = (R.B.length : Nat)
          · have htb : (f.t != (R.B.length : Int)) = false := by simp [ht]
            by_cases hi : f.t ≤ f.i
            · rw [if_pos (Or.inr hi)] at hW2
              have hib : decide (f.t ≤ f.i) = true := by simpa using hi
              have HW2 := Lib.hid hW2; clear hW2 HW hs he ht hi hi0
              go_enter Try.func50, Try.ntmps50
              go_wp2_with fail
              refine (HR2.out _).mono ?_
              rintro e w1 ⟨rfl, hb⟩
              have h1 := H.out.below hb (Nat.le_refl _)
              have hf1 := (hb.block gf (Array.getElem?_eq_some_iff.1 HF.out).1).trans HF.out
              obtain ⟨c0, c1, c2, c3, -⟩ := h1.cells
              have q1 : w1.cell? ⟨gf, 1, none⟩ = some (.int .i64 f.s) := by rw [cell_of_row _ _ 1 _ _ _ hf1]; rfl
              have q2 : w1.cell? ⟨gf, 2, none⟩ = some (.int .i64 f.e) := by rw [cell_of_row _ _ 2 _ _ _ hf1]; rfl
              have q3 : w1.cell? ⟨gf, 3, none⟩ = some (.int .i64 f.i) := by rw [cell_of_row _ _ 3 _ _ _ hf1]; rfl
              have q4 : w1.cell? ⟨gf, 4, none⟩ = some (.int .i64 f.t) := by rw [cell_of_row _ _ 4 _ _ _ hf1]; rfl
              have q5 : w1.cell? ⟨gf, 5, none⟩ = some (.string f.d) := by rw [cell_of_row _ _ 5 _ _ _ hf1]; rfl
              have H1 := Lib.hid h1; clear h1 hf1
              go_wp2
              go_quiet (fail)
              go_wp2
              go_quiet (fail)
              go_wp2
              go_quiet (fail)
              go_wp2
              go_ret
              exact ⟨by rw [← HW2.out]; rfl, hb.trans ⟨rfl, rfl, rfl, Nat.le_refl _, fun _ _ => rfl⟩⟩
            · rw [if_neg (by omega)] at hW2
              have hib : decide (f.t ≤ f.i) = false := by simpa using hi
              by_cases hd : 1000 < f.d.size
              · rw [if_pos hd] at hW2
                have hdi : 1000 < (f.d.size : Int) := by omega
                have HW2 := Lib.hid hW2; clear hW2 HW hs he ht hi hi0 hd
                go_enter Try.func50, Try.ntmps50
                go_wp2_with fail
                refine (HR2.out _).mono ?_
                rintro e w1 ⟨rfl, hb⟩
                have h1 := H.out.below hb (Nat.le_refl _)
                have hf1 := (hb.block gf (Array.getElem?_eq_some_iff.1 HF.out).1).trans HF.out
                obtain ⟨c0, c1, c2, c3, -⟩ := h1.cells
                have q1 : w1.cell? ⟨gf, 1, none⟩ = some (.int .i64 f.s) := by rw [cell_of_row _ _ 1 _ _ _ hf1]; rfl
                have q2 : w1.cell? ⟨gf, 2, none⟩ = some (.int .i64 f.e) := by rw [cell_of_row _ _ 2 _ _ _ hf1]; rfl
                have q3 : w1.cell? ⟨gf, 3, none⟩ = some (.int .i64 f.i) := by rw [cell_of_row _ _ 3 _ _ _ hf1]; rfl
                have q4 : w1.cell? ⟨gf, 4, none⟩ = some (.int .i64 f.t) := by rw [cell_of_row _ _ 4 _ _ _ hf1]; rfl
                have q5 : w1.cell? ⟨gf, 5, none⟩ = some (.string f.d) := by rw [cell_of_row _ _ 5 _ _ _ hf1]; rfl
                have H1 := Lib.hid h1; clear h1 hf1
                go_wp2
                go_quiet (fail)
                go_wp2
                go_quiet (fail)
                go_wp2
                go_quiet (fail)
                go_wp2
                go_ret
                exact ⟨by rw [← HW2.out]; rfl, hb.trans ⟨rfl, rfl, rfl, Nat.le_refl _, fun _ _ => rfl⟩⟩
              · rw [if_neg hd] at hW2
                have hdi : ¬ 1000 < (f.d.size : Int) := by omega
                obtain ⟨ii, hii⟩ : ∃ ii : Nat, f.i = (ii : Int) := ⟨f.i.toNat, by omega⟩
                have hhas := fun w h => Has_calls w a.gm R.B f.i h
                rw [hii, Int.toNat_natCast] at hW2
                rw [hii, hasB_nat] at hhas
                have hti : ((ii : Int)) < (R.B.length : Int) := by omega
                have HII := Lib.hid hii; clear hii
                cases hB : R.B.getD ii false with
                | true =>
                  rw [hB] at hW2 hhas
                  rw [if_pos rfl] at hW2
                  have HW2 := Lib.hid hW2; have HHas := Lib.hid hhas; clear hW2 HW hs he ht hi hi0 hd hhas hB
                  go_enter Try.func50, Try.ntmps50
                  go_wp2_with fail
                  refine (HR2.out _).mono ?_
                  rintro e w1 ⟨rfl, hb⟩
                  have h1 := H.out.below hb (Nat.le_refl _)
                  have hf1 := (hb.block gf (Array.getElem?_eq_some_iff.1 HF.out).1).trans HF.out
                  obtain ⟨c0, c1, c2, c3, -⟩ := h1.cells
                  have q1 : w1.cell? ⟨gf, 1, none⟩ = some (.int .i64 f.s) := by rw [cell_of_row _ _ 1 _ _ _ hf1]; rfl
                  have q2 : w1.cell? ⟨gf, 2, none⟩ = some (.int .i64 f.e) := by rw [cell_of_row _ _ 2 _ _ _ hf1]; rfl
                  have q3 : w1.cell? ⟨gf, 3, none⟩ = some (.int .i64 f.i) := by rw [cell_of_row _ _ 3 _ _ _ hf1]; rfl
                  have q4 : w1.cell? ⟨gf, 4, none⟩ = some (.int .i64 f.t) := by rw [cell_of_row _ _ 4 _ _ _ hf1]; rfl
                  have q5 : w1.cell? ⟨gf, 5, none⟩ = some (.string f.d) := by rw [cell_of_row _ _ 5 _ _ _ hf1]; rfl
                  have H1 := Lib.hid h1; clear h1 hf1
                  go_wp2
                  go_quiet (fail)
                  generalize nq = n0
                  go_wp2
                  go_quiet (fail)
                  generalize nq = n1
                  go_wp2
                  go_quiet (fail)
                  generalize nq = n2
                  go_wp2
                  rw [HII.out] at q3
                  have c2' : (w1.drewN (n0 + n1 + n2)).cell? ⟨a.g, 2, none⟩ = some (.pointer (some ⟨a.gm, 0, none⟩)) := c2
                  have q3' : (w1.drewN (n0 + n1 + n2)).cell? ⟨gf, 3, none⟩ = some (.int .i64 (ii : Int)) := q3
                  have hm4 : Mp R.B a.gm (w1.drewN (n0 + n1 + n2)) := ⟨H1.out.mp.row, H1.out.mp.one, H1.out.mp.le⟩
                  have hb4 : Below w.heap.size w (w1.drewN (n0 + n1 + n2)) := hb.trans ⟨rfl, rfl, rfl, Nat.le_refl _, fun _ _ => rfl⟩
                  have HB4 := Lib.hid hb4
                  clear c0 c1 c2 c3 q1 q2 q3 q4 q5 H1 hb hb4
                  generalize w1.drewN (n0 + n1 + n2) = w4 at *
                  have hh : ∀ n, Calls Try.prog 43 #[.pointer (some ⟨a.gm, 0, none⟩), .int .i64 (ii : Int)] (w4.drewN n) fun e w' => e = .returned (.bool true) ∧ w' = w4.drewN n := fun n => (HHas.out (w4.drewN n) ⟨hm4.row, hm4.one, hm4.le⟩).mono fun _ _ h => ⟨h.1, h.2.symm⟩
                  have HH := Lib.hid hh; clear hh hm4
                  go_quiet ((go_at_call 43; exact Calls.quiet_of_same (HH.out _)))
                  go_wp2
                  go_ret
                  exact ⟨by rw [← HW2.out]; rfl, HB4.out.trans ⟨rfl, rfl, rfl, Nat.le_refl _, fun _ _ => rfl⟩⟩
                | false =>
                  rw [hB] at hW2 hhas
                  rw [if_neg (by simp)] at hW2
                  have HW2 := Lib.hid hW2; have HHas := Lib.hid hhas; clear hW2 HW hs he ht hi hi0 hd hhas hB
                  go_enter Try.func50, Try.ntmps50
                  go_wp2_with fail
                  refine (HR2.out _).mono ?_
                  rintro e w1 ⟨rfl, hb⟩
                  have h1 := H.out.below hb (Nat.le_refl _)
                  have hf1 := (hb.block gf (Array.getElem?_eq_some_iff.1 HF.out).1).trans HF.out
                  obtain ⟨c0, c1, c2, c3, -⟩ := h1.cells
                  have q1 : w1.cell? ⟨gf, 1, none⟩ = some (.int .i64 f.s) := by rw [cell_of_row _ _ 1 _ _ _ hf1]; rfl
                  have q2 : w1.cell? ⟨gf, 2, none⟩ = some (.int .i64 f.e) := by rw [cell_of_row _ _ 2 _ _ _ hf1]; rfl
                  have q3 : w1.cell? ⟨gf, 3, none⟩ = some (.int .i64 f.i) := by rw [cell_of_row _ _ 3 _ _ _ hf1]; rfl
                  have q4 : w1.cell? ⟨gf, 4, none⟩ = some (.int .i64 f.t) := by rw [cell_of_row _ _ 4 _ _ _ hf1]; rfl
                  have q5 : w1.cell? ⟨gf, 5, none⟩ = some (.string f.d) := by rw [cell_of_row _ _ 5 _ _ _ hf1]; rfl
                  have H1 := Lib.hid h1; clear h1 hf1
                  go_wp2
                  go_quiet (fail)
                  generalize nq = n0
                  go_wp2
                  go_quiet (fail)
                  generalize nq = n1
                  go_wp2
                  go_quiet (fail)
                  generalize nq = n2
                  go_wp2
                  rw [HII.out] at q3
                  have c2' : (w1.drewN (n0 + n1 + n2)).cell? ⟨a.g, 2, none⟩ = some (.pointer (some ⟨a.gm, 0, none⟩)) := c2
                  have q3' : (w1.drewN (n0 + n1 + n2)).cell? ⟨gf, 3, none⟩ = some (.int .i64 (ii : Int)) := q3
                  have hm4 : Mp R.B a.gm (w1.drewN (n0 + n1 + n2)) := ⟨H1.out.mp.row, H1.out.mp.one, H1.out.mp.le⟩
                  have hb4 : Below w.heap.size w (w1.drewN (n0 + n1 + n2)) := hb.trans ⟨rfl, rfl, rfl, Nat.le_refl _, fun _ _ => rfl⟩
                  have HB4 := Lib.hid hb4
                  clear c0 c1 c2 c3 q1 q2 q3 q4 q5 H1 hb hb4
                  generalize w1.drewN (n0 + n1 + n2) = w4 at *
                  have hh : ∀ n, Calls Try.prog 43 #[.pointer (some ⟨a.gm, 0, none⟩), .int .i64 (ii : Int)] (w4.drewN n) fun e w' => e = .returned (.bool false) ∧ w' = w4.drewN n := fun n => (HHas.out (w4.drewN n) ⟨hm4.row, hm4.one, hm4.le⟩).mono fun _ _ h => ⟨h.1, h.2.symm⟩
                  have HH := Lib.hid hh; clear hh hm4
                  go_quiet ((go_at_call 43; exact Calls.quiet_of_same (HH.out _)))
                  go_wp2
                  go_ret
                  exact ⟨by rw [← HW2.out]; rfl, HB4.out.trans ⟨rfl, rfl, rfl, Nat.le_refl _, fun _ _ => rfl⟩⟩
          · rw [if_pos (Or.inl ht)] at hW2
            have htb : (f.t != (R.B.length : Int)) = true := by simpa using ht
            have HW2 := Lib.hid hW2; clear hW2 HW hs he ht hi0
            go_enter Try.func50, Try.ntmps50
            go_wp2_with fail
            refine (HR2.out _).mono ?_
            rintro e w1 ⟨rfl, hb⟩
            have h1 := H.out.below hb (Nat.le_refl _)
            have hf1 := (hb.block gf (Array.getElem?_eq_some_iff.1 HF.out).1).trans HF.out
            obtain ⟨c0, c1, c2, c3, -⟩ := h1.cells
            have q1 : w1.cell? ⟨gf, 1, none⟩ = some (.int .i64 f.s) := by rw [cell_of_row _ _ 1 _ _ _ hf1]; rfl
            have q2 : w1.cell? ⟨gf, 2, none⟩ = some (.int .i64 f.e) := by rw [cell_of_row _ _ 2 _ _ _ hf1]; rfl
            have q3 : w1.cell? ⟨gf, 3, none⟩ = some (.int .i64 f.i) := by rw [cell_of_row _ _ 3 _ _ _ hf1]; rfl
            have q4 : w1.cell? ⟨gf, 4, none⟩ = some (.int .i64 f.t) := by rw [cell_of_row _ _ 4 _ _ _ hf1]; rfl
            have q5 : w1.cell? ⟨gf, 5, none⟩ = some (.string f.d) := by rw [cell_of_row _ _ 5 _ _ _ hf1]; rfl
            have H1 := Lib.hid h1; clear h1 hf1
            go_wp2
            go_quiet (fail)
            go_wp2
            go_quiet (fail)
            go_wp2
            go_quiet (fail)
            go_wp2
            go_ret
            exact ⟨by rw [← HW2.out]; rfl, hb.trans ⟨rfl, rfl, rfl, Nat.le_refl _, fun _ _ => rfl⟩⟩
        · rw [if_pos he] at hW2
          have heb : (f.e != R.ep) = true := by simpa using he
          have HW2 := Lib.hid hW2; clear hW2 HW hs he hi0
          go_enter Try.func50, Try.ntmps50
          go_wp2_with fail
          refine (HR2.out _).mono ?_
          rintro e w1 ⟨rfl, hb⟩
          have h1 := H.out.below hb (Nat.le_refl _)
          have hf1 := (hb.block gf (Array.getElem?_eq_some_iff.1 HF.out).1).trans HF.out
          obtain ⟨c0, c1, c2, c3, -⟩ := h1.cells
          have q1 : w1.cell? ⟨gf, 1, none⟩ = some (.int .i64 f.s) := by rw [cell_of_row _ _ 1 _ _ _ hf1]; rfl
          have q2 : w1.cell? ⟨gf, 2, none⟩ = some (.int .i64 f.e) := by rw [cell_of_row _ _ 2 _ _ _ hf1]; rfl
          have q3 : w1.cell? ⟨gf, 3, none⟩ = some (.int .i64 f.i) := by rw [cell_of_row _ _ 3 _ _ _ hf1]; rfl
          have q4 : w1.cell? ⟨gf, 4, none⟩ = some (.int .i64 f.t) := by rw [cell_of_row _ _ 4 _ _ _ hf1]; rfl
          have q5 : w1.cell? ⟨gf, 5, none⟩ = some (.string f.d) := by rw [cell_of_row _ _ 5 _ _ _ hf1]; rfl
          have H1 := Lib.hid h1; clear h1 hf1
          go_wp2
          go_quiet (fail)
          go_wp2
          go_quiet (fail)
          go_wp2
          go_ret
          exact ⟨by rw [← HW2.out]; rfl, hb.trans ⟨rfl, rfl, rfl, Nat.le_refl _, fun _ _ => rfl⟩⟩
      · rw [if_pos hs] at hW2
        have hsb : (f.s != R.ses) = true := by simpa using hs
        have HW2 := Lib.hid hW2; clear hW2 HW hs hi0
        go_enter Try.func50, Try.ntmps50
        go_wp2_with fail
        refine (HR2.out _).mono ?_
        rintro e w1 ⟨rfl, hb⟩
        have h1 := H.out.below hb (Nat.le_refl _)
        have hf1 := (hb.block gf (Array.getElem?_eq_some_iff.1 HF.out).1).trans HF.out
        obtain ⟨c0, c1, c2, c3, -⟩ := h1.cells
        have q1 : w1.cell? ⟨gf, 1, none⟩ = some (.int .i64 f.s) := by rw [cell_of_row _ _ 1 _ _ _ hf1]; rfl
        have q2 : w1.cell? ⟨gf, 2, none⟩ = some (.int .i64 f.e) := by rw [cell_of_row _ _ 2 _ _ _ hf1]; rfl
        have q3 : w1.cell? ⟨gf, 3, none⟩ = some (.int .i64 f.i) := by rw [cell_of_row _ _ 3 _ _ _ hf1]; rfl
        have q4 : w1.cell? ⟨gf, 4, none⟩ = some (.int .i64 f.t) := by rw [cell_of_row _ _ 4 _ _ _ hf1]; rfl
        have q5 : w1.cell? ⟨gf, 5, none⟩ = some (.string f.d) := by rw [cell_of_row _ _ 5 _ _ _ hf1]; rfl
        have H1 := Lib.hid h1; clear h1 hf1
        go_wp2
        go_quiet (fail)
        go_wp2
        go_ret
        exact ⟨by rw [← HW2.out]; rfl, hb.trans ⟨rfl, rfl, rfl, Nat.le_refl _, fun _ _ => rfl⟩⟩
    · have hW2 := HW.out
      rw [if_pos (Or.inr hok)] at hW2
      have hr2 := fun w => HR.out w
      rw [decide_eq_false hok] at hr2
      have HR2 := Lib.hid hr2
      have HW2 := Lib.hid hW2
      clear hr2 HR hok HW hW2 hk
      go_enter Try.func50, Try.ntmps50
      go_wp2_with fail
      refine (HR2.out _).mono ?_
      rintro e w1 ⟨rfl, hb⟩
      go_wp2
      go_ret
      exact ⟨by rw [← HW2.out]; rfl, hb⟩
  · have hW2 := HW.out
    rw [if_pos (Or.inl hk)] at hW2
    have hkb : (f.k != 1) = true := by simpa using hk
    have HW2 := Lib.hid hW2
    clear HW hW2 hk
    go_enter Try.func50, Try.ntmps50
    go_wp2
    go_ret
    exact ⟨by rw [← HW2.out]; rfl, Below.refl _ _⟩
end Go.Proofs.Ytpgcdfdfbcmodaa
