/- The walks of sender.New and of slices.Clone at []string. -/
import Derived.Test.YtcmgmdgeimmbeaaSenAck
namespace Go.Proofs.Ytcmgmdgeimmbeaa
open Go.RowKit
set_option linter.unusedVariables false
set_option linter.unusedSimpArgs false
theorem info_str : (Try.prog.info? 9).map (fun i => (i.zero, i.size, i.bytes)) = some (some (.string ⟨#[]⟩), 1, 16) := by kernel_rfl
/-- Texts lie behind a slice. -/
def Strs (C : List ByteArray) (ad : Option Addr) (w : World) : Prop := ∀ (j : Nat) c, C[j]? = some c → ∃ a : Addr, ad = some a ∧ a.spot = none ∧ w.cell? ⟨a.block, a.off + j, none⟩ = some (.string c)
theorem Strs.below {C : List ByteArray} {ad : Option Addr} {w w' : World} (h : Strs C ad w) (hb : Below w.heap.size w w') : Strs C ad w' := fun j c hj => by
  obtain ⟨a, h1, h2, h3⟩ := h j c hj
  exact ⟨a, h1, h2, (hb.cell (p := ⟨a.block, a.off + j, none⟩) (World.block_lt_of_cell? w _ h3)).trans h3⟩
set_option maxHeartbeats 4000000 in
set_option maxRecDepth 100000 in
theorem Clone_calls (w : World) (C : List ByteArray) (ad : Option Addr) (cap : Nat) (h : Strs C ad w) (h1 : 1 ≤ C.length) (h2 : C.length ≤ 1000) :
    Calls Try.prog 32 #[.slice ad C.length cap] w fun e w' => ∃ gc cap', e = .returned (.slice (some ⟨gc, 0, none⟩) C.length cap') ∧ w'.ownsRow w.heap.size 9 1 (.slice (some ⟨gc, 0, none⟩) C.length cap') C.length (C.map .string) ∧ Below w.heap.size w w' ∧ w.heap.size < w'.heap.size := by
  obtain ⟨i0, hi0, hz0, hz1, hz2⟩ := info_parts info_str
  obtain ⟨⟨ab, ao, asp⟩, rfl, hsp, -⟩ := h 0 C[0] (List.getElem?_eq_getElem (by omega))
  simp only at hsp
  subst hsp
  have hc : ∀ (j : Nat) u, (C.map Value.string)[j]? = some u → w.cell? ((⟨ab, ao, none⟩ : Addr).add j) = some u := fun j u hj => by
    rw [List.getElem?_map] at hj
    cases hx : C[j]? with
    | none => rw [hx] at hj; simp at hj
    | some c =>
      rw [hx] at hj
      obtain rfl : Value.string c = u := by simpa using hj
      obtain ⟨a, ha, -, hcell⟩ := h j c hx
      obtain rfl : (⟨ab, ao, none⟩ : Addr) = a := by simpa using ha
      rw [Addr.add_lit]; exact hcell
  have hnil : ∀ w, (binOp .eql 22 (.slice (some ⟨ab, ao, none⟩) C.length cap) (.slice none 0 0)).run Try.prog w = .ok (.bool false) w := fun w => Lib.run_eql_slice_nil w _ _ _ _ _ _ _ Try.underlying22
  have HC := Lib.hid hc; clear hc h
  go_enter Try.func32, Try.ntmps32
  go_wp2_with (with_reducible refine wpList_mark (o := ⟨some 7, _, _, _, _, _⟩) ?_)
  refine Marked.intro ?_
  have hown0 : (w.alloc (.cells #[] 9)).ownsRow w.heap.size 9 1 (.slice (some ⟨w.heap.size, 0, none⟩) 0 0) 0 [] := ⟨rfl, Or.inr ⟨w.heap.size, 0, #[], rfl, Nat.le_refl _, heap_alloc_new w _, Nat.le_refl _, by unfold maxLen; omega, rfl, rfl⟩⟩
  refine wpList_append_lies _ rfl _ _ _ (by rfl) w.heap.size 9 i0 _ 1 16 Try.underlying22 hi0 hz0 hz1 hz2 rfl (by omega) (.slice (some ⟨w.heap.size, 0, none⟩) 0 0) 0 [] (by rfl) hown0 ⟨ab, ao, none⟩ C.length cap (C.map .string) (by rfl) (by simp) (fun j u hu => by
    have := HC.out j u hu
    rw [Addr.add_lit] at this ⊢
    exact Lib.cell?_alloc_some (W := w) _ this) (by simp [Value.oneCell']) h1 (by unfold maxLen; omega) (by omega) (by simp) (w.heap.size + 1) (by simp) ?_
  intro g cap2 w1 hown hgrow hat hg
  have hb : Below w.heap.size w w1 := ((Below.refl w.heap.size w).alloc (Nat.le_refl _) (.cells #[] 9)).grown hgrow (by simp) (fun k hk => by
    have : w.heap.size = k := by simpa [Value.ownBlock] using hk
    omega)
  have hs : w.heap.size < w1.heap.size := by have := hgrow.size; simp at this; omega
  have HB := Lib.hid hb
  rw [Nat.zero_add, List.nil_append] at hown
  have HO := Lib.hid hown
  clear hb hgrow hat hown hown0 hnil
  go_wp2
  go_ret
  exact ⟨g, cap2, rfl, HO.out, HB.out, hs⟩
theorem long_calls (w : World) (c : ByteArray) (h : c.size ≤ 9223372036854775807) : Calls Try.prog 30 #[.string c] w fun e w' => e = .returned (.bool (decide (1000 < c.size))) ∧ ∃ q, w' = w.drewN q := by
  have he : decide ((1000 : Int) < (c.size : Int)) = decide (1000 < c.size) := by congr 1; rw [eq_iff_iff]; omega
  have HE := Lib.hid he; clear he
  go_enter Try.func30, Try.ntmps30
  go_wp2
  go_ret
  exact ⟨by rw [← HE.out]; rfl, 0, rfl⟩
def Sn.start (ses ep : Int) (C : List ByteArray) : Sn := ⟨ses, ep, C, List.replicate C.length false, List.replicate C.length 0, List.replicate C.length 0, 0, false⟩
theorem intsV_zero (n : Nat) : (intsV (List.replicate n 0)).toArray = Array.replicate n (Value.int .i64 0) := by simp [intsV]
theorem start_at {w : World} {ses ep : Int} {C : List ByteArray} {gm gc gt ga cap : Nat} (hm : Mp (List.replicate C.length false) gm w) (hc : ∃ cs t fr, w.heap[gc]? = some (.cells cs t fr) ∧ ∀ (j : Nat) c, C[j]? = some c → cs[j]? = some (.string c))
    (ht : w.heap[gt]? = some (.cells (Array.replicate C.length (Value.int .i64 0)) 3 (0, 0))) (ha : w.heap[ga]? = some (.cells (Array.replicate C.length (Value.int .i64 0)) 3 (0, 0))) (hn : [gm, gc, gt, ga].Nodup) :
    SnAt (Sn.start ses ep C) ⟨w.heap.size, gm, gc, gt, ga, cap⟩ (w.alloc (.cells #[.pointer (some ⟨gm, 0, none⟩), .int .i64 ses, .int .i64 ep, .slice (some ⟨gc, 0, none⟩) C.length cap, .slice (some ⟨gt, 0, none⟩) C.length C.length, .slice (some ⟨ga, 0, none⟩) C.length C.length, .int .i64 0, .bool false] 67)) := by
  have lt : ∀ {k : Nat} {o}, w.heap[k]? = some o → k < w.heap.size := fun {k o} e => (Array.getElem?_eq_some_iff.1 e).1
  obtain ⟨cs, t, fr, hc1, hc2⟩ := hc
  have ol := fun k (hk : k < w.heap.size) => Below.heap_alloc w (.cells #[.pointer (some ⟨gm, 0, none⟩), .int .i64 ses, .int .i64 ep, .slice (some ⟨gc, 0, none⟩) C.length cap, .slice (some ⟨gt, 0, none⟩) C.length C.length, .slice (some ⟨ga, 0, none⟩) C.length C.length, .int .i64 0, .bool false] 67) k hk
  refine ⟨?_, ⟨(ol _ hm.lt).trans hm.row, hm.one, hm.le⟩, ⟨cs, t, fr, (ol _ (lt hc1)).trans hc1, hc2⟩, ?_, ?_, ⟨by simp [Sn.start], by simp [Sn.start], by simp [Sn.start], fun j => ?_⟩, ?_⟩
  · rw [heap_alloc_new]
    simp [senRow, Sn.start]
  · rw [ol _ (lt ht), ht, show (Sn.start ses ep C).T = List.replicate C.length 0 from rfl, intsV_zero]
  · rw [ol _ (lt ha), ha, show (Sn.start ses ep C).A = List.replicate C.length 0 from rfl, intsV_zero]
  · show (List.replicate C.length 0).getD j 0 ≤ 0
    rw [List.getD_eq_getElem?_getD, List.getElem?_replicate]; split <;> simp
  · have h1 := hm.lt; have h2 := lt hc1; have h3 := lt ht; have h4 := lt ha
    simp only [Sa.all]
    rw [List.nodup_cons]
    refine ⟨?_, hn⟩
    simp only [List.mem_cons, List.not_mem_nil, or_false, not_or]
    omega
theorem row_two (w : World) (o p : Obj) : ((w.alloc o).alloc p).heap[w.heap.size]? = some o ∧ ((w.alloc o).alloc p).heap[w.heap.size + 1]? = some p ∧ ((w.alloc o).alloc p).heap.size = w.heap.size + 2 := by
  unfold World.alloc
  refine ⟨?_, ?_, ?_⟩
  · simp [Array.getElem?_push]
  · rw [Array.getElem?_push, if_pos (by simp)]
  · simp
theorem row_one (w : World) (o : Obj) : (w.alloc o).heap[w.heap.size]? = some o ∧ (w.alloc o).heap.size = w.heap.size + 1 := by
  unfold World.alloc
  simp
theorem crow_of {w : World} {B g n cap : Nat} {C : List ByteArray} (h : w.ownsRow B 9 1 (.slice (some ⟨g, 0, none⟩) n cap) n (C.map .string)) (hn : n = C.length) (hn1 : 1 ≤ n) :
    (∃ cs t fr, w.heap[g]? = some (.cells cs t fr) ∧ ∀ (j : Nat) c, C[j]? = some c → cs[j]? = some (.string c)) ∧ B ≤ g ∧ g < w.heap.size := by
  rcases h.2 with ⟨h0, -⟩ | ⟨g', cap', cur, h0, h1, h2, h3, h4, h5, h6⟩
  · simp at h0
  · simp only [Value.slice.injEq, Option.some.injEq, Addr.mk.injEq, and_true] at h0
    obtain ⟨rfl, -⟩ := h0
    refine ⟨⟨cur, _, _, h2, fun j c hj => ?_⟩, h1, (Array.getElem?_eq_some_iff.1 h2).1⟩
    have hjl : j < C.length := (List.getElem?_eq_some_iff.1 hj).1
    have : (cur.toList.take (n * 1))[j]? = some (.string c) := by rw [h6, List.getElem?_map, hj]; rfl
    rw [List.getElem?_take, if_pos (by omega)] at this
    simpa using this
set_option maxHeartbeats 8000000 in
set_option maxRecDepth 100000 in
theorem SNew_good (w : World) (ses ep : Int) (C : List ByteArray) (ad : Option Addr) (cap : Nat) (h : Strs C ad w) (h0 : 0 ≤ ses) (h1 : ses < 4294967296) (h2 : 0 ≤ ep) (h3 : ep < 4294967296) (h4 : 1 ≤ C.length) (h5 : C.length ≤ 256) (h6 : ∀ (j : Nat) c, C[j]? = some c → c.size ≤ 1000) :
    Calls Try.prog 11 #[.int .i64 ses, .int .i64 ep, .slice ad C.length cap] w fun e w' => ∃ a : Sa, e = .returned (.tuple #[.pointer (some ⟨a.g, 0, none⟩), .int .i64 0]) ∧ SnAt (Sn.start ses ep C) a w' ∧ Below w.heap.size w w' ∧ ∀ k ∈ a.all, w.heap.size ≤ k := by
  have hcon := ContainsFunc_str #[] (fun c => decide (1000 < c.size)) ad cap C w (by omega) h (fun j c hj W hW => long_calls W c (by have := h6 j c hj; omega))
  have hany : (C.any fun c => decide (1000 < c.size)) = false := by
    rw [List.any_eq_false]
    intro c hc
    obtain ⟨j, hj⟩ := List.getElem?_of_mem hc
    have := h6 j c hj
    simp; omega
  rw [hany] at hcon
  have hnew := fun w => New_calls w C.length h4 h5
  have hmk : ∀ w : World, (Instr.makeSlice 57 (.int .i64 (C.length : Nat)) (.int .i64 (C.length : Nat))).run Try.prog w = .ok (.slice (some ⟨w.heap.size, 0, none⟩) C.length C.length) (w.alloc (.cells (Array.replicate C.length (Value.int .i64 0)) 3)) := fun w => by
    obtain ⟨i, hi1, hi2, hi3, hi4⟩ := info_parts info_i64
    have h := run_make (P := Try.prog) (w := w) 57 3 i (.int .i64 0) Try.underlying57 hi1 hi2 .i64 .i64 C.length C.length (by omega) (by omega) (by rw [hi4]; omega) (by omega)
    rw [show (Value.int .i64 0).cells = #[.int .i64 0] from rfl, hi3, Nat.mul_one, Int.toNat_natCast, madeCells_one, List.toArray_replicate] at h
    exact h
  have hclone := fun w h => Clone_calls w C ad cap h h4 (by omega)
  have HCON := Lib.hid hcon; have HNEW := Lib.hid hnew; have HS := Lib.hid h; have HCL := Lib.hid hclone
  clear hcon hany hnew h hclone
  go_enter Try.func11, Try.ntmps11
  go_wp2_with fail
  refine HCON.out.mono ?_
  rintro e w1 ⟨rfl, q, rfl⟩
  have hS1 : Strs C ad (w.drewN q) := HS.out
  have HS1 := Lib.hid hS1; clear hS1
  have hb1 : Below w.heap.size w (w.drewN q) := below_drewN_of
  have hz1 : (w.drewN q).heap.size = w.heap.size := rfl
  have HB1 := Lib.hid hb1; have HZ1 := Lib.hid hz1; clear hb1 hz1 HS
  have d1 : decide (ses < 0) = false := by simpa using h0
  have d2 : decide (4294967296 ≤ ses) = false := by simp; omega
  have d3 : decide (ep < 0) = false := by simpa using h2
  have d4 : decide (4294967296 ≤ ep) = false := by simp; omega
  generalize w.drewN q = w1 at *
  go_wp2_with fail
  refine (HNEW.out _).mono ?_
  rintro e w2 ⟨rfl, hm2, hb2, hs2⟩
  have HM2 := Lib.hid hm2
  have HS2 := Lib.hid (HS1.out.below hb2)
  have HB2 := Lib.hid (bn HB1.out hb2)
  have HZ2 := Lib.hid hs2
  clear hm2 hb2 hs2
  generalize hgm : w1.heap.size = gm at *
  have HGM := Lib.hid hgm; clear hgm
  go_wp2_with fail
  have p0 : Below w2.heap.size w2 w2.drew := (Below.refl _ _).drew
  have p1 : Below w2.heap.size w2 (w2.alloc (.cells (Array.replicate C.length (Value.int .i64 0)) 3)).drew := ((Below.refl _ _).alloc (Nat.le_refl _) _).drew
  have p2 : Below w2.heap.size w2 ((w2.alloc (.cells (Array.replicate C.length (Value.int .i64 0)) 3)).alloc (.cells (Array.replicate C.length (Value.int .i64 0)) 3)).drew := (((Below.refl _ _).alloc (Nat.le_refl _) _).alloc (by simp) _).drew
  have P0 := Lib.hid p0; have P1 := Lib.hid p1; have P2 := Lib.hid p2
  clear p0 p1 p2
  go_region_law (go_simp; go_at_call 32; refine (HCL.out _ (HS2.out.below (by first | exact P0.out | exact P1.out | exact P2.out))).mono ?_; rintro e w3 ⟨gc, cap3, rfl, hown3, hb3, hs3⟩)
  · clear hmk
    have hcr := crow_of hown3 rfl h4
    have hz3 : w2.heap.size ≤ gc ∧ gc < w3.heap.size := ⟨hcr.2.1, hcr.2.2⟩
    have hbb := P0.out.trans (hb3.mono (Nat.le_refl _))
    obtain ⟨r1, r2, r3⟩ := row_two w3 (.cells (Array.replicate C.length (Value.int .i64 0)) 3) (.cells (Array.replicate C.length (Value.int .i64 0)) 3)
    have hbW := hbb.trans (((Below.refl w2.heap.size w3).alloc hbb.size (.cells (Array.replicate C.length (Value.int .i64 0)) 3)).alloc (by have := hbb.size; simp; omega) (.cells (Array.replicate C.length (Value.int .i64 0)) 3))
    have hcW : ∃ cs t fr, ((w3.alloc (.cells (Array.replicate C.length (Value.int .i64 0)) 3)).alloc (.cells (Array.replicate C.length (Value.int .i64 0)) 3)).heap[gc]? = some (.cells cs t fr) ∧ ∀ (j : Nat) c, C[j]? = some c → cs[j]? = some (.string c) := by
      obtain ⟨cs, t, fr, q1, q2⟩ := hcr.1
      exact ⟨cs, t, fr, (Below.heap_alloc (w3.alloc (.cells (Array.replicate C.length (Value.int .i64 0)) 3)) _ gc (by simp; omega)).trans ((Below.heap_alloc w3 _ gc hz3.2).trans q1), q2⟩
    have hmW := HM2.out.below hbW
    have hnd : [gm, gc, w3.heap.size, (w3.heap.size + 1)].Nodup := by
      have := HZ2.out
      have := hbb.size
      simp only [List.nodup_cons, List.mem_cons, List.not_mem_nil, or_false, not_or, List.nodup_nil, and_true, not_false_eq_true]
      omega
    have hst := start_at (ses := ses) (ep := ep) (cap := cap3) hmW hcW r1 r2 hnd
    have hbF := HB2.out.trans (hbW.mono (by have := HB2.out.size; omega))
    have hsW := hbW.size
    have hbF2 := hbF.trans ((Below.refl w.heap.size ((w3.alloc (.cells (Array.replicate C.length (Value.int .i64 0)) 3)).alloc (.cells (Array.replicate C.length (Value.int .i64 0)) 3))).alloc hbF.size (.cells #[.pointer (some ⟨gm, 0, none⟩), .int .i64 ses, .int .i64 ep, .slice (some ⟨gc, 0, none⟩) C.length cap3, .slice (some ⟨w3.heap.size, 0, none⟩) C.length C.length, .slice (some ⟨(w3.heap.size + 1), 0, none⟩) C.length C.length, .int .i64 0, .bool false] 67))
    have hge : ∀ k ∈ (⟨((w3.alloc (.cells (Array.replicate C.length (Value.int .i64 0)) 3)).alloc (.cells (Array.replicate C.length (Value.int .i64 0)) 3)).heap.size, gm, gc, w3.heap.size, (w3.heap.size + 1), cap3⟩ : Sa).all, w.heap.size ≤ k := by
      intro k hk
      have e1 := HZ1.out; have e2 := HZ2.out; have e3 := HGM.out
      have e4 := hbb.size
      simp only [Sa.all, List.mem_cons, List.not_mem_nil, or_false] at hk
      rcases hk with rfl | rfl | rfl | rfl | rfl <;> omega
    have HST := Lib.hid hst; have HBF := Lib.hid hbF2; have HGE := Lib.hid hge
    clear hst hbF2 hge hbF hnd hmW hcW hbW hcr hown3 hb3
    go_wp2
    go_ret2
    exact ⟨⟨((w3.alloc (.cells (Array.replicate C.length (Value.int .i64 0)) 3)).alloc (.cells (Array.replicate C.length (Value.int .i64 0)) 3)).heap.size, gm, gc, w3.heap.size, (w3.heap.size + 1), cap3⟩, congrArg (fun k => Ending.returned (.tuple #[.pointer (some ⟨k, 0, none⟩), .int .i64 0])) r3.symm, HST.out, HBF.out, HGE.out⟩
  · clear hmk
    have hcr := crow_of hown3 rfl h4
    have hz3 : w2.heap.size ≤ gc ∧ gc < w3.heap.size := ⟨hcr.2.1, hcr.2.2⟩
    have hbb := P0.out.trans (hb3.mono (Nat.le_refl _))
    obtain ⟨r1, r2, r3⟩ := row_two w3 (.cells (Array.replicate C.length (Value.int .i64 0)) 3) (.cells (Array.replicate C.length (Value.int .i64 0)) 3)
    have hbW := hbb.trans (((Below.refl w2.heap.size w3).alloc hbb.size (.cells (Array.replicate C.length (Value.int .i64 0)) 3)).alloc (by have := hbb.size; simp; omega) (.cells (Array.replicate C.length (Value.int .i64 0)) 3))
    have hcW : ∃ cs t fr, ((w3.alloc (.cells (Array.replicate C.length (Value.int .i64 0)) 3)).alloc (.cells (Array.replicate C.length (Value.int .i64 0)) 3)).heap[gc]? = some (.cells cs t fr) ∧ ∀ (j : Nat) c, C[j]? = some c → cs[j]? = some (.string c) := by
      obtain ⟨cs, t, fr, q1, q2⟩ := hcr.1
      exact ⟨cs, t, fr, (Below.heap_alloc (w3.alloc (.cells (Array.replicate C.length (Value.int .i64 0)) 3)) _ gc (by simp; omega)).trans ((Below.heap_alloc w3 _ gc hz3.2).trans q1), q2⟩
    have hmW := HM2.out.below hbW
    have hnd : [gm, gc, (w3.heap.size + 1), w3.heap.size].Nodup := by
      have := HZ2.out
      have := hbb.size
      simp only [List.nodup_cons, List.mem_cons, List.not_mem_nil, or_false, not_or, List.nodup_nil, and_true, not_false_eq_true]
      omega
    have hst := start_at (ses := ses) (ep := ep) (cap := cap3) hmW hcW r2 r1 hnd
    have hbF := HB2.out.trans (hbW.mono (by have := HB2.out.size; omega))
    have hsW := hbW.size
    have hbF2 := hbF.trans ((Below.refl w.heap.size ((w3.alloc (.cells (Array.replicate C.length (Value.int .i64 0)) 3)).alloc (.cells (Array.replicate C.length (Value.int .i64 0)) 3))).alloc hbF.size (.cells #[.pointer (some ⟨gm, 0, none⟩), .int .i64 ses, .int .i64 ep, .slice (some ⟨gc, 0, none⟩) C.length cap3, .slice (some ⟨(w3.heap.size + 1), 0, none⟩) C.length C.length, .slice (some ⟨w3.heap.size, 0, none⟩) C.length C.length, .int .i64 0, .bool false] 67))
    have hge : ∀ k ∈ (⟨((w3.alloc (.cells (Array.replicate C.length (Value.int .i64 0)) 3)).alloc (.cells (Array.replicate C.length (Value.int .i64 0)) 3)).heap.size, gm, gc, (w3.heap.size + 1), w3.heap.size, cap3⟩ : Sa).all, w.heap.size ≤ k := by
      intro k hk
      have e1 := HZ1.out; have e2 := HZ2.out; have e3 := HGM.out
      have e4 := hbb.size
      simp only [Sa.all, List.mem_cons, List.not_mem_nil, or_false] at hk
      rcases hk with rfl | rfl | rfl | rfl | rfl <;> omega
    have HST := Lib.hid hst; have HBF := Lib.hid hbF2; have HGE := Lib.hid hge
    clear hst hbF2 hge hbF hnd hmW hcW hbW hcr hown3 hb3
    go_wp2
    go_ret2
    exact ⟨⟨((w3.alloc (.cells (Array.replicate C.length (Value.int .i64 0)) 3)).alloc (.cells (Array.replicate C.length (Value.int .i64 0)) 3)).heap.size, gm, gc, (w3.heap.size + 1), w3.heap.size, cap3⟩, congrArg (fun k => Ending.returned (.tuple #[.pointer (some ⟨k, 0, none⟩), .int .i64 0])) r3.symm, HST.out, HBF.out, HGE.out⟩
  · clear hmk
    have hcr := crow_of hown3 rfl h4
    obtain ⟨r1, r3⟩ := row_one w2 (.cells (Array.replicate C.length (Value.int .i64 0)) 3)
    have hz3 : w2.heap.size + 1 ≤ gc ∧ gc < w3.heap.size := ⟨by have h1 := hcr.2.1; rw [show (World.drew (w2.alloc (.cells (Array.replicate C.length (Value.int .i64 0)) 3))).heap.size = (w2.alloc (.cells (Array.replicate C.length (Value.int .i64 0)) 3)).heap.size from rfl, r3] at h1; exact h1, hcr.2.2⟩
    have hs3' : w2.heap.size + 1 ≤ w3.heap.size := by have h1 := hb3.size; rw [show (World.drew (w2.alloc (.cells (Array.replicate C.length (Value.int .i64 0)) 3))).heap.size = (w2.alloc (.cells (Array.replicate C.length (Value.int .i64 0)) 3)).heap.size from rfl, r3] at h1; exact h1
    have r1' : w3.heap[w2.heap.size]? = some (Obj.cells (Array.replicate C.length (Value.int .i64 0)) 3) := (hb3.block w2.heap.size (by show w2.heap.size < (w2.alloc (.cells (Array.replicate C.length (Value.int .i64 0)) 3)).heap.size; rw [r3]; omega)).trans r1
    have hbb := P1.out.trans (hb3.mono (by show w2.heap.size ≤ (w2.alloc (.cells (Array.replicate C.length (Value.int .i64 0)) 3)).heap.size; rw [r3]; omega))
    obtain ⟨r2, r4⟩ := row_one w3 (.cells (Array.replicate C.length (Value.int .i64 0)) 3)
    have r1'' := (Below.heap_alloc w3 (.cells (Array.replicate C.length (Value.int .i64 0)) 3) w2.heap.size (by omega)).trans r1'
    have hbW := hbb.trans ((Below.refl w2.heap.size w3).alloc hbb.size (.cells (Array.replicate C.length (Value.int .i64 0)) 3))
    have hcW : ∃ cs t fr, (w3.alloc (.cells (Array.replicate C.length (Value.int .i64 0)) 3)).heap[gc]? = some (.cells cs t fr) ∧ ∀ (j : Nat) c, C[j]? = some c → cs[j]? = some (.string c) := by
      obtain ⟨cs, t, fr, q1, q2⟩ := hcr.1
      exact ⟨cs, t, fr, (Below.heap_alloc w3 _ gc hz3.2).trans q1, q2⟩
    have hmW := HM2.out.below hbW
    have hnd : [gm, gc, w2.heap.size, w3.heap.size].Nodup := by
      have := HZ2.out
      simp only [List.nodup_cons, List.mem_cons, List.not_mem_nil, or_false, not_or, List.nodup_nil, and_true, not_false_eq_true]
      omega
    have hst := start_at (ses := ses) (ep := ep) (cap := cap3) hmW hcW r1'' r2 hnd
    have hbF := HB2.out.trans (hbW.mono (by have := HB2.out.size; omega))
    have hsW := hbW.size
    have hbF2 := hbF.trans ((Below.refl w.heap.size (w3.alloc (.cells (Array.replicate C.length (Value.int .i64 0)) 3))).alloc hbF.size (.cells #[.pointer (some ⟨gm, 0, none⟩), .int .i64 ses, .int .i64 ep, .slice (some ⟨gc, 0, none⟩) C.length cap3, .slice (some ⟨w2.heap.size, 0, none⟩) C.length C.length, .slice (some ⟨w3.heap.size, 0, none⟩) C.length C.length, .int .i64 0, .bool false] 67))
    have hge : ∀ k ∈ (⟨(w3.alloc (.cells (Array.replicate C.length (Value.int .i64 0)) 3)).heap.size, gm, gc, w2.heap.size, w3.heap.size, cap3⟩ : Sa).all, w.heap.size ≤ k := by
      intro k hk
      have e1 := HZ1.out; have e2 := HZ2.out; have e3 := HGM.out
      simp only [Sa.all, List.mem_cons, List.not_mem_nil, or_false] at hk
      rcases hk with rfl | rfl | rfl | rfl | rfl <;> omega
    have HST := Lib.hid hst; have HBF := Lib.hid hbF2; have HGE := Lib.hid hge
    clear hst hbF2 hge hbF hnd hmW hcW hbW hcr hown3 hb3
    go_wp2
    go_ret2
    exact ⟨⟨(w3.alloc (.cells (Array.replicate C.length (Value.int .i64 0)) 3)).heap.size, gm, gc, w2.heap.size, w3.heap.size, cap3⟩, congrArg (fun k => Ending.returned (.tuple #[.pointer (some ⟨k, 0, none⟩), .int .i64 0])) r4.symm, HST.out, HBF.out, HGE.out⟩
  · clear hmk
    have hcr := crow_of hown3 rfl h4
    obtain ⟨r1, r2, r3⟩ := row_two w2 (.cells (Array.replicate C.length (Value.int .i64 0)) 3) (.cells (Array.replicate C.length (Value.int .i64 0)) 3)
    have hz3 : w2.heap.size + 2 ≤ gc ∧ gc < w3.heap.size := ⟨by have h1 := hcr.2.1; rw [show (World.drew ((w2.alloc (.cells (Array.replicate C.length (Value.int .i64 0)) 3)).alloc (.cells (Array.replicate C.length (Value.int .i64 0)) 3))).heap.size = ((w2.alloc (.cells (Array.replicate C.length (Value.int .i64 0)) 3)).alloc (.cells (Array.replicate C.length (Value.int .i64 0)) 3)).heap.size from rfl, r3] at h1; exact h1, hcr.2.2⟩
    have hs3' : w2.heap.size + 2 ≤ w3.heap.size := by have h1 := hb3.size; rw [show (World.drew ((w2.alloc (.cells (Array.replicate C.length (Value.int .i64 0)) 3)).alloc (.cells (Array.replicate C.length (Value.int .i64 0)) 3))).heap.size = ((w2.alloc (.cells (Array.replicate C.length (Value.int .i64 0)) 3)).alloc (.cells (Array.replicate C.length (Value.int .i64 0)) 3)).heap.size from rfl, r3] at h1; exact h1
    have r1' : w3.heap[w2.heap.size]? = some (Obj.cells (Array.replicate C.length (Value.int .i64 0)) 3) := (hb3.block w2.heap.size (by show w2.heap.size < ((w2.alloc (.cells (Array.replicate C.length (Value.int .i64 0)) 3)).alloc (.cells (Array.replicate C.length (Value.int .i64 0)) 3)).heap.size; rw [r3]; omega)).trans r1
    have r2' : w3.heap[w2.heap.size + 1]? = some (Obj.cells (Array.replicate C.length (Value.int .i64 0)) 3) := (hb3.block (w2.heap.size + 1) (by show w2.heap.size + 1 < ((w2.alloc (.cells (Array.replicate C.length (Value.int .i64 0)) 3)).alloc (.cells (Array.replicate C.length (Value.int .i64 0)) 3)).heap.size; rw [r3]; omega)).trans r2
    have hbW := P2.out.trans (hb3.mono (by show w2.heap.size ≤ ((w2.alloc (.cells (Array.replicate C.length (Value.int .i64 0)) 3)).alloc (.cells (Array.replicate C.length (Value.int .i64 0)) 3)).heap.size; rw [r3]; omega))
    have hcW := hcr.1
    have hmW := HM2.out.below hbW
    have hnd : [gm, gc, w2.heap.size, (w2.heap.size + 1)].Nodup := by
      have := HZ2.out
      simp only [List.nodup_cons, List.mem_cons, List.not_mem_nil, or_false, not_or, List.nodup_nil, and_true, not_false_eq_true]
      omega
    have hst := start_at (ses := ses) (ep := ep) (cap := cap3) hmW hcW r1' r2' hnd
    have hbF := HB2.out.trans (hbW.mono (by have := HB2.out.size; omega))
    have hsW := hbW.size
    have hbF2 := hbF.trans ((Below.refl w.heap.size w3).alloc hbF.size (.cells #[.pointer (some ⟨gm, 0, none⟩), .int .i64 ses, .int .i64 ep, .slice (some ⟨gc, 0, none⟩) C.length cap3, .slice (some ⟨w2.heap.size, 0, none⟩) C.length C.length, .slice (some ⟨(w2.heap.size + 1), 0, none⟩) C.length C.length, .int .i64 0, .bool false] 67))
    have hge : ∀ k ∈ (⟨w3.heap.size, gm, gc, w2.heap.size, (w2.heap.size + 1), cap3⟩ : Sa).all, w.heap.size ≤ k := by
      intro k hk
      have e1 := HZ1.out; have e2 := HZ2.out; have e3 := HGM.out
      simp only [Sa.all, List.mem_cons, List.not_mem_nil, or_false] at hk
      rcases hk with rfl | rfl | rfl | rfl | rfl <;> omega
    have HST := Lib.hid hst; have HBF := Lib.hid hbF2; have HGE := Lib.hid hge
    clear hst hbF2 hge hbF hnd hmW hcW hbW hcr hown3 hb3
    go_wp2
    go_ret2
    exact ⟨⟨w3.heap.size, gm, gc, w2.heap.size, (w2.heap.size + 1), cap3⟩, rfl, HST.out, HBF.out, HGE.out⟩
  · clear hmk
    have hcr := crow_of hown3 rfl h4
    obtain ⟨r1, r3⟩ := row_one w2 (.cells (Array.replicate C.length (Value.int .i64 0)) 3)
    have hz3 : w2.heap.size + 1 ≤ gc ∧ gc < w3.heap.size := ⟨by have h1 := hcr.2.1; rw [show (World.drew (w2.alloc (.cells (Array.replicate C.length (Value.int .i64 0)) 3))).heap.size = (w2.alloc (.cells (Array.replicate C.length (Value.int .i64 0)) 3)).heap.size from rfl, r3] at h1; exact h1, hcr.2.2⟩
    have hs3' : w2.heap.size + 1 ≤ w3.heap.size := by have h1 := hb3.size; rw [show (World.drew (w2.alloc (.cells (Array.replicate C.length (Value.int .i64 0)) 3))).heap.size = (w2.alloc (.cells (Array.replicate C.length (Value.int .i64 0)) 3)).heap.size from rfl, r3] at h1; exact h1
    have r1' : w3.heap[w2.heap.size]? = some (Obj.cells (Array.replicate C.length (Value.int .i64 0)) 3) := (hb3.block w2.heap.size (by show w2.heap.size < (w2.alloc (.cells (Array.replicate C.length (Value.int .i64 0)) 3)).heap.size; rw [r3]; omega)).trans r1
    have hbb := P1.out.trans (hb3.mono (by show w2.heap.size ≤ (w2.alloc (.cells (Array.replicate C.length (Value.int .i64 0)) 3)).heap.size; rw [r3]; omega))
    obtain ⟨r2, r4⟩ := row_one w3 (.cells (Array.replicate C.length (Value.int .i64 0)) 3)
    have r1'' := (Below.heap_alloc w3 (.cells (Array.replicate C.length (Value.int .i64 0)) 3) w2.heap.size (by omega)).trans r1'
    have hbW := hbb.trans ((Below.refl w2.heap.size w3).alloc hbb.size (.cells (Array.replicate C.length (Value.int .i64 0)) 3))
    have hcW : ∃ cs t fr, (w3.alloc (.cells (Array.replicate C.length (Value.int .i64 0)) 3)).heap[gc]? = some (.cells cs t fr) ∧ ∀ (j : Nat) c, C[j]? = some c → cs[j]? = some (.string c) := by
      obtain ⟨cs, t, fr, q1, q2⟩ := hcr.1
      exact ⟨cs, t, fr, (Below.heap_alloc w3 _ gc hz3.2).trans q1, q2⟩
    have hmW := HM2.out.below hbW
    have hnd : [gm, gc, w3.heap.size, w2.heap.size].Nodup := by
      have := HZ2.out
      simp only [List.nodup_cons, List.mem_cons, List.not_mem_nil, or_false, not_or, List.nodup_nil, and_true, not_false_eq_true]
      omega
    have hst := start_at (ses := ses) (ep := ep) (cap := cap3) hmW hcW r2 r1'' hnd
    have hbF := HB2.out.trans (hbW.mono (by have := HB2.out.size; omega))
    have hsW := hbW.size
    have hbF2 := hbF.trans ((Below.refl w.heap.size (w3.alloc (.cells (Array.replicate C.length (Value.int .i64 0)) 3))).alloc hbF.size (.cells #[.pointer (some ⟨gm, 0, none⟩), .int .i64 ses, .int .i64 ep, .slice (some ⟨gc, 0, none⟩) C.length cap3, .slice (some ⟨w3.heap.size, 0, none⟩) C.length C.length, .slice (some ⟨w2.heap.size, 0, none⟩) C.length C.length, .int .i64 0, .bool false] 67))
    have hge : ∀ k ∈ (⟨(w3.alloc (.cells (Array.replicate C.length (Value.int .i64 0)) 3)).heap.size, gm, gc, w3.heap.size, w2.heap.size, cap3⟩ : Sa).all, w.heap.size ≤ k := by
      intro k hk
      have e1 := HZ1.out; have e2 := HZ2.out; have e3 := HGM.out
      simp only [Sa.all, List.mem_cons, List.not_mem_nil, or_false] at hk
      rcases hk with rfl | rfl | rfl | rfl | rfl <;> omega
    have HST := Lib.hid hst; have HBF := Lib.hid hbF2; have HGE := Lib.hid hge
    clear hst hbF2 hge hbF hnd hmW hcW hbW hcr hown3 hb3
    go_wp2
    go_ret2
    exact ⟨⟨(w3.alloc (.cells (Array.replicate C.length (Value.int .i64 0)) 3)).heap.size, gm, gc, w3.heap.size, w2.heap.size, cap3⟩, congrArg (fun k => Ending.returned (.tuple #[.pointer (some ⟨k, 0, none⟩), .int .i64 0])) r4.symm, HST.out, HBF.out, HGE.out⟩
  · clear hmk
    have hcr := crow_of hown3 rfl h4
    obtain ⟨r1, r2, r3⟩ := row_two w2 (.cells (Array.replicate C.length (Value.int .i64 0)) 3) (.cells (Array.replicate C.length (Value.int .i64 0)) 3)
    have hz3 : w2.heap.size + 2 ≤ gc ∧ gc < w3.heap.size := ⟨by have h1 := hcr.2.1; rw [show (World.drew ((w2.alloc (.cells (Array.replicate C.length (Value.int .i64 0)) 3)).alloc (.cells (Array.replicate C.length (Value.int .i64 0)) 3))).heap.size = ((w2.alloc (.cells (Array.replicate C.length (Value.int .i64 0)) 3)).alloc (.cells (Array.replicate C.length (Value.int .i64 0)) 3)).heap.size from rfl, r3] at h1; exact h1, hcr.2.2⟩
    have hs3' : w2.heap.size + 2 ≤ w3.heap.size := by have h1 := hb3.size; rw [show (World.drew ((w2.alloc (.cells (Array.replicate C.length (Value.int .i64 0)) 3)).alloc (.cells (Array.replicate C.length (Value.int .i64 0)) 3))).heap.size = ((w2.alloc (.cells (Array.replicate C.length (Value.int .i64 0)) 3)).alloc (.cells (Array.replicate C.length (Value.int .i64 0)) 3)).heap.size from rfl, r3] at h1; exact h1
    have r1' : w3.heap[w2.heap.size]? = some (Obj.cells (Array.replicate C.length (Value.int .i64 0)) 3) := (hb3.block w2.heap.size (by show w2.heap.size < ((w2.alloc (.cells (Array.replicate C.length (Value.int .i64 0)) 3)).alloc (.cells (Array.replicate C.length (Value.int .i64 0)) 3)).heap.size; rw [r3]; omega)).trans r1
    have r2' : w3.heap[w2.heap.size + 1]? = some (Obj.cells (Array.replicate C.length (Value.int .i64 0)) 3) := (hb3.block (w2.heap.size + 1) (by show w2.heap.size + 1 < ((w2.alloc (.cells (Array.replicate C.length (Value.int .i64 0)) 3)).alloc (.cells (Array.replicate C.length (Value.int .i64 0)) 3)).heap.size; rw [r3]; omega)).trans r2
    have hbW := P2.out.trans (hb3.mono (by show w2.heap.size ≤ ((w2.alloc (.cells (Array.replicate C.length (Value.int .i64 0)) 3)).alloc (.cells (Array.replicate C.length (Value.int .i64 0)) 3)).heap.size; rw [r3]; omega))
    have hcW := hcr.1
    have hmW := HM2.out.below hbW
    have hnd : [gm, gc, (w2.heap.size + 1), w2.heap.size].Nodup := by
      have := HZ2.out
      simp only [List.nodup_cons, List.mem_cons, List.not_mem_nil, or_false, not_or, List.nodup_nil, and_true, not_false_eq_true]
      omega
    have hst := start_at (ses := ses) (ep := ep) (cap := cap3) hmW hcW r2' r1' hnd
    have hbF := HB2.out.trans (hbW.mono (by have := HB2.out.size; omega))
    have hsW := hbW.size
    have hbF2 := hbF.trans ((Below.refl w.heap.size w3).alloc hbF.size (.cells #[.pointer (some ⟨gm, 0, none⟩), .int .i64 ses, .int .i64 ep, .slice (some ⟨gc, 0, none⟩) C.length cap3, .slice (some ⟨(w2.heap.size + 1), 0, none⟩) C.length C.length, .slice (some ⟨w2.heap.size, 0, none⟩) C.length C.length, .int .i64 0, .bool false] 67))
    have hge : ∀ k ∈ (⟨w3.heap.size, gm, gc, (w2.heap.size + 1), w2.heap.size, cap3⟩ : Sa).all, w.heap.size ≤ k := by
      intro k hk
      have e1 := HZ1.out; have e2 := HZ2.out; have e3 := HGM.out
      simp only [Sa.all, List.mem_cons, List.not_mem_nil, or_false] at hk
      rcases hk with rfl | rfl | rfl | rfl | rfl <;> omega
    have HST := Lib.hid hst; have HBF := Lib.hid hbF2; have HGE := Lib.hid hge
    clear hst hbF2 hge hbF hnd hmW hcW hbW hcr hown3 hb3
    go_wp2
    go_ret2
    exact ⟨⟨w3.heap.size, gm, gc, (w2.heap.size + 1), w2.heap.size, cap3⟩, rfl, HST.out, HBF.out, HGE.out⟩
end Go.Proofs.Ytcmgmdgeimmbeaa
