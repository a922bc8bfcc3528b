/- The walk of prefix.Bytes. (Printed by wip/print/pfxbytes.py.) -/
import Derived.Test.YtmccnmccegbdjaaDoorPfxCompare
namespace Go.Proofs.YtmccnmccegbdjaaDoor
open Go.RowKit Go.Sort
set_option linter.unusedVariables false
set_option linter.unusedSimpArgs false
def bytesL (p : Px) : List Nat := (p.n.toNat + 64 * kindN p.six) :: p.A.take ((p.n.toNat + 7) / 8)
def Px.bytes (p : Px) : ByteArray := if p.right then toBA (bytesL p) else ⟨#[]⟩
def BytePost (x : Nat) (v : Value) (w : World) : Prop := ∃ g, v = .slice (some ⟨g, 0, none⟩) 1 1 ∧ w.heap[g]? = some (.cells #[.int .u8 (x : Int)] 5)
theorem BytePost.grows {x : Nat} {v : Value} {w w' : World} (h : BytePost x v w) (hg : Lib.Grows w w') : BytePost x v w' := by
  obtain ⟨g, h1, h2⟩ := h
  exact ⟨g, h1, (hg.block g (Array.getElem?_eq_some_iff.1 h2).1).trans h2⟩
theorem toBA_cons (x : Nat) (L : List Nat) : toBA [x] ++ toBA L = toBA (x :: L) := by
  have h : (toBA [x] ++ toBA L).data = (toBA (x :: L)).data := by
    rw [ByteArray.data_append]
    simp [toBA]
  generalize toBA [x] ++ toBA L = a at *
  generalize toBA (x :: L) = b at *
  cases a; cases b; simp at h; rw [h]
theorem kindN_le (b : Bool) : kindN b ≤ 1 := by cases b <;> decide
set_option maxRecDepth 100000 in
set_option maxHeartbeats 8000000 in
theorem Bytes_calls (w : World) (p : Px) (hp : p.wf) : Calls Tryd.prog 17 #[.agg p.row] w fun e w' => e = .returned (.string p.bytes) ∧ Below w.heap.size w w' := by
  have hb0 := (Below.refl w.heap.size w).alloc (Nat.le_refl _) (.cells p.row 30)
  have h0 := PxAt.new w p hp.len
  have HB0 := Lib.hid hb0; have H0 := Lib.hid h0; clear hb0 h0
  obtain ⟨rr, hrr⟩ : ∃ rr, rr = p.bytes := ⟨_, rfl⟩
  rw [← hrr]
  have HRR := Lib.hid hrr; clear hrr
  have hC : p.bytes = if p.right then toBA (bytesL p) else ⟨#[]⟩ := rfl
  have hmn := @Px.right_n p
  have cP := fun w => Right_calls w p hp
  go_enter Tryd.func17, Tryd.ntmps17
  go_wp2_with (with_reducible refine wpList_mark (o := ⟨some 3, _, _, _, _, _⟩) ?_)
  generalize w.alloc (.cells p.row 30) = w1 at *
  refine Marked.intro ?_
  refine wpList_run rfl (exec_load_whole rfl rfl H0.out) ?_
  go_wp2_with fail
  cases e1 : p.right with
  | false =>
    rw [e1] at cP hC
    have HR := Lib.hid (HRR.out.trans (hC.trans (show (if false = true then toBA (bytesL p) else ⟨#[]⟩) = (⟨#[]⟩ : ByteArray) from rfl)))
    clear hC e1 hmn
    refine (cP _).mono ?_
    rintro e w2 ⟨rfl, hb⟩
    have HB2 := Lib.hid (bn HB0.out hb); clear hb HB0 H0 cP
    go_wp2
    go_ret
    exact ⟨by rw [HR.out]; rfl, HB2.out⟩
  | true =>
    obtain ⟨n, hn, hn2⟩ := hmn e1
    have hw := widthN_le p.six
    have hk := kindN_le p.six
    rw [e1] at cP hC
    refine (cP _).mono ?_
    rintro e w2 ⟨rfl, hb⟩
    have HB2 := Lib.hid (bn HB0.out hb); have H2 := Lib.hid (H0.out.b hb); clear hb HB0 H0 cP
    have hbl : bytesL p = (n + 64 * kindN p.six) :: p.A.take ((n + 7) / 8) := by unfold bytesL; rw [hn]; rfl
    have HR := Lib.hid (HRR.out.trans (hC.trans (show (if true = true then toBA (bytesL p) else ⟨#[]⟩) = toBA ((n + 64 * kindN p.six) :: p.A.take ((n + 7) / 8)) by rw [hbl]; rfl)))
    clear hC e1 hmn hbl
    have hn128 : n ≤ 128 := by omega
    clear hw hn2
    obtain ⟨m, hm⟩ : ∃ m, (n + 7) / 8 = m := ⟨_, rfl⟩
    have hm16 : m ≤ 16 := by omega
    have k0 := cell_regrown H2.out.len
    rw [hn] at k0
    go_wp2_with fail
    have cK : ∀ d os, Calls Tryd.prog 38 #[.agg p.row] (Sort.grow (redrawn w2 d) os) fun e w'' => e = .returned (.int .i64 (kindN p.six : Nat)) ∧ Lib.Grows (Sort.grow (redrawn w2 d) os) w'' := fun d os => Lib.Calls.grows_of (kind_calls _ p hp.len)
    obtain ⟨k, hk2⟩ : ∃ k, kindN p.six = k := ⟨_, rfl⟩
    rw [hk2] at cK hk
    have HK := Lib.hid hk2; have HM := Lib.hid hm; clear hk2 hm hn
    obtain ⟨t, ht⟩ : ∃ t, 64 * k = t := ⟨_, rfl⟩
    obtain ⟨x, hx⟩ : ∃ x, n + 64 * k = x := ⟨_, rfl⟩
    have hx256 : x < 256 := by omega
    have w1_ : IntKind.i64.wrap (64 * (k : Int)) = (t : Int) := by rw [show 64 * (k : Int) = (t : Int) by omega]; exact IntWalk.i64_in _ (by omega)
    have w2_ : IntKind.i64.wrap ((n : Int) + (t : Int)) = (x : Int) := by rw [show (n : Int) + (t : Int) = (x : Int) by omega]; exact IntWalk.i64_in _ (by omega)
    have w3_ : IntKind.u8.wrap (x : Int) = (x : Int) := by rw [IntKind.wrap_u8]; omega
    have HX := Lib.hid hx; clear hx ht
    obtain ⟨y, hy⟩ : ∃ y, n + 7 = y := ⟨_, rfl⟩
    have w4_ : IntKind.i64.wrap ((n : Int) + 7) = (y : Int) := by rw [show (n : Int) + 7 = (y : Int) by omega]; exact IntWalk.i64_in _ (by omega)
    have w5_ : IntKind.i64.wrap ((y : Int) / 8) = (m : Int) := by
      have := HM.out
      rw [show (y : Int) / 8 = (m : Int) by omega]; exact IntWalk.i64_in _ (by omega)
    have hm16I : (m : Int) ≤ 16 := by omega
    clear hy
    refine Lib.wp_region_made 18 (fun i => if i = 7 then some (BytePost x) else none) (by kernel_rfl) (by kernel_rfl) (fun k Post h v w w' hp hg => ?_) ?_
    · simp only [] at h
      split at h
      · cases h; exact hp.grows hg
      · cases h
    simp only [List.take_succ_cons, List.take_zero, List.drop_succ_cons, List.drop_zero]
    repeat (first | refine Lib.wpML_val _ (by rfl) (by rfl) (fun w' hw' => exec_load_whole rfl rfl (H2.out.b hw')) ?_ | (refine Lib.wpML_step (by rfl) (fun K hK => ?_); go_simp; first | (refine hK _ ?_; clear hK K) | (apply Exists.intro; refine ⟨fun _ => ?_, hK _ ?_⟩; (first | (refine ⟨?_, by with_reducible exact cK _ _⟩; exact Lib.noInit (by kernel_rfl))); clear hK K)))
    refine Lib.wpML_make (Post := BytePost x) (by rfl) (fun K hK => ?_)
    go_simp
    refine ⟨fun s => ⟨Lib.Grows.alloc _ _, _, rfl, grow_alloc_new _ _ _ _⟩, fun v => hK _ _ ?_⟩
    clear hK K
    rintro ⟨wv, hbv, g, rfl, hmv⟩
    clear hbv hmv wv
    refine Lib.wpML_val_use 7 (BytePost x (.slice (some ⟨g, 0, none⟩) 1 1)) (.string (toBA [x])) (by rfl) (by kernel_rfl) (fun w h => h.2 rfl) (by rfl) (fun w' _ h => ?_) ?_
    · obtain ⟨g2, h1, h2⟩ := h
      cases h1
      refine exec_bytes_back _ 56 9 5 _ rfl w' ⟨g, 0, none⟩ 1 1 (by rfl) [UInt8.ofNat x] rfl Tryd.underlying56 Tryd.underlying5 Tryd.underlying9 (fun j hj => ?_)
      obtain rfl : j = 0 := by simpa using hj
      rw [Addr.add_mid, cell_of_row _ _ _ _ _ _ h2]
      have : (UInt8.ofNat x).toNat = x := by rw [UInt8.toNat_ofNat']; omega
      show some (Value.int .u8 (x : Int)) = some (.int .u8 ((UInt8.ofNat x).toNat : Int))
      rw [this]
    repeat (first | refine Lib.wpML_val _ (by rfl) (by rfl) (fun w' hw' => exec_load_whole rfl rfl (H2.out.b hw')) ?_ | (refine Lib.wpML_step (by rfl) (fun K hK => ?_); go_simp; (refine hK _ ?_; clear hK K)))
    refine Lib.wpML_val (.string (toBA (p.A.take m))) (by rfl) (by rfl) (fun w' hw' => ?_) ?_
    · have hlen : (p.A.take m).length = m := by rw [List.length_take, hp.len]; omega
      refine exec_bytes_back _ 56 9 5 _ rfl w' ⟨w.heap.size, 1, none⟩ m 16 (by rfl) ((p.A.take m).map fun x => UInt8.ofNat x) (by rw [List.length_map, hlen]) Tryd.underlying56 Tryd.underlying5 Tryd.underlying9 (fun j hj => ?_)
      have hjm : j < m := by rw [List.length_map, hlen] at hj; exact hj
      rw [Addr.add_mid, (H2.out.b hw').byte j (by omega)]
      have hx := hp.small j
      have e1 : ((p.A.take m).map fun x => UInt8.ofNat x)[j] = UInt8.ofNat (p.A.getD j 0) := by
        rw [List.getElem_map, List.getElem_take, List.getD_eq_getElem?_getD, List.getElem?_eq_getElem (by rw [hp.len]; omega)]; rfl
      rw [e1, UInt8.toNat_ofNat', Nat.mod_eq_of_lt hx]
    have hsum : ¬ 9223372036854775807 < (toBA [x]).size + (toBA (p.A.take m)).size := by
      simp only [toBA, ByteArray.size, List.size_toArray, List.length_map, List.length_take, hp.len, List.length_cons, List.length_nil]; omega
    repeat (first | (refine Lib.wpML_step (by rfl) (fun K hK => ?_); go_simp; (refine hK _ ?_; clear hK K)))
    refine Lib.wpML_nil ?_
    intro w3 hw3 _
    have hb3 := Lib.Behind.below hw3
    have HB3 := Lib.hid (bn HB2.out hb3)
    clear hw3 hb3
    go_wp2
    go_ret
    exact ⟨by rw [HR.out, HK.out, HM.out, HX.out, ← toBA_cons]; rfl, HB3.out⟩
end Go.Proofs.YtmccnmccegbdjaaDoor
