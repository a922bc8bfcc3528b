/- The walks of Receiver.Data, Ack. -/
import Derived.Test.YtpgcdfdfbcmodaaRecTake
import Derived.Test.YtpgcdfdfbcmodaaJoin
import Derived.Test.YtpgcdfdfbcmodaaQuietTail
namespace Go.Proofs.Ytpgcdfdfbcmodaa
open Go.RowKit Go.Maps
set_option linter.unusedVariables false
set_option linter.unusedSimpArgs false
theorem inter_flat : ∀ l : List (List UInt8), (l.intersperse []).flatten = l.flatten
  | [] => rfl
  | [x] => by simp
  | x :: y :: l => by
    have := inter_flat (y :: l)
    simp only [List.intersperse_cons_cons, List.flatten_cons, List.nil_append] at *
    rw [this]
theorem join_flat (l : List (List UInt8)) : Lib.join l [] = l.flatten := by
  unfold Lib.join List.intercalate; exact inter_flat l
def flatC (C : List ByteArray) : List UInt8 := (C.map (·.data.toList)).flatten
theorem flatC_le : ∀ (C : List ByteArray), (∀ c ∈ C, c.size ≤ 1000) → (flatC C).length ≤ 1000 * C.length
  | [], _ => by simp [flatC]
  | c :: C, h => by
    have h1 := h c (by simp)
    have h2 := flatC_le C fun x hx => h x (by simp [hx])
    have : flatC (c :: C) = c.data.toList ++ flatC C := by simp [flatC]
    rw [this, List.length_append, List.length_cons, show c.data.toList.length = c.size from rfl]; omega
set_option maxHeartbeats 4000000 in
theorem Data_open (w : World) (R : Rv) (a : Ra) (h : RvAt R a w) (hf : baseB R.B ≠ R.B.length) :
    Calls Try.prog 19 #[.pointer (some ⟨a.g, 0, none⟩)] w fun e w' => e = .returned (.tuple #[.string ⟨#[]⟩, .int .i64 11]) ∧ Below w.heap.size w w' := by
  obtain ⟨-, -, c2, -, -⟩ := h.cells
  have hfu := Full_calls w a.gm R.B h.mp
  rw [decide_eq_false hf] at hfu
  have HF := Lib.hid hfu; clear hfu h hf
  go_enter Try.func19, Try.ntmps19
  go_wp2_with fail
  refine HF.out.mono ?_
  rintro e w1 ⟨rfl, hb⟩
  go_wp2
  go_ret2
  exact ⟨rfl, hb⟩
set_option maxHeartbeats 4000000 in
theorem Data_full (w : World) (R : Rv) (a : Ra) (h : RvAt R a w) (hf : baseB R.B = R.B.length) :
    Calls Try.prog 19 #[.pointer (some ⟨a.g, 0, none⟩)] w fun e w' => e = .returned (.tuple #[.string (bstr (flatC R.C)), .int .i64 0]) ∧ Below w.heap.size w w' := by
  obtain ⟨-, -, c2, -, -⟩ := h.cells
  have hfu := Full_calls w a.gm R.B h.mp
  rw [decide_eq_true hf] at hfu
  have hle := h.mp.le
  have HF := Lib.hid hfu; have H := Lib.hid h; clear hfu h hf
  go_enter Try.func19, Try.ntmps19
  go_wp2_with fail
  refine HF.out.mono ?_
  rintro e w1 ⟨rfl, hb⟩
  have h1 := H.out.below hb (Nat.le_refl _)
  obtain ⟨-, -, -, c3, -⟩ := h1.cells
  have hlc := h1.wf.lc
  have hj := Try.strings_Join a.gc 0 R.B.length R.C ⟨#[]⟩ w1 (fun j x hx => by
    rw [Nat.zero_add, cell_of_row _ _ _ _ _ _ h1.crow]
    simp [strsV, hx]) (h1.lt _ (by simp [Ra.all])) (by omega) (by omega) (by
    rw [show (ByteArray.mk #[]).data.toList = [] from rfl, join_flat]
    have := flatC_le R.C h1.wf.cs
    unfold flatC at this
    omega)
  rw [show (ByteArray.mk #[]).data.toList = [] from rfl, join_flat, hlc] at hj
  have HJ := Lib.hid hj
  clear hj h1 hlc H
  go_wp2_with fail
  refine HJ.out.mono ?_
  rintro e w2 ⟨rfl, hb2⟩
  go_wp2
  go_ret2
  exact ⟨rfl, bn hb hb2⟩
theorem below_row {B g : Nat} {w0 w : World} (hb : Below B w0 w) (hBg : B ≤ g) (cs : Array Value) : Below B w0 (w.setRow g cs) :=
  ⟨hb.os, hb.tape, hb.output, by rw [size_setRow]; exact hb.size, fun k hk => (setRow_other w g k cs (by omega)).trans (hb.block k hk)⟩
theorem results_one {fn : Func} {t : Tmp} {T : TypeId} (h : fn.results = #[.cell t T]) (tmps : Array Value) (P : Program) (w : World) (ad : Addr) (v : Value) (ht : tmps[t]? = some (.pointer (some ad))) (hl : (loadVar T ad).run P w = .ok v w) :
    (results fn tmps).run P w = .ok v w := by
  simp [results, h, ht, asAddr, hl]
theorem loadFr (w : World) (g : Nat) (t : TypeId) (cs : Array Value) (fr : Nat × Nat) (hsz : cs.size = 6) (hg : w.heap[g]? = some (.cells cs t fr)) :
    (loadVar 32 ⟨g, 0, none⟩).run Try.prog w = .ok (.agg cs) w :=
  run_loadVar_row w g t _ cs fr _ hg Try.underlying32 rfl (by rw [hsz]; kernel_rfl)
theorem row_at {w : World} {h : Nat} (hh : w.heap[h]? = some (.cells #[.int .i64 0, .int .i64 0, .int .i64 0, .int .i64 0, .int .i64 0, .string ⟨#[]⟩] 32 (0, 0))) :
    w.cell? ⟨h, 0, none⟩ = some (.int .i64 0) ∧ w.cell? ⟨h, 1, none⟩ = some (.int .i64 0) ∧ w.cell? ⟨h, 2, none⟩ = some (.int .i64 0) ∧ w.cell? ⟨h, 3, none⟩ = some (.int .i64 0) ∧ w.cell? ⟨h, 4, none⟩ = some (.int .i64 0) ∧ w.cell? ⟨h, 5, none⟩ = some (.string ⟨#[]⟩) :=
  ⟨cell_of_row _ _ 0 _ _ _ hh, cell_of_row _ _ 1 _ _ _ hh, cell_of_row _ _ 2 _ _ _ hh, cell_of_row _ _ 3 _ _ _ hh, cell_of_row _ _ 4 _ _ _ hh, cell_of_row _ _ 5 _ _ _ hh⟩
theorem row_thaw {w : World} {h : Nat} (hh : w.heap[h]? = some (.cells #[.int .i64 0, .int .i64 0, .int .i64 0, .int .i64 0, .int .i64 0, .string ⟨#[]⟩] 32 (0, 0))) : ∀ q : Nat, w.frozen? ⟨h, q, none⟩ = false := fun q => by simp [World.frozen?, hh]
set_option maxHeartbeats 8000000 in
set_option maxRecDepth 100000 in
theorem RAck_calls (w : World) (R : Rv) (a : Ra) (h : RvAt R a w) :
    Calls Try.prog 14 #[.pointer (some ⟨a.g, 0, none⟩)] w fun e w' => e = .returned (.agg #[.int .i64 2, .int .i64 R.ses, .int .i64 R.ep, .int .i64 (baseB R.B : Nat), .int .i64 (R.B.length : Nat), .string (tellB R.B 16)]) ∧ Below w.heap.size w w' := by
  have hbw := (Below.refl w.heap.size w).alloc (Nat.le_refl _) (.cells #[.int .i64 0, .int .i64 0, .int .i64 0, .int .i64 0, .int .i64 0, .string ⟨#[]⟩] 32)
  have h1 := h.below hbw (Nat.le_refl _)
  have hR := heap_alloc_new w (.cells #[.int .i64 0, .int .i64 0, .int .i64 0, .int .i64 0, .int .i64 0, .string ⟨#[]⟩] 32)
  have hsz : (w.alloc (.cells #[.int .i64 0, .int .i64 0, .int .i64 0, .int .i64 0, .int .i64 0, .string ⟨#[]⟩] 32)).heap.size = w.heap.size + 1 := by simp
  have HBW := Lib.hid hbw; have H1 := Lib.hid h1; have HR := Lib.hid hR; have HSZ := Lib.hid hsz
  clear hbw h1 hR hsz h
  go_enter Try.func14, Try.ntmps14
  go_wp2_with fail
  generalize w.alloc (.cells #[.int .i64 0, .int .i64 0, .int .i64 0, .int .i64 0, .int .i64 0, .string ⟨#[]⟩] 32) = w1 at *
  obtain ⟨c0, c1, c2, c3, -⟩ := H1.out.cells
  have k0 := cell_regrown c0
  have k1 := cell_regrown c1
  have k2 := cell_regrown c2
  have k3 := cell_regrown c3
  have cA : ∀ d os, Calls Try.prog 46 #[.pointer (some ⟨a.gm, 0, none⟩)] (Sort.grow (redrawn w1 d) os) fun e w'' => e = .returned (.int .i64 (baseB R.B : Nat)) ∧ ∃ p : Regrown, w'' = Sort.grow (redrawn w1 p.d) p.os := fun d os => (Base_calls _ a.gm R.B (H1.out.mp.below (below_regrown w1 d os))).mono fun e w' ⟨h1, h2⟩ => ⟨h1, ⟨d, os⟩, h2.symm⟩
  have cB : ∀ d os, Calls Try.prog 47 #[.pointer (some ⟨a.gm, 0, none⟩), .int .i64 16] (Sort.grow (redrawn w1 d) os) fun e w'' => e = .returned (.string (tellB R.B 16)) ∧ ∃ p : Regrown, w'' = Sort.grow (redrawn w1 p.d) p.os := fun d os => Calls.regrown_of (Behind_calls _ a.gm R.B 16 (H1.out.mp.below (below_regrown w1 d os)))
  clear c0 c1 c2 c3
  refine Lib.wp_region_below_tail 24 (by kernel_rfl) (by kernel_rfl) ?_
  simp only [List.take_succ_cons, List.take_zero, List.drop_succ_cons, List.drop_zero]
  repeat (quiet_step (first | exact cA _ _ | exact cB _ _))
  refine wpQuiet_nil ?_
  intro w2 hw'
  have hb2 : Below w1.heap.size w1 w2 := by obtain ⟨p, rfl⟩ := hw'; exact below_regrown w1 _ _
  clear hw' k0 k1 k2 k3 cA cB
  have hR2 := (hb2.block w.heap.size (by rw [HSZ.out]; omega)).trans HR.out
  have hrow := setRow_heap w2 w.heap.size _ #[.int .i64 2, .int .i64 R.ses, .int .i64 R.ep, .int .i64 (baseB R.B : Nat), .int .i64 (R.B.length : Nat), .string (tellB R.B 16)] _ _ hR2
  have hbr := below_row (bn HBW.out hb2) (Nat.le_refl _) #[.int .i64 2, .int .i64 R.ses, .int .i64 R.ep, .int .i64 (baseB R.B : Nat), .int .i64 (R.B.length : Nat), .string (tellB R.B 16)]
  refine wpList_do rfl (exec_store_row _ 32 (.tmp 2) (.tmp 29) (by rfl) w2 w.heap.size 32 #[.int .i64 2, .int .i64 R.ses, .int .i64 R.ep, .int .i64 (baseB R.B : Nat), .int .i64 (R.B.length : Nat), .string (tellB R.B 16)] #[.int .i64 0, .int .i64 0, .int .i64 0, .int .i64 0, .int .i64 0, .string ⟨#[]⟩] (by rfl) (by rfl) (by kernel_rfl) rfl (by simp [Value.oneCell']) hR2) ?_
  generalize w2.setRow w.heap.size _ = w3 at *
  go_wp2
  refine bodyPost_ret (results_one rfl _ _ _ ⟨w.heap.size, 0, none⟩ _ rfl (loadFr _ _ _ _ _ rfl hrow)) rfl ?_
  exact ⟨rfl, hbr⟩
end Go.Proofs.Ytpgcdfdfbcmodaa
