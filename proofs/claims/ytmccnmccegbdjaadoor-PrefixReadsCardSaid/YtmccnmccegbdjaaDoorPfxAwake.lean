/- The law's awake: its answers. (Printed by wip/print/pfxawake.py.) -/
import Derived.Test.YtmccnmccegbdjaaDoorPfxText6
namespace Go.Proofs.YtmccnmccegbdjaaDoor
open Go.RowKit Go.Sort
set_option linter.unusedVariables false
set_option linter.unusedSimpArgs false
theorem region_app {P : Program} {id : Nat} {Q : Exit → Act → World → Prop} {a : Act} {w : World} {l1 l2 : List Oper} (h : (Code.region id (l1 ++ l2).toArray false).wp P Q a w) : (Code.region id (List.append l1 l2).toArray false).wp P Q a w := h
def Px.text (p : Px) : ByteArray := if p.right then (if p.six then text8 p.A p.n.toNat else text4 p.A p.n.toNat) else ⟨#[]⟩
set_option maxRecDepth 100000 in
theorem Text_bad (w : World) (p : Px) (hp : p.wf) (hr : p.right = false) : Calls Tryd.prog 18 #[.agg p.row] w fun e w' => e = .returned (.string ⟨#[]⟩) ∧ Below w.heap.size w w' := by
  have hb0 := (Below.refl w.heap.size w).alloc (Nat.le_refl _) (.cells p.row 30)
  have h0 := PxAt.new w p hp.len
  have HB0 := Lib.hid hb0; have H0 := Lib.hid h0; clear hb0 h0
  have cP := fun w => Right_calls w p hp
  rw [hr] at cP
  clear hr
  go_enter Tryd.func18, Tryd.ntmps18
  go_wp2_with (with_reducible refine wpList_mark (o := ⟨some 10, _, _, _, _, _⟩) ?_)
  generalize w.alloc (.cells p.row 30) = w1 at *
  refine Marked.intro ?_
  refine wpList_run rfl (exec_load_whole rfl rfl H0.out) ?_
  go_wp2_with fail
  refine (cP _).mono ?_
  rintro e w2 ⟨rfl, hb⟩
  have HB2 := Lib.hid (bn HB0.out hb); clear hb HB0 H0 cP
  go_wp2
  go_ret
  exact ⟨rfl, HB2.out⟩
theorem Text_calls (w : World) (p : Px) (hp : p.wf) (ht : Tab w) : Calls Tryd.prog 18 #[.agg p.row] w fun e w' => e = .returned (.string p.text) ∧ Below w.heap.size w w' := by
  unfold Px.text
  cases h : p.right with
  | false => exact Text_bad w p hp h
  | true =>
    cases h6 : p.six with
    | false => exact Text_four w p hp ht h h6
    | true => exact Text_six w p hp ht h h6
theorem wf_of (p : Px) (h : p.A.length = 16) (h2 : p.A.all (fun x => decide (x < 256)) = true) : p.wf := ⟨h, fun i => by
  rw [List.getD_eq_getElem?_getD]
  cases e : p.A[i]? with
  | none => decide
  | some x =>
    have := List.all_eq_true.1 h2 x (List.mem_of_getElem? e)
    simpa using this⟩
def Held (L : List (Nat × Px)) (w : World) : Prop := ∀ x ∈ L, PxAt x.1 x.2 w
theorem Held.bl {L : List (Nat × Px)} {w w' : World} {B : Nat} (h : Held L w) (hb : Below B w w') (hB : ∀ x ∈ L, x.1 < B) : Held L w' := fun x hx => (h x hx).below hb (hB x hx)
theorem Held.lt {L : List (Nat × Px)} {w : World} (h : Held L w) : ∀ x ∈ L, x.1 < w.heap.size := fun x hx => (h x hx).lt
theorem Held.b {L : List (Nat × Px)} {w w' : World} (h : Held L w) (hb : Below w.heap.size w w') : Held L w' := h.bl hb h.lt
theorem Held.store {L : List (Nat × Px)} {w : World} (h : Held L w) (q : Px) (hq : q.A.length = 16) : Held ((w.heap.size, q) :: L) ((w.alloc (.cells Px.zero.row 30)).setRow w.heap.size q.row) := fun x hx => by
  rcases List.mem_cons.1 hx with rfl | hx
  · exact (PxAt.new w Px.zero (by rfl)).set hq
  · exact (((h x hx).b ((Below.refl w.heap.size w).alloc (Nat.le_refl _) _)).row_other (Nat.ne_of_lt (h.lt x hx)) q.row)
theorem below_store (w : World) (q : Px) : Below w.heap.size w ((w.alloc (.cells Px.zero.row 30)).setRow w.heap.size q.row) := below_row ((Below.refl w.heap.size w).alloc (Nat.le_refl _) _) (Nat.le_refl _) _
def sAB : ByteArray := ⟨#[10, 1, 2, 3]⟩
def pA8 : Px := ⟨false, [10, 0, 0, 0, 0, 0, 0, 0, 0, 0, 0, 0, 0, 0, 0, 0], 8⟩
def pB16 : Px := ⟨false, [10, 1, 0, 0, 0, 0, 0, 0, 0, 0, 0, 0, 0, 0, 0, 0], 16⟩
def p33 : Px := ⟨false, List.replicate 16 0, 33⟩
theorem wfA8 : pA8.wf := wf_of _ rfl (by decide)
theorem wfB16 : pB16.wf := wf_of _ rfl (by decide)
theorem wf33 : p33.wf := wf_of _ rfl (by decide)
theorem mkA8 : mkPx false ⟨#[10, 1, 2, 3]⟩ ((8 : Nat) : Int) = pA8 := by decide +kernel
theorem mkB16 : mkPx false ⟨#[10, 1, 2, 3]⟩ ((16 : Nat) : Int) = pB16 := by decide +kernel
theorem bytesB16 : pB16.bytes = ⟨#[16, 10, 1]⟩ := by decide +kernel
theorem readB16 : readR [16, 10, 1] = (pB16, 0, [], 0) := by decide +kernel
theorem read8 : readR [8] = (Px.zero, 3, [], 3) := by decide +kernel
theorem read33 : readR [33, 97, 98, 99, 100, 101] = (Px.zero, 4, [97, 98, 99, 100, 101], 0) := by decide +kernel
theorem cont1 : pA8.contains pB16 = true := by decide +kernel
theorem cont2 : pB16.contains pA8 = false := by decide +kernel
theorem comp1 : pA8.compare pB16 = -1 := by decide +kernel
theorem textB16 : pB16.text = ⟨#[49, 48, 46, 49, 46, 48, 46, 48, 47, 49, 54]⟩ := by
  have h1 : pB16.right = true := by decide +kernel
  unfold Px.text
  rw [h1]
  show text4 [10, 1, 0, 0, 0, 0, 0, 0, 0, 0, 0, 0, 0, 0, 0, 0] 16 = _
  have d0 : Go.Lib.decDigits 0 = [48] := by rw [Go.Lib.decDigits, dif_pos (by omega)]; rfl
  have d1 : Go.Lib.decDigits 1 = [49] := by rw [Go.Lib.decDigits, dif_pos (by omega)]; rfl
  have d10 : Go.Lib.decDigits 10 = [49, 48] := by rw [Go.Lib.decDigits, dif_neg (by omega), show 10 / 10 = 1 from rfl, d1]; rfl
  have d16 : Go.Lib.decDigits 16 = [49, 54] := by rw [Go.Lib.decDigits, dif_neg (by omega), show 16 / 10 = 1 from rfl, d1]; rfl
  show joinB [decB 10, decB 1, decB 0, decB 0] 46 ++ ⟨#[47]⟩ ++ decB 16 = _
  simp only [decB, d0, d1, d10, d16]
  decide +kernel
theorem bit4 : pB16.bit 4 = 1 := by decide +kernel
theorem bit16 : pB16.bit 16 = -1 := by decide +kernel
theorem comm8 : pA8.common pB16 = 8 := by decide +kernel
theorem rightA8 : pA8.right = true := by decide +kernel
theorem right33 : p33.right = false := by decide +kernel
theorem built_p33 : Tryd.prog.built 30 [(2, .int .i64 33)] = some p33.row := by kernel_rfl
theorem exec_build_33 {a : Act} {o : Oper} (ho : o.op = .build 30 #[(2, .const (.int .i64 33))]) (w : World) :
    (execOp a.eval o).run Tryd.prog w = .ok (.value (.agg p33.row)) w := by
  have h := run_build (P := Tryd.prog) w 30 #[(2, .int .i64 33)] _ built_p33
  have he : a.eval (.const (.int .i64 33)) = .int .i64 33 := rfl
  unfold execOp
  simp only [ho, List.map_toArray, List.map_cons, List.map_nil, he, Sem.run_bind, h, Result.andThen_ok, Sem.run_pure]
set_option maxRecDepth 100000 in
set_option maxHeartbeats 16000000 in
theorem awake_calls (w : World) (ht : Tab w) : Calls Tryd.prog 9 #[] w fun e w' => e = .returned (.bool true) ∧ Below w.heap.size w w' := by
  have mA : ∀ w, Calls Tryd.prog 13 #[.bool false, .string ⟨#[10, 1, 2, 3]⟩, .int .i64 8] w fun e w' => e = .returned (.tuple #[.agg pA8.row, .int .i64 0]) ∧ Below w.heap.size w w' := fun w => by
    have := Make_good w false ⟨#[10, 1, 2, 3]⟩ 8 rfl (by decide)
    rw [mkA8] at this; exact this
  have mB : ∀ w, Calls Tryd.prog 13 #[.bool false, .string ⟨#[10, 1, 2, 3]⟩, .int .i64 16] w fun e w' => e = .returned (.tuple #[.agg pB16.row, .int .i64 0]) ∧ Below w.heap.size w w' := fun w => by
    have := Make_good w false ⟨#[10, 1, 2, 3]⟩ 16 rfl (by decide)
    rw [mkB16] at this; exact this
  have mC : ∀ w, Calls Tryd.prog 13 #[.bool false, .string ⟨#[97, 98, 99]⟩, .int .i64 3] w fun e w' => e = .returned (.tuple #[.agg Px.zero.row, .int .i64 1]) ∧ Below w.heap.size w w' := fun w => Make_bad w false ⟨#[97, 98, 99]⟩ 3 (by decide) (by decide)
  have bB : ∀ w, Calls Tryd.prog 17 #[.agg pB16.row] w fun e w' => e = .returned (.string ⟨#[16, 10, 1]⟩) ∧ Below w.heap.size w w' := fun w => by
    have := Bytes_calls w pB16 wfB16
    rw [bytesB16] at this; exact this
  have c1 : ∀ w, Calls Tryd.prog 24 #[.agg pA8.row, .agg pB16.row] w fun e w' => e = .returned (.bool true) ∧ Below w.heap.size w w' := fun w => by
    have := Contains_calls w pA8 pB16 wfA8 wfB16
    rw [cont1] at this; exact this
  have c2 : ∀ w, Calls Tryd.prog 24 #[.agg pB16.row, .agg pA8.row] w fun e w' => e = .returned (.bool false) ∧ Below w.heap.size w w' := fun w => by
    have := Contains_calls w pB16 pA8 wfB16 wfA8
    rw [cont2] at this; exact this
  have c3 : ∀ w, Calls Tryd.prog 22 #[.agg pA8.row, .agg pB16.row] w fun e w' => e = .returned (.int .i64 (-1)) ∧ Below w.heap.size w w' := fun w => by
    have := Compare_calls w pA8 pB16 wfA8 wfB16
    rw [comp1] at this; exact this
  have c4 : ∀ w, Tab w → Calls Tryd.prog 18 #[.agg pB16.row] w fun e w' => e = .returned (.string ⟨#[49, 48, 46, 49, 46, 48, 46, 48, 47, 49, 54]⟩) ∧ Below w.heap.size w w' := fun w h => by
    have := Text_calls w pB16 wfB16 h
    rw [textB16] at this; exact this
  have c5 : ∀ w, Calls Tryd.prog 28 #[.agg pB16.row, .int .i64 4] w fun e w' => e = .returned (.int .i64 1) ∧ Below w.heap.size w w' := fun w => by
    have := Bit_calls w pB16 wfB16 4 (by omega) (by omega)
    rw [bit4] at this; exact this
  have c6 : ∀ w, Calls Tryd.prog 28 #[.agg pB16.row, .int .i64 16] w fun e w' => e = .returned (.int .i64 (-1)) ∧ Below w.heap.size w w' := fun w => by
    have := Bit_calls w pB16 wfB16 16 (by omega) (by omega)
    rw [bit16] at this; exact this
  have c7 : ∀ w, Calls Tryd.prog 26 #[.agg pA8.row, .agg pB16.row] w fun e w' => e = .returned (.int .i64 8) ∧ Below w.heap.size w w' := fun w => by
    have := Common_calls w pA8 pB16 wfA8 wfB16
    rw [comm8] at this; exact this
  have c8 : ∀ w, Calls Tryd.prog 21 #[.agg pA8.row] w fun e w' => e = .returned (.bool true) ∧ Below w.heap.size w w' := fun w => by
    have := Right_calls w pA8 wfA8
    rw [rightA8] at this; exact this
  have c9 : ∀ w, Calls Tryd.prog 21 #[.agg p33.row] w fun e w' => e = .returned (.bool false) ∧ Below w.heap.size w w' := fun w => by
    have := Right_calls w p33 wf33
    rw [right33] at this; exact this
  have hE : ∀ w', (Op.equalIn 10000 30 (.agg pB16.row) (.agg pB16.row)).run Tryd.prog w' = .ok true w' := fun w' => by
    have := run_eql_px w' 9997 pB16 pB16 rfl rfl
    rw [decide_eq_true rfl] at this; exact this
  have hG : Tryd.prog.eqGuardType Tryd.prog.depth 30 = false := by kernel_rfl
  have HmA := Lib.hid mA; clear mA
  have HmB := Lib.hid mB; clear mB
  have HmC := Lib.hid mC; clear mC
  have HbB := Lib.hid bB; clear bB
  have Hc1 := Lib.hid c1; clear c1
  have Hc2 := Lib.hid c2; clear c2
  have Hc3 := Lib.hid c3; clear c3
  have Hc4 := Lib.hid c4; clear c4
  have Hc5 := Lib.hid c5; clear c5
  have Hc6 := Lib.hid c6; clear c6
  have Hc7 := Lib.hid c7; clear c7
  have Hc8 := Lib.hid c8; clear c8
  have Hc9 := Lib.hid c9; clear c9
  have HE := Lib.hid hE; have HG := Lib.hid hG; clear hE hG
  have HT := Lib.hid ht; clear ht
  have HB := Lib.hid (Below.refl w.heap.size w)
  have HELD : Hid (Held [] w) := Lib.hid (fun x hx => by cases hx)
  go_enter Tryd.func9, Tryd.ntmps9
  go_wp2_with fail
  refine (HmA.out _).mono ?_
  rintro e wN ⟨rfl, hb⟩
  have HELD' := Lib.hid (HELD.out.b hb); have HT' := Lib.hid (HT.out.below hb); have HB' := Lib.hid (bn HB.out hb)
  clear HELD HT HB hb; have HELD := HELD'; have HT := HT'; have HB := HB'; clear HELD' HT' HB'
  go_wp2_with (with_reducible refine wpList_mark (o := ⟨none, _, _, _, _, _⟩) ?_)
  rw [← zero_row]
  refine Marked.intro ?_
  refine wpList_do rfl (exec_store_px rfl rfl rfl (PxAt.new wN Px.zero (by rfl)) (by rfl)) ?_
  have hh := HELD.out.store pA8 (by rfl)
  have hb := below_store wN pA8
  have HELD' := Lib.hid hh; have HT' := Lib.hid (HT.out.below hb); have HB' := Lib.hid (bn HB.out hb)
  clear HELD HT HB hb hh; have HELD := HELD'; have HT := HT'; have HB := HB'; clear HELD' HT' HB'
  generalize World.setRow _ wN.heap.size (Px.row pA8) = wM at *
  generalize wN.heap.size = b1 at *
  go_wp2_with fail
  refine (HmB.out _).mono ?_
  rintro e wN ⟨rfl, hb⟩
  have HELD' := Lib.hid (HELD.out.b hb); have HT' := Lib.hid (HT.out.below hb); have HB' := Lib.hid (bn HB.out hb)
  clear HELD HT HB hb; have HELD := HELD'; have HT := HT'; have HB := HB'; clear HELD' HT' HB'
  go_wp2_with (with_reducible refine wpList_mark (o := ⟨none, _, _, _, _, _⟩) ?_)
  rw [← zero_row]
  refine Marked.intro ?_
  refine wpList_do rfl (exec_store_px rfl rfl rfl (PxAt.new wN Px.zero (by rfl)) (by rfl)) ?_
  have hh := HELD.out.store pB16 (by rfl)
  have hb := below_store wN pB16
  have HELD' := Lib.hid hh; have HT' := Lib.hid (HT.out.below hb); have HB' := Lib.hid (bn HB.out hb)
  clear HELD HT HB hb hh; have HELD := HELD'; have HT := HT'; have HB := HB'; clear HELD' HT' HB'
  generalize World.setRow _ wN.heap.size (Px.row pB16) = wM at *
  generalize wN.heap.size = b3 at *
  go_wp2_with fail
  refine (HmC.out _).mono ?_
  rintro e wN ⟨rfl, hb⟩
  have HELD' := Lib.hid (HELD.out.b hb); have HT' := Lib.hid (HT.out.below hb); have HB' := Lib.hid (bn HB.out hb)
  clear HELD HT HB hb; have HELD := HELD'; have HT := HT'; have HB := HB'; clear HELD' HT' HB'
  go_wp2_with (with_reducible refine wpList_mark (o := ⟨none, _, _, _, _, _⟩) ?_)
  rw [← zero_row]
  refine Marked.intro ?_
  refine wpList_do rfl (exec_store_px rfl rfl rfl (PxAt.new wN Px.zero (by rfl)) (by rfl)) ?_
  have hh := HELD.out.store Px.zero (by rfl)
  have hb := below_store wN Px.zero
  have HELD' := Lib.hid hh; have HT' := Lib.hid (HT.out.below hb); have HB' := Lib.hid (bn HB.out hb)
  clear HELD HT HB hb hh; have HELD := HELD'; have HT := HT'; have HB := HB'; clear HELD' HT' HB'
  generalize World.setRow _ wN.heap.size (Px.row Px.zero) = wM at *
  generalize wN.heap.size = b5 at *
  go_wp2_with (with_reducible refine wpList_mark (o := ⟨some 26, _, _, _, _, _⟩) ?_)
  refine Marked.intro ?_
  refine wpList_run rfl (exec_load_whole rfl rfl (HELD.out (b3, pB16) (by simp))) ?_
  go_wp2_with fail
  refine (HbB.out _).mono ?_
  rintro e wN ⟨rfl, hb⟩
  have HELD' := Lib.hid (HELD.out.b hb); have HT' := Lib.hid (HT.out.below hb); have HB' := Lib.hid (bn HB.out hb)
  clear HELD HT HB hb; have HELD := HELD'; have HT := HT'; have HB := HB'; clear HELD' HT' HB'
  go_wp2_with fail
  refine (RdNew_calls _ _).mono ?_
  rintro e wM ⟨rfl, hr, hb1, -⟩
  go_wp2_with fail
  refine (Read_calls _ _ _ hr).mono ?_
  unfold ReadPost
  rw [readB16]
  rintro e wN ⟨rfl, -, hb2⟩
  have hb := hb1.trans hb2
  clear hr hb1 hb2
  have HELD' := Lib.hid (HELD.out.b hb); have HT' := Lib.hid (HT.out.below hb); have HB' := Lib.hid (bn HB.out hb)
  clear HELD HT HB hb; have HELD := HELD'; have HT := HT'; have HB := HB'; clear HELD' HT' HB'
  go_wp2_with (with_reducible refine wpList_mark (o := ⟨none, _, _, _, _, _⟩) ?_)
  rw [← zero_row]
  refine Marked.intro ?_
  refine wpList_do rfl (exec_store_px rfl rfl rfl (PxAt.new wN Px.zero (by rfl)) (by rfl)) ?_
  have hh := HELD.out.store pB16 (by rfl)
  have hb := below_store wN pB16
  have HELD' := Lib.hid hh; have HT' := Lib.hid (HT.out.below hb); have HB' := Lib.hid (bn HB.out hb)
  clear HELD HT HB hb hh; have HELD := HELD'; have HT := HT'; have HB := HB'; clear HELD' HT' HB'
  generalize World.setRow _ wN.heap.size (Px.row pB16) = wM at *
  generalize wN.heap.size = b8 at *
  go_wp2_with fail
  refine (RdNew_calls _ _).mono ?_
  rintro e wM ⟨rfl, hr, hb1, -⟩
  go_wp2_with fail
  refine (Read_calls _ _ _ hr).mono ?_
  unfold ReadPost
  rw [read8]
  rintro e wN ⟨rfl, -, hb2⟩
  have hb := hb1.trans hb2
  clear hr hb1 hb2
  have HELD' := Lib.hid (HELD.out.b hb); have HT' := Lib.hid (HT.out.below hb); have HB' := Lib.hid (bn HB.out hb)
  clear HELD HT HB hb; have HELD := HELD'; have HT := HT'; have HB := HB'; clear HELD' HT' HB'
  go_wp2_with (with_reducible refine wpList_mark (o := ⟨none, _, _, _, _, _⟩) ?_)
  rw [← zero_row]
  refine Marked.intro ?_
  refine wpList_do rfl (exec_store_px rfl rfl rfl (PxAt.new wN Px.zero (by rfl)) (by rfl)) ?_
  have hh := HELD.out.store Px.zero (by rfl)
  have hb := below_store wN Px.zero
  have HELD' := Lib.hid hh; have HT' := Lib.hid (HT.out.below hb); have HB' := Lib.hid (bn HB.out hb)
  clear HELD HT HB hb hh; have HELD := HELD'; have HT := HT'; have HB := HB'; clear HELD' HT' HB'
  generalize World.setRow _ wN.heap.size (Px.row Px.zero) = wM at *
  generalize wN.heap.size = b10 at *
  go_wp2_with fail
  refine (RdNew_calls _ _).mono ?_
  rintro e wM ⟨rfl, hr, hb1, -⟩
  go_wp2_with fail
  refine (Read_calls _ _ _ hr).mono ?_
  unfold ReadPost
  rw [read33]
  rintro e wN ⟨rfl, -, hb2⟩
  have hb := hb1.trans hb2
  clear hr hb1 hb2
  have HELD' := Lib.hid (HELD.out.b hb); have HT' := Lib.hid (HT.out.below hb); have HB' := Lib.hid (bn HB.out hb)
  clear HELD HT HB hb; have HELD := HELD'; have HT := HT'; have HB := HB'; clear HELD' HT' HB'
  go_wp2_with (with_reducible refine wpList_mark (o := ⟨none, _, _, _, _, _⟩) ?_)
  rw [← zero_row]
  refine Marked.intro ?_
  refine wpList_do rfl (exec_store_px rfl rfl rfl (PxAt.new wN Px.zero (by rfl)) (by rfl)) ?_
  have hh := HELD.out.store Px.zero (by rfl)
  have hb := below_store wN Px.zero
  have HELD' := Lib.hid hh; have HT' := Lib.hid (HT.out.below hb); have HB' := Lib.hid (bn HB.out hb)
  clear HELD HT HB hb hh; have HELD := HELD'; have HT := HT'; have HB := HB'; clear HELD' HT' HB'
  generalize World.setRow _ wN.heap.size (Px.row Px.zero) = wM at *
  generalize wN.heap.size = b12 at *
  go_step
  go_step
  go_step
  go_step
  go_step
  go_step
  go_step
  refine region_app ?_
  refine wp_region_lit ?_
  simp only [List.cons_append, List.nil_append]
  go_wp2_with (with_reducible refine wpList_mark (o := ⟨some 55, _, _, _, _, _⟩) ?_)
  refine Marked.intro ?_
  refine Lib.wpList_runG (by rfl) (exec_load_whole rfl rfl (HELD.out (b1, pA8) (by simp))) ?_
  go_wp2_with (with_reducible refine wpList_mark (o := ⟨some 56, _, _, _, _, _⟩) ?_)
  refine Marked.intro ?_
  refine Lib.wpList_runG (by rfl) (exec_load_whole rfl rfl (HELD.out (b3, pB16) (by simp))) ?_
  go_wp2_with fail
  refine (Hc1.out _).mono ?_
  rintro e wN ⟨rfl, hb⟩
  have HELD' := Lib.hid (HELD.out.b hb); have HT' := Lib.hid (HT.out.below hb); have HB' := Lib.hid (bn HB.out hb)
  clear HELD HT HB hb; have HELD := HELD'; have HT := HT'; have HB := HB'; clear HELD' HT' HB'
  go_wp2_with (with_reducible refine wpList_mark (o := ⟨some 60, _, _, _, _, _⟩) ?_)
  refine Marked.intro ?_
  refine Lib.wpList_runG (by rfl) (exec_load_whole rfl rfl (HELD.out (b3, pB16) (by simp))) ?_
  go_wp2_with (with_reducible refine wpList_mark (o := ⟨some 61, _, _, _, _, _⟩) ?_)
  refine Marked.intro ?_
  refine Lib.wpList_runG (by rfl) (exec_load_whole rfl rfl (HELD.out (b1, pA8) (by simp))) ?_
  go_wp2_with fail
  refine (Hc2.out _).mono ?_
  rintro e wN ⟨rfl, hb⟩
  have HELD' := Lib.hid (HELD.out.b hb); have HT' := Lib.hid (HT.out.below hb); have HB' := Lib.hid (bn HB.out hb)
  clear HELD HT HB hb; have HELD := HELD'; have HT := HT'; have HB := HB'; clear HELD' HT' HB'
  go_wp2_with (with_reducible refine wpList_mark (o := ⟨some 66, _, _, _, _, _⟩) ?_)
  refine Marked.intro ?_
  refine Lib.wpList_runG (by rfl) (exec_load_whole rfl rfl (HELD.out (b1, pA8) (by simp))) ?_
  go_wp2_with (with_reducible refine wpList_mark (o := ⟨some 67, _, _, _, _, _⟩) ?_)
  refine Marked.intro ?_
  refine Lib.wpList_runG (by rfl) (exec_load_whole rfl rfl (HELD.out (b3, pB16) (by simp))) ?_
  go_wp2_with fail
  refine (Hc3.out _).mono ?_
  rintro e wN ⟨rfl, hb⟩
  have HELD' := Lib.hid (HELD.out.b hb); have HT' := Lib.hid (HT.out.below hb); have HB' := Lib.hid (bn HB.out hb)
  clear HELD HT HB hb; have HELD := HELD'; have HT := HT'; have HB := HB'; clear HELD' HT' HB'
  go_wp2_with (with_reducible refine wpList_mark (o := ⟨some 76, _, _, _, _, _⟩) ?_)
  refine Marked.intro ?_
  refine Lib.wpList_runG (by rfl) (exec_load_whole rfl rfl (HELD.out (b8, pB16) (by simp))) ?_
  go_wp2_with (with_reducible refine wpList_mark (o := ⟨some 77, _, _, _, _, _⟩) ?_)
  refine Marked.intro ?_
  refine Lib.wpList_runG (by rfl) (exec_load_whole rfl rfl (HELD.out (b3, pB16) (by simp))) ?_
  have hE := HE.out
  have hG := HG.out
  go_wp2_with (with_reducible refine wpList_mark (o := ⟨some 93, _, _, _, _, _⟩) ?_)
  refine Marked.intro ?_
  refine Lib.wpList_runG (by rfl) (exec_load_whole rfl rfl (HELD.out (b3, pB16) (by simp))) ?_
  clear hE hG
  go_wp2_with fail
  refine (Hc4.out _ HT.out).mono ?_
  rintro e wN ⟨rfl, hb⟩
  have HELD' := Lib.hid (HELD.out.b hb); have HT' := Lib.hid (HT.out.below hb); have HB' := Lib.hid (bn HB.out hb)
  clear HELD HT HB hb; have HELD := HELD'; have HT := HT'; have HB := HB'; clear HELD' HT' HB'
  go_wp2_with (with_reducible refine wpList_mark (o := ⟨some 98, _, _, _, _, _⟩) ?_)
  refine Marked.intro ?_
  refine Lib.wpList_runG (by rfl) (exec_load_whole rfl rfl (HELD.out (b3, pB16) (by simp))) ?_
  go_wp2_with fail
  refine (Hc5.out _).mono ?_
  rintro e wN ⟨rfl, hb⟩
  have HELD' := Lib.hid (HELD.out.b hb); have HT' := Lib.hid (HT.out.below hb); have HB' := Lib.hid (bn HB.out hb)
  clear HELD HT HB hb; have HELD := HELD'; have HT := HT'; have HB := HB'; clear HELD' HT' HB'
  go_wp2_with (with_reducible refine wpList_mark (o := ⟨some 103, _, _, _, _, _⟩) ?_)
  refine Marked.intro ?_
  refine Lib.wpList_runG (by rfl) (exec_load_whole rfl rfl (HELD.out (b3, pB16) (by simp))) ?_
  go_wp2_with fail
  refine (Hc6.out _).mono ?_
  rintro e wN ⟨rfl, hb⟩
  have HELD' := Lib.hid (HELD.out.b hb); have HT' := Lib.hid (HT.out.below hb); have HB' := Lib.hid (bn HB.out hb)
  clear HELD HT HB hb; have HELD := HELD'; have HT := HT'; have HB := HB'; clear HELD' HT' HB'
  go_wp2_with (with_reducible refine wpList_mark (o := ⟨some 108, _, _, _, _, _⟩) ?_)
  refine Marked.intro ?_
  refine Lib.wpList_runG (by rfl) (exec_load_whole rfl rfl (HELD.out (b1, pA8) (by simp))) ?_
  go_wp2_with (with_reducible refine wpList_mark (o := ⟨some 109, _, _, _, _, _⟩) ?_)
  refine Marked.intro ?_
  refine Lib.wpList_runG (by rfl) (exec_load_whole rfl rfl (HELD.out (b3, pB16) (by simp))) ?_
  go_wp2_with fail
  refine (Hc7.out _).mono ?_
  rintro e wN ⟨rfl, hb⟩
  have HELD' := Lib.hid (HELD.out.b hb); have HT' := Lib.hid (HT.out.below hb); have HB' := Lib.hid (bn HB.out hb)
  clear HELD HT HB hb; have HELD := HELD'; have HT := HT'; have HB := HB'; clear HELD' HT' HB'
  go_wp2_with (with_reducible refine wpList_mark (o := ⟨some 114, _, _, _, _, _⟩) ?_)
  refine Marked.intro ?_
  refine Lib.wpList_runG (by rfl) (exec_load_whole rfl rfl (HELD.out (b1, pA8) (by simp))) ?_
  go_wp2_with fail
  refine (Hc8.out _).mono ?_
  rintro e wN ⟨rfl, hb⟩
  have HELD' := Lib.hid (HELD.out.b hb); have HT' := Lib.hid (HT.out.below hb); have HB' := Lib.hid (bn HB.out hb)
  clear HELD HT HB hb; have HELD := HELD'; have HT := HT'; have HB := HB'; clear HELD' HT' HB'
  go_wp2_with (with_reducible refine wpList_mark (o := ⟨some 118, _, _, _, _, _⟩) ?_)
  refine Marked.intro ?_
  refine Lib.wpList_runG (by rfl) (exec_build_33 rfl _) ?_
  go_wp2_with fail
  refine (Hc9.out _).mono ?_
  rintro e wN ⟨rfl, hb⟩
  have HELD' := Lib.hid (HELD.out.b hb); have HT' := Lib.hid (HT.out.below hb); have HB' := Lib.hid (bn HB.out hb)
  clear HELD HT HB hb; have HELD := HELD'; have HT := HT'; have HB := HB'; clear HELD' HT' HB'
  go_wp2
  go_ret
  exact ⟨rfl, HB.out⟩
end Go.Proofs.YtmccnmccegbdjaaDoor
