/- The walk of prefix.Text, of sixteen bytes. -/
import Derived.Test.YtmccnmccegbdjaaDoorPfxText
namespace Go.Proofs.YtmccnmccegbdjaaDoor
open Go.RowKit Go.Sort
set_option linter.unusedVariables false
set_option linter.unusedSimpArgs false
def hexd (x : Nat) : UInt8 := if x < 10 then UInt8.ofNat (48 + x) else UInt8.ofNat (87 + x)
def hexs (A : List Nat) (i j : Nat) : List UInt8 := (List.range j).flatMap fun t => [hexd (A.getD (i + t) 0 / 16), hexd (A.getD (i + t) 0 % 16)]
def ucs (l : List UInt8) : List Value := l.map fun b => Value.int .u8 (b.toNat : Int)
def tx8 (A : List Nat) (k : Nat) : List ByteArray := (List.range k).map fun j => ⟨(hexs A (2 * j) 2).toArray⟩
theorem tx8_succ (A : List Nat) (k : Nat) : (tx8 A (k + 1)).map Value.string = (tx8 A k).map Value.string ++ [.string ⟨(hexs A (2 * k) 2).toArray⟩] := by
  simp [tx8, List.range_succ]
theorem hexs_succ (A : List Nat) (i j : Nat) : ucs (hexs A i (j + 1)) = ucs (hexs A i j) ++ [.int .u8 ((hexd (A.getD (i + j) 0 / 16)).toNat : Int), .int .u8 ((hexd (A.getD (i + j) 0 % 16)).toNat : Int)] := by
  simp [hexs, ucs, List.range_succ]
theorem hexs_len (A : List Nat) (i j : Nat) : (hexs A i j).length = 2 * j := by
  induction j with
  | zero => rfl
  | succ j ih =>
    have := congrArg List.length (hexs_succ A i j)
    simp only [ucs, List.length_map, List.length_append, List.length_cons, List.length_nil] at this
    omega
def text8 (A : List Nat) (n : Nat) : ByteArray := joinB (tx8 A 8) 58 ++ ⟨#[47]⟩ ++ decB n
def hexS : ByteArray := ⟨#[48, 49, 50, 51, 52, 53, 54, 55, 56, 57, 97, 98, 99, 100, 101, 102]⟩
theorem run_hex (w : World) (y : Nat) (hy : y < 16) :
    (Instr.index 9 (.string hexS) (.int .u8 (y : Int))).run Tryd.prog w = .ok (.int .u8 ((hexd y).toNat : Int)) w := by
  have h : y = 0 ∨ y = 1 ∨ y = 2 ∨ y = 3 ∨ y = 4 ∨ y = 5 ∨ y = 6 ∨ y = 7 ∨ y = 8 ∨ y = 9 ∨ y = 10 ∨ y = 11 ∨ y = 12 ∨ y = 13 ∨ y = 14 ∨ y = 15 := by omega
  unfold Instr.index
  have ha : (asIntOf (.int .u8 (y : Int))).run Tryd.prog w = .ok (.u8, (y : Int)) w := rfl
  rw [Sem.run_bind, ha]
  simp only [Result.andThen_ok, Sem.run_bind, run_underlying Tryd.underlying9 w]
  rcases h with rfl | rfl | rfl | rfl | rfl | rfl | rfl | rfl | rfl | rfl | rfl | rfl | rfl | rfl | rfl | rfl <;> rfl
theorem and_fifteen (x : Nat) (hx : x < 256) : bits .and .u8 (x : Int) 15 = ((x % 16 : Nat) : Int) := by
  have h1 := u8_and_nat x 15 hx (by omega)
  rw [Nat.and_two_pow_sub_one_eq_mod x 4] at h1
  exact h1
def TwoPost (x y : Nat) (v : Value) (w : World) : Prop := ∃ g, v = .slice (some ⟨g, 0, none⟩) 2 2 ∧ w.heap[g]? = some (.cells #[.int .u8 (x : Int), .int .u8 (y : Int)] 5)
theorem TwoPost.grows {x y : Nat} {v : Value} {w w' : World} (h : TwoPost x y v w) (hg : Lib.Grows w w') : TwoPost x y v w' := by
  obtain ⟨g, h1, h2⟩ := h
  exact ⟨g, h1, (hg.block g (Array.getElem?_eq_some_iff.1 h2).1).trans h2⟩
section
variable {P : Program} {ops : Array Oper} {rest : List Oper} {o : Oper} {a : Act} {Q : Exit → Act → World → Prop}
/-- 'append(out, xs..)', the elements lying in a row somewhere. -/
theorem wpList_push_at (hgd : o.guard = none) (s x : Operand) (t : TypeId) (ho : o.op = .call { callee := .builtin .append, args := #[s, x], argTypes := #[t, t] })
    (B : Nat) (e : TypeId) (z : Value) (size bytes : Nat) (ht : P.underlying t = some (.slice e)) (hi : (P.info? e).map (fun i => (i.zero, i.size, i.bytes)) = some (some z, size, bytes)) (hzs : z.cells.size = size) (hsz : 0 < size)
    (w : World) (v : Value) (n : Nat) (xs : List Value) (hs : a.eval s = v) (hown : w.ownsRow B e size v n xs) (g m : Nat) (ys : List Value) (hx : a.eval x = .slice (some ⟨g, 0, none⟩) m m) (hl : ys.length = m * size) (hg : w.heap[g]? = some (.cells ys.toArray e)) (h1 : ∀ u ∈ ys, u.oneCell' = true)
    (hb : (n + m) * bytes ≤ 140737488355328) (hn : n + m ≤ maxLen) (hB : B ≤ w.heap.size)
    (h : ∀ v' w', w'.ownsRow B e size v' (n + m) (xs ++ ys) → Below B w w' → wpList P ops Q rest (a.put o.dst v') w') : wpList P ops Q (o :: rest) a w := by
  obtain ⟨i, hi1, hi2, hi3, hi4⟩ := info_parts hi
  refine wpList_append_own _ hgd s x t ho B e i z size bytes ht hi1 hi2 hi3 hi4 hzs hsz v n xs hs hown ⟨g, 0, none⟩ m m ys hx hl ?_ h1 hn hb hB ?_
  · intro j u hu
    rw [Addr.add_mid, Nat.zero_add, cell_of_row _ _ _ _ _ _ hg]
    simpa using hu
  · intro v' w' h2 h3 _
    exact h v' w' h2 ((Below.refl B w).grown h3 hB (fun k hk => (hown.lt k hk).1))
end
theorem run_slice_arr (w : World) (b o l h : Nat) (h1 : l ≤ h) (h2 : h ≤ 16) (hl : l < 16) :
    (Instr.sliceAt 28 (.pointer (some ⟨b, o, none⟩)) (some (.int .i64 (l : Int))) (some (.int .i64 (h : Int))) none).run Tryd.prog w = .ok (.slice (some ⟨b, o + l, none⟩) (h - l) (16 - l)) w := by
  have e1 := run_sliceBound (P := Tryd.prog) w .i64 (h : Int) 16 BoundsCode.sliceAlen (by omega) (by omega)
  have e2 := run_sliceBound (P := Tryd.prog) w .i64 (l : Int) h BoundsCode.sliceB (by omega) (by omega)
  rw [Int.toNat_natCast] at e1 e2
  have hs : (sizeOf 5).run Tryd.prog w = .ok 1 w := Tryd.sizeOf5 w
  have ha : (⟨b, o, none⟩ : Addr).add l = ⟨b, o + l, none⟩ := Addr.add_mid b o l
  simp only [Instr.sliceAt, Sem.run_bind, run_underlying Tryd.underlying28 w, Result.andThen_ok]
  simp only [Instr.sureAddr, Instr.sliceBounds, Sem.run_bind, Sem.run_pure, Result.andThen_ok, Bool.false_eq_true, if_false, Option.isSome, e1, e2, hs]
  rw [if_neg (show ¬ 16 = l by omega), Nat.mul_one, ha]
set_option maxRecDepth 100000 in
set_option maxHeartbeats 16000000 in
theorem Text_six (w : World) (p : Px) (hp : p.wf) (ht : Tab w) (hr : p.right = true) (h6 : p.six = true) : Calls Tryd.prog 18 #[.agg p.row] w fun e w' => e = .returned (.string (text8 p.A p.n.toNat)) ∧ Below w.heap.size w w' := by
  have hb0 := (Below.refl w.heap.size w).alloc (Nat.le_refl _) (.cells p.row 30)
  have h0 := PxAt.new w p hp.len
  have ht1 := ht.below hb0
  have hsz : (w.alloc (.cells p.row 30)).heap.size = w.heap.size + 1 := by simp
  have HB0 := Lib.hid hb0; have H0 := Lib.hid h0; have HT := Lib.hid ht1; have HSZ := Lib.hid hsz; clear hb0 h0 ht ht1 hsz
  obtain ⟨n, hn, hn2⟩ := Px.right_n hr
  have hw := widthN_le p.six
  have cP := fun w => Right_calls w p hp
  rw [hr] at cP
  obtain ⟨rr, hrr⟩ : ∃ rr, rr = text8 p.A p.n.toNat := ⟨_, rfl⟩
  rw [← hrr]
  have HRR := Lib.hid hrr; have HN := Lib.hid hn; have H6 := Lib.hid h6; clear hrr hr hn h6
  have hn128 : n ≤ 128 := by omega
  clear hw hn2
  go_enter Tryd.func18, Tryd.ntmps18
  go_wp2_with (with_reducible refine wpList_mark (o := ⟨some 10, _, _, _, _, _⟩) ?_)
  generalize w.alloc (.cells p.row 30) = w1 at *
  refine Marked.intro ?_
  refine wpList_run rfl (exec_load_whole rfl rfl H0.out) ?_
  go_wp2_with fail
  refine (cP _).mono ?_
  rintro e w2 ⟨rfl, hb⟩
  have hle := hb.size
  have HW2 : Hid (w.heap.size + 1 ≤ w2.heap.size) := Lib.hid (by have := HSZ.out; omega)
  have HB2 := Lib.hid (bn HB0.out hb); have H2 := Lib.hid (H0.out.b hb); have HT2 := Lib.hid (HT.out.below hb)
  clear hb hle HB0 H0 HT cP HSZ
  go_wp2_with fail
  obtain ⟨b1, hb1⟩ : ∃ b1, w2.heap.size = b1 := ⟨_, rfl⟩
  have HS1 := Lib.hid hb1; clear hb1
  go_loopw [3, 13] (fun s3 s13 wr => ∃ (i : Nat) (v : Value), s3 = v ∧ s13 = .int .i64 i ∧ i ≤ 4 ∧ Hid (wr.ownsRow b1 9 1 v i ((tx4 p.A i).map .string)) ∧ Hid (Below b1 w2 wr)) (fun _ s13 _ => 4 - (intOf s13).toNat)
  case atStart => exact ⟨0, _, rfl, rfl, by omega, Lib.hid (World.ownsRow_nil _ _ _ _), Lib.hid (Below.refl _ _)⟩
  case round =>
    obtain ⟨wo, rfl⟩ : ∃ wo : World, wo = wr := ⟨_, rfl⟩
    obtain ⟨i, v, rfl, rfl, hi, hown, hb⟩ := hrel
    have P1 := Lib.hid (H2.out.below hb.out (by have := H2.out.lt; have := HS1.out; omega))
    have HT3 := Lib.hid (HT2.out.below (by have := hb.out; rw [← HS1.out] at this; exact this))
    by_cases hlt : i < 4
    · have hiI : (i : Int) < 4 := by omega
      have hi16 : (i : Int) < 16 := by omega
      have hc := P1.out.byte i (by omega)
      have hx := hp.small i
      have HIT := Lib.hid (Itoa_calls wo (p.A.getD i 0) (by omega) HT3.out)
      have HTX := Lib.hid (tx4_succ p.A i)
      generalize p.A.getD i 0 = x at *
      go_wp2_with fail
      refine HIT.out.mono ?_
      rintro e w3 ⟨rfl, hb3⟩
      have hown3 := ownsRow_below hown.out hb3
      have HB3 := Lib.hid (hb.out.trans (hb3.mono (by have := hb.out.size; have := HS1.out; omega)))
      have hbs : b1 ≤ w3.heap.size := by have h1 := hb.out.size; have h2 := hb3.size; have h3 := HS1.out; omega
      have HOWN := Lib.hid hown3; have HBS := Lib.hid hbs
      clear hown hb hb3 hown3 hbs HT3 HIT P1
      go_wp2_with (with_reducible refine wpList_mark (o := ⟨some 24, _, _, _, _, _⟩) ?_)
      refine Marked.intro ?_
      refine wpList_push rfl _ _ 60 rfl b1 9 (.string ⟨#[]⟩) 1 16 Tryd.underlying60 info_str rfl (by omega) w3 u3 i _ rfl HOWN.out [.string (decB x)] (by rfl) rfl (by simp [Value.oneCell']) (by omega) (by unfold maxLen; omega) HBS.out ?_
      intro v' w4 hown4 hb4 _
      rw [← HTX.out] at hown4
      have HO4 := Lib.hid hown4
      have HB4 := Lib.hid (HB3.out.trans hb4)
      clear hown4 hb4 HOWN HBS HB3
      go_wp2
      exact ⟨⟨i + 1, _, rfl, by go_num, by omega, HO4, HB4⟩, by simp only [intOf]; omega⟩
    · obtain rfl : i = 4 := by omega
      have HBL := hb
      have c6 := P1.out.six
      rw [H6.out] at c6
      have cn := P1.out.len
      rw [HN.out] at cn
      have Q1 := P1
      clear P1 hown hb
      have HB5 : Hid (b1 ≤ wo.heap.size) := Lib.hid (by have := HBL.out.size; have := HS1.out; omega)
      go_wp2_with fail
      clear c6 cn
      rw [show ((4 : Nat) : Int) = 4 from rfl]
      go_loopw [3, 6] (fun s3 s6 wr => ∃ (k : Nat) (v : Value), s3 = v ∧ s6 = .int .i64 ((2 * k : Nat) : Int) ∧ k ≤ 8 ∧ Hid (wr.ownsRow b1 9 1 v k ((tx8 p.A k).map .string)) ∧ Hid (Below b1 w2 wr)) (fun _ s6 _ => 16 - (intOf s6).toNat)
      case atStart => exact ⟨0, _, rfl, rfl, by omega, Lib.hid (World.ownsRow_nil _ _ _ _), HBL⟩
      case round =>
        clear HBL Q1 HB5 HT3
        obtain ⟨wo, rfl⟩ : ∃ wo : World, wo = wr := ⟨_, rfl⟩
        obtain ⟨k, v, rfl, rfl, hk, hown, hb⟩ := hrel
        have P1 := Lib.hid (H2.out.below hb.out (by have := H2.out.lt; have := HS1.out; omega))
        have HT3 := Lib.hid (HT2.out.below (by have := hb.out; rw [← HS1.out] at this; exact this))
        obtain ⟨i, hi⟩ : ∃ i, 2 * k = i := ⟨_, rfl⟩
        rw [hi]
        by_cases hlt : k < 8
        · have hi14 : i ≤ 14 := by omega
          have hiI : (i : Int) < 16 := by omega
          have hi2 : (i : Int) + 2 ≤ 16 := by omega
          have HI := Lib.hid hi; clear hi
          have hsl := run_slice_arr wo w.heap.size 1 i (i + 2) (by omega) (by omega) (by omega)
          rw [show ((i + 2 : Nat) : Int) = (i : Int) + 2 by omega, show i + 2 - i = 2 by omega] at hsl
          have HBW : Hid (b1 ≤ wo.heap.size) := Lib.hid (by have := hb.out.size; have := HS1.out; omega)
          have HTX := Lib.hid (tx8_succ p.A k)
          go_wp2_with fail
          clear hsl
          go_loopw [7, 38] (fun s7 s38 wr => ∃ (j : Nat) (vb : Value), s7 = vb ∧ s38 = .int .i64 (j : Int) ∧ j ≤ 2 ∧ Hid (wr.ownsRow wo.heap.size 5 1 vb (2 * j) (ucs (hexs p.A i j))) ∧ Hid (Below wo.heap.size wo wr)) (fun _ s38 _ => 2 - (intOf s38).toNat)
          case atStart => exact ⟨0, _, rfl, rfl, by omega, Lib.hid (World.ownsRow_nil _ _ _ _), Lib.hid (Below.refl _ _)⟩
          case round =>
            obtain ⟨wi, rfl⟩ : ∃ wi : World, wi = wr := ⟨_, rfl⟩
            obtain ⟨j, vb, rfl, rfl, hj, hownb, hbb⟩ := hrel
            have P2 := Lib.hid (P1.out.b hbb.out)
            by_cases hj2 : j < 2
            · have hjI : (j : Int) < 2 := by omega
              have hc := P2.out.byte (i + j) (by omega)
              rw [← Nat.add_assoc] at hc
              have hx := hp.small (i + j)
              have HH := Lib.hid (hexs_succ p.A i j)
              generalize p.A.getD (i + j) 0 = x at *
              have hx1 := fun w' => run_hex w' (x / 16) (by omega)
              have hx2 := fun w' => run_hex w' (x % 16) (by omega)
              have haf := and_fifteen x hx
              have hsh : (x : Int) / 16 = ((x / 16 : Nat) : Int) := by simp
              generalize x / 16 = yh at *
              generalize x % 16 = yl at *
              unfold hexS at hx1 hx2
              generalize (hexd yh).toNat = ah at *
              generalize (hexd yl).toNat = al at *
              go_wp2_with fail
              have HBI := Lib.hid (show b1 ≤ wi.heap.size from Nat.le_trans HBW.out hbb.out.size)
              have HWI := Lib.hid (show wo.heap.size ≤ wi.heap.size from hbb.out.size)
              refine Lib.wp_region_made 8 (fun k => if k = 7 then some (TwoPost ah al) else none) (by kernel_rfl) (by kernel_rfl) (fun k Post h v w w' hp hg => ?_) ?_
              · simp only [] at h
                split at h
                · cases h; exact hp.grows hg
                · cases h
              simp only [List.take_succ_cons, List.take_zero, List.drop_succ_cons, List.drop_zero]
              repeat (first | (refine Lib.wpML_step (by rfl) (fun K hK => ?_); go_simp; (refine hK _ ?_; clear hK K)))
              refine Lib.wpML_make (Post := TwoPost ah al) (by rfl) (fun K hK => ?_)
              go_simp
              refine ⟨fun s => ⟨Lib.Grows.alloc _ _, _, rfl, grow_alloc_new _ _ _ _⟩, fun v => hK _ _ ?_⟩
              clear hK K
              rintro ⟨wv, hbv, g, rfl, hmv⟩
              clear hbv hmv wv
              refine Lib.wpML_nil ?_
              intro w4 hw4 hr4
              have hb4 := Lib.Behind.below hw4
              obtain ⟨g2, hg1, hg2⟩ := (hr4 7).2 rfl
              cases hg1
              clear hr4 hw4
              have hown4 := ownsRow_below hownb.out hb4
              have hsz4 := hb4.size
              refine wpList_push_at rfl _ _ 56 rfl wo.heap.size 5 (.int .u8 0) 1 1 Tryd.underlying56 info_byte rfl (by omega) w4 u7 (2 * j) _ rfl hown4 g 2 [.int .u8 ah, .int .u8 al] (by rfl) rfl hg2 (by simp [Value.oneCell']) (by omega) (by unfold maxLen; omega) (Nat.le_trans HWI.out hsz4) ?_
              intro v' w5 hown5 hb5
              rw [← HH.out] at hown5
              have HO5 := Lib.hid hown5
              have HB5 := Lib.hid ((hbb.out.trans (hb4.mono HWI.out)).trans hb5)
              clear hown5 hb5 hb4 hown4 hg2 hsz4
              go_wp2
              exact ⟨⟨j + 1, _, rfl, by go_num, by omega, HO5, HB5⟩, by simp only [intOf]; omega⟩
            · obtain rfl : j = 2 := by omega
              have HOUT := Lib.hid (ownsRow_below hown.out hbb.out)
              have HBO := Lib.hid (hb.out.trans (hbb.out.mono HBW.out))
              have HBI := Lib.hid (show b1 ≤ wi.heap.size from Nat.le_trans HBW.out hbb.out.size)
              obtain ⟨g7, c7, rfl⟩ : ∃ g cap, u7 = .slice (some ⟨g, 0, none⟩) 4 cap := by
                obtain ⟨_, h⟩ := hownb.out
                rcases h with ⟨_, h⟩ | ⟨g, cap, cur, h, _⟩
                · cases h
                · exact ⟨g, cap, h⟩
              have hcs := hownb.out.cells (g := g7) rfl
              have HCS := Lib.hid hcs
              clear hcs hownb hbb hown hb P2
              go_wp2_with (with_reducible refine wpList_mark (o := ⟨some 54, _, _, _, _, _⟩) ?_)
              refine Marked.intro ?_
              refine wpList_run rfl (exec_bytes_back _ 56 9 5 _ rfl wi ⟨g7, 0, none⟩ 4 c7 (by rfl) (hexs p.A i 2) (by rw [hexs_len]) Tryd.underlying56 Tryd.underlying5 Tryd.underlying9 (fun j hj => ?_)) ?_
              · exact HCS.out j _ (by simp [ucs, List.getElem?_eq_getElem hj])
              clear HCS
              go_wp2_with (with_reducible refine wpList_mark (o := ⟨some 56, _, _, _, _, _⟩) ?_)
              refine Marked.intro ?_
              refine wpList_push rfl _ _ 60 rfl b1 9 (.string ⟨#[]⟩) 1 16 Tryd.underlying60 info_str rfl (by omega) wi u3 k _ rfl HOUT.out [.string ⟨(hexs p.A i 2).toArray⟩] (by rfl) rfl (by simp [Value.oneCell']) (by omega) (by unfold maxLen; omega) HBI.out ?_
              intro v' w4 hown4 hb4 _
              have htx := HTX.out
              rw [HI.out] at htx
              rw [← htx] at hown4
              have HO4 := Lib.hid hown4
              have HB4 := Lib.hid (HBO.out.trans hb4)
              clear hown4 hb4 HOUT HBI HBO htx
              go_wp2
              exact ⟨⟨k + 1, _, rfl, by have := HI.out; show Value.int .i64 ((i : Int) + 2) = Value.int .i64 ((2 * (k + 1) : Nat) : Int); rw [show (i : Int) + 2 = ((2 * (k + 1) : Nat) : Int) by omega], by omega, HO4, HB4⟩, by simp only [intOf]; omega⟩
        · obtain rfl : k = 8 := by omega
          have hi16 : i = 16 := by omega
          subst hi16
          have cn := P1.out.len
          rw [HN.out] at cn
          have HSB : Hid (w2.heap.size = b1) := HS1
          have d16 : decide (((16 : Nat) : Int) < 16) = false := by decide
          go_wp2_with fail
          have hT := texts_of_own hown.out (by simp [tx8]) (by simp [tx8])
          have hsz : ∀ x ∈ tx8 p.A 8, x.size ≤ 300 := fun x hx => by
            obtain ⟨j, _, rfl⟩ := List.mem_map.1 hx
            have h1 := hexs_len p.A (2 * j) 2
            show (hexs p.A (2 * j) 2).toArray.size ≤ 300
            rw [List.size_toArray, h1]; omega
          have hjs := joinB_size (tx8 p.A 8) 58 300 hsz
          rw [show (tx8 p.A 8).length = 8 from rfl] at hjs
          have hds := decB_size n
          have cJ : ∀ d os, Calls Tryd.prog 40 #[u3, .string ⟨#[58]⟩] (Sort.grow (redrawn wo d) os) fun e w'' => e = .returned (.string (joinB (tx8 p.A 8) 58)) ∧ Lib.Grows (Sort.grow (redrawn wo d) os) w'' := fun d os => Lib.Calls.grows_of (Join_calls _ b1 _ _ 58 (hT.below (below_regrown wo d os)) (by show 8 ≤ 100; omega) (fun x hx => by have := hsz x hx; omega))
          have cI : ∀ d os, Calls Tryd.prog 39 #[.int .i64 n] (Sort.grow (redrawn wo d) os) fun e w'' => e = .returned (.string (decB n)) ∧ Lib.Grows (Sort.grow (redrawn wo d) os) w'' := fun d os => Lib.Calls.grows_of (Itoa_calls _ n (by omega) (HT3.out.below (below_regrown wo d os)))
          have kn := cell_regrown cn
          have htx : text8 p.A p.n.toNat = joinB (tx8 p.A 8) 58 ++ ⟨#[47]⟩ ++ decB n := by rw [HN.out]; rfl
          have HTX := Lib.hid (HRR.out.trans htx)
          clear hT hsz htx
          generalize joinB (tx8 p.A 8) 58 = J at *
          generalize decB n = D at *
          have hz1 : ¬ 9223372036854775807 < J.size + 1 := by omega
          have hz2 : ¬ 9223372036854775807 < J.size + 1 + D.size := by omega
          refine Lib.wp_region_made 9 (fun _ => none) (by kernel_rfl) (by kernel_rfl) Lib.stabP_none ?_
          simp only [List.take_succ_cons, List.take_zero, List.drop_succ_cons, List.drop_zero]
          repeat (first | (refine Lib.wpML_step (by rfl) (fun K hK => ?_); go_simp; first | (refine hK _ ?_; clear hK K) | (apply Exists.intro; refine ⟨fun _ => ?_, hK _ ?_⟩; (first | (refine ⟨?_, by with_reducible exact cJ _ _⟩; exact Lib.noInit (by kernel_rfl)) | (refine ⟨?_, by with_reducible exact cI _ _⟩; exact Lib.noInit (by kernel_rfl))); clear hK K)))
          refine Lib.wpML_nil ?_
          intro wz hwz _
          have hbz := Lib.Behind.below hwz
          have HBZ := Lib.hid (bn HB2.out ((hb.out.mono (Nat.le_of_eq HS1.out)).trans (hbz.mono (by have := hb.out.size; have := HS1.out; omega))))
          clear hwz hbz
          go_wp2
          go_ret
          exact ⟨by rw [HTX.out]; rfl, HBZ.out⟩
end Go.Proofs.YtmccnmccegbdjaaDoor
