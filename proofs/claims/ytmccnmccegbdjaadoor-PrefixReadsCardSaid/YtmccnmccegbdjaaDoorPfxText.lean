/- The walk of prefix.Text. -/
import Derived.Test.YtmccnmccegbdjaaDoorPfxRead
import Derived.Test.YtmccnmccegbdjaaDoorJoin
namespace Go.Proofs.YtmccnmccegbdjaaDoor
open Go.RowKit Go.Sort
set_option linter.unusedVariables false
set_option linter.unusedSimpArgs false
/-- A number's decimal text. -/
def decB (n : Nat) : ByteArray := ⟨(Go.Lib.decDigits n).toArray⟩
/-- The library's table of the powers of ten. -/
def Tab (w : World) : Prop := Go.Lib.TabIs Tryd.prog w "internal/strconv.uint64pow10" .u64 Go.Lib.pow10Tab
theorem glob_tab : ∃ g, Tryd.prog.globalNamed "internal/strconv.uint64pow10" = some g := by
  cases h : Tryd.prog.globalNamed "internal/strconv.uint64pow10" with
  | some g => exact ⟨g, rfl⟩
  | none => have : (Tryd.prog.globalNamed "internal/strconv.uint64pow10").isSome = true := by kernel_rfl
            rw [h] at this; cases this
theorem Tab.below {w w' : World} (h : Tab w) (hb : Below w.heap.size w w') : Tab w' := by
  obtain ⟨g, hg⟩ := glob_tab
  unfold Tab Go.Lib.TabIs World.var? at h ⊢
  rw [hg] at h ⊢
  simp only [Option.bind_some] at h ⊢
  have hlt : g < w.heap.size := by
    rcases Nat.lt_or_ge g w.heap.size with h' | h'
    · exact h'
    · rw [Array.getElem?_eq_none h'] at h; cases h
  rw [hb.block g hlt]
  exact h
theorem ownsRow_below {B : Nat} {e : TypeId} {k : Nat} {v : Value} {n : Nat} {xs : List Value} {w w' : World} (h : w.ownsRow B e k v n xs) (hb : Below w.heap.size w w') : w'.ownsRow B e k v n xs :=
  h.kept (row := none) ⟨hb.os, hb.tape, hb.output, hb.size, fun j hj _ => hb.block j hj⟩ (by cases hv : v.ownBlock <;> simp)
theorem below_drewgrow (w : World) (k : Nat) (os : Array Obj) : Below w.heap.size w (grow (w.drewN k) os) :=
  ⟨rfl, rfl, rfl, by simp [grow, World.drewN], fun k hk => by simp [grow, World.drewN, Array.getElem?_append, hk]⟩
theorem Itoa_calls (w : World) (n : Nat) (hn : n < 1000000) (h : Tab w) : Calls Tryd.prog 39 #[.int .i64 n] w fun e w' => e = .returned (.string (decB n)) ∧ Below w.heap.size w w' := by
  refine (Tryd.strconv_Itoa (n : Int) (by omega) (by omega) w h).mono ?_
  rintro e w' ⟨rfl, k, os, rfl⟩
  refine ⟨?_, below_drewgrow w k os⟩
  unfold Go.Lib.itoa decB
  rw [if_neg (by omega)]
  rfl
theorem info_str : (Tryd.prog.info? 9).map (fun i => (i.zero, i.size, i.bytes)) = some (some (.string ⟨#[]⟩), 1, 16) := by kernel_rfl
theorem info_byte : (Tryd.prog.info? 5).map (fun i => (i.zero, i.size, i.bytes)) = some (some (.int .u8 0), 1, 1) := by kernel_rfl
def tx4 (A : List Nat) (i : Nat) : List ByteArray := (List.range i).map fun j => decB (A.getD j 0)
theorem tx4_succ (A : List Nat) (i : Nat) : (tx4 A (i + 1)).map Value.string = (tx4 A i).map Value.string ++ [.string (decB (A.getD i 0))] := by
  simp [tx4, List.range_succ]
/-- A list of texts in a row of the call's own. -/
def Texts (B : Nat) (w : World) (v : Value) (xs : List ByteArray) : Prop :=
  ∃ g cap, v = .slice (some ⟨g, 0, none⟩) xs.length cap ∧ B ≤ g ∧ g < w.heap.size ∧ xs.length ≤ cap ∧ ∀ (j : Nat) x, xs[j]? = some x → w.cell? ⟨g, j, none⟩ = some (.string x)
theorem texts_of_own {B : Nat} {w : World} {v : Value} {xs : List ByteArray} {n : Nat} (h : w.ownsRow B 9 1 v n (xs.map .string)) (hn : n = xs.length) (h0 : xs ≠ []) : Texts B w v xs := by
  subst hn
  have hc : ∀ g, v.ownBlock = some g → _ := fun g hg => h.cells (g := g) hg
  have hl := h.lt
  obtain ⟨_, h⟩ := h
  rcases h with ⟨_, h⟩ | ⟨g, cap, cur, rfl, h1, h2, h3, _⟩
  · exact absurd (List.eq_nil_of_length_eq_zero h) h0
  · refine ⟨g, cap, rfl, h1, (hl g rfl).2, h3, fun j x hx => ?_⟩
    have := hc g rfl j (.string x) (by simp [hx])
    rwa [Addr.add_lit, Nat.zero_add] at this
theorem dec_len (u : Nat) : (Go.Lib.decDigits u).length ≤ u + 1 := by
  induction u using Nat.strongRecOn with
  | _ u ih =>
    unfold Go.Lib.decDigits
    split
    · simp
    · have := ih (u / 10) (by omega)
      simp only [List.length_append, List.length_cons, List.length_nil]
      omega
theorem decB_size (u : Nat) : (decB u).size ≤ u + 1 := by
  have := dec_len u
  show (Go.Lib.decDigits u).toArray.size ≤ _
  simpa using this
theorem join_len (xs : List (List UInt8)) (c : UInt8) (m : Nat) (h : ∀ x ∈ xs, x.length ≤ m) : (Go.Lib.join xs [c]).length ≤ xs.length * (m + 1) := by
  cases xs with
  | nil => simp [Go.Lib.join, List.intercalate]
  | cons x r =>
    rw [Go.Lib.join_cons]
    have h1 := h x (by simp)
    have h2 : ∀ (r : List (List UInt8)), (∀ y ∈ r, y.length ≤ m) → (Go.Lib.joinTail [c] r).length ≤ r.length * (m + 1) := by
      intro r
      induction r with
      | nil => intro _; simp [Go.Lib.joinTail]
      | cons y r ih =>
        intro hy
        have h3 := ih (fun z hz => hy z (by simp [hz]))
        have h4 := hy y (by simp)
        simp only [Go.Lib.joinTail, List.map_cons, List.flatten_cons, List.length_append, List.length_cons, List.length_nil] at h3 ⊢
        rw [Nat.add_mul]; omega
    have h5 := h2 r (fun y hy => h y (by simp [hy]))
    simp only [List.length_append, List.length_cons]
    rw [Nat.add_mul]; omega
def joinB (xs : List ByteArray) (sep : UInt8) : ByteArray := ⟨(Go.Lib.join (xs.map fun b => b.data.toList) [sep]).toArray⟩
def text4 (A : List Nat) (n : Nat) : ByteArray := joinB (tx4 A 4) 46 ++ ⟨#[47]⟩ ++ decB n
theorem joinB_size (xs : List ByteArray) (c : UInt8) (m : Nat) (h : ∀ x ∈ xs, x.size ≤ m) : (joinB xs c).size ≤ xs.length * (m + 1) := by
  have := join_len (xs.map fun b => b.data.toList) c m (fun l hl => by
    obtain ⟨b, hb, rfl⟩ := List.mem_map.1 hl
    exact h b hb)
  rw [List.length_map] at this
  show (Go.Lib.join _ [c]).toArray.size ≤ _
  simpa using this
theorem Join_calls (w : World) (B : Nat) (v : Value) (xs : List ByteArray) (c : UInt8) (h : Texts B w v xs) (hN : xs.length ≤ 100) (hs : ∀ x ∈ xs, x.size ≤ 1000) :
    Calls Tryd.prog 40 #[v, .string ⟨#[c]⟩] w fun e w' => e = .returned (.string (joinB xs c)) ∧ Below w.heap.size w w' := by
  obtain ⟨g, cap, rfl, h1, h2, h3, h4⟩ := h
  refine Tryd.strings_Join g 0 cap xs ⟨#[c]⟩ w (fun j x hx => by rw [Nat.zero_add]; exact h4 j x hx) h2 (by omega) h3 ?_
  have := join_len (xs.map (·.data.toList)) c 1000 (fun l hl => by
    obtain ⟨b, hb, rfl⟩ := List.mem_map.1 hl
    exact hs b hb)
  rw [List.length_map] at this
  have h5 : xs.length * (1000 + 1) ≤ 100 * 1001 := Nat.mul_le_mul_right _ hN
  exact Nat.le_trans this (by omega)
theorem Texts.below {B : Nat} {w w' : World} {v : Value} {xs : List ByteArray} (h : Texts B w v xs) (hb : Below w.heap.size w w') : Texts B w' v xs := by
  obtain ⟨g, cap, h0, h1, h2, h3, h4⟩ := h
  exact ⟨g, cap, h0, h1, Nat.lt_of_lt_of_le h2 hb.size, h3, fun j x hx => (hb.cell (World.block_lt_of_cell? w _ (h4 j x hx))).trans (h4 j x hx)⟩
set_option maxRecDepth 100000 in
set_option maxHeartbeats 8000000 in
theorem Text_four (w : World) (p : Px) (hp : p.wf) (ht : Tab w) (hr : p.right = true) (h6 : p.six = false) : Calls Tryd.prog 18 #[.agg p.row] w fun e w' => e = .returned (.string (text4 p.A p.n.toNat)) ∧ Below w.heap.size w w' := by
  have hb0 := (Below.refl w.heap.size w).alloc (Nat.le_refl _) (.cells p.row 30)
  have h0 := PxAt.new w p hp.len
  have ht1 := ht.below hb0
  have hsz : (w.alloc (.cells p.row 30)).heap.size = w.heap.size + 1 := by simp
  have HB0 := Lib.hid hb0; have H0 := Lib.hid h0; have HT := Lib.hid ht1; have HSZ := Lib.hid hsz; clear hb0 h0 ht ht1 hsz
  obtain ⟨n, hn, hn2⟩ := Px.right_n hr
  have hw := widthN_le p.six
  have cP := fun w => Right_calls w p hp
  rw [hr] at cP
  obtain ⟨rr, hrr⟩ : ∃ rr, rr = text4 p.A p.n.toNat := ⟨_, rfl⟩
  rw [← hrr]
  have HRR := Lib.hid hrr; have HN := Lib.hid hn; have H6 := Lib.hid h6; clear hrr hr hn h6
  have hn128 : n ≤ 128 := by omega
  clear hw hn2
  go_enter Tryd.func18, Tryd.ntmps18
  go_wp2_with (with_reducible refine wpList_mark (o := ⟨some 10, _, _, _, _, _⟩) ?_)
  generalize w.alloc (.cells p.row 30) = w1 at *
  refine Marked.intro ?_
  refine wpList_run rfl (exec_load_whole rfl rfl H0.out) ?_
  go_wp2_with fail
  refine (cP _).mono ?_
  rintro e w2 ⟨rfl, hb⟩
  have hle := hb.size
  have HW2 : Hid (w.heap.size + 1 ≤ w2.heap.size) := Lib.hid (by have := HSZ.out; omega)
  have HB2 := Lib.hid (bn HB0.out hb); have H2 := Lib.hid (H0.out.b hb); have HT2 := Lib.hid (HT.out.below hb)
  clear hb hle HB0 H0 HT cP HSZ
  go_wp2_with fail
  obtain ⟨b1, hb1⟩ : ∃ b1, w2.heap.size = b1 := ⟨_, rfl⟩
  have HS1 := Lib.hid hb1; clear hb1
  go_loopw [3, 13] (fun s3 s13 wr => ∃ (i : Nat) (v : Value), s3 = v ∧ s13 = .int .i64 i ∧ i ≤ 4 ∧ Hid (wr.ownsRow b1 9 1 v i ((tx4 p.A i).map .string)) ∧ Hid (Below b1 w2 wr)) (fun _ s13 _ => 4 - (intOf s13).toNat)
  case atStart => exact ⟨0, _, rfl, rfl, by omega, Lib.hid (World.ownsRow_nil _ _ _ _), Lib.hid (Below.refl _ _)⟩
  case round =>
    obtain ⟨wo, rfl⟩ : ∃ wo : World, wo = wr := ⟨_, rfl⟩
    obtain ⟨i, v, rfl, rfl, hi, hown, hb⟩ := hrel
    have P1 := Lib.hid (H2.out.below hb.out (by have := H2.out.lt; have := HS1.out; omega))
    have HT3 := Lib.hid (HT2.out.below (by have := hb.out; rw [← HS1.out] at this; exact this))
    by_cases hlt : i < 4
    · have hiI : (i : Int) < 4 := by omega
      have hi16 : (i : Int) < 16 := by omega
      have hc := P1.out.byte i (by omega)
      have hx := hp.small i
      have HIT := Lib.hid (Itoa_calls wo (p.A.getD i 0) (by omega) HT3.out)
      have HTX := Lib.hid (tx4_succ p.A i)
      generalize p.A.getD i 0 = x at *
      go_wp2_with fail
      refine HIT.out.mono ?_
      rintro e w3 ⟨rfl, hb3⟩
      have hown3 := ownsRow_below hown.out hb3
      have HB3 := Lib.hid (hb.out.trans (hb3.mono (by have := hb.out.size; have := HS1.out; omega)))
      have hbs : b1 ≤ w3.heap.size := by have h1 := hb.out.size; have h2 := hb3.size; have h3 := HS1.out; omega
      have HOWN := Lib.hid hown3; have HBS := Lib.hid hbs
      clear hown hb hb3 hown3 hbs HT3 HIT P1
      go_wp2_with (with_reducible refine wpList_mark (o := ⟨some 24, _, _, _, _, _⟩) ?_)
      refine Marked.intro ?_
      refine wpList_push rfl _ _ 60 rfl b1 9 (.string ⟨#[]⟩) 1 16 Tryd.underlying60 info_str rfl (by omega) w3 u3 i _ rfl HOWN.out [.string (decB x)] (by rfl) rfl (by simp [Value.oneCell']) (by omega) (by unfold maxLen; omega) HBS.out ?_
      intro v' w4 hown4 hb4 _
      rw [← HTX.out] at hown4
      have HO4 := Lib.hid hown4
      have HB4 := Lib.hid (HB3.out.trans hb4)
      clear hown4 hb4 HOWN HBS HB3
      go_wp2
      exact ⟨⟨i + 1, _, rfl, by go_num, by omega, HO4, HB4⟩, by simp only [intOf]; omega⟩
    · obtain rfl : i = 4 := by omega
      have c6 := P1.out.six
      rw [H6.out] at c6
      have cn := P1.out.len
      rw [HN.out] at cn
      go_wp2_with fail
      have hT := texts_of_own hown.out (by simp [tx4]) (by simp [tx4])
      have hsz : ∀ x ∈ tx4 p.A 4, x.size ≤ 300 := fun x hx => by
        obtain ⟨j, _, rfl⟩ := List.mem_map.1 hx
        have h1 := decB_size (p.A.getD j 0)
        have h2 := hp.small j
        omega
      have hjs := joinB_size (tx4 p.A 4) 46 300 hsz
      rw [show (tx4 p.A 4).length = 4 from rfl] at hjs
      have hds := decB_size n
      have cJ : ∀ d os, Calls Tryd.prog 40 #[u3, .string ⟨#[46]⟩] (Sort.grow (redrawn wo d) os) fun e w'' => e = .returned (.string (joinB (tx4 p.A 4) 46)) ∧ Lib.Grows (Sort.grow (redrawn wo d) os) w'' := fun d os => Lib.Calls.grows_of (Join_calls _ b1 _ _ 46 (hT.below (below_regrown wo d os)) (by show 4 ≤ 100; omega) (fun x hx => by have := hsz x hx; omega))
      have cI : ∀ d os, Calls Tryd.prog 39 #[.int .i64 n] (Sort.grow (redrawn wo d) os) fun e w'' => e = .returned (.string (decB n)) ∧ Lib.Grows (Sort.grow (redrawn wo d) os) w'' := fun d os => Lib.Calls.grows_of (Itoa_calls _ n (by omega) (HT3.out.below (below_regrown wo d os)))
      have kn := cell_regrown cn
      have htx : text4 p.A p.n.toNat = joinB (tx4 p.A 4) 46 ++ ⟨#[47]⟩ ++ decB n := by rw [HN.out]; rfl
      have HTX := Lib.hid (HRR.out.trans htx)
      clear hT hsz htx
      generalize joinB (tx4 p.A 4) 46 = J at *
      generalize decB n = D at *
      have hz1 : ¬ 9223372036854775807 < J.size + 1 := by omega
      have hz2 : ¬ 9223372036854775807 < J.size + 1 + D.size := by omega
      refine Lib.wp_region_made 9 (fun _ => none) (by kernel_rfl) (by kernel_rfl) Lib.stabP_none ?_
      simp only [List.take_succ_cons, List.take_zero, List.drop_succ_cons, List.drop_zero]
      repeat (first | (refine Lib.wpML_step (by rfl) (fun K hK => ?_); go_simp; first | (refine hK _ ?_; clear hK K) | (apply Exists.intro; refine ⟨fun _ => ?_, hK _ ?_⟩; (first | (refine ⟨?_, by with_reducible exact cJ _ _⟩; exact Lib.noInit (by kernel_rfl)) | (refine ⟨?_, by with_reducible exact cI _ _⟩; exact Lib.noInit (by kernel_rfl))); clear hK K)))
      refine Lib.wpML_nil ?_
      intro wz hwz _
      have hbz := Lib.Behind.below hwz
      have HBZ := Lib.hid (bn HB2.out ((hb.out.mono (Nat.le_of_eq HS1.out)).trans (hbz.mono (by have := hb.out.size; have := HS1.out; omega))))
      clear hwz hbz
      go_wp2
      go_ret
      exact ⟨by rw [HTX.out]; rfl, HBZ.out⟩
end Go.Proofs.YtmccnmccegbdjaaDoor
