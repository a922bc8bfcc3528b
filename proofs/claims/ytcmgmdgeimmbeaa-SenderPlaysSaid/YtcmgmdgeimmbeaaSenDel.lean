/- The walk of slices.DeleteFunc at []int, of the due ones. -/
import Derived.Test.YtcmgmdgeimmbeaaSenFunc
namespace Go.Proofs.Ytcmgmdgeimmbeaa
open Go.RowKit
set_option linter.unusedVariables false
set_option linter.unusedSimpArgs false
theorem idxF_spec {α : Type} (p : α → Bool) (l : List α) : (idxF p l = -1 ∧ ∀ (j : Nat) x, l[j]? = some x → p x = false) ∨ ∃ (k : Nat) (x : α), l[k]? = some x ∧ p x = true ∧ idxF p l = (k : Int) ∧ ∀ (j : Nat) y, j < k → l[j]? = some y → p y = false := by
  induction l with
  | nil => exact Or.inl ⟨rfl, by simp⟩
  | cons y l ih =>
    cases hy : p y with
    | true => exact Or.inr ⟨0, y, rfl, hy, by simp [idxF, hy], fun j z hj => absurd hj (Nat.not_lt_zero _)⟩
    | false =>
      rcases ih with ⟨h1, h2⟩ | ⟨k, x, h1, h2, h3, h4⟩
      · refine Or.inl ⟨by simp [idxF, hy, h1], fun j x hj => ?_⟩
        cases j with
        | zero => obtain rfl : y = x := by simpa using hj
                  exact hy
        | succ j => exact h2 j x (by simpa using hj)
      · refine Or.inr ⟨k + 1, x, by simpa using h1, h2, ?_, fun j z hj hz => ?_⟩
        · simp only [idxF, hy, h3]
          rw [if_neg (by simp), if_neg (by omega)]; simp
        · cases j with
          | zero => obtain rfl : y = z := by simpa using hz
                    exact hy
          | succ j => exact h4 j z (by omega) (by simpa using hz)
theorem filter_take_succ (q : Nat → Bool) (l : List Nat) (j x : Nat) (h : l[j]? = some x) : (l.take (j + 1)).filter q = (l.take j).filter q ++ (if q x = true then [x] else []) := by
  obtain ⟨hj, he⟩ := List.getElem?_eq_some_iff.1 h
  rw [List.take_succ_eq_append_getElem hj, List.filter_append, he]
  by_cases hq : q x = true <;> simp [hq]
theorem upd_drewN (g n : Nat) (w : World) : Upd g w (w.drewN n) := ⟨rfl, rfl, rfl, rfl, fun _ _ => rfl⟩
theorem upd_set (g i : Nat) (w : World) (v : Value) : Upd g w (w.setCell ⟨g, i, none⟩ v) := ⟨rfl, rfl, rfl, by simp [World.setCell], fun k hk => Below.heap_setCell w _ _ k hk⟩
theorem setCells_row (g : Nat) (t : TypeId) (fr : Nat × Nat) : ∀ (vs : List Value) (o : Nat) (w : World) (cur : Array Value), w.heap[g]? = some (.cells cur t fr) →
    ∃ cur', (w.setCells g o vs).heap[g]? = some (.cells cur' t fr) ∧ cur'.size = cur.size ∧ (∀ j, j < o → cur'[j]? = cur[j]?) ∧ Upd g w (w.setCells g o vs)
  | [], o, w, cur, h => ⟨cur, h, rfl, fun _ _ => rfl, Upd.refl g w⟩
  | v :: vs, o, w, cur, h => by
    obtain ⟨cur', h1, h2, h3, h4⟩ := setCells_row g t fr vs (o + 1) _ _ (row_setCell w g o cur t fr v h)
    refine ⟨cur', h1, by rw [h2, Array.size_setIfInBounds], fun j hj => ?_, (upd_set g o w v).trans h4⟩
    rw [h3 j (by omega), Array.getElem?_setIfInBounds_ne (by omega)]
/-- What the loop keeps. -/
structure DelInv (gl : Nat) (q : Nat → Bool) (l : List Nat) (cur : Array Value) (w : World) (j : Nat) (cur' : Array Value) (wr : World) : Prop where
  row : wr.heap[gl]? = some (.cells cur' 3 (0, 0))
  size : cur'.size = cur.size
  fst : ∀ (k x : Nat), ((l.take j).filter q)[k]? = some x → cur'[k]? = some (.int .i64 (x : Int))
  snd : ∀ (k x : Nat), j ≤ k → l[k]? = some x → cur'[k]? = some (.int .i64 (x : Int))
  upd : Upd gl w wr
  lt : ((l.take j).filter q).length < j
  le : j ≤ l.length
theorem DelInv.drop {gl : Nat} {q : Nat → Bool} {l : List Nat} {cur cur' : Array Value} {w wr w' : World} {j y : Nat} (h : DelInv gl q l cur w j cur' wr) (hx : l[j]? = some y) (hq : q y = false) (hw : ∃ n, w' = wr.drewN n) :
    DelInv gl q l cur w (j + 1) cur' w' := by
  obtain ⟨n, rfl⟩ := hw
  have hk := filter_take_succ q l j y hx
  rw [hq, if_neg (by simp), List.append_nil] at hk
  have hj := (List.getElem?_eq_some_iff.1 hx).1
  exact ⟨h.row, h.size, by rw [hk]; exact h.fst, fun k x hk => h.snd k x (by omega), h.upd.trans (upd_drewN gl n wr), by rw [hk]; have := h.lt; omega, by omega⟩
theorem DelInv.keep {gl : Nat} {q : Nat → Bool} {l : List Nat} {cur cur' : Array Value} {w wr : World} {j y n : Nat} (h : DelInv gl q l cur w j cur' wr) (hx : l[j]? = some y) (hq : q y = true) (hs : l.length ≤ cur.size) :
    DelInv gl q l cur w (j + 1) (cur'.setIfInBounds ((l.take j).filter q).length (.int .i64 (y : Int))) ((wr.drewN n).setCell ⟨gl, ((l.take j).filter q).length, none⟩ (.int .i64 (y : Int))) := by
  have hk := filter_take_succ q l j y hx
  rw [hq, if_pos rfl] at hk
  have hj := (List.getElem?_eq_some_iff.1 hx).1
  have hlt := h.lt
  refine ⟨row_setCell _ _ _ _ _ _ _ h.row, by rw [Array.size_setIfInBounds, h.size], ?_, fun k x hk2 hx2 => ?_, (h.upd.trans (upd_drewN gl n wr)).trans (upd_set gl _ _ _), by rw [hk, List.length_append, List.length_singleton]; omega, by omega⟩
  · rw [hk]
    intro k x hkx
    rw [List.getElem?_append] at hkx
    split at hkx
    · next hlt2 => rw [Array.getElem?_setIfInBounds_ne (by omega)]; exact h.fst k x hkx
    · next hge =>
      have : k = ((l.take j).filter q).length := by
        have := (List.getElem?_eq_some_iff.1 hkx).1
        simp at this; omega
      subst this
      obtain rfl : y = x := by simpa using hkx
      rw [Array.getElem?_setIfInBounds_self_of_lt (by rw [h.size]; omega)]
  · rw [Array.getElem?_setIfInBounds_ne (by omega)]
    exact h.snd k x (by omega) hx2
set_option maxHeartbeats 4000000 in
set_option maxRecDepth 100000 in
theorem DeleteFunc_due (lb : Array Value) (p : Nat → Bool) (gl cap : Nat) (cur : Array Value) (l : List Nat) (w : World) (hn : l.length ≤ 1000) (hcap : l.length ≤ cap) (hg : w.heap[gl]? = some (.cells cur 3 (0, 0))) (hcur : ∀ (j x : Nat), l[j]? = some x → cur[j]? = some (.int .i64 (x : Int)))
    (hp : ∀ (j x : Nat), l[j]? = some x → Gives 46 lb (.int .i64 (x : Int)) (p x) (fun W => Upd gl w W)) :
    Calls Try.prog 44 #[.slice (some ⟨gl, 0, none⟩) l.length cap, .func (.func 46) #[] lb] w fun e w' => ∃ cur', e = .returned (.slice (some ⟨gl, 0, none⟩) (l.filter fun x => !p x).length cap) ∧
      w'.heap[gl]? = some (.cells cur' 3 (0, 0)) ∧ cur'.size = cur.size ∧ (∀ (j x : Nat), (l.filter fun x => !p x)[j]? = some x → cur'[j]? = some (.int .i64 (x : Int))) ∧ Upd gl w w' := by
  have hif := IndexFunc_due lb p (some ⟨gl, 0, none⟩) cap l w (by omega) (fun j x hx => ⟨_, rfl, rfl, by show w.cell? ⟨gl, 0 + j, none⟩ = _; rw [Nat.zero_add, cell_of_row _ _ _ _ _ _ hg]; exact hcur j x hx⟩) (fun j x hx W hW => hp j x hx W (by obtain ⟨q, rfl⟩ := hW; exact upd_drewN gl q w))
  have hs : l.length ≤ cur.size := by
    rcases Nat.eq_zero_or_pos l.length with h0 | h0
    · omega
    · have := (Array.getElem?_eq_some_iff.1 (hcur (l.length - 1) _ (List.getElem?_eq_getElem (by omega)))).1
      omega
  rcases idxF_spec p l with ⟨h1, h2⟩ | ⟨k, x, h1, h2, h3, h4⟩
  · rw [h1] at hif
    have hfl : (l.filter fun x => !p x) = l := by
      rw [List.filter_eq_self]
      intro a ha
      obtain ⟨j, hj⟩ := List.getElem?_of_mem ha
      simp [h2 j a hj]
    rw [hfl]
    have HI := Lib.hid hif
    clear hif h1 h2 hp hfl
    have HG := Lib.hid hg; clear hg
    have HC := Lib.hid hcur; clear hcur
    go_enter Try.func44, Try.ntmps44
    go_wp2_with fail
    refine HI.out.mono ?_
    rintro e w1 ⟨rfl, q, rfl⟩
    go_wp2
    go_ret
    exact ⟨cur, rfl, HG.out, rfl, HC.out, upd_drewN gl q w⟩
  · rw [h3] at hif
    have hkl := (List.getElem?_eq_some_iff.1 h1).1
    have hne : ((k : Int) == -1) = false := beq_eq_false_iff_ne.2 (by omega)
    have hpre : (l.take k).filter (fun x => !p x) = l.take k := by
      rw [List.filter_eq_self]
      intro a ha
      obtain ⟨j, hj⟩ := List.getElem?_of_mem ha
      have hjk : j < k := by have := (List.getElem?_eq_some_iff.1 hj).1; rw [List.length_take] at this; omega
      rw [List.getElem?_take, if_pos hjk] at hj
      simp [h4 j a hjk hj]
    have hstart := fun q => (show DelInv gl (fun x => !p x) l cur w (k + 1) cur (w.drewN q) from by
      have hk := filter_take_succ (fun x => !p x) l k x h1
      rw [h2, if_neg (by simp), List.append_nil, hpre] at hk
      exact ⟨hg, rfl, by
        rw [hk]
        intro j y hy
        have hjk : j < k := by have := (List.getElem?_eq_some_iff.1 hy).1; rw [List.length_take] at this; omega
        rw [List.getElem?_take, if_pos hjk] at hy
        exact hcur j y hy, fun j y _ hy => hcur j y hy, upd_drewN gl q w, by rw [hk, List.length_take]; omega, hkl⟩)
    have hlen : (((l.take (k + 1)).filter fun x => !p x).length : Int) = k := by
      have hk := filter_take_succ (fun x => !p x) l k x h1
      rw [h2, if_neg (by simp), List.append_nil, hpre] at hk
      rw [hk, List.length_take, Nat.min_eq_left (by omega)]
    have HS := Lib.hid hstart
    have HI := Lib.hid hif
    have HP := Lib.hid hp
    have HL := Lib.hid hlen
    clear hif hstart h1 h2 h3 h4 hp hcur hpre hg hlen
    go_enter Try.func44, Try.ntmps44
    go_wp2_with fail
    refine HI.out.mono ?_
    rintro e w1 ⟨rfl, q, rfl⟩
    go_wp2
    go_loopw [5, 6] (fun s5 s6 wr => ∃ (j : Nat) (cur' : Array Value), s5 = .int .i64 (((l.take j).filter fun x => !p x).length : Nat) ∧ s6 = .int .i64 j ∧ Hid (DelInv gl (fun x => !p x) l cur w j cur' wr)) (fun _ s6 _ => l.length - (intOf s6).toNat)
    case atStart => exact ⟨k + 1, cur, by rw [HL.out], by go_num, Lib.hid (HS.out q)⟩
    case round =>
      obtain ⟨j, cur', rfl, rfl, I⟩ := hrel
      have hle := I.out.le
      have hlt := I.out.lt
      by_cases hj : j < l.length
      · have hx := List.getElem?_eq_getElem hj
        have hcall := HP.out j l[j] hx
        have c1 : wr.cell? ⟨gl, j, none⟩ = some (.int .i64 (l[j] : Int)) := by rw [cell_of_row _ _ _ _ _ _ I.out.row]; exact I.out.snd j _ (Nat.le_refl _) hx
        have hi : ((l.take j).filter fun x => !p x).length < cur'.size := by rw [I.out.size]; omega
        obtain ⟨old, ho⟩ : ∃ old, wr.cell? ⟨gl, ((l.take j).filter fun x => !p x).length, none⟩ = some old := by
          rw [cell_of_row _ _ _ _ _ _ I.out.row]; exact ⟨_, Array.getElem?_eq_getElem hi⟩
        have fz : ∀ i, wr.frozen? ⟨gl, i, none⟩ = false := fun i => by simp [World.frozen?, I.out.row]
        have fz1 := fz ((l.take j).filter fun x => !p x).length
        clear fz
        have HX := Lib.hid hx; clear hx
        have HCall := Lib.hid hcall; clear hcall HP
        generalize l[j] = y at *
        have hkeep := fun n hq => I.out.keep (n := n) HX.out hq hs
        have hdrop := fun hq w' hw => I.out.drop (w' := w') HX.out hq hw
        have HK := Lib.hid hkeep; clear hkeep
        have HD := Lib.hid hdrop; clear hdrop
        have hfs := filter_take_succ (fun x => !p x) l j y HX.out
        have HF := Lib.hid hfs; clear hfs
        generalize hm : ((l.take j).filter fun x => !p x).length = m at *
        have HM := Lib.hid hm; clear hm
        cases hq : p y with
        | true =>
          rw [hq] at HCall
          have HQ := Lib.hid hq; clear hq
          go_wp2_with (go_at_call 46; refine (HCall.out _ I.out.upd).mono ?_; rintro e w' ⟨rfl, q', rfl⟩)
          refine ⟨⟨j + 1, cur', ?_, by go_num, Lib.hid (HD.out (by simp [HQ.out]) _ ⟨_, rfl⟩)⟩, by simp only [intOf]; omega⟩
          rw [HF.out]; simp [HQ.out, HM.out]
        | false =>
          rw [hq] at HCall
          have HQ := Lib.hid hq; clear hq
          go_wp2_with (go_at_call 46; refine (HCall.out _ I.out.upd).mono ?_; rintro e w' ⟨rfl, q', rfl⟩)
          refine ⟨⟨j + 1, _, ?_, by go_num, Lib.hid (HK.out q' (by simp [HQ.out]))⟩, by simp only [intOf]; omega⟩
          rw [HF.out]; simp [HQ.out, HM.out]
      · obtain rfl : j = l.length := by omega
        have htk : l.take l.length = l := List.take_length
        rw [htk] at hlt ⊢
        have hfin : ∃ cur2, (wr.setCells gl (l.filter fun x => !p x).length (List.replicate (l.length - (l.filter fun x => !p x).length) (.int .i64 0))).heap[gl]? = some (.cells cur2 3 (0, 0)) ∧ cur2.size = cur.size ∧
            (∀ (j x : Nat), (l.filter fun x => !p x)[j]? = some x → cur2[j]? = some (.int .i64 (x : Int))) ∧ Upd gl w (wr.setCells gl (l.filter fun x => !p x).length (List.replicate (l.length - (l.filter fun x => !p x).length) (.int .i64 0))) := by
          obtain ⟨cur2, g1, g2, g3, g4⟩ := setCells_row gl 3 (0, 0) (List.replicate (l.length - (l.filter fun x => !p x).length) (.int .i64 0)) (l.filter fun x => !p x).length wr cur' I.out.row
          refine ⟨cur2, g1, g2.trans I.out.size, fun j x hx => ?_, I.out.upd.trans g4⟩
          rw [g3 j (List.getElem?_eq_some_iff.1 hx).1]
          exact I.out.fst j x (by rw [htk]; exact hx)
        have hcell : ∀ i, i < l.length → (wr.cell? ⟨gl, i, none⟩).isSome = true := fun i hi => by
          rw [cell_of_row _ _ _ _ _ _ I.out.row, Array.getElem?_eq_getElem (by rw [I.out.size]; omega)]; rfl
        have hfz : ∀ i, wr.frozen? ⟨gl, i, none⟩ = false := fun i => by simp [World.frozen?, I.out.row]
        generalize hm : (l.filter fun x => !p x).length = m at *
        have hcl : ∀ ty, (Builtin.clear_ #[57] ty #[.slice (some ⟨gl, m, none⟩) (l.length - m) (cap - m)]).run Try.prog wr = .ok (.tuple #[]) (wr.setCells gl m (List.replicate (l.length - m) (.int .i64 0))) :=
          fun ty => Lib.run_clear_slice wr _ _ ty _ Try.underlying57 (fun _ => by kernel_rfl) rfl rfl gl m _ _ (by omega) (fun t ht => hcell (m + t) (by omega)) (fun t ht => hfz (m + t))
        have HFin := Lib.hid hfin; clear hfin
        clear hcell hfz
        go_wp2
        go_ret
        obtain ⟨cur2, g1, g2, g3, g4⟩ := HFin.out
        exact ⟨cur2, by rw [hm]; rfl, g1, g2, g3, g4⟩
end Go.Proofs.Ytcmgmdgeimmbeaa
