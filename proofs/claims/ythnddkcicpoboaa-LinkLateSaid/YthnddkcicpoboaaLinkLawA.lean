/- The laws LinkFair, LinkWhole, LinkLate, walked. -/
import Derived.Test.YthnddkcicpoboaaLinkAwake
import Derived.OpenShut
namespace Go.Proofs.Ythnddkcicpoboaa
open Go.RowKit Go.ChangeShapes Go.WideShapes
set_option linter.unusedVariables false
set_option linter.unusedSimpArgs false
/-- Texts in memory. -/
def Strs (w : World) (v : Value) (xs : List ByteArray) : Prop :=
  ∃ ad cap, v = .slice ad xs.length cap ∧ (xs ≠ [] → ∃ g o, ad = some ⟨g, o, none⟩ ∧ ∀ (j : Nat) x, xs[j]? = some x → w.cell? ⟨g, o + j, none⟩ = some (.string x))
theorem Fates.mono {w w' : World} {v : Value} {fs : List (Int × Int × Int)} (h : Fates w v fs) (hb : Below w.heap.size w w') : Fates w' v fs := by
  obtain ⟨ad, cap, rfl, h⟩ := h
  refine ⟨ad, cap, rfl, fun hx => ?_⟩
  obtain ⟨g, o, rfl, h2⟩ := h hx
  refine ⟨g, o, rfl, fun j f hj => ?_⟩
  obtain ⟨q0, q1, q2⟩ := h2 j f hj
  have lt0 := World.block_lt_of_cell? w _ q0
  exact ⟨(hb.cell (p := ⟨g, o + j * 3, none⟩) lt0).trans q0, (hb.cell (p := ⟨g, o + j * 3 + 1, none⟩) lt0).trans q1, (hb.cell (p := ⟨g, o + j * 3 + 2, none⟩) lt0).trans q2⟩
set_option maxRecDepth 100000 in
set_option maxHeartbeats 2000000 in
theorem LinkFair_walk (v : Value) (fs : List (Int × Int × Int)) (a1 : Int) (w : World) (w0 : Fates w v fs) (w1 : (Lit.int .i64 a1).wf = true) :
    Calls Try.prog 3 #[v, .int .i64 a1] w fun e w' => e = .returned (.bool true) ∧ Below w.heap.size w w' := by
  obtain ⟨c0, c1⟩ := bounds_i64 w1
  clear w1
  have W0 := Lib.hid w0
  obtain ⟨ad, cap, rfl, -⟩ := w0
  by_cases hbig : 300 < fs.length
  · go_enter Try.func3, Try.ntmps3
    go_wp2_with fail
    refine (awake_calls _).mono ?_
    rintro e w1 ⟨rfl, hb1⟩
    go_wp2_with fail
    refine (awake_calls _).mono ?_
    rintro e w2 ⟨rfl, hb2⟩
    go_wp2
    go_ret
    exact ⟨rfl, bn hb1 hb2⟩
  · by_cases hbn : 1099511627776 < a1
    · go_enter Try.func3, Try.ntmps3
      go_wp2_with fail
      refine (awake_calls _).mono ?_
      rintro e w1 ⟨rfl, hb1⟩
      go_wp2_with fail
      refine (awake_calls _).mono ?_
      rintro e w2 ⟨rfl, hb2⟩
      go_wp2
      go_ret
      exact ⟨rfl, bn hb1 hb2⟩
    · have hmore := fairGo_more a1 (fs.map (·.1)) 0
      have hself : ∀ b : Bool, (b == b) = true := by intro b; cases b <;> rfl
      go_enter Try.func3, Try.ntmps3
      go_wp2_with fail
      refine (awake_calls _).mono ?_
      rintro e w1 ⟨rfl, hb1⟩
      have W1 := Lib.hid (W0.out.mono hb1)
      go_wp2_with fail
      refine (Fair_calls w1 _ fs a1 W1.out (by omega) c0 c1).mono ?_
      rintro e w2 ⟨rfl, hb2⟩
      have W2 := Lib.hid (W1.out.mono hb2)
      go_wp2_with fail
      refine (Send_nil w2 _ 0 0 0).mono ?_
      rintro e w3 ⟨rfl, hb3⟩
      have W3 := Lib.hid (W2.out.mono hb3)
      go_wp2_with fail
      refine (Arrive_nil w3).mono ?_
      rintro e w4 ⟨rfl, rfl⟩
      go_wp2_with fail
      refine (RFair_calls w3 _ fs a1 W3.out (by omega) c0 c1).mono ?_
      rintro e w4 ⟨rfl, rfl⟩
      by_cases hF : fairGo a1 (fs.map (·.1)) 0 = true
      · have hF2 := Lib.hid (hmore hF)
        have HF := Lib.hid hF; clear hF hmore
        rw [HF.out]
        go_wp2_with fail
        refine (Fair_calls w3 _ fs (a1 + 1) W3.out (by omega) (by omega) (by omega)).mono ?_
        rintro e w5 ⟨rfl, hb5⟩
        rw [hF2.out]
        go_wp2_with fail
        refine (Len_nil w5).mono ?_
        rintro e w6 ⟨rfl, rfl⟩
        go_wp2_with fail
        refine (All_nil w5).mono ?_
        rintro e w6 ⟨rfl, rfl⟩
        go_wp2
        go_ret
        exact ⟨rfl, bn (bn (bn hb1 hb2) hb3) hb5⟩
      · have hF' : fairGo a1 (fs.map (·.1)) 0 = false := by simpa using hF
        have HF := Lib.hid hF'; clear hF hF' hmore
        rw [HF.out]
        go_wp2_with fail
        refine (Len_nil w3).mono ?_
        rintro e w6 ⟨rfl, rfl⟩
        go_wp2_with fail
        refine (All_nil w3).mono ?_
        rintro e w6 ⟨rfl, rfl⟩
        go_wp2
        go_ret
        exact ⟨rfl, bn (bn hb1 hb2) hb3⟩
theorem Strs.cell {w : World} {n cap : Nat} {ad : Option Addr} {xs : List ByteArray} (h : Strs w (.slice ad n cap) xs) (j : Nat) (hj : j < xs.length) : ∃ g o, ad = some ⟨g, o, none⟩ ∧ n = xs.length ∧ g < w.heap.size ∧ w.cell? ⟨g, o + j, none⟩ = some (.string xs[j]) := by
  obtain ⟨ad', cap', e, h⟩ := h
  cases e
  obtain ⟨g, o, rfl, h2⟩ := h (by intro e; rw [e] at hj; simp at hj)
  have := h2 j xs[j] (by simp [hj])
  exact ⟨g, o, rfl, rfl, World.block_lt_of_cell? w _ this, this⟩
set_option maxRecDepth 100000 in
set_option maxHeartbeats 2000000 in
theorem LinkWhole_walk (v : Value) (xs : List ByteArray) (w : World) (w0 : Strs w v xs) :
    Calls Try.prog 4 #[v] w fun e w' => e = .returned (.bool true) ∧ Below w.heap.size w w' := by
  have W0 := Lib.hid w0
  obtain ⟨ad, cap, rfl, -⟩ := w0
  by_cases hbig : 200 < xs.length
  · go_enter Try.func4, Try.ntmps4
    go_wp2_with fail
    refine (awake_calls _).mono ?_
    rintro e w1 ⟨rfl, hb1⟩
    go_wp2_with fail
    refine (awake_calls _).mono ?_
    rintro e w2 ⟨rfl, hb2⟩
    go_wp2
    go_ret
    exact ⟨rfl, bn hb1 hb2⟩
  · go_enter Try.func4, Try.ntmps4
    go_wp2_with fail
    refine (awake_calls _).mono ?_
    rintro e w1 ⟨rfl, hb1⟩
    go_wp2_with fail
    refine (New_calls _).mono ?_
    rintro e w2 ⟨rfl, rfl⟩
    have hb2 := (Below.refl w1.heap.size w1).alloc (Nat.le_refl _) (.cells #[.slice none 0 0, .slice none 0 0] 41)
    have L2 := Lib.hid (Lk.new w1 w1.heap.size (Nat.le_refl _))
    have hs1 := hb1.size
    generalize w1.alloc (.cells #[.slice none 0 0, .slice none 0 0] 41) = w2 at *
    generalize hl : w1.heap.size = l at *
    go_wp2_with fail
    go_loopw [23] (fun i wr => ∃ (j : Nat) (v : Value), j ≤ xs.length ∧ i = .int .i64 j ∧ Lk l l wr v (.slice none 0 0) (xs.take j) [] ∧ Below l w1 wr) (fun i _ => xs.length - (intOf i).toNat)
    case atStart => exact ⟨0, _, by omega, rfl, by simpa using L2.out, hb2⟩
    case round =>
      obtain ⟨j, v, hj, rfl, hL, hb⟩ := hrel
      by_cases hlt : j < xs.length
      · obtain ⟨g, o, rfl, -, hg, hc⟩ := W0.out.cell j hlt
        have hc1 := (hb.cell (p := ⟨g, o + j, none⟩) (show g < l by omega)).trans ((hb1.cell (p := ⟨g, o + j, none⟩) hg).trans hc)
        clear hc
        have htk : xs.take (j + 1) = xs.take j ++ [xs[j]] := List.take_succ_eq_append_getElem hlt
        have Htk := Lib.hid htk; clear htk
        generalize xs[j] = x at *
        have hLt : (xs.take j).length ≤ 1000 := by rw [List.length_take]; omega
        have HL := Lib.hid hL; clear hL
        go_wp2_with fail
        refine (Send_go wr l l v (xs.take j) x 0 0 HL.out hLt).mono ?_
        rintro e w3 ⟨rfl, hb3, v3, hL3⟩
        go_wp2
        exact ⟨⟨j + 1, v3, by omega, rfl, by rw [Htk.out]; exact hL3, hb.trans hb3⟩, by simp only [intOf]; omega⟩
      · have hjN : j = xs.length := by omega
        rw [List.take_of_length_le (by omega)] at hL
        subst hjN
        have HR := Lib.hid hL.read
        generalize hH : wr.heap.size = H at HR
        have lH : l < H := HR.out.lH
        clear hL
        go_wp2_with fail
        go_loopw [34] (fun i wr => ∃ (j : Nat) (v u : Value) (xs1 ys1 : List ByteArray), j ≤ xs.length ∧ i = .int .i64 j ∧ LkR l H l wr v u xs1 ys1 ∧ xs1 ++ ys1 = xs.drop j ∧ Below l w1 wr) (fun i _ => xs.length - (intOf i).toNat)
        case atStart => exact ⟨0, _, _, _, _, by omega, rfl, HR.out, by simp, hb⟩
        case round =>
          obtain ⟨j, v, u, xs1, ys1, hj, rfl, hL, hd, hb⟩ := hrel
          by_cases hlt : j < xs.length
          · obtain ⟨g, o, rfl, -, hg, hc⟩ := W0.out.cell j hlt
            have hc1 := (hb.cell (p := ⟨g, o + j, none⟩) (show g < l by omega)).trans ((hb1.cell (p := ⟨g, o + j, none⟩) hg).trans hc)
            clear hc
            have hzl : xs.drop j = xs[j] :: xs.drop (j + 1) := List.drop_eq_getElem_cons hlt
            have hlen : (((xs.drop (j + 1)).length : Nat) : Int) = (xs.length : Int) - j - 1 := by rw [List.length_drop]; omega
            have hle : (xs.drop (j + 1)).length ≤ 1000 := by rw [List.length_drop]; omega
            have Hd := Lib.hid (hd.trans hzl); clear hd hzl
            have Hlen := Lib.hid hlen; clear hlen
            have hself := str_refl xs[j]
            generalize xs[j] = x at *
            have HL := Lib.hid hL; clear hL
            go_wp2_with fail
            refine (Arrive_any wr l H l v u x (xs.drop (j + 1)) xs1 ys1 HL.out Hd.out (by omega)).mono ?_
            rintro e w3 ⟨rfl, hb3, ho3, v3, u3, xs3, ys3, hL3, hd3⟩
            have HL3 := Lib.hid hL3
            have hd3' := Lib.hid hd3; clear hd3
            go_wp2_with fail
            refine (HL3.out.len_any hd3'.out (by omega)).mono ?_
            rintro e w4 ⟨rfl, d4, rfl⟩
            rw [Hlen.out]
            have hq : (((xs.length : Int) - j - 1) == ((xs.length : Int) - j - 1)) = true := by simp
            go_wp2
            exact ⟨⟨j + 1, v3, u3, xs3, ys3, by omega, rfl, hL3.mono (below_drewN (Below.refl _ _) _), hd3'.out, below_drewN (hb.trans hb3) _⟩, by simp only [intOf]; omega⟩
          · have hd0 : xs1 ++ ys1 = [] := by rw [hd, List.drop_of_length_le (by omega)]
            obtain ⟨rfl, rfl⟩ := List.append_eq_nil_iff.1 hd0
            have HL := Lib.hid hL; clear hL hd hd0
            go_wp2_with fail
            refine (Arrive_none wr l H l v u HL.out).mono ?_
            rintro e w3 ⟨rfl, d3, rfl⟩
            go_wp2
            go_ret
            exact ⟨rfl, below_drewN (hb1.trans (hb.mono hs1)) _⟩
end Go.Proofs.Ythnddkcicpoboaa
