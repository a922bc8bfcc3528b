/- Whether fates are fair: the plain law, and the walks of link.Fair and of its reference. -/
import Derived.Test.YthnddkcicpoboaaLinkWalk
namespace Go.Proofs.Ythnddkcicpoboaa
open Go.RowKit
set_option linter.unusedVariables false
set_option linter.unusedSimpArgs false
/-- No row of n that don't come whole. -/
def fairGo (n : Int) : List Int → Nat → Bool
  | [], _ => true
  | k :: ks, row => if n ≤ (if k = 1 ∨ k = 4 ∨ k = 5 then (row : Int) + 1 else 0) then false else fairGo n ks (if k = 1 ∨ k = 4 ∨ k = 5 then row + 1 else 0)
theorem fairGo_more (n : Int) : ∀ (ks : List Int) (row : Nat), fairGo n ks row = true → fairGo (n + 1) ks row = true
  | [], _, _ => rfl
  | k :: ks, row, h => by
    unfold fairGo at h ⊢
    by_cases c : n ≤ (if k = 1 ∨ k = 4 ∨ k = 5 then (row : Int) + 1 else 0)
    · rw [if_pos c] at h; cases h
    · rw [if_neg c] at h
      rw [if_neg (by omega)]
      exact fairGo_more n ks _ h
/-- Fates in memory. -/
def FateAt (w : World) (g o : Nat) (f : Int × Int × Int) : Prop :=
  w.cell? ⟨g, o, none⟩ = some (.int .i64 f.1) ∧ w.cell? ⟨g, o + 1, none⟩ = some (.int .i64 f.2.1) ∧ w.cell? ⟨g, o + 2, none⟩ = some (.int .u32 f.2.2)
def Fates (w : World) (v : Value) (fs : List (Int × Int × Int)) : Prop :=
  ∃ ad cap, v = .slice ad fs.length cap ∧ (fs ≠ [] → ∃ g o, ad = some ⟨g, o, none⟩ ∧ ∀ (j : Nat) f, fs[j]? = some f → FateAt w g (o + j * 3) f)
set_option maxRecDepth 100000 in
set_option maxHeartbeats 2000000 in
theorem Fair_calls (w : World) (v : Value) (fs : List (Int × Int × Int)) (n : Int) (h : Fates w v fs) (hn : fs.length ≤ 1000000) (h1 : -9223372036854775808 ≤ n) (h2 : n ≤ 9223372036854775807) :
   Calls Try.prog 7 #[v, .int .i64 n] w fun e w' => e = .returned (.bool (fairGo n (fs.map (·.1)) 0)) ∧ Below w.heap.size w w' := by
  obtain ⟨ad, cap, rfl, hs⟩ := h
  have Hs := Lib.hid hs; clear hs
  generalize hF : fairGo n (fs.map (·.1)) 0 = F
  have HF := Lib.hid hF; clear hF
  go_enter Try.func7, Try.ntmps7
  go_wp2_with fail
  go_loopw [5, 10] (fun row i wr => ∃ (j r : Nat), j ≤ fs.length ∧ r ≤ j ∧ row = .int .i64 r ∧ i = .int .i64 j ∧ Hid (fairGo n ((fs.map (·.1)).drop j) r = F) ∧ Below w.heap.size w wr) (fun _ i _ => fs.length - (intOf i).toNat)
  case atStart => exact ⟨0, 0, by omega, by omega, rfl, rfl, HF, Below.refl _ _⟩
  case round =>
    obtain ⟨j, r, hj, hr, rfl, rfl, hd, hb⟩ := hrel
    by_cases hlt : j < fs.length
    · obtain ⟨g, o, rfl, hc⟩ := Hs.out (by intro e; rw [e] at hlt; simp at hlt)
      have hcj := hc j fs[j] (by simp [hlt])
      have hdr : fairGo n (fs[j].1 :: (fs.map (·.1)).drop (j + 1)) r = F := by
        rw [← hd.out, List.drop_eq_getElem_cons (i := j) (by rw [List.length_map]; exact hlt), List.getElem_map]
      generalize fs[j] = f at hcj hdr
      obtain ⟨k, m, b⟩ := f
      obtain ⟨q0, q1, q2⟩ := hcj
      have lt0 := World.block_lt_of_cell? w _ q0
      have r0 := (hb.cell (p := ⟨g, o + j * 3, none⟩) lt0).trans q0
      have r1 := (hb.cell (p := ⟨g, o + j * 3 + 1, none⟩) lt0).trans q1
      have r2 := (hb.cell (p := ⟨g, o + j * 3 + 2, none⟩) lt0).trans q2
      clear q0 q1 q2 hc hd
      have Hdr := Lib.hid hdr; clear hdr
      have hbs := hb.size
      simp only at r0 r1 r2
      by_cases hk : k = 1 ∨ k = 4 ∨ k = 5
      · by_cases c : n ≤ (r : Int) + 1
        · have hf : Hid (F = false) := Lib.hid (by rw [← Hdr.out]; unfold fairGo; rw [if_pos hk, if_pos c])
          rcases hk with rfl | rfl | rfl <;>
          · go_wp2
            go_ret
            exact ⟨by rw [hf.out]; rfl, hb.alloc hbs _⟩
        · have hf : Hid (fairGo n ((fs.map (·.1)).drop (j + 1)) (r + 1) = F) := Lib.hid (by rw [← Hdr.out, fairGo, if_pos hk, if_neg c, if_pos hk])
          rcases hk with rfl | rfl | rfl <;>
          · go_wp2
            exact ⟨⟨j + 1, r + 1, by omega, by omega, rfl, rfl, hf, hb.alloc hbs _⟩, by simp only [intOf]; omega⟩
      · have k1 : (k == 1) = false := by simp; omega
        have k4 : (k == 4) = false := by simp; omega
        have k5 : (k == 5) = false := by simp; omega
        by_cases c : n ≤ 0
        · have hf : Hid (F = false) := Lib.hid (by rw [← Hdr.out]; unfold fairGo; rw [if_neg hk, if_pos c])
          clear hk
          go_wp2
          go_ret
          exact ⟨by rw [hf.out]; rfl, hb.alloc hbs _⟩
        · have hf : Hid (fairGo n ((fs.map (·.1)).drop (j + 1)) 0 = F) := Lib.hid (by rw [← Hdr.out, fairGo, if_neg hk, if_neg c, if_neg hk])
          clear hk
          go_wp2
          exact ⟨⟨j + 1, 0, by omega, by omega, rfl, rfl, hf, hb.alloc hbs _⟩, by simp only [intOf]; omega⟩
    · have hf : Hid (F = true) := Lib.hid (by rw [← hd.out, List.drop_of_length_le (by simp; omega)]; rfl)
      obtain rfl : j = fs.length := by omega
      go_wp2
      go_ret
      exact ⟨by rw [hf.out]; rfl, hb⟩
end Go.Proofs.Ythnddkcicpoboaa
