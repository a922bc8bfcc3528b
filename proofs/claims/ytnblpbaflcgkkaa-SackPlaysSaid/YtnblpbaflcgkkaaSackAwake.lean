/- The walks of the reference's Same and of the law's awake. -/
import Derived.Test.YtnblpbaflcgkkaaSackMerge
import Derived.Deep.QuietTactic
import Derived.Deep.AppendLies
namespace Go.Proofs.Ytnblpbaflcgkkaa
open Go.RowKit
set_option linter.unusedVariables false
set_option linter.unusedSimpArgs false
set_option maxHeartbeats 1000000 in
theorem Same_true (w : World) (xs : List Nat) (hn : xs.length ≤ 140737488351232) (g1 c1 g2 c2 : Nat) (h1 : ∀ (j : Nat) (x : Nat), xs[j]? = some x → w.cell? ⟨g1, j, none⟩ = some (.int .i64 (x : Int))) (h2 : ∀ (j : Nat) (x : Nat), xs[j]? = some x → w.cell? ⟨g2, j, none⟩ = some (.int .i64 (x : Int))) :
   Calls Try.prog 23 #[.slice (some ⟨g1, 0, none⟩) xs.length c1, .slice (some ⟨g2, 0, none⟩) xs.length c2] w fun e w' => e = .returned (.bool true) ∧ Below w.heap.size w w' := by
  have H1 := Lib.hid h1; clear h1
  have H2 := Lib.hid h2; clear h2
  have hq : ((xs.length : Int) == (xs.length : Int)) = true := by simp
  go_enter Try.func23, Try.ntmps23
  go_wp2
  go_loopw [5] (fun i wr => ∃ (j d : Nat), j ≤ xs.length ∧ i = .int .i64 j ∧ wr = w.drewN d) (fun i _ => xs.length - (intOf i).toNat)
  case atStart => exact ⟨0, 0, by omega, rfl, rfl⟩
  case round =>
    obtain ⟨j, d, hj, rfl, rfl⟩ := hrel
    by_cases hlt : j < xs.length
    · have e1 := H1.out j xs[j] (by simp [hlt])
      have e2 := H2.out j xs[j] (by simp [hlt])
      generalize xs[j] = x at e1 e2
      go_wp2
      go_quiet (fail)
      go_wp2
      exact ⟨⟨j + 1, _, by omega, rfl, rfl⟩, by simp only [intOf]; omega⟩
    · obtain rfl : j = xs.length := by omega
      go_wp2
      go_ret
      exact ⟨rfl, below_drewN (Below.refl _ _) _⟩
set_option maxHeartbeats 1000000 in
theorem Same_none (w : World) (a1 a2 : Option Addr) (c1 c2 : Nat) :
   Calls Try.prog 23 #[.slice a1 0 c1, .slice a2 0 c2] w fun e w' => e = .returned (.bool true) ∧ Below w.heap.size w w' := by
  go_enter Try.func23, Try.ntmps23
  go_wp2
  go_loopw [5] (fun i wr => i = .int .i64 0 ∧ wr = w) (fun i _ => 0)
  case atStart => exact ⟨rfl, rfl⟩
  case round =>
    obtain ⟨rfl, rfl⟩ := hrel
    go_wp2
    go_ret
    exact ⟨rfl, Below.refl _ _⟩
theorem intsV_get (l : List Nat) (j x : Nat) (h : l[j]? = some x) : (intsV l)[j]? = some (.int .i64 (x : Int)) := by unfold intsV; rw [List.getElem?_map, h]; rfl
def m5 : List Bool := [true, true, false, true, false]
set_option maxRecDepth 100000 in
set_option maxHeartbeats 8000000 in
theorem awake_calls (w : World) :
    Calls Try.prog 10 #[] w fun e w' => e = .returned (.bool true) ∧ Below w.heap.size w w' := by
  have ht8 : tellB [true, true, false, true, false] 8 = ⟨#[1]⟩ := by decide +kernel
  have ht2 : tellB [true, true, false, true, false] 2 = ⟨#[1]⟩ := by decide +kernel
  have hms : withB [false, false, false, false, false] (toldB 2 ⟨#[1]⟩) 5 = [true, true, false, true, false] := by decide +kernel
  have hmn : newB [false, false, false, false, false] (toldB 2 ⟨#[1]⟩) 5 = 3 := by decide +kernel
  have hmi : missB [true, true, false, true, false] 0 9 5 = [2, 4] := by decide +kernel
  go_enter Try.func10, Try.ntmps10
  go_wp2_with fail
  refine (New_calls _ 5 (by omega) (by omega)).mono ?_
  rintro e' w1 ⟨rfl, hm1, hb1, hsz1⟩
  have hgm : w.heap.size < w1.heap.size := by omega
  have hgem : w.heap.size ≤ w.heap.size := Nat.le_refl _
  have hc1 := hb1
  clear hb1 hsz1 hgm
  rw [show List.replicate 5 false = [false, false, false, false, false] from rfl] at hm1
  go_wp2_with fail
  refine (New_bad _ 0 (by omega)).mono ?_
  rintro e' w' ⟨rfl, rfl⟩
  go_wp2_with fail
  refine (Set_calls _ w.heap.size [false, false, false, false, false] 0 hm1).mono ?_
  rintro e' w2 ⟨rfl, hm2, hu2⟩
  rw [show setB [false, false, false, false, false] 0 = [true, false, false, false, false] from by decide] at hm2
  have hc2 := hc1.trans (hu2.below hgem)
  clear hm1 hc1 hu2
  rw [show newI [false, false, false, false, false] 0 = true from by decide]
  go_wp2_with fail
  refine (Set_calls _ w.heap.size [true, false, false, false, false] 1 hm2).mono ?_
  rintro e' w3 ⟨rfl, hm3, hu3⟩
  rw [show setB [true, false, false, false, false] 1 = [true, true, false, false, false] from by decide] at hm3
  have hc3 := hc2.trans (hu3.below hgem)
  clear hm2 hc2 hu3
  rw [show newI [true, false, false, false, false] 1 = true from by decide]
  go_wp2_with fail
  refine (Set_calls _ w.heap.size [true, true, false, false, false] 3 hm3).mono ?_
  rintro e' w4 ⟨rfl, hm4, hu4⟩
  rw [show setB [true, true, false, false, false] 3 = [true, true, false, true, false] from by decide] at hm4
  have hc4 := hc3.trans (hu4.below hgem)
  clear hm3 hc3 hu4
  rw [show newI [true, true, false, false, false] 3 = true from by decide]
  go_wp2_with fail
  refine (Set_calls _ w.heap.size [true, true, false, true, false] 3 hm4).mono ?_
  rintro e' w5 ⟨rfl, hm5, hu5⟩
  rw [show setB [true, true, false, true, false] 3 = [true, true, false, true, false] from by decide] at hm5
  have hc5 := hc4.trans (hu5.below hgem)
  clear hm4 hc4 hu5
  rw [show newI [true, true, false, true, false] 3 = false from by decide]
  go_wp2_with fail
  refine (New_calls _ 5 (by omega) (by omega)).mono ?_
  rintro e' w6 ⟨rfl, ho6, hb6, hsz6⟩
  have hgo : w5.heap.size < w6.heap.size := by omega
  have hm6 := hm5.below hb6
  have hnemo : w.heap.size ≠ w5.heap.size := Nat.ne_of_lt hm5.lt
  have hgeo : w.heap.size ≤ w5.heap.size := hc5.size
  have hc6 := bn hc5 hb6
  clear hm5 hc5 hb6 hsz6 hgo
  generalize w5.heap.size = go at *
  rw [show List.replicate 5 false = [false, false, false, false, false] from rfl] at ho6
  go_wp2_with fail
  refine (Base_calls _ w.heap.size _ hm6).mono ?_
  rintro e' w' ⟨rfl, rfl⟩
  rw [show baseB [true, true, false, true, false] = 2 from by decide]
  go_wp2_with fail
  refine (Behind_calls _ w.heap.size _ 8 hm6).mono ?_
  rintro e' w7 ⟨rfl, hb7⟩
  have hm7 := hm6.below hb7
  have ho7 := ho6.below hb7
  have hc7 := bn hc6 hb7
  clear hm6 ho6 hc6 hb7
  rw [ht8]
  go_wp2_with fail
  refine (Merge_calls _ go [false, false, false, false, false] 2 ⟨#[1]⟩ ho7 (by omega) (by omega) (by decide)).mono ?_
  rintro e' w8 ⟨rfl, ho8, hu8⟩
  have hm8 := hu8.mp (by omega) hm7
  have hc8 := hc7.trans (hu8.below hgeo)
  clear ho7 hm7 hc7 hu8
  rw [show ([false, false, false, false, false] : List Bool).length = 5 from rfl, hmn]
  rw [show ([false, false, false, false, false] : List Bool).length = 5 from rfl, hms] at ho8
  go_wp2_with fail
  refine (Base_calls _ w.heap.size _ hm8).mono ?_
  rintro e' w' ⟨rfl, rfl⟩
  rw [show baseB [true, true, false, true, false] = 2 from by decide]
  go_wp2_with fail
  refine (Count_calls _ w.heap.size _ hm8).mono ?_
  rintro e' w' ⟨rfl, rfl⟩
  rw [show List.count true [true, true, false, true, false] = 3 from by decide]
  go_wp2_with fail
  refine (Behind_calls _ w.heap.size _ 2 hm8).mono ?_
  rintro e' w9 ⟨rfl, hb9⟩
  have hm9 := hm8.below hb9
  have ho9 := ho8.below hb9
  have hc9 := bn hc8 hb9
  clear hm8 ho8 hc8 hb9
  rw [ht2]
  go_wp2_with fail
  refine (Has_calls _ go _ 3 ho9).mono ?_
  rintro e' w' ⟨rfl, rfl⟩
  rw [show hasB [true, true, false, true, false] 3 = true from by decide]
  go_wp2_with fail
  refine (Has_calls _ go _ 2 ho9).mono ?_
  rintro e' w' ⟨rfl, rfl⟩
  rw [show hasB [true, true, false, true, false] 2 = false from by decide]
  go_wp2_with fail
  refine (Missing_calls _ w.heap.size _ 0 9 hm9 (by omega)).mono ?_
  rintro e' w10 ⟨v, rfl, hown, hb10⟩
  rw [show ([true, true, false, true, false] : List Bool).length = 5 from rfl, hmi] at hown
  obtain ⟨gv, cv, rfl, hgv, hgl⟩ := hown.form (by decide)
  have hcv := hown.cells (g := gv) rfl
  have hm10 := hm9.below hb10
  have ho10 := ho9.below hb10
  have hc10 := bn hc9 hb10
  clear hm9 ho9 hc9 hb10
  have hbz := (Below.refl w10.heap.size w10).alloc (Nat.le_refl _) (.cells #[.int .i64 2, .int .i64 4] 3)
  have hnw := heap_alloc_new w10 (.cells #[.int .i64 2, .int .i64 4] 3)
  go_wp2_with fail
  have h1 : ∀ (j x : Nat), ([2, 4] : List Nat)[j]? = some x → (w10.alloc (.cells #[.int .i64 2, .int .i64 4] 3)).cell? ⟨gv, j, none⟩ = some (.int .i64 (x : Int)) := fun j x hx => by
    have h := hcv j _ (intsV_get _ j x hx)
    rw [Addr.add_lit, Nat.zero_add] at h
    exact (hbz.cell (p := ⟨gv, j, none⟩) hgl).trans h
  have h2 : ∀ (j x : Nat), ([2, 4] : List Nat)[j]? = some x → (w10.alloc (.cells #[.int .i64 2, .int .i64 4] 3)).cell? ⟨w10.heap.size, j, none⟩ = some (.int .i64 (x : Int)) := fun j x hx => by
    rw [cell_of_row _ _ j _ _ _ hnw]
    match j with
    | 0 => simp at hx; subst hx; rfl
    | 1 => simp at hx; subst hx; rfl
    | j + 2 => simp at hx
  have hm11 := hm10.below hbz
  have ho11 := ho10.below hbz
  have hc11 := bn hc10 hbz
  clear hm10 ho10 hc10 hbz
  generalize w10.alloc (.cells #[.int .i64 2, .int .i64 4] 3) = w11 at *
  refine (Same_true _ [2, 4] (by decide) gv cv _ 2 h1 h2).mono ?_
  rintro e' w12 ⟨rfl, hb12⟩
  have hm12 := hm11.below hb12
  have ho12 := ho11.below hb12
  have hc12 := bn hc11 hb12
  clear hm11 ho11 hc11 hb12
  go_wp2_with fail
  refine (Full_calls _ w.heap.size _ hm12).mono ?_
  rintro e' w13 ⟨rfl, hb13⟩
  have hm13 := hm12.below hb13
  have ho13 := ho12.below hb13
  have hc13 := bn hc12 hb13
  clear hm12 ho12 hc12 hb13
  rw [show decide (baseB [true, true, false, true, false] = ([true, true, false, true, false] : List Bool).length) = false from by decide]
  go_wp2_with fail
  refine (Len_calls _ w.heap.size _ hm13).mono ?_
  rintro e' w' ⟨rfl, rfl⟩
  go_wp2_with fail
  refine (Set_calls _ w.heap.size _ 5 hm13).mono ?_
  rintro e' w14 ⟨rfl, hm14, hu14⟩
  have ho14 := hu14.mp (by omega) ho13
  have hc14 := hc13.trans (hu14.below hgem)
  clear hm13 ho13 hc13 hu14
  rw [show newI [true, true, false, true, false] 5 = false from by decide]
  go_wp2
  go_ret
  exact ⟨rfl, hc14⟩
end Go.Proofs.Ytnblpbaflcgkkaa
