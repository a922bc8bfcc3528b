/- awake of the links' laws: it answers true. -/
import Derived.Test.YthnddkcicpoboaaLinkRef
import Derived.Test.YthnddkcicpoboaaLinkAll
import Derived.Test.YthnddkcicpoboaaLinkTwice
namespace Go.Proofs.Ythnddkcicpoboaa
open Go.RowKit
set_option linter.unusedVariables false
set_option linter.unusedSimpArgs false
def sb (n : UInt8) : ByteArray := ⟨#[n]⟩
theorem Lk.form2 {B l : Nat} {w : World} {v u : Value} {xs ys : List ByteArray} (h : Lk B l w v u xs ys) (hy : 0 < ys.length) : ∃ gu cu, u = .slice (some ⟨gu, 0, none⟩) ys.length cu := by
  obtain ⟨g, cap, h1, -, -⟩ := h.own2.form hy
  exact ⟨g, cap, h1⟩
theorem fates2 (w : World) (k1 k2 : Int) : Fates (w.alloc (.cells #[.int .i64 k1, .int .i64 0, .int .u32 0, .int .i64 k2, .int .i64 0, .int .u32 0] 29)) (.slice (some ⟨w.heap.size, 0, none⟩) 2 2) [(k1, 0, 0), (k2, 0, 0)] := by
  have h := heap_alloc_new w (.cells #[.int .i64 k1, .int .i64 0, .int .u32 0, .int .i64 k2, .int .i64 0, .int .u32 0] 29)
  refine ⟨_, _, rfl, fun _ => ⟨w.heap.size, 0, rfl, fun j f hj => ?_⟩⟩
  unfold FateAt
  rw [cell_of_row _ _ _ _ _ _ h, cell_of_row _ _ _ _ _ _ h, cell_of_row _ _ _ _ _ _ h]
  match j, hj with
  | 0, hj => obtain rfl := Option.some.inj hj; exact ⟨rfl, rfl, rfl⟩
  | 1, hj => obtain rfl := Option.some.inj hj; exact ⟨rfl, rfl, rfl⟩
set_option maxRecDepth 100000 in
set_option maxHeartbeats 4000000 in
theorem awake_calls (w : World) :
   Calls Try.prog 6 #[] w fun e w' => e = .returned (.bool true) ∧ Below w.heap.size w w' := by
  go_enter Try.func6, Try.ntmps6
  go_wp2_with fail
  refine (New_calls _).mono ?_
  rintro e w1 ⟨rfl, rfl⟩
  have hb1 := (Below.refl w.heap.size w).alloc (Nat.le_refl _) (.cells #[.slice none 0 0, .slice none 0 0] 41)
  have L1 := Lib.hid (Lk.new w w.heap.size (Nat.le_refl _))
  generalize w.alloc (.cells #[.slice none 0 0, .slice none 0 0] 41) = w1 at *
  generalize hl : w.heap.size = l at *
  go_wp2_with fail
  refine (Send_late w1 l l _ _ [] [] (sb 97) 0 0 L1.out (by simp)).mono ?_
  rintro e w2 ⟨rfl, hb2, u2, L2⟩
  obtain ⟨gu, cu, rfl⟩ := L2.form2 (by simp)
  have L2 := Lib.hid L2
  go_wp2_with fail
  refine (Send_flush w2 l l _ gu cu [] ([] ++ [sb 97]) (sb 98) 0 0 L2.out (by simp) (by simp) (by simp)).mono ?_
  rintro e w3 ⟨rfl, hb3, v3, L3⟩
  have L3 := Lib.hid L3
  go_wp2_with fail
  refine (Send_twice w3 l l v3 _ (sb 99) 0 0 L3.out (by simp)).mono ?_
  rintro e w4 ⟨rfl, hb4, v4, L4⟩
  have L4 := Lib.hid L4
  go_wp2_with fail
  refine (Send_drop w4 l (sb 100) 0 0).mono ?_
  rintro e w5 ⟨rfl, hb5⟩
  have L5 := Lib.hid (L4.out.mono hb5)
  have hb5' := hb5.mono (Nat.le_of_lt (Nat.lt_of_le_of_lt (Nat.le_refl l) L4.out.lt))
  go_wp2_with fail
  refine (Send_late w5 l l _ _ _ _ (sb 101) 0 0 L5.out (by simp)).mono ?_
  rintro e w6 ⟨rfl, hb6, u6, L6⟩
  have L6 := Lib.hid L6.read
  have hz : Hid ([] ++ [sb 98] ++ ([] ++ [sb 97]) ++ [sb 99] ++ [sb 99] ++ ([] ++ [sb 101]) = [sb 98, sb 97, sb 99, sb 99, sb 101]) := Lib.hid rfl
  go_wp2_with fail
  refine (L6.out.len_any hz.out (by simp)).mono ?_
  rintro e w7 ⟨rfl, d7, rfl⟩
  have L7 := Lib.hid (L6.out.mono (below_drewN (Below.refl _ _) d7))
  go_wp2_with fail
  refine (All_calls _ l _ l _ _ _ _ _ L7.out hz.out (by simp) (by have := L6.out.lH; omega)).mono ?_
  rintro e w8 ⟨o8, rfl, hb8, own8, v8, u8, L8⟩
  obtain ⟨g8, cap8, rfl, hg8, hg8'⟩ := own8.form (by simp)
  have c8 := Lib.hid (own8.cells (g := g8) rfl)
  have hbS := (Below.refl w8.heap.size w8).alloc (Nat.le_refl _) (.cells #[.string (sb 98), .string (sb 97), .string (sb 99), .string (sb 99), .string (sb 101)] 9)
  have hS := heap_alloc_new w8 (.cells #[.string (sb 98), .string (sb 97), .string (sb 99), .string (sb 99), .string (sb 101)] 9)
  have ca : ∀ (j : Nat) x, [sb 98, sb 97, sb 99, sb 99, sb 101][j]? = some x → (w8.alloc (.cells #[.string (sb 98), .string (sb 97), .string (sb 99), .string (sb 99), .string (sb 101)] 9)).cell? ⟨g8, j, none⟩ = some (.string x) := fun j x hx => by
    rw [hbS.cell hg8']
    have := c8.out j (.string x) (by rw [List.getElem?_map, hx]; rfl)
    rwa [Addr.add_lit, Nat.zero_add] at this
  have cb : ∀ (j : Nat) x, [sb 98, sb 97, sb 99, sb 99, sb 101][j]? = some x → (w8.alloc (.cells #[.string (sb 98), .string (sb 97), .string (sb 99), .string (sb 99), .string (sb 101)] 9)).cell? ⟨w8.heap.size, j, none⟩ = some (.string x) := fun j x hx => by
    rw [cell_of_row _ _ j _ _ _ hS]
    match j, hx with
    | 0, hx => obtain rfl := Option.some.inj hx; rfl
    | 1, hx => obtain rfl := Option.some.inj hx; rfl
    | 2, hx => obtain rfl := Option.some.inj hx; rfl
    | 3, hx => obtain rfl := Option.some.inj hx; rfl
    | 4, hx => obtain rfl := Option.some.inj hx; rfl
  have Ca := Lib.hid ca; clear ca
  have Cb := Lib.hid cb; clear cb
  clear hS own8
  have L9 := Lib.hid (L8.mono ((hbS.mono (Nat.le_trans L8.HW (Nat.le_refl _)))))
  clear L8 hz
  go_wp2_with fail
  refine (Same_true _ [sb 98, sb 97, sb 99, sb 99, sb 101] (by simp) g8 cap8 w8.heap.size 5 Ca.out Cb.out).mono ?_
  rintro e w9 ⟨rfl, hb9⟩
  have L10 := Lib.hid (L9.out.mono (hb9.mono L9.out.HW))
  go_wp2_with fail
  refine (L10.out.len (by simp) (by simp)).mono ?_
  rintro e w10 ⟨rfl, d10, rfl⟩
  go_wp2_with fail
  refine (Hurt_cut _).mono ?_
  rintro e w11 ⟨rfl, hb11⟩
  rw [show sa = ⟨#[97]⟩ from rfl]
  go_wp2_with fail
  refine (Hurt_flip _).mono ?_
  rintro e w12 ⟨rfl, hb12⟩
  go_wp2_with fail
  refine (Fair_calls _ _ _ 2 (fates2 w12 1 0) (by simp) (by omega) (by omega)).mono ?_
  rintro e w13 ⟨rfl, hb13⟩
  rw [show fairGo 2 (List.map (·.1) [((1 : Int), (0 : Int), (0 : Int)), (0, 0, 0)]) 0 = true from by decide]
  have hbF1 := (Below.refl w12.heap.size w12).alloc (Nat.le_refl _) (.cells #[.int .i64 1, .int .i64 0, .int .u32 0, .int .i64 0, .int .i64 0, .int .u32 0] 29)
  have hbF := hbF1.trans (hb13.mono hbF1.size)
  clear hb13 hbF1
  go_wp2_with fail
  refine (Fair_calls _ _ _ 2 (fates2 w13 1 5) (by simp) (by omega) (by omega)).mono ?_
  rintro e w14 ⟨rfl, hb14⟩
  rw [show fairGo 2 (List.map (·.1) [((1 : Int), (0 : Int), (0 : Int)), (5, 0, 0)]) 0 = false from by decide]
  have hbF2 := (Below.refl w13.heap.size w13).alloc (Nat.le_refl _) (.cells #[.int .i64 1, .int .i64 0, .int .u32 0, .int .i64 5, .int .i64 0, .int .u32 0] 29)
  have hbG := hbF2.trans (hb14.mono hbF2.size)
  go_wp2
  go_ret
  have b6 := ((((hb1.trans hb2).trans hb3).trans hb4).trans hb5').trans hb6
  have b8 := (below_drewN b6 d7).trans hb8
  subst hl
  have b9 := bn (bn b8 hbS) hb9
  have b10 := below_drewN b9 d10
  exact ⟨rfl, bn (bn (bn (bn b10 hb11) hb12) hbF) hbG⟩
end Go.Proofs.Ythnddkcicpoboaa
