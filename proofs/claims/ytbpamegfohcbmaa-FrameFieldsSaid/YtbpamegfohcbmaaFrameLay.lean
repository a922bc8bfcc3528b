/- Numbers as bytes, the greatest first: the plain law, and the walks of lay and of the reference's number. -/
import Derived.Test.YtbpamegfohcbmaaFrameWalk
namespace Go.Proofs.Ytbpamegfohcbmaa
open Go.RowKit
set_option linter.unusedVariables false
set_option linter.unusedSimpArgs false
/-- So many bytes of a number, the greatest first. -/
def be (n : Nat) : Nat → List UInt8
  | 0 => []
  | k + 1 => UInt8.ofNat (n / 256 ^ k) :: be n k
theorem be_length (n : Nat) : ∀ k, (be n k).length = k
  | 0 => rfl
  | k + 1 => by rw [be, List.length_cons, be_length n k]
theorem be_snoc (n : Nat) : ∀ k, be n (k + 1) = be (n / 256) k ++ [UInt8.ofNat n]
  | 0 => by simp [be]
  | k + 1 => by
    rw [be, be_snoc n k, be, List.cons_append, Nat.div_div_eq_div_mul, Nat.pow_succ, Nat.mul_comm]
theorem bev_be (n : Nat) : ∀ k, bev (be n k) = n % 256 ^ k
  | 0 => by simp [be, bev, Nat.mod_one]
  | k + 1 => by
    have h : ∀ m k, bev (be m (k + 1)) = m % 256 ^ (k + 1) := by
      intro m k
      induction k generalizing m with
      | zero => rw [be_snoc, bev_snoc, UInt8.toNat_ofNat']; simp [be, bev]
      | succ k ih =>
        rw [be_snoc, bev_snoc, ih, UInt8.toNat_ofNat', Nat.pow_succ 256 (k + 1), Nat.mul_comm (256 ^ (k + 1)) 256, Nat.mod_mul]
        omega
    exact h n k
/-- What lay makes of a row. -/
def layL (l : List UInt8) (o m n : Nat) : List UInt8 := l.take o ++ be n m ++ l.drop (o + m)
theorem layL_length (l : List UInt8) (o m n : Nat) (h : o + m ≤ l.length) : (layL l o m n).length = l.length := by
  unfold layL; rw [List.length_append, List.length_append, be_length, List.length_take, List.length_drop]; omega
theorem layL_zero (l : List UInt8) (o m n : Nat) : layL l (o + m) 0 n = l := by unfold layL; simp [be]
theorem layL_step (l : List UInt8) (o j n : Nat) (h : o + 1 + j ≤ l.length) : (layL l (o + 1) j n).set o (UInt8.ofNat (n / 256 ^ j)) = layL l o (j + 1) n := by
  unfold layL
  have hl : (l.take o).length = o := by rw [List.length_take]; omega
  have h1 : l.take (o + 1) = l.take o ++ [l[o]] := List.take_succ_eq_append_getElem (by omega)
  rw [h1, List.append_assoc, List.append_assoc, List.set_append_right _ _ (by omega), hl, Nat.sub_self, List.singleton_append, List.set_cons_zero, be, List.append_assoc, show o + 1 + j = o + (j + 1) by omega]
  rfl
set_option maxRecDepth 100000 in
set_option maxHeartbeats 2000000 in
theorem lay_calls (w : World) (g o m cap n z : Nat) (l : List UInt8) (t : TypeId) (hg : w.heap[g]? = some (.cells (rowOf l z) t (0, 0))) (ho : o + m ≤ l.length) (hm : m ≤ 4) (hn : n < 4294967296) :
   Calls Try.prog 16 #[.slice (some ⟨g, o, none⟩) m cap, .int .i64 n] w fun e w' => e = .returned (.tuple #[]) ∧ (∀ B, B ≤ g → Below B w w') ∧ w'.heap.size = w.heap.size ∧ (∀ k, k ≠ g → w'.heap[k]? = w.heap[k]?) ∧ w'.heap[g]? = some (.cells (rowOf (layL l o m n) z) t (0, 0)) := by
  have H := Lib.hid hg; clear hg
  go_enter Try.func16, Try.ntmps16
  go_wp2
  go_loopw [1, 4] (fun x i wr => ∃ j : Nat, j ≤ m ∧ x = .int .i64 ((n / 256 ^ j : Nat) : Int) ∧ i = .int .i64 ((m : Int) - 1 - j) ∧ (∀ B, B ≤ g → Below B w wr) ∧ wr.heap.size = w.heap.size ∧ (∀ k, k ≠ g → wr.heap[k]? = w.heap[k]?) ∧ wr.heap[g]? = some (.cells (rowOf (layL l (o + (m - j)) j n) z) t (0, 0))) (fun _ i _ => (intOf i + 1).toNat)
  case atStart => exact ⟨0, by omega, by simp, by simp, fun B _ => Below.refl _ _, rfl, fun _ _ => rfl, by rw [Nat.sub_zero, layL_zero]; exact H.out⟩
  case round =>
    obtain ⟨j, hj, rfl, rfl, hbel, hsz, hfr, hh⟩ := hrel
    have HH := Lib.hid hh; clear hh
    have Hbel := Lib.hid hbel; clear hbel
    have Hfr := Lib.hid hfr; clear hfr
    have HS := Lib.hid hsz; clear hsz
    by_cases hlt : j < m
    · obtain ⟨i, hi⟩ : ∃ i, m - j = i + 1 := ⟨m - j - 1, by omega⟩
      have hix : (m : Int) - 1 - j = (i : Int) := by omega
      rw [hi] at HH
      have hL : o + i < (layL l (o + (i + 1)) j n).length := by rw [layL_length _ _ _ _ (by omega)]; omega
      have hcell : wr.cell? ⟨g, o + i, none⟩ = some (.int .u8 ((layL l (o + (i + 1)) j n)[o + i].toNat : Int)) := by
        rw [cell_of_row wr _ _ _ _ _ HH.out, rowOf_get _ _ _ hL]
      have hfz : wr.frozen? ⟨g, o + i, none⟩ = false := by simp [World.frozen?, HH.out]
      have hst := layL_step l (o + i) j n (by omega)
      have hset := heap_setCell_fr wr g (o + i) _ _ _ (.int .u8 ((UInt8.ofNat (n / 256 ^ j)).toNat : Int)) HH.out
      rw [rowOf_set _ _ _ _ hL, show o + (i + 1) = o + i + 1 by omega, hst] at hset
      have Hset := Lib.hid hset; clear hset hst
      have hd : n / 256 ^ j / 256 = n / 256 ^ (j + 1) := by rw [Nat.div_div_eq_div_mul, Nat.pow_succ]
      have Hd := Lib.hid hd; clear hd
      have hq : n / 256 ^ j < 4294967296 := Nat.lt_of_le_of_lt (Nat.div_le_self _ _) hn
      have hby : (((n / 256 ^ j : Nat) : Int) % 256) = ((UInt8.ofNat (n / 256 ^ j)).toNat : Int) := by rw [UInt8.toNat_ofNat']; simp
      have Hby := Lib.hid hby; clear hby
      generalize n / 256 ^ j = q at hq Hset Hd Hby ⊢
      rw [hix]
      have hio : i < m := by omega
      have hc2 : ∃ c : Int, wr.cell? ⟨g, o + i, none⟩ = some (.int .u8 c) := ⟨_, hcell⟩
      clear hcell hL
      obtain ⟨c0, hcell⟩ := hc2
      go_wp2
      rw [Hby.out]
      have e1 : (i : Int) - 1 = (m : Int) - 1 - ((j + 1 : Nat) : Int) := by omega
      have e2 : ((q : Int) / 256) = ((n / 256 ^ (j + 1) : Nat) : Int) := by rw [← Hd.out]; simp
      have e3 : o + (m - (j + 1)) = o + i := by omega
      refine ⟨⟨j + 1, by omega, by rw [← e2], by rw [e1], fun B hB => (Hbel.out B hB).setCell hB _, by simpa using HS.out, fun k hk => (heap_setCell_other _ _ _ _ hk).trans (Hfr.out k hk), by rw [e3]; exact Hset.out⟩, by simp only [intOf]; omega⟩
    · have e : j = m := by omega
      subst e
      rw [Nat.sub_self, Nat.add_zero] at HH
      have hneg : (j : Int) - 1 - j = -1 := by omega
      rw [hneg]
      go_wp2
      go_returns
      exact ⟨rfl, Hbel.out, HS.out, Hfr.out, HH.out⟩
end Go.Proofs.Ytbpamegfohcbmaa
