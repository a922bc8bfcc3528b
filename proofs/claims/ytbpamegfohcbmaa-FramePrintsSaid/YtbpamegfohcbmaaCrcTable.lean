/- The walks of crc (package crc, and its reference): what each Go function answers, in any memory. -/
import Derived.Test.YtbpamegfohcbmaaLib
import Derived.Test.YtbpamegfohcbmaaCrcMath
namespace Go.Proofs.Ytbpamegfohcbmaa
open Go.RowKit

def z256 : Array Value := Array.replicate 256 (.int .u32 0)
theorem alloc256 (w : World) : (Instr.alloc 54 true (.tuple #[])).run Try.prog w = .ok (.pointer (some ⟨w.heap.size, 0, none⟩)) (w.alloc (.cells z256 54)) := by kernel_rfl
theorem exec_alloc256 (ρ : Operand → Value) (o : Oper) (ho : o.op = .alloc 54) (w : World) : (execOp ρ o).run Try.prog w = .ok (.value (.pointer (some ⟨w.heap.size, 0, none⟩))) (w.alloc (.cells z256 54)) := by
  simp only [execOp, ho, Sem.run_bind, alloc256]
  simp [Result.andThen]

def tcell (k j : Nat) : Value := .int .u32 ((if j < k then tab j else 0 : Nat) : Int)
def tcells (k : Nat) : Array Value := ((List.range 256).map (tcell k)).toArray
theorem tcells_size (k : Nat) : (tcells k).size = 256 := by simp [tcells]
theorem tcells_get (k j : Nat) (h : j < 256) : (tcells k)[j]? = some (tcell k j) := by simp [tcells, h]
theorem tcells_set (k : Nat) : (tcells k).setIfInBounds k (.int .u32 (tab k : Nat)) = tcells (k + 1) := by
  apply Array.ext_getElem?
  intro j
  rw [Array.getElem?_setIfInBounds]
  by_cases h : j < 256
  · rw [tcells_get _ _ h]
    by_cases e : k = j
    · subst e; rw [if_pos rfl, if_pos (by rw [tcells_size]; exact h), tcells_get _ _ h]; simp [tcell]
    · have : (j < k + 1) = (j < k) := by simp; omega
      simp [e, tcells_get _ _ h, tcell, this]
  · have e1 : (tcells (k+1))[j]? = none := by simp [tcells_size]; omega
    have e2 : (tcells k)[j]? = none := by simp [tcells_size]; omega
    rw [e1, e2]
    simp [tcells_size]; omega

theorem and1_u32 (x : Nat) (h : x < 4294967296) : bits .and .u32 (x : Int) 1 = ((x % 2 : Nat) : Int) := by
  rw [u32_and x 1 (by omega) (by omega) (by omega) (by omega)]
  simp
theorem odd_of {x : Nat} (h : x < 4294967296) (t : (bits .and .u32 (x : Int) 1 == 1) = true) : x % 2 = 1 := by
  rw [and1_u32 x h] at t; simp at t; omega
theorem even_of {x : Nat} (h : x < 4294967296) (t : (bits .and .u32 (x : Int) 1 == 1) = false) : x % 2 ≠ 1 := by
  rw [and1_u32 x h] at t; simp at t; omega
theorem T_odd {x : Nat} (h : x < 4294967296) (t : x % 2 = 1) : bits .xor .u32 ((x : Int) / 2) 3988292384 = ((T x : Nat) : Int) := by
  rw [u32_xor _ _ (by omega) (by omega) (by omega) (by omega)]
  have : ((x : Int) / 2).toNat = x / 2 := by omega
  simp [this, T, t]
theorem T_even {x : Nat} (t : x % 2 ≠ 1) : ((x : Int) / 2) = ((T x : Nat) : Int) := by
  simp [T, t]

theorem tcells0 : tcells 0 = z256 := by kernel_rfl
set_option maxRecDepth 100000 in
set_option maxHeartbeats 400000 in
theorem Table_calls (w : World) :
   Calls Try.prog 29 #[] w fun e w' => e = .returned (.agg (tcells 256)) ∧ Below w.heap.size w w' := by
  go_enter Try.func29, Try.ntmps29
  go_wp2_with (with_reducible refine wpList_run rfl (exec_alloc256 _ _ rfl _) ?_)
  go_loopw [5] (fun i wr => ∃ k : Nat, k ≤ 256 ∧ i = .int .i64 k ∧ wr = w.alloc (.cells (tcells k) 54)) (fun i _ => 256 - (intOf i).toNat)
  case atStart => exact ⟨0, by omega, rfl, by rw [tcells0]⟩
  case round =>
    obtain ⟨k, hk, rfl, rfl⟩ := hrel
    by_cases hlt : k < 256
    · have hd : decide ((k : Int) < 256) = true := by simp; omega
      go_wp2_with fail
      refine wp_scope_jumps 0 (fun a' w' => w' = w.alloc (.cells (tcells k) 54) ∧ ∃ c : Nat, 1 ≤ c ∧ c < 8 ∧ ∃ (u4 u8 u9 u10 u11 u12 u13 u14 u15 u16 u17 u18 u19 u20 u21 : Value), a' = { tmps := #[.pointer (some ⟨w.heap.size, 0, none⟩), .int .i64 k, .int .u32 (Tn c k : Nat), .int .i64 c, u4, .int .i64 k, .bool true, .int .i64 k, u8, u9, u10, u11, u12, u13, u14, u15, u16, u17, u18, u19, u20, u21, u22, u23, u24, u25, undef], defers := [] }) (fun a' _ => 8 - (intOf (a'.tmps.getD 3 undef)).toNat) rfl ?_ ?_
      · by_cases hp : k % 2 = 1
        · have hpar : (bits .and .u32 (k : Int) 1 == 1) = true := by rw [and1_u32 k (by omega)]; simp; omega
          go_wp2
          go_step3
          go_wp2
          go_step3
          rw [T_odd (by omega) hp]
          exact ⟨rfl, rfl, 1, by omega, by omega, _, _, _, _, _, _, _, _, _, _, _, _, _, _, _, rfl⟩
        · have hpar : (bits .and .u32 (k : Int) 1 == 1) = false := by rw [and1_u32 k (by omega)]; simp; omega
          go_wp2
          go_step3
          go_wp2
          go_step3
          rw [T_even hp]
          exact ⟨rfl, rfl, 1, by omega, by omega, _, _, _, _, _, _, _, _, _, _, _, _, _, _, _, rfl⟩
      · rintro a' w' ⟨rfl, c, h1, h2, u4, u8, u9, u10, u11, u12, u13, u14, u15, u16, u17, u18, u19, u20, u21, rfl⟩
        have hx := Tn_lt c k (by omega)
        by_cases h7 : c < 7
        · have hc : decide ((c : Int) + 1 < 8) = true := by simp; omega
          by_cases hp : Tn c k % 2 = 1
          · have hpar : (bits .and .u32 (Tn c k : Int) 1 == 1) = true := by rw [and1_u32 _ (by omega)]; simp; omega
            go_wp2
            go_step3
            rw [T_odd hx hp]
            exact ⟨rfl, ⟨rfl, c + 1, by omega, by omega, _, _, _, _, _, _, _, _, _, _, _, _, _, _, _, rfl⟩, by simp [intOf]; omega⟩
          · have hpar : (bits .and .u32 (Tn c k : Int) 1 == 1) = false := by rw [and1_u32 _ (by omega)]; simp; omega
            go_wp2
            go_step3
            rw [T_even hp]
            exact ⟨rfl, ⟨rfl, c + 1, by omega, by omega, _, _, _, _, _, _, _, _, _, _, _, _, _, _, _, rfl⟩, by simp [intOf]; omega⟩
        · obtain rfl : c = 7 := by omega
          have hget := tcells_get k k hlt
          by_cases hp : Tn 7 k % 2 = 1
          · have hpar : (bits .and .u32 (Tn 7 k : Int) 1 == 1) = true := by rw [and1_u32 _ (by omega)]; simp; omega
            go_wp2
            simp only [Exit.jump]
            go_wp2
            go_roundw
            case rel => exact ⟨k + 1, by omega, by go_num, by rw [T_odd hx hp, ← tcells_set k]; rfl⟩
            case measure => simp [intOf]; omega
          · have hpar : (bits .and .u32 (Tn 7 k : Int) 1 == 1) = false := by rw [and1_u32 _ (by omega)]; simp; omega
            go_wp2
            simp only [Exit.jump]
            go_wp2
            go_roundw
            case rel => exact ⟨k + 1, by omega, by go_num, by rw [T_even hp, ← tcells_set k]; rfl⟩
            case measure => simp [intOf]; omega
    · obtain rfl : k = 256 := by omega
      have hg := heap_alloc_new w (.cells (tcells 256) 54)
      go_wp2_with (with_reducible refine wpList_mark (o := ⟨some 26, _, _, _, _, _⟩) ?_)
      refine Marked.intro ?_
      refine wpList_run rfl (exec_load_row _ 54 (.tmp 0) (by rfl) _ w.heap.size 54 (tcells 256) (0, 0) (by rfl) _ Try.underlying54 rfl (by rw [tcells_size]; kernel_rfl) hg) ?_
      refine wpList_do rfl (exec_store_row _ 54 (.tmp 0) (.tmp 26) (by rfl) _ w.heap.size 54 (tcells 256) (tcells 256) (by rfl) (by rfl) (by rw [tcells_size]; kernel_rfl) rfl (by simp [tcells, tcell, Value.oneCell']) hg) ?_
      rw [setRow_self _ _ _ _ _ hg]
      go_wp2
      exact bodyPost_ret (results_cell_row rfl _ _ w.heap.size 54 (tcells 256) (0, 0) _ rfl hg Try.underlying54 rfl (by rw [tcells_size]; kernel_rfl)) rfl ⟨rfl, (Below.refl _ _).alloc (Nat.le_refl _) _⟩
end Go.Proofs.Ytbpamegfohcbmaa
