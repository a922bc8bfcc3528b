/- The walks of crc (package crc, and its reference): what each Go function answers, in any memory. -/
import Derived.Test.YthnddkcicpoboaaLib
import Derived.Test.YthnddkcicpoboaaCrcMath
namespace Go.Proofs.Ythnddkcicpoboaa
open Go.RowKit

def z256 : Array Value := Array.replicate 256 (.int .u32 0)
def tcell (k j : Nat) : Value := .int .u32 ((if j < k then tab j else 0 : Nat) : Int)
def tcells (k : Nat) : Array Value := ((List.range 256).map (tcell k)).toArray
theorem tcells_size (k : Nat) : (tcells k).size = 256 := by simp [tcells]
theorem tcells_get (k j : Nat) (h : j < 256) : (tcells k)[j]? = some (tcell k j) := by simp [tcells, h]
theorem tcells_set (k : Nat) : (tcells k).setIfInBounds k (.int .u32 (tab k : Nat)) = tcells (k + 1) := by
  apply Array.ext_getElem?
  intro j
  rw [Array.getElem?_setIfInBounds]
  by_cases h : j < 256
  · rw [tcells_get _ _ h]
    by_cases e : k = j
    · subst e; rw [if_pos rfl, if_pos (by rw [tcells_size]; exact h), tcells_get _ _ h]; simp [tcell]
    · have : (j < k + 1) = (j < k) := by simp; omega
      simp [e, tcells_get _ _ h, tcell, this]
  · have e1 : (tcells (k+1))[j]? = none := by simp [tcells_size]; omega
    have e2 : (tcells k)[j]? = none := by simp [tcells_size]; omega
    rw [e1, e2]
    simp [tcells_size]; omega

theorem and1_u32 (x : Nat) (h : x < 4294967296) : bits .and .u32 (x : Int) 1 = ((x % 2 : Nat) : Int) := by
  rw [u32_and x 1 (by omega) (by omega) (by omega) (by omega)]
  simp
theorem odd_of {x : Nat} (h : x < 4294967296) (t : (bits .and .u32 (x : Int) 1 == 1) = true) : x % 2 = 1 := by
  rw [and1_u32 x h] at t; simp at t; omega
theorem even_of {x : Nat} (h : x < 4294967296) (t : (bits .and .u32 (x : Int) 1 == 1) = false) : x % 2 ≠ 1 := by
  rw [and1_u32 x h] at t; simp at t; omega
theorem T_odd {x : Nat} (h : x < 4294967296) (t : x % 2 = 1) : bits .xor .u32 ((x : Int) / 2) 3988292384 = ((T x : Nat) : Int) := by
  rw [u32_xor _ _ (by omega) (by omega) (by omega) (by omega)]
  have : ((x : Int) / 2).toNat = x / 2 := by omega
  simp [this, T, t]
theorem T_even {x : Nat} (t : x % 2 ≠ 1) : ((x : Int) / 2) = ((T x : Nat) : Int) := by
  simp [T, t]

theorem tcells0 : tcells 0 = z256 := by kernel_rfl
end Go.Proofs.Ythnddkcicpoboaa
