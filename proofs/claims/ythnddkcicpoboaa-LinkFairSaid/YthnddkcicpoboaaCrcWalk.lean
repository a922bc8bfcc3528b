/- The walks of crc's sums, seals and flips, and of its reference: what each Go function answers, in any memory. -/
import Derived.Test.YthnddkcicpoboaaCrcTable
namespace Go.Proofs.Ythnddkcicpoboaa
open Go.RowKit
theorem reg_snoc (x : Nat) (s : ByteArray) (k : Nat) (h : k < s.size) : reg x (s.data.toList.take (k + 1)) = upd (reg x (s.data.toList.take k)) s[k] := by
  rw [List.take_succ_eq_append_getElem (by simpa using h), reg_append]; rfl
theorem upd_xor (R : Nat) (c : UInt8) (hR : R < 4294967296) : bits .xor .u32 ((tab ((R % 256) ^^^ c.toNat) : Nat) : Int) ((R : Int) / 256) = ((upd R c : Nat) : Int) := by
  have h1 := Tn_lt 8 ((R % 256) ^^^ c.toNat) (Nat.xor_lt_two_pow (n := 32) (by omega) (by have := c.toNat_lt; omega))
  rw [u32_xor _ _ (by omega) (by unfold tab; omega) (by omega) (by omega)]
  have : ((R : Int) / 256).toNat = R / 256 := by omega
  rw [this]; rfl
theorem tcells_one (k : Nat) : ∀ u ∈ (tcells k).toList, u.oneCell' = true := by simp [tcells, tcell, Value.oneCell']

theorem not_max (x : Nat) (h : x < 4294967296) : bits .xor .u32 IntKind.u32.max (x : Int) = ((4294967295 ^^^ x : Nat) : Int) := by
  rw [show IntKind.u32.max = 4294967295 from by decide, u32_xor _ _ (by omega) (by omega) (by omega) (by omega)]
  simp
theorem app_mk (s : ByteArray) (l : List UInt8) : s ++ (⟨l.toArray⟩ : ByteArray) = ⟨(s.data.toList ++ l).toArray⟩ := by
  apply ByteArray.ext
  simp [ByteArray.data_append]
/-- Sealed bytes. -/
def sealB (s : ByteArray) : ByteArray := ⟨(sealL s.data.toList).toArray⟩
theorem sealB_data (s : ByteArray) : (sealB s).data.toList = sealL s.data.toList := rfl
theorem sealB_size (s : ByteArray) : (sealB s).size = s.size + 4 := by
  show (sealL s.data.toList).toArray.size = _
  rw [List.size_toArray, sealL_length]; rfl
theorem str_eq (a b : ByteArray) : (a.toList == b.toList) = decide (a = b) := by
  rw [ByteArray.toList_eq, ByteArray.toList_eq]
  by_cases h : a = b
  · subst h; simp
  · have : a.data.toList ≠ b.data.toList := fun e => h (ByteArray.ext (Array.toList_inj.1 e))
    rw [decide_eq_false h]; simpa using this
/-- What Open answers. -/
def openB (s : ByteArray) : ByteArray × Nat := if s.size < 4 then (⟨#[]⟩, 3) else if sealB (s.extract 0 (s.size - 4)) = s then (s.extract 0 (s.size - 4), 0) else (⟨#[]⟩, 5)
end Go.Proofs.Ythnddkcicpoboaa
