/- The walks of package frame: within, Right, number, and the reference's Right, value. -/
import Derived.Test.YtcmgmdgeimmbeaaLib
import Derived.Handy
namespace Go.Proofs.Ytcmgmdgeimmbeaa
open Go.RowKit
set_option linter.unusedVariables false
set_option linter.unusedSimpArgs false
/-- A frame. -/
structure Fr where
  k : Int
  s : Int
  e : Int
  i : Int
  t : Int
  d : ByteArray
def Fr.val (f : Fr) : Value := .agg #[.int .i64 f.k, .int .i64 f.s, .int .i64 f.e, .int .i64 f.i, .int .i64 f.t, .string f.d]
def Fr.zero : Fr := ⟨0, 0, 0, 0, 0, ⟨#[]⟩⟩
def Fr.ok (f : Fr) : Prop := (f.k = 1 ∨ f.k = 2) ∧ 0 ≤ f.s ∧ f.s < 4294967296 ∧ 0 ≤ f.e ∧ f.e < 4294967296 ∧ 0 ≤ f.i ∧ f.i < 65536 ∧ 0 ≤ f.t ∧ f.t < 65536 ∧ f.d.size ≤ 65000
instance (f : Fr) : Decidable f.ok := by unfold Fr.ok; infer_instance
def bev (l : List UInt8) : Nat := l.foldl (fun n b => 256 * n + b.toNat) 0
theorem bev_snoc (l : List UInt8) (b : UInt8) : bev (l ++ [b]) = 256 * bev l + b.toNat := by unfold bev; rw [List.foldl_append]; rfl
theorem bev_take (s : ByteArray) (k : Nat) (h : k < s.size) : bev (s.data.toList.take (k + 1)) = 256 * bev (s.data.toList.take k) + s[k].toNat := by
  rw [List.take_succ_eq_append_getElem (by simpa using h), bev_snoc]; rfl
theorem bev_go : ∀ (l : List UInt8) (n : Nat), l.foldl (fun n b => 256 * n + b.toNat) n < (n + 1) * 256 ^ l.length
  | [], n => by simp
  | b :: l, n => by
    have ih := bev_go l (256 * n + b.toNat)
    have hb := b.toNat_lt
    have : (256 * n + b.toNat + 1) * 256 ^ l.length ≤ ((n + 1) * 256) * 256 ^ l.length := Nat.mul_le_mul_right _ (by omega)
    rw [List.foldl_cons, List.length_cons, Nat.pow_succ, Nat.mul_comm (256 ^ l.length) 256, ← Nat.mul_assoc]
    omega
theorem bev_lt (l : List UInt8) : bev l < 256 ^ l.length := by
  have := bev_go l 0
  rw [Nat.zero_add, Nat.one_mul] at this; exact this
theorem i64_or_byte (b c : Nat) (hb : b < 4294967296) (hc : c < 256) : bits .or .i64 ((b : Int) * 256) (c : Int) = ((256 * b + c : Nat) : Int) := by
  have e : (b : Int) * 256 = ((b * 256 : Nat) : Int) := by simp
  rw [e]
  show IntKind.i64.wrap ((BitVec.ofInt 64 ((b * 256 : Nat) : Int) ||| BitVec.ofInt 64 (c : Int)).toNat : Int) = _
  rw [BitVec.toNat_or, BitVec.ofInt_natCast, BitVec.ofInt_natCast, BitVec.toNat_ofNat, BitVec.toNat_ofNat, Nat.mod_eq_of_lt (by omega), Nat.mod_eq_of_lt (by omega)]
  have h2 := Nat.two_pow_add_eq_or_of_lt (i := 8) (b := c) (by omega) b
  rw [Nat.mul_comm b 256, show (256 : Nat) = 2 ^ 8 from rfl, ← h2]
  exact IntWalk.i64_in _ (by omega)
end Go.Proofs.Ytcmgmdgeimmbeaa
