/- The walks of crc.Flip and of its reference: which bits are turned. -/
import Derived.Test.YtbpamegfohcbmaaCrcRef
namespace Go.Proofs.Ytbpamegfohcbmaa
open Go.RowKit

theorem mul256 (x : Nat) : x * 2 ^ 8 = 256 * x := by omega
theorem xor_mul_pow (x y n : Nat) : (x ^^^ y) * 2 ^ n = x * 2 ^ n ^^^ y * 2 ^ n := by
  rw [← Nat.shiftLeft_eq, ← Nat.shiftLeft_eq, ← Nat.shiftLeft_eq, Nat.shiftLeft_xor_distrib]
theorem V_cons (c : UInt8) (l : List UInt8) : V (c :: l) = V l * 2 ^ 8 ^^^ c.toNat := by
  rw [xor_join 8 _ _ c.toNat_lt]; simp only [V]; omega
theorem V_set : ∀ (l : List UInt8) (j : Nat) (c : UInt8) (h : j < l.length), V (l.set j (l[j] ^^^ c)) = V l ^^^ c.toNat * 256 ^ j
  | d :: l, 0, c, _ => by
    simp only [List.set_cons_zero, List.getElem_cons_zero, V_cons, UInt8.toNat_xor, Nat.pow_zero, Nat.mul_one]
    ac_rfl
  | d :: l, j + 1, c, h => by
    have ih := V_set l j c (by simpa using h)
    simp only [List.set_cons_succ, List.getElem_cons_succ, V_cons, ih, xor_mul_pow]
    rw [Nat.pow_succ 256 j, ← Nat.mul_assoc, show (2 : Nat) ^ 8 = 256 from rfl]
    ac_rfl
theorem pow_split (k : Nat) : 2 ^ (k % 8) * 256 ^ (k / 8) = 2 ^ k := by
  rw [show (256 : Nat) = 2 ^ 8 from rfl, ← Nat.pow_mul, ← Nat.pow_add]; congr 1; omega

/-- The bytes of a number, so many. -/
def unV : Nat → Nat → List UInt8
  | 0, _ => []
  | n + 1, x => UInt8.ofNat x :: unV n (x / 256)
theorem unV_length (n x : Nat) : (unV n x).length = n := by
  induction n generalizing x with
  | zero => rfl
  | succ n ih => simp [unV, ih]
theorem V_unV (n x : Nat) (h : x < 256 ^ n) : V (unV n x) = x := by
  induction n generalizing x with
  | zero => simp at h; subst h; rfl
  | succ n ih =>
    have : x / 256 < 256 ^ n := by rw [Nat.pow_succ] at h; omega
    simp only [unV, V, ih _ this, UInt8.toNat_ofNat']
    omega
theorem unV_V (l : List UInt8) : unV l.length (V l) = l := by
  refine V_inj _ _ (unV_length _ _) (V_unV _ _ (V_lt l))

/-- The bits that a flip turns, as one number: those of 'bits' from place 'at_' on, of n bytes. -/
def maskTo (at_ : Int) (bits n : Nat) : Nat → Nat
  | 0 => 0
  | i + 1 => maskTo at_ bits n i ^^^ (if bits.testBit i = true ∧ 0 ≤ at_ + i ∧ at_ + i < 8 * n then 2 ^ (at_ + i).toNat else 0)
def maskRef (at_ : Int) (bits : Nat) : Nat → Nat
  | 0 => 0
  | k + 1 => maskRef at_ bits k ^^^ (if 0 ≤ k - at_ ∧ k - at_ < 32 ∧ bits.testBit (k - at_).toNat = true then 2 ^ k else 0)
theorem testBit_ite_pow (c : Prop) [Decidable c] (m p : Nat) : (if c then 2 ^ m else 0 : Nat).testBit p = decide (c ∧ m = p) := by
  by_cases h : c
  · simp [h, Nat.testBit_two_pow]
  · simp [h]
theorem maskTo_bit (at_ : Int) (bits n p : Nat) : ∀ i, (maskTo at_ bits n i).testBit p = decide (0 ≤ (p : Int) - at_ ∧ (p : Int) - at_ < i ∧ bits.testBit ((p : Int) - at_).toNat = true ∧ p < 8 * n)
  | 0 => by simp only [maskTo, Nat.zero_testBit]; symm; apply decide_eq_false; omega
  | i + 1 => by
    simp only [maskTo, Nat.testBit_xor, maskTo_bit at_ bits n p i, testBit_ite_pow]
    by_cases h : (p : Int) - at_ = i
    · have e : ((p : Int) - at_).toNat = i := by omega
      have e2 : (at_ + i).toNat = p := by omega
      rw [e, e2]
      rw [decide_eq_false (by omega), Bool.false_xor]
      congr 1
      simp only [eq_iff_iff]
      constructor
      · rintro ⟨⟨a, b, c⟩, _⟩; exact ⟨by omega, by omega, a, by omega⟩
      · rintro ⟨a, b, c, d⟩; exact ⟨⟨c, by omega, by omega⟩, trivial⟩
    · have e2 : ¬ ((bits.testBit i = true ∧ 0 ≤ at_ + i ∧ at_ + i < 8 * n) ∧ (at_ + i).toNat = p) := by omega
      rw [decide_eq_false e2, Bool.xor_false]
      congr 1
      simp only [eq_iff_iff]
      constructor
      · rintro ⟨a, b, c⟩; exact ⟨a, by omega, c⟩
      · rintro ⟨a, b, c⟩; exact ⟨a, by omega, c⟩
theorem maskRef_bit (at_ : Int) (bits p : Nat) : ∀ k, (maskRef at_ bits k).testBit p = decide (0 ≤ (p : Int) - at_ ∧ (p : Int) - at_ < 32 ∧ bits.testBit ((p : Int) - at_).toNat = true ∧ p < k)
  | 0 => by simp only [maskRef, Nat.zero_testBit]; symm; apply decide_eq_false; omega
  | k + 1 => by
    simp only [maskRef, Nat.testBit_xor, maskRef_bit at_ bits p k, testBit_ite_pow]
    by_cases h : p = k
    · subst h
      rw [decide_eq_false (by omega)]
      simp
    · have e2 : ¬ ((0 ≤ (k : Int) - at_ ∧ (k : Int) - at_ < 32 ∧ bits.testBit ((k : Int) - at_).toNat = true) ∧ k = p) := by omega
      rw [decide_eq_false e2, Bool.xor_false]
      congr 1
      simp only [eq_iff_iff]
      constructor
      · rintro ⟨a, b, c, d⟩; exact ⟨a, b, c, by omega⟩
      · rintro ⟨a, b, c, d⟩; exact ⟨a, b, c, by omega⟩
theorem mask_eq (at_ : Int) (bits n : Nat) : maskTo at_ bits n 32 = maskRef at_ bits (8 * n) := by
  apply Nat.eq_of_testBit_eq; intro p
  rw [maskTo_bit, maskRef_bit]; rfl
/-- What Flip answers. -/
def flipL (l : List UInt8) (at_ : Int) (bits : Nat) : List UInt8 := unV l.length (V l ^^^ maskTo at_ bits l.length 32)
theorem mask_lt (at_ : Int) (bits n i : Nat) : maskTo at_ bits n i < 256 ^ n := by
  rw [show (256 : Nat) = 2 ^ 8 from rfl, ← Nat.pow_mul]
  apply Nat.lt_pow_two_of_testBit
  intro p hp
  rw [maskTo_bit]
  apply decide_eq_false; omega
theorem flipL_length (l : List UInt8) (at_ : Int) (bits : Nat) : (flipL l at_ bits).length = l.length := unV_length _ _
theorem V_flipL (l : List UInt8) (at_ : Int) (bits : Nat) : V (flipL l at_ bits) = V l ^^^ maskTo at_ bits l.length 32 := by
  apply V_unV
  have h1 := V_lt l
  have h2 := mask_lt at_ bits l.length 32
  rw [show (256 : Nat) = 2 ^ 8 from rfl, ← Nat.pow_mul] at *
  exact Nat.xor_lt_two_pow h1 h2
theorem flipL_flipL (l : List UInt8) (at_ : Int) (bits : Nat) : flipL (flipL l at_ bits) at_ bits = l := by
  refine V_inj _ _ (by rw [flipL_length, flipL_length]) ?_
  rw [V_flipL, V_flipL, flipL_length, Nat.xor_assoc, Nat.xor_self, Nat.xor_zero]
theorem flipL_of (l m : List UInt8) (at_ : Int) (bits : Nat) (hl : m.length = l.length) (h : V m = V l ^^^ maskTo at_ bits l.length 32) : m = flipL l at_ bits := by
  refine V_inj _ _ (by rw [hl, flipL_length]) ?_
  rw [h, V_flipL]

/-- The cells of a row of bytes, and of its spare room. -/
def rowOf (l : List UInt8) (z : Nat) : Array Value := (l.map (fun c : UInt8 => Value.int .u8 (c.toNat : Int)) ++ List.replicate z (Value.int .u8 0)).toArray
theorem rowOf_size (l : List UInt8) (z : Nat) : (rowOf l z).size = l.length + z := by simp [rowOf]
theorem rowOf_get (l : List UInt8) (z j : Nat) (h : j < l.length) : (rowOf l z)[j]? = some (.int .u8 (l[j].toNat : Int)) := by
  simp [rowOf, List.getElem?_append, h]
theorem rowOf_set (l : List UInt8) (z j : Nat) (c : UInt8) (h : j < l.length) : (rowOf l z).setIfInBounds j (.int .u8 (c.toNat : Int)) = rowOf (l.set j c) z := by
  simp only [rowOf, List.setIfInBounds_toArray]
  rw [List.set_append_left _ _ (by simpa using h), List.map_set]
theorem bytesRow_eq (s : ByteArray) (cap : Nat) : bytesRow s cap = rowOf s.data.toList (cap - s.size) := by
  apply Array.ext'
  simp [bytesRow, rowOf]
theorem heap_setCell_fr (w : World) (g i : Nat) (cs : Array Value) (t : TypeId) (fr : Nat × Nat) (v : Value) (hg : w.heap[g]? = some (.cells cs t fr)) :
    (w.setCell ⟨g, i, none⟩ v).heap[g]? = some (.cells (cs.setIfInBounds i v) t fr) := by
  simp only [World.setCell, Array.getElem?_modify, if_true, hg]
  rfl
theorem bit_at (b k : Nat) (h : b < 4294967296) : bits .and .u32 ((b : Int) / 2 ^ k) 1 = (((b.testBit k).toNat : Nat) : Int) := by
  have e : (b : Int) / 2 ^ k = ((b / 2 ^ k : Nat) : Int) := by simp
  have hl : b / 2 ^ k < 4294967296 := Nat.lt_of_le_of_lt (Nat.div_le_self _ _) h
  rw [e, and1_u32 _ hl]
  congr 1
  rw [Nat.toNat_testBit]
theorem bit_byte (p : Nat) : (UInt8.ofNat (2 ^ (p % 8))).toNat = 2 ^ (p % 8) := by
  rw [UInt8.toNat_ofNat']
  exact Nat.mod_eq_of_lt (Nat.pow_lt_pow_right (by omega) (by omega))
theorem xor_bit (c : UInt8) (p : Nat) : bits .xor .u8 (c.toNat : Int) (2 ^ (p % 8) % 256) = (((c ^^^ UInt8.ofNat (2 ^ (p % 8))).toNat : Nat) : Int) := by
  have h1 : (2 : Nat) ^ (p % 8) < 256 := Nat.pow_lt_pow_right (a := 2) (n := 8) (by omega) (show p % 8 < 8 by omega)
  have e : (2 : Int) ^ (p % 8) % 256 = ((2 ^ (p % 8) : Nat) : Int) := by
    have : (2 : Int) ^ (p % 8) = ((2 ^ (p % 8) : Nat) : Int) := by simp
    rw [this]; exact Int.emod_eq_of_lt (Int.natCast_nonneg _) (Int.ofNat_lt.2 h1)
  have h2 := c.toNat_lt
  rw [e, u8_xor _ _ (by omega) (by omega) (by omega) (by omega), UInt8.toNat_xor, bit_byte, Int.toNat_natCast, Int.toNat_natCast]
set_option maxRecDepth 100000 in
set_option maxHeartbeats 1000000 in
theorem Flip_calls (w : World) (s : ByteArray) (at_ : Int) (bs : Nat) (hb : bs < 4294967296) (hs : s.size ≤ 140737488351232) (h1 : -9223372036854775808 ≤ at_) (h2 : at_ < 9223372036854775808) :
   Calls Try.prog 15 #[.string s, .int .i64 at_, .int .u32 (bs : Nat)] w fun e w' => e = .returned (.string ⟨(flipL s.data.toList at_ bs).toArray⟩) ∧ Below w.heap.size w w' := by
  go_enter Try.func15, Try.ntmps15
  go_wp2_with (with_reducible refine wpList_mark (o := ⟨some 11, _, _, _, _, _⟩) ?_)
  refine Marked.intro ?_
  refine wpList_run rfl (exec_string_bytes _ 9 42 5 (.tmp 10) (by rfl) _ s (by rfl) Try.underlying9 Try.underlying42 Try.underlying5) ?_
  have hz : ∃ z, grownCap w s.size 0 5 - s.size = z := ⟨_, rfl⟩
  obtain ⟨z, hz⟩ := hz
  rw [bytesRow_eq, hz]
  go_wp2
  have hh := heap_alloc_new w.drew (.cells (rowOf s.data.toList z) 5 ((rowOf s.data.toList z).size, (rowOf s.data.toList z).size + 1))
  go_loopw [12] (fun i wr => ∃ (k : Nat) (l : List UInt8), k ≤ 32 ∧ i = .int .i64 k ∧ l.length = s.size ∧ V l = V s.data.toList ^^^ maskTo at_ bs s.size k ∧ Below w.heap.size w wr ∧
     wr.heap[w.heap.size]? = some (.cells (rowOf l z) 5 (s.size + z, s.size + z + 1))) (fun i _ => 32 - (intOf i).toNat)
  case atStart => exact ⟨0, s.data.toList, by omega, rfl, rfl, by simp [maskTo], ((Below.refl _ _).drew).alloc (Nat.le_refl _) _, by rw [rowOf_size] at hh; rw [rowOf_size]; exact hh⟩
  case round =>
    obtain ⟨k, l, hk, rfl, hl, hV, hbel, hheap⟩ := hrel
    have HV := Lib.hid hV; clear hV
    have Hl := Lib.hid hl; clear hl
    have HH := Lib.hid hheap; clear hheap
    clear hh hz
    by_cases hlt : k < 32
    · have hand := bit_at bs k hb
      cases hbit : bs.testBit k
      · rw [hbit] at hand
        have hm : maskTo at_ bs s.size (k + 1) = maskTo at_ bs s.size k := by simp [maskTo, hbit]
        have Hm := Lib.hid hm; clear hm hbit
        simp only [Bool.toNat_false] at hand
        go_wp2
        exact ⟨⟨k + 1, l, by omega, by go_num, Hl.out, by rw [Hm.out]; exact HV.out, hbel, HH.out⟩, by simp [intOf]; omega⟩
      · rw [hbit] at hand
        simp only [Bool.toNat_true] at hand
        by_cases hA : 8 * (s.size : Int) < at_
        · have hm : maskTo at_ bs s.size (k + 1) = maskTo at_ bs s.size k := by
            simp only [maskTo]; rw [if_neg (by omega)]; simp
          have Hm := Lib.hid hm; clear hm hbit
          go_wp2
          exact ⟨⟨k + 1, l, by omega, by go_num, Hl.out, by rw [Hm.out]; exact HV.out, hbel, HH.out⟩, by simp [intOf]; omega⟩
        · by_cases hB : at_ < -32
          · have hm : maskTo at_ bs s.size (k + 1) = maskTo at_ bs s.size k := by
              simp only [maskTo]; rw [if_neg (by omega)]; simp
            have Hm := Lib.hid hm; clear hm hbit
            go_wp2
            exact ⟨⟨k + 1, l, by omega, by go_num, Hl.out, by rw [Hm.out]; exact HV.out, hbel, HH.out⟩, by simp [intOf]; omega⟩
          · by_cases hC : 0 ≤ at_ + k ∧ at_ + k < 8 * s.size
            · obtain ⟨p, hp⟩ := Int.eq_ofNat_of_zero_le hC.1
              obtain rfl : at_ = (p : Int) - k := by omega
              have hp8 : p < 8 * s.size := by omega
              have hm : maskTo ((p : Int) - k) bs s.size (k + 1) = maskTo ((p : Int) - k) bs s.size k ^^^ 2 ^ p := by
                simp only [maskTo]; rw [if_pos ⟨hbit, hC⟩]
                congr 2; omega
              have Hm := Lib.hid hm
              have hj : p / 8 < l.length := by rw [Hl.out]; omega
              have hcell : wr.cell? ⟨w.heap.size, p / 8, none⟩ = some (.int .u8 (l[p / 8].toNat : Int)) := by
                rw [cell_of_row wr _ _ _ _ _ HH.out, rowOf_get _ _ _ hj]
              have hfr : wr.frozen? ⟨w.heap.size, p / 8, none⟩ = false := by
                simp [World.frozen?, HH.out]; omega
              have hc8 := l[p / 8].toNat_lt
              clear hm hbit hp hC hA
              have hsz : p / 8 < s.size := by omega
              go_wp2
              go_region
              go_wp2
              rw [xor_bit]
              have hh2 := heap_setCell_fr wr w.heap.size (p / 8) _ _ _ (.int .u8 ((l[p / 8] ^^^ UInt8.ofNat (2 ^ (p % 8))).toNat : Int)) HH.out
              rw [rowOf_set _ _ _ _ hj] at hh2
              refine ⟨⟨k + 1, l.set (p / 8) (l[p / 8] ^^^ UInt8.ofNat (2 ^ (p % 8))), by omega, by go_num, by rw [List.length_set]; exact Hl.out, ?_, (hbel.setCell (Nat.le_refl _) _).drew, hh2⟩, by simp [intOf]; omega⟩
              rw [V_set l (p / 8) _ hj, Hm.out, HV.out, bit_byte, pow_split, Nat.xor_assoc]
            · have hm : maskTo at_ bs s.size (k + 1) = maskTo at_ bs s.size k := by
                simp only [maskTo]; rw [if_neg (by omega)]; simp
              have Hm := Lib.hid hm; clear hm hbit
              by_cases hD : 0 ≤ at_ + k
              · have hE : ¬ (at_ + k < 8 * s.size) := by omega
                clear hC
                go_wp2
                exact ⟨⟨k + 1, l, by omega, by go_num, Hl.out, by rw [Hm.out]; exact HV.out, hbel, HH.out⟩, by simp [intOf]; omega⟩
              · clear hC
                go_wp2
                exact ⟨⟨k + 1, l, by omega, by go_num, Hl.out, by rw [Hm.out]; exact HV.out, hbel, HH.out⟩, by simp [intOf]; omega⟩
    · obtain rfl : k = 32 := by omega
      go_wp2_with (with_reducible refine wpList_mark (o := ⟨some 55, _, _, _, _, _⟩) ?_)
      refine Marked.intro ?_
      refine wpList_run rfl (exec_bytes_back _ 42 9 5 (.tmp 54) (by rfl) _ ⟨w.heap.size, 0, none⟩ s.size _ (by rfl) l Hl.out.symm Try.underlying42 Try.underlying5 Try.underlying9 ?_) ?_
      · intro j hj
        rw [Addr.add_lit, Nat.zero_add, cell_of_row wr _ _ _ _ _ HH.out, rowOf_get _ _ _ hj]
      · go_wp2
        go_ret
        refine ⟨?_, hbel⟩
        rw [flipL_of s.data.toList l at_ bs Hl.out HV.out]; rfl
end Go.Proofs.Ytbpamegfohcbmaa
