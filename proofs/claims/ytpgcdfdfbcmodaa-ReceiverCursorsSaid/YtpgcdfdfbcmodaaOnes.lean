/- How many bits a 64-bit number has: the halves' way, plain arithmetic. -/
import Derived.Test.YtpgcdfdfbcmodaaLib
namespace Go.Proofs.Ytpgcdfdfbcmodaa
set_option linter.unusedVariables false
/-- How many of so many bits are set. -/
def pop : Nat → Nat → Nat
  | 0, _ => 0
  | n + 1, x => x % 2 + pop n (x / 2)
def mk (c : Nat) : Nat → Nat
  | 0 => 0
  | k + 1 => c + 256 * mk c k
def by8 (g : Nat → Nat) : Nat → Nat → Nat
  | 0, _ => 0
  | k + 1, x => g (x % 256) + 256 * by8 g k (x / 256)
theorem and_byte (u v : Nat) : u &&& v = (u % 256 &&& v % 256) + 256 * (u / 256 &&& v / 256) := by
  have h1 := Nat.and_mod_two_pow (a := u) (b := v) (n := 8)
  have h2 := Nat.and_div_two_pow (a := u) (b := v) (n := 8)
  rw [show (2 : Nat) ^ 8 = 256 from rfl] at h1 h2
  omega
theorem and_zero' (u : Nat) : u &&& 0 = 0 := Nat.and_zero u
theorem mk_mod (c k : Nat) (h : c < 256) : mk c (k + 1) % 256 = c ∧ mk c (k + 1) / 256 = mk c k := by
  simp only [mk]; omega
def g1 (b : Nat) : Nat := (b / 2 &&& 85) + (b &&& 85)
def g2 (b : Nat) : Nat := (b / 4 &&& 51) + (b &&& 51)
theorem sh1 : ∀ b : Fin 256, ∀ c : Fin 2, (b.val / 2 + 128 * c.val) &&& 85 = b.val / 2 &&& 85 := by decide +kernel
theorem sh2 : ∀ b : Fin 256, ∀ c : Fin 4, (b.val / 4 + 64 * c.val) &&& 51 = b.val / 4 &&& 51 := by decide +kernel
theorem s1 : ∀ (k x : Nat), (x / 2 &&& mk 85 k) + (x &&& mk 85 k) = by8 g1 k x
  | 0, x => by simp [mk, by8]
  | k + 1, x => by
    have ih := s1 k (x / 256)
    obtain ⟨m1, m2⟩ := mk_mod 85 k (by omega)
    rw [and_byte (x / 2), and_byte x, m1, m2, by8, ← ih]
    have e1 : x / 2 % 256 = x % 256 / 2 + 128 * (x / 256 % 2) := by omega
    have e2 : x / 2 / 256 = x / 256 / 2 := by omega
    have := sh1 ⟨x % 256, by omega⟩ ⟨x / 256 % 2, by omega⟩
    simp only at this
    rw [e1, e2, this]
    unfold g1
    omega
theorem s2 : ∀ (k x : Nat), (x / 4 &&& mk 51 k) + (x &&& mk 51 k) = by8 g2 k x
  | 0, x => by simp [mk, by8]
  | k + 1, x => by
    have ih := s2 k (x / 256)
    obtain ⟨m1, m2⟩ := mk_mod 51 k (by omega)
    rw [and_byte (x / 4), and_byte x, m1, m2, by8, ← ih]
    have e1 : x / 4 % 256 = x % 256 / 4 + 64 * (x / 256 % 4) := by omega
    have e2 : x / 4 / 256 = x / 256 / 4 := by omega
    have := sh2 ⟨x % 256, by omega⟩ ⟨x / 256 % 4, by omega⟩
    simp only at this
    rw [e1, e2, this]
    unfold g2
    omega
theorem by8_by8 (f g : Nat → Nat) (hg : ∀ b, b < 256 → g b < 256) : ∀ (k x : Nat), by8 f k (by8 g k x) = by8 (fun b => f (g b)) k x
  | 0, _ => rfl
  | k + 1, x => by
    have h := hg (x % 256) (by omega)
    simp only [by8]
    rw [← by8_by8 f g hg k (x / 256), show (g (x % 256) + 256 * by8 g k (x / 256)) % 256 = g (x % 256) by omega, show (g (x % 256) + 256 * by8 g k (x / 256)) / 256 = by8 g k (x / 256) by omega]
def h2 (b : Nat) : Nat := g2 (g1 b)
theorem g1_lt : ∀ b : Fin 256, g1 b.val < 256 := by decide +kernel
theorem h2_low : ∀ b : Fin 256, h2 b.val % 16 ≤ 4 ∧ h2 b.val / 16 ≤ 4 := by decide +kernel
theorem h2_pop : ∀ b : Fin 256, h2 b.val / 16 + h2 b.val % 16 = pop 8 b.val := by decide +kernel
theorem sh3 : ∀ lo : Fin 5, ∀ hi : Fin 5, ∀ c : Fin 5, (hi.val + 16 * c.val + (lo.val + 16 * hi.val)) &&& 15 = hi.val + lo.val := by decide +kernel
theorem s3 : ∀ (k x : Nat), (by8 h2 k x / 16 + by8 h2 k x) &&& mk 15 k = by8 (pop 8) k x
  | 0, x => by simp [mk, by8]
  | k + 1, x => by
    have ih := s3 k (x / 256)
    obtain ⟨m1, m2⟩ := mk_mod 15 k (by omega)
    have hl := h2_low ⟨x % 256, by omega⟩
    have hp := h2_pop ⟨x % 256, by omega⟩
    simp only at hl hp
    have hy : by8 h2 k (x / 256) % 16 ≤ 4 := by
      cases k with
      | zero => simp [by8]
      | succ k =>
        have := (h2_low ⟨x / 256 % 256, by omega⟩).1
        simp only at this
        simp only [by8]
        omega
    rw [and_byte, m1, m2]
    simp only [by8]
    rw [← ih]
    generalize by8 h2 k (x / 256) = y at *
    generalize h2 (x % 256) = b at *
    have q := sh3 ⟨b % 16, by omega⟩ ⟨b / 16, by omega⟩ ⟨y % 16, by omega⟩
    simp only at q
    have e1 : ((b + 256 * y) / 16 + (b + 256 * y)) % 256 = b / 16 + 16 * (y % 16) + (b % 16 + 16 * (b / 16)) := by omega
    have e2 : ((b + 256 * y) / 16 + (b + 256 * y)) / 256 = y / 16 + y := by omega
    rw [e1, e2, q]
    omega
theorem pop_add (m n x : Nat) : pop (m + n) x = pop m x + pop n (x / 2 ^ m) := by
  induction m generalizing x with
  | zero => simp [pop]
  | succ m ih => rw [Nat.succ_add]; simp only [pop, ih]; rw [Nat.div_div_eq_div_mul, Nat.pow_succ, Nat.mul_comm 2]; omega
theorem pop_mod (m x : Nat) : ∀ k, m ≤ k → pop m (x % 2 ^ k) = pop m x := by
  induction m generalizing x with
  | zero => intros; rfl
  | succ m ih =>
    intro k hk
    obtain ⟨j, rfl⟩ : ∃ j, k = j + 1 := ⟨k - 1, by omega⟩
    simp only [pop]
    have h1 : x % 2 ^ (j + 1) % 2 = x % 2 := Nat.mod_mod_of_dvd _ ⟨2 ^ j, by rw [Nat.pow_succ, Nat.mul_comm]⟩
    have h2 : x % 2 ^ (j + 1) / 2 = x / 2 % 2 ^ j := by rw [Nat.pow_succ, Nat.mul_comm, Nat.mod_mul_right_div_self]
    rw [h1, h2, ih _ j (by omega)]
theorem pop_le (n x : Nat) : pop n x ≤ n := by
  induction n generalizing x with
  | zero => exact Nat.le_refl _
  | succ n ih => have := ih (x / 2); simp only [pop]; omega
theorem ones_ar (A B C m : Nat) (h : B * 255 ≤ A) (k : C ≤ m) : (C + 256 * B) * 255 ≤ 256 * A + m * 255 := by
  have h1 : C * 255 ≤ m * 255 := Nat.mul_le_mul_right _ k
  have h2 : 256 * (B * 255) ≤ 256 * A := Nat.mul_le_mul_left _ h
  rw [Nat.add_mul, Nat.mul_assoc, Nat.add_comm]
  exact Nat.add_le_add h2 h1
theorem by8_le (g : Nat → Nat) (m x : Nat) (hg : ∀ b, b < 256 → g b ≤ m) : by8 g 8 x ≤ m * 72340172838076673 := by
  have go : ∀ k y, by8 g k y * 255 ≤ m * (256 ^ k - 1) := by
    intro k
    induction k with
    | zero => intro y; simp [by8]
    | succ k ih =>
      intro y
      have h1 := ih (y / 256)
      have h2 := hg (y % 256) (by omega)
      have h3 : 0 < 256 ^ k := Nat.pow_pos (by omega)
      rw [by8, show 256 ^ (k + 1) - 1 = 256 * (256 ^ k - 1) + 255 by rw [Nat.pow_succ]; omega, Nat.mul_add, show m * (256 * (256 ^ k - 1)) = 256 * (m * (256 ^ k - 1)) by ac_rfl]
      generalize m * (256 ^ k - 1) = A at *
      generalize by8 g k (y / 256) = B at *
      generalize g (y % 256) = C at *
      exact ones_ar _ _ _ _ h1 h2
  have := go 8 x
  rw [show (256 : Nat) ^ 8 - 1 = 72340172838076673 * 255 from rfl, ← Nat.mul_assoc] at this
  omega
theorem dig_div (p r : Nat) (h : p < 256) : (p + 256 * r) / 256 = r := by omega
theorem dig_lt (p r B : Nat) (h : p < 256) (k : r < B) : p + 256 * r < 256 * B := by omega
theorem dig8_lt (p0 p1 p2 p3 p4 p5 p6 p7 : Nat) (h0 : p0 < 256) (h1 : p1 < 256) (h2 : p2 < 256) (h3 : p3 < 256) (h4 : p4 < 256) (h5 : p5 < 256) (h6 : p6 < 256) (h7 : p7 < 256) : p0 + 256 * (p1 + 256 * (p2 + 256 * (p3 + 256 * (p4 + 256 * (p5 + 256 * (p6 + 256 * (p7))))))) < 18446744073709551616 := by
  exact dig_lt _ _ 72057594037927936 h0 (dig_lt _ _ 281474976710656 h1 (dig_lt _ _ 1099511627776 h2 (dig_lt _ _ 4294967296 h3 (dig_lt _ _ 16777216 h4 (dig_lt _ _ 65536 h5 (dig_lt _ _ 256 h6 h7))))))
theorem low_dig (q R : Nat) (h : q ≤ 64) : (q + 256 * R) % 128 = q := by omega
theorem tail1 (p0 p1 p2 p3 p4 p5 p6 p7 : Nat) (k0 : p0 ≤ 8) (k1 : p1 ≤ 8) (k2 : p2 ≤ 8) (k3 : p3 ≤ 8) (k4 : p4 ≤ 8) (k5 : p5 ≤ 8) (k6 : p6 ≤ 8) (k7 : p7 ≤ 8) : (p0 + 256 * (p1 + 256 * (p2 + 256 * (p3 + 256 * (p4 + 256 * (p5 + 256 * (p6 + 256 * (p7)))))))) + (p0 + 256 * (p1 + 256 * (p2 + 256 * (p3 + 256 * (p4 + 256 * (p5 + 256 * (p6 + 256 * (p7)))))))) / 256 = (p0 + p1) + 256 * ((p1 + p2) + 256 * ((p2 + p3) + 256 * ((p3 + p4) + 256 * ((p4 + p5) + 256 * ((p5 + p6) + 256 * ((p6 + p7) + 256 * ((p7)))))))) := by
  rw [dig_div _ _ (by omega)]
  omega
theorem tail2 (p0 p1 p2 p3 p4 p5 p6 p7 : Nat) (k0 : p0 ≤ 8) (k1 : p1 ≤ 8) (k2 : p2 ≤ 8) (k3 : p3 ≤ 8) (k4 : p4 ≤ 8) (k5 : p5 ≤ 8) (k6 : p6 ≤ 8) (k7 : p7 ≤ 8) : ((p0 + p1) + 256 * ((p1 + p2) + 256 * ((p2 + p3) + 256 * ((p3 + p4) + 256 * ((p4 + p5) + 256 * ((p5 + p6) + 256 * ((p6 + p7) + 256 * ((p7))))))))) + ((p0 + p1) + 256 * ((p1 + p2) + 256 * ((p2 + p3) + 256 * ((p3 + p4) + 256 * ((p4 + p5) + 256 * ((p5 + p6) + 256 * ((p6 + p7) + 256 * ((p7))))))))) / 65536 = (p0 + p1 + p2 + p3) + 256 * ((p1 + p2 + p3 + p4) + 256 * ((p2 + p3 + p4 + p5) + 256 * ((p3 + p4 + p5 + p6) + 256 * ((p4 + p5 + p6 + p7) + 256 * ((p5 + p6 + p7) + 256 * ((p6 + p7) + 256 * ((p7)))))))) := by
  rw [show (65536 : Nat) = 256 * 256 from rfl, ← Nat.div_div_eq_div_mul, dig_div _ _ (by omega), dig_div _ _ (by omega)]
  omega
theorem tail3 (p0 p1 p2 p3 p4 p5 p6 p7 : Nat) (k0 : p0 ≤ 8) (k1 : p1 ≤ 8) (k2 : p2 ≤ 8) (k3 : p3 ≤ 8) (k4 : p4 ≤ 8) (k5 : p5 ≤ 8) (k6 : p6 ≤ 8) (k7 : p7 ≤ 8) : ((p0 + p1 + p2 + p3) + 256 * ((p1 + p2 + p3 + p4) + 256 * ((p2 + p3 + p4 + p5) + 256 * ((p3 + p4 + p5 + p6) + 256 * ((p4 + p5 + p6 + p7) + 256 * ((p5 + p6 + p7) + 256 * ((p6 + p7) + 256 * ((p7))))))))) + ((p0 + p1 + p2 + p3) + 256 * ((p1 + p2 + p3 + p4) + 256 * ((p2 + p3 + p4 + p5) + 256 * ((p3 + p4 + p5 + p6) + 256 * ((p4 + p5 + p6 + p7) + 256 * ((p5 + p6 + p7) + 256 * ((p6 + p7) + 256 * ((p7))))))))) / 4294967296 = (p0 + p1 + p2 + p3 + p4 + p5 + p6 + p7) + 256 * ((p1 + p2 + p3 + p4 + p5 + p6 + p7) + 256 * ((p2 + p3 + p4 + p5 + p6 + p7) + 256 * ((p3 + p4 + p5 + p6 + p7) + 256 * ((p4 + p5 + p6 + p7) + 256 * ((p5 + p6 + p7) + 256 * ((p6 + p7) + 256 * ((p7)))))))) := by
  rw [show (4294967296 : Nat) = 256 * 256 * 256 * 256 from rfl, ← Nat.div_div_eq_div_mul, ← Nat.div_div_eq_div_mul, ← Nat.div_div_eq_div_mul, dig_div _ _ (by omega), dig_div _ _ (by omega), dig_div _ _ (by omega), dig_div _ _ (by omega)]
  omega
theorem tailD (p0 p1 p2 p3 p4 p5 p6 p7 : Nat) (k0 : p0 ≤ 8) (k1 : p1 ≤ 8) (k2 : p2 ≤ 8) (k3 : p3 ≤ 8) (k4 : p4 ≤ 8) (k5 : p5 ≤ 8) (k6 : p6 ≤ 8) (k7 : p7 ≤ 8) : (p0 + p1) + 256 * ((p1 + p2) + 256 * ((p2 + p3) + 256 * ((p3 + p4) + 256 * ((p4 + p5) + 256 * ((p5 + p6) + 256 * ((p6 + p7) + 256 * ((p7)))))))) < 18446744073709551616 :=
  dig8_lt _ _ _ _ _ _ _ _ (by omega) (by omega) (by omega) (by omega) (by omega) (by omega) (by omega) (by omega)
theorem tailE (p0 p1 p2 p3 p4 p5 p6 p7 : Nat) (k0 : p0 ≤ 8) (k1 : p1 ≤ 8) (k2 : p2 ≤ 8) (k3 : p3 ≤ 8) (k4 : p4 ≤ 8) (k5 : p5 ≤ 8) (k6 : p6 ≤ 8) (k7 : p7 ≤ 8) : (p0 + p1 + p2 + p3) + 256 * ((p1 + p2 + p3 + p4) + 256 * ((p2 + p3 + p4 + p5) + 256 * ((p3 + p4 + p5 + p6) + 256 * ((p4 + p5 + p6 + p7) + 256 * ((p5 + p6 + p7) + 256 * ((p6 + p7) + 256 * ((p7)))))))) < 18446744073709551616 :=
  dig8_lt _ _ _ _ _ _ _ _ (by omega) (by omega) (by omega) (by omega) (by omega) (by omega) (by omega) (by omega)
theorem tailF (p0 p1 p2 p3 p4 p5 p6 p7 : Nat) (k0 : p0 ≤ 8) (k1 : p1 ≤ 8) (k2 : p2 ≤ 8) (k3 : p3 ≤ 8) (k4 : p4 ≤ 8) (k5 : p5 ≤ 8) (k6 : p6 ≤ 8) (k7 : p7 ≤ 8) : (p0 + p1 + p2 + p3 + p4 + p5 + p6 + p7) + 256 * ((p1 + p2 + p3 + p4 + p5 + p6 + p7) + 256 * ((p2 + p3 + p4 + p5 + p6 + p7) + 256 * ((p3 + p4 + p5 + p6 + p7) + 256 * ((p4 + p5 + p6 + p7) + 256 * ((p5 + p6 + p7) + 256 * ((p6 + p7) + 256 * ((p7)))))))) < 18446744073709551616 :=
  dig8_lt _ _ _ _ _ _ _ _ (by omega) (by omega) (by omega) (by omega) (by omega) (by omega) (by omega) (by omega)
theorem ones_tail (p0 p1 p2 p3 p4 p5 p6 p7 : Nat) (k0 : p0 ≤ 8) (k1 : p1 ≤ 8) (k2 : p2 ≤ 8) (k3 : p3 ≤ 8) (k4 : p4 ≤ 8) (k5 : p5 ≤ 8) (k6 : p6 ≤ 8) (k7 : p7 ≤ 8) (d e f : Nat) (hd : d = (p0 + 256 * (p1 + 256 * (p2 + 256 * (p3 + 256 * (p4 + 256 * (p5 + 256 * (p6 + 256 * (p7)))))))) + (p0 + 256 * (p1 + 256 * (p2 + 256 * (p3 + 256 * (p4 + 256 * (p5 + 256 * (p6 + 256 * (p7)))))))) / 256) (he : e = d + d / 65536) (hf : f = e + e / 4294967296) :
    d < 18446744073709551616 ∧ e < 18446744073709551616 ∧ f < 18446744073709551616 ∧ f % 128 = p0 + p1 + p2 + p3 + p4 + p5 + p6 + p7 := by
  rw [tail1 _ _ _ _ _ _ _ _ k0 k1 k2 k3 k4 k5 k6 k7] at hd
  rw [hd, tail2 _ _ _ _ _ _ _ _ k0 k1 k2 k3 k4 k5 k6 k7] at he
  rw [he, tail3 _ _ _ _ _ _ _ _ k0 k1 k2 k3 k4 k5 k6 k7] at hf
  subst hd he hf
  exact ⟨tailD _ _ _ _ _ _ _ _ k0 k1 k2 k3 k4 k5 k6 k7, tailE _ _ _ _ _ _ _ _ k0 k1 k2 k3 k4 k5 k6 k7, tailF _ _ _ _ _ _ _ _ k0 k1 k2 k3 k4 k5 k6 k7, low_dig _ _ (by omega)⟩
/-- The 64-bit count in halves. -/
theorem ones (x a b c d e f : Nat) (ha' : a = (x / 2 &&& 6148914691236517205) + (x &&& 6148914691236517205)) (hb' : b = (a / 4 &&& 3689348814741910323) + (a &&& 3689348814741910323))
    (hc' : c = (b / 16 + b) &&& 1085102592571150095) (hd' : d = c + c / 256) (he' : e = d + d / 65536) (hf' : f = e + e / 4294967296) :
    a < 18446744073709551616 ∧ b < 18446744073709551616 ∧ b / 16 + b < 18446744073709551616 ∧ d < 18446744073709551616 ∧ e < 18446744073709551616 ∧ f < 18446744073709551616 ∧ f % 128 = pop 64 x := by
  have ha : a = by8 g1 8 x := by rw [ha', ← s1 8 x]; rfl
  have hb : b = by8 h2 8 x := by
    have eb := s2 8 a
    rw [show mk 51 8 = 3689348814741910323 from rfl, ← hb'] at eb
    rw [eb, ha, by8_by8 g2 g1 (fun b hb => g1_lt ⟨b, hb⟩)]
    rfl
  have hc : c = by8 (pop 8) 8 x := by
    have ec := s3 8 x
    rw [show mk 15 8 = 1085102592571150095 from rfl, ← hb, ← hc'] at ec
    exact ec
  have bnd := fun (g : Nat → Nat) (m : Nat) => by8_le g m x
  have la : a ≤ 255 * 72340172838076673 := by rw [ha]; exact bnd g1 255 (fun b hb => by have := g1_lt ⟨b, hb⟩; simp only at this; omega)
  have lb : b ≤ 68 * 72340172838076673 := by rw [hb]; exact bnd h2 68 (fun b hb => by have := h2_low ⟨b, hb⟩; simp only at this; omega)
  have hp : pop 64 x = pop 8 (x % 256) + pop 8 (x / 256 % 256) + pop 8 (x / 256 / 256 % 256) + pop 8 (x / 256 / 256 / 256 % 256) + pop 8 (x / 256 / 256 / 256 / 256 % 256) + pop 8 (x / 256 / 256 / 256 / 256 / 256 % 256) + pop 8 (x / 256 / 256 / 256 / 256 / 256 / 256 % 256) + pop 8 (x / 256 / 256 / 256 / 256 / 256 / 256 / 256 % 256) := by
    have st : ∀ n y, pop (8 + n) y = pop 8 (y % 256) + pop n (y / 256) := fun n y => by
      rw [pop_add]
      have := pop_mod 8 y 8 (by omega)
      rw [show (2 : Nat) ^ 8 = 256 from rfl] at *
      rw [this]
    rw [show (64 : Nat) = 8 + (8 + (8 + (8 + (8 + (8 + (8 + (8 + 0))))))) from rfl]
    simp only [st]
    simp only [pop]
    omega
  have c8 : c = pop 8 (x % 256) + 256 * (pop 8 (x / 256 % 256) + 256 * (pop 8 (x / 256 / 256 % 256) + 256 * (pop 8 (x / 256 / 256 / 256 % 256) + 256 * (pop 8 (x / 256 / 256 / 256 / 256 % 256) + 256 * (pop 8 (x / 256 / 256 / 256 / 256 / 256 % 256) + 256 * (pop 8 (x / 256 / 256 / 256 / 256 / 256 / 256 % 256) + 256 * (pop 8 (x / 256 / 256 / 256 / 256 / 256 / 256 / 256 % 256)))))))) := by
    rw [hc]; simp only [by8, Nat.mul_zero, Nat.add_zero]
  have k0 := pop_le 8 (x % 256)
  have k1 := pop_le 8 (x / 256 % 256)
  have k2 := pop_le 8 (x / 256 / 256 % 256)
  have k3 := pop_le 8 (x / 256 / 256 / 256 % 256)
  have k4 := pop_le 8 (x / 256 / 256 / 256 / 256 % 256)
  have k5 := pop_le 8 (x / 256 / 256 / 256 / 256 / 256 % 256)
  have k6 := pop_le 8 (x / 256 / 256 / 256 / 256 / 256 / 256 % 256)
  have k7 := pop_le 8 (x / 256 / 256 / 256 / 256 / 256 / 256 / 256 % 256)
  clear ha hb hc bnd ha' hb' hc'
  generalize pop 8 (x % 256) = p0 at *
  generalize pop 8 (x / 256 % 256) = p1 at *
  generalize pop 8 (x / 256 / 256 % 256) = p2 at *
  generalize pop 8 (x / 256 / 256 / 256 % 256) = p3 at *
  generalize pop 8 (x / 256 / 256 / 256 / 256 % 256) = p4 at *
  generalize pop 8 (x / 256 / 256 / 256 / 256 / 256 % 256) = p5 at *
  generalize pop 8 (x / 256 / 256 / 256 / 256 / 256 / 256 % 256) = p6 at *
  generalize pop 8 (x / 256 / 256 / 256 / 256 / 256 / 256 / 256 % 256) = p7 at *
  rw [c8] at hd'
  obtain ⟨t1, t2, t3, t4⟩ := ones_tail p0 p1 p2 p3 p4 p5 p6 p7 k0 k1 k2 k3 k4 k5 k6 k7 d e f hd' he' hf'
  rw [hp]
  exact ⟨by omega, by omega, by omega, t1, t2, t3, t4⟩
end Go.Proofs.Ytpgcdfdfbcmodaa
