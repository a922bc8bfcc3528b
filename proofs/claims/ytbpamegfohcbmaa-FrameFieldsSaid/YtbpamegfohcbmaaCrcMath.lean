/- The plain law of the sums (CRC-32) over lists of bytes: the shift is linear and one to one; the table; the bits of a text as one number. No program in sight. -/
namespace Go.Proofs.Ytbpamegfohcbmaa

/-- One shift of a register (of any size), with the exclusive-or where the lowest bit was 1. -/
def T (x : Nat) : Nat := if x % 2 = 1 then (x / 2) ^^^ 3988292384 else x / 2
def Tn : Nat → Nat → Nat
 | 0, x => x
 | n+1, x => T (Tn n x)
def tab (i : Nat) : Nat := Tn 8 i

theorem xor_div2 (x y : Nat) : (x ^^^ y) / 2 = x / 2 ^^^ y / 2 := by
  apply Nat.eq_of_testBit_eq; intro i
  simp [Nat.testBit_div_two, Nat.testBit_xor]
theorem xor_mod2 (x y : Nat) : (x ^^^ y) % 2 = (x % 2 + y % 2) % 2 := by
  have h := Nat.xor_mod_two_eq_one (a := x) (b := y)
  omega
theorem xor_join (n x y : Nat) (h : y < 2 ^ n) : x * 2 ^ n ^^^ y = x * 2 ^ n + y := by
  rw [Nat.mul_comm x, Nat.two_pow_add_eq_or_of_lt h]
  apply Nat.eq_of_testBit_eq; intro i
  rw [Nat.testBit_xor, Nat.testBit_or, Nat.mul_comm, Nat.testBit_mul_two_pow]
  by_cases hi : n ≤ i
  · have : y.testBit i = false := Nat.testBit_lt_two_pow (Nat.lt_of_lt_of_le h (Nat.pow_le_pow_right (by omega) hi))
    simp [this]
  · simp [hi]
theorem T_xor (x y : Nat) : T (x ^^^ y) = T x ^^^ T y := by
  unfold T
  rw [xor_div2, xor_mod2]
  rcases Nat.mod_two_eq_zero_or_one x with hx | hx <;> rcases Nat.mod_two_eq_zero_or_one y with hy | hy <;> simp [hx, hy]
  · ac_rfl
  · ac_rfl
  · rw [show (x / 2 ^^^ 3988292384) ^^^ (y / 2 ^^^ 3988292384) = (x / 2 ^^^ y / 2) ^^^ (3988292384 ^^^ 3988292384) by ac_rfl]
    simp
theorem T_zero : T 0 = 0 := rfl
theorem T_double (x : Nat) : T (2 * x) = x := by unfold T; rw [if_neg (by omega)]; omega
theorem Tn_xor (n x y : Nat) : Tn n (x ^^^ y) = Tn n x ^^^ Tn n y := by
  induction n with
  | zero => rfl
  | succ n ih => simp only [Tn, ih, T_xor]
theorem Tn_zero (n : Nat) : Tn n 0 = 0 := by
  induction n with
  | zero => rfl
  | succ n ih => simp only [Tn, ih, T_zero]
theorem Tn_T (n x : Nat) : Tn n (T x) = Tn (n + 1) x := by
  induction n with
  | zero => rfl
  | succ n ih => simp only [Tn] at *; rw [ih]
theorem Tn_add (m n x : Nat) : Tn (m + n) x = Tn m (Tn n x) := by
  induction m with
  | zero => simp [Tn]
  | succ m ih => rw [Nat.succ_add]; simp only [Tn, ih]
theorem Tn_shift (n x : Nat) : Tn n (x * 2 ^ n) = x := by
  induction n generalizing x with
  | zero => simp [Tn]
  | succ n ih =>
    rw [← Tn_T, show x * 2 ^ (n + 1) = 2 * (x * 2 ^ n) by rw [Nat.pow_succ]; ac_rfl, T_double, ih]
theorem T_lt (x : Nat) (h : x < 4294967296) : T x < 4294967296 := by
  unfold T; split
  · exact Nat.xor_lt_two_pow (n := 32) (by omega) (by omega)
  · omega
theorem Tn_lt (n x : Nat) (h : x < 4294967296) : Tn n x < 4294967296 := by
  induction n with
  | zero => exact h
  | succ n ih => exact T_lt _ ih
theorem T_ne (x : Nat) (h : x < 4294967296) (h0 : x ≠ 0) : T x ≠ 0 := by
  unfold T; split
  · intro e
    have : x / 2 = 3988292384 := by
      have := congrArg (· ^^^ 3988292384) e
      simpa [Nat.xor_assoc] using this
    omega
  · omega
theorem Tn_ne (n x : Nat) (h : x < 4294967296) (h0 : x ≠ 0) : Tn n x ≠ 0 := by
  induction n with
  | zero => exact h0
  | succ n ih => exact T_ne _ (Tn_lt n x h) ih
theorem xor_eq_zero (x y : Nat) (h : x ^^^ y = 0) : x = y := by
  have := congrArg (· ^^^ y) h
  simpa [Nat.xor_assoc] using this
theorem Tn_inj (n x y : Nat) (hx : x < 4294967296) (hy : y < 4294967296) (h : Tn n x = Tn n y) : x = y := by
  by_cases e : x = y
  · exact e
  · exfalso
    refine Tn_ne n (x ^^^ y) (Nat.xor_lt_two_pow (n := 32) hx hy) (fun h0 => e (xor_eq_zero _ _ h0)) ?_
    rw [Tn_xor, h]; simp

/-! A text's bits as one number, the lowest first. -/
def V : List UInt8 → Nat
  | [] => 0
  | c :: l => c.toNat + 256 * V l
theorem V_lt (l : List UInt8) : V l < 256 ^ l.length := by
  induction l with
  | nil => simp [V]
  | cons c l ih =>
    have := c.toNat_lt
    simp only [V, List.length_cons, Nat.pow_succ]; omega
theorem V_append (l m : List UInt8) : V (l ++ m) = V l + 256 ^ l.length * V m := by
  induction l with
  | nil => simp [V]
  | cons c l ih => simp only [List.cons_append, V, ih, List.length_cons, Nat.pow_succ, Nat.mul_add]; rw [Nat.add_assoc, show 256 * (256 ^ l.length * V m) = 256 ^ l.length * 256 * V m by ac_rfl]
theorem V_inj : ∀ (l m : List UInt8), l.length = m.length → V l = V m → l = m
  | [], [], _, _ => rfl
  | [], _ :: _, h, _ => by simp at h
  | _ :: _, [], h, _ => by simp at h
  | c :: l, d :: m, h, e => by
    have h1 := c.toNat_lt
    have h2 := d.toNat_lt
    simp only [V] at e
    have e1 : c.toNat = d.toNat := by omega
    have e2 : V l = V m := by omega
    rw [UInt8.toNat_inj.1 e1, V_inj l m (by simpa using h) e2]

/-- The register behind bytes, one byte a step. -/
def upd (x : Nat) (c : UInt8) : Nat := tab ((x % 256) ^^^ c.toNat) ^^^ x / 256
def reg (x : Nat) (l : List UInt8) : Nat := l.foldl upd x
theorem tab_split (x : Nat) : tab (x % 256) ^^^ x / 256 = Tn 8 x := by
  have h1 : Tn 8 (x / 256 * 2 ^ 8) = x / 256 := Tn_shift 8 _
  have h2 : x / 256 * 2 ^ 8 ^^^ x % 256 = x := by
    rw [xor_join 8 _ _ (by omega)]; omega
  calc tab (x % 256) ^^^ x / 256 = Tn 8 (x / 256 * 2 ^ 8) ^^^ Tn 8 (x % 256) := by rw [h1, tab, Nat.xor_comm]
    _ = Tn 8 x := by rw [← Tn_xor, h2]
theorem xor_mod256 (x y : Nat) (h : y < 256) : (x ^^^ y) % 256 = x % 256 ^^^ y := by
  have := Nat.xor_mod_two_pow (a := x) (b := y) (n := 8)
  rw [show (2 : Nat) ^ 8 = 256 from rfl] at this
  rw [this, Nat.mod_eq_of_lt h]
theorem xor_div256 (x y : Nat) (h : y < 256) : (x ^^^ y) / 256 = x / 256 := by
  have := Nat.xor_div_two_pow (a := x) (b := y) (n := 8)
  rw [show (2 : Nat) ^ 8 = 256 from rfl] at this
  rw [this, Nat.div_eq_of_lt h]; simp
theorem upd_eq (x : Nat) (c : UInt8) : upd x c = Tn 8 (x ^^^ c.toNat) := by
  have h := c.toNat_lt
  rw [← tab_split, xor_mod256 _ _ h, xor_div256 _ _ h]; rfl
theorem upd_lt (x : Nat) (c : UInt8) (h : x < 4294967296) : upd x c < 4294967296 := by
  rw [upd_eq]
  have := c.toNat_lt
  exact Tn_lt _ _ (Nat.xor_lt_two_pow (n := 32) h (by omega))
theorem reg_lt (l : List UInt8) : ∀ x, x < 4294967296 → reg x l < 4294967296 := by
  induction l with
  | nil => intro x h; exact h
  | cons c l ih => intro x h; exact ih _ (upd_lt x c h)
theorem reg_nil (x : Nat) : reg x [] = x := rfl
theorem reg_cons (x : Nat) (c : UInt8) (l : List UInt8) : reg x (c :: l) = reg (upd x c) l := rfl
theorem reg_append (x : Nat) (l m : List UInt8) : reg x (l ++ m) = reg (reg x l) m := by simp [reg, List.foldl_append]
theorem reg_V (l : List UInt8) : ∀ x, reg x l = Tn (8 * l.length) (x ^^^ V l) := by
  induction l with
  | nil => intro x; simp [reg, V, Tn]
  | cons c l ih =>
    intro x
    have h := c.toNat_lt
    have e : V (c :: l) = V l * 2 ^ 8 ^^^ c.toNat := by
      rw [xor_join 8 _ _ (by omega)]; simp only [V]; omega
    have s : Tn 8 (V l * 2 ^ 8) = V l := Tn_shift 8 _
    rw [reg_cons, ih, upd_eq, e, List.length_cons, show 8 * (l.length + 1) = 8 * l.length + 8 by omega, Tn_add,
      show x ^^^ (V l * 2 ^ 8 ^^^ c.toNat) = (x ^^^ c.toNat) ^^^ V l * 2 ^ 8 by ac_rfl, Tn_xor 8 (x ^^^ c.toNat), s]

/-- The sum of bytes. -/
def sum (l : List UInt8) : Nat := 4294967295 ^^^ reg 4294967295 l
def more (s : Nat) (l : List UInt8) : Nat := 4294967295 ^^^ reg (4294967295 ^^^ s) l
theorem not_lt (x : Nat) (h : x < 4294967296) : 4294967295 ^^^ x < 4294967296 := Nat.xor_lt_two_pow (n := 32) (by omega) h
theorem not_not (x : Nat) : 4294967295 ^^^ (4294967295 ^^^ x) = x := by rw [← Nat.xor_assoc]; simp
theorem sum_lt (l : List UInt8) : sum l < 4294967296 := not_lt _ (reg_lt l _ (by omega))
theorem more_lt (s : Nat) (h : s < 4294967296) (l : List UInt8) : more s l < 4294967296 := not_lt _ (reg_lt l _ (not_lt _ h))
theorem more_zero (l : List UInt8) : more 0 l = sum l := rfl
theorem more_sum (l m : List UInt8) : more (sum l) m = sum (l ++ m) := by simp only [more, sum, not_not, reg_append]

/-- A number's four bytes, the lowest first. -/
def le4 (x : Nat) : List UInt8 := [UInt8.ofNat x, UInt8.ofNat (x / 256), UInt8.ofNat (x / 65536), UInt8.ofNat (x / 16777216)]
theorem le4_length (x : Nat) : (le4 x).length = 4 := rfl
theorem V_le4 (x : Nat) (h : x < 4294967296) : V (le4 x) = x := by
  simp only [le4, V, UInt8.toNat_ofNat']
  omega
theorem le4_V : ∀ (l : List UInt8), l.length = 4 → le4 (V l) = l := by
  intro l h
  refine V_inj _ _ (by rw [le4_length, h]) (V_le4 _ ?_)
  have := V_lt l
  rw [h] at this
  omega
def sealL (l : List UInt8) : List UInt8 := l ++ le4 (sum l)
theorem sealL_length (l : List UInt8) : (sealL l).length = l.length + 4 := by simp [sealL, le4_length]

/-- The register behind sealed bytes is one and the same number. -/
theorem reg_sealed (l q : List UInt8) (hq : q.length = 4) : reg 4294967295 (l ++ q) = Tn 32 (reg 4294967295 l ^^^ V q) := by
  rw [reg_append, reg_V q, hq]
theorem sealed_iff (l q : List UInt8) (hq : q.length = 4) : q = le4 (sum l) ↔ reg 4294967295 (l ++ q) = Tn 32 4294967295 := by
  have hr := reg_lt l 4294967295 (by omega)
  have hV : V q < 4294967296 := by have := V_lt q; rw [hq] at this; omega
  rw [reg_sealed l q hq]
  constructor
  · rintro rfl
    rw [V_le4 _ (sum_lt l), sum, show reg 4294967295 l ^^^ (4294967295 ^^^ reg 4294967295 l) = 4294967295 ^^^ (reg 4294967295 l ^^^ reg 4294967295 l) by ac_rfl]
    simp
  · intro h
    have h1 := Tn_inj 32 _ _ (Nat.xor_lt_two_pow (n := 32) hr hV) (by omega) h
    have h2 : V q = sum l := by
      have := congrArg (· ^^^ reg 4294967295 l) h1
      simp only [sum]
      rw [← this, show reg 4294967295 l ^^^ V q ^^^ reg 4294967295 l = V q ^^^ (reg 4294967295 l ^^^ reg 4294967295 l) by ac_rfl]
      simp
    rw [← le4_V q hq, h2]
/-- Bytes that differ from sealed ones by some of up to 32 bits in a row are not sealed. -/
theorem burst (t u : List UInt8) (hl : u.length = t.length) (B at_ : Nat) (hB : B < 4294967296) (h0 : B ≠ 0) (ha : at_ ≤ 8 * t.length) (hd : V u = V t ^^^ B * 2 ^ at_) (ht : reg 4294967295 t = Tn 32 4294967295) :
    reg 4294967295 u ≠ Tn 32 4294967295 := by
  intro hu
  rw [reg_V] at ht hu
  rw [hd, hl, ← Nat.xor_assoc, Tn_xor, ht] at hu
  have e : Tn (8 * t.length) (B * 2 ^ at_) = 0 := by
    have := congrArg (Tn 32 4294967295 ^^^ ·) hu
    simp only [← Nat.xor_assoc] at this
    simpa using this
  rw [show 8 * t.length = (8 * t.length - at_) + at_ by omega, Tn_add, Tn_shift] at e
  exact Tn_ne _ _ hB h0 e
end Go.Proofs.Ytbpamegfohcbmaa
