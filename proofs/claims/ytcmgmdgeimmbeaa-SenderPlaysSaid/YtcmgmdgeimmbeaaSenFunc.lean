/- The walks of slices.IndexFunc, ContainsFunc, DeleteFunc, of whatever function that only reads. -/
import Derived.Test.YtcmgmdgeimmbeaaSackMore2
import Derived.Deep.RegionLaw
import Derived.Deep.Draws
import Derived.Lib.SliceRun
import Derived.Deep.Upon
namespace Go.Proofs.Ytcmgmdgeimmbeaa
open Go.RowKit
set_option linter.unusedVariables false
set_option linter.unusedSimpArgs false
/-- A function value gives p at x, in whatever world of some. -/
def Gives (g : Nat) (lb : Array Value) (v : Value) (b : Bool) (W : World → Prop) : Prop := ∀ w, W w → Calls Try.prog g (#[v] ++ lb) w fun e w' => e = .returned (.bool b) ∧ ∃ q, w' = w.drewN q
/-- The first one's place, or -1. -/
def idxF {α : Type} (p : α → Bool) : List α → Int
  | [] => -1
  | x :: l => if p x = true then 0 else if idxF p l = -1 then -1 else idxF p l + 1
theorem idxF_none {α : Type} (p : α → Bool) : ∀ l : List α, (∀ (j : Nat) x, l[j]? = some x → p x = false) → idxF p l = -1
  | [], _ => rfl
  | x :: l, h => by
    have h0 := h 0 x rfl
    have := idxF_none p l fun j y hj => h (j + 1) y (by simpa using hj)
    simp [idxF, h0, this]
theorem idxF_at {α : Type} (p : α → Bool) : ∀ (l : List α) (k : Nat) (x : α), l[k]? = some x → p x = true → (∀ (j : Nat) y, j < k → l[j]? = some y → p y = false) → idxF p l = (k : Int)
  | [], k, x, h, _, _ => by simp at h
  | y :: l, 0, x, h, hp, _ => by
    obtain rfl : y = x := by simpa using h
    simp [idxF, hp]
  | y :: l, k + 1, x, h, hp, hn => by
    have h0 := hn 0 y (by omega) rfl
    have := idxF_at p l k x (by simpa using h) hp fun j z hj hz => hn (j + 1) z (by omega) (by simpa using hz)
    simp [idxF, h0, this]
    try omega
theorem idxF_any {α : Type} (p : α → Bool) : ∀ (l : List α), decide (0 ≤ idxF p l) = l.any p ∧ -1 ≤ idxF p l
  | [] => ⟨rfl, by simp [idxF]⟩
  | x :: l => by
    obtain ⟨h1, h2⟩ := idxF_any p l
    cases hx : p x with
    | true => simp [idxF, hx]
    | false =>
      simp only [idxF, hx, List.any_cons, Bool.false_or]
      rw [← h1]
      by_cases e : idxF p l = -1
      · simp [e]
      · simp only [Bool.false_eq_true, if_false, if_neg e]
        exact ⟨by rw [decide_eq_true (by omega), decide_eq_true (by omega)], by omega⟩
theorem below_drewN_of {B n : Nat} {w : World} : Below B w (w.drewN n) := ⟨rfl, rfl, rfl, Nat.le_refl _, fun _ _ => rfl⟩
set_option maxHeartbeats 2000000 in
theorem IndexFunc_str (lb : Array Value) (p : ByteArray → Bool) (ad : Option Addr) (cap : Nat) (l : List ByteArray) (w : World) (hn : l.length ≤ 9223372036854775807)
    (hc : ∀ (j : Nat) x, l[j]? = some x → ∃ a, ad = some a ∧ a.spot = none ∧ w.cell? ⟨a.block, a.off + j, none⟩ = some (.string x)) (hp : ∀ (j : Nat) x, l[j]? = some x → Gives 30 lb (.string x) (p x) (fun W => ∃ q, W = w.drewN q)) :
    Calls Try.prog 42 #[.slice ad l.length cap, .func (.func 30) #[] lb] w fun e w' => e = .returned (.int .i64 (idxF p l)) ∧ ∃ q, w' = w.drewN q := by
  have HC := Lib.hid hc; clear hc
  have HP := Lib.hid hp; clear hp
  go_enter Try.func42, Try.ntmps42
  go_wp2
  go_loopw [8] (fun s8 wr => ∃ kk q : Nat, kk ≤ l.length ∧ s8 = .int .i64 kk ∧ wr = w.drewN q ∧ Hid (∀ (j : Nat) x, j < kk → l[j]? = some x → p x = false)) (fun s8 _ => l.length - (intOf s8).toNat)
  case atStart => exact ⟨0, 0, Nat.zero_le _, rfl, rfl, Lib.hid fun j x hj => absurd hj (Nat.not_lt_zero _)⟩
  case round =>
    obtain ⟨kk, q, hkk, rfl, rfl, A⟩ := hrel
    by_cases hlt : kk < l.length
    · have hltz : (kk : Int) < (l.length : Int) := by omega
      have hx := List.getElem?_eq_getElem hlt
      have hcall := HP.out kk l[kk] hx
      obtain ⟨⟨ab, ao, asp⟩, rfl, hs, hcell⟩ := HC.out kk l[kk] hx
      simp only at hs hcell
      subst hs
      clear HC HP
      have HX := Lib.hid hx; clear hx
      generalize l[kk] = y at *
      have HCall := Lib.hid hcall; clear hcall
      cases hq : p y with
      | true =>
        rw [hq] at HCall
        have HQ := Lib.hid hq; clear hq
        go_wp2_with (go_at_call 30; refine (HCall.out _ ⟨_, rfl⟩).mono ?_; rintro e w' ⟨rfl, q', rfl⟩)
        go_ret
        exact ⟨by rw [idxF_at p l kk y HX.out HQ.out A.out]; rfl, _, rfl⟩
      | false =>
        rw [hq] at HCall
        have HQ := Lib.hid hq; clear hq
        go_wp2_with (go_at_call 30; refine (HCall.out _ ⟨_, rfl⟩).mono ?_; rintro e w' ⟨rfl, q', rfl⟩)
        refine ⟨⟨kk + 1, _, by omega, rfl, rfl, Lib.hid fun j x hj hx => ?_⟩, by simp only [intOf]; omega⟩
        by_cases e : j = kk
        · subst e
          rw [HX.out] at hx
          obtain rfl : y = x := by simpa using hx
          exact HQ.out
        · exact A.out j x (by omega) hx
    · go_wp2
      go_ret
      refine ⟨?_, q, rfl⟩
      rw [idxF_none p l fun j x hj => A.out j x (by have := (List.getElem?_eq_some_iff.1 hj).1; omega) hj]; rfl
set_option maxHeartbeats 2000000 in
theorem ContainsFunc_str (lb : Array Value) (p : ByteArray → Bool) (ad : Option Addr) (cap : Nat) (l : List ByteArray) (w : World) (hn : l.length ≤ 9223372036854775807)
    (hc : ∀ (j : Nat) x, l[j]? = some x → ∃ a, ad = some a ∧ a.spot = none ∧ w.cell? ⟨a.block, a.off + j, none⟩ = some (.string x)) (hp : ∀ (j : Nat) x, l[j]? = some x → Gives 30 lb (.string x) (p x) (fun W => ∃ q, W = w.drewN q)) :
    Calls Try.prog 29 #[.slice ad l.length cap, .func (.func 30) #[] lb] w fun e w' => e = .returned (.bool (l.any p)) ∧ ∃ q, w' = w.drewN q := by
  have hi := IndexFunc_str lb p ad cap l w hn hc hp
  obtain ⟨ha, -⟩ := idxF_any p l
  rw [← ha]
  clear ha
  generalize idxF p l = i at *
  have HI := Lib.hid hi; clear hi hc hp
  go_enter Try.func29, Try.ntmps29
  go_wp2_with fail
  refine HI.out.mono ?_
  rintro e w1 ⟨rfl, q, rfl⟩
  go_wp2
  go_ret
  exact ⟨rfl, q, rfl⟩
set_option maxHeartbeats 2000000 in
theorem IndexFunc_int (lb : Array Value) (p : Nat → Bool) (ad : Option Addr) (cap : Nat) (l : List Nat) (w : World) (hn : l.length ≤ 9223372036854775807)
    (hc : ∀ (j : Nat) x, l[j]? = some x → ∃ a, ad = some a ∧ a.spot = none ∧ w.cell? ⟨a.block, a.off + j, none⟩ = some (.int .i64 (x : Int))) (hp : ∀ (j : Nat) x, l[j]? = some x → Gives 39 lb (.int .i64 (x : Int)) (p x) (fun W => ∃ q, W = w.drewN q)) :
    Calls Try.prog 47 #[.slice ad l.length cap, .func (.func 39) #[] lb] w fun e w' => e = .returned (.int .i64 (idxF p l)) ∧ ∃ q, w' = w.drewN q := by
  have HC := Lib.hid hc; clear hc
  have HP := Lib.hid hp; clear hp
  go_enter Try.func47, Try.ntmps47
  go_wp2
  go_loopw [8] (fun s8 wr => ∃ kk q : Nat, kk ≤ l.length ∧ s8 = .int .i64 kk ∧ wr = w.drewN q ∧ Hid (∀ (j : Nat) x, j < kk → l[j]? = some x → p x = false)) (fun s8 _ => l.length - (intOf s8).toNat)
  case atStart => exact ⟨0, 0, Nat.zero_le _, rfl, rfl, Lib.hid fun j x hj => absurd hj (Nat.not_lt_zero _)⟩
  case round =>
    obtain ⟨kk, q, hkk, rfl, rfl, A⟩ := hrel
    by_cases hlt : kk < l.length
    · have hltz : (kk : Int) < (l.length : Int) := by omega
      have hx := List.getElem?_eq_getElem hlt
      have hcall := HP.out kk l[kk] hx
      obtain ⟨⟨ab, ao, asp⟩, rfl, hs, hcell⟩ := HC.out kk l[kk] hx
      simp only at hs hcell
      subst hs
      clear HC HP
      have HX := Lib.hid hx; clear hx
      generalize l[kk] = y at *
      have HCall := Lib.hid hcall; clear hcall
      cases hq : p y with
      | true =>
        rw [hq] at HCall
        have HQ := Lib.hid hq; clear hq
        go_wp2_with (go_at_call 39; refine (HCall.out _ ⟨_, rfl⟩).mono ?_; rintro e w' ⟨rfl, q', rfl⟩)
        go_ret
        exact ⟨by rw [idxF_at p l kk y HX.out HQ.out A.out]; rfl, _, rfl⟩
      | false =>
        rw [hq] at HCall
        have HQ := Lib.hid hq; clear hq
        go_wp2_with (go_at_call 39; refine (HCall.out _ ⟨_, rfl⟩).mono ?_; rintro e w' ⟨rfl, q', rfl⟩)
        refine ⟨⟨kk + 1, _, by omega, rfl, rfl, Lib.hid fun j x hj hx => ?_⟩, by simp only [intOf]; omega⟩
        by_cases e : j = kk
        · subst e
          rw [HX.out] at hx
          obtain rfl : y = x := by simpa using hx
          exact HQ.out
        · exact A.out j x (by omega) hx
    · go_wp2
      go_ret
      refine ⟨?_, q, rfl⟩
      rw [idxF_none p l fun j x hj => A.out j x (by have := (List.getElem?_eq_some_iff.1 hj).1; omega) hj]; rfl
set_option maxHeartbeats 2000000 in
theorem ContainsFunc_int (lb : Array Value) (p : Nat → Bool) (ad : Option Addr) (cap : Nat) (l : List Nat) (w : World) (hn : l.length ≤ 9223372036854775807)
    (hc : ∀ (j : Nat) x, l[j]? = some x → ∃ a, ad = some a ∧ a.spot = none ∧ w.cell? ⟨a.block, a.off + j, none⟩ = some (.int .i64 (x : Int))) (hp : ∀ (j : Nat) x, l[j]? = some x → Gives 39 lb (.int .i64 (x : Int)) (p x) (fun W => ∃ q, W = w.drewN q)) :
    Calls Try.prog 38 #[.slice ad l.length cap, .func (.func 39) #[] lb] w fun e w' => e = .returned (.bool (l.any p)) ∧ ∃ q, w' = w.drewN q := by
  have hi := IndexFunc_int lb p ad cap l w hn hc hp
  obtain ⟨ha, -⟩ := idxF_any p l
  rw [← ha]
  clear ha
  generalize idxF p l = i at *
  have HI := Lib.hid hi; clear hi hc hp
  go_enter Try.func38, Try.ntmps38
  go_wp2_with fail
  refine HI.out.mono ?_
  rintro e w1 ⟨rfl, q, rfl⟩
  go_wp2
  go_ret
  exact ⟨rfl, q, rfl⟩
set_option maxHeartbeats 2000000 in
theorem IndexFunc_due (lb : Array Value) (p : Nat → Bool) (ad : Option Addr) (cap : Nat) (l : List Nat) (w : World) (hn : l.length ≤ 9223372036854775807)
    (hc : ∀ (j : Nat) x, l[j]? = some x → ∃ a, ad = some a ∧ a.spot = none ∧ w.cell? ⟨a.block, a.off + j, none⟩ = some (.int .i64 (x : Int))) (hp : ∀ (j : Nat) x, l[j]? = some x → Gives 46 lb (.int .i64 (x : Int)) (p x) (fun W => ∃ q, W = w.drewN q)) :
    Calls Try.prog 47 #[.slice ad l.length cap, .func (.func 46) #[] lb] w fun e w' => e = .returned (.int .i64 (idxF p l)) ∧ ∃ q, w' = w.drewN q := by
  have HC := Lib.hid hc; clear hc
  have HP := Lib.hid hp; clear hp
  go_enter Try.func47, Try.ntmps47
  go_wp2
  go_loopw [8] (fun s8 wr => ∃ kk q : Nat, kk ≤ l.length ∧ s8 = .int .i64 kk ∧ wr = w.drewN q ∧ Hid (∀ (j : Nat) x, j < kk → l[j]? = some x → p x = false)) (fun s8 _ => l.length - (intOf s8).toNat)
  case atStart => exact ⟨0, 0, Nat.zero_le _, rfl, rfl, Lib.hid fun j x hj => absurd hj (Nat.not_lt_zero _)⟩
  case round =>
    obtain ⟨kk, q, hkk, rfl, rfl, A⟩ := hrel
    by_cases hlt : kk < l.length
    · have hltz : (kk : Int) < (l.length : Int) := by omega
      have hx := List.getElem?_eq_getElem hlt
      have hcall := HP.out kk l[kk] hx
      obtain ⟨⟨ab, ao, asp⟩, rfl, hs, hcell⟩ := HC.out kk l[kk] hx
      simp only at hs hcell
      subst hs
      clear HC HP
      have HX := Lib.hid hx; clear hx
      generalize l[kk] = y at *
      have HCall := Lib.hid hcall; clear hcall
      cases hq : p y with
      | true =>
        rw [hq] at HCall
        have HQ := Lib.hid hq; clear hq
        go_wp2_with (go_at_call 46; refine (HCall.out _ ⟨_, rfl⟩).mono ?_; rintro e w' ⟨rfl, q', rfl⟩)
        go_ret
        exact ⟨by rw [idxF_at p l kk y HX.out HQ.out A.out]; rfl, _, rfl⟩
      | false =>
        rw [hq] at HCall
        have HQ := Lib.hid hq; clear hq
        go_wp2_with (go_at_call 46; refine (HCall.out _ ⟨_, rfl⟩).mono ?_; rintro e w' ⟨rfl, q', rfl⟩)
        refine ⟨⟨kk + 1, _, by omega, rfl, rfl, Lib.hid fun j x hj hx => ?_⟩, by simp only [intOf]; omega⟩
        by_cases e : j = kk
        · subst e
          rw [HX.out] at hx
          obtain rfl : y = x := by simpa using hx
          exact HQ.out
        · exact A.out j x (by omega) hx
    · go_wp2
      go_ret
      refine ⟨?_, q, rfl⟩
      rw [idxF_none p l fun j x hj => A.out j x (by have := (List.getElem?_eq_some_iff.1 hj).1; omega) hj]; rfl
set_option maxHeartbeats 2000000 in
theorem ContainsFunc_due (lb : Array Value) (p : Nat → Bool) (ad : Option Addr) (cap : Nat) (l : List Nat) (w : World) (hn : l.length ≤ 9223372036854775807)
    (hc : ∀ (j : Nat) x, l[j]? = some x → ∃ a, ad = some a ∧ a.spot = none ∧ w.cell? ⟨a.block, a.off + j, none⟩ = some (.int .i64 (x : Int))) (hp : ∀ (j : Nat) x, l[j]? = some x → Gives 46 lb (.int .i64 (x : Int)) (p x) (fun W => ∃ q, W = w.drewN q)) :
    Calls Try.prog 38 #[.slice ad l.length cap, .func (.func 46) #[] lb] w fun e w' => e = .returned (.bool (l.any p)) ∧ ∃ q, w' = w.drewN q := by
  have hi := IndexFunc_due lb p ad cap l w hn hc hp
  obtain ⟨ha, -⟩ := idxF_any p l
  rw [← ha]
  clear ha
  generalize idxF p l = i at *
  have HI := Lib.hid hi; clear hi hc hp
  go_enter Try.func38, Try.ntmps38
  go_wp2_with fail
  refine HI.out.mono ?_
  rintro e w1 ⟨rfl, q, rfl⟩
  go_wp2
  go_ret
  exact ⟨rfl, q, rfl⟩
end Go.Proofs.Ytcmgmdgeimmbeaa
