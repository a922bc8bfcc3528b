/- What stands behind prefix.Compare: bytes.Compare, cmp.Compare, cmp.Or. -/
import Derived.Test.YtmccnmccegbdjaaDoorPfxCommon
import Derived.Laws.Externs
import GoSem.Extern.BytealgCompare
namespace Go.Proofs.YtmccnmccegbdjaaDoor
open Go.RowKit Go.Sort
set_option linter.unusedVariables false
set_option linter.unusedSimpArgs false
/-- Which of two addresses comes first: by the first byte that differs. -/
def cmpN (A B : List Nat) : Int := match (List.range 16).find? fun i => A.getD i 0 != B.getD i 0 with
  | some i => if A.getD i 0 < B.getD i 0 then -1 else 1
  | none => 0
def toBA (A : List Nat) : ByteArray := ⟨(A.map fun x => UInt8.ofNat x).toArray⟩
theorem loadBytes_run (w : World) (b : Nat) : ∀ (L : List Nat) (o : Nat) (acc : ByteArray), (∀ x ∈ L, x < 256) → w.rangeAt b o (bv L) →
    (Extern.Bytes.loadBytes ⟨b, o, none⟩ L.length acc).run Tryd.prog w = .ok ⟨acc.data ++ (L.map fun x => UInt8.ofNat x).toArray⟩ w
  | [], o, acc, _, _ => by simp [Extern.Bytes.loadBytes]
  | x :: L, o, acc, hx, hr => by
    have h0 := hr 0 (.int .u8 (x : Int)) (by simp [bv])
    rw [Nat.add_zero] at h0
    have hl : (load ⟨b, o, none⟩).run Tryd.prog w = .ok (.int .u8 (x : Int)) w := by rw [run_load, h0]
    have ih := loadBytes_run w b L (o + 1) (acc.push (UInt8.ofNat x)) (fun y hy => hx y (by simp [hy])) (fun j v hj => by
      have := hr (j + 1) v (by simpa [bv] using hj)
      rw [show o + 1 + j = o + (j + 1) by omega]; exact this)
    simp only [List.length_cons, Extern.Bytes.loadBytes, Sem.run_bind, hl, Result.andThen_ok]
    have e1 : (⟨b, o, none⟩ : Addr).add 1 = ⟨b, o + 1, none⟩ := Addr.add_mid b o 1
    have e2 : Nat.toUInt8 (x : Int).toNat = UInt8.ofNat x := rfl
    rw [e1, e2, ih]
    simp [ByteArray.push]
theorem find?_same {α : Type} (f g : α → Bool) : ∀ (l : List α), (∀ x ∈ l, f x = g x) → l.find? f = l.find? g
  | [], _ => rfl
  | x :: l, h => by
    rw [List.find?_cons, List.find?_cons, h x (by simp), find?_same f g l (fun y hy => h y (by simp [hy]))]
theorem toBA_get (A : List Nat) (i : Nat) (hi : i < A.length) : (toBA A)[i]! = UInt8.ofNat (A.getD i 0) := by
  have hs : i < (toBA A).size := by simp [toBA, ByteArray.size, hi]
  rw [getElem!_pos (toBA A) i hs]
  simp [toBA, List.getD_eq_getElem?_getD, List.getElem?_eq_getElem hi, ByteArray.getElem_eq_getElem_data]
theorem u8_inj {x y : Nat} (hx : x < 256) (hy : y < 256) : UInt8.ofNat x = UInt8.ofNat y ↔ x = y := by
  constructor
  · intro h
    have := congrArg UInt8.toNat h
    simp [UInt8.toNat_ofNat'] at this; omega
  · intro h; rw [h]
theorem u8_lt {x y : Nat} (hx : x < 256) (hy : y < 256) : UInt8.ofNat x < UInt8.ofNat y ↔ x < y := by
  rw [UInt8.lt_iff_toNat_lt, UInt8.toNat_ofNat', UInt8.toNat_ofNat']
  omega
theorem cmp_toBA (A B : List Nat) (hA : A.length = 16) (hB : B.length = 16) (sA : ∀ i, A.getD i 0 < 256) (sB : ∀ i, B.getD i 0 < 256) : Extern.BytealgCompare.cmp (toBA A) (toBA B) = cmpN A B := by
  have z1 : (toBA A).size = 16 := by simp [toBA, ByteArray.size, hA]
  have z2 : (toBA B).size = 16 := by simp [toBA, ByteArray.size, hB]
  unfold Extern.BytealgCompare.cmp cmpN
  rw [z1, z2, find?_same _ (fun i => A.getD i 0 != B.getD i 0) (List.range (min 16 16)) (fun i hi => by
    have hi16 : i < 16 := by simpa using hi
    rw [toBA_get A i (by omega), toBA_get B i (by omega)]
    rw [Bool.eq_iff_iff, bne_iff_ne, bne_iff_ne, ne_eq, ne_eq, u8_inj (sA i) (sB i)])]
  show (match (List.range 16).find? _ with | some i => _ | none => _) = _
  cases e : (List.range 16).find? (fun i => A.getD i 0 != B.getD i 0) with
  | none => rfl
  | some i =>
    have hi16 : i < 16 := List.mem_range.1 (List.mem_of_find?_eq_some e)
    show (if (toBA A)[i]! < (toBA B)[i]! then (-1 : Int) else 1) = _
    rw [toBA_get A i (by omega), toBA_get B i (by omega)]
    by_cases h : A.getD i 0 < B.getD i 0
    · rw [if_pos ((u8_lt (sA i) (sB i)).2 h)]; simp only [if_pos h]
    · rw [if_neg (fun h2 => h ((u8_lt (sA i) (sB i)).1 h2))]; simp only [if_neg h]
theorem compare_run (w : World) (A B : List Nat) (hA : A.length = 16) (hB : B.length = 16) (sA : ∀ i, A.getD i 0 < 256) (sB : ∀ i, B.getD i 0 < 256) (g h o1 o2 c1 c2 : Nat) (h1 : w.rangeAt g o1 (bv A)) (h2 : w.rangeAt h o2 (bv B)) :
    (callFunc 52 #[.slice (some ⟨g, o1, none⟩) 16 c1, .slice (some ⟨h, o2, none⟩) 16 c2]).run Tryd.prog w = .ok (.value (.int .i64 (cmpN A B))) w := by
  have mem : ∀ (L : List Nat), L.length = 16 → (∀ i, L.getD i 0 < 256) → ∀ x ∈ L, x < 256 := fun L hL hs x hx => by
    obtain ⟨i, hi, rfl⟩ := List.getElem_of_mem hx
    have := hs i
    rwa [List.getD_eq_getElem?_getD, List.getElem?_eq_getElem hi] at this
  rw [run_callFunc_extern (e := Extern.BytealgCompare.compare) Tryd.func52 (by kernel_rfl) (by kernel_rfl) (by kernel_rfl) (by kernel_rfl)]
  have r1 := loadBytes_run w g A o1 .empty (mem A hA sA) h1
  have r2 := loadBytes_run w h B o2 .empty (mem B hB sB) h2
  rw [hA] at r1
  rw [hB] at r2
  have b1 : (Extern.Bytes.bytesOf (.slice (some ⟨g, o1, none⟩) 16 c1)).run Tryd.prog w = .ok (toBA A) w := by
    show (Extern.Bytes.loadBytes _ 16 .empty).run Tryd.prog w = _
    rw [r1]; have : (ByteArray.empty).data = #[] := rfl
    simp [toBA, this]
  have b2 : (Extern.Bytes.bytesOf (.slice (some ⟨h, o2, none⟩) 16 c2)).run Tryd.prog w = .ok (toBA B) w := by
    show (Extern.Bytes.loadBytes _ 16 .empty).run Tryd.prog w = _
    rw [r2]; have : (ByteArray.empty).data = #[] := rfl
    simp [toBA, this]
  change (Sem.run Tryd.prog (do pure (goInt (Extern.BytealgCompare.cmp (← Extern.Bytes.bytesOf (.slice (some ⟨g, o1, none⟩) 16 c1)) (← Extern.Bytes.bytesOf (.slice (some ⟨h, o2, none⟩) 16 c2))))) w).andThen _ = _
  simp only [Sem.run_bind, b1, b2, Result.andThen_ok, Sem.run_pure, cmp_toBA A B hA hB sA sB]
  rfl
set_option maxRecDepth 100000 in
theorem bytesCompare_calls (w : World) (A B : List Nat) (hA : A.length = 16) (hB : B.length = 16) (sA : ∀ i, A.getD i 0 < 256) (sB : ∀ i, B.getD i 0 < 256) (g h o1 o2 c1 c2 : Nat) (h1 : w.rangeAt g o1 (bv A)) (h2 : w.rangeAt h o2 (bv B)) :
    Calls Tryd.prog 44 #[.slice (some ⟨g, o1, none⟩) 16 c1, .slice (some ⟨h, o2, none⟩) 16 c2] w fun e w' => e = .returned (.int .i64 (cmpN A B)) ∧ w = w' := by
  have hd := compare_run w A B hA hB sA sB g h o1 o2 c1 c2 h1 h2
  clear h1 h2 sA sB hA hB
  go_enter Tryd.func44, Tryd.ntmps44
  go_wp2
  go_ret
  exact ⟨rfl, rfl⟩
def cmpI (x y : Int) : Int := if x < y then -1 else if y < x then 1 else 0
set_option maxRecDepth 100000 in
theorem cmpCompare_calls (w : World) (x y : Int) : Calls Tryd.prog 43 #[.int .i64 x, .int .i64 y] w fun e w' => e = .returned (.int .i64 (cmpI x y)) ∧ w = w' := by
  unfold cmpI
  by_cases h1 : x < y
  · rw [if_pos h1]
    go_enter Tryd.func43, Tryd.ntmps43
    go_wp2
    go_ret
    exact ⟨rfl, rfl⟩
  · rw [if_neg h1]
    by_cases h2 : y < x
    · rw [if_pos h2]
      go_enter Tryd.func43, Tryd.ntmps43
      go_wp2
      go_ret
      exact ⟨rfl, rfl⟩
    · rw [if_neg h2]
      go_enter Tryd.func43, Tryd.ntmps43
      go_wp2
      go_ret
      exact ⟨rfl, rfl⟩
end Go.Proofs.YtmccnmccegbdjaaDoor
