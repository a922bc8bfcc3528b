/- The walk of Link.All. -/
import Derived.Test.YthnddkcicpoboaaLinkArrive
namespace Go.Proofs.Ythnddkcicpoboaa
open Go.RowKit
set_option linter.unusedVariables false
set_option linter.unusedSimpArgs false
def sliceLen : Value → Nat
  | .slice _ n _ => n
  | _ => 0
theorem sliceLen_own {w : World} {B : Nat} {e : TypeId} {sz : Nat} {v : Value} {n : Nat} {xs : List Value} (h : w.ownsRow B e sz v n xs) : sliceLen v = n := by
  rcases h.2 with ⟨rfl, rfl⟩ | ⟨g, cap, cur, rfl, _⟩ <;> rfl
/-- Arrive, of whatever there is. -/
theorem Arrive_any (w : World) (B H l : Nat) (v u : Value) (z : ByteArray) (zs xs ys : List ByteArray) (h : LkR B H l w v u xs ys) (hz : xs ++ ys = z :: zs) (hn : zs.length ≤ 1000000) :
   Calls Try.prog 9 #[.pointer (some ⟨l, 0, none⟩)] w fun e w' => e = .returned (.tuple #[.string z, .bool true]) ∧ Below B w w' ∧ OnlyAt l w w' ∧ ∃ v' u' xs' ys', LkR B H l w' v' u' xs' ys' ∧ xs' ++ ys' = zs := by
  cases xs with
  | nil =>
    rw [List.nil_append] at hz
    subst hz
    refine (Arrive_late w B H l v u z zs h hn).mono ?_
    rintro e w' ⟨rfl, hb, ho, v', hL⟩
    exact ⟨rfl, hb, ho, v', _, zs, [], hL, List.append_nil _⟩
  | cons x xs =>
    rw [List.cons_append] at hz
    obtain ⟨rfl, rfl⟩ := List.cons.inj hz
    rw [List.length_append] at hn
    refine (Arrive_one w B H l v u x xs ys h (by omega) (by omega)).mono ?_
    rintro e w' ⟨rfl, hb, ho, v', hL⟩
    exact ⟨rfl, hb, ho, v', u, xs, ys, hL, rfl⟩
theorem LkR.len_any {B H l : Nat} {w : World} {v u : Value} {xs ys zs : List ByteArray} (h : LkR B H l w v u xs ys) (hz : xs ++ ys = zs) (hn : zs.length ≤ 1000000) :
   Calls Try.prog 11 #[.pointer (some ⟨l, 0, none⟩)] w fun e w' => e = .returned (.int .i64 ((zs.length : Nat) : Int)) ∧ ∃ d, w' = w.drewN d := by
  subst hz
  rw [List.length_append] at *
  exact h.len (by omega) (by omega)
theorem ownsRow_only {l : Nat} {w w' : World} {B : Nat} {e : TypeId} {sz : Nat} {v : Value} {n : Nat} {xs : List Value} (h : w.ownsRow B e sz v n xs) (ho : OnlyAt l w w') (hl : l < B) : w'.ownsRow B e sz v n xs :=
  ownsRow_carry h fun k hk => ho.2 k (fun e => by have := (h.lt k hk).1; omega)
theorem ownsRow_drewN {w : World} {B : Nat} {e : TypeId} {sz : Nat} {v : Value} {n : Nat} {xs : List Value} (h : w.ownsRow B e sz v n xs) (d : Nat) : (w.drewN d).ownsRow B e sz v n xs := h
set_option maxHeartbeats 2000000 in
theorem All_calls (w : World) (B H l : Nat) (v u : Value) (xs ys zs : List ByteArray) (h : LkR B H l w v u xs ys) (hz : xs ++ ys = zs) (hn : zs.length ≤ 1000) (hBH : B ≤ H) :
   Calls Try.prog 12 #[.pointer (some ⟨l, 0, none⟩)] w fun e w' => ∃ o, e = .returned o ∧ Below B w w' ∧ w'.ownsRow H 9 1 o zs.length (zs.map .string) ∧ ∃ v' u', LkR B H l w' v' u' [] [] := by
  have hl := h.lH
  go_enter Try.func12, Try.ntmps12
  go_wp2_with fail
  go_loopw [2] (fun o wr => ∃ k v u xs1 ys1, LkR B H l wr v u xs1 ys1 ∧ xs1 ++ ys1 = zs.drop k ∧ k ≤ zs.length ∧ wr.ownsRow H 9 1 o k ((zs.take k).map .string) ∧ Below B w wr) (fun o _ => zs.length - sliceLen o)
  case atStart => exact ⟨0, v, u, xs, ys, h, hz, by omega, ⟨rfl, Or.inl ⟨rfl, rfl⟩⟩, Below.refl _ _⟩
  case round =>
    obtain ⟨k, v, u, xs1, ys1, hL, hd, hk, hown, hb⟩ := hrel
    have hsl := sliceLen_own hown
    by_cases hlt : k < zs.length
    · have hdc := List.drop_eq_getElem_cons hlt
      have hzl : zs.drop k = zs[k] :: zs.drop (k + 1) := hdc
      have hpos : (0 : Int) < (((zs.drop k).length : Nat) : Int) := by rw [List.length_drop]; omega
      have hLen := Lib.hid (hL.len_any hd (by rw [List.length_drop]; omega))
      have Hd := Lib.hid hd; clear hd
      have Hz := Lib.hid hzl; clear hzl
      have htk : (zs.take (k + 1)).map Value.string = (zs.take k).map Value.string ++ [.string zs[k]] := by
        rw [List.take_succ_eq_append_getElem hlt, List.map_append]; rfl
      have Htk := Lib.hid htk; clear htk
      generalize hzk : zs[k] = z at *
      clear hzk
      have hL0 := Lib.hid hL; clear hL
      generalize hdl : (zs.drop k).length = dl at hpos hLen
      clear hdl
      go_wp2_with fail
      refine hLen.out.mono ?_
      rintro e w1 ⟨rfl, d, rfl⟩
      have hL1 := hL0.out.mono (below_drewN (Below.refl _ _) d)
      go_wp2_with fail
      refine (Arrive_any _ B H l v u z (zs.drop (k + 1)) xs1 ys1 hL1 (Hd.out.trans Hz.out) (by rw [List.length_drop]; omega)).mono ?_
      rintro e w2 ⟨rfl, hb2, ho2, v2, u2, xs2, ys2, hL2, hd2⟩
      have hown2 := ownsRow_only (ownsRow_drewN hown d) ho2 hl
      have hHs := hL2.HW
      go_wp2_with (with_reducible refine wpList_mark (o := ⟨some 16, _, _, _, _, _⟩) ?_)
      refine Marked.intro ?_
      refine wpList_push rfl _ _ 33 rfl H 9 (.string ⟨#[]⟩) 1 16 Try.underlying33 info_str rfl (by omega) w2 _ k ((zs.take k).map .string) (by rfl) hown2 [.string z] (by rfl) rfl (by simp [Value.oneCell']) (by omega) (by unfold maxLen; omega) hHs ?_
      intro o3 w3 hown3 hb3 hsz3
      have hs3 := sliceLen_own hown3
      go_wp2
      exact ⟨⟨k + 1, v2, u2, xs2, ys2, hL2.mono hb3, hd2, by omega, by rw [Htk.out]; exact hown3, ((hb.trans (below_drewN (Below.refl _ _) d)).trans hb2).trans (hb3.mono hBH)⟩, by rw [hsl, hs3]; omega⟩
    · have hkz : k = zs.length := by omega
      have hd0 : xs1 ++ ys1 = [] := by rw [hd, List.drop_of_length_le (by omega)]
      obtain ⟨rfl, rfl⟩ := List.append_eq_nil_iff.1 hd0
      have hLen := Lib.hid (hL.len (by simp) (by simp))
      have hL0 := Lib.hid hL; clear hL hd hd0
      rw [List.take_of_length_le (by omega)] at hown
      subst hkz
      go_wp2_with fail
      refine hLen.out.mono ?_
      rintro e w1 ⟨rfl, d, rfl⟩
      go_wp2
      go_ret
      exact ⟨_, rfl, hb.trans (below_drewN (Below.refl _ _) d), ownsRow_drewN hown d, v, u, hL0.out.mono (below_drewN (Below.refl _ _) d)⟩
end Go.Proofs.Ythnddkcicpoboaa
