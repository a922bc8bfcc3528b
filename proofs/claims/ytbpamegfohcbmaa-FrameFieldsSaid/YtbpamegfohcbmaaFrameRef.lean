/- The walk of the reference's number. -/
import Derived.Test.YtbpamegfohcbmaaFrameLay
import Derived.Deep.AppendLies
namespace Go.Proofs.Ytbpamegfohcbmaa
open Go.RowKit
set_option linter.unusedVariables false
set_option linter.unusedSimpArgs false
theorem be_get (n : Nat) : ∀ (k j : Nat), j < k → (be n k)[j]? = some (UInt8.ofNat (n / 256 ^ (k - 1 - j)))
  | k + 1, 0, _ => by simp [be]
  | k + 1, j + 1, h => by
    rw [be, List.getElem?_cons_succ, be_get n k j (by omega), show k + 1 - 1 - (j + 1) = k - 1 - j by omega]
theorem info_u8 : (Try.prog.info? 5).map (fun i => (i.zero, i.size, i.bytes)) = some (some (.int .u8 0), 1, 1) := by kernel_rfl
def u8s (l : List UInt8) : List Value := l.map fun c : UInt8 => Value.int .u8 (c.toNat : Int)
set_option maxRecDepth 100000 in
set_option maxHeartbeats 2000000 in
theorem RNumber_calls (w : World) (n k : Nat) (hk0 : 0 < k) (hk : k ≤ 4) (hn : n < 4294967296) :
   Calls Try.prog 22 #[.int .i64 n, .int .i64 k] w fun e w' => e = .returned (.string ⟨(be n k).toArray⟩) ∧ Below w.heap.size w w' := by
  have hbl := be_length n k
  have Hbl := Lib.hid hbl; clear hbl
  go_enter Try.func22, Try.ntmps22
  go_wp2_with fail
  have hb0 := (Below.refl w.heap.size w).alloc (Nat.le_refl _) (.cells #[] 5)
  have own0 : (w.alloc (.cells #[] 5)).ownsRow w.heap.size 5 1 (.slice (some ⟨w.heap.size, 0, none⟩) 0 0) 0 [] :=
    ⟨rfl, Or.inr ⟨w.heap.size, 0, #[], rfl, Nat.le_refl _, heap_alloc_new _ _, Nat.le_refl _, Nat.zero_le _, rfl, rfl⟩⟩
  have O0 := Lib.hid own0; clear own0
  generalize w.alloc (.cells #[] 5) = w1 at *
  go_wp2_with fail
  go_loopw [5, 6] (fun o i wr => ∃ j : Nat, j ≤ k ∧ i = .int .i64 ((k : Int) - 1 - j) ∧ Below w.heap.size w wr ∧ wr.ownsRow w.heap.size 5 1 o j (u8s ((be n k).take j))) (fun _ i _ => (intOf i + 1).toNat)
  case atStart => exact ⟨0, by omega, by simp, hb0, O0.out⟩
  case round =>
    obtain ⟨j, hj, rfl, hb, hown⟩ := hrel
    by_cases hlt : j < k
    · obtain ⟨i, hi⟩ : ∃ i, k - 1 - j = i := ⟨_, rfl⟩
      have hix : (k : Int) - 1 - j = (i : Int) := by omega
      have hi4 : i ≤ 3 := by omega
      rw [hix]
      have hget := be_get n k j hlt
      rw [hi] at hget
      have htk : u8s ((be n k).take (j + 1)) = u8s ((be n k).take j) ++ [.int .u8 ((UInt8.ofNat (n / 256 ^ i)).toNat : Int)] := by
        have h1 : j < (be n k).length := by rw [Hbl.out]; exact hlt
        rw [List.take_succ_eq_append_getElem h1]
        rw [List.getElem?_eq_getElem h1] at hget
        rw [Option.some.inj hget]
        simp [u8s]
      have Htk := Lib.hid htk; clear htk hget
      have hs := hb.size
      go_wp2_with (with_reducible refine wpList_mark (o := ⟨some 21, _, _, _, _, _⟩) ?_)
      have hby : ((n : Int) / 2 ^ (8 * i) % 256) = ((UInt8.ofNat (n / 256 ^ i)).toNat : Int) := by
        rw [UInt8.toNat_ofNat', show (256 : Nat) ^ i = 2 ^ (8 * i) by rw [Nat.pow_mul]]
        simp
      rw [hby]
      refine Marked.intro ?_
      refine wpList_push rfl _ _ 42 rfl w.heap.size 5 (.int .u8 0) 1 1 Try.underlying42 info_u8 rfl (by omega) wr u5 j _ (by rfl) hown [.int .u8 ((UInt8.ofNat (n / 256 ^ i)).toNat : Int)] (by rw [← hby]; rfl) rfl (by simp [Value.oneCell']) (by omega) (by unfold maxLen; omega) hs ?_
      intro o3 w3 hown3 hb3 hsz3
      go_wp2
      exact ⟨⟨j + 1, by omega, by congr 1; omega, hb.trans hb3, by rw [Htk.out]; exact hown3⟩, by simp only [intOf]; omega⟩
    · have e : j = k := by omega
      subst e
      rw [List.take_of_length_le (by rw [Hbl.out]; omega)] at hown
      have hneg : (j : Int) - 1 - j = -1 := by omega
      rw [hneg]
      obtain ⟨g, cap, rfl, hg, hg2⟩ := hown.form hk0
      have hc := hown.cells (g := g) rfl
      go_wp2_with (with_reducible refine wpList_mark (o := ⟨some 23, _, _, _, _, _⟩) ?_)
      refine Marked.intro ?_
      refine wpList_run rfl (exec_bytes_back _ 42 9 5 (.tmp 22) (by rfl) _ ⟨g, 0, none⟩ j cap (by rfl) (be n j) Hbl.out.symm Try.underlying42 Try.underlying5 Try.underlying9 ?_) ?_
      · intro i hi
        exact hc i _ (by simp [u8s, hi])
      · go_wp2
        go_ret
        exact ⟨rfl, hb⟩
end Go.Proofs.Ytbpamegfohcbmaa
