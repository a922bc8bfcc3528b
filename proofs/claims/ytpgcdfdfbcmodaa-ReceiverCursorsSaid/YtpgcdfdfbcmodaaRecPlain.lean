/- The receiver as plain lists: no program in sight. -/
import Derived.Test.YtpgcdfdfbcmodaaSackMore2
import Derived.Test.YtpgcdfdfbcmodaaVarRef
import Derived.Test.YtpgcdfdfbcmodaaFrameWalk
namespace Go.Proofs.Ytpgcdfdfbcmodaa
set_option linter.unusedVariables false
set_option linter.unusedSimpArgs false
structure Rv where
  ses : Int
  ep : Int
  B : List Bool
  C : List ByteArray
  D : Int → Nat
  cnt : Nat
structure Rv.wf (R : Rv) : Prop where
  s0 : 0 ≤ R.ses
  s1 : R.ses < 4294967296
  e0 : 0 ≤ R.ep
  e1 : R.ep < 4294967296
  lc : R.C.length = R.B.length
  cs : ∀ c ∈ R.C, c.size ≤ 1000
def Rv.start (ses ep : Int) (n : Nat) : Rv := ⟨ses, ep, List.replicate n false, List.replicate n ⟨#[]⟩, fun _ => 0, 0⟩
/-- What is wrong with a frame. -/
def Rv.wrong (R : Rv) (f : Fr) : Nat :=
  if f.k ≠ 1 ∨ ¬ f.ok then 1 else if f.s ≠ R.ses then 12 else if f.e ≠ R.ep then 13 else if f.t ≠ (R.B.length : Nat) ∨ f.t ≤ f.i then 14 else if 1000 < f.d.size then 7 else if R.B.getD f.i.toNat false = true then 9 else 0
def Rv.drop (R : Rv) (e : Nat) : Rv := { R with D := fun x => if x = (e : Int) then R.D x + 1 else R.D x, cnt := R.cnt + 1 }
def Rv.put (R : Rv) (i : Nat) (d : ByteArray) : Rv := { R with B := R.B.set i true, C := R.C.set i d }
def Rv.take (R : Rv) (f : Fr) : Nat × Rv := if R.wrong f ≠ 0 then (R.wrong f, R.drop (R.wrong f)) else (0, R.put f.i.toNat f.d)
theorem Rv.wf.drop {R : Rv} (h : R.wf) (e : Nat) : (R.drop e).wf := ⟨h.s0, h.s1, h.e0, h.e1, h.lc, h.cs⟩
theorem Rv.wf.put {R : Rv} (h : R.wf) (i : Nat) (d : ByteArray) (hd : d.size ≤ 1000) : (R.put i d).wf := by
  refine ⟨h.s0, h.s1, h.e0, h.e1, by simp [Rv.put, h.lc], fun c hc => ?_⟩
  rcases List.mem_or_eq_of_mem_set hc with h1 | h1
  · exact h.cs c h1
  · rw [h1]; exact hd
theorem Rv.wrong_zero {R : Rv} {f : Fr} (h : R.wrong f = 0) : f.k = 1 ∧ f.ok ∧ f.s = R.ses ∧ f.e = R.ep ∧ f.t = (R.B.length : Nat) ∧ f.i < f.t ∧ f.d.size ≤ 1000 ∧ R.B.getD f.i.toNat false = false := by
  unfold Rv.wrong at h
  split at h
  · simp at h
  · next h1 =>
    split at h
    · simp at h
    · next h2 =>
      split at h
      · simp at h
      · next h3 =>
        split at h
        · simp at h
        · next h4 =>
          split at h
          · simp at h
          · next h5 =>
            split at h
            · simp at h
            · next h6 =>
              have k1 : f.k = 1 := Classical.byContradiction fun hh => h1 (Or.inl hh)
              have k2 : f.ok := Classical.byContradiction fun hh => h1 (Or.inr hh)
              have k3 : f.t = (R.B.length : Nat) := Classical.byContradiction fun hh => h4 (Or.inl hh)
              exact ⟨k1, k2, Classical.byContradiction h2, Classical.byContradiction h3, k3, by omega, by omega, by simpa using h6⟩
theorem Rv.wrong_lt (R : Rv) (f : Fr) : R.wrong f < 20 := by
  unfold Rv.wrong
  repeat' split
  all_goals decide
theorem Rv.take_wf {R : Rv} (h : R.wf) (f : Fr) : (R.take f).2.wf := by
  unfold Rv.take
  split
  · exact h.drop _
  · next hw =>
    have := Rv.wrong_zero (Classical.byContradiction hw)
    exact h.put _ _ this.2.2.2.2.2.2.1
/-- The cursor's bytes. -/
def Rv.curL (R : Rv) : List UInt8 :=
  numL R.ses.toNat ++ (numL R.ep.toNat ++ (numL R.B.length ++ (((List.range R.B.length).map fun i => if R.B.getD i false = true then numL i ++ (numL (R.C.getD i ⟨#[]⟩).size ++ (R.C.getD i ⟨#[]⟩).data.toList) else []).flatten ++ numL R.B.length)))
end Go.Proofs.Ytpgcdfdfbcmodaa
