/- A flag that the table does not know. No program is in sight. No condition. -/
import Derived.Test.YtmcleghbpdenlaaBwG
namespace Go.Proofs.Ytmcleghbpdenlaa
open Go.RowKit
set_option linter.unusedSimpArgs false
set_option linter.unusedVariables false

theorem bv_four {X : BitVec 64} (h : X &&& ~~~4#64 = 0#64) : X = 0#64 ∨ X = 4#64 := by
  have e : X = X &&& 4#64 := by
    apply BitVec.eq_of_getLsbD_eq
    intro i hi
    have := congrArg (fun v => BitVec.getLsbD v i) h
    simp only [BitVec.getLsbD_and, BitVec.getLsbD_not, BitVec.getLsbD_zero] at this ⊢
    cases hx : X.getLsbD i
    · rfl
    · rw [hx] at this
      simp [hi] at this
      rw [BitVec.getLsbD_eq_getElem hi]; simpa using this
  have e2 : (X &&& 4#64).toNat = X.toNat &&& 4 := by rw [BitVec.toNat_and]; rfl
  have hle : X.toNat ≤ 4 := by rw [e, e2]; exact Nat.and_le_right
  obtain ⟨n, hn⟩ : ∃ n, X.toNat = n := ⟨_, rfl⟩
  have hX : X = BitVec.ofNat 64 n := by rw [← hn]; simp
  rw [hn] at hle
  obtain h | h | h | h | h : n = 0 ∨ n = 1 ∨ n = 2 ∨ n = 3 ∨ n = 4 := by omega
  · left; rw [hX, h]
  · exfalso; rw [hX, h] at e; revert e; decide
  · exfalso; rw [hX, h] at e; revert e; decide
  · exfalso; rw [hX, h] at e; revert e; decide
  · right; rw [hX, h]
theorem bad_four {f : Int} (hr : -9223372036854775808 ≤ f ∧ f ≤ 9223372036854775807) (h : (bits .andNot .i64 f 4 != 0) = false) : exa f = (f == 4) := by
  have h0 : bits .andNot .i64 f 4 = 0 := by simpa using h
  have hx : BitVec.ofInt 64 f &&& ~~~4#64 = 0#64 := by
    have h1 : IntKind.i64.wrap ((BitVec.ofInt 64 f &&& ~~~4#64).toNat : Int) = 0 := h0
    rw [IntKind.wrap_i64] at h1
    have h3 := (BitVec.ofInt 64 f &&& ~~~4#64).isLt
    apply BitVec.eq_of_toNat_eq
    show _ = 0
    omega
  have hf : (BitVec.ofInt 64 f).toInt = f := by
    rw [BitVec.toInt_ofInt, Int.bmod_eq_of_le (by omega) (by omega)]
  rcases bv_four hx with g | g
  · rw [g] at hf
    have : f = 0 := hf.symm
    subst this; decide
  · rw [g] at hf
    have : f = 4 := hf.symm
    subst this; decide
end Go.Proofs.Ytmcleghbpdenlaa
