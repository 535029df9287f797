/- Layer 9: what a Store leaves, in plain Lean. No condition. -/
import Derived.Test.YtgkgmeofilkopaaMmE
import Derived.Test.YtgkgmeofilkopaaMmQ
namespace Go.Proofs.Ytgkgmeofilkopaa
open Go.RowKit

theorem span_some {bs : MemS} {t : Int} {a : Val} {l : List Byt} {o : Nat} (h : spanS bs t a = some (l, o)) : ∃ k : Nat, a.kind = 2 ∧ countS t ≠ 0 ∧ a.block = k ∧ bs[k]? = some (some l) ∧ a.off = o ∧ o + (countS t).toNat ≤ l.length := by
  unfold spanS at h
  split at h
  · rename_i hc
    cases hb : bytesAt bs a.block with
    | none => rw [hb] at h; cases h
    | some l' =>
      rw [hb] at h
      simp only at h
      split at h
      · rename_i hd
        cases h
        obtain ⟨k, hk, h0⟩ := bytesAt_some hb
        have hc0 := countS_le t
        exact ⟨k, hc.1, hc.2, hk, h0, by omega, by omega⟩
      · cases h
  · cases h
theorem span_of {bs : MemS} {t : Int} {a : Val} {l : List Byt} {k o : Nat} (h1 : a.kind = 2) (h2 : countS t ≠ 0) (h3 : a.block = k) (h4 : bs[k]? = some (some l)) (h5 : a.off = o) (h6 : o + (countS t).toNat ≤ l.length) : spanS bs t a = some (l, o) := by
  have hc := countS_le t
  unfold spanS
  rw [if_pos ⟨h1, h2⟩, h3, bytesAt_nat h4]
  simp only
  rw [if_pos (by omega), h5]
  rfl
theorem pack_fits {t : Int} {v : Val} {l : List Byt} {o : Nat} (h : o + (countS t).toNat ≤ l.length) : o + (packS t v).length ≤ l.length := by rw [packS_len]; exact h
theorem lay_part {t : Int} {v : Val} {l : List Byt} {o : Nat} (h : o + (countS t).toNat ≤ l.length) : ((layB l o (packS t v)).drop o).take (countS t).toNat = packS t v := by
  have hl := packS_len t v
  apply List.ext_getElem?
  intro m
  by_cases hm : m < (countS t).toNat
  · rw [List.getElem?_take_of_lt hm, List.getElem?_drop, layB_get (pack_fits h), if_pos (by omega), show o + m - o = m by omega]
  · rw [List.getElem?_eq_none (by rw [List.length_take]; omega), List.getElem?_eq_none (by omega)]
/-- what is loaded behind a Store -/
theorem store_load (bs : MemS) (t : Int) (v a : Val) (hv : 0 ≤ v.bits) : ∃ x, loadS (storeS bs t v a).1 t a = (x, (storeS bs t v a).2) ∧ ((storeS bs t v a).2 = true → x = if t = 65 ∧ v.kind = 3 then noV else normS t v) := by
  unfold storeS
  cases hs : spanS bs t a with
  | none => exact ⟨noV, by unfold loadS; rw [hs], fun h => by cases h⟩
  | some lo =>
    obtain ⟨l, o⟩ := lo
    obtain ⟨k, h1, h2, h3, h4, h5, h6⟩ := span_some hs
    have hk := (List.getElem?_eq_some_iff.1 h4).1
    have hsp : spanS (bs.set a.block.toNat (some (layB l o (packS t v)))) t a = some (layB l o (packS t v), o) := by
      refine span_of h1 h2 h3 ?_ h5 (by rw [layB_len (pack_fits h6)]; exact h6)
      rw [h3, Int.toNat_natCast, List.getElem?_set_self hk]
    refine ⟨unpackS t (packS t v), ?_, fun _ => back_law t v hv⟩
    unfold loadS
    simp only
    rw [hsp]
    simp only
    rw [lay_part h6]
theorem store_bytes (bs : MemS) (t : Int) (v a : Val) (b : Nat) : bytesS (storeS bs t v a).1 b = match spanS bs t a with
    | none => bytesS bs b
    | some (l, o) => if a.block = b then layB l o (packS t v) else bytesS bs b := by
  unfold storeS
  cases hs : spanS bs t a with
  | none => rfl
  | some lo =>
    obtain ⟨l, o⟩ := lo
    obtain ⟨k, h1, h2, h3, h4, h5, h6⟩ := span_some hs
    have hk := (List.getElem?_eq_some_iff.1 h4).1
    simp only
    have e1 : (0 : Int) ≤ (b : Int) := by omega
    rw [h3, Int.toNat_natCast]
    unfold bytesS bytesAt
    rw [if_pos e1, if_pos e1, Int.toNat_natCast]
    by_cases c : k = b
    · subst c
      rw [List.getElem?_set_self hk]
      simp
    · rw [List.getElem?_set_ne c, if_neg (show ¬ (k : Int) = (b : Int) by omega)]
theorem bytesS_of {bs : MemS} {k : Nat} {l : List Byt} (h : bs[k]? = some (some l)) : bytesS bs k = l := by unfold bytesS; rw [bytesAt_nat h]; rfl
theorem store_blen (bs : MemS) (t : Int) (v a : Val) (b : Nat) : (bytesS (storeS bs t v a).1 b).length = (bytesS bs b).length := by
  rw [store_bytes]
  cases hs : spanS bs t a with
  | none => rfl
  | some lo =>
    obtain ⟨l, o⟩ := lo
    obtain ⟨k, h1, h2, h3, h4, h5, h6⟩ := span_some hs
    simp only
    split
    · rename_i hb
      obtain rfl : k = b := by omega
      rw [bytesS_of h4, layB_len (pack_fits h6)]
    · rfl
/-- what was not laid stays -/
theorem store_at {bs : MemS} {t : Int} {v a : Val} {b j : Nat} {x x' : Byt} (hx : (bytesS bs b)[j]? = some x) (hx' : (bytesS (storeS bs t v a).1 b)[j]? = some x')
    (hn : ¬ ((storeS bs t v a).2 = true ∧ (b : Int) = a.block ∧ a.off ≤ j ∧ (j : Int) < a.off + (countS t).toNat)) : x' = x := by
  rw [store_bytes] at hx'
  cases hs : spanS bs t a with
  | none => rw [hs] at hx'; simp only at hx'; rw [hx] at hx'; cases hx'; rfl
  | some lo =>
    obtain ⟨l, o⟩ := lo
    obtain ⟨k, h1, h2, h3, h4, h5, h6⟩ := span_some hs
    have hn' : ¬ ((b : Int) = a.block ∧ a.off ≤ j ∧ (j : Int) < a.off + (countS t).toNat) := fun hh => hn ⟨by unfold storeS; rw [hs], hh⟩
    rw [hs] at hx'
    simp only at hx'
    split at hx'
    · rename_i hb
      obtain rfl : k = b := by omega
      rw [layB_get (pack_fits h6), packS_len, if_neg (by intro hh; exact hn' ⟨by omega, by omega, by omega⟩)] at hx'
      rw [bytesS_of h4, hx'] at hx
      cases hx; rfl
    · rw [hx] at hx'; cases hx'; rfl
theorem store_off {bs : MemS} {t : Int} {v a : Val} (h : (storeS bs t v a).2 = true) : 0 ≤ a.off ∧ a.off ≤ (bytesS bs a.block).length := by
  unfold storeS at h
  cases hs : spanS bs t a with
  | none => rw [hs] at h; cases h
  | some lo =>
    obtain ⟨l, o⟩ := lo
    obtain ⟨k, h1, h2, h3, h4, h5, h6⟩ := span_some hs
    rw [h3, bytesS_of h4]
    omega
end Go.Proofs.Ytgkgmeofilkopaa
