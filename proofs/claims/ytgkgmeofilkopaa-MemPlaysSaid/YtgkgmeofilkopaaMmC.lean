/- Layer 9: what mem.Unpack's loop keeps; no program is in sight. No condition. -/
import Derived.Test.YtgkgmeofilkopaaMmB
import Derived.Laws.Bits64b
namespace Go.Proofs.Ytgkgmeofilkopaa
open Go.RowKit
set_option linter.unusedSimpArgs false
set_option linter.unusedVariables false

def OkB (l : List Byt) : Prop := ∀ b, b ∈ l → 0 ≤ b.bits ∧ b.bits ≤ 255
def RByu : Rp Byt := .plain bc fun b => 0 ≤ b.bits ∧ b.bits ≤ 255
def any3 (l : List Byt) : Bool := l.any fun b => b.kind == 3
def all13 (l : List Byt) : Bool := l.all fun b => b.kind == 1 || b.kind == 3
/-- what mem.Unpack's value is behind k bytes -/
structure Inv (t : Int) (l : List Byt) (k : Nat) (v : Val) : Prop where
  num : t ≠ 65 → v.block = 0 ∧ v.off = 0 ∧ (0 ≤ v.bits ∧ v.bits ≤ 18446744073709551615) ∧ all13 (l.take k) = true ∧ v.kind = (if any3 (l.take k) = true then 3 else if k = 0 then 0 else 1) ∧ (any3 (l.take k) = false → v.bits = bitsOf (l.take k))
  adr : t = 65 → okAddr (l.headD default) 0 (l.take k) = true ∧ v = if k = 0 then noV else ⟨2, 0, (l.headD default).block, (l.headD default).off⟩
theorem inv_zero (t : Int) (l : List Byt) : Inv t l 0 noV := ⟨fun _ => ⟨rfl, rfl, by decide, rfl, rfl, fun _ => rfl⟩, fun _ => ⟨rfl, rfl⟩⟩
theorem take_snoc {l : List Byt} {k : Nat} {b : Byt} (h : l[k]? = some b) : l.take (k + 1) = l.take k ++ [b] := by rw [List.take_add_one, h]; rfl
theorem bitsOf_bound : ∀ {l : List Byt}, OkB l → 0 ≤ bitsOf l ∧ bitsOf l < 256 ^ l.length
  | [], _ => by simp [bitsOf]
  | b :: l, h => by
    have h1 := h b (List.mem_cons_self ..)
    have h2 := bitsOf_bound (l := l) (fun b hb => h b (List.mem_cons_of_mem _ hb))
    rw [bitsOf, List.length_cons, Int.pow_succ]
    constructor <;> omega
theorem bitsOf_snoc : ∀ (l : List Byt) (b : Byt), bitsOf (l ++ [b]) = bitsOf l + b.bits * 256 ^ l.length
  | [], b => by simp [bitsOf]
  | c :: l, b => by
    rw [List.cons_append, bitsOf, bitsOf_snoc l b, bitsOf, List.length_cons, Int.pow_succ]
    rw [Int.mul_add, Int.add_assoc]
    congr 1
    congr 1
    rw [← Int.mul_assoc, Int.mul_comm 256 b.bits, Int.mul_assoc, Int.mul_comm 256]
theorem or_low {a b k : Nat} (ha : a < 256 ^ k) (hb : b ≤ 255) (hk : k ≤ 7) : bits .or .u64 (a : Int) ((b : Int) * 2 ^ (8 * k) % 18446744073709551616) = (a : Int) + b * 256 ^ k := by
  have e : (256 : Nat) ^ k = 2 ^ (8 * k) := by rw [show (256 : Nat) = 2 ^ 8 from rfl, ← Nat.pow_mul]
  rw [e] at ha
  have h56 : 2 ^ (8 * k) ≤ 2 ^ 56 := Nat.pow_le_pow_right (by decide) (by omega)
  have hm : b * 2 ^ (8 * k) ≤ 255 * 2 ^ 56 := Nat.mul_le_mul hb h56
  have e3 : (b : Int) * 2 ^ (8 * k) = ((b * 2 ^ (8 * k) : Nat) : Int) := by simp
  have e4 : ((b * 2 ^ (8 * k) : Nat) : Int) % 18446744073709551616 = ((b * 2 ^ (8 * k) : Nat) : Int) := by omega
  rw [e3, e4, bits_or_u64_nat _ _ (by omega) (by omega)]
  have e5 : a ||| b * 2 ^ (8 * k) = b * 2 ^ (8 * k) + a := by
    rw [Nat.mul_comm b, Nat.two_pow_add_eq_or_of_lt ha, Nat.or_comm]
  have e6 : (256 : Int) ^ k = ((2 ^ (8 * k) : Nat) : Int) := by rw [← e]; simp
  rw [e5, e6]
  push_cast
  omega
theorem or_bound {a b : Int} (ha : 0 ≤ a ∧ a ≤ 18446744073709551615) (hb : 0 ≤ b ∧ b ≤ 18446744073709551615) : 0 ≤ bits .or .u64 a b ∧ bits .or .u64 a b ≤ 18446744073709551615 := by
  obtain ⟨x, rfl⟩ := Int.eq_ofNat_of_zero_le ha.1
  obtain ⟨y, rfl⟩ := Int.eq_ofNat_of_zero_le hb.1
  rw [bits_or_u64_nat x y (by omega) (by omega)]
  have := Nat.or_lt_two_pow (x := x) (y := y) (n := 64) (by omega) (by omega)
  omega
theorem any3_snoc (l : List Byt) (b : Byt) : any3 (l ++ [b]) = (any3 l || (b.kind == 3)) := by simp [any3]
theorem all13_snoc (l : List Byt) (b : Byt) : all13 (l ++ [b]) = (all13 l && (b.kind == 1 || b.kind == 3)) := by simp [all13]
theorem inv_one {t : Int} {l : List Byt} {k : Nat} {v : Val} {b : Byt} (h : Inv t l k v) (ht : t ≠ 65) (hb : l[k]? = some b) (hk : b.kind = 1) (hl : OkB l) (hk7 : k ≤ 7) :
    Inv t l (k + 1) ⟨max v.kind 1, bits .or .u64 v.bits (b.bits * 2 ^ (8 * k) % 18446744073709551616), v.block, v.off⟩ := by
  refine ⟨fun _ => ?_, fun h65 => absurd h65 ht⟩
  obtain ⟨h1, h2, h3, h4, h5, h6⟩ := h.num ht
  have hbb := hl b (List.mem_of_getElem? hb)
  have hlt := (List.getElem?_eq_some_iff.1 hb).1
  rw [take_snoc hb, any3_snoc, all13_snoc, hk]
  refine ⟨h1, h2, or_bound h3 (by omega), by rw [h4]; rfl, ?_, fun h0 => ?_⟩
  · show max v.kind 1 = if (any3 (l.take k) || (1 : Int) == 3) = true then 3 else if k + 1 = 0 then 0 else 1
    rw [h5]
    cases any3 (l.take k)
    · by_cases k0 : k = 0
      · rw [if_neg (by decide), if_pos k0, if_neg (by decide), if_neg (by omega)]; decide
      · rw [if_neg (by decide), if_neg k0, if_neg (by decide), if_neg (by omega)]; decide
    · show max (3 : Int) 1 = 3
      decide
  · have h0' : any3 (l.take k) = false := by simpa using h0
    rw [bitsOf_snoc, List.length_take, Nat.min_eq_left (by omega)]
    show bits .or .u64 v.bits _ = _
    rw [h6 h0']
    have hB := bitsOf_bound (l := l.take k) (fun b hb => hl b (List.mem_of_mem_take hb))
    rw [List.length_take, Nat.min_eq_left (by omega)] at hB
    obtain ⟨a, ha⟩ := Int.eq_ofNat_of_zero_le hB.1
    obtain ⟨c, hc⟩ := Int.eq_ofNat_of_zero_le hbb.1
    rw [ha, hc]
    rw [ha] at hB
    have e : (256 : Int) ^ k = ((256 ^ k : Nat) : Int) := (Int.natCast_pow 256 k).symm
    rw [e] at hB
    exact or_low (Int.ofNat_lt.1 hB.2) (by omega) hk7
theorem inv_three {t : Int} {l : List Byt} {k : Nat} {v : Val} {b : Byt} (h : Inv t l k v) (ht : t ≠ 65) (hb : l[k]? = some b) (hk : b.kind = 3) : Inv t l (k + 1) ⟨3, v.bits, v.block, v.off⟩ := by
  refine ⟨fun _ => ?_, fun h65 => absurd h65 ht⟩
  obtain ⟨h1, h2, h3, h4, h5, h6⟩ := h.num ht
  rw [take_snoc hb, any3_snoc, all13_snoc, hk]
  exact ⟨h1, h2, h3, by rw [h4]; rfl, by rw [if_pos (by cases any3 (l.take k) <;> rfl)], fun h0 => by cases hh : any3 (l.take k) <;> rw [hh] at h0 <;> cases h0⟩
theorem okAddr_snoc (b0 : Byt) : ∀ (l : List Byt) (k : Nat) (b : Byt), okAddr b0 k (l ++ [b]) = (okAddr b0 k l && (b.kind == 2 && b.block == b0.block && b.off == b0.off && b.i == ((k + l.length : Nat) : Int)))
  | [], k, b => by rw [List.nil_append, okAddr, okAddr, okAddr, Bool.and_true, Bool.true_and]; rfl
  | c :: l, k, b => by rw [List.cons_append, okAddr, okAddr_snoc b0 l (k + 1) b, okAddr, List.length_cons, show k + 1 + l.length = k + (l.length + 1) by omega, Bool.and_assoc (_ && _ && _ && _)]
theorem inv_addr {t : Int} {l : List Byt} {k : Nat} {v : Val} {b : Byt} (h : Inv t l k v) (ht : t = 65) (hb : l[k]? = some b) (h2 : b.kind = 2) (hi : b.i = k) (hv : k = 0 ∨ (b.block = v.block ∧ b.off = v.off)) : Inv t l (k + 1) ⟨2, 0, b.block, b.off⟩ := by
  refine ⟨fun h65 => absurd ht h65, fun _ => ?_⟩
  obtain ⟨h4, h5⟩ := h.adr ht
  have hlt := (List.getElem?_eq_some_iff.1 hb).1
  have hh : b.block = (l.headD default).block ∧ b.off = (l.headD default).off := by
    by_cases k0 : k = 0
    · subst k0
      cases l with
      | nil => simp at hb
      | cons c r => simp at hb; subst hb; exact ⟨rfl, rfl⟩
    · rw [if_neg k0] at h5
      rcases hv with hv | hv
      · exact absurd hv k0
      · rw [h5] at hv; exact hv
  rw [take_snoc hb, okAddr_snoc, h4, List.length_take, Nat.min_eq_left (by omega), h2, hi, hh.1, hh.2]
  exact ⟨by simp, by simp⟩
theorem okAddr_part (b0 : Byt) : ∀ (l : List Byt) (k m : Nat), okAddr b0 k (l.take m) = false → okAddr b0 k l = false
  | [], k, m, h => by simpa using h
  | c :: l, k, 0, h => by simp [okAddr] at h
  | c :: l, k, m + 1, h => by
    rw [List.take_succ_cons, okAddr] at h
    rw [okAddr]
    cases hc : (c.kind == 2 && c.block == b0.block && c.off == b0.off && c.i == (k : Int))
    · rfl
    · rw [hc, Bool.true_and] at h
      rw [Bool.true_and]
      exact okAddr_part b0 l (k + 1) m h
theorem unpack_bad_num {t : Int} {l : List Byt} {k : Nat} {b : Byt} (ht : t ≠ 65) (hb : l[k]? = some b) (h1 : b.kind ≠ 1) (h3 : b.kind ≠ 3) : unpackS t l = noV := by
  unfold unpackS
  by_cases g : countS t = 0 ∨ countS t ≠ l.length
  · rw [if_pos g]
  · rw [if_neg g, if_neg ht, if_neg]
    intro h
    have := List.all_eq_true.1 h b (List.mem_of_getElem? hb)
    simp [h1, h3] at this
theorem unpack_bad_adr {t : Int} {l : List Byt} {k : Nat} {v : Val} {b : Byt} (h : Inv t l k v) (ht : t = 65) (hb : l[k]? = some b) (hn : b.kind ≠ 2 ∨ b.i ≠ k ∨ (k ≠ 0 ∧ (b.block ≠ v.block ∨ b.off ≠ v.off))) : unpackS t l = noV := by
  unfold unpackS
  by_cases g : countS t = 0 ∨ countS t ≠ l.length
  · rw [if_pos g]
  · rw [if_neg g, if_pos ht, if_neg]
    rw [Bool.not_eq_true]
    refine okAddr_part _ _ _ (k + 1) ?_
    have hlt := (List.getElem?_eq_some_iff.1 hb).1
    obtain ⟨h4, h5⟩ := h.adr ht
    rw [take_snoc hb, okAddr_snoc, h4, List.length_take, Nat.min_eq_left (by omega), Bool.true_and]
    rcases hn with hn | hn | ⟨k0, hn⟩
    · simp [hn]
    · simp [hn]
    · rw [if_neg k0] at h5
      rw [h5] at hn
      rcases hn with hn | hn
      · have e : (b.block == (l.headD default).block) = false := beq_eq_false_iff_ne.2 hn
        rw [e, Bool.and_false, Bool.false_and, Bool.false_and]
      · have e : (b.off == (l.headD default).off) = false := beq_eq_false_iff_ne.2 hn
        rw [e, Bool.and_false, Bool.false_and]
theorem inv_bits {t : Int} {l : List Byt} {k : Nat} {v : Val} (h : Inv t l k v) : 0 ≤ v.bits ∧ v.bits ≤ 18446744073709551615 := by
  by_cases h65 : t = 65
  · rw [(h.adr h65).2]
    split
    · exact ⟨Int.le_refl _, by decide⟩
    · exact ⟨Int.le_refl _, by show (0 : Int) ≤ _; decide⟩
  · exact (h.num h65).2.2.1
theorem inv_done {t : Int} {l : List Byt} {v : Val} (h : Inv t l l.length v) (hc : countS t = l.length) (h0 : l.length ≠ 0) (hl : OkB l) : normS t v = unpackS t l := by
  have hr : (1 ≤ t ∧ t ≤ 64) ∨ t = 65 := by
    unfold countS at hc
    split at hc
    · exact .inr (by assumption)
    · split at hc
      · exact .inl (by assumption)
      · omega
  unfold unpackS
  rw [if_neg (by omega)]
  by_cases h65 : t = 65
  · obtain ⟨h4, h5⟩ := h.adr h65
    rw [List.take_length] at h4
    rw [if_pos h65, if_pos h4, h5, if_neg h0]
    unfold normS
    rw [if_neg (by simp), if_pos ⟨h65, rfl⟩]
  · obtain ⟨h1, h2, h3, h4, h5, h6⟩ := h.num h65
    rw [List.take_length] at h4 h5 h6
    have h4' : (l.all fun b => b.kind == 1 || b.kind == 3) = true := h4
    rw [if_neg h65, if_pos h4']
    by_cases c : any3 l = true
    · rw [if_pos c] at h5
      have e : (if (l.any fun b => b.kind == 3) = true then (⟨3, 0, 0, 0⟩ : Val) else ⟨1, bitsOf l % pw t, 0, 0⟩) = ⟨3, 0, 0, 0⟩ := if_pos c
      rw [e]
      unfold normS
      rw [if_neg (by omega), if_neg (by omega), if_pos (by omega)]
    · rw [if_neg c, if_neg h0] at h5
      have e : (if (l.any fun b => b.kind == 3) = true then (⟨3, 0, 0, 0⟩ : Val) else ⟨1, bitsOf l % pw t, 0, 0⟩) = ⟨1, bitsOf l % pw t, 0, 0⟩ := if_neg c
      rw [e]
      unfold normS
      rw [if_pos (by omega), h6 (by simpa using c)]
end Go.Proofs.Ytgkgmeofilkopaa
