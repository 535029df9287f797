/- Walks of latheref12.Bytes and latheref12.Event. No condition. -/
import Derived.Test.YtffklfalocamiaaRefC
namespace Go.Proofs.Ytffklfalocamiaa
open Go.RowKit

theorem rbytesTo_full {a b : List Byt} {k : Nat} (hk : k ≤ a.length) (h : rbytesTo k a b = false ∨ k = a.length) : rbytesTo k a b = rbytes a b := by
  rcases h with h | rfl
  · rw [h]; unfold rbytesTo at h; unfold rbytes
    cases hl : (a.length == b.length)
    · simp
    · rw [hl, Bool.true_and] at h; rw [allLt_le hk h]; simp
  · rfl
theorem rvarsTo_full {a b : List (List Byt)} {k : Nat} (hk : k ≤ a.length) (h : rvarsTo k a b = false ∨ k = a.length) : rvarsTo k a b = rvars a b := by
  rcases h with h | rfl
  · rw [h]; unfold rvarsTo at h; unfold rvars
    cases hl : (a.length == b.length)
    · simp
    · rw [hl, Bool.true_and] at h; rw [allLt_le hk h]; simp
  · rfl
theorem rvalsTo_full {a b : List Val} {k : Nat} (hk : k ≤ a.length) (h : rvalsTo k a b = false ∨ k = a.length) : rvalsTo k a b = rvals a b := by
  rcases h with h | rfl
  · rw [h]; unfold rvalsTo at h; unfold rvals
    cases hl : (a.length == b.length)
    · simp
    · rw [hl, Bool.true_and] at h; rw [allLt_le hk h]; simp
  · rfl
theorem rbytesTo_len {a b : List Byt} {k : Nat} (h : rbytesTo k a b = true) : a.length = b.length := by simp [rbytesTo] at h; exact h.1
theorem rvarsTo_len {a b : List (List Byt)} {k : Nat} (h : rvarsTo k a b = true) : a.length = b.length := by simp [rvarsTo] at h; exact h.1
theorem rvalsTo_len {a b : List Val} {k : Nat} (h : rvalsTo k a b = true) : a.length = b.length := by simp [rvalsTo] at h; exact h.1
theorem rbytesTo_succ {a b : List Byt} {k : Nat} {p q : Byt} (h : rbytesTo k a b = true) (hp : a[k]? = some p) (hq : b[k]? = some q) : rbytesTo (k + 1) a b = rbyte p q := by
  unfold rbytesTo at h ⊢
  simp only [Bool.and_eq_true] at h
  rw [allLt_succ, h.1, h.2, getD_of hp, getD_of hq]; simp
theorem rvarsTo_succ {a b : List (List Byt)} {k : Nat} {p q : List Byt} (h : rvarsTo k a b = true) (hp : a[k]? = some p) (hq : b[k]? = some q) : rvarsTo (k + 1) a b = rbytes p q := by
  unfold rvarsTo at h ⊢
  simp only [Bool.and_eq_true] at h
  rw [allLt_succ, h.1, h.2, getD_of hp, getD_of hq]; simp
theorem rvalsTo_succ {a b : List Val} {k : Nat} {p q : Val} (h : rvalsTo k a b = true) (hp : a[k]? = some p) (hq : b[k]? = some q) : rvalsTo (k + 1) a b = rvalue p q := by
  unfold rvalsTo at h ⊢
  simp only [Bool.and_eq_true] at h
  rw [allLt_succ, h.1, h.2, getD_of hp, getD_of hq]; simp

set_option maxHeartbeats 800000 in
theorem bytes_any (u v : Value) (a b : List (List Byt)) (w : World) (B : Nat) (hB : B ≤ w.heap.size) (ha : RVars.rep w B [u] a) (hb : RVars.rep w B [v] b) :
    Calls Try.prog 73 #[u, v] w fun e w' => e = .returned (.bool (rvars a b)) ∧ Below w.heap.size w w' := by
  obtain ⟨A1, c1, h1, hm1, ga⟩ := Rp.slice1_open (RVars.later ha (Below.refl _ _) hB)
  obtain ⟨A2, c2, h2, hm2, gb⟩ := Rp.slice1_open (RVars.later hb (Below.refl _ _) hB)
  clear ha hb
  cases h1; cases h2
  replace ga := hide ga
  replace gb := hide gb
  obtain ⟨c, hc⟩ : ∃ c : Bool, c = ((a.length : Int) == (b.length : Int)) := ⟨_, rfl⟩
  have hc0 : Hid (c = rvarsTo 0 a b) := hide (by rw [hc, rvarsTo, allLt_zero, Bool.and_true, Bool.eq_iff_iff]; simp; omega)
  have hc' := hc.symm
  clear hc
  have hww := Nat.le_refl w.heap.size
  go_enter Try.func73, Try.ntmps73
  go_wp2
  clear hc'
  go_loopw [5, 6] (fun ok i wr => ∃ k : Nat, k ≤ a.length ∧ i = .int .i64 k ∧ (∃ d : Bool, Hid (d = rvarsTo k a b) ∧ ok = .bool d) ∧ Below w.heap.size w wr) (fun ok i _ => a.length - (intOf i).toNat + (match ok with | .bool true => 1 | _ => 0))
  case atStart => exact ⟨0, Nat.zero_le _, rfl, ⟨c, hc0, rfl⟩, Below.refl _ _⟩
  case round =>
    obtain ⟨k, hk, rfl, ⟨d, hd, rfl⟩, hbel⟩ := hrel
    cases d with
    | false =>
      go_wp2
      go_ret
      exact ⟨ret_bool (by rw [← rvarsTo_full hk (.inl hd.out.symm)]; exact hd.out), hbel⟩
    | true =>
    by_cases hlt : k < a.length
    · have hlt2 : k < b.length := by have := rvarsTo_len hd.out.symm; omega
      obtain ⟨b1, o1, rfl, he1⟩ := ga.out (by omega)
      obtain ⟨b2, o2, rfl, he2⟩ := gb.out (by omega)
      obtain ⟨x, hx⟩ := get_ex hlt
      obtain ⟨y, hy⟩ := get_ex hlt2
      obtain ⟨d1, hr1, hd1⟩ := he1 k x hx.out
      obtain ⟨d2, hr2, hd2⟩ := he2 k y hy.out
      obtain ⟨A3, c3, h3, hm3, ga3⟩ := Rp.slice_open hr1
      obtain ⟨A4, c4, h4, hm4, gb4⟩ := Rp.slice_open hr2
      clear he1 he2 hr1 hr2
      cases h3; cases h4
      have gb3 := hide gb4
      replace ga3 := hide ga3
      clear gb4
      obtain ⟨c5, hc5⟩ : ∃ c5 : Bool, c5 = ((x.length : Int) == (y.length : Int)) := ⟨_, rfl⟩
      have hc6 : Hid (c5 = rbytesTo 0 x y) := hide (by rw [hc5, rbytesTo, allLt_zero, Bool.and_true, Bool.eq_iff_iff]; simp; omega)
      have hc5' := hc5.symm
      clear hc5
      go_wp2
      go_quiet (fail)
      go_wp2
      clear hc5'
      go_loopw [5, 7] (fun ok i wr1 => ∃ m : Nat, m ≤ x.length ∧ i = .int .i64 m ∧ (∃ d : Bool, Hid (d = rbytesTo m x y) ∧ ok = .bool d) ∧ Below w.heap.size w wr1) (fun ok i _ => x.length - (intOf i).toNat + (match ok with | .bool true => 1 | _ => 0))
      case atStart => exact ⟨0, Nat.zero_le _, rfl, ⟨c5, hc6, rfl⟩, hbel.trans (below_drewN (Below.refl _ _) _)⟩
      case round =>
        obtain ⟨m, hm, rfl, ⟨d6, hd6, rfl⟩, hbel1⟩ := hrel
        cases d6 with
        | false =>
          go_wp2
          go_roundw
          case rel => exact ⟨k + 1, hlt, by go_num, ⟨false, hide (by rw [rvarsTo_succ hd.out.symm hx.out hy.out, ← rbytesTo_full hm (.inl hd6.out.symm)]; exact hd6.out), rfl⟩, by assumption⟩
          case measure => simp [intOf]; omega
        | true =>
        by_cases hlt3 : m < x.length
        · have hlt4 : m < y.length := by have := rbytesTo_len hd6.out.symm; omega
          obtain ⟨b3, o3, rfl, he3⟩ := ga3.out (by omega)
          obtain ⟨b4, o4, rfl, he4⟩ := gb3.out (by omega)
          obtain ⟨p, hp⟩ := get_ex hlt3
          obtain ⟨q, hq⟩ := get_ex hlt4
          obtain ⟨_, _, ⟨rfl, _⟩, hc3⟩ := he3 m p hp.out
          obtain ⟨_, _, ⟨rfl, _⟩, hc4⟩ := he4 m q hq.out
          obtain ⟨p0, p1, p2, p3, p4⟩ := hc3.five
          obtain ⟨q0, q1, q2, q3, q4⟩ := hc4.five
          clear he3 he4 hc3 hc4
          go_wp2
          go_region_held3 (fun w' => Below w.heap.size w w') (first | exact hbel1.drew | exact below_next (by assumption) hww (by assumption))
            (first | (go_at_call 20; refine (rbyte_any p q _).mono ?_; rintro e w1 ⟨rfl, hcall⟩))
          go_wp2
          go_roundw
          case rel => exact ⟨m + 1, hlt3, by go_num, ⟨_, hide (rbytesTo_succ hd6.out.symm hp.out hq.out).symm, rfl⟩, by assumption⟩
          case measure => cases rbyte p q <;> simp [intOf] <;> omega
        · go_wp2
          go_roundw
          case rel => exact ⟨k + 1, hlt, by go_num, ⟨true, hide (by rw [rvarsTo_succ hd.out.symm hx.out hy.out, ← rbytesTo_full hm (.inr (by omega))]; exact hd6.out), rfl⟩, by assumption⟩
          case measure => simp [intOf]; omega
    · go_wp2
      go_ret
      exact ⟨ret_bool (by rw [← rvarsTo_full hk (.inr (by omega))]; exact hd.out), hbel⟩
end Go.Proofs.Ytffklfalocamiaa
