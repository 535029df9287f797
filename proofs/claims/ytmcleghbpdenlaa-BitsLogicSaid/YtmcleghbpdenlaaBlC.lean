/- BitsLogic, walked; And and Or mirror each other. No condition. -/
import Derived.Test.YtmcleghbpdenlaaBlB
import Derived.Test.YtmcleghbpdenlaaBrB
namespace Go.Proofs.Ytmcleghbpdenlaa
open Go.RowKit
set_option linter.unusedSimpArgs false
set_option linter.unusedVariables false

theorem of_log {op v a b : Int} (h : op = 8 ∨ op = 9 ∨ op = 10) : ofV op v a b = logV op (a % pw v) (b % pw v) := by
  unfold ofV opS; rw [if_neg (by omega), if_neg (by omega), if_pos (by omega)]
section
variable (n A B : Nat)
theorem nat_mirror (hA : A < 2 ^ n) (hB : B < 2 ^ n) : (A &&& B) ^^^ (2 ^ n - 1) = (A ^^^ (2 ^ n - 1)) ||| (B ^^^ (2 ^ n - 1)) := by
  apply Nat.eq_of_testBit_eq
  intro i
  simp only [Nat.testBit_xor, Nat.testBit_and, Nat.testBit_or, Nat.testBit_two_pow_sub_one]
  rcases Nat.lt_or_ge i n with h | h
  · simp only [h, decide_true]; cases A.testBit i <;> cases B.testBit i <;> rfl
  · have e1 : A.testBit i = false := Nat.testBit_lt_two_pow (Nat.lt_of_lt_of_le hA (Nat.pow_le_pow_right (by decide) h))
    have e2 : B.testBit i = false := Nat.testBit_lt_two_pow (Nat.lt_of_lt_of_le hB (Nat.pow_le_pow_right (by decide) h))
    rw [e1, e2]; simp [h]
theorem nat_undo : (A ^^^ B) ^^^ B = A := by rw [Nat.xor_assoc, Nat.xor_self, Nat.xor_zero]
theorem nat_and_or : ∀ k A B : Nat, A < 2 ^ k → (A &&& B) + (A ||| B) = A + B
  | 0, A, B, h => by
    have : A = 0 := by simpa using h
    subst this; simp
  | k + 1, A, B, h => by
    have ih := nat_and_or k (A / 2) (B / 2) (by rw [Nat.pow_succ] at h; omega)
    have h1 : (A &&& B) / 2 = A / 2 &&& B / 2 := Nat.and_div_two
    have h2 : (A ||| B) / 2 = A / 2 ||| B / 2 := Nat.or_div_two
    have h3 : (A &&& B) % 2 = A % 2 &&& B % 2 := by have := Nat.and_mod_two_pow (a := A) (b := B) (n := 1); simpa using this
    have h4 : (A ||| B) % 2 = A % 2 ||| B % 2 := by have := Nat.or_mod_two_pow (a := A) (b := B) (n := 1); simpa using this
    have a2 : A % 2 = 0 ∨ A % 2 = 1 := by omega
    have b2 : B % 2 = 0 ∨ B % 2 = 1 := by omega
    have g3 : (A &&& B) % 2 = A % 2 * (B % 2) := by rw [h3]; rcases a2 with a2 | a2 <;> rcases b2 with b2 | b2 <;> rw [a2, b2] <;> rfl
    have g4 : (A ||| B) % 2 = A % 2 + B % 2 - A % 2 * (B % 2) := by rw [h4]; rcases a2 with a2 | a2 <;> rcases b2 with b2 | b2 <;> rw [a2, b2] <;> rfl
    clear h3 h4
    rcases a2 with a2 | a2 <;> rcases b2 with b2 | b2 <;> rw [a2, b2] at g3 g4 <;> omega
end
theorem logic_law {v a b : Int} (h1 : 1 ≤ v) (h2 : v ≤ 64) :
    ofV 10 v (ofV 8 v a b) (pw v - 1) = ofV 9 v (ofV 10 v a (pw v - 1)) (ofV 10 v b (pw v - 1)) ∧ ofV 10 v (ofV 10 v a b) b = a % pw v ∧ ofV 1 v (ofV 8 v a b) (ofV 9 v a b) = ofV 1 v a b := by
  have hp := pw_pos v
  have hM := pw_nat v
  have hh := pw_half h1
  have hH := pw_pos (v - 1)
  have hA : 0 ≤ a % pw v ∧ a % pw v < pw v := ⟨Int.emod_nonneg a (by omega), Int.emod_lt_of_pos a (by omega)⟩
  have hB : 0 ≤ b % pw v ∧ b % pw v < pw v := ⟨Int.emod_nonneg b (by omega), Int.emod_lt_of_pos b (by omega)⟩
  have hm : 0 ≤ pw v - 1 ∧ pw v - 1 < pw v := by omega
  have hms : (pw v - 1) % pw v = pw v - 1 := Int.emod_eq_of_lt hm.1 hm.2
  rw [of_add, of_add]
  simp only [of_log (op := 8) (.inl rfl), of_log (op := 9) (.inr (.inl rfl)), of_log (op := 10) (.inr (.inr rfl)), hms]
  have k8 := log_lt (op := 8) hA hB
  have k9 := log_lt (op := 9) hA hB
  have k10 := log_lt (op := 10) hA hB
  have ka := log_lt (op := 10) hA hm
  have kb := log_lt (op := 10) hB hm
  rw [Int.emod_eq_of_lt k8.1 k8.2, Int.emod_eq_of_lt k10.1 k10.2, Int.emod_eq_of_lt ka.1 ka.2, Int.emod_eq_of_lt kb.1 kb.2]
  have e1 : a % pw v + b % pw v = logV 8 (a % pw v) (b % pw v) + logV 9 (a % pw v) (b % pw v) := by
    have := nat_and_or v.toNat (a % pw v).toNat (b % pw v).toNat (by omega)
    show _ = ((((a % pw v).toNat &&& (b % pw v).toNat : Nat)) : Int) + (((a % pw v).toNat ||| (b % pw v).toNat : Nat) : Int)
    omega
  have em : (pw v - 1).toNat = 2 ^ v.toNat - 1 := by omega
  refine ⟨?_, ?_, ?_⟩
  · show (((((((a % pw v).toNat &&& (b % pw v).toNat : Nat)) : Int)).toNat ^^^ (pw v - 1).toNat : Nat) : Int) = ((((((a % pw v).toNat ^^^ (pw v - 1).toNat : Nat)) : Int)).toNat ||| ((((b % pw v).toNat ^^^ (pw v - 1).toNat : Nat)) : Int).toNat : Nat)
    rw [em, Int.toNat_natCast, Int.toNat_natCast, Int.toNat_natCast, nat_mirror v.toNat _ _ (by omega) (by omega)]
  · show ((((((a % pw v).toNat ^^^ (b % pw v).toNat : Nat)) : Int)).toNat ^^^ (b % pw v).toNat : Nat) = a % pw v
    rw [Int.toNat_natCast, nat_undo]
    omega
  · rw [← e1, Int.emod_add_emod, Int.add_emod_emod]

theorem not_any (v x : Int) (bw bm : Nat) (W : World) (hx : U64 x) (hm : U64 (pw v - 1)) (h0 : W.cell? ⟨bw, 0, none⟩ = some (.int .i64 v)) (h1 : W.cell? ⟨bm, 0, none⟩ = some (.int .u64 (pw v - 1))) :
    Calls Try.prog 35 #[.int .u64 x, .pointer (some ⟨bw, 0, none⟩), .pointer (some ⟨bm, 0, none⟩)] W fun e w' => e = .returned (.int .u64 (ofS 10 v x (pw v - 1))) ∧ Below W.heap.size W w' := by
  replace hx := hide hx
  replace hm := hide hm
  go_enter Try.func35, Try.ntmps35
  go_wp2_with fail
  refine (of_any 10 v x (pw v - 1) _ hx.out hm.out).mono ?_; rintro e w1 ⟨rfl, hb⟩
  go_wp2
  go_ret
  exact ⟨rfl, hb⟩

set_option maxRecDepth 100000 in
set_option maxHeartbeats 4000000 in
theorem law_logic (w a b : Int) (W : World) (hw : I64b w) (ha : U64 a) (hb : U64 b) :
    Calls Try.prog 12 #[.int .i64 w, .int .u64 a, .int .u64 b] W fun e w' => e = .returned (.bool true) ∧ Below W.heap.size W w' := by
  obtain ⟨v, hv⟩ : ∃ v, v = 1 + w % 64 := ⟨_, rfl⟩
  have h1 : 1 ≤ v := by omega
  have h2 : v ≤ 64 := by omega
  have hv' := hide hv
  clear hv
  obtain ⟨L1, L2, L3⟩ := logic_law (a := a) (b := b) h1 h2
  simp only [← ofS_eq h1 h2 (show (1 : Int) ≤ 1 by decide) (show (1 : Int) ≤ 19 by decide), ← ofS_eq h1 h2 (show (1 : Int) ≤ 8 by decide) (show (8 : Int) ≤ 19 by decide), ← ofS_eq h1 h2 (show (1 : Int) ≤ 9 by decide) (show (9 : Int) ≤ 19 by decide), ← ofS_eq h1 h2 (show (1 : Int) ≤ 10 by decide) (show (10 : Int) ≤ 19 by decide)] at L1 L2 L3
  have hp := pw_pos v
  have hle := pw_le (w := v) (by omega) h2
  have am : bits .and .u64 a (pw v - 1) = a % pw v := and_mask ha.1 ha.2 (by omega) h2
  have r1 : (ofS 10 v (ofS 8 v a b) (pw v - 1) == ofS 9 v (ofS 10 v a (pw v - 1)) (ofS 10 v b (pw v - 1))) = true := beq_iff_eq.2 L1
  have r2 : (ofS 10 v (ofS 10 v a b) b == a % pw v) = true := beq_iff_eq.2 L2
  have r3 : (ofS 1 v (ofS 8 v a b) (ofS 9 v a b) == ofS 1 v a b) = true := beq_iff_eq.2 L3
  have hm : Hid (U64 (pw v - 1)) := hide ⟨by omega, by omega⟩
  have hU : Hid (∀ op a b : Int, 1 ≤ op → op ≤ 19 → U64 (ofS op v a b)) := hide (fun op a b h3 h4 => ofS_u h1 h2 h3 h4)
  clear L1 L2 L3 hp hle
  replace ha := hide ha
  replace hb := hide hb
  replace hw := hide hw
  go_enter Try.func12, Try.ntmps12
  go_wp2_with fail
  refine (lives_any _).mono ?_; rintro e w1 ⟨rfl, hx⟩
  have q0 : w1.heap[W.heap.size]? = some (.cells #[.int .i64 w] 3 (0, 0)) := (hx.block _ (by simp)).trans (box_top W _)
  have hz1 : W.heap.size < w1.heap.size := by have := hx.size; simp at this; omega
  have hB := hide (under1 hx)
  clear hx
  have x0 := one_cell q0
  have x1 := one_free (j := 0) q0
  replace q0 := hide q0
  go_wp2_with fail
  refine (width_v w v _ hw.out hv'.out).mono ?_; rintro e w2 ⟨rfl, rfl⟩
  go_wp2_with fail
  refine (mask_ok v _ h1 h2).mono ?_; rintro e w2 ⟨rfl, rfl⟩
  go_wp2
  have hn := hide (hB.out.setCell (p := ⟨W.heap.size, 0, none⟩) (by show W.heap.size ≤ W.heap.size; omega) (.int .i64 v))
  have qv := hide (set_one (v := .int .i64 v) q0.out)
  obtain ⟨W2, hW2⟩ : ∃ W2, W2 = (w1.setCell ⟨W.heap.size, 0, none⟩ (.int .i64 v)).alloc (.cells #[.int .u64 (pw v - 1)] 22) := ⟨_, rfl⟩
  rw [← hW2]
  have hsz : W2.heap.size = w1.heap.size + 1 := by rw [hW2]; simp [World.setCell]
  have qm : W2.heap[w1.heap.size]? = some (.cells #[.int .u64 (pw v - 1)] 22 (0, 0)) := by
    have := box_top (w1.setCell ⟨W.heap.size, 0, none⟩ (.int .i64 v)) (.cells #[.int .u64 (pw v - 1)] 22)
    rw [hW2]
    simpa [World.setCell] using this
  have qw : W2.heap[W.heap.size]? = some (.cells #[.int .i64 v] 3 (0, 0)) := by rw [hW2]; exact one_alloc qv.out _
  have y0 : ∀ w', Below W2.heap.size W2 w' → w'.cell? ⟨W.heap.size, 0, none⟩ = some (.int .i64 v) := fun w' h => (h.cell (p := ⟨W.heap.size, 0, none⟩) (by show W.heap.size < _; omega)).trans (one_cell qw)
  have y1 : ∀ w', Below W2.heap.size W2 w' → w'.cell? ⟨w1.heap.size, 0, none⟩ = some (.int .u64 (pw v - 1)) := fun w' h => (h.cell (p := ⟨w1.heap.size, 0, none⟩) (by show w1.heap.size < _; omega)).trans (one_cell qm)
  have hN : Hid (Below W.heap.size W W2) := hide (by rw [hW2]; exact hn.out.alloc (by simp [World.setCell]; omega) _)
  clear hn qv qw qm q0 x0 x1 hB hW2
  replace hsz := hide hsz
  have hself := Below.refl W2.heap.size W2
  have hww := Nat.le_refl W2.heap.size
  go_region_held3 (fun w' => Below W2.heap.size W2 w') (first | exact hself.drew | exact below_next (by assumption) hww (by assumption))
    (first
      | (go_at_call 33; refine (of_any _ v _ _ _ (by first | exact ha.out | exact hb.out | exact hU.out _ _ _ (by decide) (by decide)) (by first | exact ha.out | exact hb.out | exact hU.out _ _ _ (by decide) (by decide))).mono ?_; rintro e w3 ⟨rfl, hx⟩)
      | (go_at_call 35; refine (not_any v _ _ _ _ (by first | exact ha.out | exact hb.out | exact hU.out _ _ _ (by decide) (by decide)) hm.out (y0 _ (by assumption)) (y1 _ (by assumption))).mono ?_; rintro e w3 ⟨rfl, hx⟩))

  all_goals go_wp2
  all_goals go_ret
  all_goals exact ⟨rfl, hN.out.trans ((by assumption : Below W2.heap.size W2 _).mono hN.out.size)⟩
end Go.Proofs.Ytmcleghbpdenlaa
