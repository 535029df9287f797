/- The reference of layer 1: bit, bitwise, walked. No condition. -/
import Derived.Test.YtmcleghbpdenlaaBrC
namespace Go.Proofs.Ytmcleghbpdenlaa
open Go.RowKit
set_option linter.unusedSimpArgs false
set_option linter.unusedVariables false

def lg (op : Int) (x y : Nat) : Nat := if op = 8 then x &&& y else if op = 9 then x ||| y else x ^^^ y
theorem lg_mod (op : Int) (x y k : Nat) : lg op x y % 2 ^ k = lg op (x % 2 ^ k) (y % 2 ^ k) := by
  unfold lg
  split
  · exact Nat.and_mod_two_pow
  · split
    · exact Nat.or_mod_two_pow
    · exact Nat.xor_mod_two_pow
theorem lg_div (op : Int) (x y k : Nat) : lg op x y / 2 ^ k = lg op (x / 2 ^ k) (y / 2 ^ k) := by
  unfold lg
  split
  · exact Nat.and_div_two_pow
  · split
    · exact Nat.or_div_two_pow
    · exact Nat.xor_div_two_pow
theorem lg_step (op : Int) (x y k : Nat) : lg op x y % 2 ^ (k + 1) = lg op x y % 2 ^ k + 2 ^ k * lg op (x / 2 ^ k % 2) (y / 2 ^ k % 2) := by
  rw [bits_mod_succ, lg_div]
  have := lg_mod op (x / 2 ^ k) (y / 2 ^ k) 1
  rw [Nat.pow_one] at this
  rw [this]
theorem lg_bit (op : Int) (x y : Nat) : lg op (x % 2) (y % 2) ≤ 1 := by
  have := lg_mod op x y 1
  rw [Nat.pow_one] at this
  omega
theorem lg_log {op w a b : Int} (hop : op = 8 ∨ op = 9 ∨ op = 10) (h1 : 1 ≤ w) (ha : 0 ≤ a) (hb : 0 ≤ b) : logV op (a % pw w) (b % pw w) = ((lg op a.toNat b.toNat % 2 ^ w.toNat : Nat) : Int) := by
  obtain ⟨x, rfl⟩ := Int.eq_ofNat_of_zero_le ha
  obtain ⟨y, rfl⟩ := Int.eq_ofNat_of_zero_le hb
  have ex : (Int.ofNat x % pw w) = ((x % 2 ^ w.toNat : Nat) : Int) := by rw [pw_nat]; rfl
  have ey : (Int.ofNat y % pw w) = ((y % 2 ^ w.toNat : Nat) : Int) := by rw [pw_nat]; rfl
  have fx : (((x % 2 ^ w.toNat : Nat) : Int)).toNat = x % 2 ^ w.toNat := rfl
  have fy : (((y % 2 ^ w.toNat : Nat) : Int)).toNat = y % 2 ^ w.toNat := rfl
  rw [show ((x : Nat) : Int) = Int.ofNat x from rfl, show ((y : Nat) : Int) = Int.ofNat y from rfl, ex, ey]
  rw [lg_mod]
  show logV op _ _ = ((lg op (x % 2 ^ w.toNat) (y % 2 ^ w.toNat) : Nat) : Int)
  unfold logV lg
  rw [fx, fy]
  rcases hop with rfl | rfl | rfl
  · rw [if_pos rfl, if_pos rfl]
  · rw [if_neg (by decide), if_pos rfl, if_neg (by decide), if_pos rfl]
  · rw [if_neg (by decide), if_neg (by decide), if_neg (by decide), if_neg (by decide)]
set_option maxRecDepth 100000 in
set_option maxHeartbeats 1600000 in
theorem rbit_any (op : Int) (x y : Nat) (W : World) (hop : op = 8 ∨ op = 9 ∨ op = 10) (hx : x < 2) (hy : y < 2) :
    Calls Try.prog 69 #[.int .i64 op, .int .u64 (x : Int), .int .u64 (y : Int)] W fun e w' => e = .returned (.int .u64 ((lg op x y : Nat) : Int)) ∧ W = w' := by
  obtain hx | hx : x = 0 ∨ x = 1 := by omega
  all_goals obtain hy | hy : y = 0 ∨ y = 1 := by omega
  all_goals subst hx
  all_goals subst hy
  all_goals rcases hop with rfl | rfl | rfl
  all_goals
    go_enter Try.func69, Try.ntmps69
    go_wp2
    go_ret
    exact ⟨ret_int (by decide), rfl⟩
set_option maxRecDepth 100000 in
set_option maxHeartbeats 1600000 in
theorem rbitwise_any (op w a b : Int) (W : World) (h1 : 1 ≤ w) (h2 : w ≤ 64) (ha : 0 ≤ a ∧ a ≤ 18446744073709551615) (hb : 0 ≤ b ∧ b ≤ 18446744073709551615) (hop : op = 8 ∨ op = 9 ∨ op = 10) :
    Calls Try.prog 53 #[.int .i64 op, .int .i64 w, .int .u64 a, .int .u64 b] W fun e w' => e = .returned (.int .u64 (logV op (a % pw w) (b % pw w))) ∧ W = w' := by
  have hres := hide (lg_log hop h1 ha.1 hb.1)
  have ea : Hid (a = ((a.toNat / 2 ^ 0 : Nat) : Int)) := hide (by simp; omega)
  have eb : Hid (b = ((b.toNat / 2 ^ 0 : Nat) : Int)) := hide (by simp; omega)
  have la : a.toNat ≤ 18446744073709551615 := by omega
  have lb : b.toNat ≤ 18446744073709551615 := by omega
  obtain ⟨x, hx⟩ : ∃ x, a.toNat = x := ⟨_, rfl⟩
  obtain ⟨y, hy⟩ : ∃ x, b.toNat = x := ⟨_, rfl⟩
  rw [hx] at hres ea la
  rw [hy] at hres eb lb
  replace hop := hide hop
  clear hx hy
  go_enter Try.func53, Try.ntmps53
  go_wp2
  go_loopw [2, 3, 9, 10, 11] (fun s2 s3 s9 s10 s11 wr => ∃ k : Nat, (k : Int) ≤ w ∧ s2 = .int .u64 ((x / 2 ^ k : Nat) : Int) ∧ s3 = .int .u64 ((y / 2 ^ k : Nat) : Int) ∧ s9 = .int .u64 ((lg op x y % 2 ^ k : Nat) : Int) ∧ s10 = .int .u64 ((2 ^ k % 18446744073709551616 : Nat) : Int) ∧ s11 = .int .i64 k ∧ wr = W) (fun _ _ _ _ s11 _ => (w - intOf s11).toNat)
  case atStart => exact ⟨0, by omega, by rw [← ea.out], by rw [← eb.out], by simp [Nat.mod_one], by rfl, rfl, rfl⟩
  case round =>
    obtain ⟨k, hk, rfl, rfl, rfl, rfl, rfl, rfl⟩ := hrel
    by_cases hlt : (k : Int) < w
    · have hst := lg_step op x y k
      have hcl := lg_bit op (x / 2 ^ k) (y / 2 ^ k)
      have hpl : 2 ^ (k + 1) ≤ 18446744073709551616 := Nat.pow_le_pow_right (n := 2) (by decide) (show k + 1 ≤ 64 by omega)
      have hml := Nat.mod_lt (lg op x y) (Nat.two_pow_pos (k + 1))
      have hps : 2 ^ (k + 1) = 2 * 2 ^ k := by rw [Nat.pow_succ, Nat.mul_comm]
      have hda : x / 2 ^ (k + 1) = x / 2 ^ k / 2 := by rw [Nat.pow_succ, Nat.div_div_eq_div_mul]
      have hdb : y / 2 ^ (k + 1) = y / 2 ^ k / 2 := by rw [Nat.pow_succ, Nat.div_div_eq_div_mul]
      have hal : x / 2 ^ k ≤ x := Nat.div_le_self _ _
      have hbl : y / 2 ^ k ≤ y := Nat.div_le_self _ _
      have cB : Hid (∀ W, Calls Try.prog 69 #[.int .i64 op, .int .u64 ((x / 2 ^ k % 2 : Nat) : Int), .int .u64 ((y / 2 ^ k % 2 : Nat) : Int)] W fun e w' => e = .returned (.int .u64 ((lg op (x / 2 ^ k % 2) (y / 2 ^ k % 2) : Nat) : Int)) ∧ W = w') := hide (fun W => rbit_any op _ _ W hop.out (Nat.mod_lt _ (by decide)) (Nat.mod_lt _ (by decide)))
      have hp0 := Nat.two_pow_pos k
      obtain ⟨V2, hV2⟩ : ∃ v, lg op x y % 2 ^ (k + 1) = v := ⟨_, rfl⟩
      obtain ⟨X2, hX2⟩ : ∃ v, x / 2 ^ (k + 1) = v := ⟨_, rfl⟩
      obtain ⟨Y2, hY2⟩ : ∃ v, y / 2 ^ (k + 1) = v := ⟨_, rfl⟩
      obtain ⟨P2, hP2⟩ : ∃ v, 2 ^ (k + 1) = v := ⟨_, rfl⟩
      rw [hV2] at hst hml
      rw [hX2] at hda
      rw [hY2] at hdb
      rw [hP2] at hpl hml hps
      obtain ⟨p, hp⟩ : ∃ v, 2 ^ k = v := ⟨_, rfl⟩
      rw [hp] at hst hcl hps hda hdb hal hbl cB hp0 ⊢
      obtain ⟨X1, hX1⟩ : ∃ v, x / p = v := ⟨_, rfl⟩
      obtain ⟨Y1, hY1⟩ : ∃ v, y / p = v := ⟨_, rfl⟩
      obtain ⟨V1, hV1⟩ : ∃ v, lg op x y % p = v := ⟨_, rfl⟩
      have hU : p % 18446744073709551616 = p := by omega
      rw [hX1, hY1, hV1, hU]
      rw [hX1, hY1] at cB hcl hst
      rw [hX1] at hda hal
      rw [hY1] at hdb hbl
      rw [hV1] at hst
      obtain ⟨c, hc⟩ : ∃ v, lg op (X1 % 2) (Y1 % 2) = v := ⟨_, rfl⟩
      rw [hc] at cB hcl hst
      obtain ⟨m, hm⟩ : ∃ v, p * c = v := ⟨_, rfl⟩
      rw [hm] at hst
      have hmi : (p : Int) * (c : Int) = (m : Int) := by rw [← hm]; simp
      have hmp : m ≤ p := by
        obtain h | h : c = 0 ∨ c = 1 := by omega
        · rw [← hm, h]; omega
        · rw [← hm, h]; omega
      have hw1 : IntKind.u64.wrap ((p : Int) * (c : Int)) = (m : Int) := by rw [hmi, wrap_u]; omega
      have hw2 : IntKind.u64.wrap ((V1 : Int) + (m : Int)) = (V2 : Int) := by rw [wrap_u]; omega
      have hw3 : IntKind.u64.wrap ((p : Int) * 2) = ((P2 % 18446744073709551616 : Nat) : Int) := by rw [wrap_u]; omega
      have hd1 : (X1 : Int) / 2 = (X2 : Int) := by omega
      have hd2 : (Y1 : Int) / 2 = (Y2 : Int) := by omega
      have hxl : X1 ≤ 18446744073709551615 := by omega
      have hyl : Y1 ≤ 18446744073709551615 := by omega
      obtain ⟨P3, hP3⟩ : ∃ v, P2 % 18446744073709551616 = v := ⟨_, rfl⟩
      rw [hP3] at hw3
      have cB' : Hid (∀ W, Calls Try.prog 69 #[.int .i64 op, .int .u64 ((X1 : Int) % 2), .int .u64 ((Y1 : Int) % 2)] W fun e w' => e = .returned (.int .u64 (c : Int)) ∧ W = w') := hide (fun W => cB.out W)
      have fin : Hid (((x / 2 ^ (k + 1) : Nat) : Int) = X2 ∧ ((y / 2 ^ (k + 1) : Nat) : Int) = Y2 ∧ ((lg op x y % 2 ^ (k + 1) : Nat) : Int) = V2 ∧ ((2 ^ (k + 1) % 18446744073709551616 : Nat) : Int) = P3) := hide ⟨by rw [hX2], by rw [hY2], by rw [hV2], by rw [hP2, hP3]⟩
      clear hst hcl hpl hml hps hda hdb hal hbl cB hV2 hX2 hY2 hP2 hX1 hY1 hV1 hU hc hm hmi hmp hP3 hp hp0
      go_wp2_with (go_at_call 69; refine (cB'.out _).mono ?_; rintro e w' ⟨rfl, rfl⟩)
      go_roundw
      case rel =>
        obtain ⟨f1, f2, f3, f4⟩ := fin.out
        exact ⟨k + 1, by omega, by rw [f1], by rw [f2], by rw [f3], by rw [f4], by go_num, trivial⟩
      case measure => simp [intOf]; omega
    · obtain rfl : w = (k : Int) := by omega
      have hv : Hid (logV op (a % pw (k : Int)) (b % pw (k : Int)) = ((lg op x y % 2 ^ k : Nat) : Int)) := hide (by have := hres.out; simpa using this)
      go_wp2
      go_ret
      exact ⟨ret_int (by rw [hv.out]; simp), rfl⟩
end Go.Proofs.Ytmcleghbpdenlaa
