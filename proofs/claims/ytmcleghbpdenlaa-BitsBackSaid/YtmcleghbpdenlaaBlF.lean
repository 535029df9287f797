/- BitsBack, walked. No condition. -/
import Derived.Test.YtmcleghbpdenlaaBlB
namespace Go.Proofs.Ytmcleghbpdenlaa
open Go.RowKit
set_option linter.unusedSimpArgs false
set_option linter.unusedVariables false

/-- all that BitsBack asks -/
theorem back_law {w v a b : Int} (h1 : 1 ≤ w) (hv : w < v) (h2 : v ≤ 64) :
    convS 20 w v a = (a % pw w, true) ∧ convS 21 w v a = (sg (pw w) a % pw v, true) ∧
    convS 22 v w (a % pw w) = (a % pw w, true) ∧ convS 22 v w (sg (pw w) a % pw v) = (a % pw w, true) ∧
    sg (pw v) (sg (pw w) a % pw v) = sg (pw w) a ∧ convS 22 v w (ofS 1 v a b) = (ofS 1 w a b, true) := by
  obtain ⟨hM, hH, hw⟩ := wid h1 (show w ≤ 64 by omega)
  obtain ⟨hN, hK, hk⟩ := wid (w := v) (by omega) h2
  have hs : pw v = pw w * pw (v - w) := pw_split (w := v) (B := w) (by omega) hv
  have hd : ∀ n : Int, n % pw v % pw w = n % pw w := fun n => Int.emod_emod_of_dvd n ⟨_, hs⟩
  have c : ∀ x : Int, convS 22 v w x = (x % pw w, true) := fun x => by
    unfold convS
    rw [if_neg (by omega), if_neg (by omega), if_neg (by omega), if_pos ⟨rfl, hv⟩]
  refine ⟨?_, ?_, ?_, ?_, ?_, ?_⟩
  · unfold convS; rw [if_neg (by omega), if_pos ⟨rfl, hv⟩]
  · unfold convS; rw [if_neg (by omega), if_neg (by omega), if_pos ⟨rfl, hv⟩]
  · rw [c, Int.emod_emod]
  · rw [c, hd, sg_mod (by omega)]
  · rw [sg_cut, hN]
    have hx := sg_in (v := a) hH
    rw [← hM] at hx
    have hmono := pw_mono (a := w - 1) (b := v - 1) (by omega) (by omega)
    exact sg_id (by omega) (by omega)
  · rw [c, ofS_eq (by omega) h2 (by decide) (by decide), ofS_eq h1 (by omega) (by decide) (by decide), of_add, of_add, hd]

set_option maxRecDepth 100000 in
set_option maxHeartbeats 4000000 in
theorem law_back (w more a b : Int) (W : World) (hw : I64b w) (hm : I64b more) (ha : U64 a) (hb : U64 b) :
    Calls Try.prog 14 #[.int .i64 w, .int .i64 more, .int .u64 a, .int .u64 b] W fun e w' => e = .returned (.bool true) ∧ Below W.heap.size W w' := by
  obtain ⟨u, hu⟩ : ∃ u, u = 1 + w % 64 := ⟨_, rfl⟩
  have h1 : 1 ≤ u := by omega
  have h2 : u ≤ 64 := by omega
  have hu' := hide hu
  clear hu
  have hB := Below.refl W.heap.size W
  by_cases h64 : u = 64
  · have t0 : (u == 64) = true := beq_iff_eq.2 h64
    replace hw := hide hw
    clear h64
    go_enter Try.func14, Try.ntmps14
    go_wp2_with fail
    refine (lives_any _).mono ?_; rintro e w1 ⟨rfl, hx⟩
    replace hB := below_next hB (Nat.le_refl _) hx
    clear hx
    go_wp2_with fail
    refine (width_v w u _ hw.out hu'.out).mono ?_; rintro e w1 ⟨rfl, rfl⟩
    go_wp2
    go_ret
    exact ⟨rfl, hB⟩
  · have t0 : (u == 64) = false := beq_eq_false_iff_ne.2 h64
    have hlt : u ≤ 63 := by omega
    obtain ⟨r, hr⟩ : ∃ r, r = more % 18446744073709551616 % (64 - u) := ⟨_, rfl⟩
    have hr0 : 0 ≤ r := by rw [hr]; exact Int.emod_nonneg _ (by omega)
    have hr1 : r < 64 - u := by rw [hr]; exact Int.emod_lt_of_pos _ (by omega)
    have hrt : (IntKind.u64.wrap more).tmod (64 - u) = r := by rw [hr, wrap_u, Int.tmod_eq_emod_of_nonneg (Int.emod_nonneg _ (by decide))]
    clear hr
    obtain ⟨v, hv⟩ : ∃ v, u + 1 + r = v := ⟨_, rfl⟩
    have v1 : u < v := by omega
    have v2 : v ≤ 64 := by omega
    obtain ⟨e1, e2, e3, e4, e5, e6⟩ := back_law (a := a) (b := b) h1 v1 v2
    have hp := pw_pos u
    have hq := pw_pos v
    have hle := pw_le (w := u) (by omega) h2
    have hlq := pw_le (w := v) (by omega) v2
    have za : Hid (U64 (a % pw u)) := hide ⟨Int.emod_nonneg _ (by omega), by have := Int.emod_lt_of_pos a (show 0 < pw u by omega); omega⟩
    have zs : Hid (U64 (sg (pw u) a % pw v)) := hide ⟨Int.emod_nonneg _ (by omega), by have := Int.emod_lt_of_pos (sg (pw u) a) (show 0 < pw v by omega); omega⟩
    have zo : Hid (U64 (ofS 1 v a b)) := hide (ofS_u (by omega) v2 (by decide) (by decide))
    obtain ⟨s, hs⟩ : ∃ s, sg (pw u) a % pw v = s := ⟨_, rfl⟩
    rw [hs] at e2 e4 e5 zs
    have am : bits .and .u64 a (pw u - 1) = a % pw u := and_mask ha.1 ha.2 (by omega) h2
    have c1 : Hid (∀ W, Calls Try.prog 36 #[.int .i64 20, .int .i64 u, .int .i64 v, .int .u64 a] W fun e w' => e = .returned (.tuple #[.int .u64 (a % pw u), .bool true]) ∧ Below W.heap.size W w') := hide (fun W => by
      have := conv_t 20 u v a W ha
      rwa [e1] at this)
    have c2 : Hid (∀ W, Calls Try.prog 36 #[.int .i64 21, .int .i64 u, .int .i64 v, .int .u64 a] W fun e w' => e = .returned (.tuple #[.int .u64 s, .bool true]) ∧ Below W.heap.size W w') := hide (fun W => by
      have := conv_t 21 u v a W ha
      rwa [e2] at this)
    have c3 : Hid (∀ W, Calls Try.prog 36 #[.int .i64 22, .int .i64 v, .int .i64 u, .int .u64 (a % pw u)] W fun e w' => e = .returned (.tuple #[.int .u64 (a % pw u), .bool true]) ∧ Below W.heap.size W w') := hide (fun W => by
      have := conv_t 22 v u (a % pw u) W za.out
      rwa [e3] at this)
    have c4 : Hid (∀ W, Calls Try.prog 36 #[.int .i64 22, .int .i64 v, .int .i64 u, .int .u64 s] W fun e w' => e = .returned (.tuple #[.int .u64 (a % pw u), .bool true]) ∧ Below W.heap.size W w') := hide (fun W => by
      have := conv_t 22 v u s W zs.out
      rwa [e4] at this)
    have c5 : Hid (∀ W, Calls Try.prog 36 #[.int .i64 22, .int .i64 v, .int .i64 u, .int .u64 (ofS 1 v a b)] W fun e w' => e = .returned (.tuple #[.int .u64 (ofS 1 u a b), .bool true]) ∧ Below W.heap.size W w') := hide (fun W => by
      have := conv_t 22 v u (ofS 1 v a b) W zo.out
      rwa [e6] at this)
    have e5' : (sg (pw v) s != sg (pw u) a) = false := bne_eq_false_iff_eq.2 e5
    replace hw := hide hw
    replace ha := hide ha
    replace hb := hide hb
    replace hv := hide hv
    clear e1 e2 e3 e4 e5 e6 hs hp hq hle hlq h64 hm
    go_enter Try.func14, Try.ntmps14
    go_wp2_with fail
    refine (lives_any _).mono ?_; rintro e w1 ⟨rfl, hx⟩
    replace hB := below_next hB (Nat.le_refl _) hx
    clear hx
    go_wp2_with fail
    refine (width_v w u _ hw.out hu'.out).mono ?_; rintro e w1 ⟨rfl, rfl⟩
    go_wp2_with fail
    rw [hv.out]
    refine (c1.out _).mono ?_; rintro e w1 ⟨rfl, hx⟩
    replace hB := below_next hB (Nat.le_refl _) hx
    clear hx
    go_wp2_with fail
    refine (c2.out _).mono ?_; rintro e w1 ⟨rfl, hx⟩
    replace hB := below_next hB (Nat.le_refl _) hx
    clear hx
    go_wp2_with fail
    refine (c3.out _).mono ?_; rintro e w1 ⟨rfl, hx⟩
    replace hB := below_next hB (Nat.le_refl _) hx
    clear hx
    go_wp2_with fail
    refine (c4.out _).mono ?_; rintro e w1 ⟨rfl, hx⟩
    replace hB := below_next hB (Nat.le_refl _) hx
    clear hx
    go_wp2_with fail
    refine (mask_ok u _ h1 h2).mono ?_; rintro e w1 ⟨rfl, rfl⟩
    go_wp2_with fail
    refine (signed_ok v s _ (by omega) v2).mono ?_; rintro e w1 ⟨rfl, rfl⟩
    go_wp2_with fail
    refine (signed_ok u a _ h1 h2).mono ?_; rintro e w1 ⟨rfl, rfl⟩
    go_wp2_with fail
    refine (of_any 1 v a b _ ha.out hb.out).mono ?_; rintro e w1 ⟨rfl, hx⟩
    replace hB := below_next hB (Nat.le_refl _) hx
    clear hx
    go_wp2_with fail
    refine (c5.out _).mono ?_; rintro e w1 ⟨rfl, hx⟩
    replace hB := below_next hB (Nat.le_refl _) hx
    clear hx
    go_wp2_with fail
    refine (of_any 1 u a b _ ha.out hb.out).mono ?_; rintro e w1 ⟨rfl, hx⟩
    replace hB := below_next hB (Nat.le_refl _) hx
    clear hx
    go_wp2
    go_ret
    exact ⟨rfl, hB⟩
end Go.Proofs.Ytmcleghbpdenlaa
