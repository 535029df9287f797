/- BitsFlags, walked. No condition. -/
import Derived.Test.YtmcleghbpdenlaaBlB
namespace Go.Proofs.Ytmcleghbpdenlaa
open Go.RowKit
set_option linter.unusedSimpArgs false
set_option linter.unusedVariables false

theorem bad_or (c : Bool) (x : Int × Int) : (if c = true then ((0 : Int), (1 : Int)) else x) = x ∨ (if c = true then ((0 : Int), (1 : Int)) else x) = (0, 1) := by
  cases c
  · exact .inl rfl
  · exact .inr rfl
/-- a flag changes no number -/
theorem opS_flags (o v M A B : Int) (n1 n2 n3 : Bool) :
    ((opS o v M A B false false false).2 ≠ 0 → opS o v M A B n1 n2 n3 = (0, (opS o v M A B false false false).2)) ∧
    ((opS o v M A B false false false).2 = 0 → opS o v M A B n1 n2 n3 = opS o v M A B false false false ∨ opS o v M A B n1 n2 n3 = (0, 1)) := by
  unfold opS
  by_cases c1 : o ≤ 3
  · simp only [if_pos c1]
    simp only [ringBad, Bool.false_and, Bool.or_false, Bool.false_eq_true, if_false]
    exact ⟨fun h => absurd rfl h, fun _ => bad_or _ _⟩
  · simp only [if_neg c1]
    by_cases c2 : o ≤ 7
    · simp only [if_pos c2]
      by_cases d : divOut o M A B = true
      · simp only [if_pos d]; simp
      · simp only [if_neg d]
        by_cases e : o = 6 ∨ o = 7
        · simp only [if_pos e]; simp
        · simp only [if_neg e, Bool.false_and, Bool.false_eq_true, if_false]
          exact ⟨fun h => absurd rfl h, fun _ => bad_or _ _⟩
    · simp only [if_neg c2]
      by_cases c3 : o ≤ 10
      · simp only [if_pos c3]; simp
      · simp only [if_neg c3]
        by_cases c4 : o ≤ 13
        · simp only [if_pos c4]
          by_cases d : v ≤ B
          · simp only [if_pos d]; simp
          · simp only [if_neg d]
            have : shBad o M A B false false false = false := by unfold shBad; split <;> rfl
            simp only [this, Bool.false_eq_true, if_false]
            exact ⟨fun h => absurd rfl h, fun _ => bad_or _ _⟩
        · simp only [if_neg c4]; simp
theorem snd_one {c : Bool} {x : Int} (h : (if c = true then ((0 : Int), (1 : Int)) else (x, 0)).2 = 1) : c = true := by
  cases c
  · cases h
  · rfl
theorem snd_of {c : Bool} {x : Int × Int} (h : c = true) : (if c = true then ((0 : Int), (1 : Int)) else x).2 = 1 := by rw [h]; rfl
/-- more flags make more poison -/
theorem opS_more (o v M A B : Int) (n1 n2 n3 t1 t2 t3 : Bool) (h1 : (n1 = true → t1 = true) ∧ (n2 = true → t2 = true) ∨ ¬ (o ≤ 3 ∨ o = 11)) (h3 : (n3 = true → t3 = true) ∨ (o ≤ 3 ∨ o = 11))
    (h : (opS o v M A B n1 n2 n3).2 = 1) : (opS o v M A B t1 t2 t3).2 = 1 := by
  have hor : ∀ U S : Bool, ((n1 = true → t1 = true) ∧ (n2 = true → t2 = true)) → (n1 && U || n2 && S) = true → (t1 && U || t2 && S) = true := by
    intro U S g k
    obtain ⟨g1, g2⟩ := g
    cases n1 <;> cases n2 <;> cases t1 <;> cases t2 <;> cases U <;> cases S <;> simp_all
  have hand : ∀ U : Bool, (n3 = true → t3 = true) → (n3 && U) = true → (t3 && U) = true := by
    intro U g k
    cases n3 <;> cases t3 <;> cases U <;> simp_all
  unfold opS at h ⊢
  by_cases c1 : o ≤ 3
  · rw [if_pos c1] at h ⊢
    exact snd_of (hor _ _ (h1.resolve_right (fun g => g (.inl c1))) (snd_one h))
  · rw [if_neg c1] at h ⊢
    by_cases c2 : o ≤ 7
    · rw [if_pos c2] at h ⊢
      by_cases d : divOut o M A B = true
      · rw [if_pos d] at h; cases h
      · rw [if_neg d] at h ⊢
        by_cases e : o = 6 ∨ o = 7
        · rw [if_pos e] at h; cases h
        · rw [if_neg e] at h ⊢
          exact snd_of (hand _ (h3.resolve_right (by omega)) (snd_one h))
    · rw [if_neg c2] at h ⊢
      by_cases c3 : o ≤ 10
      · rw [if_pos c3] at h; cases h
      · rw [if_neg c3] at h ⊢
        by_cases c4 : o ≤ 13
        · rw [if_pos c4] at h ⊢
          by_cases d : v ≤ B
          · rw [if_pos d]
          · rw [if_neg d] at h ⊢
            have hb := snd_one h
            refine snd_of ?_
            unfold shBad at hb ⊢
            by_cases e : o = 11
            · rw [if_pos e] at hb ⊢
              exact hor _ _ (h1.resolve_right (fun g => g (.inr e))) hb
            · rw [if_neg e] at hb ⊢
              exact hand _ (h3.resolve_right (by omega)) hb
        · rw [if_neg c4] at h
          cases h
theorem flag_facts (f : Int) (h : f = 1 ∨ f = 2 ∨ f = 3 ∨ f = 4 ∨ f = 5 ∨ f = 6 ∨ f = 7) : (bits .andNot .i64 f 3 != 0) = decide (3 < f) ∧ (bits .andNot .i64 f 4 != 0) = decide (f ≠ 4) ∧ (bits .andNot .i64 f 0 != 0) = true := by
  rcases h with rfl | rfl | rfl | rfl | rfl | rfl | rfl <;> decide +kernel
theorem flags_law {o v a b f V E y h : Int} (h1 : 1 ≤ v) (h2 : v ≤ 64) (o1 : 1 ≤ o) (o2 : o ≤ 13) (hf : f = 1 ∨ f = 2 ∨ f = 3 ∨ f = 4 ∨ f = 5 ∨ f = 6 ∨ f = 7)
    (e0 : applyS o v 0 a b = (V, E)) (ea : applyS o v (flagsOf o) a b = (y, h)) :
    (badF o f = true ∧ applyS o v f a b = (0, 3)) ∨ badF o f = false ∧ (E ≠ 0 ∧ applyS o v f a b = (0, E) ∧ h = E ∨ E = 0 ∧ applyS o v f a b = (V, 0) ∧ (h = 0 → y = V) ∨ E = 0 ∧ applyS o v f a b = (0, 1) ∧ h = 1) := by
  cases hb : badF o f
  · right
    refine ⟨rfl, ?_⟩
    obtain ⟨k3, k4, k0⟩ := flag_facts f hf
    have hbf := hb
    unfold badF at hbf
    have ho : (flagsOf o = 3 ∧ (o ≤ 3 ∨ o = 11)) ∨ (flagsOf o = 4 ∧ ¬ (o ≤ 3 ∨ o = 11)) := by
      unfold flagsOf at hbf ⊢
      by_cases g1 : o = 1 ∨ o = 2 ∨ o = 3 ∨ o = 11
      · rw [if_pos g1]; exact .inl ⟨rfl, by omega⟩
      · rw [if_neg g1] at hbf ⊢
        by_cases g2 : o = 4 ∨ o = 5 ∨ o = 12 ∨ o = 13
        · rw [if_pos g2]; exact .inr ⟨rfl, by omega⟩
        · rw [if_neg g2, k0] at hbf; cases hbf
    have hba : badF o (flagsOf o) = false := by
      rcases ho with ⟨g, _⟩ | ⟨g, _⟩ <;> (unfold badF; rw [g]; decide +kernel)
    rw [applyS_zero h1 h2 o1 (by omega)] at e0
    rw [applyS_yes h1 h2 o1 (by omega) hba] at ea
    rw [applyS_yes h1 h2 o1 (by omega) hb]
    obtain ⟨p1, p2⟩ := opS_flags o v (pw v) (a % pw v) (b % pw v) (nuw f) (nsw f) (exa f)
    obtain ⟨q1, q2⟩ := opS_flags o v (pw v) (a % pw v) (b % pw v) (nuw (flagsOf o)) (nsw (flagsOf o)) (exa (flagsOf o))
    have hm := opS_more o v (pw v) (a % pw v) (b % pw v) (nuw f) (nsw f) (exa f) (nuw (flagsOf o)) (nsw (flagsOf o)) (exa (flagsOf o))
      (by rcases ho with ⟨g, g'⟩ | ⟨g, g'⟩
          · left; rw [g]; exact ⟨fun _ => by decide +kernel, fun _ => by decide +kernel⟩
          · exact .inr g')
      (by rcases ho with ⟨g, g'⟩ | ⟨g, g'⟩
          · exact .inr g'
          · left; rw [g]; exact fun _ => by decide +kernel)
    rw [e0] at p1 p2 q1 q2
    rw [ea] at q1 q2 hm
    simp only at p1 p2 q1 q2 hm
    by_cases hE : E = 0
    · right
      rcases p2 hE with g | g
      · left
        refine ⟨hE, by rw [g, hE], fun hh => ?_⟩
        rcases q2 hE with k | k
        · injection k
        · injection k with _ k; omega
      · exact .inr ⟨hE, g, hm (by rw [g])⟩
    · left
      have := q1 hE
      injection this with _ this
      exact ⟨hE, p1 hE, this⟩
  · left
    exact ⟨rfl, applyS_no (.inr (.inr (.inr (.inr hb))))⟩

set_option maxRecDepth 100000 in
set_option maxHeartbeats 4000000 in
theorem law_flags (op w a b : Int) (W : World) (hop : I64b op) (hw : I64b w) (ha : U64 a) (hb : U64 b) :
    Calls Try.prog 9 #[.int .i64 op, .int .i64 w, .int .u64 a, .int .u64 b] W fun e w' => e = .returned (.bool true) ∧ Below W.heap.size W w' := by
  obtain ⟨v, hv⟩ : ∃ v, v = 1 + w % 64 := ⟨_, rfl⟩
  have h1 : 1 ≤ v := by omega
  have h2 : v ≤ 64 := by omega
  have hv' := hide hv
  clear hv
  obtain ⟨r, hr⟩ : ∃ r, r = op % 18446744073709551616 % 13 := ⟨_, rfl⟩
  have hr0 : 0 ≤ r := by omega
  have hr1 : r ≤ 12 := by omega
  have hrt : (IntKind.u64.wrap op).tmod 13 = r := by rw [hr, wrap_u, Int.tmod_eq_emod_of_nonneg (Int.emod_nonneg _ (by decide))]
  clear hr
  obtain ⟨o, ho⟩ : ∃ o, 1 + r = o := ⟨_, rfl⟩
  have o1 : 1 ≤ o := by omega
  have o2 : o ≤ 13 := by omega
  obtain ⟨V, hV⟩ : ∃ x, (applyS o v 0 a b).1 = x := ⟨_, rfl⟩
  obtain ⟨E, hE⟩ : ∃ x, (applyS o v 0 a b).2 = x := ⟨_, rfl⟩
  obtain ⟨y, hy⟩ : ∃ x, (applyS o v (flagsOf o) a b).1 = x := ⟨_, rfl⟩
  obtain ⟨h, hh⟩ : ∃ x, (applyS o v (flagsOf o) a b).2 = x := ⟨_, rfl⟩
  have e0 : applyS o v 0 a b = (V, E) := by rw [← hV, ← hE]
  have ea : applyS o v (flagsOf o) a b = (y, h) := by rw [← hy, ← hh]
  have L : Hid (∀ f : Int, (f = 1 ∨ f = 2 ∨ f = 3 ∨ f = 4 ∨ f = 5 ∨ f = 6 ∨ f = 7) → _) := hide (fun f hf => flags_law h1 h2 o1 o2 hf e0 ea)
  have c0 : Hid (∀ W, Calls Try.prog 27 #[.int .i64 o, .int .i64 v, .int .i64 0, .int .u64 a, .int .u64 b] W fun e w' => e = .returned (.tuple #[.int .u64 V, .int .i64 E]) ∧ Below W.heap.size W w') := hide (fun W => by
    have := apply_t o v 0 a b W ha hb
    rwa [e0] at this)
  have ca : Hid (∀ W, Calls Try.prog 27 #[.int .i64 o, .int .i64 v, .int .i64 (flagsOf o), .int .u64 a, .int .u64 b] W fun e w' => e = .returned (.tuple #[.int .u64 y, .int .i64 h]) ∧ Below W.heap.size W w') := hide (fun W => by
    have := apply_t o v (flagsOf o) a b W ha hb
    rwa [ea] at this)
  have cf : Hid (∀ f x g : Int, applyS o v f a b = (x, g) → ∀ W, Calls Try.prog 27 #[.int .i64 o, .int .i64 v, .int .i64 f, .int .u64 a, .int .u64 b] W fun e w' => e = .returned (.tuple #[.int .u64 x, .int .i64 g]) ∧ Below W.heap.size W w') := hide (fun f x g hp W => by
    have := apply_t o v f a b W ha hb
    rwa [hp] at this)
  clear hV hE hy hh e0 ea
  replace ha := hide ha
  replace hb := hide hb
  replace hw := hide hw
  replace hop := hide hop
  replace ho := hide ho
  have hB := Below.refl W.heap.size W
  go_enter Try.func9, Try.ntmps9
  go_wp2_with fail
  refine (lives_any _).mono ?_; rintro e w1 ⟨rfl, hx⟩
  replace hB := below_next hB (Nat.le_refl _) hx
  clear hx
  go_wp2_with fail
  refine (width_v w v _ hw.out hv'.out).mono ?_; rintro e w1 ⟨rfl, rfl⟩
  go_wp2_with fail
  rw [ho.out]
  refine (c0.out _).mono ?_; rintro e w1 ⟨rfl, hx⟩
  replace hB := below_next hB (Nat.le_refl _) hx
  clear hx
  go_wp2_with fail
  refine (flags_any o _).mono ?_; rintro e w1 ⟨rfl, rfl⟩
  go_wp2

  go_loopw [12] (fun i wr => ∃ k : Nat, 1 ≤ k ∧ k ≤ 8 ∧ i = .int .i64 k ∧ Below W.heap.size W wr) (fun i _ => 8 - (intOf i).toNat)
  case atStart => exact ⟨1, by decide, by decide, rfl, hB⟩
  case round =>
    clear hB
    obtain ⟨k, hk1, hk, rfl, hB⟩ := hrel
    by_cases hlt : k ≤ 7
    · rcases L.out (k : Int) (by omega) with ⟨g1, g2⟩ | ⟨g1, g2⟩
      · have g3 : (bits .andNot .i64 (k : Int) (flagsOf o) != 0) = true := g1
        replace g2 := hide g2
        clear g1
        go_wp2_with fail
        refine (cf.out _ _ _ g2.out _).mono ?_; rintro e w1 ⟨rfl, hx⟩
        replace hB := below_next hB (Nat.le_refl _) hx
        clear hx
        go_wp2
        go_roundw
        case rel => exact ⟨k + 1, by omega, by omega, by go_num, hB⟩
        case measure => simp [intOf]; omega
      · have g3 : (bits .andNot .i64 (k : Int) (flagsOf o) != 0) = false := g1
        clear g1
        rcases g2 with ⟨g4, g5, g6⟩ | ⟨g4, g5, g6⟩ | ⟨g4, g5, g6⟩
        · have t1 : (E != 0) = true := bne_iff_ne.2 g4
          have t2 : (E == 0) = false := beq_eq_false_iff_ne.2 g4
          have t3 : (E != E) = false := bne_self_eq_false E
          obtain rfl : h = E := g6
          replace g5 := hide g5
          clear g4
          cases t4 : (h == 1)
          · go_wp2_with fail
            refine (cf.out _ _ _ g5.out _).mono ?_; rintro e w1 ⟨rfl, hx⟩
            replace hB := below_next hB (Nat.le_refl _) hx
            clear hx
            go_wp2_with fail
            refine (ca.out _).mono ?_; rintro e w1 ⟨rfl, hx⟩
            replace hB := below_next hB (Nat.le_refl _) hx
            clear hx
            go_wp2
            go_roundw
            case rel => exact ⟨k + 1, by omega, by omega, by go_num, hB⟩
            case measure => simp [intOf]; omega
          · obtain rfl : h = 1 := beq_iff_eq.1 t4
            clear t4
            go_wp2_with fail
            refine (cf.out _ _ _ g5.out _).mono ?_; rintro e w1 ⟨rfl, hx⟩
            replace hB := below_next hB (Nat.le_refl _) hx
            clear hx
            go_wp2_with fail
            refine (ca.out _).mono ?_; rintro e w1 ⟨rfl, hx⟩
            replace hB := below_next hB (Nat.le_refl _) hx
            clear hx
            go_wp2
            go_roundw
            case rel => exact ⟨k + 1, by omega, by omega, by go_num, hB⟩
            case measure => simp [intOf]; omega
        · obtain rfl : E = 0 := g4
          replace g5 := hide g5
          have t3 : (V == V) = true := beq_self_eq_true V
          by_cases t4 : h = 0
          · obtain rfl : y = V := g6 t4
            obtain rfl : h = 0 := t4
            have t5 : (y != y) = false := bne_self_eq_false y
            clear g6
            go_wp2_with fail
            refine (cf.out _ _ _ g5.out _).mono ?_; rintro e w1 ⟨rfl, hx⟩
            replace hB := below_next hB (Nat.le_refl _) hx
            clear hx
            go_wp2_with fail
            refine (ca.out _).mono ?_; rintro e w1 ⟨rfl, hx⟩
            replace hB := below_next hB (Nat.le_refl _) hx
            clear hx
            go_wp2
            go_roundw
            case rel => exact ⟨k + 1, by omega, by omega, by go_num, hB⟩
            case measure => simp [intOf]; omega
          · have t5 : (h == 0) = false := beq_eq_false_iff_ne.2 t4
            clear g6 t4
            go_wp2_with fail
            refine (cf.out _ _ _ g5.out _).mono ?_; rintro e w1 ⟨rfl, hx⟩
            replace hB := below_next hB (Nat.le_refl _) hx
            clear hx
            go_wp2_with fail
            refine (ca.out _).mono ?_; rintro e w1 ⟨rfl, hx⟩
            replace hB := below_next hB (Nat.le_refl _) hx
            clear hx
            go_wp2
            go_roundw
            case rel => exact ⟨k + 1, by omega, by omega, by go_num, hB⟩
            case measure => simp [intOf]; omega
        · obtain rfl : E = 0 := g4
          obtain rfl : h = 1 := g6
          replace g5 := hide g5
          go_wp2_with fail
          refine (cf.out _ _ _ g5.out _).mono ?_; rintro e w1 ⟨rfl, hx⟩
          replace hB := below_next hB (Nat.le_refl _) hx
          clear hx
          go_wp2_with fail
          refine (ca.out _).mono ?_; rintro e w1 ⟨rfl, hx⟩
          replace hB := below_next hB (Nat.le_refl _) hx
          clear hx
          go_wp2
          go_roundw
          case rel => exact ⟨k + 1, by omega, by omega, by go_num, hB⟩
          case measure => simp [intOf]; omega
    · obtain rfl : k = 8 := by omega
      go_wp2
      go_ret
      exact ⟨rfl, hB⟩
end Go.Proofs.Ytmcleghbpdenlaa
