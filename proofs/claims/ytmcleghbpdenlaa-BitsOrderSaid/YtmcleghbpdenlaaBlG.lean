/- BitsOrder, walked. No condition. -/
import Derived.Test.YtmcleghbpdenlaaBlB
import Derived.Test.YtmcleghbpdenlaaBwD
namespace Go.Proofs.Ytmcleghbpdenlaa
open Go.RowKit
set_option linter.unusedSimpArgs false
set_option linter.unusedVariables false

theorem of_cmp {op v a b : Int} (h1 : 1 ≤ v) (h2 : v ≤ 64) (h3 : 14 ≤ op) (h4 : op ≤ 19) : ofS op v a b = if cmpB op (pw v) (a % pw v) (b % pw v) then 1 else 0 := by
  rw [ofS_eq h1 h2 (by omega) h4]
  unfold ofV opS
  rw [if_neg (by omega), if_neg (by omega), if_neg (by omega), if_neg (by omega)]
theorem sg_inj {v A B : Int} (h1 : 1 ≤ v) (h2 : v ≤ 64) (hA : 0 ≤ A ∧ A < pw v) (hB : 0 ≤ B ∧ B < pw v) : sg (pw v) A = sg (pw v) B ↔ A = B := by
  obtain ⟨hM, hH, hw⟩ := wid h1 h2
  have e1 := sg_A (H := pw (v - 1)) hA.1 (by omega)
  have e2 := sg_A (H := pw (v - 1)) hB.1 (by omega)
  rw [← hM] at e1 e2
  rw [e1, e2]
  split <;> split <;> omega
/-- all that BitsOrder asks -/
theorem order_law {v a b : Int} (h1 : 1 ≤ v) (h2 : v ≤ 64) :
    (∀ lt : Int, lt = 16 ∨ lt = 18 → ofS lt v a b + ofS 14 v a b + ofS lt v b a = 1 ∧ ofS (lt + 1) v a b = 1 - ofS lt v b a) ∧
    ofS 15 v a b = 1 - ofS 14 v a b ∧ (ofS 18 v a b == 1) = decide (sg (pw v) a < sg (pw v) b) ∧ (ofS 14 v a b == 1) = (sg (pw v) a == sg (pw v) b) ∧
    (∀ op : Int, 14 ≤ op → op ≤ 19 → ∀ x y : Int, 0 ≤ ofS op v x y ∧ ofS op v x y ≤ 1) := by
  have hp := pw_pos v
  have hA : 0 ≤ a % pw v ∧ a % pw v < pw v := ⟨Int.emod_nonneg a (by omega), Int.emod_lt_of_pos a (by omega)⟩
  have hB : 0 ≤ b % pw v ∧ b % pw v < pw v := ⟨Int.emod_nonneg b (by omega), Int.emod_lt_of_pos b (by omega)⟩
  have hi := sg_inj h1 h2 hA hB
  have sa : sg (pw v) a = sg (pw v) (a % pw v) := sg_cut.symm
  have sb : sg (pw v) b = sg (pw v) (b % pw v) := sg_cut.symm
  rw [sa, sb]
  refine ⟨fun lt hl => ?_, ?_, ?_, ?_, fun op g1 g2 x y => ?_⟩
  · rcases hl with rfl | rfl
    all_goals
      rw [of_cmp h1 h2 (by decide) (by decide), of_cmp h1 h2 (by decide) (by decide), of_cmp h1 h2 (by decide) (by decide), of_cmp h1 h2 (by decide) (by decide)]
      simp only [cmpB]
      simp only [show ¬ (16 : Int) = 14 by decide, show ¬ (16 : Int) = 15 by decide, show ¬ (17 : Int) = 14 by decide, show ¬ (17 : Int) = 15 by decide, show ¬ (17 : Int) = 16 by decide, show ¬ (18 : Int) = 14 by decide, show ¬ (18 : Int) = 15 by decide, show ¬ (18 : Int) = 16 by decide, show ¬ (18 : Int) = 17 by decide, show ¬ (19 : Int) = 14 by decide, show ¬ (19 : Int) = 15 by decide, show ¬ (19 : Int) = 16 by decide, show ¬ (19 : Int) = 17 by decide, show ¬ (19 : Int) = 18 by decide, show (16 : Int) + 1 = 17 by decide, show (18 : Int) + 1 = 19 by decide, if_true, if_false, decide_eq_true_eq, beq_iff_eq]
      generalize sg (pw v) (a % pw v) = X at *
      generalize sg (pw v) (b % pw v) = Y at *
      generalize a % pw v = A at *
      generalize b % pw v = B at *
      (repeat' split) <;> omega
  · rw [of_cmp h1 h2 (by decide) (by decide), of_cmp h1 h2 (by decide) (by decide)]
    simp [cmpB]
    (repeat' split) <;> omega
  · rw [of_cmp h1 h2 (by decide) (by decide)]
    simp [cmpB]
    split <;> simp [*]
  · rw [of_cmp h1 h2 (by decide) (by decide), Bool.eq_iff_iff, beq_iff_eq, beq_iff_eq, hi]
    simp [cmpB]
  · rw [of_cmp h1 h2 g1 g2]; split <;> omega
set_option maxRecDepth 100000 in
set_option maxHeartbeats 4000000 in
theorem law_order (w a b : Int) (W : World) (hw : I64b w) (ha : U64 a) (hb : U64 b) :
    Calls Try.prog 10 #[.int .i64 w, .int .u64 a, .int .u64 b] W fun e w' => e = .returned (.bool true) ∧ Below W.heap.size W w' := by
  obtain ⟨v, hv⟩ : ∃ v, v = 1 + w % 64 := ⟨_, rfl⟩
  have h1 : 1 ≤ v := by omega
  have h2 : v ≤ 64 := by omega
  have hv' := hide hv
  clear hv
  obtain ⟨L1, L2, L3, L4, L5⟩ := order_law (a := a) (b := b) h1 h2
  replace ha := hide ha
  replace hb := hide hb
  replace hw := hide hw
  replace L1 := hide L1
  replace L2 := hide L2
  replace L3 := hide L3
  replace L4 := hide L4
  replace L5 := hide L5
  have hB := Below.refl W.heap.size W
  go_enter Try.func10, Try.ntmps10
  go_wp2_with fail
  refine (lives_any _).mono ?_; rintro e w1 ⟨rfl, hx⟩
  replace hB := below_next hB (Nat.le_refl _) hx
  clear hx
  go_wp2_with fail
  refine (width_v w v _ hw.out hv'.out).mono ?_; rintro e w1 ⟨rfl, rfl⟩
  go_wp2
  obtain ⟨W2, hW2, hw12, hs2, hx⟩ := boxes1 w1 #[.int .i64 16, .int .i64 18] 3
  rw [hW2]
  clear hW2
  have x0 : ∀ w', Below W2.heap.size W2 w' → w'.cell? ⟨w1.heap.size, 0, none⟩ = some (.int .i64 16) := hx 0 _ rfl
  have x1 : ∀ w', Below W2.heap.size W2 w' → w'.cell? ⟨w1.heap.size, 1, none⟩ = some (.int .i64 18) := hx 1 _ rfl
  clear hx
  have hB2 := hide (below_next hB (Nat.le_refl _) hw12)
  clear hB hw12 hs2
  have hww := Nat.le_refl W2.heap.size
  have hself := Below.refl W2.heap.size W2
  go_loopw [17] (fun i wr => ∃ k : Nat, k ≤ 2 ∧ i = .int .i64 k ∧ Below W2.heap.size W2 wr) (fun i _ => 2 - (intOf i).toNat)
  case atStart => exact ⟨0, by decide, rfl, hself⟩
  case round =>
    obtain ⟨k, hk, rfl, hbel⟩ := hrel
    have h3 : k = 0 ∨ k = 1 ∨ k = 2 := by omega
    have arm1 : Hid (∀ (op x y : Int) (w : World), (x = a ∨ x = b) → (y = a ∨ y = b) → Calls Try.prog 33 #[.int .i64 op, .int .i64 v, .int .u64 x, .int .u64 y] w fun e w' => e = .returned (.int .u64 (ofS op v x y)) ∧ Below w.heap.size w w') := hide (fun op x y w g1 g2 => of_any op v x y w (by rcases g1 with rfl | rfl; exact ha.out; exact hb.out) (by rcases g2 with rfl | rfl; exact ha.out; exact hb.out))
    rcases h3 with rfl | rfl | rfl
    · obtain ⟨c1, c2⟩ := L1.out 16 (.inl rfl)
      have f1 : (ofS 16 v a b + ofS 14 v a b + ofS 16 v b a != 1) = false := bne_eq_false_iff_eq.2 c1
      have f2 : (ofS 17 v a b != 1 - ofS 16 v b a) = false := bne_eq_false_iff_eq.2 c2
      obtain ⟨b1, b2⟩ := L5.out 16 (by decide) (by decide) a b
      obtain ⟨b3, b4⟩ := L5.out 14 (by decide) (by decide) a b
      obtain ⟨b5, b6⟩ := L5.out 16 (by decide) (by decide) b a
      clear c1 c2
      go_wp2_with (go_at_call 33; refine (arm1.out _ _ _ _ (by first | exact .inl rfl | exact .inr rfl) (by first | exact .inl rfl | exact .inr rfl)).mono ?_; rintro e w2 ⟨rfl, hx⟩; replace hbel := below_next hbel hww hx; clear hx)
      go_roundw
      case rel => exact ⟨1, by decide, by go_num, hbel⟩
      case measure => simp [intOf]
    · obtain ⟨c1, c2⟩ := L1.out 18 (.inr rfl)
      have f1 : (ofS 18 v a b + ofS 14 v a b + ofS 18 v b a != 1) = false := bne_eq_false_iff_eq.2 c1
      have f2 : (ofS 19 v a b != 1 - ofS 18 v b a) = false := bne_eq_false_iff_eq.2 c2
      obtain ⟨b1, b2⟩ := L5.out 18 (by decide) (by decide) a b
      obtain ⟨b3, b4⟩ := L5.out 14 (by decide) (by decide) a b
      obtain ⟨b5, b6⟩ := L5.out 18 (by decide) (by decide) b a
      clear c1 c2
      go_wp2_with (go_at_call 33; refine (arm1.out _ _ _ _ (by first | exact .inl rfl | exact .inr rfl) (by first | exact .inl rfl | exact .inr rfl)).mono ?_; rintro e w2 ⟨rfl, hx⟩; replace hbel := below_next hbel hww hx; clear hx)
      go_roundw
      case rel => exact ⟨2, by decide, by go_num, hbel⟩
      case measure => simp [intOf]
    · have f1 : (ofS 15 v a b == 1 - ofS 14 v a b) = true := beq_iff_eq.2 L2.out
      have f2 : ((ofS 18 v a b == 1) == decide (sg (pw v) a < sg (pw v) b)) = true := beq_iff_eq.2 L3.out
      have f3 : ((ofS 14 v a b == 1) == (sg (pw v) a == sg (pw v) b)) = true := beq_iff_eq.2 L4.out
      obtain ⟨b3, b4⟩ := L5.out 14 (by decide) (by decide) a b
      go_wp2_with (first | (go_at_call 34; refine (signed_ok v _ _ h1 h2).mono ?_; rintro e w1 ⟨rfl, rfl⟩) | (go_at_call 33; refine (arm1.out _ _ _ _ (by first | exact .inl rfl | exact .inr rfl) (by first | exact .inl rfl | exact .inr rfl)).mono ?_; rintro e w2 ⟨rfl, hx⟩; replace hbel := below_next hbel hww hx; clear hx))
      go_ret
      exact ⟨rfl, hB2.out.trans (hbel.mono hB2.out.size)⟩
end Go.Proofs.Ytmcleghbpdenlaa
