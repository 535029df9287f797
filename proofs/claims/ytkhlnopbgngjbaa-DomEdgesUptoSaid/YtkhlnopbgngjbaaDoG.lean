/- lathelaw07.jump, lathelaw07.lives, lathelaw07.long. No condition. -/
import Derived.Test.YtkhlnopbgngjbaaHm
import Derived.Test.YtkhlnopbgngjbaaDoF
import Derived.Test.YtkhlnopbgngjbaaGrN
import Derived.Test.YtkhlnopbgngjbaaJm
import Derived.Test.YtkhlnopbgngjbaaGrNf
namespace Go.Proofs.Ytkhlnopbgngjbaa
open Go.RowKit
set_option linter.unusedSimpArgs false
set_option linter.unusedVariables false

open Classical in
noncomputable def domB (sc : Int → List Int) (o : List Int) (a b : Int) : Bool := decide (Dom sc o a b)
theorem domB_iff {sc : Int → List Int} {o : List Int} {a b : Int} : domB sc o a b = true ↔ Dom sc o a b := by unfold domB; simp
theorem dominates_b {sc : Int → List Int} {o : List Int} {a b : Int} {v : Value} {args : Array Value} {w : World} {k : Nat} (h : Calls Try.prog k args w (DomPost sc o a b w)) : Calls Try.prog k args w (RetB (domB sc o a b) w) := by
  refine h.mono ?_
  rintro e w' ⟨r, rfl, h1, h2⟩
  have : r = domB sc o a b := by rw [Bool.eq_iff_iff, domB_iff]; exact h1
  rw [this]
  exact ⟨rfl, h2⟩
theorem dominates_bb (f : Fun) (a b : Int) (c1 c2 : Value) (w : World) (B : Nat) (hB : B ≤ w.heap.size) (hf : RFun.rep w B [.string f.name, c1, .int .i64 f.ret, c2] f) (hs : Small f) :
    Calls Try.prog 45 #[f.v c1 c2, .int .i64 a, .int .i64 b] w (RetB (domB (succsF f.blocks) (orderF f.blocks) a b) w) := dominates_b (v := .bool true) (dominates_any f a b c1 c2 w B hB hf hs)
def lives07B : List (List Ins) := [jumpS 32 [1, 2], jumpS 31 [3], jumpS 32 [3, 4], jumpS 32 [1, 5], jumpS 31 [5], jumpS 33 [], jumpS 31 [5]]
def lives07Fn : Fun := ⟨⟨#[]⟩, [], 0, lives07B⟩
theorem lives07_small : Small lives07Fn := by
  refine ⟨by decide, by decide, fun x hx => ?_⟩
  have h : ∀ x, x ∈ lives07B → x.length ≤ 2000000 ∧ ∀ i, i ∈ x → i.args.length ≤ 2000000 ∧ i.to.length ≤ 2000000 := by decide
  exact h x hx
def tabD (sc : Int → List Int) (k : Nat) (a b : Nat) : Bool := (growL sc (-1) k [0]).contains (a : Int) && (growL sc (-1) k [0]).contains (b : Int) && !(growL sc a k (startL a)).contains (b : Int)
theorem tabD_ok {sc : Int → List Int} {o : List Int} {n k : Nat} (hn : 0 < n) (hs : ∀ b, SuccOk n (sc b)) (O : OrderOk n sc o) (h0 : closedB sc (-1) (growL sc (-1) k [0]) = true) (h : (List.range n).all (fun (a : Nat) => closedB sc a (growL sc a k (startL a))) = true) : TabOk sc o n (tabD sc k) := fun a b ha hb => by
  have e : ∀ x : Nat, (growL sc (-1) k [0]).contains (x : Int) = decide ((x : Int) ∈ o) := fun x => by
    rw [Bool.eq_iff_iff, List.contains_iff_mem, decide_eq_true_eq, O.mem, ← rchW_all hs]
    exact ⟨fun h => ⟨hn, grow_sound k _ (fun y hy => by rw [List.mem_singleton.1 hy]; exact .start (by decide)) _ h⟩, fun h => closed_all h0 _ h.2⟩
  have := tabC_ok (o := o) h a b ha hb
  unfold tabC at this
  unfold tabD
  rw [e a, e b]
  simpa only [List.elem_eq_contains, List.contains_eq_mem] using this
set_option maxRecDepth 100000 in
theorem lives07_tab : TabOk (succsF lives07B) (orderF lives07B) 7 (tabD (succsF lives07B) 7) := tabD_ok (by decide) (succsF_ok lives07B) (order_ok lives07B) (by decide +kernel) (by decide +kernel)
theorem lives07_idom {l : List Int} (I : IdomOk (succsF lives07B) (orderF lives07B) 7 l) : l = [-1, 0, 0, 0, 2, 0, -1] := by
  rw [I.eq (order_ok lives07B) lives07_tab]
  decide +kernel
theorem lives07_24 : domB (succsF lives07B) (orderF lives07B) 2 4 = true := domB_iff.2 ((lives07_tab 2 4 (by decide) (by decide)).1 (by decide +kernel))
theorem lives07_13 : domB (succsF lives07B) (orderF lives07B) 1 3 = false := by
  rw [← Bool.not_eq_true]
  intro h
  have h2 : tabD (succsF lives07B) 7 1 3 = true := (lives07_tab 1 3 (by decide) (by decide)).2 (domB_iff.1 h)
  exact absurd h2 (by decide +kernel)
set_option maxRecDepth 100000 in
set_option maxHeartbeats 3200000 in
theorem jump07_any (op : Int) (hop : I64 op) (c : Value) (ts : List Int) (w : World) (B : Nat) (hB : B ≤ w.heap.size) (hc : OwnI w B c ts) :
    Calls Try.prog 60 #[.int .i64 op, c] w (JumpPost op ts B w) := by
  obtain ⟨A, C, rfl⟩ := row_form hc.row
  go_enter Try.func60, Try.ntmps60
  go_wp2
  refine bodyPost_ret (v := .agg #[.slice (some ⟨w.heap.size + 1, 0, none⟩) 1 1]) (by simp [results, Try.results60, go_sem]) rfl ?_
  have hb : Below w.heap.size w ((w.alloc (Obj.cells #[Value.slice (some { block := w.heap.size + 1, off := 0 }) 1 1] 71)).alloc (Obj.cells #[.int .i64 op, .int .i64 (-1), .int .i64 0, .int .i64 0, .int .i64 0, .slice none 0 0, .slice A ts.length C] 74)) :=
    ((Below.refl _ _).alloc (Nat.le_refl _) _).alloc (by simp) _
  refine ⟨_, rfl, ⟨[insC ⟨op, -1, 0, 0, 0, [], ts⟩ (.slice none 0 0) (.slice A ts.length C)], rfl, ⟨rfl, .inr ⟨w.heap.size + 1, 1, _, rfl, by omega, box_at _ (by simp), Nat.le_refl _, by simp [maxLen], rfl, rfl⟩⟩, fun i es x h1 h2 => ?_⟩, hb⟩
  cases i with
  | zero => cases h1; cases h2; exact ⟨_, _, rfl, OwnV.nil_, hc.kept fun k _ hk => hb.block k hk, hop, (by show I64 (-1); decide), (by show I64 0; decide), (by show I64 0; decide), (by show I64 0; decide)⟩
  | succ i => simp at h1

set_option maxRecDepth 100000 in
set_option maxHeartbeats 6400000 in
theorem lives07_any (w : World) : Calls Try.prog 22 #[] w (RetB true w) := by
  have hself := Below.refl w.heap.size w
  go_enter Try.func22, Try.ntmps22
  go_wp2_with (fail)
  refine (jump07_any 32 (by decide) _ [1, 2] _ w.heap.size (by simp) (own_lit rfl rfl (by decide) rfl (Nat.le_refl _) (by decide))).mono ?_
  rintro e w1 ⟨v1, rfl, hC1, hb1⟩
  have hbel1 := hide (bstep hb1)
  replace hC1 := hide hC1
  clear hb1
  have hs1 := hbel1.out.size
  go_wp2_with (fail)
  refine (jump07_any 31 (by decide) _ [3] _ w.heap.size (by simp; omega) (own_lit rfl rfl (by decide) rfl hs1 (by decide))).mono ?_
  rintro e w2 ⟨v2, rfl, hC2, hb2⟩
  have hbel2 := hide (hbel1.out.trans ((bstep hb2).mono hs1))
  replace hC1 := hide (hC1.out.below (bstep hb2))
  replace hC2 := hide hC2
  clear hb2 hbel1 hs1
  have hs2 := hbel2.out.size
  go_wp2_with (fail)
  refine (jump07_any 32 (by decide) _ [3, 4] _ w.heap.size (by simp; omega) (own_lit rfl rfl (by decide) rfl hs2 (by decide))).mono ?_
  rintro e w3 ⟨v3, rfl, hC3, hb3⟩
  have hbel3 := hide (hbel2.out.trans ((bstep hb3).mono hs2))
  replace hC1 := hide (hC1.out.below (bstep hb3))
  replace hC2 := hide (hC2.out.below (bstep hb3))
  replace hC3 := hide hC3
  clear hb3 hbel2 hs2
  have hs3 := hbel3.out.size
  go_wp2_with (fail)
  refine (jump07_any 32 (by decide) _ [1, 5] _ w.heap.size (by simp; omega) (own_lit rfl rfl (by decide) rfl hs3 (by decide))).mono ?_
  rintro e w4 ⟨v4, rfl, hC4, hb4⟩
  have hbel4 := hide (hbel3.out.trans ((bstep hb4).mono hs3))
  replace hC1 := hide (hC1.out.below (bstep hb4))
  replace hC2 := hide (hC2.out.below (bstep hb4))
  replace hC3 := hide (hC3.out.below (bstep hb4))
  replace hC4 := hide hC4
  clear hb4 hbel3 hs3
  have hs4 := hbel4.out.size
  go_wp2_with (fail)
  refine (jump07_any 31 (by decide) _ [5] _ w.heap.size (by simp; omega) (own_lit rfl rfl (by decide) rfl hs4 (by decide))).mono ?_
  rintro e w5 ⟨v5, rfl, hC5, hb5⟩
  have hbel5 := hide (hbel4.out.trans ((bstep hb5).mono hs4))
  replace hC1 := hide (hC1.out.below (bstep hb5))
  replace hC2 := hide (hC2.out.below (bstep hb5))
  replace hC3 := hide (hC3.out.below (bstep hb5))
  replace hC4 := hide (hC4.out.below (bstep hb5))
  replace hC5 := hide hC5
  clear hb5 hbel4 hs4
  have hs5 := hbel5.out.size
  go_wp2_with (fail)
  refine (jump07_any 33 (by decide) _ [] _ w.heap.size hs5 OwnI.nil_).mono ?_
  rintro e w6 ⟨v6, rfl, hC6, hb6⟩
  have hbel6 := hide (hbel5.out.trans (hb6.mono hs5))
  replace hC1 := hide (hC1.out.below hb6)
  replace hC2 := hide (hC2.out.below hb6)
  replace hC3 := hide (hC3.out.below hb6)
  replace hC4 := hide (hC4.out.below hb6)
  replace hC5 := hide (hC5.out.below hb6)
  replace hC6 := hide hC6
  clear hb6 hbel5 hs5
  have hs6 := hbel6.out.size
  go_wp2_with (fail)
  refine (jump07_any 31 (by decide) _ [5] _ w.heap.size (by simp; omega) (own_lit rfl rfl (by decide) rfl hs6 (by decide))).mono ?_
  rintro e w7 ⟨v7, rfl, hC7, hb7⟩
  have hbel7 := hide (hbel6.out.trans ((bstep hb7).mono hs6))
  replace hC1 := hide (hC1.out.below (bstep hb7))
  replace hC2 := hide (hC2.out.below (bstep hb7))
  replace hC3 := hide (hC3.out.below (bstep hb7))
  replace hC4 := hide (hC4.out.below (bstep hb7))
  replace hC5 := hide (hC5.out.below (bstep hb7))
  replace hC6 := hide (hC6.out.below (bstep hb7))
  replace hC7 := hide hC7
  clear hb7 hbel6 hs6
  have hs7 := hbel7.out.size
  go_upto_region 2 with (fail)
  have hk1 : Below w7.heap.size w7 ((w7.alloc (Obj.cells #[v1, v2, v3, v4, v5, v6, v7] 71)).alloc (Obj.cells #[.string ⟨#[]⟩, .slice none 0 0, .int .i64 0, .slice (some ⟨w7.heap.size, 0, none⟩) 7 7] 25)) := ((Below.refl _ _).alloc (Nat.le_refl _) _).alloc (by simp) _
  have hK : OwnK ((w7.alloc (Obj.cells #[v1, v2, v3, v4, v5, v6, v7] 71)).alloc (Obj.cells #[.string ⟨#[]⟩, .slice none 0 0, .int .i64 0, .slice (some ⟨w7.heap.size, 0, none⟩) 7 7] 25)) w.heap.size (.slice (some ⟨w7.heap.size, 0, none⟩) 7 7) lives07B := by
    refine ⟨[v1, v2, v3, v4, v5, v6, v7], rfl, ⟨rfl, .inr ⟨w7.heap.size, 7, _, rfl, hs7, box_under _ _ _, Nat.le_refl _, by simp [maxLen], rfl, rfl⟩⟩, fun i x b h1 h2 => ?_⟩
    match i with
    | 0 => cases h1; cases h2; exact hC1.out.below hk1
    | 1 => cases h1; cases h2; exact hC2.out.below hk1
    | 2 => cases h1; cases h2; exact hC3.out.below hk1
    | 3 => cases h1; cases h2; exact hC4.out.below hk1
    | 4 => cases h1; cases h2; exact hC5.out.below hk1
    | 5 => cases h1; cases h2; exact hC6.out.below hk1
    | 6 => cases h1; cases h2; exact hC7.out.below hk1
    | i + 7 => simp at h1
  obtain ⟨W, hW, hwW, hWs, -, hx⟩ := boxes2 w7 #[v1, v2, v3, v4, v5, v6, v7] #[.string ⟨#[]⟩, .slice none 0 0, .int .i64 0, .slice (some ⟨w7.heap.size, 0, none⟩) 7 7] 71 25
  rw [hW] at hK ⊢
  have q0 : ∀ w', Below W.heap.size W w' → w'.cell? ⟨w7.heap.size + 1, 0, none⟩ = some (.string ⟨#[]⟩) := hx 0 _ rfl
  have q1 : ∀ w', Below W.heap.size W w' → w'.cell? ⟨w7.heap.size + 1, 1, none⟩ = some (.slice none 0 0) := hx 1 _ rfl
  have q2 : ∀ w', Below W.heap.size W w' → w'.cell? ⟨w7.heap.size + 1, 2, none⟩ = some (.int .i64 0) := hx 2 _ rfl
  have q3 : ∀ w', Below W.heap.size W w' → w'.cell? ⟨w7.heap.size + 1, 3, none⟩ = some (.slice (some ⟨w7.heap.size, 0, none⟩) 7 7) := hx 3 _ rfl
  have hf : Hid (RFun.rep W W.heap.size [.string lives07Fn.name, .slice none 0 0, .int .i64 lives07Fn.ret, .slice (some ⟨w7.heap.size, 0, none⟩) 7 7] lives07Fn) := hide ⟨_, _, rfl, OwnI.nil_.rep (B := 0), hK.rep, by decide, by decide⟩
  have hwW9 : Hid (Below w.heap.size w W) := hide (hbel7.out.trans (hwW.mono hs7))
  have hWs9 : Hid (w.heap.size ≤ W.heap.size) := hide hwW9.out.size
  clear hx hk1 hK hC1 hC2 hC3 hC4 hC5 hC6 hC7 hW hwW hbel7 hs7 hself
  replace hWs := hide hWs
  have hself := Below.refl W.heap.size W
  have cI : Hid (∀ w', Below W.heap.size W w' → Calls Try.prog 24 #[.agg #[.string ⟨#[]⟩, .slice none 0 0, .int .i64 0, .slice (some ⟨w7.heap.size, 0, none⟩) 7 7]] w' (IdomPost (succsF lives07B) (orderF lives07B) 7 w')) := hide (fun w' h => idom_any lives07Fn (.slice none 0 0) (.slice (some ⟨w7.heap.size, 0, none⟩) 7 7) w' w'.heap.size (Nat.le_refl _) (RFun.later hf.out h h.size) lives07_small)
  have cD : Hid (∀ (a b : Int) w', Below W.heap.size W w' → Calls Try.prog 45 #[.agg #[.string ⟨#[]⟩, .slice none 0 0, .int .i64 0, .slice (some ⟨w7.heap.size, 0, none⟩) 7 7], .int .i64 a, .int .i64 b] w' (RetB (domB (succsF lives07B) (orderF lives07B) a b) w')) := hide (fun a b w' h => dominates_b (v := .bool true) (dominates_any lives07Fn a b (.slice none 0 0) (.slice (some ⟨w7.heap.size, 0, none⟩) 7 7) w' w'.heap.size (Nat.le_refl _) (RFun.later hf.out h h.size) lives07_small))
  have d1 := cD.out 2 4
  rw [lives07_24] at d1
  replace d1 := hide d1
  have d2 := cD.out 1 3
  rw [lives07_13] at d2
  replace d2 := hide d2
  clear hf cD
  go_wp2_with (fail)
  refine (cI.out W hself).mono ?_
  rintro e w8 ⟨g8, l8, rfl, hI8, hN8, hb8⟩
  have e8 := lives07_idom hI8
  subst e8
  clear hI8
  have hs8 := hb8.size
  replace hN8 := hide hN8
  go_wp2_with (fail)
  have k8 := bk w8 (.cells #[.int .i64 (-1), .int .i64 0, .int .i64 0, .int .i64 0, .int .i64 2, .int .i64 0, .int .i64 (-1)] 3)
  have hO8 : OwnI w8 w8.heap.size (.slice (some ⟨g8, 0, none⟩) 7 7) [-1, 0, 0, 0, 2, 0, -1] ∨ True := .inr trivial
  refine (rints_any _ _ [-1, 0, 0, 0, 2, 0, -1] [-1, 0, 0, 0, 2, 0, -1] _ _ (Nat.le_refl _) (OwnI.kept (w := w8) (B := W.heap.size) ⟨hN8.out, by decide⟩ fun k _ hk => k8.block k hk).rep (own_lit (l := [-1, 0, 0, 0, 2, 0, -1]) rfl rfl (by decide) rfl (Nat.le_refl _) (by decide)).rep).mono ?_
  rintro e w9 ⟨rfl, hb9⟩
  rw [show (([-1, 0, 0, 0, 2, 0, -1] : List Int) == [-1, 0, 0, 0, 2, 0, -1]) = true from rfl]
  have hbW9 := hb8.trans ((bstep hb9).mono hs8)
  have hs9 := hbW9.size
  clear hb9 k8 hN8 hb8 hs8 hO8
  go_wp2_with (fail)
  refine (d1.out _ hbW9).mono ?_
  rintro e w10 ⟨rfl, hb10⟩
  have hbW10 := hbW9.trans (hb10.mono hs9)
  have hs10 := hbW10.size
  clear hb10 hbW9 hs9
  go_wp2_with (fail)
  refine (d2.out _ hbW10).mono ?_
  rintro e w11 ⟨rfl, hb11⟩
  have hbW11 := hbW10.trans (hb11.mono hs10)
  clear hb11 hbW10 hs10
  go_wp2
  go_ret
  exact ⟨rfl, hwW9.out.trans (hbW11.mono hWs9.out)⟩

def long7F (f : Fun) : Bool := decide (40 < f.blocks.length) || longF f
theorem long7F_le {f : Fun} (h : long7F f = false) : f.blocks.length ≤ 40 := by
  unfold long7F at h
  simp only [Bool.or_eq_false_iff, decide_eq_false_iff_not] at h
  omega
set_option maxRecDepth 100000 in
set_option maxHeartbeats 3200000 in
theorem long07_any (f : Fun) (c1 c2 : Value) (w : World) (B : Nat) (hB : B ≤ w.heap.size) (hf : RFun.rep w B [.string f.name, c1, .int .i64 f.ret, c2] f) (hsz : funSz f ≤ 2000000) :
    Calls Try.prog 23 #[f.v c1 c2] w (RetB (long7F f) w) := by
  obtain ⟨hp, hb⟩ := fun_open (RFun.later hf (Below.refl _ _) hB)
  obtain ⟨A1, k1, h1, -, -⟩ := Rp.slice1_open hp
  obtain ⟨A2, k2, h2, hm2, -⟩ := Rp.slice1_open hb
  cases h1; cases h2
  clear hp hb
  obtain ⟨n, hn⟩ : ∃ n, Hid (n = f.blocks.length) := ⟨_, hide rfl⟩
  rw [← hn.out] at hf hm2 ⊢
  obtain ⟨W, hW, hwW, hWs, hx⟩ := boxes1 w #[.string f.name, .slice A1 f.params.length k1, .int .i64 f.ret, .slice A2 n k2] 25
  have q0 : ∀ w', Below W.heap.size W w' → w'.cell? ⟨w.heap.size, 0, none⟩ = some (.string f.name) := hx 0 _ rfl
  have q1 : ∀ w', Below W.heap.size W w' → w'.cell? ⟨w.heap.size, 1, none⟩ = some (.slice A1 f.params.length k1) := hx 1 _ rfl
  have q2 : ∀ w', Below W.heap.size W w' → w'.cell? ⟨w.heap.size, 2, none⟩ = some (.int .i64 f.ret) := hx 2 _ rfl
  have q3 : ∀ w', Below W.heap.size W w' → w'.cell? ⟨w.heap.size, 3, none⟩ = some (.slice A2 n k2) := hx 3 _ rfl
  clear hx
  have hws : w.heap.size ≤ W.heap.size := by omega
  replace hWs := hide hWs
  have hself := Below.refl W.heap.size W
  have hF : Hid (∀ w', Below W.heap.size W w' → RFun.rep w' w'.heap.size [.string f.name, .slice A1 f.params.length k1, .int .i64 f.ret, .slice A2 n k2] f) := hide (fun w' h => RFun.later hf ((hwW.trans (h.mono hws)).mono hB) (Nat.le_trans hB (hwW.trans (h.mono hws)).size))
  obtain ⟨lb, hlb⟩ : ∃ lb, Hid (lb = longF f) := ⟨_, hide rfl⟩
  have cL : Hid (∀ w', Below W.heap.size W w' → Calls Try.prog 61 #[f.v (.slice A1 f.params.length k1) (.slice A2 n k2)] w' (RetB lb w')) := hide (fun w' h => by
    have := longf_any f (.slice A1 f.params.length k1) (.slice A2 n k2) w' w'.heap.size (Nat.le_refl _) (hF.out w' h) hsz
    rwa [← hlb.out] at this)
  replace hf := hide hf
  replace hwW := hide hwW
  by_cases hlt : 40 < n
  · have hgt : (n : Int) > 40 := by omega
    have hv : Hid (long7F f = true) := hide (by unfold long7F; rw [← hn.out]; simp [hlt])
    replace hlt := hide hlt
    go_enter Try.func23, Try.ntmps23
    go_wp2
    go_ret
    exact ⟨ret_bool hv.out.symm, hwW.out⟩
  · have hgt : ¬ (n : Int) > 40 := by omega
    have hv : Hid (long7F f = lb) := hide (by unfold long7F; rw [← hn.out, ← hlb.out]; simp [hlt])
    replace hlt := hide hlt
    go_enter Try.func23, Try.ntmps23
    go_wp2_with (fail)
    refine (cL.out W hself).mono ?_
    rintro e w9 ⟨rfl, hb9⟩
    have hb := hide (hwW.out.trans (hb9.mono hws))
    clear hb9
    go_wp2
    go_ret
    exact ⟨ret_bool hv.out.symm, hb.out⟩
end Go.Proofs.Ytkhlnopbgngjbaa
