/- lathelaw13.jump, lathelaw13.lives, lathelaw13.same. No condition. -/
import Derived.Test.YtidjaohlaljmpaaLoO
import Derived.Test.YtidjaohlaljmpaaLoR
import Derived.Test.YtidjaohlaljmpaaDoG
namespace Go.Proofs.Ytidjaohlaljmpaa
open Go.RowKit
set_option linter.unusedSimpArgs false
set_option linter.unusedVariables false

def lives13B : List (List Ins) := [jumpS 31 [1], jumpS 32 [2, 3], jumpS 31 [1], jumpS 33 []]
def lives13Fn : Fun := ⟨⟨#[]⟩, [], 0, lives13B⟩
theorem lives13_small : Small lives13Fn := by
  refine ⟨by decide, by decide, fun x hx => ?_⟩
  have h : ∀ x, x ∈ lives13B → x.length ≤ 2000000 ∧ ∀ i, i ∈ x → i.args.length ≤ 2000000 ∧ i.to.length ≤ 2000000 := by decide
  exact h x hx
set_option maxRecDepth 100000 in
theorem lives13_tab : TabOk (succsF lives13B) (orderF lives13B) 4 (tabD (succsF lives13B) 4) := tabD_ok (by decide) (succsF_ok lives13B) (order_ok lives13B) (by decide +kernel) (by decide +kernel)
theorem lives13_dom (a b : Nat) (ha : a < 4) (hb : b < 4) : domB (succsF lives13B) (orderF lives13B) a b = tabD (succsF lives13B) 4 a b := by
  rw [Bool.eq_iff_iff, domB_iff]
  exact (lives13_tab a b ha hb).symm
theorem lives13_P : predsL (succsF lives13B) 4 = [[], [0, 2], [1], [1]] := by decide +kernel
theorem lives13_12 : domB (succsF lives13B) (orderF lives13B) 1 2 = true := (lives13_dom 1 2 (by decide) (by decide)).trans (by decide +kernel)
theorem lives13_10 : domB (succsF lives13B) (orderF lives13B) 1 0 = false := (lives13_dom 1 0 (by decide) (by decide)).trans (by decide +kernel)
theorem lives13_21 : domB (succsF lives13B) (orderF lives13B) 2 1 = false := (lives13_dom 2 1 (by decide) (by decide)).trans (by decide +kernel)
theorem lives13_31 : domB (succsF lives13B) (orderF lives13B) 3 1 = false := (lives13_dom 3 1 (by decide) (by decide)).trans (by decide +kernel)
theorem lives13_l0 : latF (succsF lives13B) (orderF lives13B) [[], [0, 2], [1], [1]] 0 = [] := rfl
theorem lives13_l1 : latF (succsF lives13B) (orderF lives13B) [[], [0, 2], [1], [1]] 1 = [2] := by
  show List.filter _ [0, 2] = [2]
  rw [List.filter_cons_of_neg (by rw [show ((1 : Nat) : Int) = 1 from rfl, lives13_10]; decide), List.filter_cons_of_pos (by rw [show ((1 : Nat) : Int) = 1 from rfl, lives13_12]), List.filter_nil]
theorem lives13_l2 : latF (succsF lives13B) (orderF lives13B) [[], [0, 2], [1], [1]] 2 = [] := by
  show List.filter _ [1] = []
  rw [List.filter_cons_of_neg (by rw [show ((2 : Nat) : Int) = 2 from rfl, lives13_21]; decide), List.filter_nil]
theorem lives13_l3 : latF (succsF lives13B) (orderF lives13B) [[], [0, 2], [1], [1]] 3 = [] := by
  show List.filter _ [1] = []
  rw [List.filter_cons_of_neg (by rw [show ((3 : Nat) : Int) = 3 from rfl, lives13_31]; decide), List.filter_nil]
theorem lives13_heads : headsS (succsF lives13B) (orderF lives13B) [[], [0, 2], [1], [1]] 4 = [1] := by
  rw [headsS_step, headsS_step, headsS_step, headsS_step, isH_false lives13_l0, isH_true (by rw [lives13_l1]; decide), isH_false lives13_l2, isH_false lives13_l3]
  rfl
theorem lives13_in (x : Int) : LpIn (succsF lives13B) (orderF lives13B) [2] 1 x ↔ (x = 1 ∨ x = 2) := by
  constructor
  · intro h
    cases h with
    | head => exact .inl rfl
    | latch h => exact .inr (List.mem_singleton.1 h)
    | @back b s ho hs hne hin =>
      have hb := (order_ok lives13B).bound x ho
      have hx : x = 0 ∨ x = 1 ∨ x = 2 ∨ x = 3 := by
        have h4 : x < ((4 : Nat) : Int) := hb.2
        omega
      rcases hx with rfl | rfl | rfl | rfl
      · have : s = 1 := by simpa using (show s ∈ [(1 : Int)] from (show succsF lives13B 0 = [1] by decide +kernel) ▸ hs)
        exact absurd this hne
      · exact .inl rfl
      · exact .inr rfl
      · have : s ∈ ([] : List Int) := (show succsF lives13B 3 = [] by decide +kernel) ▸ hs
        cases this
  · rintro (rfl | rfl)
    · exact .head
    · exact .latch (by simp)
theorem lives13_body : bodyS (succsF lives13B) (orderF lives13B) [[], [0, 2], [1], [1]] 4 1 = [1, 2] := by
  unfold bodyS
  rw [lives13_l1]
  refine rising_unique lpL_sorted (by decide) fun x => ?_
  rw [lpL_mem, show ((1 : Nat) : Int) = 1 from rfl, lives13_in]
  simp
  omega
theorem lives13_ex : exL (succsF lives13B) [1, 2] 4 = [3] := by decide +kernel
theorem lives13_loops : loopsS (succsF lives13B) (orderF lives13B) (predsL (succsF lives13B) 4) 4 = [⟨1, [1, 2], [2], [3], 1⟩] := by
  rw [lives13_P]
  unfold loopsS lp1 lp0
  rw [lives13_heads]
  simp only [List.map_cons, List.map_nil, lives13_body, lives13_l1, lives13_ex]
  unfold inF
  rw [lives13_heads, List.filter_cons_of_pos (by rw [lives13_l1, lpB_iff]; exact .head)]
  rfl
theorem lives13_ahead : aheadR (succsF lives13B) (orderF lives13B) (predsL (succsF lives13B) 4) 4 1 = 0 := by
  rw [lives13_P]
  unfold aheadR latI
  rw [if_pos (show (0 : Int) ≤ 1 ∧ (1 : Int) < ((4 : Nat) : Int) by decide), show (1 : Int).toNat = 1 from rfl, lives13_l1, if_neg (by decide)]
  have e : outF (succsF lives13B) (orderF lives13B) [[], [0, 2], [1], [1]] 1 = [0] := by
    show List.filter _ [0, 2] = [0]
    rw [List.filter_cons_of_pos (by rw [show ((1 : Nat) : Int) = 1 from rfl, lives13_10]; rfl), List.filter_cons_of_neg (by rw [show ((1 : Nat) : Int) = 1 from rfl, lives13_12]; decide), List.filter_nil]
  rw [e]
  have h0 : (0 : Int) ∈ orderF lives13B := ((order_ok lives13B).mem 0).2 ⟨by decide, .start⟩
  show (if decide ((0 : Int) ∈ orderF lives13B) = true ∧ (succsF lives13B 0).length = 1 then (0 : Int) else -1) = 0
  rw [if_pos ⟨decide_eq_true h0, by decide +kernel⟩]
set_option maxRecDepth 100000 in
set_option maxHeartbeats 3200000 in
theorem jump13_any (op : Int) (hop : I64 op) (c : Value) (ts : List Int) (w : World) (B : Nat) (hB : B ≤ w.heap.size) (hc : OwnI w B c ts) :
    Calls Try.prog 36 #[.int .i64 op, c] w (JumpPost op ts B w) := by
  obtain ⟨A, C, rfl⟩ := row_form hc.row
  go_enter Try.func36, Try.ntmps36
  go_wp2
  refine bodyPost_ret (v := .agg #[.slice (some ⟨w.heap.size + 1, 0, none⟩) 1 1]) (by simp [results, Try.results36, go_sem]) rfl ?_
  have hb : Below w.heap.size w ((w.alloc (Obj.cells #[Value.slice (some { block := w.heap.size + 1, off := 0 }) 1 1] 64)).alloc (Obj.cells #[.int .i64 op, .int .i64 (-1), .int .i64 0, .int .i64 0, .int .i64 0, .slice none 0 0, .slice A ts.length C] 67)) :=
    ((Below.refl _ _).alloc (Nat.le_refl _) _).alloc (by simp) _
  refine ⟨_, rfl, ⟨[insC ⟨op, -1, 0, 0, 0, [], ts⟩ (.slice none 0 0) (.slice A ts.length C)], rfl, ⟨rfl, .inr ⟨w.heap.size + 1, 1, _, rfl, by omega, box_at _ (by simp), Nat.le_refl _, by simp [maxLen], rfl, rfl⟩⟩, fun i es x h1 h2 => ?_⟩, hb⟩
  cases i with
  | zero => cases h1; cases h2; exact ⟨_, _, rfl, OwnV.nil_, hc.kept fun k _ hk => hb.block k hk, hop, (by show I64 (-1); decide), (by show I64 0; decide), (by show I64 0; decide), (by show I64 0; decide)⟩
  | succ i => simp at h1

set_option maxRecDepth 100000 in
set_option maxHeartbeats 6400000 in
theorem lives13_any (w : World) : Calls Try.prog 11 #[] w (RetB true w) := by
  have hself := Below.refl w.heap.size w
  go_enter Try.func11, Try.ntmps11
  go_wp2_with (fail)
  refine (jump13_any 31 (by decide) _ [1] _ w.heap.size (by simp) (own_lit rfl rfl (by decide) rfl (Nat.le_refl _) (by decide))).mono ?_
  rintro e w1 ⟨v1, rfl, hC1, hb1⟩
  have hbel1 := hide (bstep hb1)
  replace hC1 := hide hC1
  clear hb1
  have hs1 := hbel1.out.size
  go_wp2_with (fail)
  refine (jump13_any 32 (by decide) _ [2, 3] _ w.heap.size (by simp; omega) (own_lit rfl rfl (by decide) rfl hs1 (by decide))).mono ?_
  rintro e w2 ⟨v2, rfl, hC2, hb2⟩
  have hbel2 := hide (hbel1.out.trans ((bstep hb2).mono hs1))
  replace hC1 := hide (hC1.out.below (bstep hb2))
  replace hC2 := hide hC2
  clear hb2 hbel1 hs1
  have hs2 := hbel2.out.size
  go_wp2_with (fail)
  refine (jump13_any 31 (by decide) _ [1] _ w.heap.size (by simp; omega) (own_lit rfl rfl (by decide) rfl hs2 (by decide))).mono ?_
  rintro e w3 ⟨v3, rfl, hC3, hb3⟩
  have hbel3 := hide (hbel2.out.trans ((bstep hb3).mono hs2))
  replace hC1 := hide (hC1.out.below (bstep hb3))
  replace hC2 := hide (hC2.out.below (bstep hb3))
  replace hC3 := hide hC3
  clear hb3 hbel2 hs2
  have hs3 := hbel3.out.size
  go_wp2_with (fail)
  refine (jump13_any 33 (by decide) _ [] _ w.heap.size hs3 OwnI.nil_).mono ?_
  rintro e w4 ⟨v4, rfl, hC4, hb4⟩
  have hbel4 := hide (hbel3.out.trans (hb4.mono hs3))
  replace hC1 := hide (hC1.out.below hb4)
  replace hC2 := hide (hC2.out.below hb4)
  replace hC3 := hide (hC3.out.below hb4)
  replace hC4 := hide hC4
  clear hb4 hbel3 hs3
  have hs4 := hbel4.out.size
  go_upto_region 2 with (fail)
  have hk1 : Below w4.heap.size w4 ((w4.alloc (Obj.cells #[v1, v2, v3, v4] 64)).alloc (Obj.cells #[.string ⟨#[]⟩, .slice none 0 0, .int .i64 0, .slice (some ⟨w4.heap.size, 0, none⟩) 4 4] 25)) := ((Below.refl _ _).alloc (Nat.le_refl _) _).alloc (by simp) _
  have hK : OwnK ((w4.alloc (Obj.cells #[v1, v2, v3, v4] 64)).alloc (Obj.cells #[.string ⟨#[]⟩, .slice none 0 0, .int .i64 0, .slice (some ⟨w4.heap.size, 0, none⟩) 4 4] 25)) w.heap.size (.slice (some ⟨w4.heap.size, 0, none⟩) 4 4) lives13B := by
    refine ⟨[v1, v2, v3, v4], rfl, ⟨rfl, .inr ⟨w4.heap.size, 4, _, rfl, hs4, box_under _ _ _, Nat.le_refl _, by simp [maxLen], rfl, rfl⟩⟩, fun i x b h1 h2 => ?_⟩
    match i with
    | 0 => cases h1; cases h2; exact hC1.out.below hk1
    | 1 => cases h1; cases h2; exact hC2.out.below hk1
    | 2 => cases h1; cases h2; exact hC3.out.below hk1
    | 3 => cases h1; cases h2; exact hC4.out.below hk1
    | i + 4 => simp at h1
  obtain ⟨W, hW, hwW, hWs, -, hx⟩ := boxes2 w4 #[v1, v2, v3, v4] #[.string ⟨#[]⟩, .slice none 0 0, .int .i64 0, .slice (some ⟨w4.heap.size, 0, none⟩) 4 4] 64 25
  rw [hW] at hK ⊢
  have q0 : ∀ w', Below W.heap.size W w' → w'.cell? ⟨w4.heap.size + 1, 0, none⟩ = some (.string ⟨#[]⟩) := hx 0 _ rfl
  have q1 : ∀ w', Below W.heap.size W w' → w'.cell? ⟨w4.heap.size + 1, 1, none⟩ = some (.slice none 0 0) := hx 1 _ rfl
  have q2 : ∀ w', Below W.heap.size W w' → w'.cell? ⟨w4.heap.size + 1, 2, none⟩ = some (.int .i64 0) := hx 2 _ rfl
  have q3 : ∀ w', Below W.heap.size W w' → w'.cell? ⟨w4.heap.size + 1, 3, none⟩ = some (.slice (some ⟨w4.heap.size, 0, none⟩) 4 4) := hx 3 _ rfl
  have hf : Hid (RFun.rep W W.heap.size [.string lives13Fn.name, .slice none 0 0, .int .i64 lives13Fn.ret, .slice (some ⟨w4.heap.size, 0, none⟩) 4 4] lives13Fn) := hide ⟨_, _, rfl, OwnI.nil_.rep (B := 0), hK.rep, by decide, by decide⟩
  have hwW9 : Hid (Below w.heap.size w W) := hide (hbel4.out.trans (hwW.mono hs4))
  have hWs9 : Hid (w.heap.size ≤ W.heap.size) := hide hwW9.out.size
  clear hx hk1 hK hC1 hC2 hC3 hC4 hW hwW hbel4 hs4 hself
  replace hWs := hide hWs
  have hself := Below.refl W.heap.size W
  have cF := lfind_any lives13Fn (.slice none 0 0) (.slice (some ⟨w4.heap.size, 0, none⟩) 4 4) W W.heap.size (Nat.le_refl _) (RFun.later hf.out hself hself.size) lives13_small
  rw [show lives13Fn.blocks = lives13B from rfl, show lives13B.length = 4 from rfl, lives13_loops] at cF
  have cA : Hid (∀ w', Below W.heap.size W w' → Calls Try.prog 19 #[.agg #[.string ⟨#[]⟩, .slice none 0 0, .int .i64 0, .slice (some ⟨w4.heap.size, 0, none⟩) 4 4], .int .i64 1] w' fun e w'' => e = .returned (.tuple #[.int .i64 0, .bool true]) ∧ Below w'.heap.size w' w'') := hide (fun w' h => by
    have := lahead_any lives13Fn 1 (.slice none 0 0) (.slice (some ⟨w4.heap.size, 0, none⟩) 4 4) w' w'.heap.size (Nat.le_refl _) (RFun.later hf.out h h.size) lives13_small
    rw [show lives13Fn.blocks = lives13B from rfl, show lives13B.length = 4 from rfl, lives13_ahead] at this
    exact this)
  clear hf
  go_wp2_with (fail)
  refine cF.mono ?_
  rintro e w5 ⟨vF, es, rfl, hO, hb5⟩
  obtain ⟨e1, rfl⟩ := List.length_eq_one_iff.1 hO.len
  obtain ⟨AF, CF, rfl⟩ := row_form hO.row
  obtain ⟨gF, rfl⟩ : ∃ gF, AF = some ⟨gF, 0, none⟩ := by
    obtain ⟨g, cap, hv, -, -⟩ := hO.row.form (by simp)
    cases hv
    exact ⟨g, rfl⟩
  obtain ⟨hI1, hI2, hI3⟩ := hO.inn 0 _ e1 rfl rfl
  obtain ⟨vb, vl, ve⟩ := e1
  obtain ⟨Ab, Cb, hvb⟩ := row_form hI1.row
  obtain ⟨Ae, Ce, hve⟩ := row_form hI3.row
  simp only at hvb hve
  subst hvb hve
  have c0 : ∀ w', Below w5.heap.size w5 w' → w'.cell? ⟨gF, 0, none⟩ = some (.int .i64 1) := fun w' hb => ((hO.below hb).cells (i := 0) rfl rfl).1
  have c1 : ∀ w', Below w5.heap.size w5 w' → w'.cell? ⟨gF, 1, none⟩ = some (.slice Ab 2 Cb) := fun w' hb => ((hO.below hb).cells (i := 0) rfl rfl).2.1
  have c3 : ∀ w', Below w5.heap.size w5 w' → w'.cell? ⟨gF, 3, none⟩ = some (.slice Ae 1 Ce) := fun w' hb => ((hO.below hb).cells (i := 0) rfl rfl).2.2.2.1
  replace hI1 := hide hI1
  replace hI3 := hide hI3
  have hs5 := hb5.size
  have hlen : ((([⟨1, [1, 2], [2], [3], 1⟩] : List Lp).length : Nat) : Int) = 1 := rfl
  have hself5 := Below.refl w5.heap.size w5
  clear hO hI2 cF
  go_wp2_with (fail)
  refine (cA.out _ hb5).mono ?_
  rintro e w6 ⟨rfl, hb6⟩
  go_wp2_with (fail)
  refine (rints_any _ _ [1, 2] [1, 2] _ _ (Nat.le_refl _) (hI1.out.kept (w' := w6.alloc (.cells #[.int .i64 1, .int .i64 2] 3)) fun k _ hk => ((hb6.alloc hb6.size _).block k hk)).rep (own_lit (l := [1, 2]) rfl rfl (by decide) rfl (Nat.le_refl _) (by decide)).rep).mono ?_
  rintro e w7 ⟨rfl, hb7⟩
  rw [show (([1, 2] : List Int) == [1, 2]) = true from rfl]
  have hk7 : Below w5.heap.size w5 w7 := hb6.trans ((bstep hb7).mono hb6.size)
  go_wp2_with (fail)
  refine (rints_any _ _ [3] [3] _ _ (Nat.le_refl _) (hI3.out.kept (w' := w7.alloc (.cells #[.int .i64 3] 3)) fun k _ hk => ((hk7.alloc hk7.size _).block k hk)).rep (own_lit (l := [3]) rfl rfl (by decide) rfl (Nat.le_refl _) (by decide)).rep).mono ?_
  rintro e w8 ⟨rfl, hb8⟩
  rw [show (([3] : List Int) == [3]) = true from rfl]
  have hk8 : Below w5.heap.size w5 w8 := hk7.trans ((bstep hb8).mono hk7.size)
  have hw := hide (hwW9.out.trans ((hb5.trans (hk8.mono hs5)).mono hWs9.out))
  go_wp2
  go_ret
  exact ⟨rfl, hw.out⟩
def lpA (x : Lp) (e : LpV) : Value := .agg #[.int .i64 x.head, e.b, e.l, e.e, .int .i64 (x.depth : Int)]
set_option maxRecDepth 100000 in
set_option maxHeartbeats 3200000 in
theorem same_any (x : Lp) (e1 e2 : LpV) (w : World) (B1 B2 : Nat) (h1 : OwnI w B1 e1.b x.blocks ∧ OwnI w B1 e1.l x.latch ∧ OwnI w B1 e1.e x.exits) (h2 : OwnI w B2 e2.b x.blocks ∧ OwnI w B2 e2.l x.latch ∧ OwnI w B2 e2.e x.exits) :
    Calls Try.prog 17 #[lpA x e1, lpA x e2] w (RetB true w) := by
  unfold lpA
  obtain ⟨b1, l1, x1⟩ := e1
  obtain ⟨b2, l2, x2⟩ := e2
  obtain ⟨hb1, hl1, hx1⟩ := h1
  obtain ⟨hb2, hl2, hx2⟩ := h2
  simp only at hb1 hl1 hx1 hb2 hl2 hx2 ⊢
  obtain ⟨Ab1, Cb1, rfl⟩ := row_form hb1.row
  obtain ⟨Al1, Cl1, rfl⟩ := row_form hl1.row
  obtain ⟨Ax1, Cx1, rfl⟩ := row_form hx1.row
  obtain ⟨Ab2, Cb2, rfl⟩ := row_form hb2.row
  obtain ⟨Al2, Cl2, rfl⟩ := row_form hl2.row
  obtain ⟨Ax2, Cx2, rfl⟩ := row_form hx2.row
  obtain ⟨nb, hnb⟩ : ∃ nb, Hid (x.blocks.length = nb) := ⟨_, hide rfl⟩
  obtain ⟨nl, hnl⟩ : ∃ nl, Hid (x.latch.length = nl) := ⟨_, hide rfl⟩
  obtain ⟨nx, hnx⟩ : ∃ nx, Hid (x.exits.length = nx) := ⟨_, hide rfl⟩
  rw [hnb.out] at hb1 hb2 ⊢
  rw [hnl.out] at hl1 hl2 ⊢
  rw [hnx.out] at hx1 hx2 ⊢
  obtain ⟨W, hW, hwW, hWs, hx, hy⟩ := boxes2 w #[.int .i64 x.head, .slice Ab1 nb Cb1, .slice Al1 nl Cl1, .slice Ax1 nx Cx1, .int .i64 (x.depth : Int)] #[.int .i64 x.head, .slice Ab2 nb Cb2, .slice Al2 nl Cl2, .slice Ax2 nx Cx2, .int .i64 (x.depth : Int)] 34 34
  have x0 : ∀ w', Below W.heap.size W w' → w'.cell? ⟨w.heap.size, 0, none⟩ = some (.int .i64 x.head) := hx 0 _ rfl
  have x1 : ∀ w', Below W.heap.size W w' → w'.cell? ⟨w.heap.size, 1, none⟩ = some (.slice Ab1 nb Cb1) := hx 1 _ rfl
  have x2 : ∀ w', Below W.heap.size W w' → w'.cell? ⟨w.heap.size, 2, none⟩ = some (.slice Al1 nl Cl1) := hx 2 _ rfl
  have x3 : ∀ w', Below W.heap.size W w' → w'.cell? ⟨w.heap.size, 3, none⟩ = some (.slice Ax1 nx Cx1) := hx 3 _ rfl
  have x4 : ∀ w', Below W.heap.size W w' → w'.cell? ⟨w.heap.size, 4, none⟩ = some (.int .i64 (x.depth : Int)) := hx 4 _ rfl
  have y0 : ∀ w', Below W.heap.size W w' → w'.cell? ⟨w.heap.size + 1, 0, none⟩ = some (.int .i64 x.head) := hy 0 _ rfl
  have y1 : ∀ w', Below W.heap.size W w' → w'.cell? ⟨w.heap.size + 1, 1, none⟩ = some (.slice Ab2 nb Cb2) := hy 1 _ rfl
  have y2 : ∀ w', Below W.heap.size W w' → w'.cell? ⟨w.heap.size + 1, 2, none⟩ = some (.slice Al2 nl Cl2) := hy 2 _ rfl
  have y3 : ∀ w', Below W.heap.size W w' → w'.cell? ⟨w.heap.size + 1, 3, none⟩ = some (.slice Ax2 nx Cx2) := hy 3 _ rfl
  have y4 : ∀ w', Below W.heap.size W w' → w'.cell? ⟨w.heap.size + 1, 4, none⟩ = some (.int .i64 (x.depth : Int)) := hy 4 _ rfl
  clear hx hy
  have hws := hwW.size
  have hself := Below.refl W.heap.size W
  have cI : Hid (∀ {u v : Value} {l : List Int} {B1 B2 : Nat}, OwnI w B1 u l → OwnI w B2 v l → ∀ w', Below W.heap.size W w' → Calls Try.prog 33 #[u, v] w' fun e w'' => e = .returned (.bool true) ∧ Below w'.heap.size w' w'') := hide (fun h1 h2 w' hb => ints_same (h1.kept fun k _ hk => (hwW.trans (hb.mono hws)).block k hk) (h2.kept fun k _ hk => (hwW.trans (hb.mono hws)).block k hk))
  have cb := hide (cI.out hb1 hb2)
  have cl := hide (cI.out hl1 hl2)
  have cx := hide (cI.out hx1 hx2)
  replace hW := hide hW
  replace hWs := hide hWs
  replace hwW := hide hwW
  clear cI hb1 hb2 hl1 hl2 hx1 hx2
  have eh : (x.head == x.head) = true := by simp
  have ed : (((x.depth : Nat) : Int) == ((x.depth : Nat) : Int)) = true := by simp
  go_enter Try.func17, Try.ntmps17
  go_upto_region 1 with (fail)
  rw [hW.out]
  clear hW
  go_wp2_with (fail)
  refine (cb.out W hself).mono ?_
  rintro e w1 ⟨rfl, hk1⟩
  go_wp2_with (fail)
  refine (cl.out w1 hk1).mono ?_
  rintro e w2 ⟨rfl, hb2⟩
  have hk2 := hk1.trans (hb2.mono hk1.size)
  clear hb2
  go_wp2_with (fail)
  refine (cx.out w2 hk2).mono ?_
  rintro e w3 ⟨rfl, hb3⟩
  have hk3 := hk2.trans (hb3.mono hk2.size)
  clear hb3
  have hw := hide (hwW.out.trans (hk3.mono hws))
  go_wp2
  go_ret
  exact ⟨rfl, hw.out⟩
end Go.Proofs.Ytidjaohlaljmpaa
