/-
  lathelaw12.RefineTells returns true, and its arguments read afterwards as before; where what it reads is of bulk at most 1048576.
  Conditions: the bound on the bulk alone (the given second form).
-/
import Derived.Test.YtffklfalocamiaaRefI
import Derived.Test.YtffklfalocamiaaRefJ
import Derived.Test.YtffklfalocamiaaOpen
namespace Go.Proofs.Ytffklfalocamiaa.refineTells
open Go.RowKit Go.ChangeShapes Go.WideShapes Go.Deep Go.Proofs.Ytffklfalocamiaa
set_option linter.unusedVariables false

set_option maxRecDepth 100000 in
theorem contract (H : Type) (enc : TypeId × Value → H) (W : World) (base : Nat) (args : Array Value) (ds gs : List (DataW H)) (before : List MemPlace)
    (hval : ∀ (j : Nat) t v, Try.f3.params[j]? = some t → args[j]? = some v → Value.okWide Try.prog W .any base t v)
    (hW : DataW.Whole enc Try.prog Try.f3.params.toList Rows.refineTellsSpec.vars false W args.toList ds gs before) (hk : Rows.uptoSmall H (ds ++ gs) = true) :
    Calls Try.prog 3 args W fun e W' => ∃ v, e = .returned v ∧ Rows.refineTellsSpec.post enc Try.prog Try.f3 false true false false W args v W' := by
  have hW' := hW
  obtain ⟨p, q, hA0, hV, rfl, hfz, hnd⟩ := hW
  have hA : DataW.TrodAll enc Try.prog W 0 (fun _ => true) true Try.f3.params.toList args.toList ds p := hA0
  rw [Try.params3] at hA hval
  obtain ⟨v_0, vs0, d0, ds0, p0, q0, hargs, rfl, rfl, h0, t0⟩ := trodAll_cons hA
  obtain ⟨v_1, vs1, d1, ds1, p1, q1, rfl, rfl, rfl, h1, t1⟩ := trodAll_cons t0
  obtain ⟨v_2, vs2, d2, ds2, p2, q2, rfl, rfl, rfl, h2, t2⟩ := trodAll_cons t1
  obtain ⟨v_3, vs3, d3, ds3, p3, q3, rfl, rfl, rfl, h3, t3⟩ := trodAll_cons t2
  obtain ⟨v_4, vs4, d4, ds4, p4, q4, rfl, rfl, rfl, h4, t4⟩ := trodAll_cons t3
  obtain ⟨v_5, vs5, d5, ds5, p5, q5, rfl, rfl, rfl, h5, t5⟩ := trodAll_cons t4
  obtain ⟨rfl, rfl, rfl⟩ := trodAll_nil t5
  have hargs' : args = #[v_0, v_1, v_2, v_3, v_4, v_5] := arr_of hargs
  subst hargs'
  obtain ⟨rfl, rfl⟩ := trodVars_none hV
  have hb := bound hk
  simp only [List.append_nil, Rows.uptoBulkAll] at hb
  have k0 := h0
  have lt0 : ∀ x ∈ p0, x.block < W.heap.size := by obtain ⟨m, hm⟩ := k0; exact DataW.trod_lt m _ _ _ hm
  obtain ⟨c0, rfl, _⟩ := okWide_struct Try.underlying24 (hval 0 24 v_0 rfl rfl)
  obtain ⟨fu0, g0⟩ := h0
  obtain ⟨m0, ⟨e0, _⟩, mu0⟩ := opens_Val _ _ _ _ _ _ _ _ _ g0
  have k1 := h1
  have lt1 : ∀ x ∈ p1, x.block < W.heap.size := by obtain ⟨m, hm⟩ := k1; exact DataW.trod_lt m _ _ _ hm
  obtain ⟨c1, rfl, _⟩ := okWide_struct Try.underlying24 (hval 1 24 v_1 rfl rfl)
  obtain ⟨fu1, g1⟩ := h1
  obtain ⟨m1, ⟨e1, _⟩, mu1⟩ := opens_Val _ _ _ _ _ _ _ _ _ g1
  have k2 := h2
  have lt2 : ∀ x ∈ p2, x.block < W.heap.size := by obtain ⟨m, hm⟩ := k2; exact DataW.trod_lt m _ _ _ hm
  obtain ⟨c2, rfl, _⟩ := okWide_struct Try.underlying26 (hval 2 26 v_2 rfl rfl)
  obtain ⟨fu2, g2⟩ := h2
  obtain ⟨m2, ⟨e2, _⟩, mu2⟩ := opens_Byte _ _ _ _ _ _ _ _ _ g2
  have k3 := h3
  have lt3 : ∀ x ∈ p3, x.block < W.heap.size := by obtain ⟨m, hm⟩ := k3; exact DataW.trod_lt m _ _ _ hm
  obtain ⟨c3, rfl, _⟩ := okWide_struct Try.underlying26 (hval 3 26 v_3 rfl rfl)
  obtain ⟨fu3, g3⟩ := h3
  obtain ⟨m3, ⟨e3, _⟩, mu3⟩ := opens_Byte _ _ _ _ _ _ _ _ _ g3
  have k4 := h4
  have lt4 : ∀ x ∈ p4, x.block < W.heap.size := by obtain ⟨m, hm⟩ := k4; exact DataW.trod_lt m _ _ _ hm
  obtain ⟨c4, rfl, _⟩ := okWide_struct Try.underlying30 (hval 4 30 v_4 rfl rfl)
  obtain ⟨fu4, g4⟩ := h4
  obtain ⟨m4, ⟨u4, v4, e4, r4, s4⟩, mu4⟩ := opens_Outcome _ _ _ _ _ _ _ _ _ g4
  have k5 := h5
  have lt5 : ∀ x ∈ p5, x.block < W.heap.size := by obtain ⟨m, hm⟩ := k5; exact DataW.trod_lt m _ _ _ hm
  obtain ⟨c5, rfl, _⟩ := okWide_struct Try.underlying30 (hval 5 30 v_5 rfl rfl)
  obtain ⟨fu5, g5⟩ := h5
  obtain ⟨m5, ⟨u5, v5, e5, r5, s5⟩, mu5⟩ := opens_Outcome _ _ _ _ _ _ _ _ _ g5
  have main := law_tells m0 m1 m2 m3 m4 m5 u4 v4 u5 v5 W r4 s4 r5 s5
  rw [show m0.v = .agg c0 from (agg_list e0).symm, show m1.v = .agg c1 from (agg_list e1).symm, show m2.v = .agg c2 from (agg_list e2).symm, show m3.v = .agg c3 from (agg_list e3).symm, show m4.v u4 v4 = .agg c4 from (agg_list e4).symm, show m5.v u5 v5 = .agg c5 from (agg_list e5).symm] at main
  clear hA0 hval
  refine main.mono fun e W' ⟨he, bel⟩ => ?_
  subst he
  exact ⟨_, rfl, _, _, _, [], _, [], hW', trodAll_mk1 (shut_bool Try.underlying4 _),
    (trodAll_cons_mk (Below.trod laidOut (by kernel_rfl) (of_decide_eq_true (by kernel_rfl)) k0 bel lt0) (trodAll_cons_mk (Below.trod laidOut (by kernel_rfl) (of_decide_eq_true (by kernel_rfl)) k1 bel lt1) (trodAll_cons_mk (Below.trod laidOut (by kernel_rfl) (of_decide_eq_true (by kernel_rfl)) k2 bel lt2) (trodAll_cons_mk (Below.trod laidOut (by kernel_rfl) (of_decide_eq_true (by kernel_rfl)) k3 bel lt3) (trodAll_cons_mk (Below.trod laidOut (by kernel_rfl) (of_decide_eq_true (by kernel_rfl)) k4 bel lt4) (trodAll_cons_mk (Below.trod laidOut (by kernel_rfl) (of_decide_eq_true (by kernel_rfl)) k5 bel lt5) trodAll_mk0)))))),
    rfl, bel.frame _, fun h => by cases h⟩

set_option maxRecDepth 100000 in
theorem lifted (os : Os) (started : os.Started) (H : Type) (enc : TypeId × Value → H) (F : Stop.Interp) :
    ReturnsInHanded {} Try.checked os 3 .any ((Rows.OpenSpec.upto Rows.refineTellsSpec).pre6 enc Try.prog Try.f3 Rows.refineTellsUptoRow.domain false) (((Rows.OpenSpec.upto Rows.refineTellsSpec).at F).post enc Try.prog Try.f3 false true false false) := by
  refine returnsInHanded_of_cond (C := Try.checked) (s := Rows.OpenSpec.upto Rows.refineTellsSpec) (k := Rows.uptoSmall) rfl own started (by kernel_rfl) Try.func3
    (OpenSpec.witness (enc := enc) (C := Try.checked) (s := Rows.OpenSpec.upto Rows.refineTellsSpec) (k := Rows.uptoSmall) rfl false ⟨#[], #[.agg #[.int .i64 0, .int .u64 0, .int .i64 0, .int .i64 0], .agg #[.int .i64 0, .int .u64 0, .int .i64 0, .int .i64 0], .agg #[.int .i64 0, .int .u8 0, .int .i64 0, .int .i64 0, .int .i64 0], .agg #[.int .i64 0, .int .u8 0, .int .i64 0, .int .i64 0, .int .i64 0], .agg #[.int .i64 0, .int .i64 0, .int .u64 0, .int .i64 0, .int .i64 0, .slice none 0 0, .slice none 0 0, .int .i64 0], .agg #[.int .i64 0, .int .i64 0, .int .u64 0, .int .i64 0, .int .i64 0, .slice none 0 0, .slice none 0 0, .int .i64 0]], []⟩ 8 (by kernel_rfl) (by kernel_rfl) (by kernel_rfl)
      (x := ([.agg [.lit (.int .i64 0), .lit (.int .u64 0), .lit (.int .i64 0), .lit (.int .i64 0)], .agg [.lit (.int .i64 0), .lit (.int .u64 0), .lit (.int .i64 0), .lit (.int .i64 0)], .agg [.lit (.int .i64 0), .lit (.int .u8 0), .lit (.int .i64 0), .lit (.int .i64 0), .lit (.int .i64 0)], .agg [.lit (.int .i64 0), .lit (.int .u8 0), .lit (.int .i64 0), .lit (.int .i64 0), .lit (.int .i64 0)], .agg [.lit (.int .i64 0), .agg [.lit (.int .i64 0), .lit (.int .u64 0), .lit (.int .i64 0), .lit (.int .i64 0)], .nil, .nil, .lit (.int .i64 0)], .agg [.lit (.int .i64 0), .agg [.lit (.int .i64 0), .lit (.int .u64 0), .lit (.int .i64 0), .lit (.int .i64 0)], .nil, .nil, .lit (.int .i64 0)]], [], [])) (by kernel_rfl) rfl (by kernel_rfl)) ?_
  intro W base args ds gs before hval hW _ hk _
  exact contract H enc W base args ds gs before hval hW hk

theorem over : Rows.refineTellsUptoRow.holds Try.pinned (Rows.OpenSpec.upto Rows.refineTellsSpec) :=
  OpenClaim.holds_of_cond 3 Try.f3 rfl rfl rfl rfl rfl rfl rfl ⟨rfl, rfl, rfl, rfl, rfl⟩ rfl rfl rfl rfl rfl (by kernel_rfl) Try.func3 (by kernel_rfl)
    (of_decide_eq_true (by kernel_rfl)) (by unfold Func.isWrapper; first | (rw [if_pos (by decide +kernel)]; kernel_rfl) | (rw [if_neg (by decide +kernel)]; exact ⟨rfl, rfl⟩))
    (fun os started H enc _ F => lifted os started H enc F)

theorem proved : Rows.RefineTellsUptoSaid := over
end Go.Proofs.Ytffklfalocamiaa.refineTells
