/-
  lathelaw18.AliasShifts returns true, and its arguments read afterwards as before; where what it reads is of bulk at most 1048576.
  Conditions: the bound on the bulk alone (the given second form).
-/
import Derived.Test.YtamjcafjdioidaaAkS
import Derived.Test.YtamjcafjdioidaaIrCe
import Derived.Test.YtamjcafjdioidaaBlZ
import Derived.Test.YtamjcafjdioidaaOpen
namespace Go.Proofs.Ytamjcafjdioidaa.aliasShifts
open Go.RowKit Go.ChangeShapes Go.WideShapes Go.Deep Go.Proofs.Ytamjcafjdioidaa
set_option linter.unusedVariables false

set_option maxRecDepth 100000 in
theorem contract (H : Type) (enc : TypeId × Value → H) (W : World) (base : Nat) (args : Array Value) (ds gs : List (DataW H)) (before : List MemPlace)
    (hval : ∀ (j : Nat) t v, Try.f4.params[j]? = some t → args[j]? = some v → Value.okWide Try.prog W .any base t v)
    (hW : DataW.Whole enc Try.prog Try.f4.params.toList Rows.aliasShiftsSpec.vars false W args.toList ds gs before) (hk : Rows.uptoSmall H (ds ++ gs) = true) :
    Calls Try.prog 4 args W fun e W' => ∃ v, e = .returned v ∧ Rows.aliasShiftsSpec.post enc Try.prog Try.f4 false true false false W args v W' := by
  have hW' := hW
  obtain ⟨p, q, hA0, hV, rfl, hfz, hnd⟩ := hW
  have hA : DataW.TrodAll enc Try.prog W 0 (fun _ => true) true Try.f4.params.toList args.toList ds p := hA0
  rw [Try.params4] at hA hval
  obtain ⟨v_0, vs0, d0, ds0, p0, q0, hargs, rfl, rfl, h0, t0⟩ := trodAll_cons hA
  obtain ⟨v_1, vs1, d1, ds1, p1, q1, rfl, rfl, rfl, h1, t1⟩ := trodAll_cons t0
  obtain ⟨v_2, vs2, d2, ds2, p2, q2, rfl, rfl, rfl, h2, t2⟩ := trodAll_cons t1
  obtain ⟨v_3, vs3, d3, ds3, p3, q3, rfl, rfl, rfl, h3, t3⟩ := trodAll_cons t2
  obtain ⟨v_4, vs4, d4, ds4, p4, q4, rfl, rfl, rfl, h4, t4⟩ := trodAll_cons t3
  obtain ⟨v_5, vs5, d5, ds5, p5, q5, rfl, rfl, rfl, h5, t5⟩ := trodAll_cons t4
  obtain ⟨rfl, rfl, rfl⟩ := trodAll_nil t5
  have hargs' : args = #[v_0, v_1, v_2, v_3, v_4, v_5] := arr_of hargs
  subst hargs'
  obtain ⟨rfl, rfl⟩ := trodVars_none hV
  have hb := bound hk
  simp only [List.append_nil, Rows.uptoBulkAll] at hb
  have k0 := h0
  have lt0 : ∀ x ∈ p0, x.block < W.heap.size := by obtain ⟨m, hm⟩ := k0; exact DataW.trod_lt m _ _ _ hm
  obtain ⟨c0, rfl, _⟩ := okWide_struct Try.underlying26 (hval 0 26 v_0 rfl rfl)
  obtain ⟨fu0, g0⟩ := h0
  obtain ⟨m0, ⟨u0, v0, y0, e0, r0, s0, z0⟩, mu0⟩ := opens_Module _ _ _ _ _ _ _ _ _ g0
  have k1 := h1
  have lt1 : ∀ x ∈ p1, x.block < W.heap.size := by obtain ⟨m, hm⟩ := k1; exact DataW.trod_lt m _ _ _ hm
  obtain ⟨c1, rfl, _⟩ := okWide_struct Try.underlying42 (hval 1 42 v_1 rfl rfl)
  obtain ⟨fu1, g1⟩ := h1
  obtain ⟨m1, ⟨e1, z1⟩, mu1⟩ := opens_Value _ _ _ _ _ _ _ _ _ g1
  have k2 := h2
  have lt2 : ∀ x ∈ p2, x.block < W.heap.size := by obtain ⟨m, hm⟩ := k2; exact DataW.trod_lt m _ _ _ hm
  obtain ⟨c2, rfl, _⟩ := okWide_struct Try.underlying42 (hval 2 42 v_2 rfl rfl)
  obtain ⟨fu2, g2⟩ := h2
  obtain ⟨m2, ⟨e2, z2⟩, mu2⟩ := opens_Value _ _ _ _ _ _ _ _ _ g2
  obtain ⟨n3, rfl, rfl, rfl, wf3⟩ := open_int Try.underlying3 (hval 3 3 v_3 rfl rfl) h3
  obtain ⟨n4, rfl, rfl, rfl, wf4⟩ := open_int Try.underlying3 (hval 4 3 v_4 rfl rfl) h4
  obtain ⟨n5, rfl, rfl, rfl, wf5⟩ := open_int Try.underlying40 (hval 5 40 v_5 rfl rfl) h5
  have main := law_alias_shifts m0 m1 m2 n3 n4 n5 z1 z2 u0 v0 y0 W ⟨u0, v0, y0, rfl, r0, s0, z0⟩ (fun f hf => Nat.le_trans (fun_le hf (Nat.le_trans (show _ ≤ Rows.uptoBulk d0 from mu0) (show _ ≤ 1048576 by omega))) (by omega))
  rw [show m0.v u0 v0 y0 = .agg c0 from (agg_list e0).symm, show Value.agg #[.int .i64 m1.kind, .int .i64 m1.num, .int .u64 m1.bits] = .agg c1 from (agg_list e1).symm, show Value.agg #[.int .i64 m2.kind, .int .i64 m2.num, .int .u64 m2.bits] = .agg c2 from (agg_list e2).symm] at main
  clear hA0 hval
  refine main.mono fun e W' ⟨he, bel⟩ => ?_
  subst he
  exact ⟨_, rfl, _, _, _, [], _, [], hW', trodAll_mk1 (shut_bool Try.underlying4 _),
    (trodAll_cons_mk (Below.trod laidOut (by kernel_rfl) (of_decide_eq_true (by kernel_rfl)) k0 bel lt0) (trodAll_cons_mk (Below.trod laidOut (by kernel_rfl) (of_decide_eq_true (by kernel_rfl)) k1 bel lt1) (trodAll_cons_mk (Below.trod laidOut (by kernel_rfl) (of_decide_eq_true (by kernel_rfl)) k2 bel lt2) (trodAll_cons_mk (shut_int Try.underlying3 wf3) (trodAll_cons_mk (shut_int Try.underlying3 wf4) (trodAll_cons_mk (shut_int Try.underlying40 wf5) trodAll_mk0)))))),
    rfl, bel.frame _, fun h => by cases h⟩

set_option maxRecDepth 100000 in
theorem lifted (os : Os) (started : os.Started) (H : Type) (enc : TypeId × Value → H) (F : Stop.Interp) :
    ReturnsInHanded {} Try.checked os 4 .any ((Rows.OpenSpec.upto Rows.aliasShiftsSpec).pre6 enc Try.prog Try.f4 Rows.aliasShiftsUptoRow.domain false) (((Rows.OpenSpec.upto Rows.aliasShiftsSpec).at F).post enc Try.prog Try.f4 false true false false) := by
  refine returnsInHanded_of_cond (C := Try.checked) (s := Rows.OpenSpec.upto Rows.aliasShiftsSpec) (k := Rows.uptoSmall) rfl own started (by kernel_rfl) Try.func4
    (OpenSpec.witness (enc := enc) (C := Try.checked) (s := Rows.OpenSpec.upto Rows.aliasShiftsSpec) (k := Rows.uptoSmall) rfl false ⟨#[], #[.agg #[.slice none 0 0, .slice none 0 0, .slice none 0 0], .agg #[.int .i64 0, .int .i64 0, .int .u64 0], .agg #[.int .i64 0, .int .i64 0, .int .u64 0], .int .i64 0, .int .i64 0, .int .u64 0], []⟩ 8 (by kernel_rfl) (by kernel_rfl) (by kernel_rfl)
      (x := ([.agg [.nil, .nil, .nil], .agg [.lit (.int .i64 0), .lit (.int .i64 0), .lit (.int .u64 0)], .agg [.lit (.int .i64 0), .lit (.int .i64 0), .lit (.int .u64 0)], .lit (.int .i64 0), .lit (.int .i64 0), .lit (.int .u64 0)], [], [])) (by kernel_rfl) rfl (by kernel_rfl)) ?_
  intro W base args ds gs before hval hW _ hk _
  exact contract H enc W base args ds gs before hval hW hk

theorem over : Rows.aliasShiftsUptoRow.holds Try.pinned (Rows.OpenSpec.upto Rows.aliasShiftsSpec) :=
  OpenClaim.holds_of_cond 4 Try.f4 rfl rfl rfl rfl rfl rfl rfl ⟨rfl, rfl, rfl, rfl, rfl⟩ rfl rfl rfl rfl rfl (by kernel_rfl) Try.func4 (by kernel_rfl)
    (of_decide_eq_true (by kernel_rfl)) (by unfold Func.isWrapper; first | (rw [if_pos (by decide +kernel)]; kernel_rfl) | (rw [if_neg (by decide +kernel)]; exact ⟨rfl, rfl⟩))
    (fun os started H enc _ F => lifted os started H enc F)

theorem proved : Rows.AliasShiftsUptoSaid := over
end Go.Proofs.Ytamjcafjdioidaa.aliasShifts
