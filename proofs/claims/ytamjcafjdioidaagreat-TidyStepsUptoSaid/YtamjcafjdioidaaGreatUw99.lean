/-
  lathelaw17.TidySteps returns true, and its arguments read afterwards as before; where what it reads is of bulk at most 1048576.
  Conditions: the bound on the bulk alone (the given second form).
-/
import Derived.Test.YtamjcafjdioidaaGreatUw34
namespace Go.Proofs.YtamjcafjdioidaaGreat.tidySteps
open Go.RowKit Go.ChangeShapes Go.WideShapes Go.Deep Go.Proofs.YtamjcafjdioidaaGreat
set_option linter.unusedVariables false

set_option maxRecDepth 100000 in
theorem contract (H : Type) (enc : TypeId × Value → H) (W : World) (base : Nat) (args : Array Value) (ds gs : List (DataW H)) (Y9 : List MemPlace)
    (hval : ∀ (j : Nat) t v, Tryz.f3.params[j]? = some t → args[j]? = some v → Value.okWide Tryz.prog W .any base t v)
    (hW : DataW.Whole enc Tryz.prog Tryz.f3.params.toList Rows.tidyStepsSpec.vars false W args.toList ds gs Y9) (hk : Rows.uptoSmall H (ds ++ gs) = true) :
    Calls Tryz.prog 3 args W fun e W' => ∃ v, e = .returned v ∧ Rows.tidyStepsSpec.post enc Tryz.prog Tryz.f3 false true false false W args v W' := by
  have hW' := hW
  obtain ⟨p, q, hA0, hV, rfl, hfz, hnd⟩ := hW
  have hA : DataW.TrodAll enc Tryz.prog W 0 (fun _ => true) true Tryz.f3.params.toList args.toList ds p := hA0
  rw [Tryz.params3] at hA hval
  obtain ⟨v_0, vs0, d0, ds0, p0, q0, hargs, rfl, rfl, h0, t0⟩ := trodAll_cons hA
  obtain ⟨rfl, rfl, rfl⟩ := trodAll_nil t0
  have hargs' : args = #[v_0] := arr_of hargs
  subst hargs'
  obtain ⟨rfl, rfl⟩ := trodVars_none hV
  have hb := bound hk
  simp only [List.append_nil, Rows.uptoBulkAll] at hb
  have k0 := h0
  have lt0 : ∀ x ∈ p0, x.block < W.heap.size := by obtain ⟨m, hm⟩ := k0; exact DataW.trod_lt m _ _ _ hm
  obtain ⟨c0, rfl, _⟩ := okWide_struct Tryz.underlying26 (hval 0 26 v_0 rfl rfl)
  obtain ⟨fu0, g0⟩ := h0
  obtain ⟨m0, ⟨u0, v0, y0, e0, r0, s0, z0⟩, mu0⟩ := opens_Module _ _ _ _ _ _ _ _ _ g0
  have main := law_tidy_steps m0 u0 v0 y0 W ⟨u0, v0, y0, rfl, r0, s0, z0⟩ (fun f hf => Nat.le_trans (fun_le hf (Nat.le_trans (show _ ≤ Rows.uptoBulk d0 from mu0) (show _ ≤ 1048576 by omega))) (by omega))
  rw [show m0.v u0 v0 y0 = .agg c0 from (agg_list e0).symm] at main
  clear hA0 hval
  refine main.mono fun e W' ⟨he, bel⟩ => ?_
  subst he
  exact ⟨_, rfl, _, _, _, [], _, [], hW', trodAll_mk1 (shut_bool Tryz.underlying4 _),
    (trodAll_cons_mk (Below.trod laidOut (by kernel_rfl) (of_decide_eq_true (by kernel_rfl)) k0 bel lt0) trodAll_mk0),
    rfl, bel.frame _, fun h => by cases h⟩

set_option maxRecDepth 100000 in
theorem lifted (os : Os) (started : os.Started) (H : Type) (enc : TypeId × Value → H) (F : Stop.Interp) :
    ReturnsInHanded {} Tryz.checked os 3 .any ((Rows.OpenSpec.upto Rows.tidyStepsSpec).pre6 enc Tryz.prog Tryz.f3 Rows.tidyStepsUptoRow.domain false) (((Rows.OpenSpec.upto Rows.tidyStepsSpec).at F).post enc Tryz.prog Tryz.f3 false true false false) := by
  refine returnsInHanded_of_cond (C := Tryz.checked) (s := Rows.OpenSpec.upto Rows.tidyStepsSpec) (k := Rows.uptoSmall) rfl own started (by kernel_rfl) Tryz.func3
    (OpenSpec.witness (enc := enc) (C := Tryz.checked) (s := Rows.OpenSpec.upto Rows.tidyStepsSpec) (k := Rows.uptoSmall) rfl false ⟨#[], #[.agg #[.slice none 0 0, .slice none 0 0, .slice none 0 0]], []⟩ 8 (by kernel_rfl) (by kernel_rfl) (by kernel_rfl)
      (x := ([.agg [.nil, .nil, .nil]], [], [])) (by kernel_rfl) rfl (by kernel_rfl)) ?_
  intro W base args ds gs Y9 hval hW _ hk _
  exact contract H enc W base args ds gs Y9 hval hW hk

theorem over : Rows.tidyStepsUptoRow.holds Tryz.pinned (Rows.OpenSpec.upto Rows.tidyStepsSpec) :=
  OpenClaim.holds_of_cond 3 Tryz.f3 rfl rfl rfl rfl rfl rfl rfl ⟨rfl, rfl, rfl, rfl, rfl⟩ rfl rfl rfl rfl rfl (by kernel_rfl) Tryz.func3 (by kernel_rfl)
    (of_decide_eq_true (by kernel_rfl)) (by unfold Func.isWrapper; first | (rw [if_pos (by decide +kernel)]; kernel_rfl) | (rw [if_neg (by decide +kernel)]; exact ⟨rfl, rfl⟩))
    (fun os started H enc _ F => lifted os started H enc F)

theorem proved : Rows.TidyStepsUptoSaid := over
end Go.Proofs.YtamjcafjdioidaaGreat.tidySteps
