/-
  lathelaw19.MemssaGoes returns true, and its arguments read afterwards as before; where what it reads is of bulk at most 1048576.
  Conditions: the bound on the bulk alone (the given second form).
-/
import Derived.Test.YtidjaohlaljmpaaMsS
import Derived.Test.YtidjaohlaljmpaaSm
import Derived.Test.YtidjaohlaljmpaaBlZ
import Derived.Test.YtidjaohlaljmpaaOpen
namespace Go.Proofs.Ytidjaohlaljmpaa.memssaGoes
open Go.RowKit Go.ChangeShapes Go.WideShapes Go.Deep Go.Proofs.Ytidjaohlaljmpaa
set_option linter.unusedVariables false

set_option maxRecDepth 100000 in
theorem contract (H : Type) (enc : TypeId × Value → H) (W : World) (base : Nat) (args : Array Value) (ds gs : List (DataW H)) (before : List MemPlace)
    (hval : ∀ (j : Nat) t v, Try.f9.params[j]? = some t → args[j]? = some v → Value.okWide Try.prog W .any base t v)
    (hW : DataW.Whole enc Try.prog Try.f9.params.toList Rows.memssaGoesSpec.vars false W args.toList ds gs before) (hk : Rows.uptoSmall H (ds ++ gs) = true) :
    Calls Try.prog 9 args W fun e W' => ∃ v, e = .returned v ∧ Rows.memssaGoesSpec.post enc Try.prog Try.f9 false true false false W args v W' := by
  have hW' := hW
  obtain ⟨p, q, hA0, hV, rfl, hfz, hnd⟩ := hW
  have hA : DataW.TrodAll enc Try.prog W 0 (fun _ => true) true Try.f9.params.toList args.toList ds p := hA0
  rw [Try.params9] at hA hval
  obtain ⟨v_0, vs0, d0, ds0, p0, q0, hargs, rfl, rfl, h0, t0⟩ := trodAll_cons hA
  obtain ⟨v_1, vs1, d1, ds1, p1, q1, rfl, rfl, rfl, h1, t1⟩ := trodAll_cons t0
  obtain ⟨rfl, rfl, rfl⟩ := trodAll_nil t1
  have hargs' : args = #[v_0, v_1] := arr_of hargs
  subst hargs'
  obtain ⟨rfl, rfl⟩ := trodVars_none hV
  have hb := bound hk
  simp only [List.append_nil, Rows.uptoBulkAll] at hb
  have k0 := h0
  have lt0 : ∀ x ∈ p0, x.block < W.heap.size := by obtain ⟨m, hm⟩ := k0; exact DataW.trod_lt m _ _ _ hm
  obtain ⟨c0, rfl, _⟩ := okWide_struct Try.underlying25 (hval 0 25 v_0 rfl rfl)
  obtain ⟨fu0, g0⟩ := h0
  obtain ⟨m0, ⟨u0, v0, e0, r0, s0, z0⟩, mu0⟩ := opens_Func _ _ _ _ _ _ _ _ _ g0
  have k1 := h1
  have lt1 : ∀ x ∈ p1, x.block < W.heap.size := by obtain ⟨m, hm⟩ := k1; exact DataW.trod_lt m _ _ _ hm
  obtain ⟨A1, len1, cap1, rfl⟩ := okWide_slice Try.underlying42 (hval 1 42 v_1 rfl rfl)
  obtain ⟨fu1, g1⟩ := h1
  obtain ⟨m1, r1, mu1⟩ := opens_Bools _ _ _ _ _ _ _ _ _ g1
  have main := law_memssa_goes m0 m1 _ u0 v0 W ⟨u0, v0, rfl, r0, s0, z0⟩ r1 (small_of (by have := Nat.le_trans (show _ ≤ Rows.uptoBulk d0 from mu0) (show _ ≤ 1048576 by omega); omega)) (by have := Nat.le_trans (show _ ≤ Rows.uptoBulk d0 from mu0) (show _ ≤ 1048576 by omega); omega)
  rw [show m0.v u0 v0 = .agg c0 from (agg_list e0).symm] at main
  clear hA0 hval
  refine main.mono fun e W' ⟨he, bel⟩ => ?_
  subst he
  exact ⟨_, rfl, _, _, _, [], _, [], hW', trodAll_mk1 (shut_bool Try.underlying4 _),
    (trodAll_cons_mk (Below.trod laidOut (by kernel_rfl) (of_decide_eq_true (by kernel_rfl)) k0 bel lt0) (trodAll_cons_mk (Below.trod laidOut (by kernel_rfl) (of_decide_eq_true (by kernel_rfl)) k1 bel lt1) trodAll_mk0)),
    rfl, bel.frame _, fun h => by cases h⟩

set_option maxRecDepth 100000 in
theorem lifted (os : Os) (started : os.Started) (H : Type) (enc : TypeId × Value → H) (F : Stop.Interp) :
    ReturnsInHanded {} Try.checked os 9 .any ((Rows.OpenSpec.upto Rows.memssaGoesSpec).pre6 enc Try.prog Try.f9 Rows.memssaGoesUptoRow.domain false) (((Rows.OpenSpec.upto Rows.memssaGoesSpec).at F).post enc Try.prog Try.f9 false true false false) := by
  refine returnsInHanded_of_cond (C := Try.checked) (s := Rows.OpenSpec.upto Rows.memssaGoesSpec) (k := Rows.uptoSmall) rfl own started (by kernel_rfl) Try.func9
    (OpenSpec.witness (enc := enc) (C := Try.checked) (s := Rows.OpenSpec.upto Rows.memssaGoesSpec) (k := Rows.uptoSmall) rfl false ⟨#[], #[.agg #[.string ⟨#[]⟩, .slice none 0 0, .int .i64 0, .slice none 0 0], .slice none 0 0], []⟩ 8 (by kernel_rfl) (by kernel_rfl) (by kernel_rfl)
      (x := ([.agg [.lit (.string []), .nil, .lit (.int .i64 0), .nil], .nil], [], [])) (by kernel_rfl) rfl (by kernel_rfl)) ?_
  intro W base args ds gs before hval hW _ hk _
  exact contract H enc W base args ds gs before hval hW hk

theorem over : Rows.memssaGoesUptoRow.holds Try.pinned (Rows.OpenSpec.upto Rows.memssaGoesSpec) :=
  OpenClaim.holds_of_cond 9 Try.f9 rfl rfl rfl rfl rfl rfl rfl ⟨rfl, rfl, rfl, rfl, rfl⟩ rfl rfl rfl rfl rfl (by kernel_rfl) Try.func9 (by kernel_rfl)
    (of_decide_eq_true (by kernel_rfl)) (by unfold Func.isWrapper; first | (rw [if_pos (by decide +kernel)]; kernel_rfl) | (rw [if_neg (by decide +kernel)]; exact ⟨rfl, rfl⟩))
    (fun os started H enc _ F => lifted os started H enc F)

theorem proved : Rows.MemssaGoesUptoSaid := over
end Go.Proofs.Ytidjaohlaljmpaa.memssaGoes
