/- A module that a call has laid into blocks lo .. hi: read, kept, spoiled. No condition but sizes. -/
import Derived.Test.YtaljdbmmjgmbbaaSpC
import Derived.Test.YtaljdbmmjgmbbaaIcN
import Derived.Test.YtaljdbmmjgmbbaaEqC
namespace Go.Proofs.Ytaljdbmmjgmbbaa
open Go.RowKit
set_option linter.unusedSimpArgs false
set_option linter.unusedVariables false

structure TrM (lo hi : Nat) (w : World) (m : Mod) (c d e : Value) : Prop where
  ex : ∃ w0 : World, w0.heap.size = hi ∧ OwnR w0 lo c m.vars ∧ OwnX w0 lo d m.exts ∧ OwnF w0 lo e m.funcs ∧ ∀ k, lo ≤ k → k < hi → w.heap[k]? = w0.heap[k]?
section
variable {lo hi : Nat} {w w' : World} {m : Mod} {c d e : Value}
theorem TrM.kept (h : TrM lo hi w m c d e) (hk : ∀ k, lo ≤ k → k < hi → w'.heap[k]? = w.heap[k]?) : TrM lo hi w' m c d e := by
  obtain ⟨w0, h1, h2, h3, h5, h4⟩ := h
  exact ⟨w0, h1, h2, h3, h5, fun k a b => (hk k a b).trans (h4 k a b)⟩
theorem TrM.own (h : TrM lo hi w m c d e) : OwnR w lo c m.vars ∧ OwnX w lo d m.exts ∧ OwnF w lo e m.funcs := by
  obtain ⟨w0, h1, h2, h3, h5, h4⟩ := h
  subst h1
  exact ⟨h2.kept h4, h3.kept h4, h5.kept h4⟩
theorem TrM.form (h : TrM lo hi w m c d e) : ∃ A C A' C' A'' C'', c = .slice A m.vars.length C ∧ d = .slice A' m.exts.length C' ∧ e = .slice A'' m.funcs.length C'' := by
  obtain ⟨h1, ⟨x2, -, h2, -⟩, ⟨x3, -, h3, -⟩⟩ := h.own
  obtain ⟨A, C, e1⟩ := row_form h1.row
  obtain ⟨A', C', e2⟩ := row_form h2
  obtain ⟨A'', C'', e3⟩ := row_form h3
  exact ⟨A, C, A', C', A'', C'', e1, e2, e3⟩
theorem TrM.rep (h : TrM lo hi w m c d e) : RMod.rep w w.heap.size [c, d, e] m := by
  obtain ⟨h1, h2, h3⟩ := h.own
  exact ⟨_, _, _, rfl, h1.rep, h2.rep, h3.rep⟩
theorem spoil_mod (h : TrM lo hi w m c d e) (hs : SmallM m) : Calls Try.prog 49 #[m.v c d e] w fun z w' => z = .returned (.tuple #[]) ∧ Only (fun k => lo ≤ k ∧ k < hi) w.heap.size w w' := by
  obtain ⟨A, C, A', C', A'', C'', rfl, rfl, rfl⟩ := h.form
  obtain ⟨w0, h1, h2, h3, h5, h4⟩ := h
  subst h1
  have hk : ∀ k, Dm (FineS w0 lo) k → w.heap[k]? = w0.heap[k]? := fun k hk => h4 k (fineS_le hk).1 (fineS_le hk).2
  have ht : Ty (FineS w0 lo) w0 w := (Ty.refl _ w0).heap hk
  refine (spoilall_any _ _ _ _ _ _ _ _ _ (FineS w0 lo) w ((fineS_sh w0 lo).kept hk) ((h2.fine hs.vars).var.later ht) ((h3.fine hs.exts hs.ext).externs.later ht) ((h5.fine hs.funcs hs.fun_).funs.later ht)).mono ?_
  rintro z w' ⟨rfl, ho, -⟩
  exact ⟨rfl, ho.more fun k _ hk => fineS_le hk⟩
theorem copym_tr {z : Ending} (h : CopyMPost m w z w') : ∃ c d e, z = .returned (m.v c d e) ∧ TrM w.heap.size w'.heap.size w' m c d e ∧ Below w.heap.size w w' := by
  obtain ⟨c, d, e, h1, h2, h3, h4, h5⟩ := h
  exact ⟨c, d, e, h1, ⟨w', rfl, h2, h3, h4, fun _ _ _ => rfl⟩, h5⟩
end
end Go.Proofs.Ytaljdbmmjgmbbaa
