/- A function that a call has laid into blocks lo .. hi: read, kept, spoiled. No condition but sizes. -/
import Derived.Test.YtkhlnopbgngjbaaSpA
import Derived.Test.YtkhlnopbgngjbaaCr
namespace Go.Proofs.Ytkhlnopbgngjbaa
open Go.RowKit
set_option linter.unusedSimpArgs false
set_option linter.unusedVariables false

structure Tr (lo hi : Nat) (w : World) (f : Fun) (c d : Value) : Prop where
  ex : ∃ w0 : World, w0.heap.size = hi ∧ OwnI w0 lo c f.params ∧ OwnK w0 lo d f.blocks ∧ ∀ k, lo ≤ k → k < hi → w.heap[k]? = w0.heap[k]?
section
variable {lo hi : Nat} {w w' : World} {f : Fun} {c d : Value}
theorem Tr.kept (h : Tr lo hi w f c d) (hk : ∀ k, lo ≤ k → k < hi → w'.heap[k]? = w.heap[k]?) : Tr lo hi w' f c d := by
  obtain ⟨w0, h1, h2, h3, h4⟩ := h
  exact ⟨w0, h1, h2, h3, fun k a b => (hk k a b).trans (h4 k a b)⟩
theorem Tr.own (h : Tr lo hi w f c d) : OwnI w lo c f.params ∧ OwnK w lo d f.blocks := by
  obtain ⟨w0, h1, h2, h3, h4⟩ := h
  subst h1
  exact ⟨h2.kept h4, h3.kept h4⟩
theorem Tr.made (hc : OwnI w lo c f.params) (hd : OwnK w lo d f.blocks) (hh : w.heap.size = hi) : Tr lo hi w f c d := ⟨w, hh, hc, hd, fun _ _ _ => rfl⟩
theorem Tr.form (h : Tr lo hi w f c d) : ∃ A C A' C', c = .slice A f.params.length C ∧ d = .slice A' f.blocks.length C' := by
  obtain ⟨h1, xs, h2, h3, -⟩ := h.own
  obtain ⟨A, C, e1⟩ := row_form h1.row
  obtain ⟨A', C', e2⟩ := row_form h3
  exact ⟨A, C, A', C', e1, e2⟩
theorem Tr.rep (h : Tr lo hi w f c d) {u1 u2 : Value} {B : Nat} {w1 : World} {cs : List Value} {f1 : Fun} (hf : RFun.rep w1 B cs f1) (h1 : f.name = f1.name) (h2 : f.ret = f1.ret) : RFun.rep w w.heap.size [.string f.name, c, .int .i64 f.ret, d] f := by
  obtain ⟨_, _, _, -, -, hret, hnm⟩ := hf
  obtain ⟨ha, hb⟩ := h.own
  refine ⟨_, _, rfl, ha.rep, hb.rep, ?_, ?_⟩
  · rw [h2]; exact hret
  · rw [h1]; exact hnm
theorem Tr.spoil (h : Tr lo hi w f c d) (hs : Small f) : ∃ S, Sh S w ∧ SlOk S w 3 1 c ∧ SlOk S w 71 1 d ∧ ∀ k, Dm S k → lo ≤ k ∧ k < hi := by
  obtain ⟨w0, h1, h2, h3, h4⟩ := h
  subst h1
  have hk : ∀ k, Dm (FineS w0 lo) k → w.heap[k]? = w0.heap[k]? := fun k hk => h4 k (fineS_le hk).1 (fineS_le hk).2
  have ht : Ty (FineS w0 lo) w0 w := (Ty.refl _ w0).heap hk
  exact ⟨FineS w0 lo, (fineS_sh w0 lo).kept hk, (h2.fine hs.params).int_.later ht, (h3.fine hs.blocks hs.code).blocks.later ht, fun k hk => fineS_le hk⟩
theorem spoil_tree (h : Tr lo hi w f c d) (hs : Small f) : Calls Try.prog 21 #[f.v c d] w fun e w' => e = .returned (.tuple #[]) ∧ Only (fun k => lo ≤ k ∧ k < hi) w.heap.size w w' := by
  obtain ⟨S, h1, h2, h3, h4⟩ := h.spoil hs
  obtain ⟨A, C, A', C', e1, e2⟩ := h.form
  subst e1; subst e2
  refine (spoil_any f.name f.ret _ _ _ _ _ _ S w h1 h2 h3).mono ?_
  rintro e w' ⟨rfl, ho, -⟩
  exact ⟨rfl, ho.more fun k _ hk => h4 k hk⟩
end
theorem copy_tr {f : Fun} {w : World} {e : Ending} {w' : World} (h : CopyPost f w e w') : ∃ c d, e = .returned (f.v c d) ∧ Tr w.heap.size w'.heap.size w' f c d ∧ Below w.heap.size w w' := by
  obtain ⟨c, d, h1, h2, h3, h4⟩ := h
  exact ⟨c, d, h1, .made h2 h3 rfl, h4⟩
theorem copy_tr2 {f : Fun} {bs : List (List Ins)} {w : World} {e : Ending} {w' : World} (h : CopyPost (setBlocks f bs) w e w') : ∃ c d, e = .returned (f.v c d) ∧ Tr w.heap.size w'.heap.size w' (setBlocks f bs) c d ∧ Below w.heap.size w w' := by
  obtain ⟨c, d, h1, h2, h3, h4⟩ := h
  exact ⟨c, d, h1, .made h2 h3 rfl, h4⟩
end Go.Proofs.Ytkhlnopbgngjbaa
