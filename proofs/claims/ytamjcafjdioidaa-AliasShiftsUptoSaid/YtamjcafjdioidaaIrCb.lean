/- latheref02.Copy, walked. No condition but sizes. -/
import Derived.Test.YtamjcafjdioidaaIrZ
namespace Go.Proofs.Ytamjcafjdioidaa
open Go.RowKit
set_option linter.unusedSimpArgs false
set_option linter.unusedVariables false

theorem cinfo_Var : (Try.prog.info? 109).map (fun i => (i.zero, i.size, i.bytes)) = some (some (.agg #[.string ⟨#[]⟩, .int .i64 0]), 2, 24) := by kernel_rfl
theorem cinfo_Extern : (Try.prog.info? 84).map (fun i => (i.zero, i.size, i.bytes)) = some (some (.agg #[.string ⟨#[]⟩, .slice none 0 0, .int .i64 0]), 3, 48) := by kernel_rfl
theorem cinfo_Func : (Try.prog.info? 32).map (fun i => (i.zero, i.size, i.bytes)) = some (some (.agg #[.string ⟨#[]⟩, .slice none 0 0, .int .i64 0, .slice none 0 0]), 4, 72) := by kernel_rfl
theorem vc_len (l : List Vr) : (l.flatMap vc).length = l.length * 2 := by
  induction l with
  | nil => rfl
  | cons x l ih => rw [List.flatMap_cons, List.length_append, ih, List.length_cons]; show 2 + _ = _; omega
theorem vc_get : ∀ (l : List Vr) (m : Nat), (l.flatMap vc)[m]? = (l[m / 2]?).bind fun b => (vc b)[m % 2]?
  | [], m => by simp
  | b :: l, m => by
    have e3 : (vc b).length = 2 := rfl
    rw [List.flatMap_cons]
    rcases Nat.lt_or_ge m 2 with h | h
    · rw [List.getElem?_append_left (by rw [e3]; exact h), Nat.div_eq_of_lt h, Nat.mod_eq_of_lt h]; rfl
    · rw [List.getElem?_append_right (by rw [e3]; exact h), e3, vc_get l (m - 2)]
      obtain ⟨n, rfl⟩ : ∃ n, m = n + 2 := ⟨m - 2, by omega⟩
      rw [show (n + 2) / 2 = n / 2 + 1 by omega, show (n + 2) % 2 = n % 2 by omega, Nat.add_sub_cancel, List.getElem?_cons_succ]
theorem vc_one (p : List Vr) : ∀ v ∈ p.flatMap vc, v.oneCell' = true := by
  intro v hv
  obtain ⟨b, -, hb⟩ := List.mem_flatMap.1 hv
  simp only [vc, List.mem_cons, List.not_mem_nil, or_false] at hb
  rcases hb with rfl | rfl <;> rfl
theorem vars_src {w : World} {v : Value} {l : List Vr} (h : RVrs.rep w w.heap.size [v] l) : ∃ A cap, v = .slice A l.length cap ∧ (A = none → l.length = 0) ∧ (∀ x, x ∈ l → I64 x.size ∧ x.name.size ≤ maxLen) ∧ ∀ W, Below w.heap.size w W → ∀ ad, A = some ad → ∀ j u, (l.flatMap vc)[j]? = some u → W.cell? (ad.add j) = some u := by
  obtain ⟨A, cap, h1, h2, h3⟩ := Rp.slice_open h
  cases h1
  refine ⟨A, cap, rfl, fun e => ?_, fun x hx => ?_, fun W hW ad had j u hu => ?_⟩
  · rcases Nat.eq_zero_or_pos l.length with h | h
    · exact h
    · obtain ⟨b, off, h4, -⟩ := h3 h; rw [e] at h4; cases h4
  · obtain ⟨i, hi⟩ := List.mem_iff_getElem?.1 hx
    obtain ⟨b, off, h4, h5⟩ := h3 (by have := (List.getElem?_eq_some_iff.1 hi).1; omega)
    obtain ⟨es, -, ⟨-, h6⟩, -⟩ := h5 i x hi
    exact h6
  · rw [vc_get] at hu
    cases hz : l[j / 2]? with
    | none => rw [hz] at hu; cases hu
    | some z =>
      rw [hz] at hu
      obtain ⟨b, off, h4, h5⟩ := h3 (by have := (List.getElem?_eq_some_iff.1 hz).1; omega)
      rw [h4] at had
      cases had
      obtain ⟨es, -, ⟨h6, -⟩, h7⟩ := h5 (j / 2) z hz
      subst h6
      rw [show (⟨b, off, none⟩ : Addr).add j = ⟨b, off + j, none⟩ from add_mk b off j, show off + j = off + j / 2 * 2 + j % 2 by omega]
      exact h7 (j % 2) u hu W hW
theorem box3 {w : World} {N : Nat} {a b c : Value} {t : TypeId} (h : w.heap[N]? = some (.cells #[a, b, c] t (0, 0))) : w.cell? ⟨N, 0, none⟩ = some a ∧ w.cell? ⟨N, 1, none⟩ = some b ∧ w.cell? ⟨N, 2, none⟩ = some c := by simp [World.cell?, h]
theorem OwnR.mono {w : World} {B B' : Nat} {v : Value} {l : List Vr} (h : OwnR w B v l) (hb : B' ≤ B) : OwnR w B' v l := ⟨row_mono h.row hb, h.ok⟩
theorem OwnX.mono {w : World} {B B' : Nat} {v : Value} {l : List Ext} (h : OwnX w B v l) (hb : B' ≤ B) : OwnX w B' v l := by
  obtain ⟨ess, h1, h2, h3⟩ := h
  refine ⟨ess, h1, row_mono h2 hb, fun i es x he hx => ?_⟩
  obtain ⟨c, e, h4, h6⟩ := h3 i es x he hx
  exact ⟨c, e, h4.mono hb, h6⟩
theorem OwnF.mono {w : World} {B B' : Nat} {v : Value} {l : List Fun} (h : OwnF w B v l) (hb : B' ≤ B) : OwnF w B' v l := by
  obtain ⟨ess, h1, h2, h3⟩ := h
  refine ⟨ess, h1, row_mono h2 hb, fun i es x he hx => ?_⟩
  obtain ⟨c, d, e, h4, h5, h6⟩ := h3 i es x he hx
  exact ⟨c, d, e, h4.mono hb, h5.mono hb, h6⟩
structure SmallM (m : Mod) : Prop where
  vars : m.vars.length ≤ 2000000
  exts : m.exts.length ≤ 2000000
  funcs : m.funcs.length ≤ 2000000
  ext : ∀ x, x ∈ m.exts → x.params.length ≤ 2000000
  fun_ : ∀ f, f ∈ m.funcs → Small f
def CopyMPost (m : Mod) (w : World) (e : Ending) (w' : World) : Prop := ∃ c d f, e = .returned (m.v c d f) ∧ OwnR w' w.heap.size c m.vars ∧ OwnX w' w.heap.size d m.exts ∧ OwnF w' w.heap.size f m.funcs ∧ Below w.heap.size w w'
end Go.Proofs.Ytamjcafjdioidaa
