/- What a module among the arguments reads as, and what the bound on the bulk says of it. No condition. -/
import Derived.Test.YtamjcafjdioidaaIrO
import Derived.Test.YtamjcafjdioidaaSm
import Derived.Test.YtamjcafjdioidaaIrCb
namespace Go.Proofs.Ytamjcafjdioidaa
open Go.RowKit Go.ChangeShapes Go.WideShapes Go.Deep

theorem cells_Var : Try.prog.cellsOf 109 = 2 := by kernel_rfl
theorem cells_Vars : Try.prog.cellsOf 22 = 1 := by kernel_rfl
theorem cells_Extern : Try.prog.cellsOf 84 = 3 := by kernel_rfl
theorem cells_Externs : Try.prog.cellsOf 23 = 1 := by kernel_rfl
theorem cells_Funcs : Try.prog.cellsOf 24 = 1 := by kernel_rfl
theorem cells_Module : Try.prog.cellsOf 26 = 3 := by kernel_rfl

def extSz (x : Ext) : Nat := x.params.length + 1
def extsSz (l : List Ext) : Nat := (l.map extSz).sum + 1
def funsSz (l : List Fun) : Nat := (l.map funSz).sum + 1
def modSz (m : Mod) : Nat := m.vars.length + extsSz m.exts + funsSz m.funcs

theorem opens_Var : Opens 109 RVr (fun _ => 1) := by
  intro H enc w base spare held fuel cs x h
  obtain ⟨xs, k, _, rfl, hl, hlen, hf⟩ := DataW.trod_struct Try.underlying109 h
  obtain ⟨c0, c1, rfl⟩ := len2 (hl.trans cells_Var)
  obtain ⟨y0, y1, rfl⟩ := len2 (hlen.trans rfl)
  obtain ⟨s, e0, _, hs⟩ := DataW.trod_string Try.underlying9 (hf 0 _ rfl)
  obtain ⟨n1, e1, _, w1⟩ := DataW.trod_int Try.underlying3 (hf 1 _ rfl)
  simp [cells_int, cells_string] at e0 e1
  subst e0 e1
  exact ⟨⟨s, n1⟩, ⟨rfl, w1, hs⟩, bulk_one _⟩
theorem opens_Vars : Opens 22 RVrs (fun l => l.length + 1) := by
  have := opens_slice Try.underlying22 cells_Var (by omega) opens_Var
  simp only [sum_ones] at this
  exact this
theorem opens_Extern : Opens 84 RExt extSz := by
  intro H enc w base spare held fuel cs x h
  obtain ⟨xs, k, _, rfl, hl, hlen, hf⟩ := DataW.trod_struct Try.underlying84 h
  obtain ⟨c0, c1, c2, rfl⟩ := len3 (hl.trans cells_Extern)
  obtain ⟨y0, y1, y2, rfl⟩ := len3 (hlen.trans rfl)
  obtain ⟨s, e0, _, hs⟩ := DataW.trod_string Try.underlying9 (hf 0 _ rfl)
  obtain ⟨l1, r1, m1⟩ := opens_Ints _ _ _ _ _ _ _ _ _ (hf 1 _ rfl)
  obtain ⟨n2, e2, _, w2⟩ := DataW.trod_int Try.underlying3 (hf 2 _ rfl)
  simp [cells_int, cells_string, cells_Ints] at e0 r1 e2
  subst e0 e2
  refine ⟨⟨s, l1, n2⟩, ⟨c1, rfl, r1, w2, hs⟩, ?_⟩
  simp only [extSz, List.map_cons, List.map_nil, Rows.uptoBulk, Rows.uptoBulkAll] at *
  omega
theorem opens_Externs : Opens 23 RExts extsSz := opens_slice Try.underlying23 cells_Extern (by omega) opens_Extern
theorem opens_Funcs : Opens 24 RFuns funsSz := opens_slice Try.underlying24 cells_Func (by omega) opens_Func
theorem opens_Module : Opens 26 RMod modSz := by
  intro H enc w base spare held fuel cs x h
  obtain ⟨xs, k, _, rfl, hl, hlen, hf⟩ := DataW.trod_struct Try.underlying26 h
  obtain ⟨c0, c1, c2, rfl⟩ := len3 (hl.trans cells_Module)
  obtain ⟨y0, y1, y2, rfl⟩ := len3 (hlen.trans rfl)
  obtain ⟨l0, r0, m0⟩ := opens_Vars _ _ _ _ _ _ _ _ _ (hf 0 _ rfl)
  obtain ⟨l1, r1, m1⟩ := opens_Externs _ _ _ _ _ _ _ _ _ (hf 1 _ rfl)
  obtain ⟨l2, r2, m2⟩ := opens_Funcs _ _ _ _ _ _ _ _ _ (hf 2 _ rfl)
  simp [cells_Vars, cells_Externs, cells_Funcs] at r0 r1 r2
  refine ⟨⟨l0, l1, l2⟩, ⟨c0, c1, c2, rfl, r0, r1, r2⟩, ?_⟩
  simp only [modSz, List.map_cons, List.map_nil, Rows.uptoBulk, Rows.uptoBulkAll] at *
  omega

theorem smallm_of {m : Mod} (h : modSz m ≤ 2000000) : SmallM m := by
  unfold modSz extsSz funsSz at h
  have h1 := sum_len extSz (fun x => by unfold extSz; omega) m.exts
  have h2 := sum_len funSz (fun x => by unfold funSz blksSz; omega) m.funcs
  refine ⟨by omega, by omega, by omega, fun x hx => ?_, fun f hf => ?_⟩
  · have h3 := sum_mem extSz m.exts x hx
    have h4 : extSz x = x.params.length + 1 := rfl
    omega
  · have h3 := sum_mem funSz m.funcs f hf
    exact small_of (by omega)
theorem fun_le {m : Mod} {f : Fun} {K : Nat} (hf : f ∈ m.funcs) (h : modSz m ≤ K) : funSz f ≤ K := by
  unfold modSz funsSz at h
  have h3 := sum_mem funSz m.funcs f hf
  omega
theorem funs_of {m : Mod} (h : modSz m ≤ 2000000) : ∀ f, f ∈ m.funcs → funSz f ≤ 2000000 := fun f hf => by
  unfold modSz funsSz at h
  have h3 := sum_mem funSz m.funcs f hf
  omega
end Go.Proofs.Ytamjcafjdioidaa
