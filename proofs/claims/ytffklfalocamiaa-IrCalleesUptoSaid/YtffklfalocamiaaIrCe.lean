/- What a module among the arguments reads as, and what the bound on the bulk says of it. No condition. -/
import Derived.Test.YtffklfalocamiaaIrO
import Derived.Test.YtffklfalocamiaaIrCb
namespace Go.Proofs.Ytffklfalocamiaa
open Go.RowKit Go.ChangeShapes Go.WideShapes Go.Deep

theorem cells_Var : Try.prog.cellsOf 120 = 2 := by kernel_rfl
theorem cells_Vars : Try.prog.cellsOf 53 = 1 := by kernel_rfl
theorem cells_Extern : Try.prog.cellsOf 109 = 3 := by kernel_rfl
theorem cells_Externs : Try.prog.cellsOf 54 = 1 := by kernel_rfl
theorem cells_Funcs : Try.prog.cellsOf 52 = 1 := by kernel_rfl
theorem cells_Module : Try.prog.cellsOf 56 = 3 := by kernel_rfl

def extSz (x : Ext) : Nat := x.params.length + 1
def extsSz (l : List Ext) : Nat := (l.map extSz).sum + 1
def funsSz (l : List Fun) : Nat := (l.map funSz).sum + 1
def modSz (m : Mod) : Nat := m.vars.length + extsSz m.exts + funsSz m.funcs

theorem opens_Var : Opens 120 RVr (fun _ => 1) := by
  intro H enc w base spare held fuel cs x h
  obtain ⟨xs, k, _, rfl, hl, hlen, hf⟩ := DataW.trod_struct Try.underlying120 h
  obtain ⟨c0, c1, rfl⟩ := len2 (hl.trans cells_Var)
  obtain ⟨y0, y1, rfl⟩ := len2 (hlen.trans rfl)
  obtain ⟨s, e0, _, hs⟩ := DataW.trod_string Try.underlying9 (hf 0 _ rfl)
  obtain ⟨n1, e1, _, w1⟩ := DataW.trod_int Try.underlying3 (hf 1 _ rfl)
  simp [cells_int, cells_string] at e0 e1
  subst e0 e1
  exact ⟨⟨s, n1⟩, ⟨rfl, w1, hs⟩, bulk_one _⟩
theorem opens_Vars : Opens 53 RVrs (fun l => l.length + 1) := by
  have := opens_slice Try.underlying53 cells_Var (by omega) opens_Var
  simp only [sum_ones] at this
  exact this
theorem opens_Extern : Opens 109 RExt extSz := by
  intro H enc w base spare held fuel cs x h
  obtain ⟨xs, k, _, rfl, hl, hlen, hf⟩ := DataW.trod_struct Try.underlying109 h
  obtain ⟨c0, c1, c2, rfl⟩ := len3 (hl.trans cells_Extern)
  obtain ⟨y0, y1, y2, rfl⟩ := len3 (hlen.trans rfl)
  obtain ⟨s, e0, _, hs⟩ := DataW.trod_string Try.underlying9 (hf 0 _ rfl)
  obtain ⟨l1, r1, m1⟩ := opens_Ints _ _ _ _ _ _ _ _ _ (hf 1 _ rfl)
  obtain ⟨n2, e2, _, w2⟩ := DataW.trod_int Try.underlying3 (hf 2 _ rfl)
  simp [cells_int, cells_string, cells_Ints] at e0 r1 e2
  subst e0 e2
  refine ⟨⟨s, l1, n2⟩, ⟨c1, rfl, r1, w2, hs⟩, ?_⟩
  simp only [extSz, List.map_cons, List.map_nil, Rows.uptoBulk, Rows.uptoBulkAll] at *
  omega
theorem opens_Externs : Opens 54 RExts extsSz := opens_slice Try.underlying54 cells_Extern (by omega) opens_Extern
theorem opens_Funcs : Opens 52 RFuns funsSz := opens_slice Try.underlying52 cells_Func (by omega) opens_Func
theorem opens_Module : Opens 56 RMod modSz := by
  intro H enc w base spare held fuel cs x h
  obtain ⟨xs, k, _, rfl, hl, hlen, hf⟩ := DataW.trod_struct Try.underlying56 h
  obtain ⟨c0, c1, c2, rfl⟩ := len3 (hl.trans cells_Module)
  obtain ⟨y0, y1, y2, rfl⟩ := len3 (hlen.trans rfl)
  obtain ⟨l0, r0, m0⟩ := opens_Vars _ _ _ _ _ _ _ _ _ (hf 0 _ rfl)
  obtain ⟨l1, r1, m1⟩ := opens_Externs _ _ _ _ _ _ _ _ _ (hf 1 _ rfl)
  obtain ⟨l2, r2, m2⟩ := opens_Funcs _ _ _ _ _ _ _ _ _ (hf 2 _ rfl)
  simp [cells_Vars, cells_Externs, cells_Funcs] at r0 r1 r2
  refine ⟨⟨l0, l1, l2⟩, ⟨c0, c1, c2, rfl, r0, r1, r2⟩, ?_⟩
  simp only [modSz, List.map_cons, List.map_nil, Rows.uptoBulk, Rows.uptoBulkAll] at *
  omega

theorem sum_mem {α : Type} (μ : α → Nat) : ∀ (l : List α) (x : α), x ∈ l → μ x ≤ (l.map μ).sum
  | y :: l, x, h => by
    rw [List.map_cons, List.sum_cons]
    rcases List.mem_cons.1 h with rfl | h
    · omega
    · have := sum_mem μ l x h
      omega
theorem sum_len {α : Type} (μ : α → Nat) (h1 : ∀ x, 1 ≤ μ x) : ∀ l : List α, l.length ≤ (l.map μ).sum
  | [] => Nat.zero_le _
  | y :: l => by
    rw [List.map_cons, List.sum_cons, List.length_cons]
    have := sum_len μ h1 l
    have := h1 y
    omega
theorem small_of {f : Fun} (h : funSz f ≤ 2000000) : Small f := by
  unfold funSz blksSz at h
  refine ⟨by omega, ?_, fun x hx => ?_⟩
  · have := sum_len blkSz (fun x => by unfold blkSz; omega) f.blocks
    omega
  · have h1 := sum_mem blkSz f.blocks x hx
    have h2 : x.length ≤ (x.map insSz).sum := sum_len insSz (fun x => by unfold insSz; omega) x
    have h3 : blkSz x = (x.map insSz).sum + 1 := rfl
    refine ⟨by omega, fun i hi => ?_⟩
    have h4 := sum_mem insSz x i hi
    have h5 : insSz i = 1 + i.args.length + i.to.length := rfl
    omega
theorem smallm_of {m : Mod} (h : modSz m ≤ 2000000) : SmallM m := by
  unfold modSz extsSz funsSz at h
  have h1 := sum_len extSz (fun x => by unfold extSz; omega) m.exts
  have h2 := sum_len funSz (fun x => by unfold funSz blksSz; omega) m.funcs
  refine ⟨by omega, by omega, by omega, fun x hx => ?_, fun f hf => ?_⟩
  · have h3 := sum_mem extSz m.exts x hx
    have h4 : extSz x = x.params.length + 1 := rfl
    omega
  · have h3 := sum_mem funSz m.funcs f hf
    exact small_of (by omega)
end Go.Proofs.Ytffklfalocamiaa
