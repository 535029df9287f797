/- What layer 12's arguments read as. No condition. -/
import Derived.Test.YtffklfalocamiaaOpen
import Derived.Test.YtffklfalocamiaaRefB
import Derived.Test.YtffklfalocamiaaRefD
namespace Go.Proofs.Ytffklfalocamiaa
open Go.RowKit Go.ChangeShapes Go.WideShapes Go.Deep

theorem cells_u64 : Try.prog.cellsOf 22 = 1 := by kernel_rfl
theorem cells_i64 : Try.prog.cellsOf 2 = 1 := by kernel_rfl
theorem cells_u8 : Try.prog.cellsOf 5 = 1 := by kernel_rfl
theorem cells_Val : Try.prog.cellsOf 24 = 4 := by kernel_rfl
theorem cells_Byte : Try.prog.cellsOf 26 = 5 := by kernel_rfl
theorem cells_Bytes : Try.prog.cellsOf 98 = 1 := by kernel_rfl
theorem cells_Vars : Try.prog.cellsOf 28 = 1 := by kernel_rfl
theorem cells_Vals : Try.prog.cellsOf 95 = 1 := by kernel_rfl
theorem cells_Event : Try.prog.cellsOf 97 = 3 := by kernel_rfl
theorem cells_Events : Try.prog.cellsOf 27 = 1 := by kernel_rfl
theorem cells_Outcome : Try.prog.cellsOf 30 = 8 := by kernel_rfl

theorem opens_Val : Opens 24 RVal (fun _ => 1) := by
  intro H enc w base spare held fuel cs x h
  obtain ⟨xs, k, _, rfl, hl, hlen, hf⟩ := DataW.trod_struct Try.underlying24 h
  obtain ⟨c0, c1, c2, c3, rfl⟩ := len4 (hl.trans cells_Val)
  obtain ⟨y0, y1, y2, y3, rfl⟩ := len4 (hlen.trans rfl)
  obtain ⟨n0, e0, _, _⟩ := DataW.trod_int Try.underlying3 (hf 0 _ rfl)
  obtain ⟨n1, e1, _, _⟩ := DataW.trod_int Try.underlying22 (hf 1 _ rfl)
  obtain ⟨n2, e2, _, _⟩ := DataW.trod_int Try.underlying3 (hf 2 _ rfl)
  obtain ⟨n3, e3, _, _⟩ := DataW.trod_int Try.underlying2 (hf 3 _ rfl)
  simp [cells_int, cells_u64, cells_i64] at e0 e1 e2 e3
  subst e0 e1 e2 e3
  exact ⟨⟨n0, n1, n2, n3⟩, ⟨rfl, trivial⟩, bulk_one _⟩

theorem opens_Byte : Opens 26 RByt (fun _ => 1) := by
  intro H enc w base spare held fuel cs x h
  obtain ⟨xs, k, _, rfl, hl, hlen, hf⟩ := DataW.trod_struct Try.underlying26 h
  obtain ⟨c0, c1, c2, c3, c4, rfl⟩ := len5 (hl.trans cells_Byte)
  obtain ⟨y0, y1, y2, y3, y4, rfl⟩ := len5 (hlen.trans rfl)
  obtain ⟨n0, e0, _, _⟩ := DataW.trod_int Try.underlying3 (hf 0 _ rfl)
  obtain ⟨n1, e1, _, _⟩ := DataW.trod_int Try.underlying5 (hf 1 _ rfl)
  obtain ⟨n2, e2, _, _⟩ := DataW.trod_int Try.underlying3 (hf 2 _ rfl)
  obtain ⟨n3, e3, _, _⟩ := DataW.trod_int Try.underlying2 (hf 3 _ rfl)
  obtain ⟨n4, e4, _, _⟩ := DataW.trod_int Try.underlying3 (hf 4 _ rfl)
  simp [cells_int, cells_u8, cells_i64] at e0 e1 e2 e3 e4
  subst e0 e1 e2 e3 e4
  exact ⟨⟨n0, n1, n2, n3, n4⟩, ⟨rfl, trivial⟩, bulk_one _⟩

theorem opens_Bytes : Opens 98 RByts (fun l => (l.map fun _ => 1).sum + 1) := opens_slice Try.underlying98 cells_Byte (by omega) opens_Byte
theorem opens_Vars : Opens 28 RVars (fun l => (l.map fun l => (l.map fun _ => 1).sum + 1).sum + 1) := opens_slice Try.underlying28 cells_Bytes (by omega) opens_Bytes
theorem opens_Vals : Opens 95 RVals (fun l => (l.map fun _ => 1).sum + 1) := opens_slice Try.underlying95 cells_Val (by omega) opens_Val

theorem opens_Event : Opens 97 REvt (fun _ => 1) := by
  intro H enc w base spare held fuel cs x h
  obtain ⟨xs, k, _, rfl, hl, hlen, hf⟩ := DataW.trod_struct Try.underlying97 h
  obtain ⟨c0, c1, c2, rfl⟩ := len3 (hl.trans cells_Event)
  obtain ⟨y0, y1, y2, rfl⟩ := len3 (hlen.trans rfl)
  obtain ⟨n0, e0, _, _⟩ := DataW.trod_int Try.underlying3 (hf 0 _ rfl)
  obtain ⟨l1, r1, _⟩ := opens_Vals _ _ _ _ _ _ _ _ _ (hf 1 _ rfl)
  obtain ⟨l2, r2, _⟩ := opens_Vars _ _ _ _ _ _ _ _ _ (hf 2 _ rfl)
  simp [cells_int, cells_Vals, cells_Vars] at e0 r1 r2
  subst e0
  exact ⟨⟨n0, l1, l2⟩, ⟨c1, c2, rfl, r1, r2⟩, bulk_one _⟩
theorem opens_Events : Opens 27 REvts (fun l => (l.map fun _ => 1).sum + 1) := opens_slice Try.underlying27 cells_Event (by omega) opens_Event

theorem opens_Outcome : Opens 30 ROut (fun _ => 1) := by
  intro H enc w base spare held fuel cs x h
  obtain ⟨xs, k, _, rfl, hl, hlen, hf⟩ := DataW.trod_struct Try.underlying30 h
  obtain ⟨c0, c1, c2, c3, c4, c5, c6, c7, rfl⟩ := len8 (hl.trans cells_Outcome)
  obtain ⟨y0, y1, y2, y3, y4, rfl⟩ := len5 (hlen.trans rfl)
  obtain ⟨n0, e0, _, _⟩ := DataW.trod_int Try.underlying3 (hf 0 _ rfl)
  obtain ⟨v1, ⟨e1, _⟩, _⟩ := opens_Val _ _ _ _ _ _ _ _ _ (hf 1 _ rfl)
  obtain ⟨l2, r2, _⟩ := opens_Events _ _ _ _ _ _ _ _ _ (hf 2 _ rfl)
  obtain ⟨l3, r3, _⟩ := opens_Vars _ _ _ _ _ _ _ _ _ (hf 3 _ rfl)
  obtain ⟨n4, e4, _, _⟩ := DataW.trod_int Try.underlying3 (hf 4 _ rfl)
  simp [cells_int, cells_Val, cells_Events, cells_Vars] at e0 e1 r2 r3 e4
  obtain ⟨rfl, rfl, rfl, rfl⟩ := e1
  subst e0 e4
  exact ⟨⟨n0, v1, l2, l3, n4⟩, ⟨c5, c6, rfl, r2, r3⟩, bulk_one _⟩

end Go.Proofs.Ytffklfalocamiaa
