/- What layer 9's arguments read as. No condition. -/
import Derived.Test.YtgkgmeofilkopaaOpen
import Derived.Test.YtgkgmeofilkopaaMmC
import Derived.Test.YtgkgmeofilkopaaBlZ
namespace Go.Proofs.Ytgkgmeofilkopaa
open Go.RowKit Go.ChangeShapes Go.WideShapes Go.Deep

/-- the numbers of a value lie within their kinds -/
structure VOk (x : Val) : Prop where
  kind : -9223372036854775808 ≤ x.kind ∧ x.kind ≤ 9223372036854775807
  bits : 0 ≤ x.bits ∧ x.bits ≤ 18446744073709551615
  block : -9223372036854775808 ≤ x.block ∧ x.block ≤ 9223372036854775807
  off : -9223372036854775808 ≤ x.off ∧ x.off ≤ 9223372036854775807
def RValu : Rp Val := .plain (fun x => [.int .i64 x.kind, .int .u64 x.bits, .int .i64 x.block, .int .i64 x.off]) VOk
theorem u8_of {n : Int} (h : (Lit.int .u8 n).wf = true) : 0 ≤ n ∧ n ≤ 255 := by
  simpa [Lit.wf, IntKind.min, IntKind.max, IntKind.bits, IntKind.signed] using h
theorem mcells_u64 : Try.prog.cellsOf 45 = 1 := by kernel_rfl
theorem mcells_i64 : Try.prog.cellsOf 2 = 1 := by kernel_rfl
theorem mcells_u8 : Try.prog.cellsOf 5 = 1 := by kernel_rfl
theorem mcells_Val : Try.prog.cellsOf 47 = 4 := by kernel_rfl
theorem mcells_Byte : Try.prog.cellsOf 54 = 5 := by kernel_rfl
theorem opens_Valu : Opens 47 RValu (fun _ => 1) := by
  intro H enc w base spare held fuel cs x h
  obtain ⟨xs, k, _, rfl, hl, hlen, hf⟩ := DataW.trod_struct Try.underlying47 h
  obtain ⟨c0, c1, c2, c3, rfl⟩ := len4 (hl.trans mcells_Val)
  obtain ⟨y0, y1, y2, y3, rfl⟩ := len4 (hlen.trans rfl)
  obtain ⟨n0, e0, _, w0⟩ := DataW.trod_int Try.underlying3 (hf 0 _ rfl)
  obtain ⟨n1, e1, _, w1⟩ := DataW.trod_int Try.underlying45 (hf 1 _ rfl)
  obtain ⟨n2, e2, _, w2⟩ := DataW.trod_int Try.underlying3 (hf 2 _ rfl)
  obtain ⟨n3, e3, _, w3⟩ := DataW.trod_int Try.underlying2 (hf 3 _ rfl)
  simp [cells_int, mcells_u64, mcells_i64] at e0 e1 e2 e3
  subst e0 e1 e2 e3
  exact ⟨⟨n0, n1, n2, n3⟩, ⟨rfl, i64_of w0, u64_of w1, i64_of w2, i64_of w3⟩, bulk_one _⟩
theorem opens_Byteu : Opens 54 RByu (fun _ => 1) := by
  intro H enc w base spare held fuel cs x h
  obtain ⟨xs, k, _, rfl, hl, hlen, hf⟩ := DataW.trod_struct Try.underlying54 h
  obtain ⟨c0, c1, c2, c3, c4, rfl⟩ := len5 (hl.trans mcells_Byte)
  obtain ⟨y0, y1, y2, y3, y4, rfl⟩ := len5 (hlen.trans rfl)
  obtain ⟨n0, e0, _, _⟩ := DataW.trod_int Try.underlying3 (hf 0 _ rfl)
  obtain ⟨n1, e1, _, w1⟩ := DataW.trod_int Try.underlying5 (hf 1 _ rfl)
  obtain ⟨n2, e2, _, _⟩ := DataW.trod_int Try.underlying3 (hf 2 _ rfl)
  obtain ⟨n3, e3, _, _⟩ := DataW.trod_int Try.underlying2 (hf 3 _ rfl)
  obtain ⟨n4, e4, _, _⟩ := DataW.trod_int Try.underlying3 (hf 4 _ rfl)
  simp [cells_int, mcells_u8, mcells_i64] at e0 e1 e2 e3 e4
  subst e0 e1 e2 e3 e4
  exact ⟨⟨n0, n1, n2, n3, n4⟩, ⟨rfl, u8_of w1⟩, bulk_one _⟩
theorem opens_Bytesu : Opens 48 (.slice 5 RByu) (fun l => (l.map fun _ => 1).sum + 1) := opens_slice Try.underlying48 mcells_Byte (by omega) opens_Byteu
end Go.Proofs.Ytgkgmeofilkopaa
