/- A map from int to slices that the call makes. No condition. -/
import Derived.Test.YtaljdbmmjgmbbaaMaps
namespace Go.Proofs.Ytaljdbmmjgmbbaa
open Go.RowKit Go.Maps

/-- a slice's header, as data -/
def hdr : Value → Option (DataW Unit × List MemPlace)
  | .slice none n c => some (.agg [.lit (.int .i64 (-1)), .lit (.int .i64 0), .lit (.int .i64 n), .lit (.int .i64 c)], [])
  | .slice (some ⟨b, o, none⟩) n c => some (.agg [.lit (.int .i64 b), .lit (.int .i64 o), .lit (.int .i64 n), .lit (.int .i64 c)], [])
  | _ => none
theorem hdr_inj {u v : Value} {z : DataW Unit} {p q : List MemPlace} (h : hdr u = some (z, p)) (k : hdr v = some (z, q)) : u = v := by
  unfold hdr at h k
  split at h
  · split at k
    · simp only [Option.some.injEq, Prod.mk.injEq] at h k
      have := h.1.trans k.1.symm
      simp at this
      (first | omega | (simp; omega) | simp_all)
    · simp only [Option.some.injEq, Prod.mk.injEq] at h k
      have := h.1.trans k.1.symm
      simp at this <;> omega
    · cases k
  · split at k
    · simp only [Option.some.injEq, Prod.mk.injEq] at h k
      have := h.1.trans k.1.symm
      simp at this <;> omega
    · simp only [Option.some.injEq, Prod.mk.injEq] at h k
      have := h.1.trans k.1.symm
      simp at this
      (first | omega | (simp; omega) | simp_all)
    · cases k
  · cases h
theorem hdr_nil : hdr (.slice none 0 0) = some (.agg [.lit (.int .i64 (-1)), .lit (.int .i64 0), .lit (.int .i64 0), .lit (.int .i64 0)], []) := rfl
def nilH : DataW Unit := .agg [.lit (.int .i64 (-1)), .lit (.int .i64 0), .lit (.int .i64 0), .lit (.int .i64 0)]
theorem hdr_places {v : Value} {z : DataW Unit} {p : List MemPlace} (h : hdr v = some (z, p)) : p = [] := by
  unfold hdr at h
  split at h <;> simp at h
  · exact h.2
  · exact h.2
theorem hdr_form {b o n c : Nat} : ∃ d, hdr (.slice (some ⟨b, o, none⟩) n c) = some (d, []) := ⟨_, rfl⟩

/-- block M is a map of at most n entries: the slice vals r at key r -/
def MVal (w : World) (M n : Nat) (vals : Int → Value) : Prop :=
  ∃ D : DataW Unit, w.ownsMap Try.prog 3 hdr M n D ∧ ∀ r : Int, hdr (vals r) = some (D.atKey (.int .i64 r) nilH, [])
section
variable {w w' : World} {M n n' : Nat} {vals vals' : Int → Value} {T E : TypeId}
theorem MVal.of_heap (h : MVal w M n vals) (hb : w'.heap[M]? = w.heap[M]?) : MVal w' M n vals := by
  obtain ⟨D, ⟨es, clock, h1, h2⟩, hq⟩ := h
  exact ⟨D, ⟨es, clock, hb.trans h1, h2⟩, hq⟩
theorem MVal.lt (h : MVal w M n vals) : M < w.heap.size := by
  obtain ⟨D, h, _⟩ := h
  exact h.lt
theorem MVal.is_map (h : MVal w M n vals) : ∃ es clock, w.heap[M]? = some (.map es clock) := by
  obtain ⟨D, ⟨es, clock, h1, -⟩, -⟩ := h
  exact ⟨es, clock, h1⟩
theorem MVal.congr (h : MVal w M n vals) (hq : ∀ r, vals r = vals' r) : MVal w M n vals' := by
  have : vals = vals' := funext hq
  exact this ▸ h
theorem MVal.mono (h : MVal w M n vals) (hn : n ≤ n') : MVal w M n' vals := by
  obtain ⟨D, h, hq⟩ := h
  exact ⟨D, h.mono hn, hq⟩
theorem MVal.made (w : World) : MVal (w.alloc (.map #[] 0)) w.heap.size 0 (fun _ => .slice none 0 0) :=
  ⟨.map [], World.ownsMap_made _ _ _ _, fun r => by simp [DataW.atKey, hdr_nil, nilH]⟩
theorem MVal.look (h : MVal w M n vals) (hT : Try.prog.underlying T = some (.map 3 E)) (hz : (zeroValue E).run Try.prog w = .ok (.slice none 0 0) w) {r : Int} (hr : (Lit.int .i64 r).wf = true) :
    (Instr.lookup T (.map (some M)) (.int .i64 r) false).run Try.prog w = .ok (vals r) w := by
  obtain ⟨D, h, hq⟩ := h
  obtain ⟨v, ps, hrun, hv⟩ := h.lookup (int_keyed Try.underlying3) hT hz hdr_nil (keyOf_int_mk Try.underlying3 hr)
  rw [hrun, hdr_inj hv (hq r)]
theorem MVal.store (h : MVal w M n vals) (hT : Try.prog.underlying T = some (.map 3 E)) (hn : n < maxLen) {r : Int} (hr : (Lit.int .i64 r).wf = true) {v : Value} {d : DataW Unit} {p : List MemPlace} (hv : hdr v = some (d, p)) :
    ∃ w', (Instr.mapUpdate T (.map (some M)) (.int .i64 r) v).run Try.prog w = .ok () w' ∧ MVal w' M (n + 1) (fun x => if x = r then v else vals x) ∧ Only (fun k => k = M) w.heap.size w w' := by
  obtain ⟨D, h, hq⟩ := h
  obtain ⟨w', hrun, hown, hg⟩ := h.update (int_keyed Try.underlying3) hT hn (keyOf_int_mk Try.underlying3 hr) hv
  refine ⟨w', hrun, ⟨_, hown, fun x => ?_⟩, ⟨hg.os, hg.tape, hg.output, hg.size, fun k hk hne => hg.block k hk (fun e => hne (by injection e))⟩⟩
  by_cases hx : x = r
  · subst hx
    show hdr (if x = x then v else vals x) = _
    rw [Maps.atKey_put_same h.isMap (by simp [WideAt.IsKeyLit]), if_pos rfl, hv, hdr_places hv]
  · show hdr (if x = r then v else vals x) = _
    rw [Maps.atKey_put_other (by intro e; injection e with _ e; exact hx e), hq x |>.symm, if_neg hx]
end
end Go.Proofs.Ytaljdbmmjgmbbaa
