/- A map from places to numbers that the call makes. No condition. -/
import Derived.Test.YtidjaohlaljmpaaLoP
import Derived.Test.YtidjaohlaljmpaaOpen
import Derived.DeepKeys4
namespace Go.Proofs.Ytidjaohlaljmpaa
open Go.RowKit Go.Maps
set_option linter.unusedVariables false
set_option linter.unusedSimpArgs false

theorem place_row : (61 : TypeId) < Try.prog.types.size := of_decide_eq_true (by kernel_rfl)
theorem place_wide : (match Try.prog.underlying 61 with | some (.array _ _) | some (.struct _) => true | _ => false) = true := by kernel_rfl
theorem place_at : Try.prog.keyTypeAt 2 61 = true := by kernel_rfl
theorem place_deep : Try.prog.keyType 61 = true := by kernel_rfl
theorem place_cells : Try.prog.cellsOf 61 = 3 := by kernel_rfl
theorem int_cells : Try.prog.cellsOf 3 = 1 := by kernel_rfl
set_option maxRecDepth 100000 in
theorem place_keyed : Keyed Try.prog 61 := Keyed.of_law (deep_law_laid laidOut (m := 2) (by omega) place_row place_at place_wide)
abbrev plV (b i : Int) : Value := .agg #[.int .i64 0, .int .i64 b, .int .i64 i]
theorem lits_int (d : Nat) {z : Int} (h : (Lit.int .i64 z).wf = true) : Try.prog.keyLits (d + 1) 3 [.int .i64 z] = some [.int .i64 z] := by
  simp [Program.keyLits, Try.underlying3, h]
theorem place_key {b i : Int} (hb : (Lit.int .i64 b).wf = true) (hi : (Lit.int .i64 i).wf = true) : keyOf Try.prog 61 (plV b i) = some (.string (keyBytes [.int .i64 0, .int .i64 b, .int .i64 i])) := by
  have hs : Try.prog.types.size + 1 = (Try.prog.types.size - 1) + 1 + 1 := by have h : (61 : Nat) < Try.prog.types.size := place_row; omega
  have h0 : (Lit.int .i64 0).wf = true := by decide
  have hl : Try.prog.keyLits (Try.prog.types.size + 1) 61 [.int .i64 0, .int .i64 b, .int .i64 i] = some [.int .i64 0, .int .i64 b, .int .i64 i] := by
    rw [hs]
    unfold Program.keyLits
    simp [Try.underlying61, place_cells, int_cells, lits_int _ h0, lits_int _ hb, lits_int _ hi]
  have hf : (plV b i).formed Try.prog 61 = true := by simp [Value.formed, Try.underlying61, place_cells]
  unfold keyOf
  rw [Try.underlying61]
  simp only [place_deep, hf, Bool.and_self, if_true]
  show (Try.prog.keyLits _ _ [.int .i64 0, .int .i64 b, .int .i64 i]).map _ = _
  rw [hl]; rfl
def plL (b i : Int) : Lit := .string (keyBytes [.int .i64 0, .int .i64 b, .int .i64 i])
theorem plL_inj {b i c j : Int} (hb : (Lit.int .i64 b).wf = true) (hi : (Lit.int .i64 i).wf = true) (hc : (Lit.int .i64 c).wf = true) (hj : (Lit.int .i64 j).wf = true) (h : plL b i = plL c j) : b = c ∧ i = j := by
  have h1 := place_key hb hi
  have h2 := place_key hc hj
  have e := place_keyed.inj (h1.trans (congrArg some h)) h2
  simpa using e
/-- block M is a map of at most n entries: g b i at the place (b, i) of function 0 -/
def MPl (w : World) (M n : Nat) (g : Int → Int → Int) : Prop :=
  ∃ D : DataW Unit, w.ownsMap Try.prog 61 (plainElem Try.prog 3) M n D ∧ ∀ b i : Int, (Lit.int .i64 b).wf = true → (Lit.int .i64 i).wf = true → D.atKey (plL b i) (.lit (.int .i64 0)) = .lit (.int .i64 (g b i))
/-- the same from numbers to numbers -/
def MIn (w : World) (M n : Nat) (g : Int → Int) : Prop :=
  ∃ D : DataW Unit, w.ownsMap Try.prog 3 (plainElem Try.prog 3) M n D ∧ ∀ r : Int, D.atKey (.int .i64 r) (.lit (.int .i64 0)) = .lit (.int .i64 (g r))
section
variable {w w' : World} {M n : Nat} {g : Int → Int → Int} {q : Int → Int} {b i r x : Int}
theorem MPl.of_heap (h : MPl w M n g) (hb : w'.heap[M]? = w.heap[M]?) : MPl w' M n g := by
  obtain ⟨D, ⟨es, clock, h1, h2⟩, hq⟩ := h
  exact ⟨D, ⟨es, clock, hb.trans h1, h2⟩, hq⟩
theorem MPl.lt (h : MPl w M n g) : M < w.heap.size := by
  obtain ⟨D, h, _⟩ := h
  exact h.lt
theorem MPl.made (w : World) : MPl (w.alloc (.map #[] 0)) w.heap.size 0 (fun _ _ => 0) :=
  ⟨.map [], World.ownsMap_made _ _ _ _, fun b i _ _ => by simp [DataW.atKey]⟩
theorem MPl.look (h : MPl w M n g) (hb : (Lit.int .i64 b).wf = true) (hi : (Lit.int .i64 i).wf = true) :
    (Instr.lookup 58 (.map (some M)) (plV b i) false).run Try.prog w = .ok (.int .i64 (g b i)) w := by
  obtain ⟨D, h, hq⟩ := h
  obtain ⟨c, hrun, hat, _⟩ := h.lookup_int place_keyed Try.underlying58 Try.underlying3 (zero_int w) (place_key hb hi)
  have hc : DataW.lit (H := Unit) (.int .i64 (g b i)) = .lit (.int .i64 c) := (hq b i hb hi).symm.trans hat
  have hc' : g b i = c := by simpa using hc
  rw [hc']
  exact hrun
theorem MPl.store (h : MPl w M n g) (hn : n < maxLen) (hb : (Lit.int .i64 b).wf = true) (hi : (Lit.int .i64 i).wf = true) (hx : (Lit.int .i64 x).wf = true) :
    ∃ w', (Instr.mapUpdate 58 (.map (some M)) (plV b i) (.int .i64 x)).run Try.prog w = .ok () w' ∧ MPl w' M (n + 1) (fun c j => if c = b ∧ j = i then x else g c j) ∧ Only (fun k => k = M) w.heap.size w w' := by
  obtain ⟨D, h, hq⟩ := h
  obtain ⟨w', hrun, hown, hg⟩ := h.update place_keyed Try.underlying58 hn (place_key hb hi) (plainElem_int Try.underlying3 (a := x) hx)
  refine ⟨w', hrun, ⟨_, hown, fun c j hc hj => ?_⟩, ⟨hg.os, hg.tape, hg.output, hg.size, fun k hk hne => hg.block k hk (fun e => hne (by injection e))⟩⟩
  by_cases e : c = b ∧ j = i
  · obtain ⟨rfl, rfl⟩ := e
    show DataW.atKey (DataW.put D (plL c j) _) (plL c j) _ = _
    rw [Maps.atKey_put_same h.isMap (by simp [plL, WideAt.IsKeyLit])]
    simp
  · have hne : plL b i ≠ plL c j := fun h' => by
      obtain ⟨h1, h2⟩ := plL_inj hb hi hc hj h'
      exact e ⟨h1.symm, h2.symm⟩
    show DataW.atKey (DataW.put D (plL b i) _) (plL c j) _ = _
    rw [Maps.atKey_put_other (fun h' => hne h'.symm), hq c j hc hj]
    simp only [if_neg e]
theorem MIn.of_heap (h : MIn w M n q) (hb : w'.heap[M]? = w.heap[M]?) : MIn w' M n q := by
  obtain ⟨D, ⟨es, clock, h1, h2⟩, hq⟩ := h
  exact ⟨D, ⟨es, clock, hb.trans h1, h2⟩, hq⟩
theorem MIn.lt (h : MIn w M n q) : M < w.heap.size := by
  obtain ⟨D, h, _⟩ := h
  exact h.lt
theorem MIn.made (w : World) : MIn (w.alloc (.map #[] 0)) w.heap.size 0 (fun _ => 0) :=
  ⟨.map [], World.ownsMap_made _ _ _ _, fun r => by simp [DataW.atKey]⟩
theorem MIn.look (h : MIn w M n q) (hr : (Lit.int .i64 r).wf = true) :
    (Instr.lookup 59 (.map (some M)) (.int .i64 r) false).run Try.prog w = .ok (.int .i64 (q r)) w := by
  obtain ⟨D, h, hq⟩ := h
  obtain ⟨c, hrun, hat, _⟩ := h.lookup_int (int_keyed Try.underlying3) Try.underlying59 Try.underlying3 (zero_int w) (keyOf_int_mk Try.underlying3 hr)
  have hc : DataW.lit (H := Unit) (.int .i64 (q r)) = .lit (.int .i64 c) := (hq r).symm.trans hat
  have hc' : q r = c := by simpa using hc
  rw [hc']
  exact hrun
theorem MIn.store (h : MIn w M n q) (hn : n < maxLen) (hr : (Lit.int .i64 r).wf = true) (hx : (Lit.int .i64 x).wf = true) :
    ∃ w', (Instr.mapUpdate 59 (.map (some M)) (.int .i64 r) (.int .i64 x)).run Try.prog w = .ok () w' ∧ MIn w' M (n + 1) (fun c => if c = r then x else q c) ∧ Only (fun k => k = M) w.heap.size w w' := by
  obtain ⟨D, h, hq⟩ := h
  obtain ⟨w', hrun, hown, hg⟩ := h.update (int_keyed Try.underlying3) Try.underlying59 hn (keyOf_int_mk Try.underlying3 hr) (plainElem_int Try.underlying3 (a := x) hx)
  refine ⟨w', hrun, ⟨_, hown, fun c => ?_⟩, ⟨hg.os, hg.tape, hg.output, hg.size, fun k hk hne => hg.block k hk (fun e => hne (by injection e))⟩⟩
  by_cases e : c = r
  · subst e
    rw [Maps.atKey_put_same h.isMap (by simp [WideAt.IsKeyLit])]
    simp
  · rw [Maps.atKey_put_other (by intro h'; injection h' with _ h'; exact e h'), hq c]
    simp only [if_neg e]
end
end Go.Proofs.Ytidjaohlaljmpaa
