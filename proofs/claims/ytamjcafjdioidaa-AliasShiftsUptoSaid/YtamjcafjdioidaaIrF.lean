/- ir.Uses and its closure. No condition. | ir.Def's closure. No condition. -/
import Derived.Test.YtamjcafjdioidaaIrO
namespace Go.Proofs.Ytamjcafjdioidaa
open Go.RowKit

abbrev Is (N : Nat) : Nat → Prop := fun k => k = N

end Go.Proofs.Ytamjcafjdioidaa

namespace Go.Proofs.Ytamjcafjdioidaa
open Go.RowKit

abbrev Is2 (N M : Nat) : Nat → Prop := fun k => k = N ∨ k = M

set_option maxHeartbeats 800000 in
theorem def_step (i j : Nat) (ins : Ins) (reg : Int) (b o R N M : Nat) (es : List Value) (w : World) (B : Nat) (hB : B ≤ w.heap.size) (hNB : B ≤ N) (hMB : B ≤ M) (hN : N < w.heap.size) (hM : M < w.heap.size) (hNM : N ≠ M) (hRN : R ≠ N) (hRM : R ≠ M) (hR : R < w.heap.size)
    (hb : b < B) (hi : RIns.rep w B es ins) (hat : At w b o es) (hreg : w.cell? ⟨R, 0, none⟩ = some (.int .i64 reg))
    (hn : w.heap[N]? = some (.cells #[.int .i64 0, .int .i64 0, .int .i64 0] 56 (0, 0))) (hm : w.heap[M]? = some (.cells #[.bool false] 4 (0, 0))) :
    Calls Try.prog 81 #[.agg #[.int .i64 0, .int .i64 i, .int .i64 j], .pointer (some ⟨b, o, none⟩), .pointer (some ⟨R, 0, none⟩), .pointer (some ⟨N, 0, none⟩), .pointer (some ⟨M, 0, none⟩)] w fun e w' =>
      e = .returned (.bool (!defs ins reg)) ∧ Only (Is2 N M) w.heap.size w w' ∧
      (defs ins reg = false → w'.heap[N]? = some (.cells #[.int .i64 0, .int .i64 0, .int .i64 0] 56 (0, 0)) ∧ w'.heap[M]? = some (.cells #[.bool false] 4 (0, 0))) ∧
      (defs ins reg = true → w'.heap[N]? = some (.cells #[.int .i64 0, .int .i64 i, .int .i64 j] 56 (0, 0)) ∧ w'.heap[M]? = some (.cells #[.bool true] 4 (0, 0))) := by
  obtain ⟨d1, d2, rfl, ha, hto, _⟩ := hi
  obtain ⟨A1, k1, h1, -, -⟩ := Rp.slice_at ha
  obtain ⟨A2, k2, h2, -, -⟩ := Rp.slice1_at hto
  cases h1; cases h2
  have hS : ∀ k, Is2 N M k → B ≤ k := fun k hk => by rcases hk with hk | hk <;> rw [hk] <;> assumption
  replace hS := hide hS
  replace hn := hide hn
  replace hm := hide hm
  replace hreg := hide hreg
  obtain ⟨W, hW, hwW, hWs, hx⟩ := boxes1 w #[.int .i64 0, .int .i64 i, .int .i64 j] 56
  have hsz : w.heap.size ≤ W.heap.size := by omega
  have hnW : Hid (W.heap[N]? = some (.cells #[.int .i64 0, .int .i64 0, .int .i64 0] 56 (0, 0))) := hide ((hwW.block N hN).trans hn.out)
  have hmW : Hid (W.heap[M]? = some (.cells #[.bool false] 4 (0, 0))) := hide ((hwW.block M hM).trans hm.out)
  have hoc : OCells (Is2 N M) W.heap.size W b o _ := fun j u hu w' hw => (hat.ocells hS.out hb hB) j u hu w' ((Only.of_below hwW).trans (hw.mono hsz))
  obtain ⟨x0, x1, x2, x3, x4, x5, x6⟩ := hoc.seven
  have hvc : ∀ w', Only (Is2 N M) W.heap.size W w' → w'.cell? ⟨R, 0, none⟩ = some (.int .i64 reg) := fun w' h =>
    (h.cell (p := ⟨R, 0, none⟩) (by show R < W.heap.size; omega) (by show ¬ (R = N ∨ R = M); omega)).trans ((hwW.cell (p := ⟨R, 0, none⟩) (by show R < w.heap.size; omega)).trans hreg.out)
  have hbox : ∀ w', Only (Is2 N M) W.heap.size W w' → w'.cell? ⟨w.heap.size, 0, none⟩ = some (.int .i64 0) ∧ w'.cell? ⟨w.heap.size, 1, none⟩ = some (.int .i64 i) ∧ w'.cell? ⟨w.heap.size, 2, none⟩ = some (.int .i64 j) := fun w' h =>
    ⟨(h.cell (p := ⟨w.heap.size, 0, none⟩) (by show w.heap.size < W.heap.size; omega) (by show ¬ (w.heap.size = N ∨ w.heap.size = M); omega)).trans (hx 0 _ rfl W (Below.refl _ _)),
     (h.cell (p := ⟨w.heap.size, 1, none⟩) (by show w.heap.size < W.heap.size; omega) (by show ¬ (w.heap.size = N ∨ w.heap.size = M); omega)).trans (hx 1 _ rfl W (Below.refl _ _)),
     (h.cell (p := ⟨w.heap.size, 2, none⟩) (by show w.heap.size < W.heap.size; omega) (by show ¬ (w.heap.size = N ∨ w.heap.size = M); omega)).trans (hx 2 _ rfl W (Below.refl _ _))⟩
  have hself := (Only.refl (Is2 N M) W.heap.size W).drew
  have hselfN := (Only.refl (Is2 N M) W.heap.size W)
  have hNW : N < W.heap.size := by omega
  have hMW : M < W.heap.size := by omega
  have hww := Nat.le_refl W.heap.size
  clear hoc hat ha hto hx
  replace hbox := hide hbox
  cases hk : (ins.reg == reg) with
  | false =>
    have hd : Hid (defs ins reg = false) := hide (by simp [defs, hk])
    have m0 : W.cell? ⟨M, 0, none⟩ = some (.bool false) := one_cell hmW.out
    replace hWs := hide hWs
    go_enter Try.func81, Try.ntmps81
    go_wp2_with fail
    clear hW
    go_quiet (fail)
    go_wp2
    go_ret
    exact ⟨ret_bool (by rw [hd.out]; rfl), (Only.of_below hwW).trans ((hselfN.drewN _).mono hsz), fun _ => ⟨hnW.out, hmW.out⟩, fun h => by rw [hd.out] at h; cases h⟩
  | true =>
    cases hk2 : (iresult ins.op ins.ty != 0) with
    | false =>
      have hd : Hid (defs ins reg = false) := hide (by simp [defs, hk, hk2])
      replace hWs := hide hWs
      go_enter Try.func81, Try.ntmps81
      go_wp2_with fail
      clear hW
      go_region_held3 (fun w' => Only (Is2 N M) W.heap.size W w') (first | exact hself | exact Only.of_below hbW)
        (first | (go_at_call 82; refine (result_any ins _ _ _).mono ?_; rintro e w1 ⟨rfl, hcall⟩; have hbW : Below W.heap.size W w1 := ⟨hcall.os, hcall.tape, hcall.output, hcall.size, hcall.block⟩))
      have hbW2 := hbW
      have m0 := one_cell ((hbW2.block M hMW).trans hmW.out)
      have hN2 := hide ((hbW2.block N hNW).trans hnW.out)
      have hM2 := hide ((hbW2.block M hMW).trans hmW.out)
      go_wp2
      go_ret
      exact ⟨ret_bool (by rw [hd.out]; rfl), (Only.of_below hwW).trans ((Only.of_below hbW2).mono hsz), fun _ => ⟨hN2.out, hM2.out⟩, fun h => by rw [hd.out] at h; cases h⟩
    | true =>
      have hd : Hid (defs ins reg = true) := hide (by simp [defs, hk, hk2])
      replace hWs := hide hWs
      go_enter Try.func81, Try.ntmps81
      go_wp2_with fail
      clear hW
      go_region_held3 (fun w' => Only (Is2 N M) W.heap.size W w') (first | exact hself | exact Only.of_below hbW)
        (first | (go_at_call 82; refine (result_any ins _ _ _).mono ?_; rintro e w1 ⟨rfl, hcall⟩; have hbW : Below W.heap.size W w1 := ⟨hcall.os, hcall.tape, hcall.output, hcall.size, hcall.block⟩))
      have hbW2 := hbW
      obtain ⟨y0, y1, y2⟩ := hbox.out _ (Only.of_below hbW2)
      have hN2 := hide ((hbW2.block N hNW).trans hnW.out)
      have hM2 := hide ((hbW2.block M hMW).trans hmW.out)
      obtain ⟨n0, n1, n2⟩ := three_cells hN2.out
      have m0 := one_cell hM2.out
      have fM := one_free (j := 0) hM2.out
      have f0 := one_free (j := 0) hN2.out
      have f1 := one_free (j := 1) hN2.out
      have f2 := one_free (j := 2) hN2.out
      go_wp2
      go_ret
      refine ⟨ret_bool (by rw [hd.out]; rfl), (Only.of_below hwW).trans ((((((Only.of_below hbW2).setCell (.inl (.inl rfl)) _).setCell (.inl (.inl rfl)) _).setCell (.inl (.inl rfl)) _).setCell (.inl (.inr rfl)) _).mono hsz), (fun h => by rw [hd.out] at h; cases h), fun _ => ⟨?_, ?_⟩⟩
      · exact set_far (set_heap (j := 2) (set_heap (j := 1) (set_heap (j := 0) hN2.out))) hNM
      · exact set_heap (j := 0) (set_far (set_far (set_far hM2.out (Ne.symm hNM)) (Ne.symm hNM)) (Ne.symm hNM))

/-- what ir.Def answers: where the register is made first, if it is -/
def DefPost (f : Fun) (reg : Int) (w : World) (e : Ending) (w' : World) : Prop :=
  ∃ (i j : Nat) (fd : Bool), e = .returned (.tuple #[.agg #[.int .i64 0, .int .i64 i, .int .i64 j], .bool fd]) ∧ Below w.heap.size w w' ∧
      (fd = true → IsDef f.blocks reg i j) ∧ (fd = false → i = 0 ∧ j = 0 ∧ noDef f.blocks.flatten reg)

/-- ir.each's invariant for Def: nothing found so far; or it has stopped at the first -/
def DefInv (f : Fun) (reg : Int) (N M : Nat) (i j : Nat) (w : World) : Prop :=
  w.heap[N]? = some (.cells #[.int .i64 0, .int .i64 0, .int .i64 0] 56 (0, 0)) ∧ w.heap[M]? = some (.cells #[.bool false] 4 (0, 0)) ∧ noDef (before f.blocks i j) reg
def DefStop (f : Fun) (reg : Int) (N M : Nat) (w : World) : Prop :=
  ∃ i j : Nat, w.heap[N]? = some (.cells #[.int .i64 0, .int .i64 i, .int .i64 j] 56 (0, 0)) ∧ w.heap[M]? = some (.cells #[.bool true] 4 (0, 0)) ∧ IsDef f.blocks reg i j

set_option maxHeartbeats 800000 in
theorem def_any (f : Fun) (reg : Int) (c1 c2 : Value) (w : World) (B : Nat) (hB : B ≤ w.heap.size) (hp : RInts.rep w B [c1] f.params) (hb : RBlks.rep w B [c2] f.blocks) :
    Calls Try.prog 51 #[f.v c1 c2, .int .i64 reg] w (DefPost f reg w) := by
  obtain ⟨A1, k1, h1, hm1, -⟩ := Rp.slice1_at hp
  obtain ⟨A2, k2, h2, hm2, -⟩ := Rp.slice1_at hb
  cases h1; cases h2
  replace hp := hide hp
  replace hb := hide hb
  obtain ⟨W, hW, hwW, hWs, -, hr, hres, -, -⟩ := boxes5 w #[.string f.name, .slice A1 f.params.length k1, .int .i64 f.ret, .slice A2 f.blocks.length k2] #[.int .i64 reg] #[.int .i64 0, .int .i64 0, .int .i64 0] #[.int .i64 0, .int .i64 0, .int .i64 0] #[.bool false] 32 3 56 56 4
  have s3 : (((w.alloc (.cells #[.string f.name, .slice A1 f.params.length k1, .int .i64 f.ret, .slice A2 f.blocks.length k2] 32)).alloc (.cells #[.int .i64 reg] 3)).alloc (.cells #[.int .i64 0, .int .i64 0, .int .i64 0] 56)).heap.size = w.heap.size + 1 + 1 + 1 := by simp
  have s4 : ((((w.alloc (.cells #[.string f.name, .slice A1 f.params.length k1, .int .i64 f.ret, .slice A2 f.blocks.length k2] 32)).alloc (.cells #[.int .i64 reg] 3)).alloc (.cells #[.int .i64 0, .int .i64 0, .int .i64 0] 56)).alloc (.cells #[.int .i64 0, .int .i64 0, .int .i64 0] 56)).heap.size = w.heap.size + 1 + 1 + 1 + 1 := by simp
  have hN0 : W.heap[w.heap.size + 1 + 1 + 1]? = some (.cells #[.int .i64 0, .int .i64 0, .int .i64 0] 56) := by rw [← hW]; exact one_alloc (by rw [← s3]; exact box_top _ _) _
  have hM0 : W.heap[w.heap.size + 1 + 1 + 1 + 1]? = some (.cells #[.bool false] 4) := by rw [← hW]; rw [← s4]; exact box_top _ _
  have hr0 := hr 0 _ rfl W (Below.refl _ _)
  have hq0 := hres 0 _ rfl W (Below.refl _ _)
  have hq1 := hres 1 _ rfl W (Below.refl _ _)
  have hq2 := hres 2 _ rfl W (Below.refl _ _)
  have hqh : W.heap[w.heap.size + 1 + 1]? = some (.cells #[.int .i64 0, .int .i64 0, .int .i64 0] 56) := by
    rw [← hW]
    have s2 : ((w.alloc (.cells #[.string f.name, .slice A1 f.params.length k1, .int .i64 f.ret, .slice A2 f.blocks.length k2] 32)).alloc (.cells #[.int .i64 reg] 3)).heap.size = w.heap.size + 1 + 1 := by simp
    exact one_alloc (one_alloc (by rw [← s2]; exact box_top _ _) _) _
  clear hr hres s3 s4
  have hsz2 : w.heap.size ≤ W.heap.size := by omega
  have hcall := each_Def f _ _ (.pointer (some ⟨w.heap.size + 1, 0, none⟩)) (.pointer (some ⟨w.heap.size + 1 + 1 + 1, 0, none⟩)) (.pointer (some ⟨w.heap.size + 1 + 1 + 1 + 1, 0, none⟩)) (Is2 (w.heap.size + 1 + 1 + 1) (w.heap.size + 1 + 1 + 1 + 1))
    (DefInv f reg (w.heap.size + 1 + 1 + 1) (w.heap.size + 1 + 1 + 1 + 1)) (DefStop f reg (w.heap.size + 1 + 1 + 1) (w.heap.size + 1 + 1 + 1 + 1)) W w.heap.size hsz2 (fun k hk => by rcases hk with hk | hk <;> rw [hk] <;> omega)
    (RInts.later hp.out (hwW.mono hB) hB) (RBlks.later hb.out (hwW.mono hB) hB) (fun o => ⟨one_alloc hN0 o, one_alloc hM0 o, by rw [before_zero]; exact noDef_nil _⟩) (fun i x w1 hx h => ⟨h.1, h.2.1, by rw [← before_next hx]; exact h.2.2⟩)
    (fun i j x ins b o es w1 hx hi hw1 hb1 hes hri hat hinv => by
      have hs1 := hw1.size
      refine (def_step i j ins reg b o (w.heap.size + 1) (w.heap.size + 1 + 1 + 1) (w.heap.size + 1 + 1 + 1 + 1) es w1 w.heap.size (by omega) (by omega) (by omega) (by omega) (by omega) (by omega) (by omega) (by omega) (by omega) hb1 hri hat
        ((hw1.cell (p := ⟨w.heap.size + 1, 0, none⟩) (by show w.heap.size + 1 < W.heap.size; omega) (by show ¬ (w.heap.size + 1 = w.heap.size + 1 + 1 + 1 ∨ w.heap.size + 1 = w.heap.size + 1 + 1 + 1 + 1); omega)).trans hr0) hinv.1 hinv.2.1).mono ?_
      rintro e w2 ⟨rfl, h1, h2, h3⟩
      refine ⟨_, rfl, h1.more (fun k hk hs => ⟨hs, by rcases hs with hs | hs <;> rw [hs] <;> omega⟩), fun h => ?_, fun h => ?_⟩
      · have hd : defs ins reg = false := by simpa using h
        exact ⟨(h2 hd).1, (h2 hd).2, by rw [before_step hx hi]; exact noDef_snoc hinv.2.2 hd⟩
      · have hd : defs ins reg = true := by simpa using h
        exact ⟨i, j, (h3 hd).1, (h3 hd).2, x, ins, hx, hi, hd, hinv.2.2⟩)
  replace hcall := hide hcall
  replace hWs := hide hWs
  replace hN0 := hide hN0
  replace hM0 := hide hM0
  replace hqh := hide hqh
  clear hr0 hq0 hq1 hq2
  replace hW := hide hW
  go_enter Try.func51, Try.ntmps51
  go_wp2_with fail
  rw [hW.out]
  clear hW
  refine hcall.out.mono ?_
  rintro e w1 ⟨rfl, hw1, h1⟩
  have hb1 : Below w.heap.size w w1 := hwW.trans (hw1.to_below (fun k hk => by rcases hk with hk | hk <;> rw [hk] <;> omega) hsz2)
  have hq : w1.heap[w.heap.size + 1 + 1]? = some (.cells #[.int .i64 0, .int .i64 0, .int .i64 0] 56) := (hw1.block _ (by have := hWs.out; omega) (by show ¬ (w.heap.size + 1 + 1 = w.heap.size + 1 + 1 + 1 ∨ w.heap.size + 1 + 1 = w.heap.size + 1 + 1 + 1 + 1); omega)).trans hqh.out
  clear hcall hw1
  have key : ∃ (i j : Nat) (fd : Bool), w1.heap[w.heap.size + 1 + 1 + 1]? = some (.cells #[.int .i64 0, .int .i64 i, .int .i64 j] 56 (0, 0)) ∧ w1.heap[w.heap.size + 1 + 1 + 1 + 1]? = some (.cells #[.bool fd] 4 (0, 0)) ∧
      Hid ((fd = true → IsDef f.blocks reg i j) ∧ (fd = false → i = 0 ∧ j = 0 ∧ noDef f.blocks.flatten reg)) := by
    rcases h1 with ⟨a, b, c⟩ | ⟨i, j, a, b, c⟩
    · rw [before_end] at c
      exact ⟨0, 0, false, a, b, hide ⟨(fun h => by cases h), fun _ => ⟨rfl, rfl, c⟩⟩⟩
    · exact ⟨i, j, true, a, b, hide ⟨fun _ => c, (fun h => by cases h)⟩⟩
  clear h1
  obtain ⟨i, j, fd, kN, kM, hfin⟩ := key
  obtain ⟨n0, n1, n2⟩ := three_cells kN
  have m0 := one_cell kM
  obtain ⟨r0, r1, r2⟩ := three_cells hq
  have f0 := one_free (j := 0) hq
  have f1 := one_free (j := 1) hq
  have f2 := one_free (j := 2) hq
  replace kN := hide kN
  replace kM := hide kM
  replace hq := hide hq
  go_wp2
  go_region
  go_wp2
  refine bodyPost_ret (v := .tuple #[.agg #[.int .i64 0, .int .i64 i, .int .i64 j], .bool fd]) ?_ rfl ⟨i, j, fd, rfl, ?_, hfin.out⟩
  · obtain ⟨z0, z1, z2⟩ := three_cells (set_heap (j := 2) (v := .int .i64 j) (set_heap (j := 1) (v := .int .i64 i) (set_heap (j := 0) (v := .int .i64 0) hq.out)))
    simp [results, Try.results51, go_sem, z0, z1, z2]
  · exact (((hb1.setCell (by simp; omega) _).setCell (by simp; omega) _).setCell (by simp; omega) _).drew
end Go.Proofs.Ytamjcafjdioidaa
