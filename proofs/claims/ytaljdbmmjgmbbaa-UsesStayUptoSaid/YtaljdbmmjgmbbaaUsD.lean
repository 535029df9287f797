/- uses.Clean, walked. No condition but sizes. -/
import Derived.Test.YtaljdbmmjgmbbaaUsC
import Derived.Test.YtaljdbmmjgmbbaaIcB
import Derived.Test.YtaljdbmmjgmbbaaSp
namespace Go.Proofs.Ytaljdbmmjgmbbaa
open Go.RowKit
set_option linter.unusedSimpArgs false
set_option linter.unusedVariables false

theorem cinfo_InstrU : (Try.prog.info? 44).map (fun i => (i.zero, i.size, i.bytes)) = some (some (.agg #[.int .i64 0, .int .i64 0, .int .i64 0, .int .i64 0, .int .i64 0, .slice none 0 0, .slice none 0 0]), 7, 88) := by kernel_rfl
theorem insC_one {x : Ins} {c d : Value} (hc : ∃ A n C, c = .slice A n C) (hd : ∃ A n C, d = .slice A n C) : ∀ v ∈ insC x c d, v.oneCell' = true := by
  obtain ⟨A, n, C, rfl⟩ := hc
  obtain ⟨A', n', C', rfl⟩ := hd
  simp [insC, Value.oneCell']
theorem set4U {w : World} {g : Nat} {a b c d x y z u : Value} {t : TypeId} (h : w.heap[g]? = some (.cells #[a, b, c, d] t (0, 0))) :
    ((((w.setCell ⟨g, 0, none⟩ x).setCell ⟨g, 1, none⟩ y).setCell ⟨g, 2, none⟩ z).setCell ⟨g, 3, none⟩ u).heap[g]? = some (.cells #[x, y, z, u] t (0, 0)) := by
  have h1 := set_heap (j := 0) (v := x) h
  have h2 := set_heap (j := 1) (v := y) h1
  have h3 := set_heap (j := 2) (v := z) h2
  have h4 := set_heap (j := 3) (v := u) h3
  simpa using h4
theorem set4_far {w : World} {g k : Nat} {x y z u : Value} (h : k ≠ g) : ((((w.setCell ⟨g, 0, none⟩ x).setCell ⟨g, 1, none⟩ y).setCell ⟨g, 2, none⟩ z).setCell ⟨g, 3, none⟩ u).heap[k]? = w.heap[k]? := by
  rw [Below.heap_setCell _ _ _ _ h, Below.heap_setCell _ _ _ _ h, Below.heap_setCell _ _ _ _ h, Below.heap_setCell _ _ _ _ h]
section
variable {w w' : World} {B n C : Nat} {A : Option Addr} {v : Value}
/-- an instruction's cells in an owned row -/
theorem OwnC.cells {l : List Ins} (h : OwnC w B (.slice A n C) l) {i : Nat} {x : Ins} (hi : l[i]? = some x) : ∃ g c d, A = some ⟨g, 0, none⟩ ∧ OwnV w B c x.args ∧ OwnI w B d x.to ∧ InsOk x ∧ B ≤ g ∧ g < w.heap.size ∧ ∀ (j : Nat) u, (insC x c d)[j]? = some u → w.cell? ⟨g, i * 7 + j, none⟩ = some u := by
  obtain ⟨ess, h1, h2, h3⟩ := h
  have hil := (List.getElem?_eq_some_iff.1 hi).1
  obtain ⟨es, hes⟩ : ∃ es, ess[i]? = some es := ⟨_, List.getElem?_eq_getElem (by omega)⟩
  obtain ⟨c, d, e, h4, h5, h6⟩ := h3 i es x hes hi
  rcases h2.2 with ⟨e0, h0⟩ | ⟨g, cap, cur, e0, hb, hh, _⟩
  · omega
  · simp only [Value.slice.injEq] at e0
    obtain ⟨rfl, rfl, rfl⟩ := e0
    refine ⟨g, c, d, rfl, h4, h5, h6, hb, (Array.getElem?_eq_some_iff.1 hh).1, fun j u hu => ?_⟩
    have hj := (List.getElem?_eq_some_iff.1 hu).1
    have hj7 : j < 7 := by simpa [insC] using hj
    rw [World.ownsRow.cellAt h2 (i * 7 + j) (by omega)]
    refine flatten_at (n := 7) (fun es hm => ?_) hes (e ▸ hu)
    obtain ⟨k, hk⟩ := List.mem_iff_getElem?.1 hm
    have hkl := (List.getElem?_eq_some_iff.1 hk).1
    obtain ⟨c', d', e', -⟩ := h3 k es _ hk (List.getElem?_eq_getElem (by omega))
    rw [e']; rfl
/-- a block's code in an owned row of blocks -/
theorem OwnK.at_ {bs : List (List Ins)} (h : OwnK w B (.slice A n C) bs) {b : Nat} {l : List Ins} (hb : bs[b]? = some l) : ∃ g c, A = some ⟨g, 0, none⟩ ∧ OwnC w B c l ∧ B ≤ g ∧ g < w.heap.size ∧ w.cell? ⟨g, b, none⟩ = some c ∧ w.frozen? ⟨g, b, none⟩ = false ∧ ∃ cs, w.heap[g]? = some (.cells cs 41 (0, 0)) := by
  obtain ⟨xs, h1, h2, h3⟩ := h
  have hil := (List.getElem?_eq_some_iff.1 hb).1
  obtain ⟨c, hc⟩ : ∃ c, xs[b]? = some c := ⟨_, List.getElem?_eq_getElem (by omega)⟩
  rcases h2.2 with ⟨e0, h0⟩ | ⟨g, cap, cur, e0, hbg, hh, _⟩
  · omega
  · simp only [Value.slice.injEq] at e0
    obtain ⟨rfl, rfl, rfl⟩ := e0
    refine ⟨g, c, rfl, h3 b c l hc hb, hbg, (Array.getElem?_eq_some_iff.1 hh).1, ?_, World.ownsRow.frozenAt h2 b, cur, hh⟩
    rw [World.ownsRow.cellAt h2 b (by omega)]
    exact hc
theorem OwnK.store {bs : List (List Ins)} {g : Nat} (h : OwnK w B (.slice (some ⟨g, 0, none⟩) n C) bs) {l : List Ins} (hv : OwnC w B v l) {j : Nat} (hj : j < bs.length) : OwnK (w.setCell ⟨g, j, none⟩ v) B (.slice (some ⟨g, 0, none⟩) n C) (bs.set j l) := by
  obtain ⟨xs, h1, h2, h3⟩ := h
  have hn : n = bs.length := by
    rcases h2.2 with ⟨e0, -⟩ | ⟨g', cap, cur, e0, _⟩
    · cases e0
    · simp only [Value.slice.injEq] at e0; exact e0.2.1
  subst hn
  have hs := (World.ownsRow.stored h2 j v).1
  have hbut := But.stored (j := j) (u := v) h2
  refine ⟨xs.set j v, by simp [h1], by rw [List.length_set]; exact hs, fun i x b hx hb => ?_⟩
  by_cases e : j = i
  · subst e
    rw [List.getElem?_set_self (by omega)] at hx
    rw [List.getElem?_set_self hj] at hb
    cases hx; cases hb
    exact hv.but hbut (by decide) (by decide) (by decide)
  · rw [List.getElem?_set_ne e] at hx hb
    exact (h3 i x b hx hb).but hbut (by decide) (by decide) (by decide)
theorem OwnC.formU {l : List Ins} (h : OwnC w B v l) : ∃ A C, v = .slice A l.length C := by
  obtain ⟨ess, h1, h2, h3⟩ := h
  exact row_form h2
theorem OwnK.formU {bs : List (List Ins)} (h : OwnK w B v bs) : ∃ A C, v = .slice A bs.length C := by
  obtain ⟨xs, h1, h2, h3⟩ := h
  exact row_form h2
end
/-- the first b rows cleaned -/
noncomputable def mixL (bs : List (List Ins)) (b : Nat) : List (List Ins) := (bs.take b).map (fun l => l.filter (needB bs.flatten)) ++ bs.drop b
theorem mixL_len (bs : List (List Ins)) (b : Nat) : (mixL bs b).length = bs.length := by unfold mixL; simp; omega
theorem mixL_zero (bs : List (List Ins)) : mixL bs 0 = bs := by simp [mixL]
theorem mixL_end (bs : List (List Ins)) : mixL bs bs.length = cleanL bs := by simp [mixL, cleanL]
theorem mixL_at {bs : List (List Ins)} {b : Nat} {l : List Ins} (h : bs[b]? = some l) : (mixL bs b)[b]? = some l := by
  have hb := (List.getElem?_eq_some_iff.1 h).1
  unfold mixL
  rw [List.getElem?_append_right (by simp; omega)]
  simp only [List.length_map, List.length_take]
  rw [Nat.min_eq_left (by omega), Nat.sub_self, List.getElem?_drop]
  exact h
theorem mixL_next {bs : List (List Ins)} {b : Nat} {l : List Ins} (h : bs[b]? = some l) : (mixL bs b).set b (l.filter (needB bs.flatten)) = mixL bs (b + 1) := by
  have hb := (List.getElem?_eq_some_iff.1 h).1
  unfold mixL
  rw [List.set_append_right _ _ (by simp; omega)]
  simp only [List.length_map, List.length_take]
  rw [Nat.min_eq_left (by omega), Nat.sub_self, take_snoc h, List.map_append, List.append_assoc]
  congr 1
  have e : bs.drop b = l :: bs.drop (b + 1) := by
    rw [List.drop_eq_getElem_cons hb]
    congr 1
    rw [List.getElem?_eq_getElem hb] at h
    exact Option.some.inj h
  rw [e, List.set_cons_zero]
  rfl
theorem filter_step {q : Ins → Bool} {l : List Ins} {i : Nat} {x : Ins} (h : l[i]? = some x) : (l.take (i + 1)).filter q = (l.take i).filter q ++ if q x = true then [x] else [] := by
  rw [take_snoc h, List.filter_append]
  congr 1
  by_cases hq : q x = true
  · rw [if_pos hq]; simp [hq]
  · rw [if_neg hq]; simp [hq]

set_option maxRecDepth 100000 in
set_option maxHeartbeats 12800000 in
theorem clean_any (f : Fun) (c1 c2 : Value) (w : World) (B : Nat) (hB : B ≤ w.heap.size) (hf : RFun.rep w B [.string f.name, c1, .int .i64 f.ret, c2] f) (hs : Small f) (hfl : f.blocks.flatten.length ≤ 2000000) :
    Calls Try.prog 32 #[f.v c1 c2] w (CopyPost (setBlocks f (cleanL f.blocks)) w) := by
  obtain ⟨hp, hb⟩ := fun_open (RFun.later hf (Below.refl _ _) hB)
  obtain ⟨A1, k1, h1, -, -⟩ := Rp.slice1_open hp
  obtain ⟨A2, k2, h2, -, -⟩ := Rp.slice1_open hb
  cases h1; cases h2
  clear hp hb
  obtain ⟨n, hn⟩ : ∃ n, Hid (n = f.blocks.length) := ⟨_, hide rfl⟩
  obtain ⟨np, hnp⟩ : ∃ n, Hid (n = f.params.length) := ⟨_, hide rfl⟩
  obtain ⟨len, hlen⟩ : ∃ len : Nat → Nat, Hid (len = fun b => (f.blocks.getD b []).length) := ⟨_, hide rfl⟩
  have hlenx : Hid (∀ (b : Nat) l, f.blocks[b]? = some l → len b = l.length) := hide (fun b l h => by rw [hlen.out]; show (f.blocks.getD b []).length = _; rw [getD_nil h])
  have hnle : n ≤ 2000000 := by rw [hn.out]; exact hs.blocks
  have hcode : Hid (∀ (b : Nat) l, f.blocks[b]? = some l → l.length ≤ 2000000) := hide (fun b l h => (hs.code l (List.mem_of_getElem? h)).1)
  rw [← hn.out, ← hnp.out] at hf ⊢
  obtain ⟨i0, hi0, hz0, hz1, hz2⟩ := cinfo_parts cinfo_InstrU
  replace hi0 := hide hi0
  replace hz0 := hide hz0
  replace hz1 := hide hz1
  replace hz2 := hide hz2
  obtain ⟨W, hW, hwW, hWs, hx, -⟩ := boxes2 w #[.string f.name, .slice A1 np k1, .int .i64 f.ret, .slice A2 n k2] #[.string ⟨#[]⟩, .slice none 0 0, .int .i64 0, .slice none 0 0] 25 25
  have hR1 : Hid (W.heap[w.heap.size]? = some (.cells #[.string f.name, .slice A1 np k1, .int .i64 f.ret, .slice A2 n k2] 25 (0, 0))) := hide (by rw [← hW]; exact box_under _ _ _)
  have hR2 : Hid (W.heap[w.heap.size + 1]? = some (.cells #[.string ⟨#[]⟩, .slice none 0 0, .int .i64 0, .slice none 0 0] 25 (0, 0))) := hide (by
    rw [← hW]
    have := box_top (w.alloc (.cells #[.string f.name, .slice A1 np k1, .int .i64 f.ret, .slice A2 n k2] 25)) (.cells #[.string ⟨#[]⟩, .slice none 0 0, .int .i64 0, .slice none 0 0] 25)
    simpa using this)
  have q0 : ∀ w', Below W.heap.size W w' → w'.cell? ⟨w.heap.size, 0, none⟩ = some (.string f.name) := hx 0 _ rfl
  have q1 : ∀ w', Below W.heap.size W w' → w'.cell? ⟨w.heap.size, 1, none⟩ = some (.slice A1 np k1) := hx 1 _ rfl
  have q2 : ∀ w', Below W.heap.size W w' → w'.cell? ⟨w.heap.size, 2, none⟩ = some (.int .i64 f.ret) := hx 2 _ rfl
  have q3 : ∀ w', Below W.heap.size W w' → w'.cell? ⟨w.heap.size, 3, none⟩ = some (.slice A2 n k2) := hx 3 _ rfl
  clear hx
  have hws : w.heap.size + 1 < W.heap.size := by omega
  replace hWs := hide hWs
  have hW2 := hide hW
  have hself := Below.refl W.heap.size W
  have hF : Hid (∀ w', Below W.heap.size W w' → RFun.rep w' w'.heap.size [.string f.name, .slice A1 np k1, .int .i64 f.ret, .slice A2 n k2] f) := hide (fun w' h => RFun.later hf ((hwW.trans (h.mono (by omega))).mono hB) (Nat.le_trans hB (hwW.trans (h.mono (by omega))).size))
  have cN : Hid (Calls Try.prog 71 #[f.v (.slice A1 np k1) (.slice A2 n k2)] W (NeededPost f.blocks W)) := hide (needed_any f _ _ W W.heap.size (Nat.le_refl _) (hF.out W hself) hs hfl)
  have cC : Hid (∀ w', Below W.heap.size W w' → Calls Try.prog 28 #[f.v (.slice A1 np k1) (.slice A2 n k2)] w' (CopyTree f w')) := hide (fun w' h => icopytree_any f _ _ w' w'.heap.size (Nat.le_refl _) (hF.out w' h) hs)
  replace hwW := hide hwW
  replace hs := hide hs
  clear hW hf
  go_enter Try.func32, Try.ntmps32
  go_upto_region 1 with (fail)
  rw [hW2.out]
  clear hW2
  go_wp2_with (fail)
  refine cN.out.mono ?_
  rintro e X ⟨g, gs, T, rfl, hT, hTb, hbX⟩
  rw [← hn.out, ← hlen.out] at hT
  rw [← hn.out]
  replace hT := hide hT
  replace hTb := hide hTb
  have hsX := hbX.size
  go_wp2_with (fail)
  refine (cC.out X hbX).mono ?_
  rintro e Y ⟨c, d, L, rfl, hOI, hcl, hOK, hL, hbY⟩
  have hWY := hbX.trans (hbY.mono hsX)
  have hsY := hbY.size
  obtain ⟨Ac, Cc, hcf⟩ := row_form hOI.row
  obtain ⟨Ad, Cd, hdf⟩ := OwnK2.form hOK
  rw [← hnp.out] at hcf
  rw [← hn.out] at hdf
  subst hcf; subst hdf
  have hK0 : OwnK Y X.heap.size (.slice Ad n Cd) f.blocks := by obtain ⟨xs, ess, h⟩ := hOK; exact (h.ownK).mono hL
  have hYN := (hWY.block w.heap.size (by omega)).trans hR1.out
  have hYN2 := (hWY.block (w.heap.size + 1) hws).trans hR2.out
  obtain ⟨r0, r1, r2, r3⟩ := box4 hYN
  have f0 := one_free (j := 0) hYN
  have f1 := one_free (j := 1) hYN
  have f2 := one_free (j := 2) hYN
  have f3 := one_free (j := 3) hYN
  have hbZ : Below w.heap.size w ((((Y.setCell ⟨w.heap.size, 0, none⟩ (.string f.name)).setCell ⟨w.heap.size, 1, none⟩ (.slice Ac np Cc)).setCell ⟨w.heap.size, 2, none⟩ (.int .i64 f.ret)).setCell ⟨w.heap.size, 3, none⟩ (.slice Ad n Cd)) := ((((hwW.out.trans (hWY.mono (by omega))).setCell (p := ⟨w.heap.size, 0, none⟩) (Nat.le_refl _) _).setCell (p := ⟨w.heap.size, 1, none⟩) (Nat.le_refl _) _).setCell (p := ⟨w.heap.size, 2, none⟩) (Nat.le_refl _) _).setCell (p := ⟨w.heap.size, 3, none⟩) (Nat.le_refl _) _
  have hZN := hide (set4U (x := .string f.name) (y := .slice Ac np Cc) (z := .int .i64 f.ret) (u := .slice Ad n Cd) hYN)
  have hZN2 := hide ((set4_far (w := Y) (x := .string f.name) (y := .slice Ac np Cc) (z := .int .i64 f.ret) (u := .slice Ad n Cd) (show w.heap.size + 1 ≠ w.heap.size by omega)).trans hYN2)
  have hfarZ : ∀ k, k ≠ w.heap.size → ((((Y.setCell ⟨w.heap.size, 0, none⟩ (.string f.name)).setCell ⟨w.heap.size, 1, none⟩ (.slice Ac np Cc)).setCell ⟨w.heap.size, 2, none⟩ (.int .i64 f.ret)).setCell ⟨w.heap.size, 3, none⟩ (.slice Ad n Cd)).heap[k]? = Y.heap[k]? := fun k hk => set4_far hk
  have hKZ := hide (hK0.kept fun k hk _ => hfarZ k (by omega))
  have hIZ := hide (hOI.kept fun k hk _ => hfarZ k (by omega))
  have hTZ := hide ((hT.out.below hbY).kept (w' := ((((Y.setCell ⟨w.heap.size, 0, none⟩ (.string f.name)).setCell ⟨w.heap.size, 1, none⟩ (.slice Ac np Cc)).setCell ⟨w.heap.size, 2, none⟩ (.int .i64 f.ret)).setCell ⟨w.heap.size, 3, none⟩ (.slice Ad n Cd))) fun k cs t hc ht => hfarZ k (fun e => by subst e; rw [hYN] at hc; cases hc; rcases ht with h | h <;> exact absurd h (by decide)))
  replace hYN := hide hYN
  replace hYN2 := hide hYN2
  clear hOI hOK hcl hL hK0 cN cC hT hfarZ q0 q1 q2 q3 hR1 hR2 hself
  have hlo : w.heap.size + 1 < X.heap.size := by omega
  replace hbX := hide hbX
  replace hbY := hide hbY
  replace hWY := hide hWY
  replace hF := hide hF
  go_upto_region 3 with (fail)
  obtain ⟨Z, hZ⟩ : ∃ Z, ((((Y.setCell ⟨w.heap.size, 0, none⟩ (.string f.name)).setCell ⟨w.heap.size, 1, none⟩ (.slice Ac np Cc)).setCell ⟨w.heap.size, 2, none⟩ (.int .i64 f.ret)).setCell ⟨w.heap.size, 3, none⟩ (.slice Ad n Cd)) = Z := ⟨_, rfl⟩
  rw [hZ] at hbZ hZN hZN2 hKZ hIZ hTZ ⊢
  clear hZ r0 r1 r2 r3 f0 f1 f2 f3
  obtain ⟨z0, z1, z2, z3⟩ := box4 hZN.out
  rw [← mixL_zero f.blocks] at hKZ
  go_wp2
  go_loopw [15] (fun s wr => ∃ b : Nat, s = .int .i64 b ∧ b ≤ n ∧ Hid (OwnI wr X.heap.size (.slice Ac np Cc) f.params) ∧ Hid (OwnK wr X.heap.size (.slice Ad n Cd) (mixL f.blocks b)) ∧ Hid (TabV wr W.heap.size g n len gs T n) ∧ Hid (wr.heap[w.heap.size]? = some (.cells #[.string f.name, .slice Ac np Cc, .int .i64 f.ret, .slice Ad n Cd] 25 (0, 0))) ∧ Hid (wr.heap[w.heap.size + 1]? = some (.cells #[.string ⟨#[]⟩, .slice none 0 0, .int .i64 0, .slice none 0 0] 25 (0, 0))) ∧ Below w.heap.size w wr) (fun s _ => n - (intOf s).toNat)
  case atStart => exact ⟨0, rfl, Nat.zero_le _, hIZ, hKZ, hTZ, hZN, hZN2, hbZ⟩
  case round =>
    clear hIZ hKZ hTZ hZN hZN2 hbZ z0 z1 z2 z3
    rename World => V
    obtain ⟨b, rfl, hb, hOI, hOK, hT, hN, hN2, hbel⟩ := hrel
    obtain ⟨z0, z1, z2, z3⟩ := box4 hN.out
    by_cases hlt : b < n
    · have hbi : (b : Int) < (n : Int) := by omega
      obtain ⟨x, hx⟩ := get_ex (l := f.blocks) (k := b) (by rw [← hn.out]; exact hlt)
      have hmix := mixL_at hx.out
      obtain ⟨gd, cx, rfl, hCx, hgd1, hgd2, rd, fd, csd, hcsd⟩ := hOK.out.at_ hmix
      obtain ⟨A3, C3, hcx⟩ := hCx.formU
      have hxl := hcode.out b x hx.out
      have hlb := hlenx.out b x hx.out
      subst hcx
      replace hcsd := hide hcsd
      replace hmix := hide hmix
      have hCxh := hide hCx
      have trow := hT.out.row (Nat.le_refl _) hlt
      rw [hlb] at trow
      have trowh : ∀ w', Below V.heap.size V w' → w'.cell? ⟨g, b, none⟩ = some (.slice (some ⟨gs b, 0, none⟩) x.length x.length) := fun w' h => (h.cell (p := ⟨g, b, none⟩) (hT.out.outer 0).2.2.2).trans trow
      have tcell : Hid (∀ i ins, x[i]? = some ins → ∀ w', Below V.heap.size V w' → w'.cell? ⟨gs b, i, none⟩ = some (.bool (needB f.blocks.flatten ins))) := hide (fun i ins h w' hb' => by
        have hi : i < len b := by rw [hlb]; exact (List.getElem?_eq_some_iff.1 h).1
        rw [hb'.cell (p := ⟨gs b, i, none⟩) (hT.out.lt hlt).2, (hT.out.cell hlt hi).1, hTb.out b i ins (insAt_of hx.out h)])
      have z3h : ∀ w', Below V.heap.size V w' → w'.cell? ⟨w.heap.size, 3, none⟩ = some (.slice (some ⟨gd, 0, none⟩) n Cd) := fun w' h => (h.cell (p := ⟨w.heap.size, 3, none⟩) (by have := (Array.getElem?_eq_some_iff.1 hN.out).1; exact this)).trans z3
      have rdh : ∀ w', Below V.heap.size V w' → w'.cell? ⟨gd, b, none⟩ = some (.slice A3 x.length C3) := fun w' h => (h.cell (p := ⟨gd, b, none⟩) hgd2).trans rd
      have fdh : ∀ w', Below V.heap.size V w' → w'.frozen? ⟨gd, b, none⟩ = false := fun w' h => (h.frozen (p := ⟨gd, b, none⟩) hgd2).trans fd
      have hselfV := Below.refl V.heap.size V
      have hXV : X.heap.size ≤ V.heap.size := by omega
      replace hlb := hide hlb
      clear hCx trow z0 z1 z2 z3 rd fd
      go_wp2
      go_loopw [25, 5] (fun s u5 wr => ∃ i : Nat, s = .int .i64 i ∧ i ≤ x.length ∧ Hid (OwnC wr X.heap.size u5 ((x.take i).filter (needB f.blocks.flatten))) ∧ Hid (∀ k, u5.ownBlock = some k → V.heap.size ≤ k) ∧ Below V.heap.size V wr) (fun s _ _ => x.length - (intOf s).toNat)
      case atStart => exact ⟨0, rfl, Nat.zero_le _, hide OwnC.nil_, hide (fun k h => by cases h), hselfV⟩
      case round =>
        rename World => wr
        rename_i u5
        clear hselfV
        obtain ⟨i, rfl, hi, hO5, hown5, hbelV⟩ := hrel
        by_cases hlt2 : i < x.length
        · have hii : (i : Int) < (x.length : Int) := by omega
          obtain ⟨ins, hins⟩ := get_ex (l := x) (k := i) hlt2
          obtain ⟨g3, ca, da, rfl, hva, hvd, hok, hg1, hg2, hcell⟩ := hCxh.out.cells hins.out
          obtain ⟨A5, k5, rfl⟩ := row_form hva.row
          obtain ⟨A6, k6, rfl⟩ := row_form hvd.row
          have hc : ∀ (j : Nat) u, (insC ins (.slice A5 ins.args.length k5) (.slice A6 ins.to.length k6))[j]? = some u → wr.cell? ⟨g3, i * 7 + j, none⟩ = some u := fun j u hu => (hbelV.cell (p := ⟨g3, i * 7 + j, none⟩) hg2).trans (hcell j u hu)
          have e0 := hc 0 _ rfl
          have e1 := hc 1 _ rfl
          have e2 := hc 2 _ rfl
          have e3 := hc 3 _ rfl
          have e4 := hc 4 _ rfl
          have e5 := hc 5 _ rfl
          have e6 := hc 6 _ rfl
          simp only [Nat.add_zero] at e0
          have tc := tcell.out i ins hins.out
          obtain ⟨N7w, hN7w, hwN7, hN7s, hzc⟩ := boxes1 wr #[.int .i64 ins.op, .int .i64 ins.reg, .int .i64 ins.ty, .int .i64 ins.num, .int .i64 ins.flags, .slice A5 ins.args.length k5, .slice A6 ins.to.length k6] 44
          have hbelZ := hbelV.trans (hwN7.mono hbelV.size)
          have y0 := hzc 0 _ rfl N7w (Below.refl _ _)
          have y1 := hzc 1 _ rfl N7w (Below.refl _ _)
          have y2 := hzc 2 _ rfl N7w (Below.refl _ _)
          have y3 := hzc 3 _ rfl N7w (Below.refl _ _)
          have y4 := hzc 4 _ rfl N7w (Below.refl _ _)
          have y5 := hzc 5 _ rfl N7w (Below.refl _ _)
          have y6 := hzc 6 _ rfl N7w (Below.refl _ _)
          have tc' := tc N7w hbelZ
          have hO7 := hide (hO5.out.kept (w' := N7w) fun k _ hk => hwN7.block k hk)
          have hst := filter_step (q := needB f.blocks.flatten) hins.out
          replace hN7w := hide hN7w
          replace hN7s := hide hN7s
          replace hva := hide hva
          replace hvd := hide hvd
          replace hok := hide hok
          clear hcell hc hzc tc
          obtain ⟨bq, hbq⟩ : ∃ bq : Bool, Hid (needB f.blocks.flatten ins = bq) := ⟨_, hide rfl⟩
          rw [hbq.out] at tc' hst
          cases bq with
          | false =>
            rw [if_neg (by simp), List.append_nil] at hst
            have hO8 : Hid (OwnC N7w X.heap.size u5 ((x.take (i + 1)).filter (needB f.blocks.flatten))) := hide (by rw [hst]; exact hO7.out)
            replace hst := hide hst
            replace hwN7 := hide hwN7
            go_upto_region 10 with (fail)
            rw [hN7w.out]
            clear hN7w
            go_wp2
            go_roundw
            case rel => exact ⟨i + 1, by go_num, hlt2, hO8, hown5, hbelZ⟩
            case measure => simp [intOf]; omega
          | true =>
            rw [if_pos rfl] at hst
            obtain ⟨xs7, hrow7, hmore⟩ := hO7.out.more
            obtain ⟨m7, hm7⟩ : ∃ m7, Hid (m7 = ((x.take i).filter (needB f.blocks.flatten)).length) := ⟨_, hide rfl⟩
            have hm7l : m7 ≤ 2000000 := by
              rw [hm7.out]
              exact Nat.le_trans (List.length_filter_le _ _) (Nat.le_trans (List.length_take_le' _ _) hxl)
            rw [← hm7.out] at hrow7 hmore
            have hva7 := hide (hva.out.kept (w' := N7w) fun k _ hk => hbelZ.block k hk)
            have hvd7 := hide (hvd.out.kept (w' := N7w) fun k _ hk => hbelZ.block k hk)
            have hsZ := hbelZ.size
            replace hst := hide hst
            replace hwN7 := hide hwN7
            replace hrow7 := hide hrow7
            replace hmore := hide hmore
            go_upto_region 10 with (fail)
            rw [hN7w.out]
            clear hN7w e0 e1 e2 e3 e4 e5 e6
            go_wp2_with (at_builtin
                         refine wpList_append_lies _ rfl (.tmp 37) (.tmp 39) _ rfl X.heap.size 44 i0 _ 7 88 Try.underlying39 hi0.out hz0.out hz1.out hz2.out rfl (by omega) u5 m7 xs7 rfl (hrow7.out.alloc _) ⟨N7w.heap.size, 0, none⟩ 1 1 (insC ins (.slice A5 ins.args.length k5) (.slice A6 ins.to.length k6)) rfl rfl ?c1 ?c2 (by omega) ?c3 ?c4 ?c5 (N7w.heap.size + 1) ?c6 ?_
                         case c1 => exact World.news_of_block (cs := (insC ins (.slice A5 ins.args.length k5) (.slice A6 ins.to.length k6)).toArray) (t := 44) (fr := (0, 0)) (heap_alloc_new N7w _)
                         case c2 => exact insC_one ⟨_, _, _, rfl⟩ ⟨_, _, _, rfl⟩
                         case c3 => unfold maxLen; omega
                         case c4 => omega
                         case c5 => simp; omega
                         case c6 => simp
                         intro gq cq w1 hown1 hg1 hgq hlt1
                         have hO8 := hide (hmore.out ins _ _ w1 _ hva7.out hvd7.out hok.out hown1 hg1)
                         have hbw1 : Below V.heap.size V w1 := (hbelZ.alloc hsZ _).grown hg1 (by simp; omega) (fun k hk => hown5.out k hk)
                         have hown8 : Hid (V.heap.size ≤ gq) := hide (by
                           rcases hgq with h | h
                           · exact hown5.out gq h
                           · omega)
                         replace hown1 := hide hown1
                         replace hg1 := hide hg1
                         replace hgq := hide hgq
                         replace hlt1 := hide hlt1)
            go_roundw
            case rel => exact ⟨i + 1, by go_num, hlt2, hide (by rw [hst.out]; exact hO8.out), hide (fun k h => by cases h; exact hown8.out), hbw1⟩
            case measure => simp [intOf]; omega
        · obtain rfl : i = x.length := by omega
          rw [List.take_length] at hO5
          obtain ⟨A8, C8, h8⟩ := hO5.out.formU
          subst h8
          have hOKr := hOK.out.kept (w' := wr) fun k _ hk => hbelV.block k hk
          have hst := hOKr.store hO5.out (j := b) (by rw [mixL_len, ← hn.out]; exact hlt)
          rw [mixL_next hx.out] at hst
          replace hst := hide hst
          have hcs2 := (hbelV.block gd hgd2).trans hcsd.out
          have hNr := (hbelV.block w.heap.size (Array.getElem?_eq_some_iff.1 hN.out).1).trans hN.out
          have hN2r := (hbelV.block (w.heap.size + 1) (Array.getElem?_eq_some_iff.1 hN2.out).1).trans hN2.out
          have hNn := hide ((setCell_heap_ne (p := ⟨gd, b, none⟩) (u := .slice A8 (x.filter (needB f.blocks.flatten)).length C8) hNr hcs2 (by decide)).trans hNr)
          have hN2n := hide ((setCell_heap_ne (p := ⟨gd, b, none⟩) (u := .slice A8 (x.filter (needB f.blocks.flatten)).length C8) hN2r hcs2 (by decide)).trans hN2r)
          have hIr := hOI.out.kept (w' := wr) fun k _ hk => hbelV.block k hk
          have hIn : Hid (OwnI (wr.setCell ⟨gd, b, none⟩ (.slice A8 (x.filter (needB f.blocks.flatten)).length C8)) X.heap.size (.slice Ac np Cc) f.params) := hide ⟨row_kept hIr.row fun k hk => by obtain ⟨-, -, c9, hc9⟩ := row_lt hIr.row hk; exact setCell_heap_ne hc9 hcs2 (by decide), hIr.ok⟩
          have hTr := hT.out.below hbelV
          have hTn := hide (hTr.kept (w' := wr.setCell ⟨gd, b, none⟩ (.slice A8 (x.filter (needB f.blocks.flatten)).length C8)) fun k c t hc ht => setCell_heap_ne hc hcs2 (by rcases ht with rfl | rfl <;> decide))
          have hbn := hide ((hbel.trans (hbelV.mono hbel.size)).setCell (p := ⟨gd, b, none⟩) (by show w.heap.size ≤ gd; omega) (.slice A8 (x.filter (needB f.blocks.flatten)).length C8))
          have hsr := hide hOKr
          replace hcs2 := hide hcs2
          replace hNr := hide hNr
          replace hN2r := hide hN2r
          replace hIr := hide hIr
          replace hTr := hide hTr
          clear hOKr
          go_wp2
          go_roundw
          case rel => exact ⟨b + 1, by go_num, hlt, hIn, hst, hTn, hNn, hN2n, hbn.out⟩
          case measure => simp [intOf]; omega
    · obtain rfl : b = n := by omega
      have hfin : Hid (OwnK V X.heap.size (.slice Ad b Cd) (cleanL f.blocks)) := hide (by have h := hOK.out; rw [hn.out, mixL_end, ← hn.out] at h; exact h)
      obtain ⟨s0, s1, s2, s3⟩ := box4 hN2.out
      have g0 := one_free (j := 0) hN2.out
      have g1 := one_free (j := 1) hN2.out
      have g2 := one_free (j := 2) hN2.out
      have g3 := one_free (j := 3) hN2.out
      have hbelh := hide hbel
      go_wp2
      refine bodyPost_ret (v := f.v (.slice Ac np Cc) (.slice Ad b Cd)) (by simp [results, Try.results32, go_sem, s0, s1, s2, s3, g0, g1, g2, g3]) rfl ⟨_, _, rfl, (hOI.out.kept fun k hk _ => set4_far (by omega)).mono (by omega), (hfin.out.kept fun k hk _ => set4_far (by omega)).mono (by omega), ?_⟩
      exact (((hbelh.out.setCell (p := ⟨w.heap.size + 1, 0, none⟩) (Nat.le_succ _) _).setCell (p := ⟨w.heap.size + 1, 1, none⟩) (Nat.le_succ _) _).setCell (p := ⟨w.heap.size + 1, 2, none⟩) (Nat.le_succ _) _).setCell (p := ⟨w.heap.size + 1, 3, none⟩) (Nat.le_succ _) _
end Go.Proofs.Ytaljdbmmjgmbbaa
