/- The law IrFresh, walked. No condition. -/
import Derived.Test.YtffklfalocamiaaIrK
import Derived.Test.YtffklfalocamiaaIrH
namespace Go.Proofs.Ytffklfalocamiaa
open Go.RowKit

theorem names_of_defs {x : Ins} {r : Int} (h : defs x r = true) : names x r = true := by
  simp only [defs, Bool.and_eq_true] at h
  simp [names, h.1]
theorem mem_flatten_at {bs : List (List Ins)} {i j : Nat} {x : List Ins} {ins : Ins} (hx : bs[i]? = some x) (hi : x[j]? = some ins) : ins ∈ bs.flatten :=
  List.mem_flatten.2 ⟨x, List.mem_of_getElem? hx, List.mem_of_getElem? hi⟩
theorem no_def {bs : List (List Ins)} {r : Int} {i j : Nat} (h : namesL bs.flatten r = false) (hd : IsDef bs r i j) : False := by
  obtain ⟨x, ins, hx, hi, hd, _⟩ := hd
  have : namesL bs.flatten r = true := List.any_eq_true.2 ⟨ins, mem_flatten_at hx hi, names_of_defs hd⟩
  rw [h] at this; cases this
theorem no_uses : ∀ (l : List Ins) (r : Int), namesL l r = false → usesL l r = 0
  | [], _, _ => rfl
  | x :: l, r, h => by
    simp only [namesL, List.any_cons, Bool.or_eq_false_iff] at h
    have h1 := no_uses l r h.2
    have h2 : usesIn x.args r = 0 := by
      have := h.1
      simp only [names, Bool.or_eq_false_iff, List.any_eq_false, usesReg] at this
      unfold usesIn
      rw [List.length_eq_zero_iff, List.filter_eq_nil_iff]
      exact this.2
    simp only [usesL, List.map_cons, List.sum_cons] at *
    omega

/-- a slice of one function, in a new block -/
theorem one_fun {f : Fun} {c d : Value} {w : World} {B b : Nat} {t : TypeId} (hb : b < B) (hh : w.heap[b]? = some (.cells #[.string f.name, c, .int .i64 f.ret, d] t (0, 0))) (hf : RFun.rep w B [.string f.name, c, .int .i64 f.ret, d] f) :
    RFuns.rep w B [.slice (some ⟨b, 0, none⟩) 1 1] [f] :=
  slice_mk (xs := [f]) hb hh (Nat.le_refl _) (by unfold maxLen; simp) (fun i x hx => by
    have : i = 0 := by have := (List.getElem?_eq_some_iff.1 hx).1; simp at this; omega
    subst this
    injection hx with hx; subst hx
    exact ⟨_, rfl, hf, rfl⟩)

set_option maxHeartbeats 1600000 in
theorem law_fresh (f : Fun) (ca da : Value) (w : World) (h : RFun.rep w w.heap.size [.string f.name, ca, .int .i64 f.ret, da] f) (hsz : funSz f ≤ 1048576) :
    Calls Try.prog 7 #[f.v ca da] w fun e w' => e = .returned (.bool true) ∧ Below w.heap.size w w' := by
  obtain ⟨F, hFle, hF⟩ := fresh_exists f.blocks.flatten f.params.length
  have hpl := partsL_le_blks f.blocks
  have hal := argsL_le_partsL f.blocks.flatten
  unfold funSz at hsz
  have hF0 := hF.1
  obtain ⟨c, d, e, hp, hb, hw⟩ := h
  cases e
  obtain ⟨A1, k1, h1, hm1, -⟩ := Rp.slice1_at hp
  obtain ⟨A2, k2, h2, hm2, -⟩ := Rp.slice1_at hb
  cases h1; cases h2
  have RF : Hid (RFun.rep w w.heap.size [.string f.name, .slice A1 f.params.length k1, .int .i64 f.ret, .slice A2 f.blocks.length k2] f) := hide ⟨_, _, rfl, hp, hb, hw⟩
  replace hp := hide hp
  replace hb := hide hb
  replace hF := hide hF
  clear hw
  obtain ⟨W, hW, hwW, hWs, hx⟩ := boxes1 w #[.string f.name, .slice A1 f.params.length k1, .int .i64 f.ret, .slice A2 f.blocks.length k2] 41
  have x0 := hx 0 _ rfl
  have x1 := hx 1 _ rfl
  have x2 := hx 2 _ rfl
  have x3 := hx 3 _ rfl
  clear hx
  have hws : w.heap.size ≤ W.heap.size := by omega
  replace hWs := hide hWs
  go_enter Try.func7, Try.ntmps7
  go_wp2_with fail
  clear hW
  refine (lives02 W).mono ?_
  rintro e w1 ⟨rfl, b1⟩
  have b1a : ∀ o, Below W.heap.size W (w1.alloc o) := fun o => b1.alloc b1.size o
  have hrf : RFuns.rep (w1.alloc (.cells #[.string f.name, .slice A1 f.params.length k1, .int .i64 f.ret, .slice A2 f.blocks.length k2] 41)) (w1.heap.size + 1) [.slice (some ⟨w1.heap.size, 0, none⟩) 1 1] [f] :=
    one_fun (by omega) (box_top _ _) (RFun.later RF.out (hwW.trans ((b1a _).mono hws)) (by have := b1.size; omega))
  replace hrf := hide hrf
  go_wp2_with fail
  refine (few_any [] [] [f] _ _ _ _ _ (w1.heap.size + 1) (by simp) Rp.nil_rep Rp.nil_rep hrf.out).mono ?_
  rintro e w2 ⟨few, rfl, c2⟩
  have b2 := below_next (b1a _) (Nat.le_refl _) c2
  clear c2 hrf b1a
  cases few with
  | false =>
    go_wp2
    go_ret
    exact ⟨rfl, hwW.trans (b2.mono hws)⟩
  | true =>
  go_wp2_with fail
  refine (fresh_any f F _ _ _ w.heap.size (Nat.le_trans hws b2.size) (RInts.later hp.out (hwW.trans (b2.mono hws)) (Nat.le_refl _)) (RBlks.later hb.out (hwW.trans (b2.mono hws)) (Nat.le_refl _)) (by omega) hF.out (by omega)).mono ?_
  rintro e w3 ⟨rfl, c3⟩
  have b3 := below_next b2 (Nat.le_refl _) c3
  clear c3
  go_wp2_with fail
  refine (def_any f F _ _ _ w.heap.size (Nat.le_trans hws b3.size) (RInts.later hp.out (hwW.trans (b3.mono hws)) (Nat.le_refl _)) (RBlks.later hb.out (hwW.trans (b3.mono hws)) (Nat.le_refl _))).mono ?_
  rintro e w4 ⟨i, j, fd, rfl, c4, hfd, -⟩
  have b4 := below_next b3 (Nat.le_refl _) c4
  clear c4
  have hfd0 : fd = false := by
    cases fd with
    | false => rfl
    | true => exact (no_def hF.out.2.1 (hfd rfl)).elim
  subst hfd0
  clear hfd
  have b4a : ∀ o, Below W.heap.size W (w4.alloc o) := fun o => b4.alloc b4.size o
  have hge : (f.params.length : Int) ≤ (F : Int) := by omega
  have hge0 : (0 : Int) ≤ (F : Int) := by omega
  have hu : iuses f F = 0 := no_uses _ _ hF.out.2.1
  replace hu := hide hu
  go_wp2_with fail
  refine (uses_any f F _ _ _ w.heap.size (Nat.le_trans hws (b4a _).size) (RInts.later hp.out (hwW.trans ((b4a _).mono hws)) (Nat.le_refl _)) (RBlks.later hb.out (hwW.trans ((b4a _).mono hws)) (Nat.le_refl _)) (by omega)).mono ?_
  rw [hu.out]
  rintro e w5 ⟨rfl, c5⟩
  have b5 := below_next (b4a _) (Nat.le_refl _) c5
  go_wp2
  go_ret
  exact ⟨ret_bool (by simp), hwW.trans (b5.mono hws)⟩
end Go.Proofs.Ytffklfalocamiaa
