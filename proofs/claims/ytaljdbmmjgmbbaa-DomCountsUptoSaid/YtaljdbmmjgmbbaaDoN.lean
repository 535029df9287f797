/- dom.Tree, and the law DomCounts, walked. No condition but sizes. -/
import Derived.Test.YtaljdbmmjgmbbaaDoG
import Derived.Test.YtaljdbmmjgmbbaaDoJ
import Derived.Test.YtaljdbmmjgmbbaaStq
import Derived.Test.YtaljdbmmjgmbbaaApn
namespace Go.Proofs.Ytaljdbmmjgmbbaa
open Go.RowKit
set_option linter.unusedSimpArgs false
set_option linter.unusedVariables false

/-- the first b blocks' children of t -/
def childAt (l : List Int) (t b : Nat) : List Int := ((List.range b).filter fun x => decide (l[x]? = some (t : Int))).map Int.ofNat
def treeL (l : List Int) (n b : Nat) : List (List Int) := (List.range n).map fun t => childAt l t b
theorem treeL_len (l : List Int) (n b : Nat) : (treeL l n b).length = n := by simp [treeL]
theorem treeL_at (l : List Int) {n b t : Nat} (h : t < n) : (treeL l n b)[t]? = some (childAt l t b) := by simp [treeL, h]
theorem child_step (l : List Int) (t b : Nat) : childAt l t (b + 1) = childAt l t b ++ (if l[b]? = some (t : Int) then [(b : Int)] else []) := by
  unfold childAt
  rw [List.range_succ, List.filter_append, List.map_append]
  by_cases h : l[b]? = some (t : Int)
  · simp [h]
  · simp [h]
theorem child_len (l : List Int) (t : Nat) : ∀ b, (childAt l t b).length ≤ b
  | 0 => by simp [childAt]
  | b + 1 => by rw [child_step, List.length_append]; have := child_len l t b; split <;> simp <;> omega
theorem child_mem {l : List Int} {t b : Nat} {x : Int} : x ∈ childAt l t b ↔ ∃ k : Nat, x = k ∧ k < b ∧ l[k]? = some (t : Int) := by
  unfold childAt
  simp only [List.mem_map, List.mem_filter, List.mem_range, decide_eq_true_eq]
  exact ⟨fun ⟨k, ⟨h1, h2⟩, h3⟩ => ⟨k, h3.symm, h1, h2⟩, fun ⟨k, h1, h2, h3⟩ => ⟨k, ⟨h2, h3⟩, h1.symm⟩⟩
theorem child_sorted (l : List Int) (t : Nat) : ∀ b, (childAt l t b).Pairwise (· < ·)
  | 0 => by simp [childAt]
  | b + 1 => by
    rw [child_step, List.pairwise_append]
    refine ⟨child_sorted l t b, by split <;> simp, fun x hx y hy => ?_⟩
    obtain ⟨k, rfl, h1, -⟩ := child_mem.1 hx
    split at hy
    · rw [List.mem_singleton.1 hy]; omega
    · cases hy
theorem tree_start (l : List Int) (n : Nat) : treeL l n 0 = List.replicate n [] := by
  refine List.ext_getElem? fun k => ?_
  by_cases h : k < n
  · rw [treeL_at _ h, List.getElem?_replicate, if_pos h]; simp [childAt]
  · rw [List.getElem?_eq_none (by rw [treeL_len]; omega), List.getElem?_eq_none (by simp; omega)]
theorem tree_step {l : List Int} {n b t : Nat} (ht : t < n) (hb : l[b]? = some (t : Int)) : (treeL l n b).set t (childAt l t b ++ [(b : Int)]) = treeL l n (b + 1) := by
  refine List.ext_getElem? fun k => ?_
  by_cases h : k < n
  · rw [treeL_at _ h, child_step]
    by_cases e : t = k
    · subst e
      rw [List.getElem?_set_self (by rw [treeL_len]; exact h), if_pos hb]
    · rw [List.getElem?_set_ne e, treeL_at _ h, if_neg (by rw [hb]; intro e2; have := Option.some.inj e2; omega), List.append_nil]
  · rw [List.getElem?_eq_none (by rw [List.length_set, treeL_len]; omega), List.getElem?_eq_none (by rw [treeL_len]; omega)]
theorem tree_skip {l : List Int} {n b : Nat} {u : Int} (hb : l[b]? = some u) (hu : u < 0) : treeL l n (b + 1) = treeL l n b := by
  refine List.ext_getElem? fun k => ?_
  by_cases h : k < n
  · rw [treeL_at _ h, treeL_at _ h, child_step, if_neg (by rw [hb]; intro e2; have := Option.some.inj e2; omega), List.append_nil]
  · rw [List.getElem?_eq_none (by rw [treeL_len]; omega), List.getElem?_eq_none (by rw [treeL_len]; omega)]
def TreePost (sc : Int → List Int) (o : List Int) (n : Nat) (w : World) (e : Ending) (w' : World) : Prop := ∃ g cs l, e = .returned (.slice (some ⟨g, 0, none⟩) n n) ∧ IdomOk sc o n l ∧ OwnL w' w.heap.size none (.slice (some ⟨g, 0, none⟩) n n) (treeL l n n) cs ∧ Below w.heap.size w w'
set_option maxRecDepth 100000 in
set_option maxHeartbeats 6400000 in
theorem tree_any (f : Fun) (c1 c2 : Value) (w : World) (B : Nat) (hB : B ≤ w.heap.size) (hf : RFun.rep w B [.string f.name, c1, .int .i64 f.ret, c2] f) (hs : Small f) :
    Calls Try.prog 50 #[f.v c1 c2] w (TreePost (succsF f.blocks) (orderF f.blocks) f.blocks.length w) := by
  obtain ⟨hp, hb⟩ := fun_open (RFun.later hf (Below.refl _ _) hB)
  obtain ⟨A1, k1, h1, -, -⟩ := Rp.slice1_open hp
  obtain ⟨A2, k2, h2, hm2, -⟩ := Rp.slice1_open hb
  cases h1; cases h2
  clear hp hb
  obtain ⟨n, hn⟩ : ∃ n, Hid (n = f.blocks.length) := ⟨_, hide rfl⟩
  have hnle : n ≤ 2000000 := by rw [hn.out]; exact hs.blocks
  obtain ⟨O, hO⟩ : ∃ O, Hid (O = orderF f.blocks) := ⟨_, hide rfl⟩
  obtain ⟨sc, hsc⟩ : ∃ sc, Hid (sc = succsF f.blocks) := ⟨_, hide rfl⟩
  obtain ⟨R, hR⟩ : ∃ R, Hid (R = reachF f.blocks) := ⟨_, hide rfl⟩
  obtain ⟨P, hP⟩ : ∃ P, Hid (P = predsL sc n) := ⟨_, hide rfl⟩
  have hPl : P.length = n := by rw [hP.out, predsL_len]
  have hRl : R.length = n := by rw [hR.out, hn.out, reach_len]
  have hsok : Hid (∀ b, SuccOk n (sc b)) := hide (fun b => by rw [hsc.out, hn.out]; exact succsF_ok _ _)
  have hok : Hid (OrderOk n sc O) := hide (by rw [hO.out, hn.out, hsc.out]; exact order_ok _)
  have hol : O.length ≤ n := by rw [hO.out, hn.out]; exact order_len _
  have hRat : Hid (∀ k : Nat, k < n → R[k]? = some (decide ((k : Int) ∈ O))) := hide (fun k hk => by rw [hR.out, hO.out]; exact reach_at _ _ (by rw [← hn.out]; exact hk))
  rw [← hn.out, ← hO.out, ← hsc.out]
  rw [← hn.out] at hf hm2
  obtain ⟨W, hW, hwW, hWs, hx⟩ := boxes1 w #[.string f.name, .slice A1 f.params.length k1, .int .i64 f.ret, .slice A2 n k2] 25
  have q0 : ∀ w', Below W.heap.size W w' → w'.cell? ⟨w.heap.size, 0, none⟩ = some (.string f.name) := hx 0 _ rfl
  have q1 : ∀ w', Below W.heap.size W w' → w'.cell? ⟨w.heap.size, 1, none⟩ = some (.slice A1 f.params.length k1) := hx 1 _ rfl
  have q2 : ∀ w', Below W.heap.size W w' → w'.cell? ⟨w.heap.size, 2, none⟩ = some (.int .i64 f.ret) := hx 2 _ rfl
  have q3 : ∀ w', Below W.heap.size W w' → w'.cell? ⟨w.heap.size, 3, none⟩ = some (.slice A2 n k2) := hx 3 _ rfl
  clear hx
  have hws : w.heap.size ≤ W.heap.size := by omega
  replace hWs := hide hWs
  have hself := Below.refl W.heap.size W
  have hF : Hid (∀ w', Below W.heap.size W w' → RFun.rep w' w'.heap.size [.string f.name, .slice A1 f.params.length k1, .int .i64 f.ret, .slice A2 n k2] f) := hide (fun w' h => RFun.later hf ((hwW.trans (h.mono hws)).mono hB) (Nat.le_trans hB (hwW.trans (h.mono hws)).size))
  have cI : Hid (∀ w', Below W.heap.size W w' → Calls Try.prog 40 #[f.v (.slice A1 f.params.length k1) (.slice A2 n k2)] w' (IdomPost sc O n w')) := hide (fun w' h => by
    have := idom_any f (.slice A1 f.params.length k1) (.slice A2 n k2) w' w'.heap.size (Nat.le_refl _) (hF.out w' h) hs
    rwa [← hn.out, ← hO.out, ← hsc.out] at this)
  replace hs := hide hs
  replace hf := hide hf
  replace hwW := hide hwW
  obtain ⟨i0, hi0, hz0, hz1, hz2⟩ := cinfo_parts cinfo_int
  obtain ⟨b0, hb0, hx0, hx1, hx2⟩ := cinfo_parts cinfo_ints
  replace hi0 := hide hi0
  replace hz0 := hide hz0
  replace hz1 := hide hz1
  replace hz2 := hide hz2
  replace hb0 := hide hb0
  replace hx0 := hide hx0
  replace hx1 := hide hx1
  replace hx2 := hide hx2
  go_enter Try.func50, Try.ntmps50
  go_wp2_with (at_make; refine wpList_make_full _ rfl (.tmp 8) (.tmp 8) _ rfl W.heap.size 22 b0 _ 1 Try.underlying67 hb0.out hx0.out hx1.out .i64 .i64 n n n rfl rfl rfl rfl ?c1 ?c2 (Nat.le_refl _) ?_)
  case c1 => rw [hx2.out]; omega
  case c2 => unfold maxLen; omega
  intro w1 hown1 hg1
  have hbel1 := below_grown0 hg1
  have hmk1 := hide (OwnL.start (made_rows hown1))
  clear hg1 hown1
  have hs1 := hbel1.size
  go_wp2_with (fail)
  refine (cI.out _ hbel1).mono ?_
  rintro e X ⟨gl, l, rfl, hI, hN, hb2⟩
  have hI' := hide hI
  have hll := hN.len
  have hin : Hid (∀ x, x ∈ l → -1 ≤ x ∧ x < n) := hide (hI.ok hok.out)
  have hgl : Hid (w1.heap.size ≤ gl) := hide hN.lt.1
  have hX : Hid (∃ cs, OwnL X W.heap.size (some gl) (.slice (some ⟨W.heap.size, 0, none⟩) n n) (treeL l n 0) cs) := hide ⟨_, by
    rw [tree_start]
    exact (hmk1.out.no_ (fun k hk => by cases hk; exact hgl.out)).below hb2⟩
  have hN' : Hid (OwnN X W.heap.size gl n l) := hide (hN.mono hs1)
  have hbel2 := hbel1.trans (hb2.mono hs1)
  clear hI hN hb2 hmk1 hbel1 hs1 cI q0 q1 q2 q3 hself
  go_wp2
  go_loopw [13] (fun j wr => ∃ b : Nat, j = .int .i64 b ∧ b ≤ n ∧ Hid (∃ cs, OwnL wr W.heap.size (some gl) (.slice (some ⟨W.heap.size, 0, none⟩) n n) (treeL l n b) cs) ∧ Hid (OwnN wr W.heap.size gl n l) ∧ Below W.heap.size W wr) (fun i _ => n - (intOf i).toNat)
  case atStart => exact ⟨0, rfl, Nat.zero_le _, hX, hN', hbel2⟩
  case round =>
    clear hX hN' hbel2
    obtain ⟨b, rfl, hb, hrow, hou, hbel⟩ := hrel
    by_cases hlt : b < n
    · have hbi : (b : Int) < (n : Int) := by omega
      obtain ⟨u, hu⟩ := get_ex (l := l) (k := b) (by omega)
      obtain ⟨hu1, hu2⟩ := hin.out u (List.mem_of_getElem? hu.out)
      have r0 := hou.out.cell hu.out
      by_cases hu0 : u < 0
      · have hnext : Hid (∃ cs, OwnL wr W.heap.size (some gl) (.slice (some ⟨W.heap.size, 0, none⟩) n n) (treeL l n (b + 1)) cs) := hide (by
          obtain ⟨cs, h⟩ := hrow.out
          rw [← tree_skip hu.out hu0] at h
          exact ⟨cs, h⟩)
        go_wp2
        go_roundw
        case rel => exact ⟨b + 1, by go_num, hlt, hnext, hou, hbel⟩
        case measure => simp [intOf]; omega
      · obtain ⟨tn, hte⟩ := Int.eq_ofNat_of_zero_le (by omega : 0 ≤ u)
        subst hte
        have htn : tn < n := by omega
        obtain ⟨cs, hcs⟩ := hrow.out
        obtain ⟨p, hpe⟩ : ∃ p, Hid (p = childAt l tn b) := ⟨_, hide rfl⟩
        have hp : Hid ((treeL l n b)[tn]? = some p) := hide (by rw [treeL_at _ htn, hpe.out])
        obtain ⟨c, hc, hcp⟩ := hcs.at_ hp.out
        obtain ⟨Ap, kp, rfl⟩ := row_form hcp.row
        have hpl : p.length ≤ n := by have := child_len l tn b; rw [hpe.out]; omega
        have hrw := hcs.row
        rw [treeL_len] at hrw
        have r1 : wr.cell? ⟨W.heap.size, tn, none⟩ = some (.slice Ap p.length kp) := by rw [World.ownsRow.cellAt hrw tn (by omega)]; exact hc
        have hbI : Hid (I64 b) := hide (i64_mk (by omega) (by omega))
        have hgs : Hid (gl < wr.heap.size) := hide hou.out.lt.2
        have hnx : Hid ((treeL l n b).set tn (p ++ [(b : Int)]) = treeL l n (b + 1)) := hide (by rw [hpe.out]; exact tree_step htn hu.out)
        replace hrw := hide hrw
        replace hcp := hide hcp
        replace hcs := hide hcs
        replace hc := hide hc
        clear hrow
        have hbs := hbel.size
        go_wp2_with (first
        | (at_builtin
           refine wpList_append_lies _ rfl (.tmp 25) (.tmp 27) _ rfl W.heap.size 3 i0 _ 1 8 Try.underlying22 hi0.out hz0.out hz1.out hz2.out rfl (by omega) (.slice Ap p.length kp) _ _ rfl (hcp.out.row.alloc _) ⟨wr.heap.size, 0, none⟩ 1 1 [.int .i64 b] rfl rfl ?c1 ?c2 (by omega) ?c3 ?c4 ?c5 (wr.heap.size + 1) ?c6 ?_
           case c1 => exact World.news_of_block (cs := #[.int .i64 b]) (t := 3) (fr := (0, 0)) (heap_alloc_new wr _)
           case c2 => simp [Value.oneCell']
           case c3 => unfold maxLen; omega
           case c4 => omega
           case c5 => first | (simp; omega) | simp | omega
           case c6 => simp
           intro gq cq w1 hown1 hg1 hgq hlt1
           have hbw1 : Below W.heap.size W w1 := (hbel.alloc hbs _).grown hg1 (by simp; omega) (fun k hk => (row_lt hcp.out.row hk).1)
           have hbut := But.grown hcp.out.row hg1
           have hL := hide (OwnL.app hcs.out hp.out hc.out hbI.out (fun k hk => by cases hk; exact hgs.out) hown1 hg1 hgq (treeL_len ..).symm)
           have hrw1 := hbut.row (by decide) hrw.out
           have fz1 : w1.frozen? ⟨W.heap.size, tn, none⟩ = false := World.ownsRow.frozenAt hrw1 tn
           have rz1 : w1.cell? ⟨W.heap.size, tn, none⟩ = some (.slice Ap p.length kp) := by rw [World.ownsRow.cellAt hrw1 tn (by omega)]; exact hc.out
           have hou1 : Hid (OwnN w1 W.heap.size gl n l) := hide (hou.out.keep (by
             rw [hg1.block gl (by have := hgs.out; simp; omega) (fun e => hcs.out.far tn _ gl hc.out rfl e.symm)]
             exact Below.heap_alloc wr _ gl hgs.out))
           have hbw2 := hide (hbw1.setCell (p := ⟨W.heap.size, tn, none⟩) (Nat.le_refl _) (.slice (some ⟨gq, 0, none⟩) (p.length + 1) cq))
           have hou2 : Hid (OwnN (w1.setCell ⟨W.heap.size, tn, none⟩ (.slice (some ⟨gq, 0, none⟩) (p.length + 1) cq)) W.heap.size gl n l) := hide ((But.stored (j := tn) (u := .slice (some ⟨gq, 0, none⟩) (p.length + 1) cq) hrw1).row (by decide) hou1.out)
           replace hrw1 := hide hrw1
           replace hown1 := hide hown1
           replace hg1 := hide hg1
           replace hbut := hide hbut
           replace hgq := hide hgq
           replace hlt1 := hide hlt1))
        go_roundw
        case rel => exact ⟨b + 1, by go_num, hlt, hide ⟨_, by have := hL.out; rwa [hnx.out] at this⟩, hou2, hbw2.out⟩
        case measure => simp [intOf]; omega
    · obtain rfl : b = n := by omega
      go_wp2
      go_ret
      obtain ⟨cs, h⟩ := hrow.out
      exact ⟨W.heap.size, cs, l, rfl, hI'.out, h.none_.mono hws, hwW.out.trans (hbel.mono hws)⟩

/-- has block x been met, ahead of entry i of row b? -/
def metB (l : List Int) (n b i x : Nat) : Bool := match l[x]? with
  | none => false
  | some u => decide (0 ≤ u) && (decide (u < b) || (decide (u = b) && decide ((x : Int) ∈ (childAt l b n).take i)))
def SeenAt (l : List Int) (n b i : Nat) (S : List Int) : Prop := ∀ x : Nat, x < n → S[x]? = some (if metB l n b i x then 1 else 0)
theorem met_start (l : List Int) (n x : Nat) : metB l n 0 0 x = false := by
  unfold metB
  split
  · rfl
  · rename_i u _
    rw [← Bool.not_eq_true]
    simp only [Bool.and_eq_true, Bool.or_eq_true, decide_eq_true_eq, List.take_zero, List.not_mem_nil, and_false, or_false]
    omega
theorem met_next {l : List Int} {n b x : Nat} (hx : x < n) : metB l n b (childAt l b n).length x = metB l n (b + 1) 0 x := by
  unfold metB
  split
  · rfl
  · rename_i u hu
    rw [List.take_length, List.take_zero]
    have : (x : Int) ∈ childAt l b n ↔ u = (b : Int) := by
      rw [child_mem]
      constructor
      · rintro ⟨k, h1, h2, h3⟩
        have : k = x := by omega
        subst this
        rw [hu] at h3
        exact Option.some.inj h3
      · rintro rfl
        exact ⟨x, rfl, hx, hu⟩
    rw [Bool.eq_iff_iff]
    simp only [Bool.and_eq_true, Bool.or_eq_true, decide_eq_true_eq, List.not_mem_nil, and_false, or_false, this]
    constructor
    · rintro ⟨h1, h2 | h2⟩
      · exact ⟨h1, by omega⟩
      · exact ⟨h1, by omega⟩
    · rintro ⟨h1, h2⟩
      exact ⟨h1, by omega⟩
theorem met_step {l : List Int} {n b i x : Nat} {y : Nat} (hy : (childAt l b n)[i]? = some (y : Int)) : metB l n b (i + 1) x = (metB l n b i x || decide (x = y)) := by
  obtain ⟨k, h1, h2, h3⟩ := child_mem.1 (List.mem_of_getElem? hy)
  have hky : k = y := by omega
  subst hky
  unfold metB
  split
  · rename_i hu
    rw [Bool.eq_iff_iff]
    simp only [Bool.false_or, decide_eq_true_eq]
    constructor
    · intro h; cases h
    · rintro rfl; rw [hu] at h3; cases h3
  · rename_i u hu
    rw [List.take_add_one, hy, Bool.eq_iff_iff]
    simp only [Bool.and_eq_true, Bool.or_eq_true, decide_eq_true_eq, List.mem_append, Option.toList_some, List.mem_singleton]
    constructor
    · rintro ⟨h4, h5 | ⟨h5, h6 | h6⟩⟩
      · exact .inl ⟨h4, .inl h5⟩
      · exact .inl ⟨h4, .inr ⟨h5, h6⟩⟩
      · exact .inr (by omega)
    · rintro (⟨h4, h5 | ⟨h5, h6⟩⟩ | rfl)
      · exact ⟨h4, .inl h5⟩
      · exact ⟨h4, .inr ⟨h5, .inl h6⟩⟩
      · rw [hu] at h3
        have := Option.some.inj h3
        exact ⟨by omega, .inr ⟨this, .inr rfl⟩⟩
theorem not_mem_upto {O : List Int} (hd : O.Nodup) {m : Nat} {b : Int} (h : O[m]? = some b) : b ∉ O.take m := fun hm => by
  obtain ⟨j, hj⟩ := List.getElem?_of_mem hm
  rw [List.getElem?_take] at hj
  split at hj
  · rename_i hjm
    obtain ⟨h1, h2⟩ := List.getElem?_eq_some_iff.1 h
    obtain ⟨h3, h4⟩ := List.getElem?_eq_some_iff.1 hj
    exact (List.pairwise_iff_getElem.1 hd) j m h3 h1 hjm (by rw [h2, h4])
  · cases hj
theorem not_met {l : List Int} {n b i : Nat} {y : Nat} (hy : (childAt l b n)[i]? = some (y : Int)) : metB l n b i y = false := by
  obtain ⟨k, h1, h2, h3⟩ := child_mem.1 (List.mem_of_getElem? hy)
  have hky : k = y := by omega
  subst hky
  unfold metB
  rw [h3]
  have hn : (k : Int) ∉ (childAt l b n).take i := not_mem_upto ((child_sorted l b n).imp fun h => by omega) hy
  simp [hn]
theorem seen_step {l S : List Int} {n b i y : Nat} (h : SeenAt l n b i S) (hy : (childAt l b n)[i]? = some (y : Int)) (hyn : y < n) (hS : S.length = n) : SeenAt l n b (i + 1) (S.set y 1) := fun x hx => by
  rw [met_step hy]
  by_cases e : y = x
  · subst e; rw [List.getElem?_set_self (by omega)]; simp
  · rw [List.getElem?_set_ne e, h x hx]
    have : ¬ x = y := fun e2 => e e2.symm
    simp [this]
theorem met_end {sc : Int → List Int} {o l : List Int} {n x : Nat} (I : IdomOk sc o n l) (O : OrderOk n sc o) (hx : x < n) (h0 : x ≠ 0) : metB l n n 0 x = decide ((x : Int) ∈ o) := by
  unfold metB
  by_cases h : (x : Int) ∈ o
  · obtain ⟨u, h3, h4, -⟩ := I.some_ x hx h h0
    have := O.bound u h4
    rw [h3]
    simp [h, this.1, this.2]
  · rw [I.none_ x hx (.inl h)]
    simp [h]
set_option maxRecDepth 100000 in
set_option maxHeartbeats 12800000 in
theorem law_dom_counts (f : Fun) (c1 c2 : Value) (w : World) (hf : RFun.rep w w.heap.size [.string f.name, c1, .int .i64 f.ret, c2] f) (hs : Small f) (hsz : funSz f ≤ 2000000) :
    Calls Try.prog 13 #[f.v c1 c2] w (LawPost w) := by
  obtain ⟨hp, hb⟩ := fun_open (RFun.later hf (Below.refl _ _) (Nat.le_refl _))
  obtain ⟨A1, k1, h1, -, -⟩ := Rp.slice1_open hp
  obtain ⟨A2, k2, h2, hm2, -⟩ := Rp.slice1_open hb
  cases h1; cases h2
  clear hp hb
  obtain ⟨n, hn⟩ : ∃ n, Hid (n = f.blocks.length) := ⟨_, hide rfl⟩
  have hnle : n ≤ 2000000 := by rw [hn.out]; exact hs.blocks
  obtain ⟨O, hO⟩ : ∃ O, Hid (O = orderF f.blocks) := ⟨_, hide rfl⟩
  obtain ⟨sc, hsc⟩ : ∃ sc, Hid (sc = succsF f.blocks) := ⟨_, hide rfl⟩
  obtain ⟨R, hR⟩ : ∃ R, Hid (R = reachF f.blocks) := ⟨_, hide rfl⟩
  obtain ⟨P, hP⟩ : ∃ P, Hid (P = predsL sc n) := ⟨_, hide rfl⟩
  have hPl : P.length = n := by rw [hP.out, predsL_len]
  have hRl : R.length = n := by rw [hR.out, hn.out, reach_len]
  have hsok : Hid (∀ b, SuccOk n (sc b)) := hide (fun b => by rw [hsc.out, hn.out]; exact succsF_ok _ _)
  have hok : Hid (OrderOk n sc O) := hide (by rw [hO.out, hn.out, hsc.out]; exact order_ok _)
  have hol : O.length ≤ n := by rw [hO.out, hn.out]; exact order_len _
  have hRat : Hid (∀ k : Nat, k < n → R[k]? = some (decide ((k : Int) ∈ O))) := hide (fun k hk => by rw [hR.out, hO.out]; exact reach_at _ _ (by rw [← hn.out]; exact hk))
  rw [← hn.out]
  rw [← hn.out] at hf hm2
  obtain ⟨W, hW, hwW, hWs, hx⟩ := boxes1 w #[.string f.name, .slice A1 f.params.length k1, .int .i64 f.ret, .slice A2 n k2] 25
  have q0 : ∀ w', Below W.heap.size W w' → w'.cell? ⟨w.heap.size, 0, none⟩ = some (.string f.name) := hx 0 _ rfl
  have q1 : ∀ w', Below W.heap.size W w' → w'.cell? ⟨w.heap.size, 1, none⟩ = some (.slice A1 f.params.length k1) := hx 1 _ rfl
  have q2 : ∀ w', Below W.heap.size W w' → w'.cell? ⟨w.heap.size, 2, none⟩ = some (.int .i64 f.ret) := hx 2 _ rfl
  have q3 : ∀ w', Below W.heap.size W w' → w'.cell? ⟨w.heap.size, 3, none⟩ = some (.slice A2 n k2) := hx 3 _ rfl
  clear hx
  have hws : w.heap.size ≤ W.heap.size := by omega
  replace hWs := hide hWs
  have hself := Below.refl W.heap.size W
  have hF : Hid (∀ w', Below W.heap.size W w' → RFun.rep w' w'.heap.size [.string f.name, .slice A1 f.params.length k1, .int .i64 f.ret, .slice A2 n k2] f) := hide (fun w' h => RFun.later hf (hwW.trans (h.mono hws)) (hwW.trans (h.mono hws)).size)
  have cR : Hid (∀ w', Below W.heap.size W w' → Calls Try.prog 39 #[f.v (.slice A1 f.params.length k1) (.slice A2 n k2)] w' (ReachPost n R w')) := hide (fun w' h => by
    have := reach_any f (.slice A1 f.params.length k1) (.slice A2 n k2) w' w'.heap.size (Nat.le_refl _) (hF.out w' h) hs
    rwa [← hn.out, ← hR.out] at this)
  have cTr : Hid (∀ w', Below W.heap.size W w' → Calls Try.prog 50 #[f.v (.slice A1 f.params.length k1) (.slice A2 n k2)] w' (TreePost sc O n w')) := hide (fun w' h => by
    have := tree_any f (.slice A1 f.params.length k1) (.slice A2 n k2) w' w'.heap.size (Nat.le_refl _) (hF.out w' h) hs
    rwa [← hn.out, ← hO.out, ← hsc.out] at this)
  obtain ⟨lb, hlb⟩ : ∃ lb, Hid (lb = long7F f) := ⟨_, hide rfl⟩
  have cL : Hid (∀ w', Below W.heap.size W w' → Calls Try.prog 36 #[f.v (.slice A1 f.params.length k1) (.slice A2 n k2)] w' (RetB lb w')) := hide (fun w' h => by
    have := long07_any f (.slice A1 f.params.length k1) (.slice A2 n k2) w' w'.heap.size (Nat.le_refl _) (hF.out w' h) hsz
    rwa [← hlb.out] at this)
  replace hs := hide hs
  replace hf := hide hf
  replace hwW := hide hwW
  obtain ⟨i0, hi0, hz0, hz1, hz2⟩ := cinfo_parts cinfo_int
  replace hi0 := hide hi0
  replace hz0 := hide hz0
  replace hz1 := hide hz1
  replace hz2 := hide hz2
  go_enter Try.func13, Try.ntmps13
  go_wp2_with (fail)
  refine (lives07_any _).mono ?_
  rintro e w1 ⟨rfl, hb1⟩
  go_wp2_with (fail)
  refine (cL.out _ hb1).mono ?_
  rintro e w2 ⟨rfl, hb2⟩
  have hbel2 := hb1.trans (hb2.mono hb1.size)
  clear hb1 hb2 cL
  cases lb with
  | true =>
    go_wp2
    go_ret
    exact ⟨rfl, hwW.out.trans (hbel2.mono hws)⟩
  | false =>
    have hs2 := hbel2.size
    go_upto_region 5 with (fail)
    go_region_held3 (fun w' => Below W.heap.size W w') (first | (with_reducible assumption) | exact hbel2.drew)
      (first
        | (go_at_call 39; refine (cR.out _ hk4).mono ?_; rintro e X ⟨gr, rfl, hR, hb6⟩; have hk6 : Below W.heap.size W X := hk4.trans (hb6.mono hk4.size); have hL6 := hide (hL4.out.below hb6); have hR6 := hide hR; clear hR hb6)
        | (go_at_call 50; refine (cTr.out _ (hbel2.drew)).mono ?_; rintro e w4 ⟨gt, cs, l, rfl, hI, hL, hb4⟩; have hk4 : Below W.heap.size W w4 := (hbel2.drew).trans (hb4.mono hs2); have hL4 := hide hL; have hI' := hide hI; clear hL hI hb4))
    have hPr := rows_reads hL6.out (treeL_len ..)
    obtain ⟨-, hRr⟩ := bool_reads hR6.out
    have hkX := hk6.size
    have hwX : Hid (Below w.heap.size w X) := hide (hwW.out.trans (hk6.mono hws))
    have hwXs : Hid (w.heap.size ≤ X.heap.size) := hide hwX.out.size
    have p3 : ∀ w', Below X.heap.size X w' → w'.cell? ⟨w.heap.size, 3, none⟩ = some (.slice A2 n k2) := fun w' h => q3 w' (hk6.trans (h.mono hkX))
    replace hPr := hide hPr
    replace hRr := hide hRr
    have hll : l.length = n := hI'.out.len
    have hselfX := Below.refl X.heap.size X
    clear hR6 hL6 q0 q1 q2 q3 hself hbel2 hs2 hk4 hk6 hkX hL4 cR cTr hF hW
    go_wp2_with (at_make; refine wpList_make_full _ rfl (.tmp 33) (.tmp 33) _ rfl X.heap.size 3 i0 _ 1 Try.underlying22 hi0.out hz0.out hz1.out .i64 .i64 n n n rfl rfl rfl rfl ?c1 ?c2 (Nat.le_refl _) ?_)
    case c1 => rw [hz2.out]; omega
    case c2 => unfold maxLen; omega
    intro Y hown5 hg5
    have hbXY : Below X.heap.size X Y := below_grown0 hg5
    have hS0 : Hid (∃ S, SeenAt l n 0 0 S ∧ OwnN Y X.heap.size X.heap.size n S) := hide ⟨_, fun x hx => by rw [met_start, List.getElem?_replicate, if_pos hx]; rfl, made_zeros hown5⟩
    have hsY : X.heap.size < Y.heap.size := by obtain ⟨S, -, h⟩ := hS0.out; exact h.lt.2
    clear hown5 hg5 hselfX
    have hYX : Hid (∀ w', Only (fun k => k = X.heap.size) Y.heap.size Y w' → Below X.heap.size X w') := hide (fun w' h => hbXY.trans (h.to_below (fun k hk => by have : k = X.heap.size := hk; omega) (by omega)))
    clear hbXY
    go_wp2
    go_loopw [37] (fun s wr => ∃ b : Nat, s = .int .i64 b ∧ b ≤ n ∧ Hid (∃ S, SeenAt l n b 0 S ∧ OwnN wr X.heap.size X.heap.size n S) ∧ Hid (Only (fun k => k = X.heap.size) Y.heap.size Y wr)) (fun s _ => n - (intOf s).toNat)
    case atStart => exact ⟨0, rfl, Nat.zero_le _, hS0, hide (Only.refl _ _ _)⟩
    case round =>
      clear hS0
      rename World => V
      obtain ⟨b, rfl, hb, hS, hon⟩ := hrel
      by_cases hlt : b < n
      · have hbi : (b : Int) < (n : Int) := by omega
        obtain ⟨p, hpe⟩ : ∃ p, Hid (p = childAt l b n) := ⟨_, hide rfl⟩
        obtain ⟨Ap, Cp, p1, p2⟩ := hPr.out b p (by rw [treeL_at _ hlt, hpe.out])
        have hpl : p.length ≤ n := by rw [hpe.out]; exact child_len l b n
        have rp := p1 _ (hYX.out _ hon.out)
        have hpin : Hid (∀ x, x ∈ p → 1 ≤ x ∧ x < n ∧ (b : Int) ∈ O) := hide (fun x hx => by
          rw [hpe.out] at hx
          obtain ⟨k, rfl, h1, h2⟩ := child_mem.1 hx
          by_cases h : (k : Int) ∈ O ∧ k ≠ 0
          · obtain ⟨u, h3, h4, -⟩ := hI'.out.some_ k h1 h.1 h.2
            rw [h2] at h3
            cases h3
            exact ⟨by have := h.2; omega, by omega, h4⟩
          · exfalso
            have h3 := hI'.out.none_ k h1 (by by_cases h0 : k = 0; exact .inr h0; exact .inl fun h5 => h ⟨h5, h0⟩)
            rw [h2] at h3
            have := Option.some.inj h3
            omega)
        have hpso : Hid (p.Pairwise (· < ·)) := hide (by rw [hpe.out]; exact child_sorted l b n)
        replace p1 := hide p1
        replace p2 := hide p2
        go_wp2
        go_loopw [44] (fun s wr => ∃ i : Nat, s = .int .i64 i ∧ i ≤ p.length ∧ Hid (∃ S, SeenAt l n b i S ∧ OwnN wr X.heap.size X.heap.size n S) ∧ Hid (Only (fun k => k = X.heap.size) Y.heap.size Y wr)) (fun s _ => p.length - (intOf s).toNat)
        case atStart => exact ⟨0, rfl, Nat.zero_le _, hS, hon⟩
        case round =>
          clear hS hon rp
          rename World => V2
          obtain ⟨i, rfl, hi, hS, hon⟩ := hrel
          by_cases hlt2 : i < p.length
          · obtain ⟨y, hy⟩ := get_ex (l := p) (k := i) hlt2
            obtain ⟨y1, y9, hbo⟩ := hpin.out y (List.mem_of_getElem? hy.out)
            obtain ⟨yn, hye⟩ := Int.eq_ofNat_of_zero_le (by omega : 0 ≤ y)
            subst hye
            have hyn : yn < n := by omega
            obtain ⟨gp2, hgp2, r2⟩ := p2.out (by omega)
            subst hgp2
            have hb2 := hYX.out _ hon.out
            have ry := r2 i _ hy.out _ hb2
            have rr := hRr.out b _ (hRat.out b hlt) _ hb2
            rw [show decide ((b : Int) ∈ O) = true from decide_eq_true hbo] at rr
            obtain ⟨S, hS1, hS2⟩ := hS.out
            have hy2 : Hid ((childAt l b n)[i]? = some (yn : Int)) := hide (by rw [← hpe.out]; exact hy.out)
            have hs0 : S[yn]? = some 0 := by have := hS1 yn hyn; rwa [not_met hy2.out] at this
            have rs := hS2.cell hs0
            have fs := hS2.free yn
            have hst : Hid (∃ S, SeenAt l n b (i + 1) S ∧ OwnN (V2.setCell ⟨X.heap.size, yn, none⟩ (.int .i64 1)) X.heap.size X.heap.size n S) := hide ⟨_, seen_step hS1 hy2.out hyn hS2.len, hS2.set_ yn 1⟩
            have hon2 : Hid (Only (fun k => k = X.heap.size) Y.heap.size Y (V2.setCell ⟨X.heap.size, yn, none⟩ (.int .i64 1))) := hide (Only.setCell (p := ⟨X.heap.size, yn, none⟩) hon.out (.inl rfl) (.int .i64 1))
            have hii : (i : Int) < (p.length : Int) := by omega
            have hy3 : ¬ ((yn : Int) < 1) := by omega
            replace hbo := hide hbo
            clear hS1 hs0 hb2 hS
            replace hS2 := hide hS2
            by_cases hi0 : i = 0
            · have hi1 : ¬ ((i : Int) > 0) := by omega
              replace hi0 := hide hi0
              replace r2 := hide r2
              go_wp2
              go_roundw
              case rel => exact ⟨i + 1, by go_num, hlt2, hst, hon2⟩
              case measure => simp [intOf]; omega
            · have hi1 : ((i : Int) > 0) := by omega
              obtain ⟨z, hz⟩ := get_ex (l := p) (k := i - 1) (by omega)
              have rz := r2 (i - 1) z hz.out V2 (hYX.out _ hon.out)
              have hzy : z < (yn : Int) := by
                have h1 := List.pairwise_iff_getElem.1 hpso.out (i - 1) i (by omega) hlt2 (by omega)
                have h2 := hz.out
                have h3 := hy.out
                rw [List.getElem?_eq_getElem (by omega)] at h2 h3
                rw [Option.some.inj h2, Option.some.inj h3] at h1
                exact h1
              have hzg : ¬ (z ≥ (yn : Int)) := by omega
              obtain ⟨i1, hi1e⟩ : ∃ i1, Hid (i1 = i - 1) := ⟨_, hide rfl⟩
              rw [← hi1e.out] at rz
              have hisub : (i : Int) - 1 = (i1 : Int) := by rw [hi1e.out]; omega
              have hi1l : i1 < p.length := by rw [hi1e.out]; omega
              replace hi0 := hide hi0
              replace r2 := hide r2
              go_wp2
              go_roundw
              case rel => exact ⟨i + 1, by go_num, hlt2, hst, hon2⟩
              case measure => simp [intOf]; omega
          · obtain rfl : i = p.length := by omega
            have hS3 : Hid (∃ S, SeenAt l n (b + 1) 0 S ∧ OwnN V2 X.heap.size X.heap.size n S) := hide (by
              obtain ⟨S, h1, h2⟩ := hS.out
              refine ⟨S, fun x hx => ?_, h2⟩
              rw [← met_next hx, ← hpe.out]
              exact h1 x hx)
            go_wp2
            go_roundw
            case rel => exact ⟨b + 1, by go_num, hlt, hS3, hon⟩
            case measure => simp [intOf]; omega
      · obtain rfl : b = n := by omega
        obtain ⟨S, hS1, hS2⟩ := hS.out
        have hSr := hide hS2.reads
        have hSl := hS2.len
        have hVX : Hid (∀ w', Below V.heap.size V w' → Below X.heap.size X w') := hide (fun w' h => (hYX.out _ hon.out).trans (h.mono (by have := hon.out.size; omega)))
        have hselfV := Below.refl V.heap.size V
        replace hS1 := hide hS1
        replace hS2 := hide hS2
        clear hS
        go_wp2
        go_loopw [11] (fun s wr => ∃ x : Nat, s = .int .i64 x ∧ 1 ≤ x ∧ Below V.heap.size V wr) (fun s _ => b - (intOf s).toNat)
        case atStart => exact ⟨1, rfl, Nat.le_refl _, hselfV⟩
        case round =>
          clear hselfV
          rename World => U
          obtain ⟨x, rfl, hx1, hbel⟩ := hrel
          have hlast : Hid (Below w.heap.size w U) := hide (hwX.out.trans ((hVX.out _ hbel).mono hwXs.out))
          by_cases hltx : x < b
          · have hxi : (x : Int) < (b : Int) := by omega
            have rr := hRr.out x _ (hRat.out x hltx) _ (hVX.out _ hbel)
            have hsx := hS1.out x hltx
            rw [met_end hI'.out hok.out hltx (by omega)] at hsx
            by_cases hxo : (x : Int) ∈ O
            · rw [show decide ((x : Int) ∈ O) = true from decide_eq_true hxo] at rr hsx
              have rs := hSr.out x 1 hsx _ hbel
              replace hxo := hide hxo
              clear hsx
              go_upto_region 24 with (fail)
              go_quiet (fail)
              go_wp2
              go_roundw
              case rel => exact ⟨x + 1, by go_num, by omega, below_drewN hbel _⟩
              case measure => simp [intOf]; omega
            · rw [show decide ((x : Int) ∈ O) = false from decide_eq_false hxo] at rr hsx
              have rs := hSr.out x 0 hsx _ hbel
              replace hxo := hide hxo
              clear hsx
              go_upto_region 24 with (fail)
              go_quiet (fail)
              go_wp2
              go_roundw
              case rel => exact ⟨x + 1, by go_num, by omega, below_drewN hbel _⟩
              case measure => simp [intOf]; omega
          · have hxi : ¬ (x : Int) < (b : Int) := by omega
            go_wp2
            go_ret
            exact ⟨rfl, hlast.out⟩
end Go.Proofs.Ytaljdbmmjgmbbaa
