/- dom.Tree, and the law DomCounts, walked. No condition but sizes. -/
import Derived.Test.YteeclobpajalmaaDoG
import Derived.Test.YteeclobpajalmaaDoJ
import Derived.Test.YteeclobpajalmaaHm
import Derived.Test.YteeclobpajalmaaApn
namespace Go.Proofs.Yteeclobpajalmaa
open Go.RowKit
set_option linter.unusedSimpArgs false
set_option linter.unusedVariables false

/-- the first b blocks' children of t -/
def childAt (l : List Int) (t b : Nat) : List Int := ((List.range b).filter fun x => decide (l[x]? = some (t : Int))).map Int.ofNat
def treeL (l : List Int) (n b : Nat) : List (List Int) := (List.range n).map fun t => childAt l t b
theorem treeL_len (l : List Int) (n b : Nat) : (treeL l n b).length = n := by simp [treeL]
theorem treeL_at (l : List Int) {n b t : Nat} (h : t < n) : (treeL l n b)[t]? = some (childAt l t b) := by simp [treeL, h]
theorem child_step (l : List Int) (t b : Nat) : childAt l t (b + 1) = childAt l t b ++ (if l[b]? = some (t : Int) then [(b : Int)] else []) := by
  unfold childAt
  rw [List.range_succ, List.filter_append, List.map_append]
  by_cases h : l[b]? = some (t : Int)
  · simp [h]
  · simp [h]
theorem child_len (l : List Int) (t : Nat) : ∀ b, (childAt l t b).length ≤ b
  | 0 => by simp [childAt]
  | b + 1 => by rw [child_step, List.length_append]; have := child_len l t b; split <;> simp <;> omega
theorem child_mem {l : List Int} {t b : Nat} {x : Int} : x ∈ childAt l t b ↔ ∃ k : Nat, x = k ∧ k < b ∧ l[k]? = some (t : Int) := by
  unfold childAt
  simp only [List.mem_map, List.mem_filter, List.mem_range, decide_eq_true_eq]
  exact ⟨fun ⟨k, ⟨h1, h2⟩, h3⟩ => ⟨k, h3.symm, h1, h2⟩, fun ⟨k, h1, h2, h3⟩ => ⟨k, ⟨h2, h3⟩, h1.symm⟩⟩
theorem child_sorted (l : List Int) (t : Nat) : ∀ b, (childAt l t b).Pairwise (· < ·)
  | 0 => by simp [childAt]
  | b + 1 => by
    rw [child_step, List.pairwise_append]
    refine ⟨child_sorted l t b, by split <;> simp, fun x hx y hy => ?_⟩
    obtain ⟨k, rfl, h1, -⟩ := child_mem.1 hx
    split at hy
    · rw [List.mem_singleton.1 hy]; omega
    · cases hy
theorem tree_start (l : List Int) (n : Nat) : treeL l n 0 = List.replicate n [] := by
  refine List.ext_getElem? fun k => ?_
  by_cases h : k < n
  · rw [treeL_at _ h, List.getElem?_replicate, if_pos h]; simp [childAt]
  · rw [List.getElem?_eq_none (by rw [treeL_len]; omega), List.getElem?_eq_none (by simp; omega)]
theorem tree_step {l : List Int} {n b t : Nat} (ht : t < n) (hb : l[b]? = some (t : Int)) : (treeL l n b).set t (childAt l t b ++ [(b : Int)]) = treeL l n (b + 1) := by
  refine List.ext_getElem? fun k => ?_
  by_cases h : k < n
  · rw [treeL_at _ h, child_step]
    by_cases e : t = k
    · subst e
      rw [List.getElem?_set_self (by rw [treeL_len]; exact h), if_pos hb]
    · rw [List.getElem?_set_ne e, treeL_at _ h, if_neg (by rw [hb]; intro e2; have := Option.some.inj e2; omega), List.append_nil]
  · rw [List.getElem?_eq_none (by rw [List.length_set, treeL_len]; omega), List.getElem?_eq_none (by rw [treeL_len]; omega)]
theorem tree_skip {l : List Int} {n b : Nat} {u : Int} (hb : l[b]? = some u) (hu : u < 0) : treeL l n (b + 1) = treeL l n b := by
  refine List.ext_getElem? fun k => ?_
  by_cases h : k < n
  · rw [treeL_at _ h, treeL_at _ h, child_step, if_neg (by rw [hb]; intro e2; have := Option.some.inj e2; omega), List.append_nil]
  · rw [List.getElem?_eq_none (by rw [treeL_len]; omega), List.getElem?_eq_none (by rw [treeL_len]; omega)]
def TreePost (sc : Int → List Int) (o : List Int) (n : Nat) (w : World) (e : Ending) (w' : World) : Prop := ∃ g cs l, e = .returned (.slice (some ⟨g, 0, none⟩) n n) ∧ IdomOk sc o n l ∧ OwnL w' w.heap.size none (.slice (some ⟨g, 0, none⟩) n n) (treeL l n n) cs ∧ Below w.heap.size w w'
set_option maxRecDepth 100000 in
set_option maxHeartbeats 6400000 in
theorem tree_any (f : Fun) (c1 c2 : Value) (w : World) (B : Nat) (hB : B ≤ w.heap.size) (hf : RFun.rep w B [.string f.name, c1, .int .i64 f.ret, c2] f) (hs : Small f) :
    Calls Try.prog 64 #[f.v c1 c2] w (TreePost (succsF f.blocks) (orderF f.blocks) f.blocks.length w) := by
  obtain ⟨hp, hb⟩ := fun_open (RFun.later hf (Below.refl _ _) hB)
  obtain ⟨A1, k1, h1, -, -⟩ := Rp.slice1_open hp
  obtain ⟨A2, k2, h2, hm2, -⟩ := Rp.slice1_open hb
  cases h1; cases h2
  clear hp hb
  obtain ⟨n, hn⟩ : ∃ n, Hid (n = f.blocks.length) := ⟨_, hide rfl⟩
  have hnle : n ≤ 2000000 := by rw [hn.out]; exact hs.blocks
  obtain ⟨O, hO⟩ : ∃ O, Hid (O = orderF f.blocks) := ⟨_, hide rfl⟩
  obtain ⟨sc, hsc⟩ : ∃ sc, Hid (sc = succsF f.blocks) := ⟨_, hide rfl⟩
  obtain ⟨R, hR⟩ : ∃ R, Hid (R = reachF f.blocks) := ⟨_, hide rfl⟩
  obtain ⟨P, hP⟩ : ∃ P, Hid (P = predsL sc n) := ⟨_, hide rfl⟩
  have hPl : P.length = n := by rw [hP.out, predsL_len]
  have hRl : R.length = n := by rw [hR.out, hn.out, reach_len]
  have hsok : Hid (∀ b, SuccOk n (sc b)) := hide (fun b => by rw [hsc.out, hn.out]; exact succsF_ok _ _)
  have hok : Hid (OrderOk n sc O) := hide (by rw [hO.out, hn.out, hsc.out]; exact order_ok _)
  have hol : O.length ≤ n := by rw [hO.out, hn.out]; exact order_len _
  have hRat : Hid (∀ k : Nat, k < n → R[k]? = some (decide ((k : Int) ∈ O))) := hide (fun k hk => by rw [hR.out, hO.out]; exact reach_at _ _ (by rw [← hn.out]; exact hk))
  rw [← hn.out, ← hO.out, ← hsc.out]
  rw [← hn.out] at hf hm2
  obtain ⟨W, hW, hwW, hWs, hx⟩ := boxes1 w #[.string f.name, .slice A1 f.params.length k1, .int .i64 f.ret, .slice A2 n k2] 25
  have q0 : ∀ w', Below W.heap.size W w' → w'.cell? ⟨w.heap.size, 0, none⟩ = some (.string f.name) := hx 0 _ rfl
  have q1 : ∀ w', Below W.heap.size W w' → w'.cell? ⟨w.heap.size, 1, none⟩ = some (.slice A1 f.params.length k1) := hx 1 _ rfl
  have q2 : ∀ w', Below W.heap.size W w' → w'.cell? ⟨w.heap.size, 2, none⟩ = some (.int .i64 f.ret) := hx 2 _ rfl
  have q3 : ∀ w', Below W.heap.size W w' → w'.cell? ⟨w.heap.size, 3, none⟩ = some (.slice A2 n k2) := hx 3 _ rfl
  clear hx
  have hws : w.heap.size ≤ W.heap.size := by omega
  replace hWs := hide hWs
  have hself := Below.refl W.heap.size W
  have hF : Hid (∀ w', Below W.heap.size W w' → RFun.rep w' w'.heap.size [.string f.name, .slice A1 f.params.length k1, .int .i64 f.ret, .slice A2 n k2] f) := hide (fun w' h => RFun.later hf ((hwW.trans (h.mono hws)).mono hB) (Nat.le_trans hB (hwW.trans (h.mono hws)).size))
  have cI : Hid (∀ w', Below W.heap.size W w' → Calls Try.prog 93 #[f.v (.slice A1 f.params.length k1) (.slice A2 n k2)] w' (IdomPost sc O n w')) := hide (fun w' h => by
    have := idom_any f (.slice A1 f.params.length k1) (.slice A2 n k2) w' w'.heap.size (Nat.le_refl _) (hF.out w' h) hs
    rwa [← hn.out, ← hO.out, ← hsc.out] at this)
  replace hs := hide hs
  replace hf := hide hf
  replace hwW := hide hwW
  obtain ⟨i0, hi0, hz0, hz1, hz2⟩ := cinfo_parts cinfo_int
  obtain ⟨b0, hb0, hx0, hx1, hx2⟩ := cinfo_parts cinfo_ints
  replace hi0 := hide hi0
  replace hz0 := hide hz0
  replace hz1 := hide hz1
  replace hz2 := hide hz2
  replace hb0 := hide hb0
  replace hx0 := hide hx0
  replace hx1 := hide hx1
  replace hx2 := hide hx2
  go_enter Try.func64, Try.ntmps64
  go_wp2_with (at_make; refine wpList_make_full _ rfl (.tmp 8) (.tmp 8) _ rfl W.heap.size 22 b0 _ 1 Try.underlying38 hb0.out hx0.out hx1.out .i64 .i64 n n n rfl rfl rfl rfl ?c1 ?c2 (Nat.le_refl _) ?_)
  case c1 => rw [hx2.out]; omega
  case c2 => unfold maxLen; omega
  intro w1 hown1 hg1
  have hbel1 := below_grown0 hg1
  have hmk1 := hide (OwnL.start (made_rows hown1))
  clear hg1 hown1
  have hs1 := hbel1.size
  go_wp2_with (fail)
  refine (cI.out _ hbel1).mono ?_
  rintro e X ⟨gl, l, rfl, hI, hN, hb2⟩
  have hI' := hide hI
  have hll := hN.len
  have hin : Hid (∀ x, x ∈ l → -1 ≤ x ∧ x < n) := hide (hI.ok hok.out)
  have hgl : Hid (w1.heap.size ≤ gl) := hide hN.lt.1
  have hX : Hid (∃ cs, OwnL X W.heap.size (some gl) (.slice (some ⟨W.heap.size, 0, none⟩) n n) (treeL l n 0) cs) := hide ⟨_, by
    rw [tree_start]
    exact (hmk1.out.no_ (fun k hk => by cases hk; exact hgl.out)).below hb2⟩
  have hN' : Hid (OwnN X W.heap.size gl n l) := hide (hN.mono hs1)
  have hbel2 := hbel1.trans (hb2.mono hs1)
  clear hI hN hb2 hmk1 hbel1 hs1 cI q0 q1 q2 q3 hself
  go_wp2
  go_loopw [13] (fun j wr => ∃ b : Nat, j = .int .i64 b ∧ b ≤ n ∧ Hid (∃ cs, OwnL wr W.heap.size (some gl) (.slice (some ⟨W.heap.size, 0, none⟩) n n) (treeL l n b) cs) ∧ Hid (OwnN wr W.heap.size gl n l) ∧ Below W.heap.size W wr) (fun i _ => n - (intOf i).toNat)
  case atStart => exact ⟨0, rfl, Nat.zero_le _, hX, hN', hbel2⟩
  case round =>
    clear hX hN' hbel2
    obtain ⟨b, rfl, hb, hrow, hou, hbel⟩ := hrel
    by_cases hlt : b < n
    · have hbi : (b : Int) < (n : Int) := by omega
      obtain ⟨u, hu⟩ := get_ex (l := l) (k := b) (by omega)
      obtain ⟨hu1, hu2⟩ := hin.out u (List.mem_of_getElem? hu.out)
      have r0 := hou.out.cell hu.out
      by_cases hu0 : u < 0
      · have hnext : Hid (∃ cs, OwnL wr W.heap.size (some gl) (.slice (some ⟨W.heap.size, 0, none⟩) n n) (treeL l n (b + 1)) cs) := hide (by
          obtain ⟨cs, h⟩ := hrow.out
          rw [← tree_skip hu.out hu0] at h
          exact ⟨cs, h⟩)
        go_wp2
        go_roundw
        case rel => exact ⟨b + 1, by go_num, hlt, hnext, hou, hbel⟩
        case measure => simp [intOf]; omega
      · obtain ⟨tn, hte⟩ := Int.eq_ofNat_of_zero_le (by omega : 0 ≤ u)
        subst hte
        have htn : tn < n := by omega
        obtain ⟨cs, hcs⟩ := hrow.out
        obtain ⟨p, hpe⟩ : ∃ p, Hid (p = childAt l tn b) := ⟨_, hide rfl⟩
        have hp : Hid ((treeL l n b)[tn]? = some p) := hide (by rw [treeL_at _ htn, hpe.out])
        obtain ⟨c, hc, hcp⟩ := hcs.at_ hp.out
        obtain ⟨Ap, kp, rfl⟩ := row_form hcp.row
        have hpl : p.length ≤ n := by have := child_len l tn b; rw [hpe.out]; omega
        have hrw := hcs.row
        rw [treeL_len] at hrw
        have r1 : wr.cell? ⟨W.heap.size, tn, none⟩ = some (.slice Ap p.length kp) := by rw [World.ownsRow.cellAt hrw tn (by omega)]; exact hc
        have hbI : Hid (I64 b) := hide (i64_mk (by omega) (by omega))
        have hgs : Hid (gl < wr.heap.size) := hide hou.out.lt.2
        have hnx : Hid ((treeL l n b).set tn (p ++ [(b : Int)]) = treeL l n (b + 1)) := hide (by rw [hpe.out]; exact tree_step htn hu.out)
        replace hrw := hide hrw
        replace hcp := hide hcp
        replace hcs := hide hcs
        replace hc := hide hc
        clear hrow
        have hbs := hbel.size
        go_wp2_with (first
        | (at_builtin
           refine wpList_append_lies _ rfl (.tmp 25) (.tmp 27) _ rfl W.heap.size 3 i0 _ 1 8 Try.underlying22 hi0.out hz0.out hz1.out hz2.out rfl (by omega) (.slice Ap p.length kp) _ _ rfl (hcp.out.row.alloc _) ⟨wr.heap.size, 0, none⟩ 1 1 [.int .i64 b] rfl rfl ?c1 ?c2 (by omega) ?c3 ?c4 ?c5 (wr.heap.size + 1) ?c6 ?_
           case c1 => exact World.news_of_block (cs := #[.int .i64 b]) (t := 3) (fr := (0, 0)) (heap_alloc_new wr _)
           case c2 => simp [Value.oneCell']
           case c3 => unfold maxLen; omega
           case c4 => omega
           case c5 => first | (simp; omega) | simp | omega
           case c6 => simp
           intro gq cq w1 hown1 hg1 hgq hlt1
           have hbw1 : Below W.heap.size W w1 := (hbel.alloc hbs _).grown hg1 (by simp; omega) (fun k hk => (row_lt hcp.out.row hk).1)
           have hbut := But.grown hcp.out.row hg1
           have hL := hide (OwnL.app hcs.out hp.out hc.out hbI.out (fun k hk => by cases hk; exact hgs.out) hown1 hg1 hgq (treeL_len ..).symm)
           have hrw1 := hbut.row (by decide) hrw.out
           have fz1 : w1.frozen? ⟨W.heap.size, tn, none⟩ = false := World.ownsRow.frozenAt hrw1 tn
           have rz1 : w1.cell? ⟨W.heap.size, tn, none⟩ = some (.slice Ap p.length kp) := by rw [World.ownsRow.cellAt hrw1 tn (by omega)]; exact hc.out
           have hou1 : Hid (OwnN w1 W.heap.size gl n l) := hide (hou.out.keep (by
             rw [hg1.block gl (by have := hgs.out; simp; omega) (fun e => hcs.out.far tn _ gl hc.out rfl e.symm)]
             exact Below.heap_alloc wr _ gl hgs.out))
           have hbw2 := hide (hbw1.setCell (p := ⟨W.heap.size, tn, none⟩) (Nat.le_refl _) (.slice (some ⟨gq, 0, none⟩) (p.length + 1) cq))
           have hou2 : Hid (OwnN (w1.setCell ⟨W.heap.size, tn, none⟩ (.slice (some ⟨gq, 0, none⟩) (p.length + 1) cq)) W.heap.size gl n l) := hide ((But.stored (j := tn) (u := .slice (some ⟨gq, 0, none⟩) (p.length + 1) cq) hrw1).row (by decide) hou1.out)
           replace hrw1 := hide hrw1
           replace hown1 := hide hown1
           replace hg1 := hide hg1
           replace hbut := hide hbut
           replace hgq := hide hgq
           replace hlt1 := hide hlt1))
        go_roundw
        case rel => exact ⟨b + 1, by go_num, hlt, hide ⟨_, by have := hL.out; rwa [hnx.out] at this⟩, hou2, hbw2.out⟩
        case measure => simp [intOf]; omega
    · obtain rfl : b = n := by omega
      go_wp2
      go_ret
      obtain ⟨cs, h⟩ := hrow.out
      exact ⟨W.heap.size, cs, l, rfl, hI'.out, h.none_.mono hws, hwW.out.trans (hbel.mono hws)⟩

/-- has block x been met, ahead of entry i of row b? -/
def metB (l : List Int) (n b i x : Nat) : Bool := match l[x]? with
  | none => false
  | some u => decide (0 ≤ u) && (decide (u < b) || (decide (u = b) && decide ((x : Int) ∈ (childAt l b n).take i)))
def SeenAt (l : List Int) (n b i : Nat) (S : List Int) : Prop := ∀ x : Nat, x < n → S[x]? = some (if metB l n b i x then 1 else 0)
theorem met_start (l : List Int) (n x : Nat) : metB l n 0 0 x = false := by
  unfold metB
  split
  · rfl
  · rename_i u _
    rw [← Bool.not_eq_true]
    simp only [Bool.and_eq_true, Bool.or_eq_true, decide_eq_true_eq, List.take_zero, List.not_mem_nil, and_false, or_false]
    omega
theorem met_next {l : List Int} {n b x : Nat} (hx : x < n) : metB l n b (childAt l b n).length x = metB l n (b + 1) 0 x := by
  unfold metB
  split
  · rfl
  · rename_i u hu
    rw [List.take_length, List.take_zero]
    have : (x : Int) ∈ childAt l b n ↔ u = (b : Int) := by
      rw [child_mem]
      constructor
      · rintro ⟨k, h1, h2, h3⟩
        have : k = x := by omega
        subst this
        rw [hu] at h3
        exact Option.some.inj h3
      · rintro rfl
        exact ⟨x, rfl, hx, hu⟩
    rw [Bool.eq_iff_iff]
    simp only [Bool.and_eq_true, Bool.or_eq_true, decide_eq_true_eq, List.not_mem_nil, and_false, or_false, this]
    constructor
    · rintro ⟨h1, h2 | h2⟩
      · exact ⟨h1, by omega⟩
      · exact ⟨h1, by omega⟩
    · rintro ⟨h1, h2⟩
      exact ⟨h1, by omega⟩
theorem met_step {l : List Int} {n b i x : Nat} {y : Nat} (hy : (childAt l b n)[i]? = some (y : Int)) : metB l n b (i + 1) x = (metB l n b i x || decide (x = y)) := by
  obtain ⟨k, h1, h2, h3⟩ := child_mem.1 (List.mem_of_getElem? hy)
  have hky : k = y := by omega
  subst hky
  unfold metB
  split
  · rename_i hu
    rw [Bool.eq_iff_iff]
    simp only [Bool.false_or, decide_eq_true_eq]
    constructor
    · intro h; cases h
    · rintro rfl; rw [hu] at h3; cases h3
  · rename_i u hu
    rw [List.take_add_one, hy, Bool.eq_iff_iff]
    simp only [Bool.and_eq_true, Bool.or_eq_true, decide_eq_true_eq, List.mem_append, Option.toList_some, List.mem_singleton]
    constructor
    · rintro ⟨h4, h5 | ⟨h5, h6 | h6⟩⟩
      · exact .inl ⟨h4, .inl h5⟩
      · exact .inl ⟨h4, .inr ⟨h5, h6⟩⟩
      · exact .inr (by omega)
    · rintro (⟨h4, h5 | ⟨h5, h6⟩⟩ | rfl)
      · exact ⟨h4, .inl h5⟩
      · exact ⟨h4, .inr ⟨h5, .inl h6⟩⟩
      · rw [hu] at h3
        have := Option.some.inj h3
        exact ⟨by omega, .inr ⟨this, .inr rfl⟩⟩
theorem not_mem_upto {O : List Int} (hd : O.Nodup) {m : Nat} {b : Int} (h : O[m]? = some b) : b ∉ O.take m := fun hm => by
  obtain ⟨j, hj⟩ := List.getElem?_of_mem hm
  rw [List.getElem?_take] at hj
  split at hj
  · rename_i hjm
    obtain ⟨h1, h2⟩ := List.getElem?_eq_some_iff.1 h
    obtain ⟨h3, h4⟩ := List.getElem?_eq_some_iff.1 hj
    exact (List.pairwise_iff_getElem.1 hd) j m h3 h1 hjm (by rw [h2, h4])
  · cases hj
theorem not_met {l : List Int} {n b i : Nat} {y : Nat} (hy : (childAt l b n)[i]? = some (y : Int)) : metB l n b i y = false := by
  obtain ⟨k, h1, h2, h3⟩ := child_mem.1 (List.mem_of_getElem? hy)
  have hky : k = y := by omega
  subst hky
  unfold metB
  rw [h3]
  have hn : (k : Int) ∉ (childAt l b n).take i := not_mem_upto ((child_sorted l b n).imp fun h => by omega) hy
  simp [hn]
theorem seen_step {l S : List Int} {n b i y : Nat} (h : SeenAt l n b i S) (hy : (childAt l b n)[i]? = some (y : Int)) (hyn : y < n) (hS : S.length = n) : SeenAt l n b (i + 1) (S.set y 1) := fun x hx => by
  rw [met_step hy]
  by_cases e : y = x
  · subst e; rw [List.getElem?_set_self (by omega)]; simp
  · rw [List.getElem?_set_ne e, h x hx]
    have : ¬ x = y := fun e2 => e e2.symm
    simp [this]
theorem met_end {sc : Int → List Int} {o l : List Int} {n x : Nat} (I : IdomOk sc o n l) (O : OrderOk n sc o) (hx : x < n) (h0 : x ≠ 0) : metB l n n 0 x = decide ((x : Int) ∈ o) := by
  unfold metB
  by_cases h : (x : Int) ∈ o
  · obtain ⟨u, h3, h4, -⟩ := I.some_ x hx h h0
    have := O.bound u h4
    rw [h3]
    simp [h, this.1, this.2]
  · rw [I.none_ x hx (.inl h)]
    simp [h]
end Go.Proofs.Yteeclobpajalmaa
