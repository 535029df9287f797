/- latheref14.Needed. No condition but sizes. -/
import Derived.Test.YtkhlnopbgngjbaaUsE
import Derived.Deep.RegionLaw
namespace Go.Proofs.Ytkhlnopbgngjbaa
open Go.RowKit
set_option linter.unusedSimpArgs false
set_option linter.unusedVariables false

/-- rows of truth values that reads find, in whatever later world -/
def ReadsT (w : World) (g n : Nat) (len : Nat → Nat) (T : Nat → Nat → Bool) : Prop := ∀ k : Nat, k < n → ∃ A C, (∀ w', Below w.heap.size w w' → w'.cell? ⟨g, k, none⟩ = some (.slice A (len k) C)) ∧
  ∀ i : Nat, i < len k → ∃ gk, A = some ⟨gk, 0, none⟩ ∧ ∀ w', Below w.heap.size w w' → w'.cell? ⟨gk, i, none⟩ = some (.bool (T k i))
theorem TabV.reads {w : World} {B g n : Nat} {len gs : Nat → Nat} {T : Nat → Nat → Bool} (h : TabV w B g n len gs T n) : ReadsT w g n len T := fun k hk =>
  ⟨_, _, fun w' hb => (hb.cell (p := ⟨g, k, none⟩) (h.outer 0).2.2.2).trans (h.row (Nat.le_refl _) hk), fun i hi => ⟨gs k, rfl, fun w' hb => (hb.cell (p := ⟨gs k, i, none⟩) (h.lt hk).2).trans (h.cell hk hi).1⟩⟩
theorem ReadsT.later {w w1 : World} {g n : Nat} {len : Nat → Nat} {T : Nat → Nat → Bool} (h : ReadsT w g n len T) (hb : Below w.heap.size w w1) : ReadsT w1 g n len T := fun k hk => by
  obtain ⟨A, C, h1, h2⟩ := h k hk
  refine ⟨A, C, fun w' hw => h1 w' (hb.trans (hw.mono hb.size)), fun i hi => ?_⟩
  obtain ⟨gk, h3, h4⟩ := h2 i hi
  exact ⟨gk, h3, fun w' hw => h4 w' (hb.trans (hw.mono hb.size))⟩

/-- rows of truth values, built by append -/
def TabR (w : World) (B g n : Nat) (cnt : Nat → Nat) (T : Nat → Nat → Bool) : Prop :=
  ∃ cs : List Value, w.ownsRow B 36 1 (.slice (some ⟨g, 0, none⟩) n n) n cs ∧
    (∀ k : Nat, k < n → ∃ v : Value, cs[k]? = some v ∧ w.ownsRow B 4 1 v (cnt k) (((List.range (cnt k)).map (T k)).map Value.bool)) ∧
    ∀ (k k' : Nat) (v v' : Value), k ≠ k' → cs[k]? = some v → cs[k']? = some v' → v.ownBlock = none ∨ v.ownBlock ≠ v'.ownBlock
def upd (cnt : Nat → Nat) (k m : Nat) (j : Nat) : Nat := if j = k then m else cnt j
section
variable {w w' w0 w1 : World} {B g n : Nat} {cnt : Nat → Nat} {T : Nat → Nat → Bool}
theorem TabR.start (h : w.ownsRow B 36 1 (.slice (some ⟨g, 0, none⟩) n n) n (List.replicate n (Value.slice none 0 0))) : TabR w B g n (fun _ => 0) T := by
  refine ⟨_, h, fun k hk => ⟨.slice none 0 0, by rw [List.getElem?_replicate, if_pos hk], rfl, .inl ⟨rfl, rfl⟩⟩, fun k k' v v' _ h1 _ => ?_⟩
  rw [List.getElem?_replicate] at h1
  split at h1
  · cases h1; exact .inl rfl
  · cases h1
theorem TabR.below (h : TabR w B g n cnt T) (hb : Below w.heap.size w w') : TabR w' B g n cnt T := by
  obtain ⟨cs, h1, h2, h3⟩ := h
  refine ⟨cs, row_kept h1 fun k hk => hb.block k (row_lt h1 hk).2.1, fun k hk => ?_, h3⟩
  obtain ⟨v, h4, h5⟩ := h2 k hk
  exact ⟨v, h4, row_kept h5 fun k hk => hb.block k (row_lt h5 hk).2.1⟩
theorem TabR.at_ (h : TabR w B g n cnt T) {k : Nat} (hk : k < n) : ∃ A C, w.cell? ⟨g, k, none⟩ = some (.slice A (cnt k) C) ∧ w.frozen? ⟨g, k, none⟩ = false ∧ w.ownsRow B 4 1 (.slice A (cnt k) C) (cnt k) (((List.range (cnt k)).map (T k)).map Value.bool) ∧ B ≤ g ∧ g < w.heap.size ∧ (∀ q, (Value.slice A (cnt k) C).ownBlock = some q → q ≠ g) := by
  obtain ⟨cs, h1, h2, h3⟩ := h
  obtain ⟨v, h4, h5⟩ := h2 k hk
  obtain ⟨A, C, rfl⟩ := row_form h5
  refine ⟨A, C, by rw [World.ownsRow.cellAt h1 k (by omega)]; exact h4, World.ownsRow.frozenAt h1 k, h5, (row_lt h1 rfl).1, (row_lt h1 rfl).2.1, fun q hq e => ?_⟩
  subst e
  obtain ⟨-, -, c1, e1⟩ := row_lt h5 hq
  obtain ⟨-, -, c2, e2⟩ := row_lt h1 (k := q) rfl
  rw [e1] at e2; cases e2
/-- one value more at the end of row k -/
theorem TabR.push (h : TabR w B g n cnt T) (hb : Below w.heap.size w w0) {k : Nat} (hk : k < n) {A : Option Addr} {C g' C' : Nat} (hc : w.cell? ⟨g, k, none⟩ = some (.slice A (cnt k) C)) (hg : w0.grownBy w1 (Value.slice A (cnt k) C).ownBlock) (hgq : (Value.slice A (cnt k) C).ownBlock = some g' ∨ w0.heap.size ≤ g')
    (ho : w1.ownsRow B 4 1 (.slice (some ⟨g', 0, none⟩) (cnt k + 1) C') (cnt k + 1) ((((List.range (cnt k)).map (T k)).map Value.bool) ++ [.bool (T k (cnt k))])) :
    TabR (w1.setCell ⟨g, k, none⟩ (.slice (some ⟨g', 0, none⟩) (cnt k + 1) C')) B g n (upd cnt k (cnt k + 1)) T := by
  obtain ⟨cs, h1, h2, h3⟩ := h.below hb
  have hcl : cs.length = n := by have := h1.1; omega
  have hck : cs[k]? = some (.slice A (cnt k) C) := by
    have e1 := World.ownsRow.cellAt h1 k (by omega)
    obtain ⟨cs0, h10, -, -⟩ := h
    rw [hb.cell (p := ⟨g, k, none⟩) (row_lt h10 rfl).2.1, hc] at e1
    exact e1.symm
  have hother : ∀ {j v}, j ≠ k → cs[j]? = some v → ∀ q, v.ownBlock = some q → q < w0.heap.size → w1.heap[q]? = w0.heap[q]? := fun {j v} hj hv q hq hlt => hg.block q hlt fun e => by
    rcases h3 j k v _ hj hv hck with e1 | e1
    · rw [e1] at hq; cases hq
    · exact e1 (hq.trans e)
  have h1' : w1.ownsRow B 36 1 (.slice (some ⟨g, 0, none⟩) n n) n cs := row_kept h1 fun q hq => by
    refine hg.block q (row_lt h1 hq).2.1 fun e => ?_
    obtain ⟨v, h4, h5⟩ := h2 k hk
    rw [hck] at h4; cases h4
    obtain ⟨-, -, c1, e1⟩ := row_lt h5 e.symm
    obtain ⟨-, -, c2, e2⟩ := row_lt h1 hq
    rw [e1] at e2; cases e2
  have hs := (World.ownsRow.stored h1' k (.slice (some ⟨g', 0, none⟩) (cnt k + 1) C')).1
  have hbut := But.stored (j := k) (u := .slice (some ⟨g', 0, none⟩) (cnt k + 1) C') h1'
  refine ⟨_, hs, fun j hj => ?_, fun j j' v v' hne hv hv' => ?_⟩
  · by_cases e : j = k
    · subst e
      refine ⟨_, by rw [List.getElem?_set_self (by omega)], hbut.row (by decide) ?_⟩
      unfold upd
      rw [if_pos rfl, List.range_succ, List.map_append, List.map_append]
      exact ho
    · obtain ⟨v, h4, h5⟩ := h2 j hj
      refine ⟨v, by rw [List.getElem?_set_ne (by omega)]; exact h4, hbut.row (by decide) ?_⟩
      unfold upd
      rw [if_neg e]
      exact row_kept h5 fun q hq => hother e h4 q hq (row_lt h5 hq).2.1
  · have key : ∀ {j v}, j ≠ k → cs[j]? = some v → j < n → v.ownBlock = none ∨ v.ownBlock ≠ some g' := fun {j v} hj hv hjn => by
      cases hvo : v.ownBlock with
      | none => exact .inl rfl
      | some q =>
        refine .inr fun e => ?_
        cases e
        rcases hgq with e1 | e1
        · rcases h3 j k v _ hj hv hck with e2 | e2
          · rw [hvo] at e2; cases e2
          · exact e2 (hvo.trans e1.symm)
        · obtain ⟨v2, h4, h5⟩ := h2 j hjn
          rw [hv] at h4; cases h4
          have := (row_lt h5 hvo).2.1; omega
    by_cases e : j = k
    · subst e
      rw [List.getElem?_set_self (by omega)] at hv
      rw [List.getElem?_set_ne hne] at hv'
      cases hv
      refine .inr fun e2 => ?_
      rcases key (fun e => hne e.symm) hv' (by have := (List.getElem?_eq_some_iff.1 hv').1; omega) with e3 | e3
      · rw [e3] at e2; cases e2
      · exact e3 e2.symm
    · rw [List.getElem?_set_ne (fun e2 => e e2.symm)] at hv
      by_cases e' : j' = k
      · subst e'
        rw [List.getElem?_set_self (by omega)] at hv'
        cases hv'
        exact key e hv (by have := (List.getElem?_eq_some_iff.1 hv).1; omega)
      · rw [List.getElem?_set_ne (fun e2 => e' e2.symm)] at hv'
        exact h3 j j' v v' hne hv hv'
theorem TabR.reads (h : TabR w B g n cnt T) : ReadsT w g n cnt T := fun k hk => by
  obtain ⟨A, C, h1, -, h2, -, h3, -⟩ := h.at_ hk
  refine ⟨A, C, fun w' hb => (hb.cell (p := ⟨g, k, none⟩) h3).trans h1, fun i hi => ?_⟩
  rcases h2.2 with ⟨e0, h0⟩ | ⟨gk, cap, cur, e0, hb0, hh, _⟩
  · omega
  · simp only [Value.slice.injEq] at e0
    obtain ⟨rfl, -, rfl⟩ := e0
    refine ⟨gk, rfl, fun w' hb => (hb.cell (p := ⟨gk, i, none⟩) (Array.getElem?_eq_some_iff.1 hh).1).trans ?_⟩
    rw [World.ownsRow.cellAt h2 i (by omega), List.getElem?_map, List.getElem?_map, List.getElem?_range hi]
    rfl
theorem TabR.congr {cnt' : Nat → Nat} (h : TabR w B g n cnt T) (he : ∀ k, k < n → cnt k = cnt' k) : TabR w B g n cnt' T := by
  obtain ⟨cs, h1, h2, h3⟩ := h
  refine ⟨cs, h1, fun k hk => ?_, h3⟩
  rw [← he k hk]
  exact h2 k hk
end

def RNeededPost (bs : List (List Ins)) (w : World) (e : Ending) (w' : World) : Prop :=
  ∃ g T, e = .returned (.slice (some ⟨g, 0, none⟩) bs.length bs.length) ∧ ReadsT w' g bs.length (fun b => (bs.getD b []).length) T ∧ (∀ b i x, insAt bs b i = some x → T b i = needB bs.flatten x) ∧ Below w.heap.size w w'
theorem bool_rowU {X : World} {B g n : Nat} {l : List Bool} (h : X.ownsRow B 4 1 (.slice (some ⟨g, 0, none⟩) n n) n (l.map Value.bool)) : ∀ (k : Nat) b, l[k]? = some b → k < n → ∀ w', Below X.heap.size X w' → w'.cell? ⟨g, k, none⟩ = some (.bool b) := fun k b hk hn w' hw =>
  (hw.cell (p := ⟨g, k, none⟩) (row_lt h rfl).2.1).trans (bcellU h hk hn)
set_option maxRecDepth 100000 in
set_option maxHeartbeats 12800000 in
theorem rneeded_any (f : Fun) (c1 c2 : Value) (w : World) (B : Nat) (hB : B ≤ w.heap.size) (hf : RFun.rep w B [.string f.name, c1, .int .i64 f.ret, c2] f) (hs : Small f) (hfl : f.blocks.flatten.length ≤ 2000000) :
    Calls Try.prog 17 #[f.v c1 c2] w (RNeededPost f.blocks w) := by
  obtain ⟨hp, hb⟩ := fun_open (RFun.later hf (Below.refl _ _) hB)
  obtain ⟨A1, k1, h1, -, -⟩ := Rp.slice1_open hp
  obtain ⟨A2, k2, h2, hm2, gb⟩ := Rp.slice1_open hb
  cases h1; cases h2
  replace gb := hide gb
  clear hp hb
  obtain ⟨n, hn⟩ : ∃ n, Hid (n = f.blocks.length) := ⟨_, hide rfl⟩
  obtain ⟨len, hlen⟩ : ∃ len : Nat → Nat, Hid (len = fun b => (f.blocks.getD b []).length) := ⟨_, hide rfl⟩
  have hlenx : Hid (∀ (b : Nat) l, f.blocks[b]? = some l → len b = l.length) := hide (fun b l h => by rw [hlen.out]; show (f.blocks.getD b []).length = _; rw [getD_nil h])
  have hnle : n ≤ 2000000 := by rw [hn.out]; exact hs.blocks
  have hcode : Hid (∀ (b : Nat) l, f.blocks[b]? = some l → l.length ≤ 2000000) := hide (fun b l h => (hs.code l (List.mem_of_getElem? h)).1)
  obtain ⟨T, hT⟩ : ∃ T : Nat → Nat → Bool, Hid (∀ b i x, insAt f.blocks b i = some x → T b i = needB f.blocks.flatten x) := ⟨fun b i => match insAt f.blocks b i with | some x => needB f.blocks.flatten x | none => false, hide (fun b i x h => by simp only [h])⟩
  rw [← hn.out] at hm2 ⊢
  rw [← hn.out] at hf
  obtain ⟨i0, hi0, hz0, hz1, hz2⟩ := cinfo_parts cinfo_boolsU
  replace hi0 := hide hi0
  replace hz0 := hide hz0
  replace hz1 := hide hz1
  replace hz2 := hide hz2
  obtain ⟨j0, hj0, hy0, hy1, hy2⟩ := cinfo_parts cinfo_boolU
  replace hj0 := hide hj0
  replace hy0 := hide hy0
  replace hy1 := hide hy1
  replace hy2 := hide hy2
  obtain ⟨W, hW, hwW, hWs, hx⟩ := boxes1 w #[.string f.name, .slice A1 f.params.length k1, .int .i64 f.ret, .slice A2 n k2] 25
  have q0 : ∀ w', Below W.heap.size W w' → w'.cell? ⟨w.heap.size, 0, none⟩ = some (.string f.name) := hx 0 _ rfl
  have q1 : ∀ w', Below W.heap.size W w' → w'.cell? ⟨w.heap.size, 1, none⟩ = some (.slice A1 f.params.length k1) := hx 1 _ rfl
  have q2 : ∀ w', Below W.heap.size W w' → w'.cell? ⟨w.heap.size, 2, none⟩ = some (.int .i64 f.ret) := hx 2 _ rfl
  have q3 : ∀ w', Below W.heap.size W w' → w'.cell? ⟨w.heap.size, 3, none⟩ = some (.slice A2 n k2) := hx 3 _ rfl
  clear hx
  have hws : w.heap.size ≤ W.heap.size := by omega
  replace hWs := hide hWs
  have hself := Below.refl W.heap.size W
  have cF : Hid (Calls Try.prog 57 #[f.v (.slice A1 f.params.length k1) (.slice A2 n k2)] W (FlatPost f.blocks.flatten W)) := hide (flat14_any f _ _ W W.heap.size (Nat.le_refl _) (RFun.later hf (hwW.mono hB) (Nat.le_trans hB hws)) hfl)
  obtain ⟨N, hN⟩ : ∃ N, Hid (N = f.blocks.flatten.length) := ⟨_, hide rfl⟩
  replace hW := hide hW
  replace hwW := hide hwW
  replace hs := hide hs
  clear hf
  go_enter Try.func17, Try.ntmps17
  go_upto_region 1 with (fail)
  rw [hW.out]
  clear hW
  go_wp2_with (fail)
  refine cF.out.mono ?_
  rintro e X ⟨gF, rfl, hrowF, hbX⟩
  rw [← hN.out] at hrowF hfl
  rw [← hN.out]
  have hFr := hide (bool_rowU hrowF)
  have hgF := (row_lt hrowF rfl).2.1
  have z3 : ∀ w', Below X.heap.size X w' → w'.cell? ⟨w.heap.size, 3, none⟩ = some (.slice A2 n k2) := fun w' h => q3 w' (hbX.trans (h.mono hbX.size))
  have hWX := hbX.size
  have hwX : Hid (∀ w', Below X.heap.size X w' → Below w.heap.size w w') := hide (fun w' h => (hwW.out.trans (hbX.mono hws)).trans (h.mono (by omega)))
  replace hrowF := hide hrowF
  replace hbX := hide hbX
  clear q0 q1 q2 q3 hself cF
  have hselfX := Below.refl X.heap.size X
  go_wp2_with (at_make; refine wpList_make_full _ rfl (.tmp 12) (.tmp 12) _ rfl X.heap.size 36 i0 _ 1 Try.underlying34 hi0.out hz0.out hz1.out .i64 .i64 n n n rfl rfl rfl rfl ?c1 ?c2 (Nat.le_refl _) ?_)
  case c1 => rw [hz2.out]; omega
  case c2 => unfold maxLen; omega
  intro w5 hown5 hg5
  have hb5 := below_grownU hg5
  have hT5 : Hid (TabR w5 X.heap.size X.heap.size n (fun _ => 0) T) := hide (TabR.start (made_oneU hown5))
  have hcn0 : Hid (∀ k, k < n → (fun _ => 0 : Nat → Nat) k = if k < 0 then len k else 0) := hide (fun k _ => by simp)
  clear hown5 hg5 hselfX
  go_wp2
  go_loopw [5, 6] (fun s5 s6 wr => ∃ (b : Nat) (o : Nat) (cnt : Nat → Nat), s6 = .int .i64 b ∧ s5 = .int .i64 o ∧ b ≤ n ∧ Hid (o = (before f.blocks b 0).length) ∧ Hid (∀ k, k < n → cnt k = if k < b then len k else 0) ∧ Hid (TabR wr X.heap.size X.heap.size n cnt T) ∧ Below X.heap.size X wr) (fun _ s _ => n - (intOf s).toNat)
  case atStart => exact ⟨0, 0, _, rfl, rfl, Nat.zero_le _, hide (by rw [before_zero]; rfl), hcn0, hT5, hb5⟩
  case round =>
    clear hT5 hb5 hcn0
    rename World => V
    obtain ⟨b, o, cnt, rfl, rfl, hb, ho, hcn, hTa, hbel⟩ := hrel
    by_cases hlt : b < n
    · have hbi : (b : Int) < (n : Int) := by omega
      obtain ⟨x, hx⟩ := get_ex (l := f.blocks) (k := b) (by rw [← hn.out]; exact hlt)
      obtain ⟨b1, o1, rfl, he1⟩ := gb.out (by rw [← hn.out]; omega)
      obtain ⟨d1, hr1, hd1⟩ := he1 b x hx.out
      obtain ⟨A3, c3, h3, hmx3, -⟩ := Rp.slice_open hr1
      cases h3
      have hd1' : ∀ w', Below X.heap.size X w' → w'.cell? ⟨b1, o1 + b, none⟩ = some (.slice A3 x.length c3) := fun w' h => hd1 w' (hwX.out w' h)
      clear hd1 hr1 he1
      have hxl := hcode.out b x hx.out
      have hlb := hide (hlenx.out b x hx.out)
      have hcb0 : Hid (cnt b = 0) := hide (by rw [hcn.out b hlt, if_neg (by omega)])
      go_wp2
      go_loopw [5, 7] (fun s5 s7 wr => ∃ (i : Nat) (o : Nat) (cnt : Nat → Nat), s7 = .int .i64 i ∧ s5 = .int .i64 o ∧ i ≤ x.length ∧ Hid (o = (before f.blocks b i).length) ∧ Hid (∀ k, k < n → cnt k = if k < b then len k else if k = b then i else 0) ∧ Hid (TabR wr X.heap.size X.heap.size n cnt T) ∧ Below X.heap.size X wr) (fun _ s _ => x.length - (intOf s).toNat)
      case atStart => exact ⟨0, o, cnt, rfl, rfl, Nat.zero_le _, ho, hide (fun k hk => by rw [hcn.out k hk]; simp), hTa, hbel⟩
      case round =>
        clear hTa hcn ho hbel hcb0
        rename World => V
        obtain ⟨i, o, cnt, rfl, rfl, hi, ho, hcn, hTa, hbel⟩ := hrel
        by_cases hlt2 : i < x.length
        · have hii : (i : Int) < (x.length : Int) := by omega
          obtain ⟨ins, hins⟩ := get_ex (l := x) (k := i) hlt2
          have hcb : cnt b = i := by rw [hcn.out b hlt, if_neg (by omega), if_pos rfl]
          obtain ⟨A, C, rc, fc, hrow, hgB, hgl, hgne⟩ := hTa.out.at_ hlt
          have htv : Hid (T b i = needB f.blocks.flatten ins) := hide (hT.out b i ins (insAt_of hx.out hins.out))
          have hpi := pos_ins hx.out hins.out
          rw [← ho.out] at hpi
          have hoN : o < N := by rw [hN.out]; exact (List.getElem?_eq_some_iff.1 hpi.1).1
          have hoi : (o : Int) < (N : Int) := by omega
          have rF := hFr.out o (T b i) (by rw [List.getElem?_map, hpi.1, htv.out]; rfl) hoN
          have ho2 : Hid (o + 1 = (before f.blocks b (i + 1)).length) := hide (by rw [before_step hx.out hins.out, List.length_append, ← ho.out]; rfl)
          have hcn2 : Hid (∀ k, k < n → upd cnt b (i + 1) k = if k < b then len k else if k = b then i + 1 else 0) := hide (fun k hk => by
            unfold upd
            by_cases e : k = b
            · subst e; rw [if_pos rfl, if_neg (by omega), if_pos rfl]
            · rw [if_neg e, hcn.out k hk, if_neg e, if_neg e])
          rw [hcb] at rc hrow hgne
          have hVs := hbel.size
          obtain ⟨tv, htv2⟩ : ∃ tv, Hid (tv = T b i) := ⟨_, hide rfl⟩
          rw [← htv2.out] at rF
          have rF1 := rF V hbel
          have hcbh := hide hcb
          replace hpi := hide hpi
          have hrowh := hide hrow
          have hgneh := hide hgne
          clear hcb hrow hgne rF
          have rch := hide rc
          have rc1 : V.drew.cell? ⟨X.heap.size, b, none⟩ = some (.slice A i C) := rc
          have rc2 : (V.alloc (.cells #[.bool tv] 4)).drew.cell? ⟨X.heap.size, b, none⟩ = some (.slice A i C) := ((Below.refl V.heap.size V).alloc (Nat.le_refl _) _ |>.cell (p := ⟨X.heap.size, b, none⟩) hgl).trans rc
          have rF2 : V.drew.cell? ⟨gF, o, none⟩ = some (.bool tv) := rF1
          go_upto_region 10 with (fail)
          go_cut [5] (fun s wx => s = .int .i64 (o : Int) ∧ Hid (TabR wx X.heap.size X.heap.size n (upd cnt b (i + 1)) T) ∧ Below X.heap.size X wx)
          case first =>
            go_region_law ((refine step_append_lies _ (by rfl) (.tmp 37) (.tmp 42) 36 (by rfl) X.heap.size 4 j0 (.bool false) 1 1 Try.underlying36 hj0.out hy0.out hy1.out hy2.out (by rfl) (by omega) (.slice A i C) i (((List.range i).map (T b)).map Value.bool) (by rfl) (by exact hrowh.out.alloc _) ⟨V.heap.size, 0, none⟩ 1 1 [.bool tv] (by rfl) (by rfl) (by exact World.news_of_block (cs := #[.bool tv]) (t := 4) (fr := (0, 0)) (heap_alloc_new V _)) (by simp [Value.oneCell']) (by omega) (by unfold maxLen; omega) (by omega) (by simp; omega) (V.heap.size + 1) (by simp) ?_; intro gq cq w1 hown1 hg1 hgq hlt1; have hlw : (∀ q, (Value.slice A i C).ownBlock = some q → q < V.heap.size ∧ X.heap.size ≤ q) := (fun q hq => ⟨(row_lt hrowh.out hq).2.1, (row_lt hrowh.out hq).1⟩); have kg : w1.heap[X.heap.size]? = V.heap[X.heap.size]? := (hg1.block X.heap.size (by simp; omega) (fun e => hgneh.out _ e.symm rfl)).trans (Below.heap_alloc _ _ _ hgl); have k1 := (World.cell?_of_block (a := ⟨X.heap.size, b, none⟩) kg).trans rch.out; have f1 : w1.frozen? ⟨X.heap.size, b, none⟩ = false := (by have hh := fc; simp only [World.frozen?] at hh ⊢; rw [kg]; exact hh); have hTn := hide (TabR.push hTa.out (((Below.refl _ _).alloc (Nat.le_refl _) _).drew) hlt (by rw [hcbh.out]; exact rch.out) (by rw [hcbh.out]; exact hg1) (by rw [hcbh.out]; exact hgq.imp id (fun h => by simp; omega)) (by rw [hcbh.out, ← htv2.out]; exact hown1)); rw [hcbh.out] at hTn; have hb1 := hide ((((hbel.alloc hVs _).drew).grown hg1 (by simp; omega) (fun q hq => (hlw q hq).2)).setCell (p := ⟨X.heap.size, b, none⟩) (Nat.le_refl _) (.slice (some ⟨gq, 0, none⟩) (i + 1) cq)); replace kg := hide kg; replace hlw := hide hlw; replace hown1 := hide hown1; replace hg1 := hide hg1; replace hgq := hide hgq; replace hlt1 := hide hlt1))
            all_goals go_wp2_with (fail)
            all_goals go_meet
            all_goals exact ⟨rfl, hTn, hb1.out⟩
          case rest =>
            obtain ⟨rfl, hT2, hbel2⟩ := hcut
            clear rc rc1 rc2 rF1 rF2 fc hTa hbel hrowh hgneh rch
            go_wp2
            go_roundw
            case rel => exact ⟨i + 1, o + 1, _, by go_num, by go_num, hlt2, ho2, hcn2, hT2, hbel2⟩
            case measure => simp [intOf]; omega
        · obtain rfl : i = x.length := by omega
          have ho2 : Hid (o = (before f.blocks (b + 1) 0).length) := hide (by rw [← before_next hx.out]; exact ho.out)
          have hcn2 : Hid (∀ k, k < n → cnt k = if k < b + 1 then len k else 0) := hide (fun k hk => by
            rw [hcn.out k hk]
            by_cases e : k = b
            · subst e; rw [if_neg (by omega), if_pos rfl, if_pos (by omega), hlb.out]
            · by_cases e2 : k < b
              · rw [if_pos e2, if_pos (by omega)]
              · rw [if_neg e2, if_neg e, if_neg (by omega)])
          go_wp2
          go_roundw
          case rel => exact ⟨b + 1, o, cnt, by go_num, rfl, hlt, ho2, hcn2, hTa, hbel⟩
          case measure => simp [intOf]; omega
    · obtain rfl : b = n := by omega
      have hfin : Hid (ReadsT V X.heap.size f.blocks.length (fun b => (f.blocks.getD b []).length) T) := hide (by
        have h := (hTa.out.congr (cnt' := len) (fun k hk => by rw [hcn.out k hk, if_pos hk])).reads
        rw [hlen.out, hn.out] at h
        exact h)
      go_wp2
      go_ret
      exact ⟨X.heap.size, T, by rw [← hn.out]; first | done | rfl, hfin.out, hT.out, hwX.out V hbel⟩
end Go.Proofs.Ytkhlnopbgngjbaa
