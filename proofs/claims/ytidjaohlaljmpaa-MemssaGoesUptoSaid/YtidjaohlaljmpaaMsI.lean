/- memssa's phis told: the plain side, and two rows of one access that grow in one statement. No condition. -/
import Derived.Test.YtidjaohlaljmpaaMsH
import Derived.Test.YtidjaohlaljmpaaHst
namespace Go.Proofs.Ytidjaohlaljmpaa
open Go.RowKit
set_option linter.unusedSimpArgs false
set_option linter.unusedVariables false

/-- the reachable ones of the first i of a row -/
def fromP (o p : List Int) (i : Nat) : List Int := (p.take i).filter fun x => decide (x ∈ o)
theorem fromP_step {o p : List Int} {i : Nat} {x : Int} (hx : p[i]? = some x) : fromP o p (i + 1) = fromP o p i ++ (if x ∈ o then [x] else []) := by
  unfold fromP
  rw [List.take_add_one, hx, List.filter_append]
  by_cases e : x ∈ o
  · simp [e]
  · simp [e]
theorem fromP_len {o p : List Int} {i : Nat} : (fromP o p i).length ≤ p.length := by
  unfold fromP
  exact Nat.le_trans (List.length_filter_le ..) (by rw [List.length_take]; omega)
theorem fromP_end {o p : List Int} {P : List (List Int)} {b : Nat} (hp : P[b]? = some p) : fromP o p p.length = fromL P o b := by
  unfold fromP fromL
  rw [List.take_length, Int.toNat_natCast, List.getD_eq_getElem?_getD, hp]; rfl
/-- the accesses while the phis of the blocks below k are told -/
structure PhK (bs : List (List Ins)) (H : Nat → Bool) (o l : List Int) (P : List (List Int)) (n k : Nat) (ls : List Ac) : Prop where
  len : ls.length = (laidA bs H o n).length
  at_ : ∀ (j : Nat) a, (laidA bs H o n)[j]? = some a → ls[j]? = some (if a.kind = 1 ∨ a.kind = 2 ∨ a.kind = 3 ∧ a.block < k then accD (laidA bs H o n) l o P j a else a)
section
variable {bs : List (List Ins)} {H : Nat → Bool} {o l : List Int} {P : List (List Int)} {n k : Nat} {ls : List Ac}
theorem phk_start : PhK bs H o l P n 0 (stoodA (laidA bs H o n) l o P) := ⟨stood_len, fun j a ha => by
  rw [stood_at ha]
  congr 1
  by_cases h : a.kind = 1 ∨ a.kind = 2
  · rw [if_pos h, if_pos (h.imp id .inl)]
  · rw [if_neg h, if_neg]
    rintro (h1 | h1 | ⟨h1, h2⟩)
    · exact h (.inl h1)
    · exact h (.inr h1)
    · have h0 : 0 < j := Nat.pos_of_ne_zero fun e => by
        subst e
        rw [laidA_zero] at ha
        cases ha
        cases h1
      obtain ⟨c, h3, -⟩ := seg_of ha h0
      omega⟩
theorem phk_none (h : PhK bs H o l P n k ls) (hk : ¬ ((k : Int) ∈ o ∧ H k = true)) : PhK bs H o l P n (k + 1) ls := ⟨h.len, fun j a ha => by
  rw [h.at_ j a ha]
  congr 1
  by_cases h1 : a.kind = 3 ∧ a.block = k
  · exfalso
    have h0 : 0 < j := Nat.pos_of_ne_zero fun e => by
      subst e
      rw [laidA_zero] at ha
      cases ha
      cases h1.1
    obtain ⟨c, h3, h4⟩ := laidA_mem n ha h0
    obtain ⟨h5, h6⟩ := blkA_mem h4.1
    rcases h6 with ⟨h6, rfl⟩ | ⟨i, q, -, h7, rfl⟩
    · have e : c = k := by have := h1.2; show c = k; have e2 : (c : Int) = k := this; omega
      subst e
      exact hk ⟨h5, h6⟩
    · rcases h7 with rfl | rfl <;> cases h1.1
  · by_cases h2 : a.kind = 1 ∨ a.kind = 2 ∨ a.kind = 3 ∧ a.block < (k : Int)
    · rw [if_pos h2, if_pos (h2.imp id (Or.imp id fun h => ⟨h.1, by omega⟩))]
    · rw [if_neg h2, if_neg]
      rintro (h3 | h3 | ⟨h3, h4⟩)
      · exact h2 (.inl h3)
      · exact h2 (.inr (.inl h3))
      · exact h2 (.inr (.inr ⟨h3, by have : ¬ a.block = k := fun e => h1 ⟨h3, e⟩; omega⟩))⟩
theorem phk_put (h : PhK bs H o l P n k ls) (hkn : k < n) (hko : (k : Int) ∈ o) (hH : H k = true) {p : List Int} (hp : P[k]? = some p) :
    PhK bs H o l P n (k + 1) (ls.set (offA bs H o k) ⟨3, k, -1, (fromP o p p.length).map fun q => endF (laidA bs H o n) l o q.toNat, fromP o p p.length⟩) := by
  have hphi := seg_phi (bs := bs) hkn hko hH
  have hil := (List.getElem?_eq_some_iff.1 hphi).1
  refine ⟨by rw [List.length_set]; exact h.len, fun j a ha => ?_⟩
  by_cases e : offA bs H o k = j
  · subst e
    rw [hphi] at ha
    cases ha
    rw [List.getElem?_set_self (by rw [h.len]; exact hil), if_pos (.inr (.inr ⟨rfl, by show (k : Int) < (k + 1 : Nat); omega⟩))]
    rw [fromP_end hp]
    rfl
  · rw [List.getElem?_set_ne e, h.at_ j a ha]
    congr 1
    by_cases h2 : a.kind = 1 ∨ a.kind = 2 ∨ a.kind = 3 ∧ a.block < (k : Int)
    · rw [if_pos h2, if_pos (h2.imp id (Or.imp id fun h => ⟨h.1, by omega⟩))]
    · rw [if_neg h2, if_neg]
      rintro (h3 | h3 | ⟨h3, h4⟩)
      · exact h2 (.inl h3)
      · exact h2 (.inr (.inl h3))
      · refine h2 (.inr (.inr ⟨h3, ?_⟩))
        have hne : ¬ a.block = k := fun e3 => by
          have h0 : 0 < j := Nat.pos_of_ne_zero fun e => by
            subst e
            rw [laidA_zero] at ha
            cases ha
            cases h3
          obtain ⟨c, h5, h6, h7, h8, h9⟩ := seg_of ha h0
          have ec : c = k := by omega
          subst ec
          have h10 : fstA bs H o c ≤ j := by unfold fstA; rw [if_pos hH]; omega
          obtain ⟨q, i, h11, h12⟩ := seg_code (n := n) h6 h7 h10 h9
          rw [ha] at h11
          cases h11
          rcases h12 with h12 | h12 <;> rw [h12] at h3 <;> cases h3
        omega
theorem phk_at (h : PhK bs H o l P n k ls) (hkn : k < n) (hko : (k : Int) ∈ o) (hH : H k = true) : ls[offA bs H o k]? = some ⟨3, k, -1, [], []⟩ := by
  rw [h.at_ _ _ (seg_phi (bs := bs) hkn hko hH), if_neg]
  rintro (h1 | h1 | ⟨-, h2⟩)
  · cases h1
  · cases h1
  · exact absurd h2 (by show ¬ (k : Int) < k; omega)
theorem phk_end (h : PhK bs H o l P n n ls) : ls = builtA (laidA bs H o n) l o P := by
  refine List.ext_getElem? fun j => ?_
  rcases Nat.lt_or_ge j (laidA bs H o n).length with hj | hj
  · have ha := List.getElem?_eq_getElem hj
    rw [h.at_ j _ ha, built_at ha]
    congr 1
    by_cases h2 : (laidA bs H o n)[j].kind = 1 ∨ (laidA bs H o n)[j].kind = 2 ∨ (laidA bs H o n)[j].kind = 3 ∧ (laidA bs H o n)[j].block < (n : Int)
    · rw [if_pos h2]
    · rw [if_neg h2]
      rcases kind_nat ha with h3 | h3 | h3 | h3
      · unfold accD
        rw [if_neg (by rw [h3]; simp), if_neg (by rw [h3]; simp)]
      · exact absurd (.inl h3) h2
      · exact absurd (.inr (.inl h3)) h2
      · exfalso
        refine h2 (.inr (.inr ⟨h3, ?_⟩))
        have h0 : 0 < j := Nat.pos_of_ne_zero fun e => by
          subst e
          rw [laidA_zero] at ha
          have e2 := Option.some.inj ha
          rw [← e2] at h3
          cases h3
        obtain ⟨c, h5, h6, -⟩ := seg_of ha h0
        omega
  · rw [List.getElem?_eq_none (by rw [h.len]; exact hj), List.getElem?_eq_none (by unfold builtA; simp; exact hj)]
end
/-- the rows of one access, e, under way: the world u behind V -/
structure Mid (V u : World) (e : AcV) (Bo : Nat) (vf vd : Value) (lf ld : List Int) : Prop where
  on : Only (fun q => e.has q) V.heap.size V u
  f : OwnI u Bo vf lf
  d : OwnI u Bo vd ld
  sep : ∀ q, vd.ownBlock = some q → vf.ownBlock ≠ some q
  frf : ∀ q, vf.ownBlock = some q → e.has q ∨ V.heap.size ≤ q
  frd : ∀ q, vd.ownBlock = some q → e.has q ∨ V.heap.size ≤ q
/-- a new block with one number in it -/
structure New1 (V u : World) (vf vd : Value) (g : Nat) (x : Int) : Prop where
  blk : u.heap[g]? = some (.cells #[.int .i64 x] 3 (0, 0))
  low : V.heap.size ≤ g
  nf : vf.ownBlock ≠ some g
  nd : vd.ownBlock ≠ some g
section
variable {V u u' : World} {e : AcV} {Bo g g' : Nat} {vf vd : Value} {lf ld : List Int} {x x' : Int} {o : Obj}
theorem Mid.drew (h : Mid V u e Bo vf vd lf ld) : Mid V u.drew e Bo vf vd lf ld := ⟨h.on.drew, ⟨row_kept h.f.row fun _ _ => rfl, h.f.ok⟩, ⟨row_kept h.d.row fun _ _ => rfl, h.d.ok⟩, h.sep, h.frf, h.frd⟩
theorem Only.cut_ {S : Nat → Prop} {B B' : Nat} {w w' : World} (h : Only (fun q => S q ∨ B ≤ q) B' w w') (hB : B ≤ B') : Only S B w w' :=
  ⟨h.os, h.tape, h.output, h.size, fun k hk hs => h.block k (by omega) (fun h' => by
    rcases h' with h' | h'
    · exact hs h'
    · omega)⟩
theorem New1.lt (h : New1 V u vf vd g x) : g < u.heap.size := (Array.getElem?_eq_some_iff.1 h.blk).1
theorem Mid.alloc (h : Mid V u e Bo vf vd lf ld) (x : Int) : Mid V (u.alloc (.cells #[.int .i64 x] 3)) e Bo vf vd lf ld ∧ New1 V (u.alloc (.cells #[.int .i64 x] 3)) vf vd u.heap.size x := by
  have hb := bk u (.cells #[.int .i64 x] 3)
  refine ⟨⟨h.on.alloc h.on.size _, h.f.below hb, h.d.below hb, h.sep, h.frf, h.frd⟩, box_top _ _, h.on.size, fun hq => ?_, fun hq => ?_⟩
  · have := (row_lt h.f.row hq).2.1; omega
  · have := (row_lt h.d.row hq).2.1; omega
theorem New1.alloc (h : New1 V u vf vd g x) (o : Obj) : New1 V (u.alloc o) vf vd g x := ⟨one_alloc h.blk o, h.low, h.nf, h.nd⟩
theorem OwnI.app {w' : World} {cap : Nat} (h : OwnI u Bo vf lf) (hx : I64 x) (hown : u'.ownsRow Bo 3 1 (.slice (some ⟨g, 0, none⟩) (lf.length + 1) cap) (lf.length + 1) (lf.map (fun z => Value.int .i64 z) ++ [.int .i64 x])) : OwnI u' Bo (.slice (some ⟨g, 0, none⟩) (lf.length + 1) cap) (lf ++ [x]) := OwnI.snoc h.ok hx hown
theorem Mid.appf {cap : Nat} (h : Mid V u e Bo vf vd lf ld) (hx : I64 x) (hown : u'.ownsRow Bo 3 1 (.slice (some ⟨g, 0, none⟩) (lf.length + 1) cap) (lf.length + 1) (lf.map (fun z => Value.int .i64 z) ++ [.int .i64 x])) (hg : u.grownBy u' vf.ownBlock) (hq : vf.ownBlock = some g ∨ g = u.heap.size) :
    Mid V u' e Bo (.slice (some ⟨g, 0, none⟩) (lf.length + 1) cap) vd (lf ++ [x]) ld := by
  refine ⟨h.on.grown h.on.size hg (fun q hq => (h.frf q hq)), OwnI.snoc h.f.ok hx hown, ⟨row_kept h.d.row fun q hq' => hg.block q (row_lt h.d.row hq').2.1 (fun e' => h.sep q hq' e'.symm), h.d.ok⟩, fun q hq' e' => ?_, fun q e' => ?_, h.frd⟩
  · have e2 : g = q := Option.some.inj e'
    subst e2
    rcases hq with hq | hq
    · exact h.sep g hq' hq
    · have := (row_lt h.d.row hq').2.1; omega
  · have e2 : g = q := Option.some.inj e'
    subst e2
    rcases hq with hq | hq
    · exact h.frf g hq
    · have := h.on.size; exact .inr (by omega)
theorem Mid.appd {cap : Nat} (h : Mid V u e Bo vf vd lf ld) (hx : I64 x) (hown : u'.ownsRow Bo 3 1 (.slice (some ⟨g, 0, none⟩) (ld.length + 1) cap) (ld.length + 1) (ld.map (fun z => Value.int .i64 z) ++ [.int .i64 x])) (hg : u.grownBy u' vd.ownBlock) (hq : vd.ownBlock = some g ∨ g = u.heap.size) :
    Mid V u' e Bo vf (.slice (some ⟨g, 0, none⟩) (ld.length + 1) cap) lf (ld ++ [x]) := by
  refine ⟨h.on.grown h.on.size hg (fun q hq => (h.frd q hq)), ⟨row_kept h.f.row fun q hq' => hg.block q (row_lt h.f.row hq').2.1 (fun e' => h.sep q e'.symm hq'), h.f.ok⟩, OwnI.snoc h.d.ok hx hown, fun q e' hq' => ?_, h.frf, fun q e' => ?_⟩
  · have e2 : g = q := Option.some.inj e'
    subst e2
    rcases hq with hq | hq
    · exact h.sep g hq hq'
    · have := (row_lt h.f.row hq').2.1; omega
  · have e2 : g = q := Option.some.inj e'
    subst e2
    rcases hq with hq | hq
    · exact h.frd g hq
    · have := h.on.size; exact .inr (by omega)
theorem New1.appf {v' : Value} (h : New1 V u vf vd g' x') (hg : u.grownBy u' vf.ownBlock) (hv : v'.ownBlock = some g) (hq : vf.ownBlock = some g ∨ g = u.heap.size) : New1 V u' v' vd g' x' := by
  refine ⟨(hg.block g' h.lt (fun e => h.nf e.symm)).trans h.blk, h.low, fun e => ?_, h.nd⟩
  rw [hv] at e
  have e2 : g = g' := Option.some.inj e
  subst e2
  rcases hq with hq | hq
  · exact h.nf hq
  · have := h.lt; omega
theorem New1.appd {v' : Value} (h : New1 V u vf vd g' x') (hg : u.grownBy u' vd.ownBlock) (hv : v'.ownBlock = some g) (hq : vd.ownBlock = some g ∨ g = u.heap.size) : New1 V u' vf v' g' x' := by
  refine ⟨(hg.block g' h.lt (fun e => h.nd e.symm)).trans h.blk, h.low, h.nf, fun e => ?_⟩
  rw [hv] at e
  have e2 : g = g' := Option.some.inj e
  subst e2
  rcases hq with hq | hq
  · exact h.nd hq
  · have := h.lt; omega
end
section
variable {V u : World} {B Bo gB gp gf ge : Nat} {x0 x1 x2 x3 : Value} {n : Nat} {ls : List Ac} {es : List AcV} {Lp Lf Le : List Int}
theorem Mid.start {v : Value} {ls : List Ac} {es : List AcV} {B i : Nat} {a : Ac} {e : AcV} (h : OwnAc V B Bo v ls es) (ha : ls[i]? = some a) (he : es[i]? = some e) : Mid V V e Bo e.f e.d a.orig a.defs := by
  obtain ⟨h1, h2⟩ := h.inn i a e ha he
  exact ⟨Only.refl _ _ _, h2, h1, fun q hd hf => h.self i e he q hd hf, fun q hq => .inl (.inr hq), fun q hq => .inl (.inl hq)⟩
/-- both slices stored -/
theorem Bld.both {go N Co i : Nat} {a : Ac} {e : AcV} {vf vd : Value} {lf ld : List Int} (h : Bld V B Bo gB gp gf ge x0 x1 x2 x3 (.slice (some ⟨go, 0, none⟩) N Co) n ls es Lp Lf Le) (ha : ls[i]? = some a) (he : es[i]? = some e) (hm : Mid V u e Bo vf vd lf ld) :
    Bld ((u.setCell ⟨go, i * 5 + 4, none⟩ vf).setCell ⟨go, i * 5 + 3, none⟩ vd) B Bo gB gp gf ge x0 x1 x2 x3 (.slice (some ⟨go, 0, none⟩) N Co) n (ls.set i ⟨a.kind, a.block, a.pos, ld, lf⟩) (es.set i ⟨vd, vf⟩) Lp Lf Le := by
  have hgo := row_lt h.out.row (k := go) rfl
  obtain ⟨hgo1, hgo2, cg, hgo3⟩ := hgo
  have hN : N = ls.length := h.out.num
  have hel := (List.getElem?_eq_some_iff.1 he).1
  have hal := (List.getElem?_eq_some_iff.1 ha).1
  have hgoe : ¬ e.has go := fun hh => by
    obtain ⟨-, -, c, hc⟩ := h.out.in_lt he hh
    exact blk_ne hc hgo3 (by decide) rfl
  have hfar : ∀ k, k < V.heap.size → ¬ e.has k → k ≠ go → ((u.setCell ⟨go, i * 5 + 4, none⟩ vf).setCell ⟨go, i * 5 + 3, none⟩ vd).heap[k]? = V.heap[k]? := fun k hk h1 h2 => by
    rw [Below.heap_setCell _ _ _ _ (show k ≠ (⟨go, i * 5 + 3, none⟩ : Addr).block from h2), Below.heap_setCell _ _ _ _ (show k ≠ (⟨go, i * 5 + 4, none⟩ : Addr).block from h2)]
    exact hm.on.block k hk h1
  have hint : ∀ {g : Nat} {l : List Int}, OwnN V B g n l → g < V.heap.size ∧ g ≠ go := fun hg => by
    obtain ⟨c, hc⟩ := hg.blk
    exact ⟨hg.lt.2, blk_ne hc hgo3 (by decide)⟩
  have hrow : u.ownsRow Bo 57 5 (.slice (some ⟨go, 0, none⟩) N Co) N (List.zipWith acC ls es).flatten := by
    have hr := h.out.row
    rw [← hN] at hr
    exact row_kept hr fun k hk => by
      have e9 : go = k := Option.some.inj hk
      subst e9
      exact hm.on.block go hgo2 hgoe
  have h1 := ac_row_put (j := 4) (u := vf) hrow acC_all (acC_at ha he) (by omega)
  have hall : ∀ c, c ∈ (List.zipWith acC ls es).set i ((acC a e).set 4 vf) → c.length = 5 := fun c hc => by
    rcases List.mem_or_eq_of_mem_set hc with h2 | h2
    · exact acC_all c h2
    · rw [h2]; rfl
  have h2 := ac_row_put (j := 3) (u := vd) h1 hall (List.getElem?_set_self (by rw [List.length_zipWith]; omega)) (by omega)
  rw [List.set_set] at h2
  have h3 : ((u.setCell ⟨go, i * 5 + 4, none⟩ vf).setCell ⟨go, i * 5 + 3, none⟩ vd).ownsRow Bo 57 5 (.slice (some ⟨go, 0, none⟩) N Co) N (List.zipWith acC (ls.set i ⟨a.kind, a.block, a.pos, ld, lf⟩) (es.set i ⟨vd, vf⟩)).flatten := by
    rw [← zip_set h.out.len hal]
    exact h2
  have hkeep : ∀ {v : Value} {l : List Int}, OwnI u Bo v l → (∀ q, v.ownBlock = some q → q ≠ go) → OwnI ((u.setCell ⟨go, i * 5 + 4, none⟩ vf).setCell ⟨go, i * 5 + 3, none⟩ vd) Bo v l := fun hv hq => ⟨row_kept hv.row fun q hq' => by
    rw [Below.heap_setCell _ _ _ _ (show q ≠ (⟨go, i * 5 + 3, none⟩ : Addr).block from hq q hq'), Below.heap_setCell _ _ _ _ (show q ≠ (⟨go, i * 5 + 4, none⟩ : Addr).block from hq q hq')], hv.ok⟩
  have hgou : u.heap[go]? = some (.cells cg 57 (0, 0)) := (hm.on.block go hgo2 hgoe).trans hgo3
  have hqf : ∀ q, vf.ownBlock = some q → q ≠ go := fun q hq => by
    obtain ⟨-, -, c, hc⟩ := row_lt hm.f.row hq
    exact blk_ne hc hgou (by decide)
  have hqd : ∀ q, vd.ownBlock = some q → q ≠ go := fun q hq => by
    obtain ⟨-, -, c, hc⟩ := row_lt hm.d.row hq
    exact blk_ne hc hgou (by decide)
  have hsepe := h.sep i e
  refine ⟨(hfar gB h.lt (fun hh => by
      obtain ⟨-, -, c, hc⟩ := h.out.in_lt he hh
      exact blk_ne h.box hc (by decide) rfl) (blk_ne h.box hgo3 (by decide))).trans h.box, h.low, h.bo, h.out.remake (x' := ⟨a.kind, a.block, a.pos, ld, lf⟩) (e' := ⟨vd, vf⟩) ha he h3 (hkeep hm.d hqd) (hkeep hm.f hqf) (fun q hq => hm.sep q hq) (fun k _ hk h4 h5 => hfar k hk h4 h5) (fun k hk => ?_), h.p.keep (hfar gp (hint h.p).1 (fun hh => (hsepe gp he hh).1 rfl) (hint h.p).2), h.f.keep (hfar gf (hint h.f).1 (fun hh => (hsepe gf he hh).2.1 rfl) (hint h.f).2), h.e.keep (hfar ge (hint h.e).1 (fun hh => (hsepe ge he hh).2.2 rfl) (hint h.e).2), h.pf, h.pe, h.fe, fun j ej k hj hk => ?_⟩
  · rcases hk with hk | hk
    · exact hm.frd k hk
    · exact hm.frf k hk
  · by_cases e2 : i = j
    · subst e2
      rw [List.getElem?_set_self hel] at hj
      cases hj
      have h6 : e.has k ∨ V.heap.size ≤ k := by
        rcases hk with hk | hk
        · exact hm.frd k hk
        · exact hm.frf k hk
      rcases h6 with h6 | h6
      · exact hsepe k he h6
      · have h7 := (hint h.p).1
        have h8 := (hint h.f).1
        have h9 := (hint h.e).1
        omega
    · rw [List.getElem?_set_ne e2] at hj
      exact h.sep j ej k hj hk
end
end Go.Proofs.Ytidjaohlaljmpaa
