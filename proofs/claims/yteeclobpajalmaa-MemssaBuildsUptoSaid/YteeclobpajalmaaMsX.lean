/- latheref19.Build. No condition but sizes. -/
import Derived.Test.YteeclobpajalmaaMsW
import Derived.Test.YteeclobpajalmaaMsI
namespace Go.Proofs.Yteeclobpajalmaa
open Go.RowKit
set_option linter.unusedSimpArgs false
set_option linter.unusedVariables false

/-- the row of accesses while it is told: the first i of them -/
noncomputable def bK (L : List Ac) (l o : List Int) (P : List (List Int)) (i : Nat) : List Ac := L.mapIdx fun j a => if j < i then accD L l o P j a else a
section
variable {L : List Ac} {l o : List Int} {P : List (List Int)} {i j : Nat} {a : Ac}
theorem bK_at (h : L[j]? = some a) : (bK L l o P i)[j]? = some (if j < i then accD L l o P j a else a) := by
  unfold bK
  rw [List.getElem?_mapIdx, h]; rfl
theorem bK_len : (bK L l o P i).length = L.length := by simp [bK]
theorem bK_ext {ls : List Ac} (hl : ls.length = L.length) (h : ∀ (j : Nat) a, L[j]? = some a → ls[j]? = some (if j < i then accD L l o P j a else a)) : ls = bK L l o P i := by
  refine List.ext_getElem? fun j => ?_
  rcases Nat.lt_or_ge j L.length with hj | hj
  · have ha := List.getElem?_eq_getElem hj
    rw [h j _ ha, bK_at ha]
  · rw [List.getElem?_eq_none (by omega), List.getElem?_eq_none (by rw [bK_len]; exact hj)]
theorem bK_set (h : L[i]? = some a) : (bK L l o P i).set i (accD L l o P i a) = bK L l o P (i + 1) := by
  have hi := (List.getElem?_eq_some_iff.1 h).1
  refine bK_ext (by rw [List.length_set, bK_len]) fun j c hc => ?_
  by_cases e : i = j
  · subst e
    rw [h] at hc
    cases hc
    rw [List.getElem?_set_self (by rw [bK_len]; exact hi), if_pos (Nat.lt_succ_self _)]
  · rw [List.getElem?_set_ne e, bK_at hc]
    congr 1
    by_cases h1 : j < i
    · rw [if_pos h1, if_pos (by omega)]
    · rw [if_neg h1, if_neg (by omega)]
theorem bK_one (h : ∀ a, L[0]? = some a → a.kind = 0) : L = bK L l o P 1 := bK_ext rfl fun j a ha => by
  rw [ha]
  congr 1
  by_cases hj : j < 1
  · have e : j = 0 := by omega
    subst e
    have := h a ha
    rw [if_pos (by omega)]
    unfold accD
    rw [if_neg (by omega), if_neg (by omega)]
  · rw [if_neg hj]
theorem bK_end : bK L l o P L.length = builtA L l o P := by
  unfold bK builtA
  refine List.ext_getElem? fun j => ?_
  rw [List.getElem?_mapIdx, List.getElem?_mapIdx]
  rcases Nat.lt_or_ge j L.length with hj | hj
  · rw [List.getElem?_eq_getElem hj]
    show some (if j < L.length then _ else _) = some _
    rw [if_pos hj]
  · rw [List.getElem?_eq_none hj]; rfl
end
theorem accD_fix {L : List Ac} {l o : List Int} {P : List (List Int)} {i : Nat} {a : Ac} : (accD L l o P i a).kind = a.kind ∧ (accD L l o P i a).block = a.block ∧ (accD L l o P i a).pos = a.pos := by
  unfold accD
  split
  · exact ⟨rfl, rfl, rfl⟩
  · split <;> exact ⟨rfl, rfl, rfl⟩
/-- the kinds, blocks and places of two rows are alike -/
def AlikeA (L ls : List Ac) : Prop := ∀ (j : Nat) a, L[j]? = some a → ∃ a', ls[j]? = some a' ∧ a'.kind = a.kind ∧ a'.block = a.block ∧ a'.pos = a.pos
theorem bK_alike {L : List Ac} {l o : List Int} {P : List (List Int)} {i : Nat} : AlikeA L (bK L l o P i) := fun j a ha => by
  refine ⟨_, bK_at ha, ?_⟩
  split
  · exact accD_fix
  · exact ⟨rfl, rfl, rfl⟩
theorem AlikeA.set {L ls : List Ac} (h : AlikeA L ls) {i : Nat} {x : Ac} {ld lf : List Int} (hx : ls[i]? = some x) : AlikeA L (ls.set i ⟨x.kind, x.block, x.pos, ld, lf⟩) := fun j a ha => by
  obtain ⟨a', h1, h2⟩ := h j a ha
  by_cases e : i = j
  · subst e
    rw [hx] at h1
    cases h1
    exact ⟨_, List.getElem?_set_self (List.getElem?_eq_some_iff.1 hx).1, h2⟩
  · exact ⟨a', by rw [List.getElem?_set_ne e]; exact h1, h2⟩
theorem AlikeA.rd {L ls : List Ac} (h : AlikeA L ls) {w : World} {B Bi go N C : Nat} {es : List AcV} (ho : OwnAc w B Bi (.slice (some ⟨go, 0, none⟩) N C) ls es) : RdA w go L :=
  ⟨(row_lt ho.row (k := go) rfl).2.1, fun i a ha => by
    obtain ⟨a', h1, h2, h3, h4⟩ := h i a ha
    obtain ⟨e, he⟩ := ho.at_ h1
    obtain ⟨g1, g2, g3, -⟩ := ho.cells h1 he
    rw [← h2, ← h3, ← h4]
    exact ⟨g1, g2, g3⟩⟩
/-- one access's rows grown or made anew, one slice stored (j = 3: what it stands on; j = 4: where it comes from) -/
theorem OwnAc.mid {V u : World} {Bo go N Co i j : Nat} {x : Ac} {e : AcV} {ls : List Ac} {es : List AcV} {vf vd vj : Value} {lf ld : List Int} (h : OwnAc V Bo Bo (.slice (some ⟨go, 0, none⟩) N Co) ls es) (hx : ls[i]? = some x) (he : es[i]? = some e) (hm : Mid V u e Bo vf vd lf ld)
    (hj : j < 5) (hcell : acC ⟨x.kind, x.block, x.pos, ld, lf⟩ ⟨vd, vf⟩ = (acC x e).set j vj) :
    OwnAc (u.setCell ⟨go, i * 5 + j, none⟩ vj) Bo Bo (.slice (some ⟨go, 0, none⟩) N Co) (ls.set i ⟨x.kind, x.block, x.pos, ld, lf⟩) (es.set i ⟨vd, vf⟩) := by
  obtain ⟨hgo1, hgo2, cg, hgo3⟩ := row_lt h.row (k := go) rfl
  have hN : N = ls.length := h.num
  have hel := (List.getElem?_eq_some_iff.1 he).1
  have hal := (List.getElem?_eq_some_iff.1 hx).1
  have hgoe : ¬ e.has go := fun hh => by
    obtain ⟨-, -, c, hc⟩ := h.in_lt he hh
    exact blk_ne hc hgo3 (by decide) rfl
  have hrow : u.ownsRow Bo 37 5 (.slice (some ⟨go, 0, none⟩) N Co) N (List.zipWith acC ls es).flatten := by
    have hr := h.row
    rw [← hN] at hr
    exact row_kept hr fun k hk => by
      have e9 : go = k := Option.some.inj hk
      subst e9
      exact hm.on.block go hgo2 hgoe
  have h1 := ac_row_put (j := j) (u := vj) hrow acC_all (acC_at hx he) hj
  have h3 : (u.setCell ⟨go, i * 5 + j, none⟩ vj).ownsRow Bo 37 5 (.slice (some ⟨go, 0, none⟩) N Co) N (List.zipWith acC (ls.set i ⟨x.kind, x.block, x.pos, ld, lf⟩) (es.set i ⟨vd, vf⟩)).flatten := by
    rw [← zip_set h.len hal, hcell]
    exact h1
  have hgou : u.heap[go]? = some (.cells cg 37 (0, 0)) := (hm.on.block go hgo2 hgoe).trans hgo3
  have hkeep : ∀ {v : Value} {l : List Int}, OwnI u Bo v l → OwnI (u.setCell ⟨go, i * 5 + j, none⟩ vj) Bo v l := fun hv => ⟨row_kept hv.row fun q hq' => by
    obtain ⟨-, -, c, hc⟩ := row_lt hv.row hq'
    exact Below.heap_setCell _ _ _ _ (show q ≠ (⟨go, i * 5 + j, none⟩ : Addr).block from blk_ne hc hgou (by decide)), hv.ok⟩
  exact h.remake (x' := ⟨x.kind, x.block, x.pos, ld, lf⟩) (e' := ⟨vd, vf⟩) hx he h3 (hkeep hm.d) (hkeep hm.f) (fun q hq => hm.sep q hq) (fun k _ hk h4 h5 => by
    rw [Below.heap_setCell _ _ _ _ (show k ≠ (⟨go, i * 5 + j, none⟩ : Addr).block from h5)]
    exact hm.on.block k hk h4) (fun k hk => by
    rcases hk with hk | hk
    · exact hm.frd k hk
    · exact hm.frf k hk)
theorem Mid.lit {V u : World} {e : AcV} {Bo : Nat} {vf vd : Value} {lf ld : List Int} {z : Int} (h : Mid V u e Bo vf vd lf ld) (hB : Bo ≤ V.heap.size) (hz : I64 z) : Mid V (u.alloc (.cells #[.int .i64 z] 3)) e Bo vf (.slice (some ⟨u.heap.size, 0, none⟩) 1 1) lf [z] := by
  have hb := bk u (.cells #[.int .i64 z] 3)
  have hs := h.on.size
  refine ⟨h.on.alloc h.on.size _, h.f.below hb, own_lit rfl rfl (fun x hx => by rw [List.mem_singleton.1 hx]; exact hz) rfl (by omega) (by simp), fun q hq hf => ?_, h.frf, fun q hq => ?_⟩
  · have e9 : u.heap.size = q := Option.some.inj hq
    have := (row_lt h.f.row hf).2.1
    omega
  · have e9 : u.heap.size = q := Option.some.inj hq
    exact .inr (by omega)
theorem Mid.below {V u u' : World} {e : AcV} {Bo : Nat} {vf vd : Value} {lf ld : List Int} (h : Mid V u e Bo vf vd lf ld) (hb : Below u.heap.size u u') : Mid V u' e Bo vf vd lf ld :=
  ⟨h.on.then_below (Nat.le_refl _) hb, h.f.below hb, h.d.below hb, h.sep, h.frf, h.frd⟩
def RBuildPost (L : List Ac) (l O : List Int) (P : List (List Int)) (n : Nat) (w : World) (e : Ending) (w' : World) : Prop :=
  ∃ v es, e = .returned v ∧ OwnAc w' w.heap.size w.heap.size v (if n = 0 then [] else builtA L l O P) es ∧ Below w.heap.size w w'
/-- the facts of the row behind its first i accesses -/
structure MbI (w : World) (B lo go N C : Nat) (L : List Ac) (l O : List Int) (P : List (List Int)) (i : Nat) (es : List AcV) : Prop where
  own : OwnAc w B B (.slice (some ⟨go, 0, none⟩) N C) (bK L l O P i) es
  new : ∀ (j : Nat) e q, es[j]? = some e → e.has q → lo ≤ q
  bare : ∀ (j : Nat) e, i ≤ j → es[j]? = some e → e = ⟨.slice none 0 0, .slice none 0 0⟩
/-- behind the rows of one access, at k of its predecessors -/
structure MbR (w : World) (B lo go N C : Nat) (L : List Ac) (l O : List Int) (P : List (List Int)) (i b : Nat) (lf ld : List Int) (es : List AcV) : Prop where
  own : OwnAc w B B (.slice (some ⟨go, 0, none⟩) N C) ((bK L l O P i).set i ⟨3, b, -1, ld, lf⟩) es
  new : ∀ (j : Nat) e q, es[j]? = some e → e.has q → lo ≤ q
  bare : ∀ (j : Nat) e, i < j → es[j]? = some e → e = ⟨.slice none 0 0, .slice none 0 0⟩
theorem set_news {es : List AcV} {i lo : Nat} {e' : AcV} (h : ∀ (j : Nat) e q, es[j]? = some e → e.has q → lo ≤ q) (h2 : ∀ q, e'.has q → lo ≤ q) : ∀ (j : Nat) e q, (es.set i e')[j]? = some e → e.has q → lo ≤ q := fun j e q he hq => by
  rcases List.mem_or_eq_of_mem_set (List.mem_of_getElem? he) with h3 | h3
  · obtain ⟨k, hk⟩ := List.mem_iff_getElem?.1 h3
    exact h k e q hk hq
  · rw [h3] at hq; exact h2 q hq
theorem set_bares {es : List AcV} {i k : Nat} {e' : AcV} (h : ∀ (j : Nat) e, k ≤ j → es[j]? = some e → e = ⟨.slice none 0 0, .slice none 0 0⟩) (hi : i < k) : ∀ (j : Nat) e, k ≤ j → (es.set i e')[j]? = some e → e = ⟨.slice none 0 0, .slice none 0 0⟩ := fun j e hj he => by
  rw [List.getElem?_set_ne (by omega)] at he
  exact h j e hj he
theorem AlikeA.set9 {L ls : List Ac} (h : AlikeA L ls) {i b : Nat} {a : Ac} {ld lf : List Int} (hi : i < L.length) (ha : L[i]? = some a) (hk : a = ⟨3, b, -1, [], []⟩) : AlikeA L (ls.set i ⟨3, b, -1, ld, lf⟩) := fun j c hc => by
  obtain ⟨a', h1, h2⟩ := h j c hc
  by_cases e : i = j
  · subst e
    rw [ha] at hc
    cases hc
    exact ⟨_, List.getElem?_set_self (List.getElem?_eq_some_iff.1 h1).1, by rw [hk]; exact ⟨rfl, rfl, rfl⟩⟩
  · exact ⟨a', by rw [List.getElem?_set_ne e]; exact h1, h2⟩
theorem MbR.step4 {V u : World} {B lo go N C : Nat} {L : List Ac} {l O : List Int} {P : List (List Int)} {i b : Nat} {lf ld lf' : List Int} {es : List AcV} {e : AcV} {vf : Value} (h : MbR V B lo go N C L l O P i b lf ld es) (hi : i < L.length) (he : es[i]? = some e) (hm : Mid V u e B vf e.d lf' ld) (hlo : lo ≤ V.heap.size) :
    MbR (u.setCell ⟨go, i * 5 + 4, none⟩ vf) B lo go N C L l O P i b lf' ld (es.set i ⟨e.d, vf⟩) := by
  have hx : ((bK L l O P i).set i ⟨3, b, -1, ld, lf⟩)[i]? = some ⟨3, b, -1, ld, lf⟩ := List.getElem?_set_self (by rw [bK_len]; exact hi)
  have h2 := OwnAc.mid (j := 4) (vj := vf) h.own hx he hm (by omega) rfl
  rw [List.set_set] at h2
  exact ⟨h2, set_news h.new (fun q hq => by
    rcases hq with hq | hq
    · exact h.new i e q he (.inl hq)
    · rcases hm.frf q hq with h3 | h3
      · exact h.new i e q he h3
      · omega), set_bares (fun j e hj => h.bare j e (by omega)) (Nat.lt_succ_self i)⟩
theorem MbR.step3 {V u : World} {B lo go N C : Nat} {L : List Ac} {l O : List Int} {P : List (List Int)} {i b : Nat} {lf ld ld' : List Int} {es : List AcV} {e : AcV} {vd : Value} (h : MbR V B lo go N C L l O P i b lf ld es) (hi : i < L.length) (he : es[i]? = some e) (hm : Mid V u e B e.f vd lf ld') (hlo : lo ≤ V.heap.size) :
    MbR (u.setCell ⟨go, i * 5 + 3, none⟩ vd) B lo go N C L l O P i b lf ld' (es.set i ⟨vd, e.f⟩) := by
  have hx : ((bK L l O P i).set i ⟨3, b, -1, ld, lf⟩)[i]? = some ⟨3, b, -1, ld, lf⟩ := List.getElem?_set_self (by rw [bK_len]; exact hi)
  have h2 := OwnAc.mid (j := 3) (vj := vd) h.own hx he hm (by omega) rfl
  rw [List.set_set] at h2
  exact ⟨h2, set_news h.new (fun q hq => by
    rcases hq with hq | hq
    · rcases hm.frd q hq with h3 | h3
      · exact h.new i e q he h3
      · omega
    · exact h.new i e q he (.inr hq)), set_bares (fun j e hj => h.bare j e (by omega)) (Nat.lt_succ_self i)⟩
theorem only_mid {X V u : World} {e : AcV} {Bo go k : Nat} {vf vd vj : Value} {lf ld : List Int} (hon : Only (fun q => q = go) X.heap.size X V) (hm : Mid V u e Bo vf vd lf ld) (hnew : ∀ q, e.has q → X.heap.size ≤ q) : Only (fun q => q = go) X.heap.size X (u.setCell ⟨go, k, none⟩ vj) :=
  (hon.trans ((hm.on.more (S' := fun q => q = go ∨ X.heap.size ≤ q) (fun q _ hq => .inr (hnew q hq))).cut_ hon.size)).setCell (.inl rfl) _
theorem MbI.start {V : World} {B lo go N C : Nat} {L : List Ac} {l O : List Int} {P : List (List Int)} {i b : Nat} {a : Ac} {es : List AcV} (h : MbI V B lo go N C L l O P i es) (ha : L[i]? = some a) (hk : a = ⟨3, b, -1, [], []⟩) : MbR V B lo go N C L l O P i b [] [] es := by
  have hbi : (bK L l O P i)[i]? = some a := by rw [bK_at ha, if_neg (Nat.lt_irrefl _)]
  have e : (bK L l O P i).set i ⟨3, b, -1, [], []⟩ = bK L l O P i := by
    refine List.ext_getElem? fun j => ?_
    by_cases ej : i = j
    · subst ej
      rw [List.getElem?_set_self (List.getElem?_eq_some_iff.1 hbi).1, hbi, hk]
    · rw [List.getElem?_set_ne ej]
  exact ⟨by rw [e]; exact h.own, h.new, fun j e hj => h.bare j e (by omega)⟩
theorem MbR.done {V : World} {B lo go N C : Nat} {L : List Ac} {l O : List Int} {P : List (List Int)} {i b : Nat} {a : Ac} {lf ld : List Int} {es : List AcV} (h : MbR V B lo go N C L l O P i b lf ld es) (ha : L[i]? = some a) (hk : accD L l O P i a = ⟨3, b, -1, ld, lf⟩) : MbI V B lo go N C L l O P (i + 1) es := by
  have h1 := h.own
  rw [← hk, bK_set ha] at h1
  exact ⟨h1, h.new, fun j e hj => h.bare j e (by omega)⟩
set_option maxRecDepth 100000 in
set_option maxHeartbeats 12800000 in
theorem rbuild_any (f : Fun) (c1 c2 : Value) (w : World) (B : Nat) (hB : B ≤ w.heap.size) (hf : RFun.rep w B [.string f.name, c1, .int .i64 f.ret, c2] f) (hsz : funSz f ≤ 2000000) (l : List Int) (hl : l = idomL (fun a b => domB (succsF f.blocks) (orderF f.blocks) a b) f.blocks.length) (hI : 0 < f.blocks.length → IdomOk (succsF f.blocks) (orderF f.blocks) f.blocks.length l) :
    Calls Try.prog 12 #[f.v c1 c2] w (RBuildPost (laidA f.blocks (phF f) (orderF f.blocks) f.blocks.length) l (orderF f.blocks) (predsL (succsF f.blocks) f.blocks.length) f.blocks.length w) := by
  have hs : Small f := small_of hsz
  unfold phF
  obtain ⟨hp, hb⟩ := fun_open (RFun.later hf (Below.refl _ _) hB)
  obtain ⟨A1, k1, h1, -, -⟩ := Rp.slice1_open hp
  obtain ⟨A2, k2, h2, hm2, -⟩ := Rp.slice1_open hb
  cases h1; cases h2
  clear hb
  obtain ⟨-, hb⟩ := fun_open (RFun.later hf (Below.refl _ _) hB)
  obtain ⟨A2', k2', h2', -, gb⟩ := Rp.slice1_open hb
  cases h2'
  clear hp hb
  replace gb := hide gb
  obtain ⟨n, hn⟩ : ∃ n, Hid (n = f.blocks.length) := ⟨_, hide rfl⟩
  have hnle : n ≤ 2000000 := by rw [hn.out]; exact hs.blocks
  obtain ⟨O, hO⟩ : ∃ O, Hid (O = orderF f.blocks) := ⟨_, hide rfl⟩
  obtain ⟨sc, hsc⟩ : ∃ sc, Hid (sc = succsF f.blocks) := ⟨_, hide rfl⟩
  obtain ⟨R, hR⟩ : ∃ R, Hid (R = reachF f.blocks) := ⟨_, hide rfl⟩
  obtain ⟨P, hP⟩ : ∃ P, Hid (P = predsL sc n) := ⟨_, hide rfl⟩
  have hPl : P.length = n := by rw [hP.out, predsL_len]
  have hRl : R.length = n := by rw [hR.out, hn.out, reach_len]
  have hsok : Hid (∀ b, SuccOk n (sc b)) := hide (fun b => by rw [hsc.out, hn.out]; exact succsF_ok _ _)
  have hok : Hid (OrderOk n sc O) := hide (by rw [hO.out, hn.out, hsc.out]; exact order_ok _)
  have hol : O.length ≤ n := by rw [hO.out, hn.out]; exact order_len _
  have hRat : Hid (∀ k : Nat, k < n → R[k]? = some (decide ((k : Int) ∈ O))) := hide (fun k hk => by rw [hR.out, hO.out]; exact reach_at _ _ (by rw [← hn.out]; exact hk))
  rw [← hn.out, ← hO.out, ← hsc.out, ← hP.out]
  rw [← hn.out] at hf hm2 hl hI
  obtain ⟨W, hW, hwW, hWs, hx⟩ := boxes1 w #[.string f.name, .slice A1 f.params.length k1, .int .i64 f.ret, .slice A2 n k2] 25
  have q0 : ∀ w', Below W.heap.size W w' → w'.cell? ⟨w.heap.size, 0, none⟩ = some (.string f.name) := hx 0 _ rfl
  have q1 : ∀ w', Below W.heap.size W w' → w'.cell? ⟨w.heap.size, 1, none⟩ = some (.slice A1 f.params.length k1) := hx 1 _ rfl
  have q2 : ∀ w', Below W.heap.size W w' → w'.cell? ⟨w.heap.size, 2, none⟩ = some (.int .i64 f.ret) := hx 2 _ rfl
  have q3 : ∀ w', Below W.heap.size W w' → w'.cell? ⟨w.heap.size, 3, none⟩ = some (.slice A2 n k2) := hx 3 _ rfl
  clear hx
  have hws : w.heap.size ≤ W.heap.size := by omega
  replace hWs := hide hWs
  have hself := Below.refl W.heap.size W
  have hF : Hid (∀ w', Below W.heap.size W w' → RFun.rep w' w'.heap.size [.string f.name, .slice A1 f.params.length k1, .int .i64 f.ret, .slice A2 n k2] f) := hide (fun w' h => RFun.later hf ((hwW.trans (h.mono hws)).mono hB) (Nat.le_trans hB (hwW.trans (h.mono hws)).size))
  have cRR : Hid (∀ w', Below W.heap.size W w' → Calls Try.prog 40 #[f.v (.slice A1 f.params.length k1) (.slice A2 n k2)] w' (ReachPost n R w')) := hide (fun w' h => by
    have := rreach_any f (.slice A1 f.params.length k1) (.slice A2 n k2) w' w'.heap.size (Nat.le_refl _) (hF.out w' h) hs
    rwa [← hn.out, ← hR.out] at this)
  have cP : Hid (∀ w', Below W.heap.size W w' → Calls Try.prog 39 #[f.v (.slice A1 f.params.length k1) (.slice A2 n k2)] w' (PredPost n P w')) := hide (fun w' h => by
    have := rpreds_any f (.slice A1 f.params.length k1) (.slice A2 n k2) w' w'.heap.size (Nat.le_refl _) (hF.out w' h) hs
    rwa [← hn.out, ← hsc.out, ← hP.out] at this)
  have hsm := hide hs
  have cLy : Hid (∀ w', Below W.heap.size W w' → Calls Try.prog 37 #[f.v (.slice A1 f.params.length k1) (.slice A2 n k2)] w' (RLayPost f (phiB (startB f.blocks O) (frB sc O)) O n w')) := hide (fun w' h => by
    have := rlay_any f (.slice A1 f.params.length k1) (.slice A2 n k2) w' w'.heap.size (Nat.le_refl _) (hF.out w' h) hsz
    rwa [← hn.out, ← hO.out, ← hsc.out] at this)
  have cId : Hid (∀ w', Below W.heap.size W w' → Calls Try.prog 38 #[f.v (.slice A1 f.params.length k1) (.slice A2 n k2)] w' (RIdomPost sc O n w')) := hide (fun w' h => by
    have := ridom_any f (.slice A1 f.params.length k1) (.slice A2 n k2) w' w'.heap.size (Nat.le_refl _) (hF.out w' h) hs
    rwa [← hn.out, ← hO.out, ← hsc.out] at this)
  have hzb : Hid (∀ x, x ∈ f.blocks → x.length ≤ 2000000) := hide (fun x hx => (hs.code x hx).1)
  replace hs := hide hs
  replace hf := hide hf
  replace hwW := hide hwW
  rw [← hsc.out, ← hO.out] at hl hI
  obtain ⟨H, hH⟩ : ∃ H, Hid (H = phiB (startB f.blocks O) (frB sc O)) := ⟨_, hide rfl⟩
  rw [← hH.out] at cLy ⊢
  obtain ⟨i0, hi0, hz0, hz1, hz2⟩ := cinfo_parts cinfo_int
  replace hi0 := hide hi0
  replace hz0 := hide hz0
  replace hz1 := hide hz1
  replace hz2 := hide hz2
  obtain ⟨L, hL⟩ : ∃ L, Hid (L = laidA f.blocks H O n) := ⟨_, hide rfl⟩
  have hLm : L.length ≤ 4000001 := by rw [hL.out]; exact laidA_small hsz (by rw [hn.out]; exact Nat.le_refl _)
  have hLp : Hid (0 < L.length) := hide (by rw [hL.out]; exact laidA_pos n)
  unfold RLayPost at cLy
  rw [← hL.out] at cLy ⊢
  obtain ⟨LL, hLL⟩ : ∃ LL, Hid (LL = if n = 0 then [] else L) := ⟨_, hide rfl⟩
  rw [← hLL.out] at cLy
  replace hl := hide hl
  replace hI := hide hI
  replace hW := hide hW
  go_enter Try.func12, Try.ntmps12
  go_upto_region 1 with (fail)
  rw [hW.out]
  clear hW
  go_wp2_with (fail)
  refine (cLy.out _ hself).mono ?_
  rintro e X1 ⟨AL, CL, rfl, hLb, hb1⟩
  go_wp2_with (fail)
  refine (cId.out _ hb1).mono ?_
  rintro e X2 ⟨gi, rfl, hU, hb2⟩
  have hk2 := hb1.trans (hb2.mono hb1.size)
  go_wp2_with (fail)
  refine (cP.out _ hk2).mono ?_
  rintro e X3 ⟨gP, csP, rfl, hLP, hb3⟩
  have hk3 := hk2.trans (hb3.mono hk2.size)
  go_wp2_with (fail)
  refine (cRR.out _ hk3).mono ?_
  rintro e X4 ⟨gr, rfl, hrr, hb4⟩
  have hk4 := hk3.trans (hb4.mono hk3.size)
  have hs4 := hk4.size
  have hlI : Hid (∀ x, x ∈ l → I64 x) := hide (fun x hx => by
    have hx2 := hx
    rw [hl.out] at hx2
    have := idomL_bound hx2
    exact i64_mk (by omega) (by omega))
  have hwXs : Hid (w.heap.size ≤ X4.heap.size) := hide (Nat.le_trans hws hs4)
  by_cases hn0 : n = 0
  · have e0 : LL = [] := by rw [hLL.out, if_pos hn0]
    subst e0
    have hn1 : ¬ (1 : Int) < ((([] : List Ac).length : Nat) : Int) := by simp
    have hfin : Hid (RBuildPost L l O P n w (.returned (.slice AL ([] : List Ac).length CL)) X4) := hide (by
      refine ⟨_, neA [], rfl, ?_, hwW.out.trans (hk4.mono hws)⟩
      rw [if_pos hn0]
      exact ((OwnAc.below hLb (hb2.trans ((hb3.mono hb2.size).trans (hb4.mono (Nat.le_trans hb2.size hb3.size))))).mono hws).monoi hws)
    replace hn0 := hide hn0
    replace hLb := hide hLb
    clear hLP hrr hU
    go_wp2
    go_loopw [7] (fun s wr => s = .int .i64 1 ∧ wr = X4) (fun _ _ => 0)
    case atStart => exact ⟨rfl, rfl⟩
    case round =>
      obtain ⟨rfl, hw9⟩ := hrel
      subst hw9
      go_wp2
      go_ret
      exact hfin.out
  · have e0 : LL = L := by rw [hLL.out, if_neg hn0]
    rw [e0] at hLb ⊢
    clear e0
    have hI1 := hI.out (by omega)
    have hln : l.length = n := hI1.len
    obtain ⟨go, hgo⟩ := bare_form hLb hLp.out
    subst hgo
    obtain ⟨hgo1, hgo2, -⟩ := row_lt (OwnAc.row hLb) (k := go) rfl
    have hs1 := hb1.size
    have hs2 := hb2.size
    have hs3 := hb3.size
    have hs44 := hb4.size
    have hb14 : Below X1.heap.size X1 X4 := hb2.trans ((hb3.mono hs2).trans (hb4.mono (Nat.le_trans hs2 hs3)))
    have hbW : Hid (∀ w', Only (fun q => q = go) X4.heap.size X4 w' → Below W.heap.size W w') := hide (fun w' h => hk4.trans (h.to_below (fun q hq => by subst hq; exact hgo1) hs4))
    have hwX : Hid (∀ w', Only (fun q => q = go) X4.heap.size X4 w' → Below w.heap.size w w') := hide (fun w' h => hwW.out.trans ((hbW.out w' h).mono hws))
    have hrd : Hid (∀ k : Nat, k < n → ∀ w', Only (fun q => q = go) X4.heap.size X4 w' → w'.cell? ⟨gr, k, none⟩ = some (.bool (decide ((k : Int) ∈ O)))) := hide (fun k hk => by
      have h1 := row_lt hrr (k := gr) rfl
      exact Only.fact (OwnB.cell hrr (hRat.out k hk) hk) h1.2.1 (by show ¬ gr = go; omega))
    have hrw := hide (rows_only (S := fun q => q = go) ((hLP.kept (w' := X4) (fun q _ hq => hb4.block q hq))) hPl (fun q hq => by subst hq; omega))
    have hU4 : Hid (∀ w', Only (fun q => q = go) X4.heap.size X4 w' → OwnI w' X1.heap.size (.slice (some ⟨gi, 0, none⟩) n n) l) := hide (fun w' h => by
      have h1 : OwnI X2 X1.heap.size (.slice (some ⟨gi, 0, none⟩) n n) l := own_in (by rw [hl.out]; exact hU) hlI.out
      exact (h1.kept (w' := X4) (fun q _ hq => by rw [hb4.block q (by omega), hb3.block q hq])).kept (fun q hq hq2 => h.block q hq2 (by show ¬ q = go; omega)))
    have hcS : Hid (∀ w', Only (fun q => q = go) X4.heap.size X4 w' → RdA w' go L → ∀ (b : Nat) (p : Int), (b : Int) ∈ O → b < n → Calls Try.prog 41 #[f.v (.slice A1 f.params.length k1) (.slice A2 n k2), .slice (some ⟨gi, 0, none⟩) n n, .slice (some ⟨go, 0, none⟩) L.length CL, .int .i64 b, .int .i64 p] w' (StandsPost (stF L l O b (bestF L b p L.length)) w')) := hide (fun w' h hLw b p hb hbn => by
      have := rstands_any f (.slice A1 f.params.length k1) (.slice A2 n k2) w' w'.heap.size (Nat.le_refl _) (hF.out w' (hbW.out w' h)) hsm.out H L (by rw [hL.out, hO.out, hn.out]) hLm l (by rw [← hsc.out, ← hO.out, ← hn.out]; exact hI1) go CL X1.heap.size (.slice (some ⟨gi, 0, none⟩) n n) (hU4.out w' h) hLw b p (by rw [← hO.out]; exact hb)
      rwa [← hO.out] at this)
    have hend : Hid (∀ (b : Nat) x, (b : Int) ∈ O → b < n → f.blocks[b]? = some x → stF L l O b (bestF L b x.length L.length) = endF L l O b) := hide (fun b x hb hbn hx => by
      rw [endF_eq hI1 hok.out hb, stands_end hL.out hx])
    have hstd : Hid (∀ (i : Nat) a, L[i]? = some a → 0 < i → a.defs = [] ∧ a.orig = [] ∧ ∃ b : Nat, a.block = b ∧ (b : Int) ∈ O ∧ b < n ∧ (a.kind = 1 ∨ a.kind = 2 ∨ a.kind = 3 ∧ a.pos = -1) ∧ bestF L b a.pos L.length = lastD L b i) := hide (fun i a ha hi => by
      rw [hL.out] at ha ⊢
      obtain ⟨c, h1, h2, h3, h4, h5⟩ := laidA_block ha hi
      have hil := (List.getElem?_eq_some_iff.1 ha).1
      obtain ⟨g1, g2⟩ := laidA_bare (List.mem_of_getElem? ha)
      refine ⟨g1, g2, c, h1, h3, h2, ?_, ?_⟩
      · obtain ⟨d, -, h6, -⟩ := laidA_mem n ha hi
        rcases (blkA_mem h6).2 with ⟨-, rfl⟩ | ⟨j, q, -, hq, rfl⟩
        · exact .inr (.inr ⟨rfl, rfl⟩)
        · rcases hq with rfl | rfl
          · exact .inl rfl
          · exact .inr (.inl rfl)
      · have h6 := best_last (L := laidA f.blocks H O n) (b := c) (p := a.pos) (c := i) (fun j d hd hj hdb => by
          constructor
          · intro hp
            refine Nat.lt_of_not_le fun hge => ?_
            rcases Nat.lt_or_ge i j with h7 | h7
            · have := laidA_lt ha hd hi h7
              unfold AccLt at this
              omega
            · have e2 : i = j := by omega
              subst e2
              rw [ha] at hd
              cases hd
              omega
          · intro hp
            have := laidA_lt hd ha hj hp
            unfold AccLt at this
            omega) (laidA f.blocks H O n).length
        rwa [Nat.min_eq_right (by omega)] at h6)
    have hendb : Hid (∀ b : Nat, (b : Int) ∈ O → 0 ≤ endF L l O b ∧ endF L l O b < L.length) := hide (fun b hb => endF_bound hI1 hok.out hLp.out hb)
    have hstb : Hid (∀ i b : Nat, (b : Int) ∈ O → i ≤ L.length → 0 ≤ stF L l O b (lastD L b i) ∧ stF L l O b (lastD L b i) < L.length) := hide (fun i b hb hi => stF_bound hI1 hok.out hLp.out hb hi)
    have hPm : Hid (∀ (k : Nat) p, P[k]? = some p → p.length ≤ 2000000 ∧ ∀ x, x ∈ p → 0 ≤ x ∧ x < n) := hide (fun k p hk => by
      rw [hP.out] at hk
      have hin : ∀ x, x ∈ p → 0 ≤ x ∧ x < n := fun x hx => by
        obtain ⟨h1, h2, -⟩ := (predsL_mem hk x).1 hx
        exact ⟨h1, h2⟩
      have := range_len n p ((predsL_sorted hk).imp fun h => by omega) hin
      exact ⟨by omega, hin⟩)
    obtain ⟨N, hN⟩ : ∃ N, Hid (N = L.length) := ⟨_, hide rfl⟩
    have hL1 : L = bK L l O P 1 := bK_one (fun a ha => by
      rw [hL.out, laidA_zero] at ha
      cases ha; rfl)
    have hBk : Hid (MbI X4 W.heap.size X4.heap.size go N CL L l O P 1 (neA L)) := hide (by
      have h4 := OwnAc.below hLb hb14
      have hne : ∀ (j : Nat) e, (neA L)[j]? = some e → e = ⟨.slice none 0 0, .slice none 0 0⟩ := fun j e he => by
        unfold neA at he
        rw [List.getElem?_map] at he
        cases h : L[j]? <;> rw [h] at he <;> cases he
        rfl
      rw [← hN.out] at h4
      refine ⟨by rw [← hL1]; exact h4, fun j e q he hq => ?_, fun j e _ he => hne j e he⟩
      rw [hne j e he] at hq
      rcases hq with hq | hq <;> cases hq)
    have hself4 := Only.refl (fun q => q = go) X4.heap.size X4
    have hgo4 : go < X4.heap.size := by omega
    have qq0 := hide q0
    have qq1 := hide q1
    have qq2 := hide q2
    have qq3 := hide q3
    have hWX4 : Hid (W.heap.size ≤ X4.heap.size) := hide hs4
    have p0 : ∀ w', Only (fun q => q = go) X4.heap.size X4 w' → w'.cell? ⟨w.heap.size, 0, none⟩ = some (.string f.name) := fun w' h => q0 w' (hbW.out w' h)
    have p1 : ∀ w', Only (fun q => q = go) X4.heap.size X4 w' → w'.cell? ⟨w.heap.size, 1, none⟩ = some (.slice A1 f.params.length k1) := fun w' h => q1 w' (hbW.out w' h)
    have p2 : ∀ w', Only (fun q => q = go) X4.heap.size X4 w' → w'.cell? ⟨w.heap.size, 2, none⟩ = some (.int .i64 f.ret) := fun w' h => q2 w' (hbW.out w' h)
    have p3 : ∀ w', Only (fun q => q = go) X4.heap.size X4 w' → w'.cell? ⟨w.heap.size, 3, none⟩ = some (.slice A2 n k2) := fun w' h => q3 w' (hbW.out w' h)
    replace hL1 := hide hL1
    replace hn0 := hide hn0
    replace hI1 := hide hI1
    rw [← hN.out] at hLm hcS hstb hendb ⊢
    clear hLb hU hrr hLP hb1 hb2 hb3 hb4 hb14 hk2 hk3 hk4 cLy cId cP cRR q0 q1 q2 q3 hself hF
    have hwsW : Hid (w.heap.size ≤ W.heap.size) := hide hws
    have hN1 : 0 < N := by rw [hN.out]; exact hLp.out
    go_wp2
    go_loopg [7, 8, 9, 10] (N - 1) (fun g s7 s8 s9 s10 wr => ∃ (i : Nat) (es : List AcV), s7 = .int .i64 i ∧ Hid (g + i = N) ∧ 1 ≤ i ∧ i ≤ N ∧ Hid (MbI wr W.heap.size X4.heap.size go N CL L l O P i es) ∧ Only (fun q => q = go) X4.heap.size X4 wr)
    case atStart => exact ⟨1, _, rfl, hide (by omega), Nat.le_refl _, hN1, hBk, hself4⟩
    case round =>
      clear hBk hself4
      rename World => V
      obtain ⟨i, es, rfl, hg, hi1, hi, hB, hon⟩ := hrel
      have hVs := hon.size
      by_cases hlt : i < N
      · have hii : (i : Int) < (N : Int) := by omega
        obtain ⟨g', hg'⟩ : ∃ g', Hid (g' + (i + 1) = N) := ⟨N - (i + 1), hide (by omega)⟩
        have hgg : Hid (g' < gk) := hide (by have := hg'.out; have := hg.out; omega)
        obtain ⟨a, ha⟩ := get_ex (l := L) (k := i) (by rw [← hN.out]; exact hlt)
        obtain ⟨had, hao, b, hab, hbO, hbn, hkk, hbest⟩ := hstd.out i a ha.out (by omega)
        have hbi : (bK L l O P i)[i]? = some a := by rw [bK_at ha.out, if_neg (Nat.lt_irrefl _)]
        obtain ⟨e, he⟩ := hB.out.own.at_ hbi
        have hbare := hB.out.bare i e (Nat.le_refl _) he
        have hcells := hB.out.own.cells hbi he
        have hfrz := hB.out.own.frozen
        rw [hab, hbare] at hcells
        obtain ⟨v0, v1, v2, v3, v4⟩ := hcells
        have hgoV := (row_lt hB.out.own.row (k := go) rfl).2.1
        by_cases hk3 : a.kind = 3
        · have hne3 : (a.kind != 3) = false := by rw [hk3]; rfl
          have hpos : a.pos = -1 := by rcases hkk with h | h | h <;> omega
          have haa : a = ⟨3, b, -1, [], []⟩ := by
            obtain ⟨a1, a2, a3, a4, a5⟩ := a
            simp only at hk3 hab hpos had hao
            subst hk3 hab hpos had hao
            rfl
          obtain ⟨p, hp⟩ := get_ex (l := P) (k := b) (by omega)
          obtain ⟨hpl, hpm⟩ := hPm.out b p hp.out
          obtain ⟨Ap, Cp, ht1, ht2⟩ := hrw.out b p hp.out
          have hacc : Hid (accD L l O P i a = ⟨3, b, -1, (fromP O p p.length).map fun q => endF L l O q.toNat, fromP O p p.length⟩) := hide (by
            rw [fromP_end hp.out, haa]
            rfl)
          have hR0 : Hid (MbR V W.heap.size X4.heap.size go N CL L l O P i b (fromP O p 0) ((fromP O p 0).map fun q => endF L l O q.toNat) es) := hide (hB.out.start ha.out haa)
          have hiL : i < L.length := by have := hN.out; omega
          have hiL := hide hiL
          replace hpm := hide hpm
          replace ht2 := hide ht2
          replace hbest := hide hbest
          replace hkk := hide hkk
          replace hab := hide hab
          replace hbare := hide hbare
          replace hbi := hide hbi
          replace he := hide he
          replace hk3 := hide hk3
          replace had := hide had
          replace hao := hide hao
          replace hbO := hide hbO
          replace haa := hide haa
          replace hpos := hide hpos
          go_upto_region 11 with (fail)
          clear v0 v1 v2 v3 v4 hfrz hB hgoV
          have hon0 := hon
          clear hon hVs
          obtain ⟨gk0, hgk0⟩ : ∃ gk0, Hid (gk0 = gk) := ⟨_, hide rfl⟩
          go_wp2
          go_loopg [9, 10] p.length (fun g s9 s10 wr => ∃ (k : Nat) (es : List AcV), s9 = .int .i64 k ∧ Hid (g + k = p.length) ∧ Hid (MbR wr W.heap.size X4.heap.size go N CL L l O P i b (fromP O p k) ((fromP O p k).map fun q => endF L l O q.toNat) es) ∧ Only (fun q => q = go) X4.heap.size X4 wr)
          case atStart => exact ⟨0, es, rfl, hide rfl, hR0, hon0⟩
          case round =>
            clear hR0 hon0 he es
            rename World => V2
            obtain ⟨k, es, rfl, hgk, hR, hon⟩ := hrel
            have hVs := hon.size
            have hk : k ≤ p.length := by have := hgk.out; omega
            have ht1' := ht1 V2 hon
            by_cases hltk : k < p.length
            · have hkk : (k : Int) < (p.length : Int) := by omega
              obtain ⟨g2, hg2⟩ : ∃ g2, Hid (g2 + (k + 1) = p.length) := ⟨p.length - (k + 1), hide (by omega)⟩
              have hgg2 : Hid (g2 < gk) := hide (by have := hg2.out; have := hgk.out; omega)
              obtain ⟨px, hpx⟩ := get_ex (l := p) (k := k) hltk
              obtain ⟨hp0, hp1⟩ := hpm.out px (List.mem_of_getElem? hpx.out)
              obtain ⟨c, rfl⟩ := Int.eq_ofNat_of_zero_le hp0
              have hcn : c < n := by omega
              obtain ⟨g5, hg5, rx⟩ := ht2.out (by omega)
              subst hg5
              have rx0 := rx k _ hpx.out V2 hon
              clear rx
              have rr := hrd.out c hcn V2 hon
              have hstep := fromP_step (o := O) hpx.out
              by_cases hco : (c : Int) ∈ O
              · rw [decide_eq_true hco] at rr
                rw [if_pos hco] at hstep
                obtain ⟨lf, hlf⟩ : ∃ lf, Hid (lf = fromP O p k) := ⟨_, hide rfl⟩
                obtain ⟨ld, hld⟩ : ∃ ld, Hid (ld = (fromP O p k).map fun q => endF L l O q.toNat) := ⟨_, hide rfl⟩
                have hlfl : lf.length ≤ 2000000 := by rw [hlf.out]; exact Nat.le_trans fromP_len hpl
                have hldl : ld.length ≤ 2000000 := by rw [hld.out, List.length_map]; exact Nat.le_trans fromP_len hpl
                obtain ⟨z, hz⟩ : ∃ z, Hid (z = endF L l O c) := ⟨_, hide rfl⟩
                obtain ⟨hy1, hy2⟩ := hendb.out c hco
                rw [← hz.out] at hy1 hy2
                have hnf : Hid (fromP O p (k + 1) = lf ++ [(c : Int)]) := hide (by rw [hstep, hlf.out])
                have hnd : Hid ((fromP O p (k + 1)).map (fun q => endF L l O q.toNat) = ld ++ [z]) := hide (by rw [hstep, List.map_append, hld.out, hz.out]; rfl)
                rw [← hlf.out] at hR
                rw [show (lf.map fun q => endF L l O q.toNat) = ld by rw [hlf.out, hld.out]] at hR
                have hx : ((bK L l O P i).set i ⟨3, b, -1, ld, lf⟩)[i]? = some ⟨3, b, -1, ld, lf⟩ := List.getElem?_set_self (by rw [bK_len]; exact hiL.out)
                obtain ⟨⟨ed, ef⟩, he⟩ := hR.out.own.at_ hx
                obtain ⟨-, -, -, v3, v4⟩ := hR.out.own.cells hx he
                obtain ⟨hdI, hfI⟩ := hR.out.own.inn i _ _ hx he
                obtain ⟨Ad, Cd, hed⟩ := row_form hdI.row
                obtain ⟨Af, Cf, hef⟩ := row_form hfI.row
                have hed : ed = _ := hed
                have hef : ef = _ := hef
                subst hed
                subst hef
                obtain ⟨e, hee⟩ : ∃ e : AcV, e = ⟨.slice Ad ld.length Cd, .slice Af lf.length Cf⟩ := ⟨_, rfl⟩
                have hM0 := Mid.start hR.out.own hx he
                rw [← hee] at he hM0
                obtain ⟨-, hgo2, cg, hgo3⟩ := row_lt hR.out.own.row (k := go) rfl
                have hne1 : ¬ e.has go := fun hh => by
                  obtain ⟨-, -, c, hc⟩ := hR.out.own.in_lt he hh
                  exact blk_ne hc hgo3 (by decide) rfl
                have hnew := fun q hq => hR.out.new i e q he hq
                have c4 : ∀ u, Only (fun q => e.has q) V2.heap.size V2 u → u.cell? ⟨go, i * 5 + 4, none⟩ = some (.slice Af lf.length Cf) := Only.fact v4 hgo2 hne1
                have k4 : ∀ u, Only (fun q => e.has q) V2.heap.size V2 u → u.frozen? ⟨go, i * 5 + 4, none⟩ = false := Only.free (hR.out.own.frozen _) hgo2 hne1
                have hcI : Hid (I64 (c : Int)) := hide (i64_mk (by omega) (by omega))
                have hzI : Hid (I64 z) := hide (i64_mk (by omega) (by omega))
                have hM0' : Mid V2 V2 e W.heap.size (.slice Af lf.length Cf) (.slice Ad ld.length Cd) lf ld := by rw [hee] at hM0 ⊢; exact hM0
                obtain ⟨hM1, -⟩ := hM0'.alloc (c : Int)
                have hfin4 : Hid (∀ (u : World) (vf : Value), Mid V2 u e W.heap.size vf (.slice Ad ld.length Cd) (lf ++ [(c : Int)]) ld → MbR (u.setCell ⟨go, i * 5 + 4, none⟩ vf) W.heap.size X4.heap.size go N CL L l O P i b (lf ++ [(c : Int)]) ld (es.set i ⟨.slice Ad ld.length Cd, vf⟩) ∧ Only (fun q => q = go) X4.heap.size X4 (u.setCell ⟨go, i * 5 + 4, none⟩ vf)) := hide (fun u vf hm => by
                  refine ⟨?_, only_mid hon hm hnew⟩
                  have := hR.out.step4 (vf := vf) (u := u) (lf' := lf ++ [(c : Int)]) hiL.out he (by rw [hee] at hm ⊢; exact hm) hVs
                  rw [hee] at this
                  exact this)
                have hel : Hid (i < es.length) := hide (List.getElem?_eq_some_iff.1 he).1
                replace hM0 := hide hM0
                replace hM0' := hide hM0'
                replace hM1 := hide hM1
                replace hee := hide hee
                replace he := hide he
                replace hx := hide hx
                replace hdI := hide hdI
                replace hfI := hide hfI
                replace hstep := hide hstep
                replace hco := hide hco
                replace hnew := hide hnew
                go_upto_region 17 with (first
                  | (at_builtin
                     refine wpList_append_lies _ rfl (.tmp 77) (.tmp 79) _ rfl W.heap.size 3 i0 _ 1 8 Try.underlying22 hi0.out hz0.out hz1.out hz2.out rfl (by omega) (.slice Af lf.length Cf) _ _ rfl hM1.out.f.row ⟨V2.heap.size, 0, none⟩ 1 1 [.int .i64 (c : Int)] rfl rfl ?c1 ?c2 (by omega) ?c3 ?c4 ?c5 (V2.alloc (.cells #[.int .i64 (c : Int)] 3)).heap.size rfl ?_
                     case c1 => exact World.news_of_block (cs := #[.int .i64 (c : Int)]) (t := 3) (fr := (0, 0)) (heap_alloc_new V2 _)
                     case c2 => simp [Value.oneCell']
                     case c3 => unfold maxLen; omega
                     case c4 => omega
                     case c5 => first | (simp; omega) | simp | omega
                     intro q1 cq1 w1 hown1 hg1 hq1 hlt1
                     have hM2 := hide (hM1.out.appf hcI.out hown1 hg1 hq1)
                     have rz1 := c4 w1 hM2.out.on
                     have fz1 := k4 w1 hM2.out.on
                     obtain ⟨hR3, hon3⟩ := hfin4.out w1 _ hM2.out
                     replace hR3 := hide hR3
                     replace hown1 := hide hown1
                     replace hg1 := hide hg1
                     replace hq1 := hide hq1
                     replace hlt1 := hide hlt1))
                clear c4 k4 rz1 fz1 v3 v4 hR hon
                have hs2 := hon3.size
                have hbelV : ∀ w', Below (w1.setCell ⟨go, i * 5 + 4, none⟩ (.slice (some ⟨q1, 0, none⟩) (lf.length + 1) cq1)).heap.size (w1.setCell ⟨go, i * 5 + 4, none⟩ (.slice (some ⟨q1, 0, none⟩) (lf.length + 1) cq1)) w' → Only (fun q => q = go) X4.heap.size X4 w' := fun w' h => hon3.then_below (Nat.le_refl _) h
                obtain ⟨V3, hV3⟩ : ∃ V3, Hid (w1.setCell ⟨go, i * 5 + 4, none⟩ (.slice (some ⟨q1, 0, none⟩) (lf.length + 1) cq1) = V3) := ⟨_, hide rfl⟩
                rw [hV3.out] at hR3 hon3 hbelV hs2 ⊢
                clear hV3 hfin4
                have he3 : (es.set i ⟨.slice Ad ld.length Cd, .slice (some ⟨q1, 0, none⟩) (lf.length + 1) cq1⟩)[i]? = some ⟨.slice Ad ld.length Cd, .slice (some ⟨q1, 0, none⟩) (lf.length + 1) cq1⟩ := List.getElem?_set_self hel.out
                obtain ⟨es3, hes3⟩ : ∃ es3, Hid (es3 = es.set i ⟨.slice Ad ld.length Cd, .slice (some ⟨q1, 0, none⟩) (lf.length + 1) cq1⟩) := ⟨_, hide rfl⟩
                rw [← hes3.out] at hR3 he3
                have hx3 : ((bK L l O P i).set i ⟨3, b, -1, ld, lf ++ [(c : Int)]⟩)[i]? = some ⟨3, b, -1, ld, lf ++ [(c : Int)]⟩ := List.getElem?_set_self (by rw [bK_len]; exact hiL.out)
                obtain ⟨-, -, -, v3, v4⟩ := hR3.out.own.cells hx3 he3
                obtain ⟨e3, hee3⟩ : ∃ e3 : AcV, e3 = ⟨.slice Ad ld.length Cd, .slice (some ⟨q1, 0, none⟩) (lf.length + 1) cq1⟩ := ⟨_, rfl⟩
                have hM3 := Mid.start hR3.out.own hx3 he3
                rw [← hee3] at he3 hM3
                obtain ⟨-, hgo2, cg, hgo3⟩ := row_lt hR3.out.own.row (k := go) rfl
                have hne1 : ¬ e3.has go := fun hh => by
                  obtain ⟨-, -, c, hc⟩ := hR3.out.own.in_lt he3 hh
                  exact blk_ne hc hgo3 (by decide) rfl
                have hnew3 := fun q hq => hR3.out.new i e3 q he3 hq
                have d3 : ∀ u, Only (fun q => e3.has q) V3.heap.size V3 u → u.cell? ⟨go, i * 5 + 3, none⟩ = some (.slice Ad ld.length Cd) := Only.fact v3 hgo2 hne1
                have k3 : ∀ u, Only (fun q => e3.has q) V3.heap.size V3 u → u.frozen? ⟨go, i * 5 + 3, none⟩ = false := Only.free (hR3.out.own.frozen _) hgo2 hne1
                have hM3' : Mid V3 V3 e3 W.heap.size (.slice (some ⟨q1, 0, none⟩) (lf.length + 1) cq1) (.slice Ad ld.length Cd) (lf ++ [(c : Int)]) ld := by rw [hee3] at hM3 ⊢; exact hM3
                have hfin3 : Hid (∀ (u : World) (vd : Value), Mid V3 u e3 W.heap.size (.slice (some ⟨q1, 0, none⟩) (lf.length + 1) cq1) vd (lf ++ [(c : Int)]) (ld ++ [z]) → ∃ es', MbR (u.setCell ⟨go, i * 5 + 3, none⟩ vd) W.heap.size X4.heap.size go N CL L l O P i b (lf ++ [(c : Int)]) (ld ++ [z]) es' ∧ Only (fun q => q = go) X4.heap.size X4 (u.setCell ⟨go, i * 5 + 3, none⟩ vd)) := hide (fun u vd hm => by
                  refine ⟨_, hR3.out.step3 (vd := vd) (u := u) (ld' := ld ++ [z]) hiL.out he3 (by rw [hee3] at hm ⊢; exact hm) hs2, only_mid hon3 hm hnew3⟩)
                obtain ⟨x, hxc⟩ := get_ex (l := f.blocks) (k := c) (by rw [← hn.out]; exact hcn)
                have hxl : x.length ≤ 2000000 := hzb.out x (List.mem_of_getElem? hxc.out)
                obtain ⟨b1, o1, hA2, he1⟩ := gb.out (by rw [← hn.out]; omega)
                subst hA2
                obtain ⟨d1, hr1, hd1⟩ := he1 c x hxc.out
                obtain ⟨A3, c9, h3, hm3', ga3⟩ := Rp.slice_open hr1
                cases h3
                have hEOS : ∀ w', Only (fun q => e3.has q) V3.heap.size V3 w' → Below w.heap.size w w' := fun w' h => (hwX.out V3 hon3).trans (h.to_below (fun q hq => Nat.le_trans hwXs.out (hnew3 q hq)) (Nat.le_trans hwXs.out hs2))
                have hEW : ∀ w', Only (fun q => e3.has q) V3.heap.size V3 w' → Below W.heap.size W w' := fun w' h => (hbW.out V3 hon3).trans (h.to_below (fun q hq => Nat.le_trans hWX4.out (hnew3 q hq)) (Nat.le_trans hWX4.out hs2))
                have hd1' : ∀ w', Only (fun q => e3.has q) V3.heap.size V3 w' → w'.cell? ⟨b1, o1 + c, none⟩ = some (.slice A3 x.length c9) := fun w' h => hd1 w' (hEOS w' h)
                have y0 : ∀ w', Only (fun q => e3.has q) V3.heap.size V3 w' → w'.cell? ⟨w.heap.size, 0, none⟩ = some (.string f.name) := fun w' h => qq0.out w' (hEW w' h)
                have y1 : ∀ w', Only (fun q => e3.has q) V3.heap.size V3 w' → w'.cell? ⟨w.heap.size, 1, none⟩ = some (.slice A1 f.params.length k1) := fun w' h => qq1.out w' (hEW w' h)
                have y2 : ∀ w', Only (fun q => e3.has q) V3.heap.size V3 w' → w'.cell? ⟨w.heap.size, 2, none⟩ = some (.int .i64 f.ret) := fun w' h => qq2.out w' (hEW w' h)
                have y3 : ∀ w', Only (fun q => e3.has q) V3.heap.size V3 w' → w'.cell? ⟨w.heap.size, 3, none⟩ = some (.slice (some ⟨b1, o1, none⟩) n k2) := fun w' h => qq3.out w' (hEW w' h)
                have cS : Hid (∀ w', Below V3.heap.size V3 w' → Calls Try.prog 41 #[f.v (.slice A1 f.params.length k1) (.slice (some ⟨b1, o1, none⟩) n k2), .slice (some ⟨gi, 0, none⟩) n n, .slice (some ⟨go, 0, none⟩) N CL, .int .i64 c, .int .i64 x.length] w' (StandsPost z w')) := hide (fun w' h => by
                  have h1 := hcS.out w' (hbelV w' h) (((bK_alike.set9 (hiL.out) ha.out haa.out).rd hR3.out.own).below h) c x.length hco.out hcn
                  have h2 := hend.out c x hco.out hcn hxc.out
                  rw [← hN.out] at h2
                  rwa [h2, ← hz.out] at h1)
                have hselfV := Below.refl V3.heap.size V3
                replace hM3 := hide hM3
                replace hM3' := hide hM3'
                replace hee3 := hide hee3
                replace he3 := hide he3
                replace hx3 := hide hx3
                replace hnew3 := hide hnew3
                replace hbelV := hide hbelV
                replace hEOS := hide hEOS
                replace hEW := hide hEW
                clear hd1 hr1 he1 ga3 p0 p1 p2 p3 v3 v4 hR3 rx0 rr ht1'
                refine wp_region_U (S := fun u => Only (fun q => e3.has q) V3.heap.size V3 u) (T := fun j => !decide (21 ≤ j)) (by kernel_rfl) ?_
                obtain ⟨U0, hU0⟩ : ∃ U0, Hid (V3.drew = U0) := ⟨_, hide rfl⟩
                have hM4 : Hid (Mid V3 U0 e3 W.heap.size (.slice (some ⟨q1, 0, none⟩) (lf.length + 1) cq1) (.slice Ad ld.length Cd) (lf ++ [(c : Int)]) ld) := hide (by rw [← hU0.out]; exact hM3'.out.drew)
                have hbU : Hid (Below V3.heap.size V3 U0) := hide (by rw [← hU0.out]; exact hselfV.drew)
                rw [hU0.out]
                refine wpAnyU_take (i := 0) (v := ?_) (by simp only [List.getElem?_toArray, List.getElem?_cons_succ, List.getElem?_cons_zero]; rfl) (by kernel_rfl) (by kernel_rfl) (by kernel_rfl) (by kernel_rfl) (by exact fun _ _ _ h => h) (Or.inl ⟨by rfl, ?_⟩) (by exact hM4.out.on) ?_
                rotate_left
                · intro w9 hSw
                  go_simp
                  all_goals with_reducible rfl
                try simp only [Act.put, List.setIfInBounds_toArray, List.set_cons_zero, List.set_cons_succ]
                refine wpAnyU_take (i := 1) (v := ?_) (by simp only [List.getElem?_toArray, List.getElem?_cons_succ, List.getElem?_cons_zero]; rfl) (by kernel_rfl) (by kernel_rfl) (by kernel_rfl) (by kernel_rfl) (by exact fun _ _ _ h => h) (Or.inl ⟨by rfl, ?_⟩) (by exact hM4.out.on) ?_
                rotate_left
                · intro w9 hSw
                  go_simp
                  all_goals with_reducible rfl
                try simp only [Act.put, List.setIfInBounds_toArray, List.set_cons_zero, List.set_cons_succ]
                refine wpAnyU_take (i := 2) (v := ?_) (by simp only [List.getElem?_toArray, List.getElem?_cons_succ, List.getElem?_cons_zero]; rfl) (by kernel_rfl) (by kernel_rfl) (by kernel_rfl) (by kernel_rfl) (by exact fun _ _ _ h => h) (Or.inl ⟨by rfl, ?_⟩) (by exact hM4.out.on) ?_
                rotate_left
                · intro w9 hSw
                  go_simp
                  all_goals with_reducible rfl
                try simp only [Act.put, List.setIfInBounds_toArray, List.set_cons_zero, List.set_cons_succ]
                refine wpAnyU_take (i := 3) (v := ?_) (by simp only [List.getElem?_toArray, List.getElem?_cons_succ, List.getElem?_cons_zero]; rfl) (by kernel_rfl) (by kernel_rfl) (by kernel_rfl) (by kernel_rfl) (by exact fun _ _ _ h => h) (Or.inl ⟨by rfl, ?_⟩) (by exact hM4.out.on) ?_
                rotate_left
                · intro w9 hSw
                  go_simp
                  all_goals with_reducible rfl
                try simp only [Act.put, List.setIfInBounds_toArray, List.set_cons_zero, List.set_cons_succ]
                refine wpAnyU_take (i := 4) (v := ?_) (by simp only [List.getElem?_toArray, List.getElem?_cons_succ, List.getElem?_cons_zero]; rfl) (by kernel_rfl) (by kernel_rfl) (by kernel_rfl) (by kernel_rfl) (by exact fun _ _ _ h => h) (Or.inl ⟨by rfl, ?_⟩) (by exact hM4.out.on) ?_
                rotate_left
                · intro w9 hSw
                  go_simp
                  all_goals with_reducible rfl
                try simp only [Act.put, List.setIfInBounds_toArray, List.set_cons_zero, List.set_cons_succ]
                refine wpAnyU_take (i := 5) (v := ?_) (by simp only [List.getElem?_toArray, List.getElem?_cons_succ, List.getElem?_cons_zero]; rfl) (by kernel_rfl) (by kernel_rfl) (by kernel_rfl) (by kernel_rfl) (by exact fun _ _ _ h => h) (Or.inl ⟨by rfl, ?_⟩) (by exact hM4.out.on) ?_
                rotate_left
                · intro w9 hSw
                  go_simp
                  all_goals with_reducible rfl
                try simp only [Act.put, List.setIfInBounds_toArray, List.set_cons_zero, List.set_cons_succ]
                refine wpAnyU_take (i := 6) (v := ?_) (by simp only [List.getElem?_toArray, List.getElem?_cons_succ, List.getElem?_cons_zero]; rfl) (by kernel_rfl) (by kernel_rfl) (by kernel_rfl) (by kernel_rfl) (by exact fun _ _ _ h => h) (Or.inl ⟨by rfl, ?_⟩) (by exact hM4.out.on) ?_
                rotate_left
                · intro w9 hSw
                  go_simp
                  all_goals with_reducible rfl
                try simp only [Act.put, List.setIfInBounds_toArray, List.set_cons_zero, List.set_cons_succ]
                refine wpAnyU_take (i := 7) (v := ?_) (by simp only [List.getElem?_toArray, List.getElem?_cons_succ, List.getElem?_cons_zero]; rfl) (by kernel_rfl) (by kernel_rfl) (by kernel_rfl) (by kernel_rfl) (by exact fun _ _ _ h => h) (Or.inl ⟨by rfl, ?_⟩) (by exact hM4.out.on) ?_
                rotate_left
                · intro w9 hSw
                  go_simp
                  all_goals with_reducible rfl
                try simp only [Act.put, List.setIfInBounds_toArray, List.set_cons_zero, List.set_cons_succ]
                refine wpAnyU_take (i := 8) (v := ?_) (by simp only [List.getElem?_toArray, List.getElem?_cons_succ, List.getElem?_cons_zero]; rfl) (by kernel_rfl) (by kernel_rfl) (by kernel_rfl) (by kernel_rfl) (by exact fun _ _ _ h => h) (Or.inl ⟨by rfl, ?_⟩) (by exact hM4.out.on) ?_
                rotate_left
                · intro w9 hSw
                  go_simp
                  all_goals with_reducible rfl
                try simp only [Act.put, List.setIfInBounds_toArray, List.set_cons_zero, List.set_cons_succ]
                refine wpAnyU_take (i := 9) (v := ?_) (by simp only [List.getElem?_toArray, List.getElem?_cons_succ, List.getElem?_cons_zero]; rfl) (by kernel_rfl) (by kernel_rfl) (by kernel_rfl) (by kernel_rfl) (by exact fun _ _ _ h => h) (Or.inl ⟨by rfl, ?_⟩) (by exact hM4.out.on) ?_
                rotate_left
                · intro w9 hSw
                  go_simp
                  all_goals with_reducible rfl
                try simp only [Act.put, List.setIfInBounds_toArray, List.set_cons_zero, List.set_cons_succ]
                refine wpAnyU_take (i := 10) (v := ?_) (by simp only [List.getElem?_toArray, List.getElem?_cons_succ, List.getElem?_cons_zero]; rfl) (by kernel_rfl) (by kernel_rfl) (by kernel_rfl) (by kernel_rfl) (by exact fun _ _ _ h => h) (Or.inl ⟨by rfl, ?_⟩) (by exact hM4.out.on) ?_
                rotate_left
                · intro w9 hSw
                  go_simp
                  all_goals with_reducible rfl
                try simp only [Act.put, List.setIfInBounds_toArray, List.set_cons_zero, List.set_cons_succ]
                refine wpAnyU_take (i := 11) (v := ?_) (by simp only [List.getElem?_toArray, List.getElem?_cons_succ, List.getElem?_cons_zero]; rfl) (by kernel_rfl) (by kernel_rfl) (by kernel_rfl) (by kernel_rfl) (by exact fun _ _ _ h => h) (Or.inl ⟨by rfl, ?_⟩) (by exact hM4.out.on) ?_
                rotate_left
                · intro w9 hSw
                  go_simp
                  all_goals with_reducible rfl
                try simp only [Act.put, List.setIfInBounds_toArray, List.set_cons_zero, List.set_cons_succ]
                refine wpAnyU_take (i := 12) (v := ?_) (by simp only [List.getElem?_toArray, List.getElem?_cons_succ, List.getElem?_cons_zero]; rfl) (by kernel_rfl) (by kernel_rfl) (by kernel_rfl) (by kernel_rfl) (by exact fun _ _ _ h => h) (Or.inl ⟨by rfl, ?_⟩) (by exact hM4.out.on) ?_
                rotate_left
                · intro w9 hSw
                  go_simp
                  all_goals with_reducible rfl
                try simp only [Act.put, List.setIfInBounds_toArray, List.set_cons_zero, List.set_cons_succ]
                refine wpAnyU_take (i := 13) (v := ?_) (by simp only [List.getElem?_toArray, List.getElem?_cons_succ, List.getElem?_cons_zero]; rfl) (by kernel_rfl) (by kernel_rfl) (by kernel_rfl) (by kernel_rfl) (by exact fun _ _ _ h => h) (Or.inl ⟨by rfl, ?_⟩) (by exact hM4.out.on) ?_
                rotate_left
                · intro w9 hSw
                  go_simp
                  all_goals with_reducible rfl
                try simp only [Act.put, List.setIfInBounds_toArray, List.set_cons_zero, List.set_cons_succ]
                refine wpAnyU_take (i := 14) (v := ?_) (by simp only [List.getElem?_toArray, List.getElem?_cons_succ, List.getElem?_cons_zero]; rfl) (by kernel_rfl) (by kernel_rfl) (by kernel_rfl) (by kernel_rfl) (by exact fun _ _ _ h => h) (Or.inl ⟨by rfl, ?_⟩) (by exact hM4.out.on) ?_
                rotate_left
                · intro w9 hSw
                  go_simp
                  all_goals with_reducible rfl
                try simp only [Act.put, List.setIfInBounds_toArray, List.set_cons_zero, List.set_cons_succ]
                refine wpAnyU_take (i := 15) (v := ?_) (by simp only [List.getElem?_toArray, List.getElem?_cons_succ, List.getElem?_cons_zero]; rfl) (by kernel_rfl) (by kernel_rfl) (by kernel_rfl) (by kernel_rfl) (by exact fun _ _ _ h => h) (Or.inl ⟨by rfl, ?_⟩) (by exact hM4.out.on) ?_
                rotate_left
                · intro w9 hSw
                  go_simp
                  all_goals with_reducible rfl
                try simp only [Act.put, List.setIfInBounds_toArray, List.set_cons_zero, List.set_cons_succ]
                refine wpAnyU_take (i := 16) (v := ?_) (by simp only [List.getElem?_toArray, List.getElem?_cons_succ, List.getElem?_cons_zero]; rfl) (by kernel_rfl) (by kernel_rfl) (by kernel_rfl) (by kernel_rfl) (by exact fun _ _ _ h => h) (Or.inl ⟨by rfl, ?_⟩) (by exact hM4.out.on) ?_
                rotate_left
                · intro w9 hSw
                  go_simp
                  all_goals with_reducible rfl
                try simp only [Act.put, List.setIfInBounds_toArray, List.set_cons_zero, List.set_cons_succ]
                refine wpAnyU_take (i := 17) (v := ?_) (by simp only [List.getElem?_toArray, List.getElem?_cons_succ, List.getElem?_cons_zero]; rfl) (by kernel_rfl) (by kernel_rfl) (by kernel_rfl) (by kernel_rfl) (by exact fun _ _ _ h => h) (Or.inl ⟨by rfl, ?_⟩) (by exact hM4.out.on) ?_
                rotate_left
                · intro w9 hSw
                  go_simp
                  all_goals with_reducible rfl
                try simp only [Act.put, List.setIfInBounds_toArray, List.set_cons_zero, List.set_cons_succ]
                refine wpAnyU_ready (rs := [18]) (by kernel_rfl) (by simp) ?_
                refine AllReadyU.cons (by simp only [List.getElem?_toArray, List.getElem?_cons_succ, List.getElem?_cons_zero]; rfl) (fun K hK => ?_) ?_
                · (try go_simp)
                  go_at_call 41
                  refine (cS.out _ hbU.out).mono ?_
                  rintro e V5 ⟨rfl, hb5⟩
                  have hM5 := hide (hM4.out.below hb5)
                  refine hK.out _ _ (fun _ => hM5.out.on) ?_
                  clear hK K
                  try simp only [Act.put, List.setIfInBounds_toArray, List.set_cons_zero, List.set_cons_succ]
                  refine wpAnyU_ready (rs := [19]) (by kernel_rfl) (by simp) ?_
                  refine AllReadyU.cons (by simp only [List.getElem?_toArray, List.getElem?_cons_succ, List.getElem?_cons_zero]; rfl) (fun K hK => ?_) ?_
                  · go_simp
                    obtain ⟨hM6, -⟩ := hM5.out.alloc z
                    replace hM6 := hide hM6
                    refine hK.out _ _ (fun _ => hM6.out.on) ?_
                    clear hK K
                    try simp only [Act.put, List.setIfInBounds_toArray, List.set_cons_zero, List.set_cons_succ]
                    refine wpAnyU_ready (rs := [20]) (by kernel_rfl) (by simp) ?_
                    refine AllReadyU.cons (by simp only [List.getElem?_toArray, List.getElem?_cons_succ, List.getElem?_cons_zero]; rfl) (fun K hK => ?_) ?_
                    · refine step_append_lies (V5.alloc (.cells #[.int .i64 z] 3)) rfl (.tmp 89) (.tmp 102) _ rfl W.heap.size 3 i0 _ 1 8 Try.underlying22 hi0.out hz0.out hz1.out hz2.out rfl (by omega) (.slice Ad ld.length Cd) _ _ rfl hM6.out.d.row ⟨V5.heap.size, 0, none⟩ 1 1 [.int .i64 z] rfl rfl ?c1 ?c2 (by omega) ?c3 ?c4 ?c5 (V5.alloc (.cells #[.int .i64 z] 3)).heap.size rfl ?_
                      case c1 => exact World.news_of_block (cs := #[.int .i64 z]) (t := 3) (fr := (0, 0)) (heap_alloc_new V5 _)
                      case c2 => simp [Value.oneCell']
                      case c3 => unfold maxLen; omega
                      case c4 => omega
                      case c5 => have := hM6.out.on.size; omega
                      intro q2 cq2 w2 hown2 hgr2 hq2 hlt2
                      have hM7 := hide (hM6.out.appd hzI.out hown2 hgr2 hq2)
                      have rz2 := d3 w2 hM7.out.on
                      have fz2 := k3 w2 hM7.out.on
                      obtain ⟨es4, hR4, hon4⟩ := hfin3.out w2 _ hM7.out
                      clear hown2 hgr2 hq2 hlt2
                      refine hK.out _ _ (fun _ => hM7.out.on) ?_
                      clear hK K
                      try simp only [Act.put, List.setIfInBounds_toArray, List.set_cons_zero, List.set_cons_succ]
                      refine wpAnyU_takeY (i := 21) (v := ?_) (by simp only [List.getElem?_toArray, List.getElem?_cons_succ, List.getElem?_cons_zero]; rfl) (by kernel_rfl) (by kernel_rfl) (by kernel_rfl) (by rfl) (by exact fun _ _ _ h => h) (Or.inl ⟨by rfl, ?_⟩) ?_
                      rotate_left
                      · intro w9 hSw
                        go_simp
                        all_goals with_reducible rfl
                      try simp only [Act.put, List.setIfInBounds_toArray, List.set_cons_zero, List.set_cons_succ]
                      refine wpAnyU_takeY (i := 22) (v := ?_) (by simp only [List.getElem?_toArray, List.getElem?_cons_succ, List.getElem?_cons_zero]; rfl) (by kernel_rfl) (by kernel_rfl) (by kernel_rfl) (by rfl) (by exact fun _ _ _ h => h) (Or.inl ⟨by rfl, ?_⟩) ?_
                      rotate_left
                      · intro w9 hSw
                        go_simp
                        all_goals with_reducible rfl
                      try simp only [Act.put, List.setIfInBounds_toArray, List.set_cons_zero, List.set_cons_succ]
                      refine wpAnyU_ready (rs := [23]) (by kernel_rfl) (by simp) ?_
                      refine AllReadyU.cons (by simp only [List.getElem?_toArray, List.getElem?_cons_succ, List.getElem?_cons_zero]; rfl) (fun K hK => ?_) ?_
                      · go_simp
                        refine hK.out _ _ (fun h => absurd h (by decide)) ?_
                        clear hK K
                        try simp only [Act.put, List.setIfInBounds_toArray, List.set_cons_zero, List.set_cons_succ]
                        refine wpAnyU_done (by kernel_rfl) ?_ _
                        clear d3 k3 y0 y1 y2 y3 hd1'
                        replace hR4 := hide hR4
                        go_wp2
                        go_roundg g2
                        case measure => exact hgg2.out
                        case rel => exact ⟨k + 1, es4, by go_num, hg2, hide (by rw [hnd.out, hnf.out]; exact hR4.out), hon4⟩
                      exact AllReadyU.nil
                    exact AllReadyU.nil
                  exact AllReadyU.nil
                exact AllReadyU.nil
              · rw [decide_eq_false hco] at rr
                rw [if_neg hco, List.append_nil] at hstep
                replace hstep := hide hstep
                replace hco := hide hco
                go_wp2
                go_roundg g2
                case measure => exact hgg2.out
                case rel => exact ⟨k + 1, es, by go_num, hg2, hide (by rw [hstep.out]; exact hR.out), hon⟩
            · obtain rfl : k = p.length := by omega
              have hBn := hide (hR.out.done ha.out hacc.out)
              go_wp2
              go_roundg g'
              case measure => have h1 := hgg.out; have h2 := hgk0.out; omega
              case rel => exact ⟨i + 1, es, by go_num, hg', by omega, hlt, hBn, hon⟩
        · have hne3 : (a.kind != 3) = true := by simpa using hk3
          have hacc : accD L l O P i a = ⟨a.kind, a.block, a.pos, [stF L l O b (lastD L b i)], a.orig⟩ := by
            unfold accD
            rw [if_pos (by omega), hab, Int.toNat_natCast]
          obtain ⟨z, hz⟩ : ∃ z, Hid (z = stF L l O b (lastD L b i)) := ⟨_, hide rfl⟩
          obtain ⟨hy1, hy2⟩ := hstb.out i b hbO hi
          rw [← hz.out] at hacc hy1 hy2
          have hzI : Hid (I64 z) := hide (i64_mk (by omega) (by omega))
          have hbelV : ∀ w', Below V.heap.size V w' → Only (fun q => q = go) X4.heap.size X4 w' := fun w' h => hon.then_below (Nat.le_refl _) h
          have cS : Hid (∀ w', Below V.heap.size V w' → Calls Try.prog 41 #[f.v (.slice A1 f.params.length k1) (.slice A2 n k2), .slice (some ⟨gi, 0, none⟩) n n, .slice (some ⟨go, 0, none⟩) N CL, .int .i64 b, .int .i64 a.pos] w' (StandsPost z w')) := hide (fun w' h => by
            have h1 := hcS.out w' (hbelV w' h) ((bK_alike.rd hB.out.own).below h) b a.pos hbO hbn
            rwa [show bestF L (b : Int) a.pos N = lastD L b i by rw [hN.out]; exact hbest, ← hz.out] at h1)
          have y0 : ∀ w', Below V.heap.size V w' → w'.cell? ⟨w.heap.size, 0, none⟩ = some (.string f.name) := fun w' h => p0 w' (hbelV w' h)
          have y1 : ∀ w', Below V.heap.size V w' → w'.cell? ⟨w.heap.size, 1, none⟩ = some (.slice A1 f.params.length k1) := fun w' h => p1 w' (hbelV w' h)
          have y2 : ∀ w', Below V.heap.size V w' → w'.cell? ⟨w.heap.size, 2, none⟩ = some (.int .i64 f.ret) := fun w' h => p2 w' (hbelV w' h)
          have y3 : ∀ w', Below V.heap.size V w' → w'.cell? ⟨w.heap.size, 3, none⟩ = some (.slice A2 n k2) := fun w' h => p3 w' (hbelV w' h)
          have c2 : ∀ w', Below V.heap.size V w' → w'.cell? ⟨go, i * 5 + 2, none⟩ = some (.int .i64 a.pos) := fun w' h => (h.cell (p := ⟨go, i * 5 + 2, none⟩) hgoV).trans v2
          have c3 : ∀ w', Below V.heap.size V w' → w'.cell? ⟨go, i * 5 + 3, none⟩ = some (.slice none 0 0) := fun w' h => (h.cell (p := ⟨go, i * 5 + 3, none⟩) hgoV).trans v3
          have k3 : ∀ w', Below V.heap.size V w' → w'.frozen? ⟨go, i * 5 + 3, none⟩ = false := fun w' h => (World.frozen?_of_block (a := ⟨go, i * 5 + 3, none⟩) (h.block go hgoV)).trans (hfrz _)
          have hM0 : Hid (Mid V V ⟨.slice none 0 0, .slice none 0 0⟩ W.heap.size (.slice none 0 0) (.slice none 0 0) a.orig a.defs) := hide (by
            have h1 := Mid.start hB.out.own hbi he
            rw [hbare] at h1
            exact h1)
          have hselfV := Below.refl V.heap.size V
          have hfin : Hid (∀ u : World, Below V.heap.size V u → ∃ es', MbI ((u.alloc (.cells #[.int .i64 z] 3)).setCell ⟨go, i * 5 + 3, none⟩ (.slice (some ⟨u.heap.size, 0, none⟩) 1 1)) W.heap.size X4.heap.size go N CL L l O P (i + 1) es' ∧ Only (fun q => q = go) X4.heap.size X4 ((u.alloc (.cells #[.int .i64 z] 3)).setCell ⟨go, i * 5 + 3, none⟩ (.slice (some ⟨u.heap.size, 0, none⟩) 1 1))) := hide (fun u hu => by
            have h1 := (hM0.out.below hu).lit (by have := hs4; omega) hzI.out
            have hme : (⟨.slice none 0 0, .slice none 0 0⟩ : AcV) = e := hbare.symm
            rw [hme] at h1
            have h2 := OwnAc.mid (j := 3) (vj := .slice (some ⟨u.heap.size, 0, none⟩) 1 1) hB.out.own hbi he h1 (by omega) (by rw [hbare]; rfl)
            rw [← hacc, bK_set ha.out] at h2
            refine ⟨_, ⟨h2, set_news hB.out.new (fun q hq => ?_), set_bares (fun j e hj => hB.out.bare j e (by omega)) (Nat.lt_succ_self i)⟩, ?_⟩
            · rcases hq with hq | hq
              · have e9 : u.heap.size = q := Option.some.inj hq
                have := hu.size
                omega
              · cases hq
            · exact ((hon.then_below (Nat.le_refl _) hu).alloc (by have := hu.size; omega) _).setCell (.inl rfl) _)
          replace hbest := hide hbest
          replace hkk := hide hkk
          replace hM0 := hide hM0
          replace hab := hide hab
          replace hbare := hide hbare
          replace hacc := hide hacc
          replace hbi := hide hbi
          replace he := hide he
          replace hk3 := hide hk3
          replace had := hide had
          replace hao := hide hao
          replace hbO := hide hbO
          replace hbelV := hide hbelV
          clear p0 p1 p2 p3
          go_upto_region 10 with (fail)
          clear v0 v1 v2 v3 v4 hfrz
          go_region_law (first
            | ((try go_simp)
               go_at_call 41
               refine (cS.out _ (by first | with_reducible assumption | exact hselfV.drew)).mono ?_
               rintro e V5 ⟨rfl, hb5⟩
               have hb5V : Below V.heap.size V V5 := hselfV.drew.trans hb5
               have hs5 := hb5V.size
               have hb5a := hb5V.alloc hs5 (.cells #[.int .i64 z] 3)
               clear hb5))
          all_goals
            obtain ⟨es', hB9, hon9⟩ := hfin.out V5 hb5V
            replace hB9 := hide hB9
            go_wp2
            go_roundg g'
            case measure => exact hgg.out
            case rel => exact ⟨i + 1, es', by go_num, hg', by omega, hlt, hB9, hon9⟩
      · obtain rfl : i = N := by omega
        have hfin : Hid (RBuildPost L l O P n w (.returned (.slice (some ⟨go, 0, none⟩) i CL)) V) := hide (by
          refine ⟨_, es, rfl, ?_, hwX.out V hon⟩
          rw [if_neg hn0.out, ← bK_end, ← hN.out]
          exact (hB.out.own.mono hwsW.out).monoi hwsW.out)
        go_wp2
        go_ret
        exact hfin.out
end Go.Proofs.Yteeclobpajalmaa
