/- A function whose targets are being changed one by one: how far it is, and the heap. No condition. -/
import Derived.Test.YtidjaohlaljmpaaDoJ
import Derived.Test.YtidjaohlaljmpaaCr
import Derived.Test.YtidjaohlaljmpaaGrI
namespace Go.Proofs.Ytidjaohlaljmpaa
open Go.RowKit
set_option linter.unusedVariables false

/-- has target r of instruction q of block p been changed? -/
def Done (i k j p q r : Nat) : Prop := p < i ∨ (p = i ∧ (q < k ∨ (q = k ∧ r < j)))
instance (i k j p q r : Nat) : Decidable (Done i k j p q r) := by unfold Done; exact inferInstance
def progTo (a b : Int) (i k j p q : Nat) (l : List Int) : List Int := l.mapIdx fun r t => if Done i k j p q r then mv a b t else t
def progIns (a b : Int) (i k j p q : Nat) (x : Ins) : Ins := setTo x (progTo a b i k j p q x.to)
def progCode (a b : Int) (i k j p : Nat) (c : List Ins) : List Ins := c.mapIdx fun q x => progIns a b i k j p q x
def prog (a b : Int) (i k j : Nat) (bs : List (List Ins)) : List (List Ins) := bs.mapIdx fun p c => progCode a b i k j p c
section
variable {a b : Int} {i k j : Nat} {bs : List (List Ins)}
theorem prog_len : (prog a b i k j bs).length = bs.length := by simp [prog]
theorem prog_at {p : Nat} {c : List Ins} (h : bs[p]? = some c) : (prog a b i k j bs)[p]? = some (progCode a b i k j p c) := by simp [prog, h]
theorem progCode_len {p : Nat} {c : List Ins} : (progCode a b i k j p c).length = c.length := by simp [progCode]
theorem progCode_at {p q : Nat} {c : List Ins} {x : Ins} (h : c[q]? = some x) : (progCode a b i k j p c)[q]? = some (progIns a b i k j p q x) := by simp [progCode, h]
theorem progTo_len {p q : Nat} {l : List Int} : (progTo a b i k j p q l).length = l.length := by simp [progTo]
theorem progTo_at {p q r : Nat} {l : List Int} {t : Int} (h : l[r]? = some t) : (progTo a b i k j p q l)[r]? = some (if Done i k j p q r then mv a b t else t) := by simp [progTo, h]
theorem progTo_same {i' k' j' p q : Nat} {l : List Int} (h : ∀ r, r < l.length → (Done i k j p q r ↔ Done i' k' j' p q r)) : progTo a b i k j p q l = progTo a b i' k' j' p q l := by
  refine List.ext_getElem? fun r => ?_
  cases hr : l[r]? with
  | none => rw [List.getElem?_eq_none (by rw [progTo_len]; exact List.getElem?_eq_none_iff.1 hr), List.getElem?_eq_none (by rw [progTo_len]; exact List.getElem?_eq_none_iff.1 hr)]
  | some t =>
    rw [progTo_at hr, progTo_at hr]
    have := h r (List.getElem?_eq_some_iff.1 hr).1
    by_cases hd : Done i k j p q r
    · rw [if_pos hd, if_pos (this.1 hd)]
    · rw [if_neg hd, if_neg fun h' => hd (this.2 h')]
theorem progCode_same {i' k' j' p : Nat} {c : List Ins} (h : ∀ q x, c[q]? = some x → ∀ r, r < x.to.length → (Done i k j p q r ↔ Done i' k' j' p q r)) : progCode a b i k j p c = progCode a b i' k' j' p c := by
  refine List.ext_getElem? fun q => ?_
  cases hq : c[q]? with
  | none => rw [List.getElem?_eq_none (by rw [progCode_len]; exact List.getElem?_eq_none_iff.1 hq), List.getElem?_eq_none (by rw [progCode_len]; exact List.getElem?_eq_none_iff.1 hq)]
  | some x =>
    rw [progCode_at hq, progCode_at hq]
    unfold progIns
    rw [progTo_same (h q x hq)]
theorem prog_same {i' k' j' : Nat} (h : ∀ p c, bs[p]? = some c → ∀ q x, c[q]? = some x → ∀ r, r < x.to.length → (Done i k j p q r ↔ Done i' k' j' p q r)) : prog a b i k j bs = prog a b i' k' j' bs := by
  refine List.ext_getElem? fun p => ?_
  cases hp : bs[p]? with
  | none => rw [List.getElem?_eq_none (by rw [prog_len]; exact List.getElem?_eq_none_iff.1 hp), List.getElem?_eq_none (by rw [prog_len]; exact List.getElem?_eq_none_iff.1 hp)]
  | some c => rw [prog_at hp, prog_at hp, progCode_same (h p c hp)]
theorem progTo_all {p q : Nat} {l : List Int} (h : ∀ r, r < l.length → Done i k j p q r) : progTo a b i k j p q l = l.map (mv a b) := by
  refine List.ext_getElem? fun r => ?_
  cases hr : l[r]? with
  | none => rw [List.getElem?_eq_none (by rw [progTo_len]; exact List.getElem?_eq_none_iff.1 hr), List.getElem?_eq_none (by rw [List.length_map]; exact List.getElem?_eq_none_iff.1 hr)]
  | some t => rw [progTo_at hr, if_pos (h r (List.getElem?_eq_some_iff.1 hr).1), List.getElem?_map, hr]; rfl
theorem progTo_none {p q : Nat} {l : List Int} (h : ∀ r, r < l.length → ¬ Done i k j p q r) : progTo a b i k j p q l = l := by
  refine List.ext_getElem? fun r => ?_
  cases hr : l[r]? with
  | none => rw [List.getElem?_eq_none (by rw [progTo_len]; exact List.getElem?_eq_none_iff.1 hr)]
  | some t => rw [progTo_at hr, if_neg (h r (List.getElem?_eq_some_iff.1 hr).1)]
theorem prog_start : prog a b 0 0 0 bs = bs := by
  refine List.ext_getElem? fun p => ?_
  cases hp : bs[p]? with
  | none => rw [List.getElem?_eq_none (by rw [prog_len]; exact List.getElem?_eq_none_iff.1 hp)]
  | some c =>
    rw [prog_at hp]
    congr 1
    refine List.ext_getElem? fun q => ?_
    cases hq : c[q]? with
    | none => rw [List.getElem?_eq_none (by rw [progCode_len]; exact List.getElem?_eq_none_iff.1 hq)]
    | some x =>
      rw [progCode_at hq]
      unfold progIns
      rw [progTo_none (fun r _ h => by unfold Done at h; omega)]
      rfl
theorem prog_end : prog a b bs.length 0 0 bs = mvAll a b bs := by
  refine List.ext_getElem? fun p => ?_
  unfold mvAll
  rw [List.getElem?_map]
  cases hp : bs[p]? with
  | none => rw [List.getElem?_eq_none (by rw [prog_len]; exact List.getElem?_eq_none_iff.1 hp)]; rfl
  | some c =>
    have hpl := (List.getElem?_eq_some_iff.1 hp).1
    rw [prog_at hp]
    show some _ = some _
    congr 1
    refine List.ext_getElem? fun q => ?_
    rw [List.getElem?_map]
    cases hq : c[q]? with
    | none => rw [List.getElem?_eq_none (by rw [progCode_len]; exact List.getElem?_eq_none_iff.1 hq)]; rfl
    | some x =>
      rw [progCode_at hq]
      unfold progIns
      rw [progTo_all (fun r _ => by unfold Done; omega)]
      rfl
/-- one target more -/
theorem prog_step {c : List Ins} {x : Ins} {t : Int} (hp : bs[i]? = some c) (hq : c[k]? = some x) (hr : x.to[j]? = some t) :
    (prog a b i k j bs).set i ((progCode a b i k j i c).set k (setTo (progIns a b i k j i k x) ((progIns a b i k j i k x).to.set j (mv a b t)))) = prog a b i k (j + 1) bs := by
  refine List.ext_getElem? fun p => ?_
  by_cases h1 : i = p
  · subst h1
    rw [List.getElem?_set_self (by rw [prog_len]; exact (List.getElem?_eq_some_iff.1 hp).1), prog_at hp]
    congr 1
    refine List.ext_getElem? fun q => ?_
    by_cases h2 : k = q
    · subst h2
      rw [List.getElem?_set_self (by rw [progCode_len]; exact (List.getElem?_eq_some_iff.1 hq).1), progCode_at hq]
      congr 1
      show setTo x ((progTo a b i k j i k x.to).set j (mv a b t)) = setTo x (progTo a b i k (j + 1) i k x.to)
      congr 1
      refine List.ext_getElem? fun r => ?_
      by_cases h3 : j = r
      · subst h3
        rw [List.getElem?_set_self (by rw [progTo_len]; exact (List.getElem?_eq_some_iff.1 hr).1), progTo_at hr, if_pos (by unfold Done; omega)]
      · rw [List.getElem?_set_ne h3]
        cases hr' : x.to[r]? with
        | none => rw [List.getElem?_eq_none (by rw [progTo_len]; exact List.getElem?_eq_none_iff.1 hr'), List.getElem?_eq_none (by rw [progTo_len]; exact List.getElem?_eq_none_iff.1 hr')]
        | some t' =>
          rw [progTo_at hr', progTo_at hr']
          have : Done i k j i k r ↔ Done i k (j + 1) i k r := by unfold Done; omega
          by_cases hd : Done i k j i k r
          · rw [if_pos hd, if_pos (this.1 hd)]
          · rw [if_neg hd, if_neg fun h' => hd (this.2 h')]
    · rw [List.getElem?_set_ne h2]
      cases hq' : c[q]? with
      | none => rw [List.getElem?_eq_none (by rw [progCode_len]; exact List.getElem?_eq_none_iff.1 hq'), List.getElem?_eq_none (by rw [progCode_len]; exact List.getElem?_eq_none_iff.1 hq')]
      | some x' =>
        rw [progCode_at hq', progCode_at hq']
        unfold progIns
        rw [progTo_same (i' := i) (k' := k) (j' := j + 1) (fun r _ => by unfold Done; omega)]
  · rw [List.getElem?_set_ne h1]
    cases hp' : bs[p]? with
    | none => rw [List.getElem?_eq_none (by rw [prog_len]; exact List.getElem?_eq_none_iff.1 hp'), List.getElem?_eq_none (by rw [prog_len]; exact List.getElem?_eq_none_iff.1 hp')]
    | some c' => rw [prog_at hp', prog_at hp', progCode_same (i' := i) (k' := k) (j' := j + 1) (fun q x _ r _ => by unfold Done; omega)]
theorem prog_next_ins {c : List Ins} {x : Ins} (hp : bs[i]? = some c) (hq : c[k]? = some x) : prog a b i k x.to.length bs = prog a b i (k + 1) 0 bs :=
  prog_same fun p c' hp' q x' hq' r hr => by
    by_cases h1 : p = i
    · subst h1
      rw [hp] at hp'
      cases hp'
      by_cases h2 : q = k
      · subst h2
        rw [hq] at hq'
        cases hq'
        unfold Done; omega
      · unfold Done; omega
    · unfold Done; omega
theorem prog_next_block {c : List Ins} (hp : bs[i]? = some c) : prog a b i c.length 0 bs = prog a b (i + 1) 0 0 bs :=
  prog_same fun p c' hp' q x' hq' r hr => by
    by_cases h1 : p = i
    · subst h1
      rw [hp] at hp'
      cases hp'
      have := (List.getElem?_eq_some_iff.1 hq').1
      unfold Done; omega
    · unfold Done; omega
end
/-! ### the heap -/
theorem cellsOf_set {l : List Ins} {es : List (Value × Value)} {k : Nat} {x x' : Ins} (hx : l[k]? = some x) (h : ∀ c d, insC x' c d = insC x c d) : cellsOf (l.set k x') es = cellsOf l es := by
  unfold cellsOf
  congr 1
  refine List.ext_getElem? fun q => ?_
  rw [List.getElem?_zipWith, List.getElem?_zipWith]
  by_cases hq : k = q
  · subst hq
    rw [List.getElem?_set_self (List.getElem?_eq_some_iff.1 hx).1, hx]
    cases es[k]? with
    | none => rfl
    | some e => simp only [h]
  · rw [List.getElem?_set_ne hq]
theorem nd_flat {ess : List (List (Value × Value))} (h : Nd (ess.flatten.map Prod.snd)) {p q : Nat} {es es' : List (Value × Value)} (hp : ess[p]? = some es) (hq : ess[q]? = some es') (hpq : p ≠ q) {e e' : Value × Value} (he : e ∈ es) (he' : e' ∈ es') {k : Nat} (hk : e.2.ownBlock = some k) : e'.2.ownBlock ≠ some k := by
  intro hk'
  have key : ∀ (p q : Nat) (es es' : List (Value × Value)) (e e' : Value × Value), p < q → ess[p]? = some es → ess[q]? = some es' → e ∈ es → e' ∈ es' → e.2.ownBlock = some k → e'.2.ownBlock = some k → False := by
    intro p q es es' e e' hpq hp hq he he' hk hk'
    have h1 : ess = ess.take q ++ ess.drop q := (List.take_append_drop q ess).symm
    unfold Nd at h
    rw [h1, List.flatten_append, List.map_append, List.filterMap_append, List.nodup_append] at h
    refine h.2.2 k (mem_own.2 ⟨e.2, List.mem_map.2 ⟨e, List.mem_flatten.2 ⟨es, ?_, he⟩, rfl⟩, hk⟩) k (mem_own.2 ⟨e'.2, List.mem_map.2 ⟨e', List.mem_flatten.2 ⟨es', ?_, he'⟩, rfl⟩, hk'⟩) rfl
    · exact List.mem_of_getElem? (i := p) (by rw [List.getElem?_take, if_pos hpq]; exact hp)
    · exact List.mem_of_getElem? (i := 0) (by rw [List.getElem?_drop, Nat.add_zero]; exact hq)
  rcases Nat.lt_or_ge p q with h1 | h1
  · exact key p q es es' e e' h1 hp hq he he' hk hk'
  · exact key q p es' es e' e (by omega) hq hp he' he hk' hk
/-- one target of one instruction is written -/
theorem OwnKd.put_to {w : World} {B : Nat} {v : Value} {bs : List (List Ins)} {xs : List Value} {ess : List (List (Value × Value))} (h : OwnKd w B v bs xs ess) {i k j g n cap : Nat} {c : List Ins} {x : Ins} {es : List (Value × Value)} {cv : Value} {z : Int}
    (hc : bs[i]? = some c) (hes : ess[i]? = some es) (hx : c[k]? = some x) (he : es[k]? = some (cv, .slice (some ⟨g, 0, none⟩) n cap)) (hj : j < x.to.length) (hz : I64 z) :
    OwnKd (w.setCell ⟨g, j, none⟩ (.int .i64 z)) B v (bs.set i (c.set k (setTo x (x.to.set j z)))) xs ess := by
  have hil := (List.getElem?_eq_some_iff.1 hc).1
  have hkl := (List.getElem?_eq_some_iff.1 hx).1
  have hxi : xs[i]? = some (xs[i]'(by rw [h.lenx]; exact hil)) := List.getElem?_eq_getElem _
  have hci := h.inn i _ c es hxi hc hes
  obtain ⟨-, hto, -⟩ := hci.inn k x _ hx he
  have hn : n = x.to.length := by
    obtain ⟨A, C, e⟩ := row_form hto.row
    cases e; rfl
  subst hn
  have hbut := But.stored (j := j) (u := .int .i64 z) hto.row
  have hst := (World.ownsRow.stored hto.row j (.int .i64 z)).1
  rw [map_set] at hst
  have hfar : ∀ (u : Value) (l : List Int), OwnI w B u l → (u.ownBlock ≠ some g) → OwnI (w.setCell ⟨g, j, none⟩ (.int .i64 z)) B u l := fun u l hu hg =>
    ⟨row_kept hu.row fun k' hk' => Below.heap_setCell _ _ _ _ (fun e => hg (by have e' : k' = g := e; rw [hk', e'])), hu.ok⟩
  refine ⟨by rw [List.length_set]; exact hbut.row (by decide) h.row, by rw [List.length_set]; exact h.lene, fun p y d fs hy hd hf => ?_, h.ndx, h.nda, h.ndt⟩
  by_cases hip : i = p
  · subst hip
    rw [List.getElem?_set_self hil] at hd
    rw [hes] at hf
    rw [hxi] at hy
    cases hd; cases hf; cases hy
    refine ⟨by rw [List.length_set]; exact hci.len, by rw [cellsOf_set (x' := setTo x (x.to.set j z)) hx (fun _ _ => rfl), List.length_set]; exact hbut.row (by decide) hci.row, fun q y e hy he' => ?_, hci.nda, hci.ndt⟩
    by_cases hkq : k = q
    · subst hkq
      rw [List.getElem?_set_self hkl] at hy
      rw [he] at he'
      cases hy; cases he'
      obtain ⟨ha, ht, hok⟩ := hci.inn k x _ hx he
      exact ⟨⟨hbut.row (by decide) ha.row, ha.ok⟩, ⟨by show (w.setCell _ _).ownsRow B 3 1 _ (x.to.set j z).length _; rw [List.length_set]; exact hst, fun y hy => by
        rcases List.mem_or_eq_of_mem_set hy with hy | rfl
        · exact ht.ok y hy
        · exact hz⟩, hok⟩
    · rw [List.getElem?_set_ne hkq] at hy
      obtain ⟨ha, ht, hok⟩ := hci.inn q y e hy he'
      refine ⟨⟨hbut.row (by decide) ha.row, ha.ok⟩, hfar _ _ ht ?_, hok⟩
      exact nd_ne hci.ndt (i := k) (j := q) (by rw [List.getElem?_map, he]; rfl) (by rw [List.getElem?_map, he']; rfl) hkq rfl
  · rw [List.getElem?_set_ne hip] at hd
    have hcp := h.inn p y d fs hy hd hf
    refine ⟨hcp.len, hbut.row (by decide) hcp.row, fun q u e hu he' => ?_, hcp.nda, hcp.ndt⟩
    obtain ⟨ha, ht, hok⟩ := hcp.inn q u e hu he'
    refine ⟨⟨hbut.row (by decide) ha.row, ha.ok⟩, hfar _ _ ht ?_, hok⟩
    exact nd_flat h.ndt hes hf hip (List.mem_of_getElem? he) (List.mem_of_getElem? he') rfl
/-- two blocks are changed about -/
theorem OwnKd.swap {w : World} {B : Nat} {gB n cap : Nat} {bs : List (List Ins)} {xs : List Value} {ess : List (List (Value × Value))} (h : OwnKd w B (.slice (some ⟨gB, 0, none⟩) n cap) bs xs ess) {a b : Nat} {xa xb : Value} {ca cb : List Ins}
    (hxa : xs[a]? = some xa) (hxb : xs[b]? = some xb) (hca : bs[a]? = some ca) (hcb : bs[b]? = some cb) :
    OwnK ((w.setCell ⟨gB, a, none⟩ xb).setCell ⟨gB, b, none⟩ xa) B (.slice (some ⟨gB, 0, none⟩) n cap) ((bs.set a cb).set b ca) := by
  have hn : n = bs.length := by
    obtain ⟨A, C, e⟩ := row_form h.row
    cases e; rfl
  subst hn
  have h1 := (World.ownsRow.stored h.row a xb).1
  have hb1 := But.stored (j := a) (u := xb) h.row
  have h2 := (World.ownsRow.stored h1 b xa).1
  have hb2 := But.stored (j := b) (u := xa) h1
  have hal := (List.getElem?_eq_some_iff.1 hca).1
  have hbl := (List.getElem?_eq_some_iff.1 hcb).1
  have hlx := h.lenx
  refine ⟨(xs.set a xb).set b xa, by simp [hlx], by rw [List.length_set, List.length_set]; exact h2, fun p x d hx hd => ?_⟩
  have hkeep : ∀ x d, OwnC w B x d → OwnC ((w.setCell ⟨gB, a, none⟩ xb).setCell ⟨gB, b, none⟩ xa) B x d := fun x d hc => (hc.but hb1 (by decide) (by decide) (by decide)).but hb2 (by decide) (by decide) (by decide)
  have hown : ∀ (p : Nat) x d, xs[p]? = some x → bs[p]? = some d → OwnC w B x d := fun p x d hx hd => by
    obtain ⟨b', es, hb', -, hc⟩ := h.code_at hx
    rw [hd] at hb'
    cases hb'
    exact hc.own
  refine hkeep x d ?_
  by_cases hbp : b = p
  · subst hbp
    rw [List.getElem?_set_self (by simp [hlx]; exact hbl)] at hx
    rw [List.getElem?_set_self (by simp; exact hbl)] at hd
    cases hx; cases hd
    exact hown a _ _ hxa hca
  · rw [List.getElem?_set_ne hbp] at hx hd
    by_cases hap : a = p
    · subst hap
      rw [List.getElem?_set_self (by rw [hlx]; exact hal)] at hx
      rw [List.getElem?_set_self hal] at hd
      cases hx; cases hd
      exact hown b _ _ hxb hcb
    · rw [List.getElem?_set_ne hap] at hx hd
      exact hown p _ _ hx hd
end Go.Proofs.Ytidjaohlaljmpaa
