/- Nearest dominators by definition (a table of who dominates whom), and that they are the list that two fingers give; no program is in sight. No condition. | dom.above, dom.Dominates. No condition but sizes. -/
import Derived.Test.YtidjaohlaljmpaaDoB
import Derived.Test.YtidjaohlaljmpaaDoD
namespace Go.Proofs.Ytidjaohlaljmpaa
set_option linter.unusedVariables false

theorem rchW_zero {sc : Int → List Int} {x : Int} (h : RchW sc 0 x) : False := by
  induction h with
  | start h0 => exact h0 rfl
  | step _ _ _ ih => exact ih
theorem rchW_nonneg {sc : Int → List Int} {n : Nat} {g x : Int} (hs : ∀ b, SuccOk n (sc b)) (h : RchW sc g x) : 0 ≤ x := by
  cases h with
  | start _ => omega
  | step _ h1 _ => exact ((hs _).bound _ h1).1

/-- which dominates which -/
def TabOk (sc : Int → List Int) (o : List Int) (n : Nat) (T : Nat → Nat → Bool) : Prop := ∀ a b : Nat, a < n → b < n → (T a b = true ↔ ((a : Int) ∈ o ∧ (b : Int) ∈ o ∧ ¬ RchW sc a b))
def nearB (T : Nat → Nat → Bool) (n b a : Nat) : Bool := !(a == b) && T a b && (List.range n).all fun c => c == b || !T c b || T c a
def idomAt (T : Nat → Nat → Bool) (n b : Nat) : Int := (List.range n).foldl (fun x a => if nearB T n b a then (a : Int) else x) (-1)
def idomL (T : Nat → Nat → Bool) (n : Nat) : List Int := (List.range n).map (idomAt T n)
theorem idomL_len (T : Nat → Nat → Bool) (n : Nat) : (idomL T n).length = n := by simp [idomL]
theorem idomL_at (T : Nat → Nat → Bool) {n b : Nat} (h : b < n) : (idomL T n)[b]? = some (idomAt T n b) := by simp [idomL, h]

theorem pick_none {p : Nat → Bool} {n : Nat} (h : ∀ a, a < n → p a = false) : (List.range n).foldl (fun x a => if p a then (a : Int) else x) (-1) = -1 := by
  induction n with
  | zero => rfl
  | succ n ih => rw [List.range_succ, List.foldl_append, ih (fun a ha => h a (by omega))]; simp [h n (by omega)]
theorem pick_one {p : Nat → Bool} {n u : Nat} (hu : u < n) (h1 : p u = true) (h : ∀ a, a < n → p a = true → a = u) : (List.range n).foldl (fun x a => if p a then (a : Int) else x) (-1) = u := by
  induction n with
  | zero => omega
  | succ n ih =>
    rw [List.range_succ, List.foldl_append]
    by_cases e : u = n
    · subst e; simp [h1]
    · have hn : p n = false := by
        cases hp : p n with
        | false => rfl
        | true => exact (e (h n (by omega) hp).symm).elim
      rw [ih (by omega) fun a ha hp => h a (by omega) hp]
      simp [hn]
section
variable {sc : Int → List Int} {o : List Int} {n : Nat} {l : List Int} {T : Nat → Nat → Bool}
theorem near_iff {a b : Nat} : nearB T n b a = true ↔ (a ≠ b ∧ T a b = true ∧ ∀ c, c < n → c ≠ b → T c b = true → T c a = true) := by
  unfold nearB
  simp only [Bool.and_eq_true, Bool.not_eq_true', beq_eq_false_iff_ne, ne_eq, List.all_eq_true, List.mem_range, Bool.or_eq_true, beq_iff_eq]
  constructor
  · rintro ⟨⟨h1, h2⟩, h3⟩
    refine ⟨h1, h2, fun c hc hne hT => ?_⟩
    rcases h3 c hc with (h4 | h4) | h4
    · exact (hne h4).elim
    · rw [hT] at h4; cases h4
    · exact h4
  · rintro ⟨h1, h2, h3⟩
    refine ⟨⟨h1, h2⟩, fun c hc => ?_⟩
    by_cases h4 : c = b
    · exact .inl (.inl h4)
    · cases h5 : T c b with
      | false => exact .inl (.inr rfl)
      | true => exact .inr (h3 c hc h4 h5)
theorem IdomOk.eq (I : IdomOk sc o n l) (O : OrderOk n sc o) (hT : TabOk sc o n T) : l = idomL T n := by
  refine List.ext_getElem? fun b => ?_
  by_cases hb : b < n
  · rw [idomL_at T hb]
    have hn : 0 < n := by omega
    by_cases h : (b : Int) ∈ o ∧ b ≠ 0
    · obtain ⟨u, h3, h4, h5, h6, h7, h8⟩ := I.some_ b hb h.1 h.2
      rw [h3]
      obtain ⟨hu0, hun⟩ := O.bound u h4
      obtain ⟨un, rfl⟩ := Int.eq_ofNat_of_zero_le hu0
      have hne : un ≠ b := fun e => h5 (by rw [e])
      have hun' : un < n := by omega
      congr 1
      refine (pick_one hun' (near_iff.2 ⟨hne, (hT un b hun' hb).2 ⟨h4, h.1, h7⟩, fun c hc hcb hc2 => ?_⟩) fun a ha hp => ?_).symm
      · obtain ⟨g1, g2, g3⟩ := (hT c b hc hb).1 hc2
        exact (hT c un hc hun').2 ⟨g1, h4, h8 c (by omega) g3⟩
      · obtain ⟨g1, g2, g3⟩ := near_iff.1 hp
        obtain ⟨a1, a2, a3⟩ := (hT a b ha hb).1 g2
        have d1 := ((hT un a hun' ha).1 (g3 un hun' hne ((hT un b hun' hb).2 ⟨h4, h.1, h7⟩))).2.2
        have d2 := h8 a (by omega) a3
        have P := ord_ok O hn
        have Tr := I.tree O hn
        have := Tr.anti P (I.alive O hn a1) (I.alive O hn h4) d2 d1
        omega
    · rw [I.none_ b hb (by by_cases h0 : b = 0; exact .inr h0; exact .inl fun h1 => h ⟨h1, h0⟩)]
      congr 1
      refine (pick_none fun a ha => ?_).symm
      cases hp : nearB T n b a with
      | false => rfl
      | true =>
        exfalso
        obtain ⟨g1, g2, g3⟩ := near_iff.1 hp
        obtain ⟨a1, a2, a3⟩ := (hT a b ha hb).1 g2
        refine h ⟨a2, fun h0 => ?_⟩
        subst h0
        exact a3 (.start (by omega))
  · rw [List.getElem?_eq_none (by rw [I.len]; omega), List.getElem?_eq_none (by rw [idomL_len]; omega)]
theorem IdomOk.unique {l' : List Int} (I : IdomOk sc o n l) (I' : IdomOk sc o n l') (O : OrderOk n sc o) : l = l' := by
  classical
  have hT : TabOk sc o n fun a b => decide ((a : Int) ∈ o ∧ (b : Int) ∈ o ∧ ¬ RchW sc a b) := fun a b _ _ => by simp
  rw [I.eq O hT, I'.eq O hT]
end

/-- what can be come to without 'gone', grown round by round -/
def growL (sc : Int → List Int) (gone : Int) : Nat → List Int → List Int
  | 0, l => l
  | k + 1, l => growL sc gone k (l ++ ((l.flatMap sc).filter fun t => !(t == gone) && !(l.contains t)))
def startL (gone : Int) : List Int := if gone = 0 then [] else [0]
def closedB (sc : Int → List Int) (gone : Int) (l : List Int) : Bool := (gone == 0 || l.contains 0) && l.all fun x => (sc x).all fun t => t == gone || l.contains t
theorem grow_sound {sc : Int → List Int} {gone : Int} : ∀ (k : Nat) (l : List Int), (∀ x, x ∈ l → RchW sc gone x) → ∀ x, x ∈ growL sc gone k l → RchW sc gone x
  | 0, l, h, x, hx => h x hx
  | k + 1, l, h, x, hx => by
    refine grow_sound k _ (fun y hy => ?_) x hx
    rcases List.mem_append.1 hy with h1 | h1
    · exact h y h1
    · obtain ⟨h2, h3⟩ := List.mem_filter.1 h1
      obtain ⟨z, h4, h5⟩ := List.mem_flatMap.1 h2
      refine .step (h z h4) h5 fun e => ?_
      subst e
      simp at h3
theorem start_sound {sc : Int → List Int} {gone : Int} : ∀ x, x ∈ startL gone → RchW sc gone x := fun x hx => by
  unfold startL at hx
  split at hx
  · cases hx
  · rename_i h; rw [List.mem_singleton.1 hx]; exact .start h
theorem closed_all {sc : Int → List Int} {gone : Int} {l : List Int} (hc : closedB sc gone l = true) : ∀ x, RchW sc gone x → x ∈ l := fun x hx => by
  unfold closedB at hc
  simp only [Bool.and_eq_true, Bool.or_eq_true, beq_iff_eq, List.contains_iff_mem, List.all_eq_true] at hc
  induction hx with
  | start h => exact hc.1.resolve_left h
  | step _ h1 h2 ih => exact (hc.2 _ ih _ h1).resolve_left h2
def tabC (sc : Int → List Int) (o : List Int) (k : Nat) (a b : Nat) : Bool := o.contains (a : Int) && o.contains (b : Int) && !(growL sc a k (startL a)).contains (b : Int)
theorem tabC_ok {sc : Int → List Int} {o : List Int} {n k : Nat} (h : (List.range n).all (fun (a : Nat) => closedB sc a (growL sc a k (startL a))) = true) : TabOk sc o n (tabC sc o k) := fun a b ha hb => by
  have hc := List.all_eq_true.1 h a (List.mem_range.2 ha)
  unfold tabC
  simp only [Bool.and_eq_true, Bool.not_eq_true', List.contains_iff_mem, and_assoc]
  refine and_congr_right fun _ => and_congr_right fun _ => ?_
  rw [← Bool.not_eq_true, List.contains_iff_mem]
  exact not_congr ⟨fun h => grow_sound _ _ start_sound _ h, fun h => closed_all hc _ h⟩
end Go.Proofs.Ytidjaohlaljmpaa

namespace Go.Proofs.Ytidjaohlaljmpaa
open Go.RowKit
set_option linter.unusedSimpArgs false
set_option linter.unusedVariables false

def SomeB (p : Prop) (w : World) (e : Ending) (w' : World) : Prop := ∃ r : Bool, e = .returned (.bool r) ∧ (r = true ↔ p) ∧ Below w.heap.size w w'
theorem topF_zero (l : List Int) : topF l 0 = 0 := if_pos rfl
theorem topF_of {l : List Int} {k : Nat} {x : Int} (h0 : k ≠ 0) (h : l[k]? = some x) : topF l k = x := by unfold topF; rw [if_neg (by omega)]; exact upF_some h
theorem anc_zero {l : List Int} {a : Int} : Anc (topF l) a 0 ↔ a = 0 := by
  constructor
  · intro h
    cases h with
    | refl => rfl
    | up h0 _ => exact (h0 rfl).elim
  · rintro rfl; exact .refl
theorem anc_up {l : List Int} {a : Int} {k : Nat} {x : Int} (h0 : k ≠ 0) (h : l[k]? = some x) (hne : (k : Int) ≠ a) : Anc (topF l) a k ↔ Anc (topF l) a x := by
  have e := topF_of h0 h
  constructor
  · intro h
    cases h with
    | refl => exact (hne rfl).elim
    | up _ h1 => rwa [e] at h1
  · intro h1
    refine .up (by omega) ?_
    rwa [e]
set_option maxRecDepth 100000 in
set_option maxHeartbeats 3200000 in
theorem above_any (sc : Int → List Int) (o l : List Int) (n g : Nat) (a b : Int) (w : World) (hn9 : n ≤ 2000000) (I : IdomOk sc o n l) (O : OrderOk n sc o) (ha : 0 ≤ a) (hb : b ∈ o)
    (hu : ∀ (k : Nat) x, l[k]? = some x → ∀ w', Below w.heap.size w w' → w'.cell? ⟨g, k, none⟩ = some (.int .i64 x)) :
    Calls Try.prog 50 #[.slice (some ⟨g, 0, none⟩) n n, .int .i64 a, .int .i64 b] w (SomeB (Anc (topF l) a b) w) := by
  have hself := Below.refl w.heap.size w
  have hll := I.len
  replace I := hide I
  replace O := hide O
  replace hb := hide hb
  replace hu := hide hu
  go_enter Try.func50, Try.ntmps50
  go_wp2
  go_loopw [2] (fun s wr => ∃ y : Int, s = .int .i64 y ∧ Hid (y = -1 ∨ y ∈ o) ∧ Hid (Anc (topF l) a b ↔ (0 ≤ y ∧ Anc (topF l) a y)) ∧ Below w.heap.size w wr) (fun s _ => if intOf s < 0 then 0 else o.idxOf (intOf s) + 1)
  case atStart => exact ⟨b, rfl, hide (.inr hb.out), hide ⟨fun h => ⟨(O.out.bound b hb.out).1, h⟩, fun h => h.2⟩, hself⟩
  case round =>
    obtain ⟨y, rfl, hy, hiff, hbel⟩ := hrel
    by_cases hy0 : y = -1
    · subst hy0
      have hc : ((-1 : Int) == a) = false := by simp; omega
      have hfin : Hid (false = true ↔ Anc (topF l) a b) := hide ⟨(fun h => by cases h), fun h => by have := (hiff.out.1 h).1; omega⟩
      go_wp2
      go_ret
      exact ⟨_, rfl, hfin.out, hbel⟩
    · have hyo : Hid (y ∈ o) := hide (hy.out.resolve_left hy0)
      obtain ⟨hp0, hp9⟩ := O.out.bound y hyo.out
      obtain ⟨yn, hyn⟩ := Int.eq_ofNat_of_zero_le hp0
      subst hyn
      by_cases hya : (yn : Int) = a
      · have hc : ((yn : Int) != a) = false := by simp [hya]
        have hc2 : ((yn : Int) == a) = true := by simp [hya]
        have hfin : Hid (Anc (topF l) a b) := hide (hiff.out.2 ⟨hp0, by rw [hya]; exact .refl⟩)
        replace hya := hide hya
        go_wp2
        go_ret
        exact ⟨_, rfl, ⟨fun _ => hfin.out, fun _ => rfl⟩, hbel⟩
      · have hc : ((yn : Int) != a) = true := by simp [hya]
        obtain ⟨x, hx⟩ := get_ex (l := l) (k := yn) (by omega)
        have rx := hu.out yn x hx.out _ hbel
        have hpos : Hid (¬ ((yn : Int) < 0)) := hide (by omega)
        by_cases hz : yn = 0
        · have hx1 : x = -1 := by have h1 := I.out.none_ yn (by omega) (.inr hz); rw [hx.out] at h1; exact Option.some.inj h1
          subst hx1
          have hi2 : Hid (Anc (topF l) a b ↔ (0 ≤ (-1 : Int) ∧ Anc (topF l) a (-1))) := hide ⟨fun h => by
            have h1 := (hiff.out.1 h).2
            rw [hz] at h1
            have h2 := anc_zero.1 h1
            exact (hya (by rw [h2, hz]; rfl)).elim, fun h => by omega⟩
          replace hya := hide hya
          replace hz := hide hz
          go_wp2
          go_roundw
          case rel => exact ⟨-1, rfl, hide (.inl rfl), hi2, hbel⟩
          case measure =>
            show 0 < (if (yn : Int) < 0 then 0 else o.idxOf (yn : Int) + 1)
            rw [if_neg hpos.out]; omega
        · obtain ⟨u, h3, h4, h5, h6, -⟩ := I.out.some_ yn (by omega) hyo.out hz
          have hxu : x = u := by have := hx.out; rw [h3] at this; exact (Option.some.inj this).symm
          subst hxu
          have hx0 := (O.out.bound x h4).1
          have hi2 : Hid (Anc (topF l) a b ↔ (0 ≤ x ∧ Anc (topF l) a x)) := hide (hiff.out.trans ⟨fun h => ⟨hx0, (anc_up hz h3 hya).1 h.2⟩, fun h => ⟨hp0, (anc_up hz h3 hya).2 h.2⟩⟩)
          have hm : Hid ((if x < 0 then 0 else o.idxOf x + 1) < (if (yn : Int) < 0 then 0 else o.idxOf (yn : Int) + 1)) := hide (by rw [if_neg (by omega), if_neg hpos.out]; omega)
          replace hya := hide hya
          replace hz := hide hz
          replace h4 := hide h4
          clear h3 h5 h6
          go_wp2
          go_roundw
          case rel => exact ⟨x, rfl, hide (.inr h4.out), hi2, hbel⟩
          case measure => exact hm.out

def Dom (sc : Int → List Int) (o : List Int) (a b : Int) : Prop := a ∈ o ∧ b ∈ o ∧ ¬ RchW sc a b
def DomPost (sc : Int → List Int) (o : List Int) (a b : Int) (w : World) : Ending → World → Prop := SomeB (Dom sc o a b) w
set_option maxRecDepth 100000 in
set_option maxHeartbeats 6400000 in
theorem dominates_any (f : Fun) (a b : Int) (c1 c2 : Value) (w : World) (B : Nat) (hB : B ≤ w.heap.size) (hf : RFun.rep w B [.string f.name, c1, .int .i64 f.ret, c2] f) (hs : Small f) :
    Calls Try.prog 26 #[f.v c1 c2, .int .i64 a, .int .i64 b] w (DomPost (succsF f.blocks) (orderF f.blocks) a b w) := by
  obtain ⟨hp, hb⟩ := fun_open (RFun.later hf (Below.refl _ _) hB)
  obtain ⟨A1, k1, h1, -, -⟩ := Rp.slice1_open hp
  obtain ⟨A2, k2, h2, hm2, -⟩ := Rp.slice1_open hb
  cases h1; cases h2
  clear hp hb
  obtain ⟨n, hn⟩ : ∃ n, Hid (n = f.blocks.length) := ⟨_, hide rfl⟩
  have hnle : n ≤ 2000000 := by rw [hn.out]; exact hs.blocks
  obtain ⟨O, hO⟩ : ∃ O, Hid (O = orderF f.blocks) := ⟨_, hide rfl⟩
  obtain ⟨sc, hsc⟩ : ∃ sc, Hid (sc = succsF f.blocks) := ⟨_, hide rfl⟩
  obtain ⟨R, hR⟩ : ∃ R, Hid (R = reachF f.blocks) := ⟨_, hide rfl⟩
  obtain ⟨P, hP⟩ : ∃ P, Hid (P = predsL sc n) := ⟨_, hide rfl⟩
  have hPl : P.length = n := by rw [hP.out, predsL_len]
  have hRl : R.length = n := by rw [hR.out, hn.out, reach_len]
  have hsok : Hid (∀ b, SuccOk n (sc b)) := hide (fun b => by rw [hsc.out, hn.out]; exact succsF_ok _ _)
  have hok : Hid (OrderOk n sc O) := hide (by rw [hO.out, hn.out, hsc.out]; exact order_ok _)
  have hol : O.length ≤ n := by rw [hO.out, hn.out]; exact order_len _
  have hRat : Hid (∀ k : Nat, k < n → R[k]? = some (decide ((k : Int) ∈ O))) := hide (fun k hk => by rw [hR.out, hO.out]; exact reach_at _ _ (by rw [← hn.out]; exact hk))
  rw [← hn.out, ← hO.out, ← hsc.out]
  rw [← hn.out] at hf hm2
  obtain ⟨W, hW, hwW, hWs, hx⟩ := boxes1 w #[.string f.name, .slice A1 f.params.length k1, .int .i64 f.ret, .slice A2 n k2] 25
  have q0 : ∀ w', Below W.heap.size W w' → w'.cell? ⟨w.heap.size, 0, none⟩ = some (.string f.name) := hx 0 _ rfl
  have q1 : ∀ w', Below W.heap.size W w' → w'.cell? ⟨w.heap.size, 1, none⟩ = some (.slice A1 f.params.length k1) := hx 1 _ rfl
  have q2 : ∀ w', Below W.heap.size W w' → w'.cell? ⟨w.heap.size, 2, none⟩ = some (.int .i64 f.ret) := hx 2 _ rfl
  have q3 : ∀ w', Below W.heap.size W w' → w'.cell? ⟨w.heap.size, 3, none⟩ = some (.slice A2 n k2) := hx 3 _ rfl
  clear hx
  have hws : w.heap.size ≤ W.heap.size := by omega
  replace hWs := hide hWs
  have hself := Below.refl W.heap.size W
  have hF : Hid (∀ w', Below W.heap.size W w' → RFun.rep w' w'.heap.size [.string f.name, .slice A1 f.params.length k1, .int .i64 f.ret, .slice A2 n k2] f) := hide (fun w' h => RFun.later hf ((hwW.trans (h.mono hws)).mono hB) (Nat.le_trans hB (hwW.trans (h.mono hws)).size))
  have cR : Hid (∀ w', Below W.heap.size W w' → Calls Try.prog 24 #[f.v (.slice A1 f.params.length k1) (.slice A2 n k2)] w' (ReachPost n R w')) := hide (fun w' h => by
    have := reach_any f (.slice A1 f.params.length k1) (.slice A2 n k2) w' w'.heap.size (Nat.le_refl _) (hF.out w' h) hs
    rwa [← hn.out, ← hR.out] at this)
  have cI : Hid (∀ w', Below W.heap.size W w' → Calls Try.prog 51 #[f.v (.slice A1 f.params.length k1) (.slice A2 n k2)] w' (IdomPost sc O n w')) := hide (fun w' h => by
    have := idom_any f (.slice A1 f.params.length k1) (.slice A2 n k2) w' w'.heap.size (Nat.le_refl _) (hF.out w' h) hs
    rwa [← hn.out, ← hO.out, ← hsc.out] at this)
  replace hs := hide hs
  replace hf := hide hf
  replace hwW := hide hwW
  have hOb : Hid (∀ x, x ∈ O → 0 ≤ x ∧ x < n) := hide hok.out.bound
  go_enter Try.func26, Try.ntmps26
  go_wp2_with (fail)
  refine (cR.out _ hself).mono ?_
  rintro e X ⟨gr, rfl, hR4, hb4⟩
  obtain ⟨-, hRr⟩ := bool_reads hR4
  replace hRr := hide hRr
  have hsX := hb4.size
  have hbX := hb4
  have hwX : Hid (Below w.heap.size w X) := hide (hwW.out.trans (hbX.mono hws))
  have hself9 := Below.refl X.heap.size X
  have no : ¬ Dom sc O a b → Hid (false = true ↔ Dom sc O a b) := fun h => hide ⟨(fun h => by cases h), fun h' => (h h').elim⟩
  replace no := hide no
  clear hR4 hb4 cR
  by_cases a0 : a < 0
  · have fin := no.out fun h => by have := hOb.out a h.1; omega
    go_wp2
    go_ret
    exact ⟨_, rfl, fin.out, hwX.out⟩
  by_cases b0 : b < 0
  · have fin := no.out fun h => by have := hOb.out b h.2.1; omega
    go_wp2
    go_ret
    exact ⟨_, rfl, fin.out, hwX.out⟩
  obtain ⟨an, hae⟩ := Int.eq_ofNat_of_zero_le (by omega : 0 ≤ a)
  subst hae
  obtain ⟨bn, hbe⟩ := Int.eq_ofNat_of_zero_le (by omega : 0 ≤ b)
  subst hbe
  by_cases a1 : n ≤ an
  · have fin := no.out fun h => by have := hOb.out _ h.1; omega
    have a2 : (an : Int) ≥ (n : Int) := by omega
    go_wp2
    go_ret
    exact ⟨_, rfl, fin.out, hwX.out⟩
  by_cases b1 : n ≤ bn
  · have fin := no.out fun h => by have := hOb.out _ h.2.1; omega
    have a2 : ¬ (an : Int) ≥ (n : Int) := by omega
    have b2 : (bn : Int) ≥ (n : Int) := by omega
    go_wp2
    go_ret
    exact ⟨_, rfl, fin.out, hwX.out⟩
  have a2 : ¬ (an : Int) ≥ (n : Int) := by omega
  have b2 : ¬ (bn : Int) ≥ (n : Int) := by omega
  have a3 : an < n := by omega
  have b3 : bn < n := by omega
  have ra := hRr.out an _ (hRat.out an a3) _ hself9
  have rb := hRr.out bn _ (hRat.out bn b3) _ hself9
  clear a0 b0 a1 b1
  by_cases am : (an : Int) ∈ O
  · by_cases bm : (bn : Int) ∈ O
    · rw [show decide ((an : Int) ∈ O) = true from decide_eq_true am] at ra
      rw [show decide ((bn : Int) ∈ O) = true from decide_eq_true bm] at rb
      replace am := hide am
      replace bm := hide bm
      go_wp2_with (fail)
      refine (cI.out _ hbX).mono ?_
      rintro e Y ⟨g, l, rfl, hI, hN, hb5⟩
      have hwY : Hid (Below w.heap.size w Y) := hide (hwX.out.trans (hb5.mono hwX.out.size))
      have cA : Hid (Calls Try.prog 50 #[.slice (some ⟨g, 0, none⟩) n n, .int .i64 an, .int .i64 bn] Y (SomeB (Anc (topF l) an bn) Y)) := hide (above_any sc O l n g an bn Y hnle hI hok.out (by omega) bm.out hN.reads)
      have hiff : Hid (Anc (topF l) an bn ↔ Dom sc O an bn) := hide ((hI.anc hok.out (by omega) bm.out).trans ⟨fun h => ⟨am.out, bm.out, h⟩, fun h => h.2.2⟩)
      clear hI hN hb5
      go_wp2_with (fail)
      refine cA.out.mono ?_
      rintro e Z ⟨r, rfl, hr, hb6⟩
      have hwZ : Hid (Below w.heap.size w Z) := hide (hwY.out.trans (hb6.mono hwY.out.size))
      have fin : Hid (r = true ↔ Dom sc O an bn) := hide (hr.trans hiff.out)
      clear hr hb6
      go_wp2
      go_ret
      exact ⟨_, rfl, fin.out, hwZ.out⟩
    · have fin := no.out fun h => bm h.2.1
      rw [show decide ((an : Int) ∈ O) = true from decide_eq_true am] at ra
      rw [show decide ((bn : Int) ∈ O) = false from decide_eq_false bm] at rb
      replace am := hide am
      replace bm := hide bm
      go_wp2
      go_ret
      exact ⟨_, rfl, fin.out, hwX.out⟩
  · have fin := no.out fun h => am h.1
    rw [show decide ((an : Int) ∈ O) = false from decide_eq_false am] at ra
    replace am := hide am
    clear rb
    go_wp2
    go_ret
    exact ⟨_, rfl, fin.out, hwX.out⟩
end Go.Proofs.Ytidjaohlaljmpaa
