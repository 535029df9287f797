/- Nearest dominators by definition (a table of who dominates whom), and that they are the list that two fingers give; no program is in sight. No condition. | dom.above, dom.Dominates. No condition but sizes. | A block that is a jump, as data. No condition. | lathelaw07.jump, lathelaw07.lives, lathelaw07.long. No condition. -/
import Derived.Test.YtamjcafjdioidaaDoB
import Derived.Test.YtamjcafjdioidaaDoD
import Derived.Test.YtamjcafjdioidaaHm
import Derived.Test.YtamjcafjdioidaaGrJ
import Derived.Test.YtamjcafjdioidaaGrNf
namespace Go.Proofs.Ytamjcafjdioidaa
set_option linter.unusedVariables false

theorem rchW_zero {sc : Int → List Int} {x : Int} (h : RchW sc 0 x) : False := by
  induction h with
  | start h0 => exact h0 rfl
  | step _ _ _ ih => exact ih
theorem rchW_nonneg {sc : Int → List Int} {n : Nat} {g x : Int} (hs : ∀ b, SuccOk n (sc b)) (h : RchW sc g x) : 0 ≤ x := by
  cases h with
  | start _ => omega
  | step _ h1 _ => exact ((hs _).bound _ h1).1

/-- which dominates which -/
def TabOk (sc : Int → List Int) (o : List Int) (n : Nat) (T : Nat → Nat → Bool) : Prop := ∀ a b : Nat, a < n → b < n → (T a b = true ↔ ((a : Int) ∈ o ∧ (b : Int) ∈ o ∧ ¬ RchW sc a b))
def nearB (T : Nat → Nat → Bool) (n b a : Nat) : Bool := !(a == b) && T a b && (List.range n).all fun c => c == b || !T c b || T c a
def idomAt (T : Nat → Nat → Bool) (n b : Nat) : Int := (List.range n).foldl (fun x a => if nearB T n b a then (a : Int) else x) (-1)
def idomL (T : Nat → Nat → Bool) (n : Nat) : List Int := (List.range n).map (idomAt T n)
theorem idomL_len (T : Nat → Nat → Bool) (n : Nat) : (idomL T n).length = n := by simp [idomL]
theorem idomL_at (T : Nat → Nat → Bool) {n b : Nat} (h : b < n) : (idomL T n)[b]? = some (idomAt T n b) := by simp [idomL, h]

theorem pick_none {p : Nat → Bool} {n : Nat} (h : ∀ a, a < n → p a = false) : (List.range n).foldl (fun x a => if p a then (a : Int) else x) (-1) = -1 := by
  induction n with
  | zero => rfl
  | succ n ih => rw [List.range_succ, List.foldl_append, ih (fun a ha => h a (by omega))]; simp [h n (by omega)]
theorem pick_one {p : Nat → Bool} {n u : Nat} (hu : u < n) (h1 : p u = true) (h : ∀ a, a < n → p a = true → a = u) : (List.range n).foldl (fun x a => if p a then (a : Int) else x) (-1) = u := by
  induction n with
  | zero => omega
  | succ n ih =>
    rw [List.range_succ, List.foldl_append]
    by_cases e : u = n
    · subst e; simp [h1]
    · have hn : p n = false := by
        cases hp : p n with
        | false => rfl
        | true => exact (e (h n (by omega) hp).symm).elim
      rw [ih (by omega) fun a ha hp => h a (by omega) hp]
      simp [hn]
section
variable {sc : Int → List Int} {o : List Int} {n : Nat} {l : List Int} {T : Nat → Nat → Bool}
theorem near_iff {a b : Nat} : nearB T n b a = true ↔ (a ≠ b ∧ T a b = true ∧ ∀ c, c < n → c ≠ b → T c b = true → T c a = true) := by
  unfold nearB
  simp only [Bool.and_eq_true, Bool.not_eq_true', beq_eq_false_iff_ne, ne_eq, List.all_eq_true, List.mem_range, Bool.or_eq_true, beq_iff_eq]
  constructor
  · rintro ⟨⟨h1, h2⟩, h3⟩
    refine ⟨h1, h2, fun c hc hne hT => ?_⟩
    rcases h3 c hc with (h4 | h4) | h4
    · exact (hne h4).elim
    · rw [hT] at h4; cases h4
    · exact h4
  · rintro ⟨h1, h2, h3⟩
    refine ⟨⟨h1, h2⟩, fun c hc => ?_⟩
    by_cases h4 : c = b
    · exact .inl (.inl h4)
    · cases h5 : T c b with
      | false => exact .inl (.inr rfl)
      | true => exact .inr (h3 c hc h4 h5)
theorem IdomOk.eq (I : IdomOk sc o n l) (O : OrderOk n sc o) (hT : TabOk sc o n T) : l = idomL T n := by
  refine List.ext_getElem? fun b => ?_
  by_cases hb : b < n
  · rw [idomL_at T hb]
    have hn : 0 < n := by omega
    by_cases h : (b : Int) ∈ o ∧ b ≠ 0
    · obtain ⟨u, h3, h4, h5, h6, h7, h8⟩ := I.some_ b hb h.1 h.2
      rw [h3]
      obtain ⟨hu0, hun⟩ := O.bound u h4
      obtain ⟨un, rfl⟩ := Int.eq_ofNat_of_zero_le hu0
      have hne : un ≠ b := fun e => h5 (by rw [e])
      have hun' : un < n := by omega
      congr 1
      refine (pick_one hun' (near_iff.2 ⟨hne, (hT un b hun' hb).2 ⟨h4, h.1, h7⟩, fun c hc hcb hc2 => ?_⟩) fun a ha hp => ?_).symm
      · obtain ⟨g1, g2, g3⟩ := (hT c b hc hb).1 hc2
        exact (hT c un hc hun').2 ⟨g1, h4, h8 c (by omega) g3⟩
      · obtain ⟨g1, g2, g3⟩ := near_iff.1 hp
        obtain ⟨a1, a2, a3⟩ := (hT a b ha hb).1 g2
        have d1 := ((hT un a hun' ha).1 (g3 un hun' hne ((hT un b hun' hb).2 ⟨h4, h.1, h7⟩))).2.2
        have d2 := h8 a (by omega) a3
        have P := ord_ok O hn
        have Tr := I.tree O hn
        have := Tr.anti P (I.alive O hn a1) (I.alive O hn h4) d2 d1
        omega
    · rw [I.none_ b hb (by by_cases h0 : b = 0; exact .inr h0; exact .inl fun h1 => h ⟨h1, h0⟩)]
      congr 1
      refine (pick_none fun a ha => ?_).symm
      cases hp : nearB T n b a with
      | false => rfl
      | true =>
        exfalso
        obtain ⟨g1, g2, g3⟩ := near_iff.1 hp
        obtain ⟨a1, a2, a3⟩ := (hT a b ha hb).1 g2
        refine h ⟨a2, fun h0 => ?_⟩
        subst h0
        exact a3 (.start (by omega))
  · rw [List.getElem?_eq_none (by rw [I.len]; omega), List.getElem?_eq_none (by rw [idomL_len]; omega)]
theorem IdomOk.unique {l' : List Int} (I : IdomOk sc o n l) (I' : IdomOk sc o n l') (O : OrderOk n sc o) : l = l' := by
  classical
  have hT : TabOk sc o n fun a b => decide ((a : Int) ∈ o ∧ (b : Int) ∈ o ∧ ¬ RchW sc a b) := fun a b _ _ => by simp
  rw [I.eq O hT, I'.eq O hT]
end

/-- what can be come to without 'gone', grown round by round -/
def growL (sc : Int → List Int) (gone : Int) : Nat → List Int → List Int
  | 0, l => l
  | k + 1, l => growL sc gone k (l ++ ((l.flatMap sc).filter fun t => !(t == gone) && !(l.contains t)))
def startL (gone : Int) : List Int := if gone = 0 then [] else [0]
def closedB (sc : Int → List Int) (gone : Int) (l : List Int) : Bool := (gone == 0 || l.contains 0) && l.all fun x => (sc x).all fun t => t == gone || l.contains t
theorem grow_sound {sc : Int → List Int} {gone : Int} : ∀ (k : Nat) (l : List Int), (∀ x, x ∈ l → RchW sc gone x) → ∀ x, x ∈ growL sc gone k l → RchW sc gone x
  | 0, l, h, x, hx => h x hx
  | k + 1, l, h, x, hx => by
    refine grow_sound k _ (fun y hy => ?_) x hx
    rcases List.mem_append.1 hy with h1 | h1
    · exact h y h1
    · obtain ⟨h2, h3⟩ := List.mem_filter.1 h1
      obtain ⟨z, h4, h5⟩ := List.mem_flatMap.1 h2
      refine .step (h z h4) h5 fun e => ?_
      subst e
      simp at h3
theorem start_sound {sc : Int → List Int} {gone : Int} : ∀ x, x ∈ startL gone → RchW sc gone x := fun x hx => by
  unfold startL at hx
  split at hx
  · cases hx
  · rename_i h; rw [List.mem_singleton.1 hx]; exact .start h
theorem closed_all {sc : Int → List Int} {gone : Int} {l : List Int} (hc : closedB sc gone l = true) : ∀ x, RchW sc gone x → x ∈ l := fun x hx => by
  unfold closedB at hc
  simp only [Bool.and_eq_true, Bool.or_eq_true, beq_iff_eq, List.contains_iff_mem, List.all_eq_true] at hc
  induction hx with
  | start h => exact hc.1.resolve_left h
  | step _ h1 h2 ih => exact (hc.2 _ ih _ h1).resolve_left h2
def tabC (sc : Int → List Int) (o : List Int) (k : Nat) (a b : Nat) : Bool := o.contains (a : Int) && o.contains (b : Int) && !(growL sc a k (startL a)).contains (b : Int)
theorem tabC_ok {sc : Int → List Int} {o : List Int} {n k : Nat} (h : (List.range n).all (fun (a : Nat) => closedB sc a (growL sc a k (startL a))) = true) : TabOk sc o n (tabC sc o k) := fun a b ha hb => by
  have hc := List.all_eq_true.1 h a (List.mem_range.2 ha)
  unfold tabC
  simp only [Bool.and_eq_true, Bool.not_eq_true', List.contains_iff_mem, and_assoc]
  refine and_congr_right fun _ => and_congr_right fun _ => ?_
  rw [← Bool.not_eq_true, List.contains_iff_mem]
  exact not_congr ⟨fun h => grow_sound _ _ start_sound _ h, fun h => closed_all hc _ h⟩
end Go.Proofs.Ytamjcafjdioidaa

namespace Go.Proofs.Ytamjcafjdioidaa
open Go.RowKit
set_option linter.unusedSimpArgs false
set_option linter.unusedVariables false

def SomeB (p : Prop) (w : World) (e : Ending) (w' : World) : Prop := ∃ r : Bool, e = .returned (.bool r) ∧ (r = true ↔ p) ∧ Below w.heap.size w w'
theorem topF_zero (l : List Int) : topF l 0 = 0 := if_pos rfl
theorem topF_of {l : List Int} {k : Nat} {x : Int} (h0 : k ≠ 0) (h : l[k]? = some x) : topF l k = x := by unfold topF; rw [if_neg (by omega)]; exact upF_some h
theorem anc_zero {l : List Int} {a : Int} : Anc (topF l) a 0 ↔ a = 0 := by
  constructor
  · intro h
    cases h with
    | refl => rfl
    | up h0 _ => exact (h0 rfl).elim
  · rintro rfl; exact .refl
theorem anc_up {l : List Int} {a : Int} {k : Nat} {x : Int} (h0 : k ≠ 0) (h : l[k]? = some x) (hne : (k : Int) ≠ a) : Anc (topF l) a k ↔ Anc (topF l) a x := by
  have e := topF_of h0 h
  constructor
  · intro h
    cases h with
    | refl => exact (hne rfl).elim
    | up _ h1 => rwa [e] at h1
  · intro h1
    refine .up (by omega) ?_
    rwa [e]
def Dom (sc : Int → List Int) (o : List Int) (a b : Int) : Prop := a ∈ o ∧ b ∈ o ∧ ¬ RchW sc a b
def DomPost (sc : Int → List Int) (o : List Int) (a b : Int) (w : World) : Ending → World → Prop := SomeB (Dom sc o a b) w
end Go.Proofs.Ytamjcafjdioidaa

namespace Go.Proofs.Ytamjcafjdioidaa
open Go.RowKit
set_option linter.unusedSimpArgs false
set_option linter.unusedVariables false

def jumpS (op : Int) (ts : List Int) : List Ins := [⟨op, -1, 0, 0, 0, [], ts⟩]
def JumpPost (op : Int) (ts : List Int) (B : Nat) (w : World) (e : Ending) (w' : World) : Prop := ∃ v, e = .returned (.agg #[v]) ∧ OwnC w' B v (jumpS op ts) ∧ Below w.heap.size w w'
theorem own_lit {w : World} {B N n : Nat} {cs : Array Value} {l : List Int} (hcs : cs.toList = l.map fun z => Value.int .i64 z) (hn : l.length = n) (hl : ∀ x, x ∈ l → I64 x) (hN : N = w.heap.size) (hB : B ≤ w.heap.size) (hm : l.length ≤ 2000000) : OwnI (w.alloc (.cells cs 3)) B (.slice (some ⟨N, 0, none⟩) n n) l := by
  subst hn
  have hs : cs.size = l.length := by have := congrArg List.length hcs; simpa using this
  refine ⟨⟨by simp, .inr ⟨N, l.length, cs, rfl, by omega, box_at _ hN, Nat.le_refl _, by unfold maxLen; omega, by omega, ?_⟩⟩, hl⟩
  rw [hcs, List.take_of_length_le (by simp)]
theorem OwnC.below {w w' : World} {B : Nat} {v : Value} {l : List Ins} (h : OwnC w B v l) (hb : Below w.heap.size w w') : OwnC w' B v l := h.kept fun k _ hk => hb.block k hk
end Go.Proofs.Ytamjcafjdioidaa

namespace Go.Proofs.Ytamjcafjdioidaa
open Go.RowKit
set_option linter.unusedSimpArgs false
set_option linter.unusedVariables false

open Classical in
noncomputable def domB (sc : Int → List Int) (o : List Int) (a b : Int) : Bool := decide (Dom sc o a b)
theorem domB_iff {sc : Int → List Int} {o : List Int} {a b : Int} : domB sc o a b = true ↔ Dom sc o a b := by unfold domB; simp
theorem dominates_b {sc : Int → List Int} {o : List Int} {a b : Int} {v : Value} {args : Array Value} {w : World} {k : Nat} (h : Calls Try.prog k args w (DomPost sc o a b w)) : Calls Try.prog k args w (RetB (domB sc o a b) w) := by
  refine h.mono ?_
  rintro e w' ⟨r, rfl, h1, h2⟩
  have : r = domB sc o a b := by rw [Bool.eq_iff_iff, domB_iff]; exact h1
  rw [this]
  exact ⟨rfl, h2⟩
def lives07B : List (List Ins) := [jumpS 32 [1, 2], jumpS 31 [3], jumpS 32 [3, 4], jumpS 32 [1, 5], jumpS 31 [5], jumpS 33 [], jumpS 31 [5]]
def lives07Fn : Fun := ⟨⟨#[]⟩, [], 0, lives07B⟩
theorem lives07_small : Small lives07Fn := by
  refine ⟨by decide, by decide, fun x hx => ?_⟩
  have h : ∀ x, x ∈ lives07B → x.length ≤ 2000000 ∧ ∀ i, i ∈ x → i.args.length ≤ 2000000 ∧ i.to.length ≤ 2000000 := by decide
  exact h x hx
def tabD (sc : Int → List Int) (k : Nat) (a b : Nat) : Bool := (growL sc (-1) k [0]).contains (a : Int) && (growL sc (-1) k [0]).contains (b : Int) && !(growL sc a k (startL a)).contains (b : Int)
theorem tabD_ok {sc : Int → List Int} {o : List Int} {n k : Nat} (hn : 0 < n) (hs : ∀ b, SuccOk n (sc b)) (O : OrderOk n sc o) (h0 : closedB sc (-1) (growL sc (-1) k [0]) = true) (h : (List.range n).all (fun (a : Nat) => closedB sc a (growL sc a k (startL a))) = true) : TabOk sc o n (tabD sc k) := fun a b ha hb => by
  have e : ∀ x : Nat, (growL sc (-1) k [0]).contains (x : Int) = decide ((x : Int) ∈ o) := fun x => by
    rw [Bool.eq_iff_iff, List.contains_iff_mem, decide_eq_true_eq, O.mem, ← rchW_all hs]
    exact ⟨fun h => ⟨hn, grow_sound k _ (fun y hy => by rw [List.mem_singleton.1 hy]; exact .start (by decide)) _ h⟩, fun h => closed_all h0 _ h.2⟩
  have := tabC_ok (o := o) h a b ha hb
  unfold tabC at this
  unfold tabD
  rw [e a, e b]
  simpa only [List.elem_eq_contains, List.contains_eq_mem] using this
set_option maxRecDepth 100000 in
theorem lives07_tab : TabOk (succsF lives07B) (orderF lives07B) 7 (tabD (succsF lives07B) 7) := tabD_ok (by decide) (succsF_ok lives07B) (order_ok lives07B) (by decide +kernel) (by decide +kernel)
theorem lives07_idom {l : List Int} (I : IdomOk (succsF lives07B) (orderF lives07B) 7 l) : l = [-1, 0, 0, 0, 2, 0, -1] := by
  rw [I.eq (order_ok lives07B) lives07_tab]
  decide +kernel
theorem lives07_24 : domB (succsF lives07B) (orderF lives07B) 2 4 = true := domB_iff.2 ((lives07_tab 2 4 (by decide) (by decide)).1 (by decide +kernel))
theorem lives07_13 : domB (succsF lives07B) (orderF lives07B) 1 3 = false := by
  rw [← Bool.not_eq_true]
  intro h
  have h2 : tabD (succsF lives07B) 7 1 3 = true := (lives07_tab 1 3 (by decide) (by decide)).2 (domB_iff.1 h)
  exact absurd h2 (by decide +kernel)
def long7F (f : Fun) : Bool := decide (40 < f.blocks.length) || longF f
theorem long7F_le {f : Fun} (h : long7F f = false) : f.blocks.length ≤ 40 := by
  unfold long7F at h
  simp only [Bool.or_eq_false_iff, decide_eq_false_iff_not] at h
  omega
end Go.Proofs.Ytamjcafjdioidaa
