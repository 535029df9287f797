/- Texts of the chain, without what is not wanted: TdSa, TdSb, TdW. No condition but sizes. -/
import Derived.WalkKit
import Derived.Deep.Slices
import Derived.Deep.Draws
import Derived.ChangeSame
import Derived.ChangeOld
import Derived.OwnWalk
import Derived.Laws.OwnMore
import Derived.Deep.AppendLies
import Derived.Test.YtamjcafjdioidaaRows
import Derived.ProofKit
import Derived.OpenShut
import Derived.JoinedCond
import Derived.WalkSpells
import Derived.WalkLawsBesides
import Derived.Deep.RegionHeld3
import Derived.Deep.LoopGhost
import Derived.Deep.QuietTactic
import Derived.BigQuiet
import Derived.Deep.DeepCutAuto
import Derived.Deep.CutBlock
import Derived.StillTailTactics
import Derived.Deep.RegionLaw
import Derived.Lib.SliceRun
import Derived.Laws.IdiomCopy
import Derived.Deep.MidRow
import Derived.Lib.Overlaps
import Derived.RegionTactic
import Derived.Deep.RegionLawGrows
import Derived.Test.YtamjcafjdioidaaUz01
import Derived.Test.YtamjcafjdioidaaUz02
import Derived.Test.YtamjcafjdioidaaUz03
import Derived.Test.YtamjcafjdioidaaUz04
import Derived.Test.YtamjcafjdioidaaUz05
import Derived.Test.YtamjcafjdioidaaUz06
import Derived.Test.YtamjcafjdioidaaUz07
import Derived.Test.YtamjcafjdioidaaUz08
import Derived.Test.YtamjcafjdioidaaUz09
import Derived.Test.YtamjcafjdioidaaUz10
import Derived.Test.YtamjcafjdioidaaUz11
import Derived.Test.YtamjcafjdioidaaUz12
import Derived.Test.YtamjcafjdioidaaUz13
import Derived.Test.YtamjcafjdioidaaUz14
import Derived.Test.YtamjcafjdioidaaUz15
import Derived.Test.YtamjcafjdioidaaUz16
import Derived.Test.YtamjcafjdioidaaUz17
import Derived.Test.YtamjcafjdioidaaUz18
import Derived.Test.YtamjcafjdioidaaUz19
import Derived.Test.YtamjcafjdioidaaUz20
import Derived.Test.YtamjcafjdioidaaUz21
import Derived.Test.YtamjcafjdioidaaUz22
import Derived.Test.YtamjcafjdioidaaUz23
import Derived.Test.YtamjcafjdioidaaUz24
import Derived.Test.YtamjcafjdioidaaUz25
import Derived.Test.YtamjcafjdioidaaUz26
import Derived.Test.YtamjcafjdioidaaUz27
import Derived.Test.YtamjcafjdioidaaUz28
import Derived.Test.YtamjcafjdioidaaUz29
import Derived.Test.YtamjcafjdioidaaUz30
import Derived.Test.YtamjcafjdioidaaUz31
namespace Go.Proofs.Ytamjcafjdioidaa
set_option linter.unusedVariables false
set_option linter.unusedSimpArgs false
inductive Pth (bs : List (List Ins)) : List Nat → Prop
 | start : Pth bs [0]
 | step {p c : Nat} {π : List Nat} : Pth bs (p :: π) → EndTo bs p (c : Int) → Pth bs (c :: p :: π)
def DefIn (bs : List (List Ins)) (d : Nat) (r : Int) : Prop := ∃ l z, bs[d]? = some l ∧ z ∈ l ∧ z.reg = r
def takes (x : Ins) : List (Int × Opd) := x.to.zip x.args
structure SInv (bs : List (List Ins)) : Prop where
 num : ∀ l x a, l ∈ bs → x ∈ l → a ∈ x.args → a.kind = 1 → 0 ≤ a.num
 ssa : ∀ (c p : Nat) π, Pth bs (c :: p :: π) → ∀ l x a, bs[c]? = some l → x ∈ l → x.op = 25 → ((p : Int), a) ∈ takes x → a.kind = 1 → ∀ d, DefIn bs d a.num → d ∈ p :: π
theorem Pth.mono {bs bs' : List (List Ins)} (h : ∀ p c, EndTo bs' p c → EndTo bs p c) {π : List Nat} (hp : Pth bs' π) : Pth bs π := by
 induction hp with
 | start => exact .start
 | step _ h2 ih => exact .step ih (h _ _ h2)
theorem takes_arg {x : Ins} {q : Int × Opd} (h : q ∈ takes x) : q.1 ∈ x.to ∧ q.2 ∈ x.args := ⟨(List.of_mem_zip h).1, (List.of_mem_zip h).2⟩
theorem zip_erase {α β : Type} : ∀ (l : List α) (m : List β) (i : Nat), l.length = m.length → (l.eraseIdx i).zip (m.eraseIdx i) = (l.zip m).eraseIdx i
 | [], [], _, _ => by simp
 | [], b :: m, _, h => by simp at h
 | a :: l, [], _, h => by simp at h
 | a :: l, b :: m, 0, _ => by simp
 | a :: l, b :: m, i + 1, h => by
  rw [List.eraseIdx_cons_succ, List.eraseIdx_cons_succ, List.zip_cons_cons, List.zip_cons_cons, List.eraseIdx_cons_succ, zip_erase l m i (by simpa using h)]
theorem takes_drop {p : Int} {x : Ins} (h : x.args.length = x.to.length) {q : Int × Opd} (hq : q ∈ takes (dropP p x)) : q ∈ takes x := by
 unfold dropP at hq
 split at hq
 ·unfold takes at hq ⊢
  have hq : q ∈ (x.to.eraseIdx (x.to.idxOf p)).zip (x.args.eraseIdx (x.to.idxOf p)) := hq
  rw [zip_erase _ _ _ h.symm] at hq
  exact List.mem_of_mem_eraseIdx hq
 ·exact hq
theorem args_drop {p : Int} {x : Ins} {a : Opd} (hq : a ∈ (dropP p x).args) : a ∈ x.args := by
 unfold dropP at hq
 split at hq
 ·exact List.mem_of_mem_eraseIdx hq
 ·exact hq
theorem SInv.sub {bs bs' : List (List Ins)} (h : SInv bs) (hend : ∀ p c, EndTo bs' p c → EndTo bs p c)
  (hat : ∀ (c : Nat) l', bs'[c]? = some l' → ∃ l, bs[c]? = some l ∧ ∀ x', x' ∈ l' → (x'.reg = -1 ∧ x'.op ≠ 25 ∧ x'.args = []) ∨ ∃ x, x ∈ l ∧ x'.op = x.op ∧ x'.reg = x.reg ∧ (∀ a, a ∈ x'.args → a ∈ x.args) ∧ (x.op = 25 → ∀ q, q ∈ takes x' → q ∈ takes x)) : SInv bs' := by
 refine ⟨fun l x a hl hx ha hk => ?_, fun c p π hp l x a hl hx ho hq hk d hd => ?_⟩
 ·obtain ⟨c, hc⟩ := List.mem_iff_getElem?.1 hl
  obtain ⟨l0, h0, h1⟩ := hat c l hc
  rcases h1 x hx with ⟨-, -, h2⟩ | ⟨x0, h2, -, -, h3, -⟩
  ·rw [h2] at ha; cases ha
  ·exact h.num l0 x0 a (List.mem_of_getElem? h0) h2 (h3 a ha) hk
 ·obtain ⟨l0, h0, h1⟩ := hat c l hl
  rcases h1 x hx with ⟨-, h2, -⟩ | ⟨x0, h2, h3, -, h5, h4⟩
  ·exact absurd ho h2
  ·have hn := h.num l0 x0 a (List.mem_of_getElem? h0) h2 (h5 a (takes_arg hq).2) hk
   refine h.ssa c p π (hp.mono hend) l0 x0 a h0 h2 (by rw [← h3]; exact ho) (h4 (by rw [← h3]; exact ho) _ hq) hk d ?_
   obtain ⟨l1, z, g1, g2, g3⟩ := hd
   obtain ⟨l2, g4, g5⟩ := hat d l1 g1
   rcases g5 z g2 with ⟨g6, -, -⟩ | ⟨z0, g6, -, g7, -, -⟩
   ·omega
   ·exact ⟨l2, z0, g4, g6, by rw [← g7]; exact g3⟩
theorem Pth.first {bs : List (List Ins)} {b : Nat} (hb : b ≠ 0) : ∀ {π : List Nat}, Pth bs π → b ∈ π → ∃ q ρ, Pth bs (b :: q :: ρ) ∧ b ∉ q :: ρ ∧ ∀ e, e ∈ q :: ρ → e ∈ π := by
 intro π h
 induction h with
 | start => intro hm; exact absurd (List.mem_singleton.1 hm) hb
 | @step p c ρ h1 h2 ih =>
  intro hm
  by_cases hp : b ∈ p :: ρ
  ·obtain ⟨q, σ, g1, g2, g3⟩ := ih hp
   exact ⟨q, σ, g1, g2, fun e he => List.mem_cons_of_mem _ (g3 e he)⟩
  ·rcases List.mem_cons.1 hm with h3 | h3
   ·subst h3
    exact ⟨p, ρ, .step h1 h2, hp, fun e he => List.mem_cons_of_mem _ he⟩
   ·exact absurd h3 hp
theorem SInv.jump {bs : List (List Ins)} (hT : TInv bs) (h : SInv bs) {b : Nat} {l : List Ins} {x : Ins} (hb : bs[b]? = some l) (hx : l.getLast? = some x) (h32 : x.op = 32) {t o : Int} (ht : ∀ c, c ∈ x.to ↔ c = t ∨ c = o) :
  SInv (bs.set b (setEnd l (brJ t))) ∧ SInv (loseB b (bs.set b (setEnd l (brJ t))) o.toNat) := by
 have hbl := (List.getElem?_eq_some_iff.1 hb).1
 obtain ⟨ys, hys⟩ := List.getLast?_eq_some_iff.1 hx
 have hxm := List.mem_of_getLast? hx
 have hor := (hT.loc b l hb).wf.to_ x hxm o ((ht o).2 (.inr rfl))
 have hlast1 : (setEnd l (brJ t)).getLast? = some (brJ t) := by rw [setEnd_eq hys, List.getLast?_concat]
 have hend : ∀ p c, EndTo (bs.set b (setEnd l (brJ t))) p c → EndTo bs p c := fun p c hc => by
  obtain ⟨y, h1, h2, h3⟩ := hc
  rw [endI_set hb] at h1
  by_cases e : p = b
  ·rw [if_pos e, hlast1] at h1
   cases h1
   have e1 : c = t := List.mem_singleton.1 h3
   exact ⟨x, by rw [e, endI_last hb]; exact hx, .inr h32, (ht c).2 (.inl e1)⟩
  ·rw [if_neg e] at h1
   exact ⟨y, h1, h2, h3⟩
 have hmem : ∀ (c : Nat) l', (bs.set b (setEnd l (brJ t)))[c]? = some l' → ∃ l0, bs[c]? = some l0 ∧ ∀ y, y ∈ l' → y ∈ l0 ∨ y = brJ t := fun c l' hl' => by
  by_cases e : c = b
  ·subst e
   rw [List.getElem?_set_self hbl] at hl'
   cases hl'
   refine ⟨l, hb, fun y hy => ?_⟩
   rw [setEnd_eq hys] at hy
   rcases List.mem_append.1 hy with h1 | h1
   ·left; rw [hys]; exact List.mem_append_left _ h1
   ·right; exact List.mem_singleton.1 h1
  ·rw [List.getElem?_set_ne (Ne.symm e)] at hl'
   exact ⟨l', hl', fun y hy => .inl hy⟩
 have h1 : SInv (bs.set b (setEnd l (brJ t))) := h.sub hend fun c l' hl' => by
  obtain ⟨l0, h0, h1⟩ := hmem c l' hl'
  refine ⟨l0, h0, fun y hy => ?_⟩
  rcases h1 y hy with h2 | h2
  ·exact .inr ⟨y, h2, rfl, rfl, fun a ha => ha, fun _ q hq => hq⟩
  ·exact .inl ⟨by rw [h2]; rfl, by rw [h2]; show (31 : Int) ≠ 25; omega, by rw [h2]; rfl⟩
 refine ⟨h1, ?_⟩
 have hoc : o.toNat < (bs.set b (setEnd l (brJ t))).length := by rw [List.length_set]; omega
 have hlo : (bs.set b (setEnd l (brJ t)))[o.toNat]? = some ((bs.set b (setEnd l (brJ t))).getD o.toNat []) := getD_at hoc
 obtain ⟨l0, h0, h01⟩ := hmem _ _ hlo
 have hL0 := hT.loc _ _ h0
 have hfr : Fronts ((bs.set b (setEnd l (brJ t))).getD o.toNat []) := by
  by_cases e : o.toNat = b
  ·have hLb := hT.loc b l hb
   have htr : 1 ≤ t ∧ t < bs.length := ⟨(hLb.fin x hx).2.2 t ((ht t).2 (.inl rfl)), (hLb.wf.to_ x hxm t ((ht t).2 (.inl rfl))).2⟩
   have e1 : (bs.set b (setEnd l (brJ t))).getD o.toNat [] = setEnd l (brJ t) := by
    rw [e, List.getD_eq_getElem?_getD, List.getElem?_set_self hbl]; rfl
   rw [e1]
   exact (hLb.setEnd htr).fr
  ·rw [List.getElem?_set_ne (fun e1 => e e1.symm)] at hlo
   rw [h0] at hlo
   cases hlo
   exact hL0.fr
 have hno : ∀ y, ((bs.set b (setEnd l (brJ t))).getD o.toNat []).getLast? = some y → dropPhi b y = y := fun y hy => by
  have hne : y.op ≠ 25 := by
   have hym := List.mem_of_getLast? hy
   by_cases e : o.toNat = b
   ·have e1 : (bs.set b (setEnd l (brJ t))).getD o.toNat [] = setEnd l (brJ t) := by
     rw [e, List.getD_eq_getElem?_getD, List.getElem?_set_self hbl]; rfl
    rw [e1, hlast1] at hy
    cases hy
    show (31 : Int) ≠ 25
    omega
   ·rw [List.getElem?_set_ne (fun e1 => e e1.symm), h0] at hlo
    rw [← Option.some.inj hlo] at hy
    exact (hL0.fin y hy).1
  unfold dropPhi
  rw [if_neg hne]
 refine h1.sub (fun p c hc => ?_) fun c l' hl' => ?_
 ·obtain ⟨y, g1, g2, g3⟩ := hc
  unfold loseB at g1
  rw [endI_set hlo] at g1
  by_cases e : p = o.toNat
  ·rw [if_pos e, loseL_map hfr, List.getLast?_map] at g1
   cases hq : ((bs.set b (setEnd l (brJ t))).getD o.toNat []).getLast? with
   | none => rw [hq] at g1; cases g1
   | some z =>
    rw [hq] at g1
    simp only [Option.map_some, Option.some.injEq] at g1
    rw [hno z hq] at g1
    subst g1
    exact ⟨z, by rw [e, endI_last hlo]; exact hq, g2, g3⟩
  ·rw [if_neg e] at g1
   exact ⟨y, g1, g2, g3⟩
 ·unfold loseB at hl'
  by_cases e : c = o.toNat
  ·subst e
   rw [List.getElem?_set_self hoc, loseL_map hfr] at hl'
   cases hl'
   refine ⟨_, hlo, fun y hy => ?_⟩
   obtain ⟨z, hz, rfl⟩ := List.mem_map.1 hy
   refine .inr ⟨z, hz, dropPhi_op _ _, ?_, fun a ha => ?_, fun h25 q hq => ?_⟩
   ·unfold dropPhi
    split
    ·unfold dropP; split <;> rfl
    ·rfl
   ·unfold dropPhi at ha
    split at ha
    ·exact args_drop ha
    ·exact ha
   ·unfold dropPhi at hq
    rw [if_pos h25] at hq
    refine takes_drop ?_ hq
    rcases h01 z hz with h5 | h5
    ·exact hL0.wf.phi z h5 h25
    ·rw [h5] at h25
     have : (31 : Int) = 25 := h25
     omega
  ·rw [List.getElem?_set_ne (Ne.symm e)] at hl'
   exact ⟨l', hl', fun y hy => .inr ⟨y, hy, rfl, rfl, fun a ha => ha, fun _ q hq => hq⟩⟩
theorem SInv.decided {bs bs' : List (List Ins)} {R : List Bool} (hT : TInv bs) (h : SInv bs) (hd : decidedS R bs = some bs') : SInv bs' := by
 unfold decidedS at hd
 cases hf : (List.range bs.length).find? (dcB R bs) with
 | none => rw [hf] at hd; cases hd
 | some b =>
  rw [hf] at hd
  cases hd
  obtain ⟨h1, h2, -⟩ := List.find?_range_eq_some.1 hf
  have hbl := List.mem_range.1 h2
  have hb : bs[b]? = some (bs.getD b []) := getD_at hbl
  unfold dcB at h1
  cases he : endI bs b with
  | none => rw [he] at h1; simp at h1
  | some x =>
   rw [he] at h1
   have h32 : x.op = 32 := by simp at h1; exact h1.2.1
   have hx : (bs.getD b []).getLast? = some x := by rw [← endI_last hb]; exact he
   have hxm := List.mem_of_getLast? hx
   obtain ⟨hto, -⟩ := (hT.loc b _ hb).wf.brif x hxm h32
   obtain ⟨t0, t1, hto⟩ : ∃ t0 t1, x.to = [t0, t1] := by
    match h9 : x.to, hto with
    | [a, b], _ => exact ⟨a, b, rfl⟩
   obtain ⟨t, o, hgo, ht⟩ : ∃ t o, goesI x = (t, o) ∧ ∀ c, c ∈ x.to ↔ c = t ∨ c = o := by
    unfold goesI
    rw [hto]
    split
    ·exact ⟨t0, t1, rfl, fun c => by simp⟩
    ·exact ⟨t1, t0, rfl, fun c => by simp [or_comm]⟩
   obtain ⟨g1, g2⟩ := SInv.jump hT h hb hx h32 ht
   simp only [he, Option.map_some, Option.getD_some, hgo]
   unfold decAt
   by_cases e : o = t
   ·rw [if_pos e]; exact g1
   ·rw [if_neg e]; exact g2
theorem SInv.twice {bs bs' : List (List Ins)} {R : List Bool} (hT : TInv bs) (h : SInv bs) (hd : twiceS R bs = some bs') : SInv bs' := by
 unfold twiceS at hd
 cases hf : (List.range bs.length).find? (twB R bs) with
 | none => rw [hf] at hd; cases hd
 | some b =>
  rw [hf] at hd
  cases hd
  obtain ⟨h1, h2, -⟩ := List.find?_range_eq_some.1 hf
  have hbl := List.mem_range.1 h2
  have hb : bs[b]? = some (bs.getD b []) := getD_at hbl
  unfold twB at h1
  cases he : endI bs b with
  | none => rw [he] at h1; simp at h1
  | some x =>
   rw [he] at h1
   have h32 : x.op = 32 := by simp at h1; exact h1.2.1
   have hx : (bs.getD b []).getLast? = some x := by rw [← endI_last hb]; exact he
   have hxm := List.mem_of_getLast? hx
   obtain ⟨hto, -⟩ := (hT.loc b _ hb).wf.brif x hxm h32
   obtain ⟨t0, t1, hto⟩ : ∃ t0 t1, x.to = [t0, t1] := by
    match h9 : x.to, hto with
    | [a, b], _ => exact ⟨a, b, rfl⟩
   obtain ⟨g1, -⟩ := SInv.jump hT h hb hx h32 (t := t0) (o := t1) (fun c => by rw [hto]; simp)
   simp only [he, Option.map_some, Option.getD_some, hto, List.getD_eq_getElem?_getD, List.getElem?_cons_zero]
   rw [List.getD_eq_getElem?_getD] at g1
   exact g1
theorem loneF_ok (x : Ins) : ∀ k, (loneF x k).2 = true → ∀ e, e ∈ x.args.take k → e = selfO x ∨ e = (loneF x k).1
 | 0, _, e, he => by simp at he
 | k + 1, hk, e, he => by
  cases ha : x.args[k]? with
  | none =>
   have hl : x.args.length ≤ k := List.getElem?_eq_none_iff.1 ha
   have e1 : loneF x (k + 1) = loneF x k := by
    unfold loneF
    rw [List.take_of_length_le (by omega), List.take_of_length_le hl]
   have e2 : x.args.take (k + 1) = x.args.take k := by rw [List.take_of_length_le (by omega), List.take_of_length_le hl]
   rw [e1] at hk ⊢
   rw [e2] at he
   exact loneF_ok x k hk e he
  | some a =>
   rw [loneF_next ha] at hk ⊢
   rw [take_snoc ha, List.mem_append, List.mem_singleton] at he
   unfold loneStep at hk ⊢
   by_cases h1 : a = selfO x
   ·rw [if_pos h1] at hk ⊢
    rcases he with he | he
    ·exact loneF_ok x k hk e he
    ·left; rw [he]; exact h1
   ·rw [if_neg h1] at hk ⊢
    by_cases h2 : (loneF x k).1 = selfO x
    ·rw [if_pos h2] at hk ⊢
     rcases he with he | he
     ·left
      rcases loneF_ok x k hk e he with h3 | h3
      ·exact h3
      ·rw [h3]; exact h2
     ·right; exact he
    ·rw [if_neg h2] at hk ⊢
     by_cases h3 : a = (loneF x k).1
     ·rw [if_neg (by simpa using h3)] at hk ⊢
      rcases he with he | he
      ·exact loneF_ok x k hk e he
      ·right; rw [he]; exact h3
     ·rw [if_pos h3] at hk
      cases hk
theorem lone_all {x : Ins} {v : Opd} (h : loneS x = some v) : ∀ e, e ∈ x.args → e = selfO x ∨ e = v := by
 unfold loneS at h
 split at h
 ·rename_i h1
  cases h
  intro e he
  exact loneF_ok x x.args.length h1.1 e (by rw [List.take_length]; exact he)
 ·cases h
theorem takes_sub {σ : Opd → Opd} {z : Ins} {p : Int} {a' : Opd} (h : (p, a') ∈ takes (subIns σ z)) : ∃ a, (p, a) ∈ takes z ∧ a' = σ a := by
 unfold takes at h
 have h : (p, a') ∈ z.to.zip (z.args.map σ) := h
 rw [List.zip_map_right] at h
 obtain ⟨⟨q, a⟩, h1, h2⟩ := List.mem_map.1 h
 simp only [Prod.map, Prod.mk.injEq] at h2
 obtain ⟨h3, h4⟩ := h2
 refine ⟨a, ?_, h4.symm⟩
 rw [← h3]
 exact h1
theorem SInv.single {bs bs' : List (List Ins)} {R : List Bool} (hT : TInv bs) (h : SInv bs) (hd : singleS R bs = some bs') : SInv bs' := by
 unfold singleS at hd
 cases hf : (List.range bs.length).find? (sgB R bs) with
 | none => rw [hf] at hd; cases hd
 | some b =>
  rw [hf] at hd
  simp only [Option.bind_some] at hd
  obtain ⟨h1, h2, -⟩ := List.find?_range_eq_some.1 hf
  have hbl := List.mem_range.1 h2
  have hb : bs[b]? = some (bs.getD b []) := getD_at hbl
  obtain ⟨l, hl⟩ : ∃ l, l = bs.getD b [] := ⟨_, rfl⟩
  rw [← hl] at hd hb
  cases hp : lonePhi l with
  | none => rw [hp] at hd; cases hd
  | some i =>
   rw [hp] at hd
   simp only [Option.bind_some] at hd
   cases hx : l[i]? with
   | none => rw [hx] at hd; cases hd
   | some x =>
    rw [hx] at hd
    simp only [Option.bind_some] at hd
    cases hv : loneS x with
    | none => rw [hv] at hd; cases hd
    | some v =>
     rw [hv] at hd
     simp only [Option.map_some, Option.some.injEq] at hd
     unfold lonePhi at hp
     obtain ⟨-, hi, -⟩ := List.find?_range_eq_some.1 hp
     have h25 := phi_front (List.mem_range.1 hi) hx
     have hxm := List.mem_of_getElem? hx
     obtain ⟨hE, hlast⟩ := (hT.loc b l hb).erase hx h25
     unfold singleAt at hd
     rw [← hl] at hd
     have hend0 : ∀ p, endI (bs.set b (l.eraseIdx i)) p = endI bs p := fun p => by
      rw [endI_set hb]
      by_cases e : p = b
      ·subst e; rw [if_pos rfl, hlast, endI_last hb]
      ·rw [if_neg e]
     have hend : ∀ p c, EndTo bs' p c → EndTo bs p c := fun p c hc => by
      rw [← hd] at hc
      obtain ⟨y, g1, g2, g3⟩ := hc
      have e1 : endI (subAll (rsub x.reg v) (bs.set b (l.eraseIdx i))) p = (endI bs p).map (subIns (rsub x.reg v)) := by
       rw [← hend0 p]
       unfold subAll endI
       rw [List.getElem?_map]
       cases hq : (bs.set b (l.eraseIdx i))[p]? with
       | none => rfl
       | some q => simp
      rw [e1] at g1
      cases hq : endI bs p with
      | none => rw [hq] at g1; cases g1
      | some z =>
       rw [hq] at g1
       cases g1
       exact ⟨z, hq, g2, g3⟩
     have hat : ∀ (c : Nat) l', bs'[c]? = some l' → ∃ l0, bs[c]? = some l0 ∧ ∀ y, y ∈ l' → ∃ z, z ∈ l0 ∧ y = subIns (rsub x.reg v) z := fun c l' hl' => by
      rw [← hd] at hl'
      unfold subAll at hl'
      rw [List.getElem?_map] at hl'
      cases hq : (bs.set b (l.eraseIdx i))[c]? with
      | none => rw [hq] at hl'; cases hl'
      | some l1 =>
       rw [hq] at hl'
       cases hl'
       by_cases e : c = b
       ·subst e
        rw [List.getElem?_set_self hbl] at hq
        cases hq
        refine ⟨l, hb, fun y hy => ?_⟩
        obtain ⟨z, hz, rfl⟩ := List.mem_map.1 hy
        exact ⟨z, List.mem_of_mem_eraseIdx hz, rfl⟩
       ·rw [List.getElem?_set_ne (Ne.symm e)] at hq
        refine ⟨l1, hq, fun y hy => ?_⟩
        obtain ⟨z, hz, rfl⟩ := List.mem_map.1 hy
        exact ⟨z, hz, rfl⟩
     have hvm := loneS_mem hv
     refine ⟨fun l' y a hl' hy ha hk => ?_, fun c p π hpth l' y a' hl' hy ho hq hk d hdf => ?_⟩
     ·obtain ⟨c, hc⟩ := List.mem_iff_getElem?.1 hl'
      obtain ⟨l0, h0, h01⟩ := hat c l' hc
      obtain ⟨z, hz, rfl⟩ := h01 y hy
      rw [subIns_args] at ha
      obtain ⟨a0, ha0, rfl⟩ := List.mem_map.1 ha
      unfold rsub at hk ⊢
      split at hk
      ·rename_i hc1
       rw [if_pos hc1]
       exact h.num l x v (List.mem_of_getElem? hb) hxm hvm hk
      ·rename_i hc1
       rw [if_neg hc1]
       exact h.num l0 z a0 (List.mem_of_getElem? h0) hz ha0 hk
     ·obtain ⟨l0, h0, h01⟩ := hat c l' hl'
      obtain ⟨z, hz, rfl⟩ := h01 y hy
      obtain ⟨a, ha, rfl⟩ := takes_sub hq
      have hold := hpth.mono hend
      have hdo : DefIn bs d (rsub x.reg v a).num := by
       obtain ⟨l1, w, g1, g2, g3⟩ := hdf
       obtain ⟨l2, g4, g5⟩ := hat d l1 g1
       obtain ⟨w0, g6, rfl⟩ := g5 w g2
       exact ⟨l2, w0, g4, g6, g3⟩
      unfold rsub at hk hdo
      by_cases hc1 : a.kind = 1 ∧ a.num = x.reg
      ·rw [if_pos hc1] at hk hdo
       have hbin : b ∈ p :: π := h.ssa c p π hold l0 z a h0 hz ho ha hc1.1 b ⟨l, x, hb, hxm, hc1.2.symm⟩
       have hpp : Pth bs (p :: π) := by cases hold with | step h1 _ => exact h1
       obtain ⟨hb0, hpr⟩ := hT.phi b l hb x hxm h25
       obtain ⟨q, ρ, g1, g2, g3⟩ := hpp.first hb0 hbin
       have hq1 : (q : Int) ∈ x.to := (hpr q).2 ⟨by omega, by rw [Int.toNat_natCast]; cases g1 with | step _ h9 => exact h9⟩
       obtain ⟨k, hk9⟩ := List.mem_iff_getElem?.1 hq1
       have hlen := (hT.loc b l hb).wf.phi x hxm h25
       have hkl := (List.getElem?_eq_some_iff.1 hk9).1
       have he : x.args[k]? = some (x.args[k]'(by omega)) := List.getElem?_eq_getElem _
       have htk : ((q : Int), x.args[k]'(by omega)) ∈ takes x := List.mem_of_getElem? (i := k) (by
        unfold takes
        rw [List.getElem?_zip_eq_some]
        exact ⟨hk9, he⟩)
       rcases lone_all hv _ (List.mem_of_getElem? he) with h8 | h8
       ·rw [h8] at htk
        exact absurd (h.ssa b q ρ g1 l x (selfO x) hb hxm h25 htk rfl b ⟨l, x, hb, hxm, rfl⟩) g2
       ·rw [h8] at htk
        exact g3 d (h.ssa b q ρ g1 l x v hb hxm h25 htk hk d hdo)
      ·rw [if_neg hc1] at hk hdo
       exact h.ssa c p π hold l0 z a h0 hz ho ha hk d hdo
end Go.Proofs.Ytamjcafjdioidaa

namespace Go.Proofs.Ytamjcafjdioidaa
set_option linter.unusedVariables false
set_option linter.unusedSimpArgs false
theorem dropGI_sub (gone : List Bool) {n : Nat} {l : List Ins} (hl : LInv n l) {x : Ins} (hx : x ∈ l) : ∀ k, (dropGI gone k x).reg = x.reg ∧ (∀ a, a ∈ (dropGI gone k x).args → a ∈ x.args) ∧ (x.op = 25 → (dropGI gone k x).args.length = (dropGI gone k x).to.length ∧ ∀ q, q ∈ takes (dropGI gone k x) → q ∈ takes x)
 | 0 => ⟨rfl, fun a ha => ha, fun ho => ⟨hl.wf.phi x hx ho, fun q hq => hq⟩⟩
 | k + 1 => by
  obtain ⟨h1, h2, h3⟩ := dropGI_sub gone hl hx k
  rw [dropGI_next]
  split
  ·unfold dropPhi
   rw [dropGI_op]
   by_cases ho : x.op = 25
   ·rw [if_pos ho]
    obtain ⟨h4, h5⟩ := h3 ho
    refine ⟨?_, fun a ha => h2 a (args_drop ha), fun _ => ⟨phiLen_drop h4, fun q hq => h5 q (takes_drop h4 hq)⟩⟩
    rw [← h1]
    unfold dropP; split <;> rfl
   ·rw [if_neg ho]
    exact ⟨h1, h2, fun h => absurd h ho⟩
  ·exact ⟨h1, h2, h3⟩
theorem SInv.loseAll {bs : List (List Ins)} (hT : TInv bs) (h : SInv bs) (gone : List Bool) : SInv (loseAll gone bs.length bs bs.length) := by
 have hat := fun c => loseAll_at (gone := gone) (n := bs.length) (bs := bs) c bs.length (Nat.le_refl _)
 have hget : ∀ (c : Nat) l', (Go.Proofs.Ytamjcafjdioidaa.loseAll gone bs.length bs bs.length)[c]? = some l' → ∃ l, bs[c]? = some l ∧ (l' = l.map (dropGI gone bs.length) ∨ l' = l) := fun c l' hl' => by
  rw [(hat c).2] at hl'
  cases hl : bs[c]? with
  | none => rw [hl] at hl'; cases hl'
  | some l =>
   rw [hl] at hl'
   refine ⟨l, rfl, ?_⟩
   simp only [Option.map_some, Option.some.injEq] at hl'
   split at hl'
   ·left; rw [← hl']; exact (dropG_map gone (hT.loc c l hl) bs.length).1
   ·exact .inr hl'.symm
 refine h.sub (fun p c hc => ?_) fun c l' hl' => ?_
 ·obtain ⟨y, g1, g2, g3⟩ := hc
  have hp := endTo_lt ⟨y, g1, g2, g3⟩
  rw [(hat 0).1] at hp
  obtain ⟨l', hl'⟩ : ∃ l', (Go.Proofs.Ytamjcafjdioidaa.loseAll gone bs.length bs bs.length)[p]? = some l' := ⟨_, List.getElem?_eq_getElem (by rw [(hat 0).1]; exact hp)⟩
  obtain ⟨l, hl, h1⟩ := hget p l' hl'
  rw [endI_last hl'] at g1
  rcases h1 with h1 | h1
  ·rw [h1, List.getLast?_map] at g1
   cases hq : l.getLast? with
   | none => rw [hq] at g1; cases g1
   | some z =>
    rw [hq] at g1
    simp only [Option.map_some, Option.some.injEq] at g1
    rw [dropGI_no gone ((hT.loc p l hl).fin z hq).1] at g1
    subst g1
    exact ⟨z, by rw [endI_last hl]; exact hq, g2, g3⟩
  ·rw [h1] at g1
   exact ⟨y, by rw [endI_last hl]; exact g1, g2, g3⟩
 ·obtain ⟨l, hl, h1⟩ := hget c l' hl'
  refine ⟨l, hl, fun x' hx' => .inr ?_⟩
  rcases h1 with h1 | h1
  ·rw [h1] at hx'
   obtain ⟨x, hx, rfl⟩ := List.mem_map.1 hx'
   obtain ⟨h2, h3, h4⟩ := dropGI_sub gone (hT.loc c l hl) hx bs.length
   exact ⟨x, hx, dropGI_op gone x _, h2, h3, fun ho => (h4 ho).2⟩
  ·rw [h1] at hx'
   exact ⟨x', hx', rfl, rfl, fun a ha => ha, fun _ q hq => hq⟩
theorem SInv.without {bs : List (List Ins)} {gone : List Bool} (h : SInv bs) (hn : bs.length = gone.length) (h0 : Kept gone 0) (hpos : 0 < bs.length) (hrng : ∀ (c : Nat) l, bs[c]? = some l → Kept gone c → ∀ x, x ∈ l → ∀ t, t ∈ x.to → 0 ≤ t ∧ t < bs.length ∧ Kept gone t.toNat) : SInv (withoutS gone bs) := by
 have h00 : leftN gone 0 = 0 := by simp [leftN]
 have hend : ∀ (p : Nat) (c' : Int), p < bs.length → Kept gone p → EndTo (withoutS gone bs) (leftN gone p) c' → ∃ c : Nat, c < bs.length ∧ Kept gone c ∧ (leftN gone c : Int) = c' ∧ EndTo bs p c := fun p c' hp hkp hc => by
  have hb : bs[p]? = some (bs.getD p []) := getD_at hp
  have hb' := without_get bs hb hn hkp
  obtain ⟨y, g1, g2, g3⟩ := hc
  rw [endI_last hb', List.getLast?_map] at g1
  cases hl : (bs.getD p []).getLast? with
  | none => rw [hl] at g1; cases g1
  | some x =>
   rw [hl] at g1
   cases g1
   rw [renI_to] at g3
   obtain ⟨t, ht, g4⟩ := List.mem_map.1 g3
   obtain ⟨r1, r2, r3⟩ := hrng p _ hb hkp x (List.mem_of_getLast? hl) t ht
   refine ⟨t.toNat, by omega, r3, by rw [← g4]; rfl, x, by rw [endI_last hb]; exact hl, g2, ?_⟩
   rw [show ((t.toNat : Nat) : Int) = t by omega]
   exact ht
 have hpth : ∀ π', Pth (withoutS gone bs) π' → ∃ π, Pth bs π ∧ π.map (leftN gone) = π' ∧ ∀ e, e ∈ π → e < bs.length ∧ Kept gone e := fun π' hp => by
  induction hp with
  | start => exact ⟨[0], .start, by simp [h00], fun e he => by rw [List.mem_singleton.1 he]; exact ⟨hpos, h0⟩⟩
  | @step p' c' ρ' h1 h2 ih =>
   obtain ⟨π, g1, g2, g3⟩ := ih
   cases π with
   | nil => simp at g2
   | cons p π =>
    simp only [List.map_cons, List.cons.injEq] at g2
    obtain ⟨g4, g5⟩ := g2
    obtain ⟨p0, p1⟩ := g3 p (List.mem_cons_self ..)
    rw [← g4] at h2
    obtain ⟨c, c0, c1, c2, c3⟩ := hend p c' p0 p1 h2
    refine ⟨c :: p :: π, .step g1 c3, ?_, fun e he => ?_⟩
    ·rw [List.map_cons, List.map_cons, g4, g5]
     congr 1
     omega
    ·rcases List.mem_cons.1 he with h3 | h3
     ·rw [h3]; exact ⟨c0, c1⟩
     ·exact g3 e h3
 refine ⟨fun l' x' a hl' hx' ha hk => ?_, fun c' p' π' hp l' x' a hl' hx' ho hq hk d' hd => ?_⟩
 ·obtain ⟨c', hc'⟩ := List.mem_iff_getElem?.1 hl'
  obtain ⟨c, l, hl, -, -, rfl⟩ := without_at bs hc' hn
  obtain ⟨x, hx, rfl⟩ := List.mem_map.1 hx'
  exact h.num l x a (List.mem_of_getElem? hl) hx ha hk
 ·obtain ⟨π, g1, g2, g3⟩ := hpth _ hp
  match π, g1, g2, g3 with
  | c :: p :: π, g1, g2, g3 =>
   simp only [List.map_cons, List.cons.injEq] at g2
   obtain ⟨g4, g5, g6⟩ := g2
   obtain ⟨c0, c1⟩ := g3 c (List.mem_cons_self ..)
   obtain ⟨p0, p1⟩ := g3 p (List.mem_cons_of_mem _ (List.mem_cons_self ..))
   obtain ⟨c9, l, hl, hk9, hc9, rfl⟩ := without_at bs hl' hn
   have e1 : c9 = c := leftN_inj (by rw [← hn]; exact (List.getElem?_eq_some_iff.1 hl).1) (by omega) hk9 c1 (by omega)
   subst e1
   obtain ⟨x, hx, rfl⟩ := List.mem_map.1 hx'
   have hq' : ∃ q, (q, a) ∈ takes x ∧ renT gone q = (p' : Int) := by
    unfold takes at hq ⊢
    have hq : ((p' : Int), a) ∈ (x.to.map (renT gone)).zip x.args := hq
    rw [List.zip_map_left] at hq
    obtain ⟨⟨q, a0⟩, h1, h2⟩ := List.mem_map.1 hq
    simp only [Prod.map, Prod.mk.injEq] at h2
    obtain ⟨h3, h4⟩ := h2
    have h5 : a0 = a := h4
    subst h5
    exact ⟨q, h1, h3⟩
   obtain ⟨q, hq1, hq2⟩ := hq'
   obtain ⟨r1, r2, r3⟩ := hrng c9 l hl hk9 x hx q (takes_arg hq1).1
   have e2 : q.toNat = p := leftN_inj (by omega) (by omega) r3 p1 (by unfold renT at hq2; omega)
   obtain ⟨l1, z, k1, k2, k3⟩ := hd
   obtain ⟨d, l2, k4, k5, k6, rfl⟩ := without_at bs k1 hn
   obtain ⟨z0, k7, rfl⟩ := List.mem_map.1 k2
   have := h.ssa c9 p π g1 l x a hl hx ho (by rw [show (p : Int) = q by omega]; exact hq1) hk d ⟨l2, z0, k4, k7, k3⟩
   rw [← k6, ← g5, ← g6, ← List.map_cons]
   exact List.mem_map_of_mem this
  | [_], g1, g2, g3 => simp at g2
  | [], g1, g2, g3 => simp at g2
theorem SInv.unseen {bs bs' : List (List Ins)} (hT : TInv bs) (h : SInv bs) (hd : unseenS (reachF bs) bs = some bs') : SInv bs' := by
 unfold unseenS at hd
 split at hd
 case isFalse => cases hd
 rename_i hany
 cases hd
 obtain ⟨gone, hgone⟩ : ∃ gone, gone = (reachF bs).map fun r => !r := ⟨_, rfl⟩
 rw [← hgone]
 have hgl : gone.length = bs.length := by rw [hgone, List.length_map, reach_len]
 have hkr : ∀ c, c < bs.length → (Kept gone c ↔ (reachF bs)[c]? = some true) := fun c hc => by rw [hgone]; exact kept_reach hc
 have hat := fun c => loseAll_at (gone := gone) (n := bs.length) (bs := bs) c bs.length (Nat.le_refl _)
 have hlen : (Go.Proofs.Ytamjcafjdioidaa.loseAll gone bs.length bs bs.length).length = bs.length := (hat 0).1
 refine (SInv.loseAll hT h gone).without (by omega) ((hkr 0 hT.pos).2 (reach_zero hT.pos)) (by rw [hlen]; exact hT.pos) fun c l' hl' hk x hx t ht => ?_
 rw [hlen]
 rw [(hat c).2] at hl'
 cases hl : bs[c]? with
 | none => rw [hl] at hl'; cases hl'
 | some l =>
  rw [hl] at hl'
  have hcl := (List.getElem?_eq_some_iff.1 hl).1
  simp only [Option.map_some, Option.some.injEq] at hl'
  rw [if_pos ⟨hcl, hk⟩] at hl'
  obtain ⟨h1, h2⟩ := dropG_map gone (hT.loc c l hl) bs.length
  have hr : 0 ≤ t ∧ t < bs.length := h2.wf.to_ x (by rw [hl']; exact hx) t ht
  refine ⟨hr.1, hr.2, ?_⟩
  rw [← hl', h1] at hx
  obtain ⟨y, hy, rfl⟩ := List.mem_map.1 hx
  by_cases ho : y.op = 25
  ·obtain ⟨-, h3⟩ := dropGI_phi gone ho ((hT.loc c l hl).srt y hy ho) bs.length
   have h4 := ((h3 t).1 ht).2
   unfold Kept
   cases hg : gone.getD t.toNat false with
   | false => rfl
   | true => exact absurd ⟨hr.1, by omega, hg⟩ h4
  ·rw [dropGI_no gone ho] at ht
   rcases (hT.loc c l hl).kinds hy with h3 | h3 | ⟨h3, h4⟩
   ·exact absurd h3 ho
   ·rw [h3] at ht; cases ht
   ·have h5 : EndTo bs c t := ⟨y, by rw [endI_last hl]; exact h3, h4, ht⟩
    have h6 := (endTo_succ hr).1 h5
    have h7 := (hkr c hcl).1 hk
    refine (hkr t.toNat (by omega)).2 (reach_step h7 hcl ?_ (by omega))
    rw [show ((t.toNat : Nat) : Int) = t by omega]
    exact h6
theorem zip_insert {α β : Type} : ∀ (l : List α) (m : List β) (i : Nat) (a : α) (b : β), l.length = m.length → i ≤ l.length → ∀ q, q ∈ (l.insertIdx i a).zip (m.insertIdx i b) → q = (a, b) ∨ q ∈ l.zip m
 | l, m, 0, a, b, _, _, q, hq => by
  simp only [List.insertIdx_zero, List.zip_cons_cons, List.mem_cons] at hq
  exact hq
 | [], m, i + 1, a, b, _, hi, q, hq => by simp at hi
 | x :: l, [], i + 1, a, b, h, _, q, hq => by simp at h
 | x :: l, y :: m, i + 1, a, b, h, hi, q, hq => by
  rw [List.insertIdx_succ_cons, List.insertIdx_succ_cons, List.zip_cons_cons, List.mem_cons] at hq
  rcases hq with hq | hq
  ·right; rw [List.zip_cons_cons, hq]; exact List.mem_cons_self ..
  ·rcases zip_insert l m i a b (by simpa using h) (by simpa using hi) q hq with h1 | h1
   ·exact .inl h1
   ·right; rw [List.zip_cons_cons]; exact List.mem_cons_of_mem _ h1
theorem takes_mov {p q : Int} {x : Ins} (h : x.args.length = x.to.length) (hq : q ∉ x.to) {r : Int} {a : Opd} (hr : (r, a) ∈ takes (movI p q x)) : (r = q ∧ (p, a) ∈ takes x) ∨ (r ≠ q ∧ (r, a) ∈ takes x) := by
 by_cases hp : p ∈ x.to
 ·have e : takes (movI p q x) = ((x.to.eraseIdx (x.to.idxOf p)).insertIdx (bsI (x.to.eraseIdx (x.to.idxOf p)) q) q).zip ((x.args.eraseIdx (x.to.idxOf p)).insertIdx (bsI (x.to.eraseIdx (x.to.idxOf p)) q) (x.args.getD (x.to.idxOf p) ⟨0, 0, 0⟩)) := by
   unfold takes movI
   rw [if_pos hp]
  rw [e] at hr
  have hk := List.idxOf_lt_length_of_mem hp
  have hl : (x.to.eraseIdx (x.to.idxOf p)).length = (x.args.eraseIdx (x.to.idxOf p)).length := by
   rw [List.length_eraseIdx, List.length_eraseIdx, if_pos hk, if_pos (by omega), h]
  rcases zip_insert _ _ _ _ _ hl (bsI_le _ _) _ hr with h1 | h1
  ·simp only [Prod.mk.injEq] at h1
   obtain ⟨h2, h3⟩ := h1
   left
   refine ⟨h2, ?_⟩
   have hpk : x.to[x.to.idxOf p]? = some p := by
    rw [List.getElem?_eq_getElem hk, List.getElem_idxOf hk]
   have hak : x.args[x.to.idxOf p]? = some (x.args.getD (x.to.idxOf p) ⟨0, 0, 0⟩) := getD_at (by omega)
   rw [h3]
   exact List.mem_of_getElem? (i := x.to.idxOf p) (by unfold takes; rw [List.getElem?_zip_eq_some]; exact ⟨hpk, hak⟩)
  ·right
   rw [zip_erase _ _ _ h.symm] at h1
   have h2 : (r, a) ∈ takes x := List.mem_of_mem_eraseIdx h1
   exact ⟨fun e => hq (e ▸ (takes_arg h2).1), h2⟩
 ·rw [movI_no hp] at hr
  exact .inr ⟨fun e => hq (e ▸ (takes_arg hr).1), hr⟩
theorem args_mov {p q : Int} {x : Ins} (h : x.args.length = x.to.length) {a : Opd} (ha : a ∈ (movI p q x).args) : a ∈ x.args := by
 by_cases hp : p ∈ x.to
 ·have hk := List.idxOf_lt_length_of_mem hp
  have e : (movI p q x).args = (x.args.eraseIdx (x.to.idxOf p)).insertIdx (bsI (x.to.eraseIdx (x.to.idxOf p)) q) (x.args.getD (x.to.idxOf p) ⟨0, 0, 0⟩) := by
   unfold movI
   rw [if_pos hp]
  rw [e] at ha
  have hl : (x.to.eraseIdx (x.to.idxOf p)).length = (x.args.eraseIdx (x.to.idxOf p)).length := by
   rw [List.length_eraseIdx, List.length_eraseIdx, if_pos hk, if_pos (by omega), h]
  rcases (List.mem_insertIdx (by rw [← hl]; exact bsI_le _ _)).1 ha with h1 | h1
  ·rw [h1]; exact List.mem_of_getElem? (getD_at (by omega))
  ·exact List.mem_of_mem_eraseIdx h1
 ·rw [movI_no hp] at ha; exact ha
end Go.Proofs.Ytamjcafjdioidaa

namespace Go.Proofs.Ytamjcafjdioidaa
set_option linter.unusedVariables false
set_option linter.unusedSimpArgs false
section
variable {bs : List (List Ins)}
theorem stepS_cases (bs : List (List Ins)) : stepS bs = ((decidedS (reachF bs) bs).or ((twiceS (reachF bs) bs).or ((singleS (reachF bs) bs).or ((unseenS (reachF bs) bs).or (mergedS (predsL (succsF bs) bs.length) bs))))) := by
 have e : List.range 5 = [0, 1, 2, 3, 4] := rfl
 unfold stepS
 rw [e]
 cases h0 : decidedS (reachF bs) bs with
 | some x => simp [ruleS, h0]
 | none =>
  cases h1 : twiceS (reachF bs) bs with
  | some x => simp [ruleS, h0, h1]
  | none =>
   cases h2 : singleS (reachF bs) bs with
   | some x => simp [ruleS, h0, h1, h2]
   | none =>
    cases h3 : unseenS (reachF bs) bs with
    | some x => simp [ruleS, h0, h1, h2, h3]
    | none =>
     cases h4 : mergedS (predsL (succsF bs) bs.length) bs with
     | some x => simp [ruleS, h0, h1, h2, h3, h4]
     | none => simp [ruleS, h0, h1, h2, h3, h4]
end
end Go.Proofs.Ytamjcafjdioidaa
