/- Texts of the chain, without what is not wanted: DoB, GrJ, GrNf. No condition but sizes. -/
import Derived.WalkKit
import Derived.Deep.Slices
import Derived.Deep.Draws
import Derived.ChangeSame
import Derived.ChangeOld
import Derived.OwnWalk
import Derived.Laws.OwnMore
import Derived.Deep.AppendLies
import Derived.Test.YtamjcafjdioidaaRows
import Derived.ProofKit
import Derived.OpenShut
import Derived.JoinedCond
import Derived.WalkSpells
import Derived.WalkLawsBesides
import Derived.Deep.RegionHeld3
import Derived.Deep.LoopGhost
import Derived.Deep.QuietTactic
import Derived.BigQuiet
import Derived.Deep.DeepCutAuto
import Derived.Deep.CutBlock
import Derived.StillTailTactics
import Derived.Deep.RegionLaw
import Derived.Test.YtamjcafjdioidaaUz01
import Derived.Test.YtamjcafjdioidaaUz02
import Derived.Test.YtamjcafjdioidaaUz04
import Derived.Test.YtamjcafjdioidaaUz05
import Derived.Test.YtamjcafjdioidaaUz06
import Derived.Test.YtamjcafjdioidaaUz14
namespace Go.Proofs.Ytamjcafjdioidaa
set_option linter.unusedVariables false
section
variable {sc : Int → List Int} {rk : Int → Nat} {c x b : Int} {j k : Nat}
theorem RchW.free_ne (h : RchW sc c x) : x ≠ c := by
 cases h with
 | start h => exact fun e => h e.symm
 | step _ _ h => exact h
end
end Go.Proofs.Ytamjcafjdioidaa
namespace Go.Proofs.Ytamjcafjdioidaa
set_option linter.unusedVariables false
def predsAt (succ : Int → List Int) (t : Int) (b : Nat) : List Int := ((List.range b).filter fun (x : Nat) => decide (t ∈ succ (x : Int))).map Int.ofNat
def predsPart (succ : Int → List Int) (n b i : Nat) : List (List Int) := (List.range n).map fun (t : Nat) => predsAt succ t b ++ (if (t : Int) ∈ (succ b).take i then [(b : Int)] else [])
def predsL (succ : Int → List Int) (n : Nat) : List (List Int) := (List.range n).map fun (t : Nat) => predsAt succ t n
theorem predsPart_len (succ : Int → List Int) (n b i : Nat) : (predsPart succ n b i).length = n := by simp [predsPart]
theorem predsL_len (succ : Int → List Int) (n : Nat) : (predsL succ n).length = n := by simp [predsL]
theorem predsPart_end (succ : Int → List Int) (n b : Nat) : predsPart succ n b (succ b).length = predsPart succ n (b + 1) 0 := by
 unfold predsPart
 refine List.map_congr_left fun t _ => ?_
 have e0 : ¬ (t : Int) ∈ (succ ((b + 1 : Nat) : Int)).take 0 := by rw [List.take_zero]; intro h; cases h
 rw [List.take_length, if_neg e0, List.append_nil]
 unfold predsAt
 rw [List.range_succ, List.filter_append, List.map_append]
 congr 1
 by_cases h : (t : Int) ∈ succ b
 ·rw [if_pos h]; simp [h]
 ·rw [if_neg h]; simp [h]
theorem predsPart_start (succ : Int → List Int) (n : Nat) : predsPart succ n 0 0 = List.replicate n [] := by
 refine List.ext_getElem (by simp [predsPart]) fun k h1 h2 => ?_
 simp [predsPart, predsAt]
theorem predsPart_last (succ : Int → List Int) (n : Nat) : predsPart succ n n 0 = predsL succ n := by
 unfold predsPart predsL
 refine List.map_congr_left fun t _ => ?_
 simp
theorem predsPart_step {succ : Int → List Int} {n b i t : Nat} (hs : (succ b).Nodup) (ht : (succ b)[i]? = some (t : Int)) (htn : t < n) {p : List Int} (hp : (predsPart succ n b i)[t]? = some p) :
  (predsPart succ n b i).set t (p ++ [(b : Int)]) = predsPart succ n b (i + 1) := by
 have htk : (t : Int) ∉ (succ b).take i := fun hm => by
  obtain ⟨j, hj⟩ := List.getElem?_of_mem hm
  rw [List.getElem?_take] at hj
  split at hj
  ·rename_i hji
   obtain ⟨h1, h2⟩ := List.getElem?_eq_some_iff.1 ht
   obtain ⟨h3, h4⟩ := List.getElem?_eq_some_iff.1 hj
   exact (List.pairwise_iff_getElem.1 hs) j i h3 h1 hji (h4.trans h2.symm)
  ·cases hj
 have hpe : p = predsAt succ t b := by
  unfold predsPart at hp
  rw [List.getElem?_map, List.getElem?_range htn] at hp
  simp only [Option.map_some, Option.some.injEq] at hp
  rw [if_neg htk, List.append_nil] at hp
  exact hp.symm
 subst hpe
 have htake : (succ b).take (i + 1) = (succ b).take i ++ [(t : Int)] := by rw [List.take_add_one, ht]; rfl
 refine List.ext_getElem? fun k => ?_
 by_cases hk : t = k
 ·subst hk
  rw [List.getElem?_set_self (by rw [predsPart_len]; exact htn)]
  unfold predsPart
  rw [List.getElem?_map, List.getElem?_range htn]
  simp only [Option.map_some]
  rw [htake, if_pos (by simp)]
 ·rw [List.getElem?_set_ne hk]
  unfold predsPart
  rw [List.getElem?_map, List.getElem?_map]
  by_cases hkn : k < n
  ·rw [List.getElem?_range hkn]
   simp only [Option.map_some]
   have : ((k : Int) ∈ (succ b).take (i + 1)) ↔ (k : Int) ∈ (succ b).take i := by rw [htake]; simp; omega
   simp only [this]
  ·rw [List.getElem?_eq_none (by simpa using hkn)]; rfl
theorem predsPart_at_len {succ : Int → List Int} {n b i t : Nat} {p : List Int} (hp : (predsPart succ n b i)[t]? = some p) : p.length ≤ b + 1 := by
 have htn : t < n := by have := (List.getElem?_eq_some_iff.1 hp).1; rwa [predsPart_len] at this
 unfold predsPart at hp
 rw [List.getElem?_map, List.getElem?_range htn] at hp
 simp only [Option.map_some, Option.some.injEq] at hp
 subst hp
 have h1 : (predsAt succ t b).length ≤ b := by
  unfold predsAt
  rw [List.length_map]
  exact Nat.le_trans (List.length_filter_le _ _) (by simp)
 rw [List.length_append]
 split
 ·simp; omega
 ·simp; omega
theorem predsL_mem {succ : Int → List Int} {n : Nat} {t : Nat} {p : List Int} (hp : (predsL succ n)[t]? = some p) (x : Int) : x ∈ p ↔ (0 ≤ x ∧ x < n ∧ (t : Int) ∈ succ x) := by
 have ht : t < n := by have := (List.getElem?_eq_some_iff.1 hp).1; rwa [predsL_len] at this
 unfold predsL at hp
 rw [List.getElem?_map, List.getElem?_range ht] at hp
 simp only [Option.map_some, Option.some.injEq] at hp
 subst hp
 unfold predsAt
 simp only [List.mem_map, List.mem_filter, List.mem_range, decide_eq_true_eq]
 constructor
 ·rintro ⟨a, ⟨h1, h2⟩, rfl⟩
  exact ⟨by simp, by simpa using h1, h2⟩
 ·rintro ⟨h1, h2, h3⟩
  refine ⟨x.toNat, ⟨by omega, by rwa [Int.toNat_of_nonneg h1]⟩, by simp [Int.toNat_of_nonneg h1]⟩
end Go.Proofs.Ytamjcafjdioidaa

namespace Go.Proofs.Ytamjcafjdioidaa
open Go.RowKit
set_option linter.unusedSimpArgs false
set_option linter.unusedVariables false
structure OwnL (w : World) (B : Nat) (no : Option Nat) (v : Value) (ls : List (List Int)) (cs : List Value) : Prop where
 row : w.ownsRow B 29 1 v ls.length cs
 inn : ∀ (i : Nat) c l, cs[i]? = some c → ls[i]? = some l → OwnI w B c l
 apart : ∀ (i j : Nat) ci cj k, cs[i]? = some ci → cs[j]? = some cj → i ≠ j → ci.ownBlock = some k → cj.ownBlock ≠ some k
 far : ∀ (i : Nat) c k, cs[i]? = some c → no = some k → c.ownBlock ≠ some k
section
variable {w w' : World} {no no' : Option Nat} {v : Value} {ls : List (List Int)} {cs : List Value} {B B' : Nat}
theorem OwnL.len (h : OwnL w B no v ls cs) : cs.length = ls.length := by have := h.row.1; omega
theorem OwnL.at_ (h : OwnL w B no v ls cs) {i : Nat} {l : List Int} (hi : ls[i]? = some l) : ∃ c, cs[i]? = some c ∧ OwnI w B c l := by
 have h1 := (List.getElem?_eq_some_iff.1 hi).1
 have h2 : i < cs.length := by rw [h.len]; exact h1
 exact ⟨_, List.getElem?_eq_getElem h2, h.inn i _ l (List.getElem?_eq_getElem h2) hi⟩
theorem OwnL.below_at (h : OwnL w B no v ls cs) {i : Nat} {c : Value} {k : Nat} (hc : cs[i]? = some c) (hk : c.ownBlock = some k) : B ≤ k ∧ k < w.heap.size ∧ ∃ a, w.heap[k]? = some (.cells a 3 (0, 0)) := by
 have h1 := (List.getElem?_eq_some_iff.1 hc).1
 rw [h.len] at h1
 exact row_lt (h.inn i c _ hc (List.getElem?_eq_getElem h1)).row hk
theorem OwnL.below (h : OwnL w B no v ls cs) (hb : Below w.heap.size w w') : OwnL w' B no v ls cs :=
 ⟨row_kept h.row fun k hk => hb.block k (row_lt h.row hk).2.1, fun i c l hc hl => (h.inn i c l hc hl).kept fun k _ hk => hb.block k hk, h.apart, h.far⟩
theorem OwnL.mono (h : OwnL w B no v ls cs) (hb : B' ≤ B) : OwnL w B' no v ls cs := ⟨row_mono h.row hb, fun i c l hc hl => (h.inn i c l hc hl).mono hb, h.apart, h.far⟩
theorem OwnL.no_ (h : OwnL w B no v ls cs) (hn : ∀ k, no' = some k → w.heap.size ≤ k) : OwnL w B no' v ls cs :=
 ⟨h.row, h.inn, h.apart, fun i c k hc hk e => by have := (h.below_at hc e).2.1; have := hn k hk; omega⟩
theorem OwnL.none_ (h : OwnL w B no v ls cs) : OwnL w B none v ls cs := ⟨h.row, h.inn, h.apart, fun i c k hc hk => by cases hk⟩
theorem OwnL.start {v : Value} {n : Nat} (h : w.ownsRow B 29 1 v n (List.replicate n (Value.slice none 0 0))) : OwnL w B none v (List.replicate n []) (List.replicate n (Value.slice none 0 0)) := by
 refine ⟨by rw [List.length_replicate]; exact h, fun i c l hc hl => ?_, fun i j ci cj k hi hj _ hk => ?_, fun i c k _ hk => by cases hk⟩
 ·rw [List.getElem?_replicate] at hc hl
  split at hc
  ·cases hc
   rename_i hi
   rw [if_pos hi] at hl
   cases hl
   exact OwnI.nil_
  ·cases hc
 ·rw [List.getElem?_replicate] at hi
  split at hi
  ·cases hi; cases hk
  ·cases hi
theorem OwnL.app {g n cap t gq cq : Nat} {p : List Int} {b : Int} {c : Value} {o : Obj} {w1 : World} (h : OwnL w B no (.slice (some ⟨g, 0, none⟩) n cap) ls cs) (hl : ls[t]? = some p) (hc : cs[t]? = some c) (hb : I64 b) (ho : ∀ k, no = some k → k < w.heap.size)
  (hown : w1.ownsRow B 3 1 (.slice (some ⟨gq, 0, none⟩) (p.length + 1) cq) (p.length + 1) ((p.map fun z => Value.int .i64 z) ++ [.int .i64 b])) (hg : (w.alloc o).grownBy w1 c.ownBlock) (hq : c.ownBlock = some gq ∨ gq = w.heap.size + 1) (hn : n = ls.length) :
  OwnL (w1.setCell ⟨g, t, none⟩ (.slice (some ⟨gq, 0, none⟩) (p.length + 1) cq)) B no (.slice (some ⟨g, 0, none⟩) n cap) (ls.set t (p ++ [b])) (cs.set t (.slice (some ⟨gq, 0, none⟩) (p.length + 1) cq)) := by
 have htl : t < ls.length := (List.getElem?_eq_some_iff.1 hl).1
 have htc : t < cs.length := (List.getElem?_eq_some_iff.1 hc).1
 have hci := h.inn t c p hc hl
 have hrow1 := (But.grown hci.row hg).row (by decide) h.row
 subst hn
 have hst := (World.ownsRow.stored hrow1 t (.slice (some ⟨gq, 0, none⟩) (p.length + 1) cq)).1
 have hbut := But.stored (j := t) (u := .slice (some ⟨gq, 0, none⟩) (p.length + 1) cq) hrow1
 have hnew : OwnI w1 B (.slice (some ⟨gq, 0, none⟩) (p.length + 1) cq) (p ++ [b]) := OwnI.snoc hci.ok hb hown
 have hold : ∀ (i : Nat) (ci : Value), cs[i]? = some ci → i ≠ t → ∀ k, ci.ownBlock = some k → k ≠ gq ∧ w1.heap[k]? = w.heap[k]? := fun i ci hi hit k hk => by
  have h1 := h.below_at hi hk
  refine ⟨?_, ?_⟩
  ·rintro rfl
   rcases hq with hq | hq
   ·exact h.apart i t ci c k hi hc hit hk hq
   ·omega
  ·rw [hg.block k (by simp; omega) (fun e => h.apart i t ci c k hi hc hit hk e.symm)]
   exact Below.heap_alloc w o k h1.2.1
 refine ⟨by rw [List.length_set]; exact hst, fun i ci l hi hli => ?_, fun i j ci cj k hi hj hij hk => ?_, fun i ci k hi hk => ?_⟩
 ·by_cases hit : t = i
  ·subst hit
   rw [List.getElem?_set_self htc] at hi
   rw [List.getElem?_set_self htl] at hli
   cases hi; cases hli
   exact ⟨hbut.row (by decide) hnew.row, hnew.ok⟩
  ·rw [List.getElem?_set_ne hit] at hi hli
   have h1 := h.inn i ci l hi hli
   exact ⟨hbut.row (by decide) (row_kept h1.row fun k hk => (hold i ci hi (fun e => hit e.symm) k hk).2), h1.ok⟩
 ·by_cases hit : t = i
  ·subst hit
   rw [List.getElem?_set_self htc] at hi
   rw [List.getElem?_set_ne hij] at hj
   cases hi; cases hk
   exact fun e => (hold j cj hj (fun e => hij e.symm) _ e).1 rfl
  ·rw [List.getElem?_set_ne hit] at hi
   by_cases hjt : t = j
   ·subst hjt
    rw [List.getElem?_set_self htc] at hj
    cases hj
    intro e
    cases e
    exact (hold i ci hi hij _ hk).1 rfl
   ·rw [List.getElem?_set_ne hjt] at hj
    exact h.apart i j ci cj k hi hj hij hk
 ·by_cases hit : t = i
  ·subst hit
   rw [List.getElem?_set_self htc] at hi
   cases hi
   intro e
   cases e
   rcases hq with hq | hq
   ·exact h.far t c _ hc hk hq
   ·have : gq < w.heap.size := ho _ hk
    omega
  ·rw [List.getElem?_set_ne hit] at hi
   exact h.far i ci k hi hk
end
theorem cinfo_ints : (Try.prog.info? 29).map (fun i => (i.zero, i.size, i.bytes)) = some (some (.slice none 0 0), 1, 24) := by kernel_rfl
theorem made_rows {w : World} {B g n : Nat} {c : Value} (h : w.ownsRow B 29 1 (.slice (some ⟨g, 0, none⟩) n n) n (madeCells #[c] n).toList) : w.ownsRow B 29 1 (.slice (some ⟨g, 0, none⟩) n n) n (List.replicate n c) := by
 rwa [toList_madeCells_one] at h
def PredPost (n : Nat) (l : List (List Int)) (w : World) (e : Ending) (w' : World) : Prop := ∃ g cs, e = .returned (.slice (some ⟨g, 0, none⟩) n n) ∧ OwnL w' w.heap.size none (.slice (some ⟨g, 0, none⟩) n n) l cs ∧ Below w.heap.size w w'
set_option maxRecDepth 100000 in
set_option maxHeartbeats 6400000 in
theorem preds_any (f : Fun) (c1 c2 : Value) (w : World) (B : Nat) (hB : B ≤ w.heap.size) (hf : RFun.rep w B [.string f.name, c1, .int .i64 f.ret, c2] f) (hs : Small f) :
  Calls Try.prog 60 #[f.v c1 c2] w (PredPost f.blocks.length (predsL (succsF f.blocks) f.blocks.length) w) := by
 obtain ⟨hp, hb⟩ := fun_open (RFun.later hf (Below.refl _ _) hB)
 obtain ⟨A1, k1, h1, -, -⟩ := Rp.slice1_open hp
 obtain ⟨A2, k2, h2, hm2, -⟩ := Rp.slice1_open hb
 cases h1; cases h2
 clear hp hb
 obtain ⟨i0, hi0, hz0, hz1, hz2⟩ := cinfo_parts cinfo_int
 obtain ⟨b0, hb0, hx0, hx1, hx2⟩ := cinfo_parts cinfo_ints
 replace hi0 := hide hi0
 replace hz0 := hide hz0
 replace hz1 := hide hz1
 replace hz2 := hide hz2
 replace hb0 := hide hb0
 replace hx0 := hide hx0
 replace hx1 := hide hx1
 replace hx2 := hide hx2
 obtain ⟨n, hn⟩ : ∃ n, Hid (n = f.blocks.length) := ⟨_, hide rfl⟩
 have hnle : n ≤ 2000000 := by rw [hn.out]; exact hs.blocks
 obtain ⟨sc, hsc⟩ : ∃ sc, Hid (sc = succsF f.blocks) := ⟨_, hide rfl⟩
 have hsok : Hid (∀ b, SuccOk n (sc b)) := hide (fun b => by rw [hsc.out, hn.out]; exact succsF_ok _ _)
 rw [← hn.out, ← hsc.out]
 rw [← hn.out] at hf hm2
 obtain ⟨W, hW, hwW, hWs, hx⟩ := boxes1 w #[.string f.name, .slice A1 f.params.length k1, .int .i64 f.ret, .slice A2 n k2] 32
 have q0 : ∀ w', Below W.heap.size W w' → w'.cell? ⟨w.heap.size, 0, none⟩ = some (.string f.name) := hx 0 _ rfl
 have q1 : ∀ w', Below W.heap.size W w' → w'.cell? ⟨w.heap.size, 1, none⟩ = some (.slice A1 f.params.length k1) := hx 1 _ rfl
 have q2 : ∀ w', Below W.heap.size W w' → w'.cell? ⟨w.heap.size, 2, none⟩ = some (.int .i64 f.ret) := hx 2 _ rfl
 have q3 : ∀ w', Below W.heap.size W w' → w'.cell? ⟨w.heap.size, 3, none⟩ = some (.slice A2 n k2) := hx 3 _ rfl
 clear hx
 have hws : w.heap.size ≤ W.heap.size := by omega
 replace hWs := hide hWs
 have hself := Below.refl W.heap.size W
 have cS : Hid (∀ (b : Int) w', Below W.heap.size W w' → Calls Try.prog 64 #[f.v (.slice A1 f.params.length k1) (.slice A2 n k2), .int .i64 b] w' (SuccPost (sc b) w')) := hide (fun b w' h => by
  have hh := hwW.trans (h.mono hws)
  have := succs_any f b (.slice A1 f.params.length k1) (.slice A2 n k2) w' w'.heap.size (Nat.le_refl _) (RFun.later hf (hh.mono hB) (Nat.le_trans hB hh.size)) hs
  rwa [← hsc.out] at this)
 replace hs := hide hs
 replace hf := hide hf
 replace hwW := hide hwW
 go_enter Try.func60, Try.ntmps60
 go_wp2_with (at_make; refine wpList_make_full _ rfl (.tmp 9) (.tmp 9) _ rfl W.heap.size 29 b0 _ 1 Try.underlying96 hb0.out hx0.out hx1.out .i64 .i64 n n n rfl rfl rfl rfl ?c1 ?c2 (Nat.le_refl _) ?_)
 case c1 => rw [hx2.out]; omega
 case c2 => unfold maxLen; omega
 intro w1 hown1 hg1
 have hbel1 := below_grown0 hg1
 have hmk1 := hide (OwnL.start (made_rows hown1))
 clear hg1 hown1
 go_wp2
 go_loopw [14] (fun j wr => ∃ b : Nat, j = .int .i64 b ∧ b ≤ n ∧ Hid (∃ cs, OwnL wr W.heap.size none (.slice (some ⟨W.heap.size, 0, none⟩) n n) (predsPart sc n b 0) cs) ∧ Below W.heap.size W wr) (fun i _ => n - (intOf i).toNat)
 case atStart => exact ⟨0, rfl, Nat.zero_le _, hide ⟨_, by rw [predsPart_start]; exact hmk1.out⟩, hbel1⟩
 case round =>
  clear hmk1 hbel1
  obtain ⟨b, rfl, hb, hrow, hbel⟩ := hrel
  by_cases hlt : b < n
  ·have hbi : (b : Int) < (n : Int) := by omega
   have hbs := hbel.size
   have hsl : (sc b).length ≤ n := succ_len (hsok.out b)
   go_wp2_with (first | (go_at_call 64; refine (cS.out b _ hbel).mono ?_; rintro e w3 ⟨c, rfl, hO3, hb3⟩; obtain ⟨Ac, kc, hcf⟩ := row_form hO3.row; subst hcf))
   have hbel3 := hbel.trans (hb3.mono hbs)
   have hrow3 : Hid (∃ cs, OwnL w3 W.heap.size (Value.ownBlock (.slice Ac (sc b).length kc)) (.slice (some ⟨W.heap.size, 0, none⟩) n n) (predsPart sc n b 0) cs) := hide (by
    obtain ⟨cs, h⟩ := hrow.out
    exact ⟨cs, (h.no_ (fun k hk => (row_lt hO3.row hk).1)).below hb3⟩)
   have hO3' := hide (hO3.mono hbs)
   clear hbel hrow hb3 hO3 hbs
   go_loopw [21] (fun j wr => ∃ i : Nat, j = .int .i64 i ∧ i ≤ (sc b).length ∧ Hid (∃ cs, OwnL wr W.heap.size (Value.ownBlock (.slice Ac (sc b).length kc)) (.slice (some ⟨W.heap.size, 0, none⟩) n n) (predsPart sc n b i) cs) ∧ Hid (OwnI wr W.heap.size (.slice Ac (sc b).length kc) (sc b)) ∧ Below W.heap.size W wr) (fun i _ => (sc b).length - (intOf i).toNat)
   case atStart => exact ⟨0, rfl, Nat.zero_le _, hrow3, hO3', hbel3⟩
   case round =>
    clear hrow3 hO3' hbel3
    obtain ⟨i, rfl, hi, hrow, hou, hbel⟩ := hrel
    by_cases hlt2 : i < (sc b).length
    ·obtain ⟨t, ht⟩ := get_ex (l := sc b) (k := i) hlt2
     have htb := (hsok.out b).bound t (List.mem_of_getElem? ht.out)
     obtain ⟨tn, rfl⟩ := Int.eq_ofNat_of_zero_le htb.1
     have htn : tn < n := by have := htb.2; omega
     clear htb
     obtain ⟨g, rfl⟩ : ∃ g, Ac = some ⟨g, 0, none⟩ := by
      rcases hou.out.row.2 with ⟨h1, h2⟩ | ⟨gp, cp, cur, h1, h2, _⟩
      ·omega
      ·cases h1; exact ⟨gp, rfl⟩
     have r0 : wr.cell? ⟨g, i, none⟩ = some (.int .i64 tn) := by rw [World.ownsRow.cellAt hou.out.row i (by omega), List.getElem?_map, ht.out]; rfl
     obtain ⟨cs, hcs⟩ := hrow.out
     obtain ⟨p, hp⟩ := get_ex (l := predsPart sc n b i) (k := tn) (by rw [predsPart_len]; exact htn)
     obtain ⟨c, hc, hcp⟩ := hcs.at_ hp.out
     obtain ⟨Ap, kp, rfl⟩ := row_form hcp.row
     have hpl : p.length ≤ n := by have := predsPart_at_len hp.out; omega
     have hrw := hcs.row
     rw [predsPart_len] at hrw
     have r1 : wr.cell? ⟨W.heap.size, tn, none⟩ = some (.slice Ap p.length kp) := by rw [World.ownsRow.cellAt hrw tn (by omega)]; exact hc
     have hII : Hid (i < (sc b).length) := hide hlt2
     have hmi : (i : Int) < ((sc b).length : Int) := by omega
     have hbI : Hid (I64 b) := hide (i64_mk (by omega) (by omega))
     have hgs := hide ((row_lt hou.out.row (k := g) rfl).2.1)
     replace hrw := hide hrw
     replace hcp := hide hcp
     replace hcs := hide hcs
     replace hc := hide hc
     clear hrow
     have hbs := hbel.size
     go_wp2_with (first
     | (at_builtin
        refine wpList_append_lies _ rfl (.tmp 30) (.tmp 32) _ rfl W.heap.size 3 i0 _ 1 8 Try.underlying29 hi0.out hz0.out hz1.out hz2.out rfl (by omega) (.slice Ap p.length kp) _ _ rfl (hcp.out.row.alloc _) ⟨wr.heap.size, 0, none⟩ 1 1 [.int .i64 b] rfl rfl ?c1 ?c2 (by omega) ?c3 ?c4 ?c5 (wr.heap.size + 1) ?c6 ?_
        case c1 => exact World.news_of_block (cs := #[.int .i64 b]) (t := 3) (fr := (0, 0)) (heap_alloc_new wr _)
        case c2 => simp [Value.oneCell']
        case c3 => unfold maxLen; omega
        case c4 => omega
        case c5 => first | (simp; omega) | simp | omega
        case c6 => simp
        intro gq cq w1 hown1 hg1 hgq hlt1
        have hbw1 : Below W.heap.size W w1 := (hbel.alloc hbs _).grown hg1 (by simp; omega) (fun k hk => (row_lt hcp.out.row hk).1)
        have hbut := But.grown hcp.out.row hg1
        have hL := hide (OwnL.app hcs.out hp.out hc.out hbI.out (fun k hk => (row_lt hou.out.row hk).2.1) hown1 hg1 hgq (predsPart_len ..).symm)
        have hrw1 := hbut.row (by decide) hrw.out
        have fz1 : w1.frozen? ⟨W.heap.size, tn, none⟩ = false := World.ownsRow.frozenAt hrw1 tn
        have rz1 : w1.cell? ⟨W.heap.size, tn, none⟩ = some (.slice Ap p.length kp) := by rw [World.ownsRow.cellAt hrw1 tn (by omega)]; exact hc.out
        have hou1 : Hid (OwnI w1 W.heap.size (.slice (some ⟨g, 0, none⟩) (sc b).length kc) (sc b)) := hide ⟨row_kept hou.out.row fun k hk => by
         cases hk
         rw [hg1.block g (by have := hgs.out; simp; omega) (fun e => hcs.out.far tn _ g hc.out rfl e.symm)]
         exact Below.heap_alloc wr _ g hgs.out, hou.out.ok⟩
        have hbw2 := hide (hbw1.setCell (p := ⟨W.heap.size, tn, none⟩) (Nat.le_refl _) (.slice (some ⟨gq, 0, none⟩) (p.length + 1) cq))
        have hou2 : Hid (OwnI (w1.setCell ⟨W.heap.size, tn, none⟩ (.slice (some ⟨gq, 0, none⟩) (p.length + 1) cq)) W.heap.size (.slice (some ⟨g, 0, none⟩) (sc b).length kc) (sc b)) := hide ⟨(But.stored (j := tn) (u := .slice (some ⟨gq, 0, none⟩) (p.length + 1) cq) hrw1).row (by decide) hou1.out.row, hou1.out.ok⟩
        replace hrw1 := hide hrw1
        replace hown1 := hide hown1
        replace hg1 := hide hg1
        replace hbut := hide hbut
        replace hgq := hide hgq
        replace hlt1 := hide hlt1))
     go_roundw
     case rel => exact ⟨i + 1, by go_num, hlt2, hide ⟨_, by have := hL.out; rwa [predsPart_step (hsok.out b).nodup ht.out htn hp.out] at this⟩, hou2, hbw2.out⟩
     case measure => simp [intOf]; omega
    ·obtain rfl : i = (sc b).length := by omega
     have hnext : Hid (∃ cs, OwnL wr W.heap.size none (.slice (some ⟨W.heap.size, 0, none⟩) n n) (predsPart sc n (b + 1) 0) cs) := hide (by
      obtain ⟨cs, h⟩ := hrow.out
      rw [predsPart_end] at h
      exact ⟨cs, h.none_⟩)
     go_wp2
     go_roundw
     case rel => exact ⟨b + 1, by go_num, hlt, hnext, hbel⟩
     case measure => simp [intOf]; omega
  ·obtain rfl : b = n := by omega
   go_wp2
   go_ret
   obtain ⟨cs, h⟩ := hrow.out
   rw [predsPart_last] at h
   exact ⟨W.heap.size, cs, rfl, h.mono hws, hwW.out.trans (hbel.mono hws)⟩
end Go.Proofs.Ytamjcafjdioidaa

namespace Go.Proofs.Ytamjcafjdioidaa
open Go.RowKit
set_option linter.unusedVariables false
theorem bool_reads {X : World} {B g n : Nat} {l : List Bool} (h : X.ownsRow B 4 1 (.slice (some ⟨g, 0, none⟩) n n) n (l.map Value.bool)) : l.length = n ∧ ∀ (k : Nat) b, l[k]? = some b → ∀ w', Below X.heap.size X w' → w'.cell? ⟨g, k, none⟩ = some (.bool b) := by
 have hl : l.length = n := by have := h.1; simpa using this
 refine ⟨hl, fun k b hk w' hb => ?_⟩
 rw [hb.cell (p := ⟨g, k, none⟩) (row_lt h rfl).2.1]
 exact OwnB.cell h hk (by have := (List.getElem?_eq_some_iff.1 hk).1; omega)
theorem int_reads {X : World} {B : Nat} {v : Value} {l : List Int} (h : OwnI X B v l) : ∃ A C, v = .slice A l.length C ∧ (0 < l.length → ∃ g, A = some ⟨g, 0, none⟩ ∧ ∀ (i : Nat) x, l[i]? = some x → ∀ w', Below X.heap.size X w' → w'.cell? ⟨g, i, none⟩ = some (.int .i64 x)) := by
 obtain ⟨A, C, rfl⟩ := row_form h.row
 refine ⟨A, C, rfl, fun hl => ?_⟩
 obtain ⟨g, cap, hv, -, -⟩ := h.row.form hl
 cases hv
 refine ⟨g, rfl, fun i x hi w' hb => ?_⟩
 rw [hb.cell (p := ⟨g, i, none⟩) (row_lt h.row rfl).2.1, World.ownsRow.cellAt h.row i (by have := (List.getElem?_eq_some_iff.1 hi).1; omega), List.getElem?_map, hi]
 rfl
theorem rows_reads {X : World} {B g n : Nat} {no : Option Nat} {ls : List (List Int)} {cs : List Value} (h : OwnL X B no (.slice (some ⟨g, 0, none⟩) n n) ls cs) (hn : ls.length = n) : ∀ (t : Nat) p, ls[t]? = some p → ∃ A C, (∀ w', Below X.heap.size X w' → w'.cell? ⟨g, t, none⟩ = some (.slice A p.length C)) ∧
  (0 < p.length → ∃ g, A = some ⟨g, 0, none⟩ ∧ ∀ (i : Nat) x, p[i]? = some x → ∀ w', Below X.heap.size X w' → w'.cell? ⟨g, i, none⟩ = some (.int .i64 x)) := by
 intro t p hp
 obtain ⟨c, hc, hI⟩ := h.at_ hp
 obtain ⟨A, C, rfl, h2⟩ := int_reads hI
 refine ⟨A, C, fun w' hb => ?_, h2⟩
 subst hn
 rw [hb.cell (p := ⟨g, t, none⟩) (row_lt h.row rfl).2.1, World.ownsRow.cellAt h.row t (by have := (List.getElem?_eq_some_iff.1 hp).1; omega)]
 exact hc
theorem reach_step {bs : List (List Ins)} {b t : Nat} (hb : (reachF bs)[b]? = some true) (hbl : b < bs.length) (ht : (t : Int) ∈ succsF bs b) (htl : t < bs.length) : (reachF bs)[t]? = some true := by
 rw [reach_at _ _ hbl] at hb
 rw [reach_at _ _ htl]
 have h1 : (b : Int) ∈ orderF bs := by simpa using hb
 have h2 := ((order_ok bs).mem _).1 h1
 have h3 := ((order_ok bs).mem (t : Int)).2 ⟨h2.1, .step h2.2 ht⟩
 simp [h3]
end Go.Proofs.Ytamjcafjdioidaa
namespace Go.Proofs.Ytamjcafjdioidaa
open Go.RowKit
set_option linter.unusedSimpArgs false
set_option linter.unusedVariables false
def RetB (r : Bool) (w : World) (e : Ending) (w' : World) : Prop := e = .returned (.bool r) ∧ Below w.heap.size w w'
end Go.Proofs.Ytamjcafjdioidaa
