/- lathelaw06.bools, Lists, Wipe. No condition but sizes. | lathelaw06.Wipe. No condition but sizes. -/
import Derived.Test.YteeclobpajalmaaGrJ
import Derived.Test.YteeclobpajalmaaGrO
namespace Go.Proofs.Yteeclobpajalmaa
open Go.RowKit
set_option linter.unusedSimpArgs false
set_option linter.unusedVariables false

end Go.Proofs.Yteeclobpajalmaa

namespace Go.Proofs.Yteeclobpajalmaa
open Go.RowKit
set_option linter.unusedSimpArgs false
set_option linter.unusedVariables false

theorem only_grown {S : Nat → Prop} {B : Nat} {w wr w1 : World} {o : Obj} {r : Option Nat} (h : Only S B w wr) (hB : B ≤ wr.heap.size) (hg : (wr.alloc o).grownBy w1 r) (hr : ∀ k, r = some k → S k) : Only S B w w1 :=
  h.trans ⟨hg.os, hg.tape, hg.output, Nat.le_trans (by simp) hg.size, fun k hk hs => by
    rw [hg.block k (by simp; omega) (fun e => hs (hr k e.symm))]
    exact Below.heap_alloc wr o k (by omega)⟩
/-- the blocks of a row of rows -/
def BlocksOf (g : Nat) (cs : List Value) (k : Nat) : Prop := k = g ∨ ∃ (i : Nat) (c : Value), cs[i]? = some c ∧ c.ownBlock = some k
/-- what is left to be wiped from row i on -/
structure WipeAt (w : World) (B g n : Nat) (ls : List (List Int)) (cs : List Value) (i : Nat) : Prop where
  row : ∃ cs', w.ownsRow B 22 1 (.slice (some ⟨g, 0, none⟩) n n) n cs' ∧ ∀ j : Nat, i ≤ j → cs'[j]? = cs[j]?
  inn : ∀ (j : Nat) c l, i ≤ j → cs[j]? = some c → ls[j]? = some l → OwnI w B c l
def WipePost (g : Nat) (cs : List Value) (w : World) (e : Ending) (w' : World) : Prop := e = .returned (.tuple #[]) ∧ Only (BlocksOf g cs) w.heap.size w w'
set_option maxRecDepth 100000 in
set_option maxHeartbeats 6400000 in
theorem wipe_any (w : World) (B g n : Nat) (ls : List (List Int)) (cs : List Value) (hB : B ≤ w.heap.size) (hn : n ≤ 2000000) (hl : ls.length = n) (hll : ∀ l, l ∈ ls → l.length ≤ 3000000) (h : OwnL w B none (.slice (some ⟨g, 0, none⟩) n n) ls cs) :
    Calls Try.prog 18 #[.slice (some ⟨g, 0, none⟩) n n] w (WipePost g cs w) := by
  obtain ⟨i0, hi0, hz0, hz1, hz2⟩ := cinfo_parts cinfo_int
  replace hi0 := hide hi0
  replace hz0 := hide hz0
  replace hz1 := hide hz1
  replace hz2 := hide hz2
  have hcl : cs.length = n := by rw [h.len, hl]
  have hrow := h.row
  rw [hl] at hrow
  have hstart : Hid (WipeAt w B g n ls cs 0) := hide ⟨⟨cs, hrow, fun j _ => rfl⟩, fun j c l _ hc hl => h.inn j c l hc hl⟩
  have happ := hide h.apart
  have hll' := hide hll
  have hself := Only.refl (BlocksOf g cs) w.heap.size w
  clear hrow h hll
  go_enter Try.func18, Try.ntmps18
  go_wp2
  go_loopw [6] (fun i wr => ∃ k : Nat, i = .int .i64 k ∧ k ≤ n ∧ Hid (WipeAt wr B g n ls cs k) ∧ Only (BlocksOf g cs) w.heap.size w wr) (fun i _ => n - (intOf i).toNat)
  case atStart => exact ⟨0, rfl, Nat.zero_le _, hstart, hself⟩
  case round =>
    clear hstart hself
    obtain ⟨k, rfl, hk, hat, hon⟩ := hrel
    by_cases hlt : k < n
    · have hki : (k : Int) < (n : Int) := by omega
      obtain ⟨c, hc⟩ := get_ex (l := cs) (k := k) (by omega)
      obtain ⟨p, hp⟩ := get_ex (l := ls) (k := k) (by omega)
      have hpl : p.length ≤ 3000000 := hll'.out p (List.mem_of_getElem? hp.out)
      have hpi := hat.out.inn k c p (Nat.le_refl _) hc.out hp.out
      obtain ⟨Ap, kp, rfl⟩ := row_form hpi.row
      obtain ⟨cs', hr', hcs'⟩ := hat.out.row
      have r0 : wr.cell? ⟨g, k, none⟩ = some (.slice Ap p.length kp) := by rw [World.ownsRow.cellAt hr' k (by omega), hcs' k (Nat.le_refl _)]; exact hc.out
      have hin : Hid (wr.ownsRow B 3 1 (.slice Ap p.length kp) p.length (p.map fun z => Value.int .i64 z)) := hide hpi.row
      have hrest : Hid (∀ (j : Nat) c l, k < j → cs[j]? = some c → ls[j]? = some l → OwnI wr B c l) := hide (fun j c l hj => hat.out.inn j c l (by omega))
      have hr2 := hide hr'
      have hcs2 := hide hcs'
      have hbs := hon.size
      clear hr' hcs' hpi hat
      go_wp2
      go_loopw [14] (fun i w2 => ∃ m : Nat, i = .int .i64 m ∧ m ≤ p.length ∧ Hid (∃ xs, w2.ownsRow B 3 1 (.slice Ap p.length kp) p.length xs) ∧ Hid (w2.ownsRow B 22 1 (.slice (some ⟨g, 0, none⟩) n n) n cs') ∧ Hid (∀ (j : Nat) c l, k < j → cs[j]? = some c → ls[j]? = some l → OwnI w2 B c l) ∧ Only (BlocksOf g cs) w.heap.size w w2) (fun i _ => p.length - (intOf i).toNat)
      case atStart => exact ⟨0, rfl, Nat.zero_le _, hide ⟨_, hin.out⟩, hr2, hrest, hon⟩
      case round =>
        clear hin hrest hr2 hon hbs r0
        obtain ⟨m, rfl, hm, hin, hr2, hrest, hon⟩ := hrel
        have r0 : wr.cell? ⟨g, k, none⟩ = some (.slice Ap p.length kp) := by rw [World.ownsRow.cellAt hr2.out k (by omega), hcs2.out k (Nat.le_refl _)]; exact hc.out
        by_cases hlt2 : m < p.length
        · have hmi : (m : Int) < (p.length : Int) := by omega
          obtain ⟨xs, hx⟩ := hin.out
          have hxl : xs.length = p.length := by have := hx.1; omega
          obtain ⟨ga, cap, hv, -, -⟩ := hx.form (by omega)
          cases hv
          obtain ⟨y, hy⟩ := get_ex (l := xs) (k := m) (by omega)
          have r1 : wr.cell? ⟨ga, m, none⟩ = some y := by rw [World.ownsRow.cellAt hx m (by omega)]; exact hy.out
          have f1 : wr.frozen? ⟨ga, m, none⟩ = false := World.ownsRow.frozenAt hx m
          have hput : Hid (∀ u, (∃ xs, (wr.setCell ⟨ga, m, none⟩ u).ownsRow B 3 1 (.slice (some ⟨ga, 0, none⟩) p.length kp) p.length xs) ∧ (wr.setCell ⟨ga, m, none⟩ u).ownsRow B 22 1 (.slice (some ⟨g, 0, none⟩) n n) n cs' ∧ (∀ (j : Nat) c l, k < j → cs[j]? = some c → ls[j]? = some l → OwnI (wr.setCell ⟨ga, m, none⟩ u) B c l) ∧ Only (BlocksOf g cs) w.heap.size w (wr.setCell ⟨ga, m, none⟩ u)) := hide (fun u =>
            ⟨⟨_, (World.ownsRow.stored hx m u).1⟩, (But.stored (j := m) (u := u) hx).row (by decide) hr2.out, fun j c l hj hc' hl' => by
              have h1 := hrest.out j c l hj hc' hl'
              exact ⟨row_kept h1.row fun k' hk' => Below.heap_setCell _ _ _ _ (fun e => by
                have e' : k' = ga := e
                subst e'
                exact happ.out k j _ c k' hc.out hc' (by omega) rfl hk'), h1.ok⟩, hon.setCell (p := ⟨ga, m, none⟩) (.inl (.inr ⟨k, _, hc.out, rfl⟩)) u⟩)
          replace hx := hide hx
          go_wp2
          go_roundw
          case rel => exact ⟨m + 1, by go_num, hlt2, hide (hput.out _).1, hide (hput.out _).2.1, hide (hput.out _).2.2.1, (hput.out _).2.2.2⟩
          case measure => simp [intOf]; omega
        · obtain rfl : m = p.length := by omega
          obtain ⟨xs, hx⟩ := hin.out
          have hbs := hon.size
          replace hx := hide hx
          go_wp2_with (first
            | (at_builtin
               refine wpList_append_lies _ rfl (.tmp 31) (.tmp 32) _ rfl B 3 i0 _ 1 8 Try.underlying22 hi0.out hz0.out hz1.out hz2.out rfl (by omega) (.slice Ap p.length kp) _ _ rfl (hx.out.alloc _) ⟨wr.heap.size, 0, none⟩ 2 2 [.int .i64 (-7), .int .i64 (-7)] rfl rfl ?c1 ?c2 (by omega) ?c3 ?c4 ?c5 (wr.heap.size + 1) ?c6 ?_
               case c1 => exact World.news_of_block (cs := #[.int .i64 (-7), .int .i64 (-7)]) (t := 3) (fr := (0, 0)) (heap_alloc_new wr _)
               case c2 => simp [Value.oneCell']
               case c3 => unfold maxLen; omega
               case c4 => omega
               case c5 => first | (simp; omega) | simp | omega
               case c6 => simp
               intro gq cq w1 hown1 hg1 hgq hlt1
               have hbut := But.grown hx.out hg1
               have hrow1 := hbut.row (by decide) hr2.out
               have fz1 : w1.frozen? ⟨g, k, none⟩ = false := World.ownsRow.frozenAt hrow1 k
               have rz1 : w1.cell? ⟨g, k, none⟩ = some (.slice Ap p.length kp) := by rw [World.ownsRow.cellAt hrow1 k (by omega), hcs2.out k (Nat.le_refl _)]; exact hc.out
               have hon1 := only_grown hon hbs hg1 (fun k' hk' => .inr ⟨k, _, hc.out, hk'⟩)
               have hrest1 : ∀ (j : Nat) c l, k < j → cs[j]? = some c → ls[j]? = some l → OwnI w1 B c l := fun j c l hj hc' hl' => by
                 have h1 := hrest.out j c l hj hc' hl'
                 refine ⟨row_kept h1.row fun k' hk' => ?_, h1.ok⟩
                 have h2 := (row_lt h1.row hk').2.1
                 exact (hg1.block k' (by simp; omega) (fun e => happ.out k j _ c k' hc.out hc' (by omega) e.symm hk')).trans (Below.heap_alloc wr _ k' h2)
               have hat9 : Hid (∀ u, WipeAt (w1.setCell ⟨g, k, none⟩ u) B g n ls cs (k + 1)) := hide (fun u => ⟨⟨_, (World.ownsRow.stored hrow1 k u).1, fun j hj => by rw [List.getElem?_set_ne (by omega)]; exact hcs2.out j (by omega)⟩, fun j c l hj hc' hl' => by
                 have h1 := hrest1 j c l (by omega) hc' hl'
                 exact ⟨(But.stored (j := k) (u := u) hrow1).row (by decide) h1.row, h1.ok⟩⟩)
               have hon9 : Hid (∀ u, Only (BlocksOf g cs) w.heap.size w (w1.setCell ⟨g, k, none⟩ u)) := hide (fun u => hon1.setCell (p := ⟨g, k, none⟩) (.inl (.inl rfl)) u)
               clear hrest1 hon1
               replace hrow1 := hide hrow1
               replace hbut := hide hbut
               replace hown1 := hide hown1
               replace hg1 := hide hg1
               replace hgq := hide hgq
               replace hlt1 := hide hlt1))
          go_roundw
          case rel => exact ⟨k + 1, by go_num, hlt, hide (hat9.out _), hon9.out _⟩
          case measure => simp [intOf]; omega
    · obtain rfl : k = n := by omega
      go_wp2
      go_end0
      exact ⟨rfl, hon⟩
theorem ints_same {u v : Value} {w : World} {B1 B2 : Nat} {l : List Int} (h1 : OwnI w B1 u l) (h2 : OwnI w B2 v l) : Calls Try.prog 14 #[u, v] w fun e w' => e = .returned (.bool true) ∧ Below w.heap.size w w' := by
  have := rints_any u v l l w w.heap.size (Nat.le_refl _) h1.rep h2.rep
  rwa [show (l == l) = true by simp] at this
theorem OwnI.below {w w' : World} {B : Nat} {v : Value} {l : List Int} (h : OwnI w B v l) (hb : Below w.heap.size w w') : OwnI w' B v l := h.kept fun k _ hk => hb.block k hk
theorem OwnL.kept {w w' : World} {B : Nat} {no : Option Nat} {v : Value} {ls : List (List Int)} {cs : List Value} (h : OwnL w B no v ls cs) (hk : ∀ k, B ≤ k → k < w.heap.size → w'.heap[k]? = w.heap[k]?) : OwnL w' B no v ls cs :=
  ⟨row_kept h.row fun k hv => hk k (row_lt h.row hv).1 (row_lt h.row hv).2.1, fun i c l hc hl => (h.inn i c l hc hl).kept hk, h.apart, h.far⟩
theorem blocks_of {w : World} {B g n k : Nat} {no : Option Nat} {ls : List (List Int)} {cs : List Value} (h : OwnL w B no (.slice (some ⟨g, 0, none⟩) n n) ls cs) (hk : BlocksOf g cs k) : B ≤ k ∧ k < w.heap.size := by
  rcases hk with rfl | ⟨i, c, hc, hk⟩
  · have := row_lt h.row (k := k) rfl
    exact ⟨this.1, this.2.1⟩
  · have := h.below_at hc hk
    exact ⟨this.1, this.2.1⟩
end Go.Proofs.Yteeclobpajalmaa
