/- Layer 9: Memory.Free, walked over any memory. No condition. -/
import Derived.Test.YtgkgmeofilkopaaMwP
namespace Go.Proofs.Ytgkgmeofilkopaa
open Go.RowKit
set_option linter.unusedSimpArgs false
set_option linter.unusedVariables false

theorem set_self {α : Type} {l : List α} {k : Nat} {x : α} (h : l[k]? = some x) : l.set k x = l := by
  apply List.ext_getElem?
  intro m
  rw [List.getElem?_set]
  by_cases c : k = m
  · subst c; rw [if_pos rfl, if_pos (List.getElem?_eq_some_iff.1 h).1, h]
  · rw [if_neg c]
theorem cell_of_heap {w w' : World} {g j : Nat} (h : w'.heap[g]? = w.heap[g]?) : w'.cell? ⟨g, j, none⟩ = w.cell? ⟨g, j, none⟩ := by simp [World.cell?, h]
theorem Upd.setCell {F : Nat → Prop} {w w' : World} {p : Addr} (h : Upd F w w') (hp : F p.block) (v : Value) : Upd F w (w'.setCell p v) :=
  ⟨h.os, h.tape, h.output, by simpa [World.setCell] using h.size, fun k hk hn => (Below.heap_setCell w' p v k (fun e => hn (e ▸ hp))).trans (h.block k hk hn)⟩
theorem Upd.five {F : Nat → Prop} {w w' : World} {q k : Nat} {v0 v1 v2 v3 v4 : Value} (h : Upd F w w') (hp : F q) : Upd F w (((((w'.setCell ⟨q, k * 5, none⟩ v0).setCell ⟨q, k * 5 + 1, none⟩ v1).setCell ⟨q, k * 5 + 2, none⟩ v2).setCell ⟨q, k * 5 + 3, none⟩ v3).setCell ⟨q, k * 5 + 4, none⟩ v4) :=
  ((((h.setCell (p := ⟨q, k * 5, none⟩) hp _).setCell (p := ⟨q, k * 5 + 1, none⟩) hp _).setCell (p := ⟨q, k * 5 + 2, none⟩) hp _).setCell (p := ⟨q, k * 5 + 3, none⟩) hp _).setCell (p := ⟨q, k * 5 + 4, none⟩) hp _
theorem heap_five {w : World} {q k i : Nat} {v0 v1 v2 v3 v4 : Value} (h : i ≠ q) : (((((w.setCell ⟨q, k * 5, none⟩ v0).setCell ⟨q, k * 5 + 1, none⟩ v1).setCell ⟨q, k * 5 + 2, none⟩ v2).setCell ⟨q, k * 5 + 3, none⟩ v3).setCell ⟨q, k * 5 + 4, none⟩ v4).heap[i]? = w.heap[i]? := by
  rw [Below.heap_setCell _ _ _ _ h, Below.heap_setCell _ _ _ _ h, Below.heap_setCell _ _ _ _ h, Below.heap_setCell _ _ _ _ h, Below.heap_setCell _ _ _ _ h]
/-- one byte of block k becomes another: all that a walk wants to know -/
theorem MemIs.byte {w : World} {g q k j : Nat} {F : Nat → Prop} {bs : MemS} {l : List Byt} {b : Byt} (h : MemIs w g F bs) (hk : bs[k]? = some (some l)) (hx : BlkAt w g bs k (.slice (some ⟨q, 0, none⟩) l.length l.length)) (hj : j < l.length) (hb : 0 ≤ b.bits ∧ b.bits ≤ 255) {w' : World}
    (hw' : w' = ((((w.setCell ⟨q, j * 5, none⟩ (.int .i64 b.kind)).setCell ⟨q, j * 5 + 1, none⟩ (.int .u8 b.bits)).setCell ⟨q, j * 5 + 2, none⟩ (.int .i64 b.block)).setCell ⟨q, j * 5 + 3, none⟩ (.int .i64 b.off)).setCell ⟨q, j * 5 + 4, none⟩ (.int .i64 b.i)) :
    MemIs w' g F (bs.set k (some (l.set j b))) ∧ BlkAt w' g (bs.set k (some (l.set j b))) k (.slice (some ⟨q, 0, none⟩) l.length l.length) ∧ w'.cell? ⟨g, 0, none⟩ = w.cell? ⟨g, 0, none⟩ ∧ F q := by
  subst hw'
  obtain ⟨h1, h2⟩ := h.at hk hx
  obtain ⟨hok, h40, q', hq', hrow⟩ := id h1
  cases hq'
  have hap := h.apart hrow
  refine ⟨MemIs.put h hk h1 hx (hrow.put hj b) (by simp) (okB_set hok hb) (fun i _ hne => heap_five hne) (by simp [World.setCell]), BlkAt.put h hrow (by simp) (fun i _ hne => heap_five hne) hx, cell_of_heap (heap_five hap.1), h2 q rfl⟩
def FreePost (g : Nat) (F : Nat → Prop) (bs : MemS) (i : Int) (w : World) (e : Ending) (w' : World) : Prop := e = .returned (.tuple #[]) ∧ MemIs w' g F (freeS bs i) ∧ Upd F w w'
set_option maxRecDepth 100000 in
set_option maxHeartbeats 6400000 in
theorem free_any (g : Nat) (F : Nat → Prop) (bs : MemS) (i : Int) (w : World) (h : MemIs w g F bs) :
    Calls Try.prog 52 #[.pointer (some ⟨g, 0, none⟩), .int .i64 i] w (FreePost g F bs i w) := by
  have hal := hide (alive_any g F bs i w w h (Below.refl _ _))
  have hM := hide h
  cases hb : bytesAt bs i with
  | none =>
    rw [hb] at hal
    have e0 : Hid (freeS bs i = bs) := hide (by unfold freeS; rw [hb])
    clear h hb
    go_enter Try.func52, Try.ntmps52
    go_wp2_with (go_at_call 84; refine hal.out.mono ?_; rintro e w' ⟨rfl, rfl⟩)
    go_end0
    unfold FreePost
    rw [e0.out]
    exact ⟨rfl, hM.out, Upd.of_below (Below.refl _ _)⟩
  | some l =>
    rw [hb] at hal
    have e0 : Hid (freeS bs i = (bs.set i.toNat none).map (Option.map (List.map (cleanB i)))) := hide (by unfold freeS; rw [hb])
    obtain ⟨k, rfl, h0⟩ := bytesAt_some hb
    have hk := (List.getElem?_eq_some_iff.1 h0).1
    obtain ⟨B, C, hgl, hBl, hBF, hC1, hC2, h1, h2⟩ := h.head (by omega)
    unfold maxLen at hC2
    obtain ⟨x, -, -, h3⟩ := h2 k _ h0
    have c1 := h1 w (Below.refl _ _)
    have c2 := h3 w (Below.refl _ _)
    have fz : w.frozen? ⟨B, k, none⟩ = false := by
      obtain ⟨⟨v, vs, g1, g2, -⟩, -, -⟩ := h
      have hc' := one_cell g1
      rw [c1] at hc'
      cases hc'
      obtain ⟨c, hc⟩ := own_at g2 (k := B) rfl
      exact one_free (j := k) hc
    obtain ⟨hM1, -⟩ := h.drop c1 hk
    have hgB : g ≠ B := by
      obtain ⟨⟨v, vs, g1, g2, -⟩, -, -⟩ := h
      have hc' := one_cell g1
      rw [c1] at hc'
      cases hc'
      obtain ⟨c, hc⟩ := own_at g2 (k := B) rfl
      rintro rfl
      rw [g1] at hc
      injection hc with hc
      injection hc with _ ht
      exact absurd ht (by decide)
    clear h h1 h2 h3 hb h0
    obtain ⟨n, hn⟩ : ∃ n, Hid (n = bs.length) := ⟨_, hide rfl⟩
    rw [← hn.out] at c1 hk hC1
    obtain ⟨bs1, hbs1⟩ : ∃ bs1, Hid (bs1 = bs.set k none) := ⟨_, hide rfl⟩
    rw [← hbs1.out] at hM1
    have hl1 : Hid (bs1.length = n) := hide (by rw [hbs1.out, List.length_set, hn.out])
    replace hM1 := hide hM1
    go_enter Try.func52, Try.ntmps52
    go_upto_region 2 with (go_at_call 84; refine hal.out.mono ?_; rintro e w' ⟨rfl, rfl⟩)
    have c3 : (w.setCell ⟨B, k, none⟩ (.slice none 0 0)).cell? ⟨g, 0, none⟩ = some (.slice (some ⟨B, 0, none⟩) n C) := (cell_of_heap (Below.heap_setCell _ _ _ _ hgB)).trans c1
    have hU1 : Hid (Upd F w (w.setCell ⟨B, k, none⟩ (.slice none 0 0))) := hide ((Upd.of_below (Below.refl _ _)).setCell (p := ⟨B, k, none⟩) hBF _)
    obtain ⟨w1, hw1⟩ : ∃ w1, w1 = w.setCell ⟨B, k, none⟩ (.slice none 0 0) := ⟨_, rfl⟩
    rw [← hw1] at c3 hU1 hM1 ⊢
    clear hw1 c1 c2 fz
    go_wp2_with fail
    go_loopw [22] (fun s wr => ∃ j : Nat, j ≤ n ∧ s = .int .i64 j ∧ Hid (MemIs wr g F (freeTo k j bs1)) ∧ wr.cell? ⟨g, 0, none⟩ = some (.slice (some ⟨B, 0, none⟩) n C) ∧ Hid (Upd F w wr)) (fun s _ => n - (intOf s).toNat)
    case atStart => exact ⟨0, Nat.zero_le _, rfl, hide (by rw [freeTo_zero]; exact hM1.out), c3, hU1⟩
    case round =>
      clear c3
      obtain ⟨k2, hk2, rfl, hM2, c3, hU2⟩ := hrel
      by_cases hlt : k2 < n
      · obtain ⟨y, hy⟩ := get_ex (l := bs1) (k := k2) (by rw [hl1.out]; exact hlt)
        have hy2 := freeTo_at (i := k) (k := k2) hy.out
        obtain ⟨B', C', -, -, -, -, -, h1, h2⟩ := hM2.out.head (by rw [freeTo_len, hl1.out]; omega)
        obtain ⟨x, hsl, ⟨-, hat⟩, h3⟩ := h2 k2 _ hy2
        have hc' := h1 wr (Below.refl _ _)
        rw [freeTo_len, hl1.out] at hc'
        rw [c3] at hc'
        cases hc'
        have c4 := h3 wr (Below.refl _ _)
        clear h1 h2 h3
        cases y with
        | none =>
          cases hsl
          have hft := hide (freeTo_none (i := k) hy.out)
          replace hat := hide hat
          replace hy2 := hide hy2
          go_wp2_with fail
          go_loopw [28] (fun s w' => s = .int .i64 0 ∧ w' = wr) (fun s _ => 0)
          case atStart => exact ⟨rfl, rfl⟩
          case round =>
            obtain ⟨rfl, rfl⟩ := hrel
            go_wp2
            go_roundw
            case rel => exact ⟨k2 + 1, by omega, by go_num, by rw [hft.out]; exact hM2, c3, hU2⟩
            case measure => simp [intOf]; omega
        | some l2 =>
          obtain ⟨-, hm40, q, rfl, -⟩ := hsl
          have hst := hide (freeTo_set (i := k) hy.out)
          obtain ⟨m, hm⟩ : ∃ m, Hid (m = l2.length) := ⟨_, hide rfl⟩
          rw [← hm.out] at c4 hm40 hat hst
          have hM3 : Hid (MemIs wr g F ((freeTo k k2 bs1).set k2 (some (cleanTo k 0 l2)))) := hide (by rw [cleanTo_zero, set_self hy2]; exact hM2.out)
          have hat3 : Hid (BlkAt wr g ((freeTo k k2 bs1).set k2 (some (cleanTo k 0 l2))) k2 (.slice (some ⟨q, 0, none⟩) m m)) := hide (by rw [cleanTo_zero, set_self hy2]; exact hat)
          clear hat
          replace hy2 := hide hy2
          go_wp2_with fail
          go_loopw [28] (fun s wr => ∃ j : Nat, j ≤ m ∧ s = .int .i64 j ∧ Hid (MemIs wr g F ((freeTo k k2 bs1).set k2 (some (cleanTo k j l2)))) ∧ Hid (BlkAt wr g ((freeTo k k2 bs1).set k2 (some (cleanTo k j l2))) k2 (.slice (some ⟨q, 0, none⟩) m m)) ∧ wr.cell? ⟨g, 0, none⟩ = some (.slice (some ⟨B, 0, none⟩) n C) ∧ Hid (Upd F w wr)) (fun s _ => m - (intOf s).toNat)
          case atStart => exact ⟨0, Nat.zero_le _, rfl, hM3, hat3, c3, hU2⟩
          case round =>
            clear c3 c4 hM2 hM3 hat3 hU2
            obtain ⟨j, hj, rfl, hM4, hat4, c3, hU4⟩ := hrel
            by_cases hlt2 : j < m
            · obtain ⟨c, hc⟩ := get_ex (l := l2) (k := j) (by rw [← hm.out]; exact hlt2)
              have hset : ((freeTo k k2 bs1).set k2 (some (cleanTo k j l2)))[k2]? = some (some (cleanTo k j l2)) := by rw [List.getElem?_set_self (by rw [freeTo_len, hl1.out]; exact hlt)]
              have hlen : (cleanTo k j l2).length = m := by rw [cleanTo_len, hm.out]
              obtain ⟨hok, -, q', hq', hrow⟩ := (hM4.out.at hset hat4.out).1
              cases hq'
              obtain ⟨y0, -, y2, -, -⟩ := hrow.cells (cleanTo_at (i := k) hc.out)
              by_cases t1 : c.kind = 2
              · by_cases t2 : c.block = k
                · obtain ⟨y0', y1', y2', y3', y4'⟩ := hrow.cells (cleanTo_at (i := k) hc.out)
                  have f0 := one_free (j := j * 5) hrow
                  have f1 := one_free (j := j * 5 + 1) hrow
                  have f2 := one_free (j := j * 5 + 2) hrow
                  have f3 := one_free (j := j * 5 + 3) hrow
                  have f4 := one_free (j := j * 5 + 4) hrow
                  have hby := MemIs.byte (j := j) (b := zb) hM4.out hset (by rw [hlen]; exact hat4.out) (by rw [hlen]; exact hlt2) (okB_zb _ rfl) rfl
                  rw [List.set_set, ← cleanTo_put hc.out ⟨t1, t2⟩, hlen] at hby
                  obtain ⟨b1, b2, b3, b4⟩ := hby
                  replace b1 := hide b1
                  replace b2 := hide b2
                  have b5 := hide (b3.trans c3)
                  have hU5 := hide (hU4.out.five (k := j) (v0 := .int .i64 0) (v1 := .int .u8 0) (v2 := .int .i64 0) (v3 := .int .i64 0) (v4 := .int .i64 0) b4)
                  have g1 : (c.kind == 2) = true := beq_iff_eq.2 t1
                  have g2 : (c.block == (k : Int)) = true := beq_iff_eq.2 t2
                  replace hrow := hide hrow
                  replace hset := hide hset
                  replace hlen := hide hlen
                  clear t1 t2 b3 hok
                  go_wp2
                  go_roundw
                  case rel => exact ⟨j + 1, by omega, by go_num, b1, b2, b5.out, hU5⟩
                  case measure => simp [intOf]; omega
                · have hsk := hide (cleanTo_skip hc.out (fun hh => t2 hh.2) : cleanTo k (j + 1) l2 = cleanTo k j l2)
                  have g1 : (c.kind == 2) = true := beq_iff_eq.2 t1
                  have g2 : (c.block == (k : Int)) = false := beq_eq_false_iff_ne.2 t2
                  replace hrow := hide hrow
                  replace hset := hide hset
                  replace hlen := hide hlen
                  clear t1 t2 hok
                  go_wp2
                  go_roundw
                  case rel => exact ⟨j + 1, by omega, by go_num, by rw [hsk.out]; exact hM4, by rw [hsk.out]; exact hat4, c3, hU4⟩
                  case measure => simp [intOf]; omega
              · have hsk := hide (cleanTo_skip hc.out (fun hh => t1 hh.1) : cleanTo k (j + 1) l2 = cleanTo k j l2)
                have g1 : (c.kind == 2) = false := beq_eq_false_iff_ne.2 t1
                replace hrow := hide hrow
                replace hset := hide hset
                replace hlen := hide hlen
                clear t1 hok
                go_wp2
                go_roundw
                case rel => exact ⟨j + 1, by omega, by go_num, by rw [hsk.out]; exact hM4, by rw [hsk.out]; exact hat4, c3, hU4⟩
                case measure => simp [intOf]; omega
            · obtain rfl : j = m := by omega
              rw [hm.out] at hM4
              rw [← hm.out, hst.out] at hM4
              go_wp2
              go_roundw
              case rel => exact ⟨k2 + 1, by omega, by go_num, hM4, c3, hU4⟩
              case measure => simp [intOf]; omega
      · obtain rfl : k2 = n := by omega
        rw [← hl1.out, freeTo_full, hbs1.out] at hM2
        go_wp2
        go_end0
        unfold FreePost
        rw [e0.out]
        exact ⟨rfl, by simpa using hM2.out, hU2.out⟩
end Go.Proofs.Ytgkgmeofilkopaa
