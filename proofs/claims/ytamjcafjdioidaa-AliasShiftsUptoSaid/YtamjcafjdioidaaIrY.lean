/- latheref02.Same. No condition. -/
import Derived.Test.YtamjcafjdioidaaIrW
import Derived.Test.YtamjcafjdioidaaHm
namespace Go.Proofs.Ytamjcafjdioidaa
open Go.RowKit Go.ChangeShapes Go.WideShapes Go.Deep
set_option linter.unusedSimpArgs false
set_option linter.unusedVariables false

abbrev Mod.v (x : Mod) (c d e : Value) : Value := .agg #[c, d, e]
def RMod : Rp Mod where
  rep w B cs x := ∃ c d e, cs = [c, d, e] ∧ RVrs.rep w B [c] x.vars ∧ RExts.rep w B [d] x.exts ∧ RFuns.rep w B [e] x.funcs
  keep := by
    rintro w w' B B' cs x ⟨c, d, e, h, h1, h2, h3⟩ hk hB
    exact ⟨c, d, e, h, RVrs.keep h1 hk hB, RExts.keep h2 hk hB, RFuns.keep h3 hk hB⟩
theorem mod_open {w : World} {B : Nat} {x : Mod} {c d e : Value} (h : RMod.rep w B [c, d, e] x) : RVrs.rep w B [c] x.vars ∧ RExts.rep w B [d] x.exts ∧ RFuns.rep w B [e] x.funcs := by
  obtain ⟨c', d', e', h, h1, h2, h3⟩ := h
  cases h
  exact ⟨h1, h2, h3⟩
theorem exts_at {w : World} {B : Nat} {d : Value} {l : List Ext} (h : RExts.rep w B [d] l) : ∃ A cap, d = .slice A l.length cap ∧ l.length ≤ 9223372036854775807 ∧ (0 < l.length → ∃ b off, A = some ⟨b, off, none⟩ ∧ ∀ i x, l[i]? = some x →
    ∃ c, RInts.rep w B [c] x.params ∧ (I64 x.ret ∧ x.name.size ≤ maxLen) ∧ Cells w B b (off + i * 3) [.string x.name, c, .int .i64 x.ret]) := by
  obtain ⟨A, cap, h1, h2, h3⟩ := Rp.slice_open h
  cases h1
  refine ⟨A, cap, rfl, h2, fun hp => ?_⟩
  obtain ⟨b, off, hA, he⟩ := h3 hp
  refine ⟨b, off, hA, fun i x hx => ?_⟩
  obtain ⟨es, hl, ⟨c, e, h4, h5, h6⟩, hcs⟩ := he i x hx
  subst e
  exact ⟨c, h4, ⟨h5, h6⟩, hcs⟩
theorem funs_at {w : World} {B : Nat} {d : Value} {l : List Fun} (h : RFuns.rep w B [d] l) : ∃ A cap, d = .slice A l.length cap ∧ l.length ≤ 9223372036854775807 ∧ (0 < l.length → ∃ b off, A = some ⟨b, off, none⟩ ∧ ∀ i x, l[i]? = some x →
    ∃ c e, RFun.rep w B [.string x.name, c, .int .i64 x.ret, e] x ∧ Cells w B b (off + i * 4) [.string x.name, c, .int .i64 x.ret, e]) := by
  obtain ⟨A, cap, h1, h2, h3⟩ := Rp.slice_open h
  cases h1
  refine ⟨A, cap, rfl, h2, fun hp => ?_⟩
  obtain ⟨b, off, hA, he⟩ := h3 hp
  refine ⟨b, off, hA, fun i x hx => ?_⟩
  obtain ⟨es, hl, hr, hcs⟩ := he i x hx
  obtain ⟨c, e, h4, _⟩ := id hr
  subst h4
  exact ⟨c, e, hr, hcs⟩
def lensEq (a b : Mod) : Bool := decide (a.vars.length = b.vars.length ∧ a.exts.length = b.exts.length ∧ a.funcs.length = b.funcs.length)
theorem vr_ext {x y : Vr} (h1 : x.name = y.name) (h2 : x.size = y.size) : x = y := by cases x; cases y; simp only at h1 h2; subst h1 h2; rfl
theorem ext_ext {x y : Ext} (h1 : x.name = y.name) (h2 : x.params = y.params) (h3 : x.ret = y.ret) : x = y := by cases x; cases y; simp only at h1 h2 h3; subst h1 h2 h3; rfl
theorem mod_ext {x y : Mod} (h1 : x.vars = y.vars) (h2 : x.exts = y.exts) (h3 : x.funcs = y.funcs) : x = y := by cases x; cases y; simp only at h1 h2 h3; subst h1 h2 h3; rfl
end Go.Proofs.Ytamjcafjdioidaa
