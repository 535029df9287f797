/- ir.each, over each closure that the program hands to it: an invariant that the closure's calls hand on. No condition. -/
import Derived.Test.YtkhlnopbgngjbaaIrA
import Derived.Test.YtkhlnopbgngjbaaOnly
namespace Go.Proofs.Ytkhlnopbgngjbaa
open Go.RowKit

abbrev I64 (n : Int) : Prop := (Lit.int .i64 n).wf = true
def RInt : Rp Int := .plain (fun n => [.int .i64 n]) I64
def ROpd : Rp Opd := .plain (fun x => [.int .i64 x.kind, .int .i64 x.num, .int .u64 x.bits]) fun x => I64 x.kind ∧ I64 x.num
def RInts : Rp (List Int) := .slice 1 RInt
def ROpds : Rp (List Opd) := .slice 3 ROpd
def RIns : Rp Ins where
  rep w B cs x := ∃ c d, cs = [.int .i64 x.op, .int .i64 x.reg, .int .i64 x.ty, .int .i64 x.num, .int .i64 x.flags, c, d] ∧ ROpds.rep w B [c] x.args ∧ RInts.rep w B [d] x.to ∧ I64 x.op ∧ I64 x.reg ∧ I64 x.ty ∧ I64 x.num ∧ I64 x.flags
  keep := by
    rintro w w' B B' cs x ⟨c, d, h, h1, h2, h3⟩ hk hB
    exact ⟨c, d, h, ROpds.keep h1 hk hB, RInts.keep h2 hk hB, h3⟩
def RBlk : Rp (List Ins) := .slice 7 RIns
def RBlks : Rp (List (List Ins)) := .slice 1 RBlk

abbrev Fun.v (x : Fun) (c d : Value) : Value := .agg #[.string x.name, c, .int .i64 x.ret, d]

end Go.Proofs.Ytkhlnopbgngjbaa
