/- Texts of the chain, without what is not wanted: IrData, Apn, Open, IrO. No condition but sizes. -/
import Derived.WalkKit
import Derived.Deep.Slices
import Derived.Deep.Draws
import Derived.ChangeSame
import Derived.ChangeOld
import Derived.OwnWalk
import Derived.Laws.OwnMore
import Derived.Deep.AppendLies
import Derived.Test.YtamjcafjdioidaaGreatRows
import Derived.ProofKit
import Derived.OpenShut
import Derived.JoinedCond
import Derived.WalkSpells
import Derived.WalkLawsBesides
import Derived.Deep.RegionHeld3
import Derived.Deep.LoopGhost
import Derived.Deep.QuietTactic
import Derived.BigQuiet
set_option linter.unusedVariables false
set_option linter.unusedSimpArgs false
set_option maxRecDepth 100000
set_option maxHeartbeats 12800000
namespace Go.Proofs.YtamjcafjdioidaaGreat
theorem Js {α:Type} {l:List α} {i:Nat} {a:α}:l[i]? = some a↔∃h:i<l.length,l[i]=a:=List.getElem?_eq_some_iff
theorem Jm {α:Type} {l:List α} {i:Nat} {a:α} (h:l[i]? = some a):a∈l:=List.mem_of_getElem? h
theorem Jg {α:Type} {l:List α} {i:Nat} (h:i<l.length):l[i]? = some l[i]:=List.getElem?_eq_getElem h
theorem Jq {α:Type} {l:List α} {i:Nat} {a:α}:l.getD i a=l[i]?.getD a:=List.getD_eq_getElem?_getD
theorem Jf {α:Type} {l:List α} {i:Nat} {a:α} (h:i<l.length):(l.set i a)[i]? = some a:=List.getElem?_set_self h
theorem Je {α:Type} {l:List α} {i j:Nat} (h:i≠j) {a:α}:(l.set i a)[j]? = l[j]? := List.getElem?_set_ne h
structure Opd where
 kind:Int
 num:Int
 bits:Int
 deriving DecidableEq,Inhabited
structure Ins where
 op:Int
 reg:Int
 ty:Int
 num:Int
 flags:Int
 args:List Opd
 «to»:List Int
 deriving DecidableEq,Inhabited
structure Fun where
 name:ByteArray
 params:List Int
 ret:Int
 blocks:List (List Ins)
 deriving DecidableEq,Inhabited
structure Vr where
 name:ByteArray
 size:Int
 deriving DecidableEq,Inhabited
structure Ext where
 name:ByteArray
 params:List Int
 ret:Int
 deriving DecidableEq,Inhabited
structure Mod where
 vars:List Vr
 exts:List Ext
 funcs:List Fun
 deriving DecidableEq,Inhabited
def Yap (op ty:Int):Int:=if 14≤op∧op≤19 then 1 else if op=26∨op=29 then 65 else if op=28∨op<1∨30<op then 0 else ty
def Yce (op:Int):Bool:=decide (31≤op∧op≤34)
def Y9 (bs:List (List Ins)) (i j:Nat):List Ins:=(bs.take i).flatten++(bs.getD i []).take j
theorem before_zero (bs:List (List Ins)):Y9 bs 0 0 = []:=by simp [Y9]
theorem Zl {α:Type} {l:List α} {k:Nat} {x:α} (h:l[k]? = some x):l.take (k+1)=l.take k ++ [x]:=by
 obtain⟨hk,rfl⟩:=Js.1 h
 exact List.take_succ_eq_append_getElem hk
theorem getD_nil {bs:List (List Ins)} {i:Nat} {x:List Ins} (h:bs[i]? = some x):bs.getD i []=x:=by simp [List.getD,h]
theorem before_step {bs:List (List Ins)} {i j:Nat} {x:List Ins} {ins:Ins} (hx:bs[i]? = some x) (hi:x[j]? = some ins):Y9 bs i (j+1)=Y9 bs i j ++ [ins]:=by
 unfold Y9
 rw [getD_nil hx,Zl hi,List.append_assoc]
theorem before_next {bs:List (List Ins)} {i:Nat} {x:List Ins} (hx:bs[i]? = some x):Y9 bs i x.length=Y9 bs (i+1) 0:=by
 unfold Y9
 rw [getD_nil hx,Zl hx,List.take_length,List.flatten_append,List.take_zero,List.append_nil]
 simp only [List.flatten_cons,List.flatten_nil,List.append_nil]
theorem Z3 (bs:List (List Ins)):Y9 bs bs.length 0=bs.flatten:=by simp [Y9]
theorem before_prefix {bs:List (List Ins)} {i j:Nat}:∃r,Y9 bs i j++r=bs.flatten:=by
 refine⟨(bs.getD i []).drop j++(bs.drop (i+1)).flatten,?_⟩
 have h:(bs.take i).flatten++((bs.getD i [])++(bs.drop (i+1)).flatten)=bs.flatten:=by
  rcases Nat.lt_or_ge i bs.length with hi|hi
  ·have e : bs = bs.take i ++ bs[i] :: bs.drop (i + 1) := by rw [← List.drop_eq_getElem_cons hi, List.take_append_drop]
   have g:bs.getD i []=bs[i]:=by simp [List.getD,hi]
   rw [g]
   have e2:=congrArg List.flatten e
   rw [List.flatten_append,List.flatten_cons] at e2
   exact e2.symm
  ·have g : bs.getD i [] = [] := by simp [List.getD, hi]
   rw [g,List.take_of_length_le hi,List.drop_of_length_le (by omega)]
   simp
 rw [←h,Y9,List.append_assoc,←List.append_assoc ((bs.getD i []).take j),List.take_append_drop]
def argsL (l:List Ins):Nat:=(l.map fun x=>x.args.length).sum
def Ybx (l:List Ins):Nat:=(l.map fun x=>1+x.args.length).sum
theorem partsL_append (l r:List Ins):Ybx (l++r)=Ybx l+Ybx r:=by simp [Ybx]
theorem argsL_le_partsL : ∀ l : List Ins, argsL l ≤ Ybx l
 | []=>Nat.le_refl _
 | x :: l=>by
  have:=argsL_le_partsL l
  simp only [argsL,Ybx,List.map_cons,List.sum_cons] at *
  omega
theorem length_le_partsL : ∀ l : List Ins, l.length ≤ Ybx l
 | []=>Nat.le_refl _
 | x :: l=>by
  have:=length_le_partsL l
  simp only [Ybx,List.map_cons,List.sum_cons,List.length_cons] at *
  omega
def defs (x:Ins) (r:Int):Bool:=x.reg==r&&Yap x.op x.ty != 0
def noDef (l:List Ins) (r:Int):Prop:=∀x,x∈l→defs x r=false
theorem noDef_nil (r:Int):noDef [] r:=fun x h=>by cases h
theorem noDef_snoc {l:List Ins} {x:Ins} {r:Int} (h:noDef l r) (hx:defs x r=false):noDef (l ++ [x]) r:=fun y hy=>by
 rcases List.mem_append.1 hy with hy|hy
 ·exact h y hy
 ·rw [List.mem_singleton.1 hy];exact hx
def IsDef (bs:List (List Ins)) (r:Int) (i j:Nat):Prop:=∃x ins,bs[i]? = some x∧x[j]? = some ins∧defs ins r=true∧noDef (Y9 bs i j) r
open Go.RowKit
structure Rp (α : Type) where
 rep:World→Nat→List Value→α→Prop
 keep:∀ {w w':World} {B B':Nat} {cs:List Value} {x:α},rep w B cs x→(∀p:Addr,p.block<B→w'.cell? p=w.cell? p)→B≤B'→rep w' B' cs x
def Rp.plain {α:Type} (f:α→List Value) (ok:α→Prop):Rp α:=⟨fun _ _ cs x=>cs=f x∧ok x,fun h _ _=>h⟩
def Rp.slice {α : Type} (n : Nat) (R : Rp α) : Rp (List α) where
 rep w B cs xs:=∃A cap,cs = [.slice A xs.length cap]∧xs.length≤cap∧cap≤maxLen∧(0<xs.length→∃b off,A=some ⟨b,off,none⟩∧b<B∧
  ∀i x,xs[i]? = some x→∃es:List Value,es.length=n∧R.rep w B es x∧∀j u,es[j]? = some u→w.cell? ⟨b,off+(i*n+j),none⟩=some u)
 keep:=by
  rintro w w' B B' cs xs ⟨A,cap,h1,h2,h3,h⟩ hk hB
  refine⟨A,cap,h1,h2,h3,fun hn => ?_⟩
  obtain⟨b,off,hA,hb,he⟩:=h hn
  refine⟨b,off,hA,by omega,fun i x hx => ?_⟩
  obtain⟨es,hl,hr,hc⟩:=he i x hx
  exact⟨es,hl,R.keep hr hk hB,fun j u hu=>(hk _ hb).trans (hc j u hu)⟩
theorem Rp.nil_rep {α:Type} {n:Nat} {R:Rp α} {w:World} {B:Nat}:(Rp.slice n R).rep w B [.slice none 0 0] [] :=
 ⟨none,0,rfl,Nat.le_refl _,by simp [maxLen],fun h=>absurd h (by simp)⟩
theorem Rp.below {α:Type} {R:Rp α} {w w':World} {B:Nat} {cs:List Value} {x:α} (h:R.rep w B cs x) (hb:Below B w w'):R.rep w' B cs x :=
 R.keep h (fun _ hp=>hb.cell hp) (Nat.le_refl _)
theorem Rp.later {α:Type} {R:Rp α} {w w':World} {B B':Nat} {cs:List Value} {x:α} (h:R.rep w B cs x) (hb:Below B w w') (hB:B≤B'):R.rep w' B' cs x :=
 R.keep h (fun _ hp=>hb.cell hp) hB
def Yb6 (w:World) (B b o:Nat) (l:List Value):Prop:=∀j u,l[j]? = some u→∀w',Below B w w'→w'.cell? ⟨b,o+j,none⟩=some u
theorem Yb6.mono {w:World} {B B' b o:Nat} {l:List Value} (h:Yb6 w B b o l) (hB:B≤B'):Yb6 w B' b o l:=fun j u hu w' hw=>h j u hu w' (hw.mono hB)
theorem Yb6.later {w w1:World} {B B' b o:Nat} {l:List Value} (h:Yb6 w B b o l) (h1:Below B w w1) (hB:B≤B'):Yb6 w1 B' b o l:=fun j u hu w' hw=>h j u hu w' (h1.trans (hw.mono hB))
theorem Yb6.at_ {w:World} {B b o:Nat} {l:List Value} (h:Yb6 w B b o l) (j:Nat) {u:Value} (hu:l[j]? = some u):∀w',Below B w w'→w'.cell? ⟨b,o+j,none⟩=some u:=h j u hu
section
variable {w:World} {B b o:Nat} {u0 u1 u2 u3 u4 u5 u6 u7:Value}
theorem Yb6.two (h:Yb6 w B b o [u0,u1]):(∀w',Below B w w'→w'.cell? ⟨b,o,none⟩=some u0)∧(∀w',Below B w w'→w'.cell? ⟨b,o+1,none⟩=some u1):=⟨h.at_ 0 rfl,h.at_ 1 rfl⟩
theorem Yb6.three (h:Yb6 w B b o [u0,u1,u2]):(∀w',Below B w w'→w'.cell? ⟨b,o,none⟩=some u0)∧(∀w',Below B w w'→w'.cell? ⟨b,o+1,none⟩=some u1)∧
  (∀w',Below B w w'→w'.cell? ⟨b,o+2,none⟩=some u2):=⟨h.at_ 0 rfl,h.at_ 1 rfl,h.at_ 2 rfl⟩
theorem Yb6.four (h:Yb6 w B b o [u0,u1,u2,u3]):(∀w',Below B w w'→w'.cell? ⟨b,o,none⟩=some u0)∧(∀w',Below B w w'→w'.cell? ⟨b,o+1,none⟩=some u1)∧
  (∀w',Below B w w'→w'.cell? ⟨b,o+2,none⟩=some u2)∧(∀w',Below B w w'→w'.cell? ⟨b,o+3,none⟩=some u3):=⟨h.at_ 0 rfl,h.at_ 1 rfl,h.at_ 2 rfl,h.at_ 3 rfl⟩
theorem Yb6.seven (h:Yb6 w B b o [u0,u1,u2,u3,u4,u5,u6]):(∀w',Below B w w'→w'.cell? ⟨b,o,none⟩=some u0)∧(∀w',Below B w w'→w'.cell? ⟨b,o+1,none⟩=some u1)∧
  (∀w',Below B w w'→w'.cell? ⟨b,o+2,none⟩=some u2)∧(∀w',Below B w w'→w'.cell? ⟨b,o+3,none⟩=some u3)∧(∀w',Below B w w'→w'.cell? ⟨b,o+4,none⟩=some u4)∧
  (∀w',Below B w w'→w'.cell? ⟨b,o+5,none⟩=some u5)∧(∀w',Below B w w'→w'.cell? ⟨b,o+6,none⟩=some u6) :=
 ⟨h.at_ 0 rfl,h.at_ 1 rfl,h.at_ 2 rfl,h.at_ 3 rfl,h.at_ 4 rfl,h.at_ 5 rfl,h.at_ 6 rfl⟩
end
theorem Ya8 {W w' : World} {b j : Nat} {cs : Array Value} {t : TypeId} {u : Value} (h : W.heap[b]? = some (.cells cs t (0, 0))) (hu : cs[j]? = some u) (hb : b < W.heap.size) (hw : Below W.heap.size W w') :
  w'.cell? ⟨b,j,none⟩=some u:=by
 rw [hw.cell (p:=⟨b,j,none⟩) hb]
 simp [World.cell?,h,hu]
theorem Yu (w:World) (o:Obj):(w.alloc o).heap[w.heap.size]? = some o:=heap_alloc_new w o
theorem box_under (w:World) (o o':Obj):((w.alloc o).alloc o').heap[w.heap.size]? = some o:=(Below.heap_alloc _ _ _ (by simp)).trans (heap_alloc_new w o)
theorem Rp.slice_open {α : Type} {n : Nat} {R : Rp α} {w : World} {B : Nat} {cs : List Value} {xs : List α} (h : (Rp.slice n R).rep w B cs xs) :
  ∃A cap,cs = [.slice A xs.length cap]∧xs.length≤9223372036854775807∧(0<xs.length→∃b off,A=some ⟨b,off,none⟩∧∀i x,xs[i]? = some x→
   ∃es:List Value,es.length=n∧R.rep w B es x∧Yb6 w B b (off+i*n) es):=by
 obtain⟨A,cap,h1,h2,h3,h4⟩:=h
 unfold maxLen at h3
 refine⟨A,cap,h1,by omega,fun hn => ?_⟩
 obtain⟨b,off,hA,hb,he⟩:=h4 hn
 refine⟨b,off,hA,fun i x hx => ?_⟩
 obtain⟨es,hl,hr,hc⟩:=he i x hx
 exact⟨es,hl,hr,fun j u hu w' hw=>by rw [Nat.add_assoc];exact(hw.cell (p:=⟨b,off+(i*n+j),none⟩) hb).trans (hc j u hu)⟩
theorem Rp.slice1_open {α : Type} {R : Rp α} {w : World} {B : Nat} {cs : List Value} {xs : List α} (h : (Rp.slice 1 R).rep w B cs xs) :
  ∃A cap,cs = [.slice A xs.length cap]∧xs.length≤9223372036854775807∧(0<xs.length→∃b off,A=some ⟨b,off,none⟩∧∀i x,xs[i]? = some x→
   ∃c:Value,R.rep w B [c] x∧∀w',Below B w w'→w'.cell? ⟨b,off+i,none⟩=some c):=by
 obtain⟨A,cap,h1,h2,h3⟩:=Rp.slice_open h
 refine⟨A,cap,h1,h2,fun hn => ?_⟩
 obtain⟨b,off,hA,he⟩:=h3 hn
 refine⟨b,off,hA,fun i x hx => ?_⟩
 obtain⟨es,hl,hr,hc⟩:=he i x hx
 match es,hl with
 | [c],_=>exact⟨c,hr,fun w' hw=>by simpa using hc 0 c rfl w' hw⟩
theorem Y6 (w:World) (c1:Array Value) (t1:TypeId):∃W,w.alloc (.cells c1 t1)=W∧Below w.heap.size w W∧W.heap.size=w.heap.size+1∧
  (∀j u,c1[j]? = some u→∀w',Below W.heap.size W w'→w'.cell? ⟨w.heap.size,j,none⟩=some u) :=
 ⟨_,rfl,(Below.refl _ _).alloc (Nat.le_refl _) _,by simp,fun _ _ hu _ hw=>Ya8 (Yu _ _) hu (by simp) hw⟩
theorem Ql (w:World) (c1 c2:Array Value) (t1 t2:TypeId):∃W,(w.alloc (.cells c1 t1)).alloc (.cells c2 t2)=W∧Below w.heap.size w W∧W.heap.size=w.heap.size+2∧
  (∀j u,c1[j]? = some u→∀w',Below W.heap.size W w'→w'.cell? ⟨w.heap.size,j,none⟩=some u)∧
  (∀j u,c2[j]? = some u→∀w',Below W.heap.size W w'→w'.cell? ⟨w.heap.size+1,j,none⟩=some u) :=
 ⟨_,rfl,((Below.refl _ _).alloc (Nat.le_refl _) _).alloc (by simp) _,by simp,fun _ _ hu _ hw=>Ya8 (box_under _ _ _) hu (by simp;omega) hw,
  fun _ _ hu _ hw=>Ya8 (by have:=Yu (w.alloc (.cells c1 t1)) (.cells c2 t2);simpa using this) hu (by simp) hw⟩
theorem boxes3 (w:World) (c1 c2 c3:Array Value) (t1 t2 t3:TypeId):∃W,((w.alloc (.cells c1 t1)).alloc (.cells c2 t2)).alloc (.cells c3 t3)=W∧Below w.heap.size w W∧W.heap.size=w.heap.size+3∧
  (∀j u,c1[j]? = some u→∀w',Below W.heap.size W w'→w'.cell? ⟨w.heap.size,j,none⟩=some u)∧
  (∀j u,c2[j]? = some u→∀w',Below W.heap.size W w'→w'.cell? ⟨w.heap.size+1,j,none⟩=some u)∧
  (∀j u,c3[j]? = some u→∀w',Below W.heap.size W w'→w'.cell? ⟨w.heap.size+1+1,j,none⟩=some u):=by
 have s1:(w.alloc (.cells c1 t1)).heap.size=w.heap.size+1:=by simp
 have s2:((w.alloc (.cells c1 t1)).alloc (.cells c2 t2)).heap.size=w.heap.size+1+1:=by simp
 have s3:(((w.alloc (.cells c1 t1)).alloc (.cells c2 t2)).alloc (.cells c3 t3)).heap.size=w.heap.size+1+1+1:=by simp
 have g3:Below (w.heap.size+1+1+1) (((w.alloc (.cells c1 t1)).alloc (.cells c2 t2)).alloc (.cells c3 t3)) (((w.alloc (.cells c1 t1)).alloc (.cells c2 t2)).alloc (.cells c3 t3)):=Below.refl _ _
 have g2:Below (w.heap.size+1+1) ((w.alloc (.cells c1 t1)).alloc (.cells c2 t2)) (((w.alloc (.cells c1 t1)).alloc (.cells c2 t2)).alloc (.cells c3 t3)):=((Below.refl _ _).alloc (by rw [s2];omega) _).trans (g3.mono (by omega))
 have g1:Below (w.heap.size+1) (w.alloc (.cells c1 t1)) (((w.alloc (.cells c1 t1)).alloc (.cells c2 t2)).alloc (.cells c3 t3)):=((Below.refl _ _).alloc (by rw [s1];omega) _).trans (g2.mono (by omega))
 refine⟨_,rfl,((Below.refl _ _).alloc (Nat.le_refl _) _).trans (g1.mono (by omega)),s3,fun _ _ hu _ hw=>Ya8 ((g1.block _ (by omega)).trans (Yu w _)) hu (by rw [s3];omega) hw,
  fun _ _ hu _ hw=>Ya8 ((g2.block _ (by omega)).trans ((show((w.alloc (.cells c1 t1)).alloc (.cells c2 t2)).heap[w.heap.size+1]? = _ by rw [←s1];exact Yu _ _))) hu (by rw [s3];omega) hw,
  fun _ _ hu _ hw=>Ya8 ((g3.block _ (by omega)).trans ((show(((w.alloc (.cells c1 t1)).alloc (.cells c2 t2)).alloc (.cells c3 t3)).heap[w.heap.size+1+1]? = _ by rw [←s2];exact Yu _ _))) hu (by rw [s3];omega) hw⟩
theorem Yf {α:Type} {l:List α} {k:Nat} (h:k<l.length):∃x,Hid (l[k]? = some x):=⟨_,Jg h⟩
theorem Yi {B:Nat} {a w:World} (h:Below B a w) (n:Nat):Below B a (w.drewN n):=⟨h.os,h.tape,h.output,h.size,h.block⟩
theorem Ycj {B:Nat} {a b c:World} (h:Below B a b) (hB:B≤a.heap.size) (k:Below b.heap.size b c):Below B a c:=h.trans (k.mono (Nat.le_trans hB h.size))
theorem hide {p:Prop} (h:p):Hid p:=h
theorem Z6 {a b:Bool} (h:a=b):Ending.returned (.bool a) = .returned (.bool b):=by rw [h]
theorem Ybk {k:IntKind} {a b:Int} (h:a=b):Ending.returned (.int k a) = .returned (.int k b):=by rw [h]
structure Only (S : Nat → Prop) (B : Nat) (w w' : World) : Prop where
 os:w'.os=w.os
 tape:w'.tape=w.tape
 output:w'.output=w.output
 size:w.heap.size≤w'.heap.size
 block:∀k,k<B→¬S k→w'.heap[k]? = w.heap[k]?
section
variable {S S':Nat→Prop} {B B':Nat} {a b c w w':World}
theorem Only.refl (S:Nat→Prop) (B:Nat) (w:World):Only S B w w:=⟨rfl,rfl,rfl,Nat.le_refl _,fun _ _ _=>rfl⟩
theorem Only.trans (h:Only S B a b) (k:Only S B b c):Only S B a c :=
 ⟨k.os.trans h.os,k.tape.trans h.tape,k.output.trans h.output,Nat.le_trans h.size k.size,fun i hi hs=>(k.block i hi hs).trans (h.block i hi hs)⟩
theorem Only.mono (h:Only S B w w') (hB:B'≤B):Only S B' w w':=⟨h.os,h.tape,h.output,h.size,fun k hk=>h.block k (Nat.lt_of_lt_of_le hk hB)⟩
theorem Only.more (h:Only S B w w') (hS:∀k,k<B→S k→S' k):Only S' B w w':=⟨h.os,h.tape,h.output,h.size,fun k hk hs=>h.block k hk (fun h'=>hs (hS k hk h'))⟩
theorem Only.next (h:Only S B a b) (hB:B≤a.heap.size) (k:Only S b.heap.size b c):Only S B a c:=h.trans (k.mono (Nat.le_trans hB h.size))
theorem Only.of_below (h:Below B w w'):Only S B w w':=⟨h.os,h.tape,h.output,h.size,fun k hk _=>h.block k hk⟩
theorem Only.to_below (h:Only S B w w') (hS:∀k,S k→B'≤k) (hB:B'≤B):Below B' w w':=⟨h.os,h.tape,h.output,h.size,fun k hk=>h.block k (by omega) (fun hs=>by have:=hS k hs;omega)⟩
theorem Only.then_below (h:Only S B a b) (hB:B≤a.heap.size) (k:Below b.heap.size b c):Only S B a c:=h.next hB (.of_below k)
theorem Only.drew (h:Only S B a w):Only S B a w.drew:=⟨h.os,h.tape,h.output,h.size,h.block⟩
theorem Only.alloc (h:Only S B a w) (hB:B≤w.heap.size) (o:Obj):Only S B a (w.alloc o) :=
 h.trans ⟨rfl,rfl,rfl,by simp,fun k hk _=>Below.heap_alloc _ _ _ (by omega)⟩
theorem Only.setCell (h:Only S B a w) {p:Addr} (hp:S p.block∨B≤p.block) (u:Value):Only S B a (w.setCell p u) :=
 h.trans ⟨rfl,rfl,rfl,by simp [World.setCell],fun k hk hs=>Below.heap_setCell _ _ _ _ (by
  rintro rfl
  rcases hp with hp|hp
  ·exact hs hp
  ·omega)⟩
theorem Only.cell (h:Only S B w w') {p:Addr} (hp:p.block<B) (hs:¬S p.block):w'.cell? p=w.cell? p:=World.cell?_of_block (w:=w) (h.block p.block hp hs)
end
def At (w:World) (b o:Nat) (l:List Value):Prop:=∀j u,l[j]? = some u→w.cell? ⟨b,o+j,none⟩=some u
theorem Rp.slice_at {α : Type} {n : Nat} {R : Rp α} {w : World} {B : Nat} {cs : List Value} {xs : List α} (h : (Rp.slice n R).rep w B cs xs) :
  ∃A cap,cs = [.slice A xs.length cap]∧xs.length≤9223372036854775807∧(0<xs.length→∃b off,A=some ⟨b,off,none⟩∧b<B∧∀i x,xs[i]? = some x→
   ∃es:List Value,es.length=n∧R.rep w B es x∧At w b (off+i*n) es):=by
 obtain⟨A,cap,h1,h2,h3,h4⟩:=h
 unfold maxLen at h3
 refine⟨A,cap,h1,by omega,fun hn => ?_⟩
 obtain⟨b,off,hA,hb,he⟩:=h4 hn
 refine⟨b,off,hA,hb,fun i x hx => ?_⟩
 obtain⟨es,hl,hr,hc⟩:=he i x hx
 exact⟨es,hl,hr,fun j u hu=>by rw [Nat.add_assoc];exact hc j u hu⟩
theorem Rp.slice1_at {α : Type} {R : Rp α} {w : World} {B : Nat} {cs : List Value} {xs : List α} (h : (Rp.slice 1 R).rep w B cs xs) :
  ∃A cap,cs = [.slice A xs.length cap]∧xs.length≤9223372036854775807∧(0<xs.length→∃b off,A=some ⟨b,off,none⟩∧b<B∧∀i x,xs[i]? = some x→
   ∃c:Value,R.rep w B [c] x∧w.cell? ⟨b,off+i,none⟩=some c):=by
 obtain⟨A,cap,h1,h2,h3⟩:=Rp.slice_at h
 refine⟨A,cap,h1,h2,fun hn => ?_⟩
 obtain⟨b,off,hA,hb,he⟩:=h3 hn
 refine⟨b,off,hA,hb,fun i x hx => ?_⟩
 obtain⟨es,hl,hr,hc⟩:=he i x hx
 match es,hl with
 | [c],_=>exact⟨c,hr,by simpa using hc 0 c rfl⟩
theorem set_one {w:World} {N:Nat} {u v:Value} {t:TypeId} (h:w.heap[N]? = some (.cells #[u] t (0,0))):(w.setCell ⟨N,0,none⟩ v).heap[N]? = some (.cells #[v] t (0,0)):=by
 simp [World.setCell,Array.getElem?_modify,h]
theorem one_alloc {w:World} {N:Nat} {x:Obj} (h:w.heap[N]? = some x) (o:Obj):(w.alloc o).heap[N]? = some x:=by
 have hN:N<w.heap.size:=by
  rcases Nat.lt_or_ge N w.heap.size with h'|h'
  ·exact h'
  ·rw [Array.getElem?_eq_none h'] at h;cases h
 exact(Below.heap_alloc w o N hN).trans h
theorem one_cell {w:World} {N:Nat} {u:Value} {t:TypeId} (h:w.heap[N]? = some (.cells #[u] t (0,0))):w.cell? ⟨N,0,none⟩=some u:=by simp [World.cell?,h]
theorem Ym {w:World} {N j:Nat} {cs:Array Value} {t:TypeId} (h:w.heap[N]? = some (.cells cs t (0,0))):w.frozen? ⟨N,j,none⟩=false:=by simp [World.frozen?,h]
theorem Q2 {w:World} {N:Nat} {u0 u1 u2:Value} {t:TypeId} (h:w.heap[N]? = some (.cells #[u0,u1,u2] t (0,0))):w.cell? ⟨N,0,none⟩=some u0∧w.cell? ⟨N,1,none⟩=some u1∧w.cell? ⟨N,2,none⟩=some u2:=by simp [World.cell?,h]
theorem Yr {w:World} {N j:Nat} {cs:Array Value} {v:Value} {t:TypeId} (h:w.heap[N]? = some (.cells cs t (0,0))):(w.setCell ⟨N,j,none⟩ v).heap[N]? = some (.cells (cs.setIfInBounds j v) t (0,0)):=by
 simp [World.setCell,Array.getElem?_modify,h]
def Own {α:Type} (R:Rp α) (n:Nat) (T:TypeId) (w:World) (base B:Nat) (v:Value) (ys:List α):Prop :=
 ∃ess:List (List Value),ess.length=ys.length∧w.ownsRow base T n v ys.length ess.flatten∧∀(i:Nat) es y,ess[i]? = some es→ys[i]? = some y→es.length=n∧R.rep w B es y
section
variable {α:Type} {R:Rp α} {n:Nat} {T:TypeId} {w w':World} {base B:Nat} {v v':Value} {ys:List α}
theorem Own.nil_:Own R n T w base B (.slice none 0 0) []:=⟨[],rfl,⟨by simp, .inl ⟨rfl,rfl⟩⟩,fun i es y h=>by simp at h⟩
theorem flatten_at {n : Nat} : ∀ {ess : List (List Value)} {i j : Nat} {es : List Value} {u : Value}, (∀ es, es ∈ ess → es.length = n) → ess[i]? = some es → es[j]? = some u → ess.flatten[i * n + j]? = some u
 | [],i,j,es,u,_,h,_=>by simp at h
 | e :: r,0,j,es,u,hl,h,hu=>by
  injection h with h
  subst h
  have hj:=(Js.1 hu).1
  rw [List.flatten_cons,Nat.zero_mul,Nat.zero_add,List.getElem?_append_left hj]
  exact hu
 | e :: r,i+1,j,es,u,hl,h,hu=>by
  have he:=hl e (List.mem_cons_self ..)
  have:=flatten_at (n:=n) (i:=i) (j:=j) (fun es hes=>hl es (List.mem_cons_of_mem _ hes)) (by simpa using h) hu
  rw [List.flatten_cons,List.getElem?_append_right (by rw [he,Nat.add_mul];omega),he]
  rw [show(i+1)*n+j - n=i*n+j by rw [Nat.add_mul];omega]
  exact this
theorem Own.rep (h:Own R n T w base B v ys) (hB:B≤w.heap.size):(Rp.slice n R).rep w w.heap.size [v] ys:=by
 obtain⟨ess,hl,hown,hr⟩:=h
 rcases hown.2 with⟨rfl,h0⟩|⟨g,cap,cur,rfl,hg,hh,hnc,hcm,hcs,htake⟩
 ·have : ys = [] := List.eq_nil_of_length_eq_zero h0
  subst this
  exact Rp.nil_rep
 ·refine ⟨_, cap, rfl, hnc, hcm, fun hpos => ⟨g, 0, rfl, (Array.getElem?_eq_some_iff.1 hh).1, fun i y hy => ?_⟩⟩
  have hi:=(Js.1 hy).1
  have hes:ess[i]? = some (ess[i]'(by omega)):=Jg (by omega)
  obtain⟨h1,h2⟩:=hr i _ y hes hy
  refine⟨_,h1,R.keep h2 (fun _ _=>rfl) hB,fun j u hu => ?_⟩
  have hall:∀es,es∈ess→es.length=n:=fun es hm=>by
   obtain⟨k,hk⟩:=List.mem_iff_getElem?.1 hm
   have hk':=(Js.1 hk).1
   exact(hr k es _ hk (Jg (by omega))).1
  have hf:=flatten_at hall hes hu
  rw [←htake] at hf
  have hlt:i*n+j<ys.length*n:=by
   have hj:=(Js.1 hu).1
   rw [h1] at hj
   have a1:i*n+j<i*n+n:=by omega
   have a2:i*n+n=(i+1)*n:=by rw [Nat.add_mul];omega
   have a3:(i+1)*n≤ys.length*n:=Nat.mul_le_mul_right n hi
   omega
  rw [List.getElem?_take_of_lt hlt] at hf
  simp only [World.cell?,hh,Nat.zero_add]
  rw [←Array.getElem?_toList]
  simpa using hf
theorem Own.kept {row:Option Nat} (h:Own R n T w base B v ys) (hg:w.grownBy w' row) (hne:v.ownBlock=none∨v.ownBlock≠row) (hB:B≤w.heap.size) (hr:∀k,row=some k→B≤k):Own R n T w' base B v ys:=by
 obtain⟨ess,hl,hown,hrep⟩:=h
 refine⟨ess,hl,hown.kept hg hne,fun i es y h1 h2 => ?_⟩
 obtain⟨h3,h4⟩:=hrep i es y h1 h2
 exact⟨h3,R.keep h4 (fun p hp=>World.cell?_of_block (w:=w) (hg.block p.block (by omega) (fun e=>by have:=hr _ e.symm;omega))) (Nat.le_refl _)⟩
theorem Own.alloc (h:Own R n T w base B v ys) (hB:B≤w.heap.size) (o:Obj):Own R n T (w.alloc o) base B v ys :=
 h.kept (World.grownBy_alloc w o none) (by cases hv:v.ownBlock<;>simp) hB (fun k hk=>by cases hk)
theorem Own.snoc {es : List Value} {y : α} {ess : List (List Value)} (hl : ess.length = ys.length) (hrep : ∀ (i : Nat) es y, ess[i]? = some es → ys[i]? = some y → es.length = n ∧ R.rep w B es y)
  (hown:w'.ownsRow base T n v' (ys.length+1) (ess.flatten++es)) (hg:w.grownBy w' v.ownBlock) (hb:∀k,v.ownBlock=some k→B≤k) (hB:B≤w.heap.size) (he:es.length=n) (hy:R.rep w B es y):Own R n T w' base B v' (ys ++ [y]):=by
 have hk:∀p:Addr,p.block<B→w'.cell? p=w.cell? p:=fun p hp=>World.cell?_of_block (w:=w) (hg.block p.block (by omega) (fun e=>by have:=hb _ e.symm;omega))
 refine⟨ess ++ [es],by simp [hl],by simpa [List.flatten_append] using hown,fun i es' y' h1 h2 => ?_⟩
 rcases Nat.lt_or_ge i ess.length with hi|hi
 ·rw [List.getElem?_append_left hi] at h1
  rw [List.getElem?_append_left (by omega)] at h2
  obtain⟨h3,h4⟩:=hrep i es' y' h1 h2
  exact⟨h3,R.keep h4 hk (Nat.le_refl _)⟩
 ·rw [List.getElem?_append_right hi] at h1
  rw [List.getElem?_append_right (by omega)] at h2
  have h0:i - ess.length=0:=by have:=(Js.1 h1).1;simp at this;omega
  rw [h0] at h1
  rw [show i - ys.length=0 by omega] at h2
  injection h1 with h1
  injection h2 with h2
  subst h1;subst h2
  exact⟨he,R.keep hy hk (Nat.le_refl _)⟩
end
theorem own_ne {w:World} {b1 b2:Nat} {T1 T2:TypeId} {n1 n2 m1 m2:Nat} {v1 v2:Value} {x1 x2:List Value} (h1:w.ownsRow b1 T1 n1 v1 m1 x1) (h2:w.ownsRow b2 T2 n2 v2 m2 x2) (hT:T1≠T2):v1.ownBlock=none∨v1.ownBlock≠v2.ownBlock:=by
 rcases h1.2 with⟨rfl,_⟩|⟨g,cap,cur,rfl,_,hh,_⟩
 ·exact .inl rfl
 ·refine .inr ?_
  rcases h2.2 with⟨rfl,_⟩|⟨g',cap',cur',rfl,_,hh',_⟩
  ·simp [Value.ownBlock]
  ·intro e
   simp only [Value.ownBlock,Option.some.injEq] at e
   subst e
   rw [hh] at hh'
   injection hh' with hh'
   injection hh' with _ ht
   exact hT ht
theorem run_append_none_any {P : Program} (w : World) (base : Nat) (t ty e : TypeId) (i : TypeInfo) (size : Nat) (ht : P.underlying t = some (.slice e)) (hi : P.info? e = some i)
  (v:Value) (n c:Nat) (xs:List Value) (hown:w.ownsRow base e size v n xs) :
  (Builtin.append_ #[t,t] ty #[v, .slice none 0 c]).run P w = .ok v w:=by
 rcases hown.2 with⟨rfl,rfl⟩|⟨g,cap,cur,rfl,_,_,hnc,_⟩
 ·simp [Builtin.append_,run_underlying ht,sizeOf,typeInfo,hi,Builtin.lenOf,Builtin.firstCells]
 ·simp [Builtin.append_,run_underlying ht,sizeOf,typeInfo,hi,Builtin.lenOf,Builtin.firstCells,hnc,storeCells]
theorem Zv {P : Program} (w : World) {ops : Array Oper} {rest : List Oper} {o : Oper} {a : Act} {Q : Exit → Act → World → Prop} (hgd : o.guard = none) (s x : Operand) (t : TypeId)
  (ho:o.op = .call { callee := .builtin .append,args := #[s,x],argTypes := #[t,t] })
  (base:Nat) (e:TypeId) (i:TypeInfo) (z:Value) (size bytes:Nat) (ht:P.underlying t=some (.slice e)) (hi:P.info? e=some i) (hz:i.zero=some z)
  (hsize:i.size=size) (hby:i.bytes=bytes) (hzs:z.cells.size=size) (hsz:0<size)
  (v:Value) (n:Nat) (xs:List Value) (hs:a.eval s=v) (hown:w.ownsRow base e size v n xs)
  (ao:Option Addr) (m c:Nat) (news:List Value) (hx:a.eval x = .slice ao m c) (hl:news.length=m*size) (hnone:ao=none→m=0)
  (hnews:∀ad,ao=some ad→∀j u,news[j]? = some u→w.cell? (ad.add j)=some u) (h1:∀u∈news,u.oneCell'=true)
  (h63:n+m≤maxLen) (hbytes:(n+m)*bytes≤140737488355328) (hbase:base≤w.heap.size)
  (h:∀v' w',w'.ownsRow base e size v' (n+m) (xs++news)→w.grownBy w' v.ownBlock→wpList P ops Q rest (a.put o.dst v') w'):wpList P ops Q (o :: rest) a w:=by
 cases ao with
 | some ad=>exact wpList_append_own w hgd s x t ho base e i z size bytes ht hi hz hsize hby hzs hsz v n xs hs hown ad m c news hx hl (hnews ad rfl) h1 h63 hbytes hbase (fun v' w' g1 g2 _=>h v' w' g1 g2)
 | none =>
  obtain rfl:=hnone rfl
  have hnews:news = []:=List.eq_nil_of_length_eq_zero (by simpa using hl)
  subst hnews
  refine wpList_plain hgd fun K hK' => ?_
  have hrun:=run_append_none_any (P:=P) w base t o.type e i size ht hi _ n c xs hown
  unfold Oper.wp
  simp [execOp,ho,resolve,invoke,builtin,hs,hx,hrun,Result.andThen]
  exact hK' _ _ (h v w (by simpa using hown) (World.grownBy.refl _ _))
theorem Jn {α:Sort _} (e:α):∃x,Hid (x=e):=⟨_,hide rfl⟩
theorem hd2 {a0 a1 G:Prop} (x0:a0) (x1:a1) (h:Hid a0→Hid a1→G):G:=h (hide x0) (hide x1)
theorem hd3 {a0 a1 a2 G:Prop} (x0:a0) (x1:a1) (x2:a2) (h:Hid a0→Hid a1→Hid a2→G):G:=h (hide x0) (hide x1) (hide x2)
theorem hd4 {a0 a1 a2 a3 G:Prop} (x0:a0) (x1:a1) (x2:a2) (x3:a3) (h:Hid a0→Hid a1→Hid a2→Hid a3→G):G:=h (hide x0) (hide x1) (hide x2) (hide x3)
theorem hd5 {a0 a1 a2 a3 a4 G:Prop} (x0:a0) (x1:a1) (x2:a2) (x3:a3) (x4:a4) (h:Hid a0→Hid a1→Hid a2→Hid a3→Hid a4→G):G:=h (hide x0) (hide x1) (hide x2) (hide x3) (hide x4)
theorem hd6 {a0 a1 a2 a3 a4 a5 G:Prop} (x0:a0) (x1:a1) (x2:a2) (x3:a3) (x4:a4) (x5:a5) (h:Hid a0→Hid a1→Hid a2→Hid a3→Hid a4→Hid a5→G):G:=h (hide x0) (hide x1) (hide x2) (hide x3) (hide x4) (hide x5)
theorem hd7 {a0 a1 a2 a3 a4 a5 a6 G:Prop} (x0:a0) (x1:a1) (x2:a2) (x3:a3) (x4:a4) (x5:a5) (x6:a6) (h:Hid a0→Hid a1→Hid a2→Hid a3→Hid a4→Hid a5→Hid a6→G):G:=h (hide x0) (hide x1) (hide x2) (hide x3) (hide x4) (hide x5) (hide x6)
theorem hd8 {a0 a1 a2 a3 a4 a5 a6 a7 G:Prop} (x0:a0) (x1:a1) (x2:a2) (x3:a3) (x4:a4) (x5:a5) (x6:a6) (x7:a7) (h:Hid a0→Hid a1→Hid a2→Hid a3→Hid a4→Hid a5→Hid a6→Hid a7→G):G:=h (hide x0) (hide x1) (hide x2) (hide x3) (hide x4) (hide x5) (hide x6) (hide x7)
theorem hd9 {a0 a1 a2 a3 a4 a5 a6 a7 a8 G:Prop} (x0:a0) (x1:a1) (x2:a2) (x3:a3) (x4:a4) (x5:a5) (x6:a6) (x7:a7) (x8:a8) (h:Hid a0→Hid a1→Hid a2→Hid a3→Hid a4→Hid a5→Hid a6→Hid a7→Hid a8→G):G:=h (hide x0) (hide x1) (hide x2) (hide x3) (hide x4) (hide x5) (hide x6) (hide x7) (hide x8)
theorem hd10 {a0 a1 a2 a3 a4 a5 a6 a7 a8 a9 G:Prop} (x0:a0) (x1:a1) (x2:a2) (x3:a3) (x4:a4) (x5:a5) (x6:a6) (x7:a7) (x8:a8) (x9:a9) (h:Hid a0→Hid a1→Hid a2→Hid a3→Hid a4→Hid a5→Hid a6→Hid a7→Hid a8→Hid a9→G):G:=h (hide x0) (hide x1) (hide x2) (hide x3) (hide x4) (hide x5) (hide x6) (hide x7) (hide x8) (hide x9)
theorem hd11 {a0 a1 a2 a3 a4 a5 a6 a7 a8 a9 a10 G:Prop} (x0:a0) (x1:a1) (x2:a2) (x3:a3) (x4:a4) (x5:a5) (x6:a6) (x7:a7) (x8:a8) (x9:a9) (x10:a10) (h:Hid a0→Hid a1→Hid a2→Hid a3→Hid a4→Hid a5→Hid a6→Hid a7→Hid a8→Hid a9→Hid a10→G):G:=h (hide x0) (hide x1) (hide x2) (hide x3) (hide x4) (hide x5) (hide x6) (hide x7) (hide x8) (hide x9) (hide x10)
theorem hd12 {a0 a1 a2 a3 a4 a5 a6 a7 a8 a9 a10 a11 G:Prop} (x0:a0) (x1:a1) (x2:a2) (x3:a3) (x4:a4) (x5:a5) (x6:a6) (x7:a7) (x8:a8) (x9:a9) (x10:a10) (x11:a11) (h:Hid a0→Hid a1→Hid a2→Hid a3→Hid a4→Hid a5→Hid a6→Hid a7→Hid a8→Hid a9→Hid a10→Hid a11→G):G:=h (hide x0) (hide x1) (hide x2) (hide x3) (hide x4) (hide x5) (hide x6) (hide x7) (hide x8) (hide x9) (hide x10) (hide x11)

open Go.RowKit Go.ChangeShapes Go.WideShapes Go.Deep
theorem len1 {α:Type} {l:List α} (h:l.length=1):∃a0:α,l = [a0]:=by
 match l,h with
 | [a0],_=>exact⟨a0,rfl⟩
theorem len2 {α:Type} {l:List α} (h:l.length=2):∃a0 a1:α,l = [a0,a1]:=by
 match l,h with
 | [a0,a1],_=>exact⟨a0,a1,rfl⟩
theorem len3 {α:Type} {l:List α} (h:l.length=3):∃a0 a1 a2:α,l = [a0,a1,a2]:=by
 match l,h with
 | [a0,a1,a2],_=>exact⟨a0,a1,a2,rfl⟩
theorem len4 {α:Type} {l:List α} (h:l.length=4):∃a0 a1 a2 a3:α,l = [a0,a1,a2,a3]:=by
 match l,h with
 | [a0,a1,a2,a3],_=>exact⟨a0,a1,a2,a3,rfl⟩
theorem len7 {α:Type} {l:List α} (h:l.length=7):∃a0 a1 a2 a3 a4 a5 a6:α,l = [a0,a1,a2,a3,a4,a5,a6]:=by
 match l,h with
 | [a0,a1,a2,a3,a4,a5,a6],_=>exact⟨a0,a1,a2,a3,a4,a5,a6,rfl⟩
theorem list_of {α:Type} {n:Nat} {p:Nat→α→Prop} (h:∀i,i<n→∃y,p i y):∃l:List α,l.length=n∧∀i y,l[i]? = some y→p i y:=by
 induction n with
 | zero=>exact⟨[],rfl,fun i y hy=>by simp at hy⟩
 | succ n ih =>
  obtain⟨l,hl,hp⟩:=ih (fun i hi=>h i (Nat.lt_succ_of_lt hi))
  obtain⟨y,hy⟩:=h n (Nat.lt_succ_self n)
  refine⟨l ++ [y],by simp [hl],fun i z hz => ?_⟩
  rcases Nat.lt_or_ge i n with hi|hi
  ·rw [List.getElem?_append_left (by omega)] at hz
   exact hp i z hz
  ·rw [List.getElem?_append_right (by omega)] at hz
   obtain rfl:i=n:=by
    have:=(Js.1 hz).1
    simp at this;omega
   simp [hl] at hz
   subst hz;exact hy
def Opens {α:Type} (t:TypeId) (R:Rp α) (μ:α→Nat):Prop :=
 ∀(H:Type) (enc:TypeId×Value→H) (w:World) (base:Nat) (spare:Nat→Bool) (held:Bool) (fuel:Nat) (cs:List Value) (x:DataW H×List MemPlace),
  DataW.trod enc Tryz.prog w base spare held fuel t cs=some x→∃m,R.rep w w.heap.size cs m∧μ m≤Rows.uptoBulk x.1
theorem bulk_one {H:Type} (d:DataW H):1≤Rows.uptoBulk d:=by
 cases d with
 | lit l=>cases l<;>simp [Rows.uptoBulk]
 | nil=>simp [Rows.uptoBulk]
 | ptr d=>simp [Rows.uptoBulk]
 | slice elems spare=>simp [Rows.uptoBulk]
 | agg parts=>simp [Rows.uptoBulk]
 | iface t d=>simp [Rows.uptoBulk]
 | map entries=>simp [Rows.uptoBulk]
 | held h=>simp [Rows.uptoBulk]
theorem sum_le {α H : Type} {μ : α → Nat} : ∀ (l : List α) (D : Nat → DataW H), (∀ i y, l[i]? = some y → μ y ≤ Rows.uptoBulk (D i)) → (l.map μ).sum ≤ Rows.uptoBulkAll ((List.range l.length).map D)
 | [],_,_=>by simp
 | y :: l,D,h=>by
  have h0:=h 0 y rfl
  have:=sum_le l (fun i=>D (i+1)) (fun i z hz=>h (i+1) z (by simpa using hz))
  simp only [List.map_cons,List.sum_cons,List.length_cons,List.range_succ_eq_map,Rows.uptoBulkAll,List.map_map]
  have e:(D ∘ Nat.succ)=fun i=>D (i+1):=rfl
  rw [e]
  omega
theorem add_mk (b off k:Nat):(⟨b,off,none⟩:Addr).add k=⟨b,off+k,none⟩:=by
 unfold Addr.add
 split
 ·rename_i h;rw [h];rfl
 ·rfl
theorem Yan {α : Type} {t e n : Nat} {R : Rp α} {μ : α → Nat} (ht : Tryz.prog.underlying t = some (.slice e)) (hn : Tryz.prog.cellsOf e = n) (h0 : 0 < n) (he : Opens e R μ) :
  Opens t (.slice n R) (fun l=>(l.map μ).sum+1):=by
 intro H enc w base spare held fuel cs x h
 rcases open_slice ht h with⟨rfl,rfl⟩|⟨a,len,cap,m,k,D,Pl,rfl,hb,hl,hm,hmm,rfl,hi⟩
 ·exact⟨[],Rp.nil_rep,by simp [Rows.uptoBulk]⟩
 ·have hlm : len ≤ m := by rw [hmm]; split <;> omega
  obtain⟨l,hll,hp⟩:=list_of (n:=len) (p:=fun i y=>∃cs',w.cells? base (a.add (i*n)) n=some cs'∧R.rep w w.heap.size cs' y∧μ y≤Rows.uptoBulk (D i)) (fun i hil=>by
   obtain⟨cs',hc,ht'⟩:=hi i (by omega)
   rw [hn] at hc
   obtain⟨y,hr,hμ⟩:=he _ _ _ _ _ _ _ _ _ ht'
   exact⟨y,cs',hc,hr,hμ⟩)
  subst hll
  refine⟨l,⟨some a,cap,rfl,hl,hm,fun hpos => ?_⟩,?_⟩
  ·obtain ⟨y0, hy0⟩ : ∃ y, l[0]? = some y := ⟨_, Jg hpos⟩
   obtain⟨cs0,hc0,_,_⟩:=hp 0 y0 hy0
   obtain⟨_,hlen0,hcell0⟩:=World.cells?_some hc0
   have hsome:w.cell? a=some (cs0[0]'(by omega)):=by
    have:=hcell0 0 h0
    rw [Jg (by omega)] at this
    simpa [Addr.add] using this
   have hspot:=World.cell?_spot hsome
   have hlt:=World.block_lt_of_cell? w a hsome
   obtain⟨b,off,spot⟩:=a
   subst hspot
   refine⟨b,off,rfl,hlt,fun i y hy => ?_⟩
   obtain⟨cs',hc,hr,_⟩:=hp i y hy
   obtain⟨_,hlen,hcell⟩:=World.cells?_some hc
   refine⟨cs',hlen,hr,fun j u hu => ?_⟩
   have hj:j<n:=by rw [←hlen];exact(Js.1 hu).1
   have:=hcell j hj
   rw [Go.Deep.add_add,add_mk,hu] at this
   exact this
  ·have := sum_le (μ := μ) l D (fun i y hy => by obtain ⟨_, _, _, h⟩ := hp i y hy; exact h)
   simp only [Rows.uptoBulk]
   omega
theorem bound {H:Type} {l:List (DataW H)} (hk:Rows.uptoSmall H l=true):Rows.uptoBulkAll l≤1048576:=of_decide_eq_true hk
theorem arr_of {args:Array Value} {l:List Value} (h:args.toList=l):args=l.toArray:=by rw [←h]
theorem agg_list {cs:Array Value} {l:List Value} (h:cs.toList=l):Value.agg cs = .agg l.toArray:=by rw [←h]
theorem own:ownKnob Tryz.prog.godebug=none:=by kernel_rfl
theorem laidOut:laidOutB Tryz.prog=true:=by kernel_rfl
theorem Ycg : Tryz.prog.cellsOf 3 = 1:=by kernel_rfl
abbrev Ins.v (x:Ins) (c d:Value):Value := .agg #[.int .i64 x.op, .int .i64 x.reg, .int .i64 x.ty, .int .i64 x.num, .int .i64 x.flags,c,d]
theorem ends_any (op:Int) (w:World):Calls Tryz.prog 111 #[.int .i64 op] w fun e w'=>e = .returned (.bool (Yce op))∧w=w':=by
 go_enter Tryz.func111,Tryz.ntmps111
 go_wp2
 all_goals go_ret
 all_goals exact⟨Z6 (by rw [Bool.eq_iff_iff];simp [Yce];omega),rfl⟩
theorem rends_any (op:Int) (w:World):Calls Tryz.prog 89 #[.int .i64 op] w fun e w'=>e = .returned (.bool (Yce op))∧w=w':=by
 go_enter Tryz.func89,Tryz.ntmps89
 go_wp2
 all_goals go_ret
 all_goals exact⟨Z6 (by rw [Bool.eq_iff_iff];simp [Yce];omega),rfl⟩
theorem Ybj (x:Ins) (c d:Value) (w:World):Calls Tryz.prog 93 #[x.v c d] w fun e w'=>e = .returned (.int .i64 (Yap x.op x.ty))∧Below w.heap.size w w':=by
 go_enter Tryz.func93,Tryz.ntmps93
 go_wp2
 all_goals go_ret
 all_goals refine⟨Ybk ?_,(Below.refl _ _).alloc (by simp) _⟩
 all_goals
  show _=Yap x.op x.ty
  unfold Yap
  try simp at *
  (repeat' split)<;>omega
abbrev I64 (n:Int):Prop:=(Lit.int .i64 n).wf=true
def RInt:Rp Int := .plain (fun n => [.int .i64 n]) I64
def ROpd:Rp Opd := .plain (fun x => [.int .i64 x.kind, .int .i64 x.num, .int .u64 x.bits]) fun x=>I64 x.kind∧I64 x.num
def Z4:Rp (List Int) := .slice 1 RInt
def ROpds:Rp (List Opd) := .slice 3 ROpd
def RIns : Rp Ins where
 rep w B cs x:=∃c d,cs = [.int .i64 x.op, .int .i64 x.reg, .int .i64 x.ty, .int .i64 x.num, .int .i64 x.flags,c,d]∧ROpds.rep w B [c] x.args∧Z4.rep w B [d] x.to∧I64 x.op∧I64 x.reg∧I64 x.ty∧I64 x.num∧I64 x.flags
 keep:=by
  rintro w w' B B' cs x ⟨c,d,h,h1,h2,h3⟩ hk hB
  exact⟨c,d,h,ROpds.keep h1 hk hB,Z4.keep h2 hk hB,h3⟩
def RBlk:Rp (List Ins) := .slice 7 RIns
def RBlks:Rp (List (List Ins)) := .slice 1 RBlk
abbrev Fun.v (x:Fun) (c d:Value):Value := .agg #[.string x.name,c, .int .i64 x.ret,d]
theorem cells_uint64 : Tryz.prog.cellsOf 60 = 1:=by kernel_rfl
theorem cells_string : Tryz.prog.cellsOf 9 = 1:=by kernel_rfl
theorem cells_Value : Tryz.prog.cellsOf 62 = 3:=by kernel_rfl
theorem cells_Values : Tryz.prog.cellsOf 42 = 1:=by kernel_rfl
theorem cells_Ints : Tryz.prog.cellsOf 29 = 1:=by kernel_rfl
theorem cells_Instr : Tryz.prog.cellsOf 44 = 7:=by kernel_rfl
theorem cells_Instrs : Tryz.prog.cellsOf 39 = 1:=by kernel_rfl
theorem cells_Block : Tryz.prog.cellsOf 41 = 1:=by kernel_rfl
theorem cells_Blocks : Tryz.prog.cellsOf 30 = 1:=by kernel_rfl
theorem cells_Func : Tryz.prog.cellsOf 32 = 4:=by kernel_rfl
def insSz (x:Ins):Nat:=1+x.args.length+x.to.length
def blkSz (l:List Ins):Nat:=(l.map insSz).sum+1
def blksSz (l:List (List Ins)):Nat:=(l.map blkSz).sum+1
def Ybo (f:Fun):Nat:=f.params.length+blksSz f.blocks
theorem sum_ones {α:Type} (l:List α):(l.map fun _=>1).sum=l.length:=by induction l with
 | nil=>rfl
 | cons x l ih=>simp only [List.map_cons,List.sum_cons,ih,List.length_cons];omega
theorem opens_int:Opens 3 RInt (fun _=>1):=by
 intro H enc w base spare held fuel cs x h
 obtain⟨n,rfl,rfl,hw⟩:=DataW.trod_int Tryz.underlying3 h
 exact⟨n,⟨rfl,hw⟩,bulk_one _⟩
theorem opens_Ints:Opens 29 Z4 (fun l=>l.length+1):=by
 have:=Yan Tryz.underlying29 Ycg (by omega) opens_int
 simp only [sum_ones] at this
 exact this
theorem opens_Value:Opens 62 ROpd (fun _=>1):=by
 intro H enc w base spare held fuel cs x h
 obtain⟨xs,k,_,rfl,hl,hlen,hf⟩:=DataW.trod_struct Tryz.underlying62 h
 obtain⟨c0,c1,c2,rfl⟩:=len3 (hl.trans cells_Value)
 obtain⟨y0,y1,y2,rfl⟩:=len3 (hlen.trans rfl)
 obtain⟨n0,e0,_,w0⟩:=DataW.trod_int Tryz.underlying3 (hf 0 _ rfl)
 obtain⟨n1,e1,_,w1⟩:=DataW.trod_int Tryz.underlying3 (hf 1 _ rfl)
 obtain⟨n2,e2,_,_⟩:=DataW.trod_int Tryz.underlying60 (hf 2 _ rfl)
 simp [Ycg,cells_uint64] at e0 e1 e2
 subst e0 e1 e2
 exact⟨⟨n0,n1,n2⟩,⟨rfl,w0,w1⟩,bulk_one _⟩
theorem opens_Values:Opens 42 ROpds (fun l=>l.length+1):=by
 have:=Yan Tryz.underlying42 cells_Value (by omega) opens_Value
 simp only [sum_ones] at this
 exact this
theorem opens_Instr:Opens 44 RIns insSz:=by
 intro H enc w base spare held fuel cs x h
 obtain⟨xs,k,_,rfl,hl,hlen,hf⟩:=DataW.trod_struct Tryz.underlying44 h
 obtain⟨c0,c1,c2,c3,c4,c5,c6,rfl⟩:=len7 (hl.trans cells_Instr)
 obtain⟨y0,y1,y2,y3,y4,y5,y6,rfl⟩:=len7 (hlen.trans rfl)
 obtain⟨n0,e0,_,w0⟩:=DataW.trod_int Tryz.underlying3 (hf 0 _ rfl)
 obtain⟨n1,e1,_,w1⟩:=DataW.trod_int Tryz.underlying3 (hf 1 _ rfl)
 obtain⟨n2,e2,_,w2⟩:=DataW.trod_int Tryz.underlying3 (hf 2 _ rfl)
 obtain⟨n3,e3,_,w3⟩:=DataW.trod_int Tryz.underlying3 (hf 3 _ rfl)
 obtain⟨n4,e4,_,w4⟩:=DataW.trod_int Tryz.underlying3 (hf 4 _ rfl)
 obtain⟨l5,r5,m5⟩:=opens_Values _ _ _ _ _ _ _ _ _ (hf 5 _ rfl)
 obtain⟨l6,r6,m6⟩:=opens_Ints _ _ _ _ _ _ _ _ _ (hf 6 _ rfl)
 simp [Ycg,cells_Values,cells_Ints] at e0 e1 e2 e3 e4 r5 r6
 subst e0 e1 e2 e3 e4
 refine⟨⟨n0,n1,n2,n3,n4,l5,l6⟩,⟨c5,c6,rfl,r5,r6,w0,w1,w2,w3,w4⟩,?_⟩
 simp only [insSz,List.map_cons,List.map_nil,Rows.uptoBulk,Rows.uptoBulkAll] at *
 omega
theorem opens_Instrs:Opens 39 RBlk blkSz:=Yan Tryz.underlying39 cells_Instr (by omega) opens_Instr
theorem opens_Block:Opens 41 RBlk blkSz:=by
 intro H enc w base spare held fuel cs x h
 obtain⟨xs,k,_,rfl,hl,hlen,hf⟩:=DataW.trod_struct Tryz.underlying41 h
 obtain⟨c0,rfl⟩:=len1 (hl.trans cells_Block)
 obtain⟨y0,rfl⟩:=len1 (hlen.trans rfl)
 obtain⟨l0,r0,m0⟩:=opens_Instrs _ _ _ _ _ _ _ _ _ (hf 0 _ rfl)
 simp [cells_Instrs] at r0
 refine⟨l0,r0,?_⟩
 simp only [List.map_cons,List.map_nil,Rows.uptoBulk,Rows.uptoBulkAll] at *
 omega
theorem opens_Blocks:Opens 30 RBlks blksSz:=Yan Tryz.underlying30 cells_Block (by omega) opens_Block
def RFun : Rp Fun where
 rep w B cs x:=∃c d,cs = [.string x.name,c, .int .i64 x.ret,d]∧Z4.rep w B [c] x.params∧RBlks.rep w B [d] x.blocks∧I64 x.ret∧x.name.size≤maxLen
 keep:=by
  rintro w w' B B' cs x ⟨c,d,h,h1,h2,h3⟩ hk hB
  exact⟨c,d,h,Z4.keep h1 hk hB,RBlks.keep h2 hk hB,h3⟩
theorem opens_Func:Opens 32 RFun Ybo:=by
 intro H enc w base spare held fuel cs x h
 obtain⟨xs,k,_,rfl,hl,hlen,hf⟩:=DataW.trod_struct Tryz.underlying32 h
 obtain⟨c0,c1,c2,c3,rfl⟩:=len4 (hl.trans cells_Func)
 obtain⟨y0,y1,y2,y3,rfl⟩:=len4 (hlen.trans rfl)
 obtain⟨s,e0,_,hs⟩:=DataW.trod_string Tryz.underlying9 (hf 0 _ rfl)
 obtain⟨l1,r1,m1⟩:=opens_Ints _ _ _ _ _ _ _ _ _ (hf 1 _ rfl)
 obtain⟨n2,e2,_,w2⟩:=DataW.trod_int Tryz.underlying3 (hf 2 _ rfl)
 obtain⟨l3,r3,m3⟩:=opens_Blocks _ _ _ _ _ _ _ _ _ (hf 3 _ rfl)
 simp [Ycg,cells_string,cells_Ints,cells_Blocks] at e0 r1 e2 r3
 subst e0 e2
 refine⟨⟨s,l1,n2,l3⟩,⟨c1,c3,rfl,r1,r3,w2,hs⟩,?_⟩
 simp only [Ybo,List.map_cons,List.map_nil,Rows.uptoBulk,Rows.uptoBulkAll] at *
 omega
theorem partsL_le_blk : ∀ l : List Ins, Ybx l + 1 ≤ blkSz l
 | []=>Nat.le_refl _
 | x :: l=>by
  have:=partsL_le_blk l
  simp only [Ybx,blkSz,insSz,List.map_cons,List.sum_cons] at *
  omega
end Go.Proofs.YtamjcafjdioidaaGreat
