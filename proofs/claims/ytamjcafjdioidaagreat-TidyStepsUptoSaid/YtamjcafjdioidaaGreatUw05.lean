/- Texts of the chain, without what is not wanted: Mf, TdP, DelP, Hst, Del. No condition but sizes. -/
import Derived.Lib.SliceRun
import Derived.Laws.IdiomCopy
import Derived.Test.YtamjcafjdioidaaGreatUw04
set_option linter.unusedVariables false
set_option linter.unusedSimpArgs false
set_option maxRecDepth 100000
set_option maxHeartbeats 12800000
namespace Go.Proofs.YtamjcafjdioidaaGreat
open Go.RowKit
def TB (d:Value) (xs:List Value) (ess:List (List (Value×Value))) (k:Nat):Prop:=d.ownBlock=some k∨(∃x,x∈xs∧x.ownBlock=some k)∨∃es e,es∈ess∧e∈es∧(e.1.ownBlock=some k∨e.2.ownBlock=some k)
structure MF (w : World) (T : Nat → Prop) (N : Nat) (f : Fun) (c d : Value) : Prop where
 box:w.heap[N]? = some (.cells #[.string f.name,c, .int .i64 f.ret,d] 32 (0,0))
 tree:∃xs ess,Yq w 0 d f.blocks xs ess∧∀k,TB d xs ess k→T k
 par:OwnI w 0 c f.params
 far:∀k,c.ownBlock=some k→¬T k∧k≠N
 out:¬T N
 ret:I64 f.ret
 nm:f.name.size≤maxLen
section
variable {w w':World} {T T':Nat→Prop} {N:Nat} {f:Fun} {c d:Value} {xs:List Value} {ess:List (List (Value×Value))} {bs:List (List Ins)}
theorem Yq.tb_lt (h:Yq w 0 d bs xs ess) {k:Nat} (hk:TB d xs ess k):k<w.heap.size:=by
 rcases hk with h1|⟨x,hx,h1⟩|⟨es,e,he,hee,h1⟩
 ·exact(Ya h.row h1).2.1
 ·exact(h.own_x hx k h1).2
 ·have h2 := h.own_at (List.mem_flatten.2 ⟨es, he, hee⟩) k
  rcases h1 with h1|h1
  ·exact(h2.1 h1).2
  ·exact(h2.2 h1).2
theorem Yq.tb_kept (h:Yq w 0 d bs xs ess) (hk:∀k,k<w.heap.size→TB d xs ess k→w'.heap[k]? = w.heap[k]?):Yq w' 0 d bs xs ess:=by
 refine⟨Yc h.row fun k hv=>hk k (Ya h.row hv).2.1 (.inl hv),h.lene,fun i x b es hx hb he => ?_,h.ndx,h.nda,h.ndt⟩
 have h1:=h.inn i x b es hx hb he
 refine⟨h1.len,Yc h1.row fun k hv=>hk k (Ya h1.row hv).2.1 (.inr (.inl ⟨x,Jm hx,hv⟩)),fun j y e hy hee => ?_,h1.nda,h1.ndt⟩
 obtain⟨g1,g2,g3⟩:=h1.inn j y e hy hee
 exact⟨⟨Yc g1.row fun k hv=>hk k (Ya g1.row hv).2.1 (.inr (.inr ⟨es,e,Jm he,Jm hee, .inl hv⟩)),g1.ok⟩,⟨Yc g2.row fun k hv=>hk k (Ya g2.row hv).2.1 (.inr (.inr ⟨es,e,Jm he,Jm hee, .inr hv⟩)),g2.ok⟩,g3⟩
theorem MF.kept (h:MF w T N f c d) (hk:∀k,k<w.heap.size→T k∨k=N∨c.ownBlock=some k→w'.heap[k]? = w.heap[k]?):MF w' T N f c d:=by
 obtain⟨xs,ess,h1,h2⟩:=h.tree
 refine⟨?_,⟨xs,ess,h1.tb_kept fun k hk1 hk2=>hk k hk1 (.inl (h2 k hk2)),h2⟩,⟨Yc h.par.row fun k hv=>hk k (Ya h.par.row hv).2.1 (.inr (.inr hv)),h.par.ok⟩,h.far,h.out,h.ret,h.nm⟩
 rw [hk N (Array.getElem?_eq_some_iff.1 h.box).1 (.inr (.inl rfl))]
 exact h.box
theorem MF.below (h:MF w T N f c d) (hb:Below w.heap.size w w'):MF w' T N f c d:=h.kept fun k hk _=>hb.block k hk
theorem MF.mono (h:MF w T N f c d) (hT:∀k,T k→T' k) (hN:¬T' N) (hc:∀k,c.ownBlock=some k→¬T' k):MF w T' N f c d:=by
 obtain⟨xs,ess,h1,h2⟩:=h.tree
 exact⟨h.box,⟨xs,ess,h1,fun k hk=>hT k (h2 k hk)⟩,h.par,fun k hk=>⟨hc k hk,(h.far k hk).2⟩,hN,h.ret,h.nm⟩
theorem MF.rep (h:MF w T N f c d):RFun.rep w w.heap.size [.string f.name,c, .int .i64 f.ret,d] f:=by
 obtain⟨xs,ess,h1, -⟩:=h.tree
 exact⟨c,d,rfl,h.par.rep,h1.own.rep,h.ret,h.nm⟩
theorem MF.lt (h:MF w T N f c d):N<w.heap.size:=(Array.getElem?_eq_some_iff.1 h.box).1
theorem MF.with_ (h:MF w T N f c d) (ho:Only T w.heap.size w w') (ht:Yq w' 0 d bs xs ess) (hT:∀k,TB d xs ess k→T k):MF w' T N (Ye f bs) c d:=by
 refine⟨?_,⟨xs,ess,ht,hT⟩,⟨Yc h.par.row fun k hv=>ho.block k (Ya h.par.row hv).2.1 (h.far k hv).1,h.par.ok⟩,h.far,h.out,h.ret,h.nm⟩
 rw [ho.block N h.lt h.out]
 exact h.box
end
theorem Yb8 {w:World} {B:Nat} {e:TypeId} {s g n m C:Nat} {ys zs:List Value} (h:w.ownsRow B e s (.slice (some ⟨g,0,none⟩) n C) n (ys++zs)) (hy:ys.length=m*s) (hm:m≤n):w.ownsRow B e s (.slice (some ⟨g,0,none⟩) m C) m ys:=by
 refine⟨hy, .inr ?_⟩
 rcases h.2 with⟨e1, -⟩|⟨g',cap,cur,e1,hb,hh,h1,h2,h3,h4⟩
 ·cases e1
 ·cases e1
  refine⟨g,C,cur,rfl,hb,hh,by omega,h2,h3,?_⟩
  have h5:=congrArg (List.take (m*s)) h4
  rw [List.take_take,List.take_left' hy] at h5
  rw [←h5,Nat.min_eq_left (Nat.mul_le_mul_right s hm)]
def idxI (l:List Int) (t:Int):Int:=if t∈l then(l.idxOf t:Int) else -1
theorem take_mem {l:List Int} {t:Int} {k:Nat} (h:t∉l.take k) (hk:l[k]? = some t):l.idxOf t=k:=by
 have h1:=(Js.1 hk).1
 have h2:l=l.take k++t :: l.drop (k+1):=by
  rw [Jg h1] at hk
  injection hk with hk
  rw [←hk,List.getElem_cons_drop,List.take_append_drop]
 rw [h2,List.idxOf_append,if_neg h,List.idxOf_cons_self,List.length_take]
 omega
theorem index2_any (u : Value) (l : List Int) (t : Int) (w : World) (B : Nat) (hB : B ≤ w.heap.size) (ha : Z4.rep w B [u] l) :
  Calls Tryz.prog 99 #[u, .int .i64 t] w (fun e w'=>e = .returned (.int .i64 (idxI l t))∧Below w.heap.size w w'):=by
 obtain⟨A1,c1,h1,hm1,ga⟩:=Rp.slice1_open (Z4.later ha (Below.refl _ _) hB)
 cases h1
 replace ga:=hide ga
 have hself:=Below.refl w.heap.size w
 obtain⟨ix,hix⟩:=Jn (idxI l t)
 rw [←hix.out]
 go_enter Tryz.func99,Tryz.ntmps99
 go_wp2
 go_loopw [8] (fun i wr=>∃k:Nat,k≤l.length∧i = .int .i64 k∧Hid (t∉l.take k)∧Below w.heap.size w wr) (fun i _=>l.length - (intOf i).toNat)
 case atStart=>exact⟨0,Nat.zero_le _,rfl,hide (by simp),hself⟩
 case round =>
  obtain⟨k,hk,rfl,hall,hbel⟩:=hrel
  by_cases hlt:k<l.length
  ·obtain ⟨b1, o1, rfl, he1⟩ := ga.out (by omega)
   obtain⟨x,hx⟩:=Yf hlt
   obtain⟨_,⟨hr1,_⟩,p0⟩:=he1 k x hx.out
   cases hr1
   clear he1
   cases hxy:(t==x) with
   | true =>
    have hin:Hid (∀w',Below w.heap.size w w'→Ending.returned (.int .i64 (k:Int)) = .returned (.int .i64 ix)∧Below w.heap.size w w'):=hide (fun w' h=>by
     have e:=eq_of_beq hxy
     subst e
     refine⟨?_,h⟩
     rw [hix.out,idxI,if_pos (Jm hx.out),take_mem hall.out hx.out])
    go_wp2
    go_ret
    exact hin.out _ hbel
   | false =>
    have hin:Hid (t∉l.take (k+1)):=hide (by
     rw [Zl hx.out]
     intro h
     rcases List.mem_append.1 h with h|h
     ·exact hall.out h
     ·rw [List.mem_singleton.1 h] at hxy;simp at hxy)
    go_wp2
    go_roundw
    case rel=>exact⟨k+1,hlt,by go_num,hin,hbel⟩
    case measure=>simp [intOf];omega
  ·have hin:Hid (∀w',Below w.heap.size w w'→Ending.returned (.int .i64 (-1)) = .returned (.int .i64 ix)∧Below w.heap.size w w'):=hide (fun w' h=>by
    refine⟨?_,h⟩
    rw [hix.out,idxI,if_neg (by have:=hall.out;rwa [List.take_of_length_le (by omega)] at this)])
   go_wp2
   go_ret
   exact hin.out _ hbel
theorem Yb {w:World} {N:Nat} {cs:Array Value} {t:TypeId} {fr:Nat×Nat} (h:w.heap[N]? = some (.cells cs t fr)) (j:Nat) {u:Value} (hu:cs[j]? = some u):w.cell? ⟨N,j,none⟩=some u:=by
 simp [World.cell?,h,hu]
theorem Yx {w:World} {Q:Nat→Prop} {B N j:Nat} {u:Value} (h:w.cell? ⟨N,j,none⟩=some u) (hN:N<B) (hQ:¬Q N):∀w',Only Q B w w'→w'.cell? ⟨N,j,none⟩=some u:=fun w' hw=>(hw.cell (p:=⟨N,j,none⟩) hN hQ).trans h
theorem Yg {w:World} {N j:Nat} {u:Value} (h:w.cell? ⟨N,j,none⟩=some u) (hN:N<w.heap.size):∀w',Below w.heap.size w w'→w'.cell? ⟨N,j,none⟩=some u:=fun w' hb=>(hb.cell (p:=⟨N,j,none⟩) hN).trans h
theorem on_free {w:World} {Q:Nat→Prop} {B N j:Nat} (h:w.frozen? ⟨N,j,none⟩=false) (hN:N<B) (hQ:¬Q N):∀w',Only Q B w w'→w'.frozen? ⟨N,j,none⟩=false:=fun w' hw=>by
 have e:=hw.block N hN hQ
 simp only [World.frozen?,e] at h⊢
 exact h
theorem Z7 {w:World} {g g':Nat} {T T':TypeId} (h:∃c,w.heap[g]? = some (.cells c T (0,0))) (h':∃c,w.heap[g']? = some (.cells c T' (0,0))) (hT:T≠T'):g≠g':=by
 rintro rfl
 obtain⟨c,h⟩:=h
 obtain⟨c',h'⟩:=h'
 rw [h] at h'
 cases h'
 exact hT rfl
theorem Yae {w:World} {B:Nat} {e:TypeId} {s n:Nat} {v:Value} {ys:List Value} (h:w.ownsRow B e s v n ys):n≤9223372036854775807:=by
 rcases h.2 with⟨-,h0⟩|⟨g,cap,cur, -, -, -,h1,h2, -⟩
 ·omega
 ·unfold maxLen at h2;omega
theorem Zj {w:World} {B:Nat} {e:TypeId} {s g n n' C:Nat} {ys:List Value} (h:w.ownsRow B e s (.slice (some ⟨g,0,none⟩) n C) n' ys) (j:Nat):w.frozen? ⟨g,j,none⟩=false:=by
 have hn:n=n':=by
  rcases h.2 with⟨e1, -⟩|⟨g',cap,cur,e1, -⟩
  ·cases e1
  ·cases e1;rfl
 subst hn
 exact World.ownsRow.frozenAt h j
theorem Yq.blk_cell {w:World} {gd n C b:Nat} {bs:List (List Ins)} {xs:List Value} {ess:List (List (Value×Value))} {x:Value} (h:Yq w 0 (.slice (some ⟨gd,0,none⟩) n C) bs xs ess) (hx:xs[b]? = some x):w.cell? ⟨gd,b,none⟩=some x:=by
 have hn:n=bs.length:=by
  rcases h.row.2 with⟨e, -⟩|⟨g,cap,cur,e, -⟩
  ·cases e
  ·cases e;rfl
 subst hn
 have h1:=(Js.1 hx).1
 rw [World.ownsRow.cellAt h.row b (by rw [←h.lenx];omega),hx]
theorem bx4 {w:World} {N:Nat} {x0 x1 x2 x3:Value} {t:TypeId} (h:w.heap[N]? = some (.cells #[x0,x1,x2,x3] t (0,0))):w.cell? ⟨N,0,none⟩=some x0∧w.cell? ⟨N,1,none⟩=some x1∧w.cell? ⟨N,2,none⟩=some x2∧w.cell? ⟨N,3,none⟩=some x3:=⟨Yb h 0 rfl,Yb h 1 rfl,Yb h 2 rfl,Yb h 3 rfl⟩
theorem bf4 {w:World} {N:Nat} {x0 x1 x2 x3:Value} {t:TypeId} (h:w.heap[N]? = some (.cells #[x0,x1,x2,x3] t (0,0))):w.frozen? ⟨N,0,none⟩=false∧w.frozen? ⟨N,1,none⟩=false∧w.frozen? ⟨N,2,none⟩=false∧w.frozen? ⟨N,3,none⟩=false:=⟨Ym (j:=0) h,Ym (j:=1) h,Ym (j:=2) h,Ym (j:=3) h⟩
theorem bx7 {w:World} {N:Nat} {x0 x1 x2 x3 x4 x5 x6:Value} {t:TypeId} (h:w.heap[N]? = some (.cells #[x0,x1,x2,x3,x4,x5,x6] t (0,0))):w.cell? ⟨N,0,none⟩=some x0∧w.cell? ⟨N,1,none⟩=some x1∧w.cell? ⟨N,2,none⟩=some x2∧w.cell? ⟨N,3,none⟩=some x3∧w.cell? ⟨N,4,none⟩=some x4∧w.cell? ⟨N,5,none⟩=some x5∧w.cell? ⟨N,6,none⟩=some x6:=⟨Yb h 0 rfl,Yb h 1 rfl,Yb h 2 rfl,Yb h 3 rfl,Yb h 4 rfl,Yb h 5 rfl,Yb h 6 rfl⟩
theorem bf7 {w:World} {N:Nat} {x0 x1 x2 x3 x4 x5 x6:Value} {t:TypeId} (h:w.heap[N]? = some (.cells #[x0,x1,x2,x3,x4,x5,x6] t (0,0))):w.frozen? ⟨N,0,none⟩=false∧w.frozen? ⟨N,1,none⟩=false∧w.frozen? ⟨N,2,none⟩=false∧w.frozen? ⟨N,3,none⟩=false∧w.frozen? ⟨N,4,none⟩=false∧w.frozen? ⟨N,5,none⟩=false∧w.frozen? ⟨N,6,none⟩=false:=⟨Ym (j:=0) h,Ym (j:=1) h,Ym (j:=2) h,Ym (j:=3) h,Ym (j:=4) h,Ym (j:=5) h,Ym (j:=6) h⟩

def Ybb (x:Ins):Bool:=x.op==25
def Q0 (p:Int) (x:Ins):Ins:=if p∈x.to then⟨x.op,x.reg,x.ty,x.num,x.flags,x.args.eraseIdx (x.to.idxOf p),x.to.eraseIdx (x.to.idxOf p)⟩ else x
def Yaw (p:Int) (l:List Ins):List Ins:=(l.takeWhile Ybb).map (Q0 p)++l.dropWhile Ybb
def PhiLen (l:List Ins):Prop:=∀x,x∈l→x.op=25→x.args.length=x.to.length
def mixP (p:Int) (l:List Ins) (i:Nat):List Ins:=(l.take i).map (Q0 p)++l.drop i
theorem mixP_zero (p:Int) (l:List Ins):mixP p l 0=l:=by simp [mixP]
theorem mixP_len (p:Int) (l:List Ins) (i:Nat):(mixP p l i).length=l.length:=by unfold mixP;simp;omega
theorem mixP_at {p:Int} {l:List Ins} {i:Nat} {x:Ins} (h:l[i]? = some x):(mixP p l i)[i]? = some x:=by
 have h1:=(Js.1 h).1
 unfold mixP
 rw [List.getElem?_append_right (by simp;omega),List.length_map,List.length_take,Nat.min_eq_left (by omega),Nat.sub_self,List.getElem?_drop]
 exact h
theorem mixP_next {p:Int} {l:List Ins} {i:Nat} {x:Ins} (h:l[i]? = some x):(mixP p l i).set i (Q0 p x)=mixP p l (i+1):=by
 have h1:=(Js.1 h).1
 have h2:l.drop i=x :: l.drop (i+1):=by
  rw [Jg h1] at h
  injection h with h
  rw [←h,List.getElem_cons_drop]
 have h3:((l.take i).map (Q0 p)).length=i:=by simp;omega
 unfold mixP
 rw [h2,List.set_append_right _ _ (by omega),h3,Nat.sub_self,List.set_cons_zero,List.take_add_one,h]
 simp
theorem mixP_stop {p:Int} {l:List Ins} {i:Nat} (h:∀(j:Nat) x,j<i→l[j]? = some x→x.op=25) (hs:i=l.length∨∃x,l[i]? = some x∧x.op≠25):mixP p l i=Yaw p l:=by
 have key:∀(l:List Ins) (i:Nat),(∀(j:Nat) x,j<i→l[j]? = some x→x.op=25)→(i=l.length∨∃x,l[i]? = some x∧x.op≠25)→l.takeWhile Ybb=l.take i∧l.dropWhile Ybb=l.drop i:=by
  intro l
  induction l with
  | nil=>intro i _ _;simp
  | cons y l ih =>
   intro i h hs
   cases i with
   | zero =>
    have hy:Ybb y=false:=by
     rcases hs with h1|⟨x,h1,h2⟩
     ·simp at h1
     ·cases h1
      unfold Ybb
      rw [beq_eq_false_iff_ne];exact h2
    rw [List.takeWhile_cons,List.dropWhile_cons,hy]
    simp
   | succ i =>
    have hy:Ybb y=true:=by
     unfold Ybb
     rw [beq_iff_eq]
     exact h 0 y (by omega) rfl
    obtain⟨h1,h2⟩:=ih i (fun j x hj hx=>h (j+1) x (by omega) (by simpa using hx)) (by
     rcases hs with h1|⟨x,h1,h2⟩
     ·left;simpa using h1
     ·right;exact⟨x,by simpa using h1,h2⟩)
    rw [List.takeWhile_cons,List.dropWhile_cons,hy]
    simp [h1,h2]
 obtain⟨h1,h2⟩:=key l i h hs
 unfold mixP Yaw
 rw [h1,h2]
theorem dropP_no {p:Int} {x:Ins} (h:p∉x.to):Q0 p x=x:=by unfold Q0;rw [if_neg h]
theorem mixP_same {p:Int} {l:List Ins} {i:Nat} {x:Ins} (h:l[i]? = some x) (hp:p∉x.to):mixP p l i=mixP p l (i+1):=by
 rw [←mixP_next h,dropP_no hp]
 apply List.ext_getElem?
 intro j
 by_cases e:i=j
 ·subst e
  rw [Jf (by rw [mixP_len];exact(Js.1 h).1),mixP_at h]
 ·rw [Je e]
structure WfB (n : Nat) (l : List Ins) : Prop where
 ne:l≠ []
 brif:∀x,x∈l→x.op=32→x.to.length=2∧x.args.length=1
 br:∀x,x∈l→x.op=31→x.to.length=1
 phi:PhiLen l
 to_:∀x,x∈l→∀t,t∈x.to→0≤t∧t<n
def Wf (bs:List (List Ins)):Prop:=∀l,l∈bs→WfB bs.length l
def setEnd (l:List Ins) (x:Ins):List Ins:=l.set (l.length - 1) x
def endI (bs:List (List Ins)) (b:Nat):Option Ins:=(bs[b]?).bind fun l=>l[l.length - 1]?
def brJ (t:Int):Ins:=⟨31, -1,0,0,0, [], [t]⟩
def twB (R:List Bool) (bs:List (List Ins)) (b:Nat):Bool:=R.getD b false&&match endI bs b with|some x=>decide (x.op=32)&&decide (x.to.getD 0 0=x.to.getD 1 0)|none=>false
def Ya9 (R:List Bool) (bs:List (List Ins)):Option (List (List Ins)):=((List.range bs.length).find? (twB R bs)).map fun b=>bs.set b (setEnd (bs.getD b []) (brJ (((endI bs b).map fun x=>x.to.getD 0 0).getD 0)))
theorem Qk {n i:Nat} {p:Nat→Bool} (hi:i<n) (hp:p i=true) (hno:∀j,j<i→p j=false):(List.range n).find? p=some i:=by
 rw [List.find?_range_eq_some]
 exact⟨hp,List.mem_range.2 hi,fun j hj=>by simp [hno j hj]⟩
theorem Zd {n:Nat} {p:Nat→Bool} (hno:∀j,j<n→p j=false):(List.range n).find? p=none:=by
 rw [List.find?_eq_none]
 intro j hj
 simp [hno j (List.mem_range.1 hj)]
theorem endI_at {bs:List (List Ins)} {b q:Nat} {l:List Ins} {x:Ins} (hb:bs[b]? = some l) (hq:l.length=q+1) (hx:l[q]? = some x):endI bs b=some x:=by
 unfold endI
 rw [hb]
 show l[l.length - 1]? = some x
 rw [hq,Nat.add_sub_cancel]
 exact hx
def dcB (R:List Bool) (bs:List (List Ins)) (b:Nat):Bool:=R.getD b false&&match endI bs b with|some x=>decide (x.op=32)&&decide ((x.args.getD 0 ⟨0,0,0⟩).kind=2)|none=>false
def Yad (x:Ins):Int×Int:=if (x.args.getD 0 ⟨0,0,0⟩).bits=1 then(x.to.getD 0 0,x.to.getD 1 0) else(x.to.getD 1 0,x.to.getD 0 0)
def loseB (p:Int) (bs:List (List Ins)) (b:Nat):List (List Ins):=bs.set b (Yaw p (bs.getD b []))
def decAt (bs:List (List Ins)) (b:Nat) (o:Int×Int):List (List Ins):=if o.2=o.1 then bs.set b (setEnd (bs.getD b []) (brJ o.1)) else loseB b (bs.set b (setEnd (bs.getD b []) (brJ o.1))) o.2.toNat
def Qe (R:List Bool) (bs:List (List Ins)):Option (List (List Ins)):=((List.range bs.length).find? (dcB R bs)).map fun b=>decAt bs b (((endI bs b).map Yad).getD (0,0))
theorem phiLen_setEnd {l:List Ins} {x:Ins} (h:PhiLen l) (hx:x.op≠25):PhiLen (setEnd l x):=fun y hy ho=>by
 rcases List.mem_or_eq_of_mem_set hy with h1|h1
 ·exact h y h1 ho
 ·rw [h1] at ho;exact(hx ho).elim
def patch (xs : List Value) : Nat → List Value → List Value
 | _, []=>xs
 | o,v :: r=>patch (xs.set o v) (o+1) r
theorem patch_eq : ∀ (vs : List Value) (xs : List Value) (o : Nat), o + vs.length ≤ xs.length → patch xs o vs = xs.take o ++ vs ++ xs.drop (o + vs.length)
 | [],xs,o,h=>by simp [patch]
 | v :: r,xs,o,h=>by
  simp only [List.length_cons] at h
  rw [patch,patch_eq r (xs.set o v) (o+1) (by rw [List.length_set];omega)]
  have h1:(xs.set o v).take (o+1)=xs.take o ++ [v]:=by
   apply List.ext_getElem?
   intro i
   rw [List.getElem?_take]
   by_cases hi:i<o+1
   ·rw [if_pos hi]
    by_cases e:i=o
    ·subst e
     rw [Jf (by omega),List.getElem?_append_right (by rw [List.length_take];omega),List.length_take,show i - min i xs.length=0 by omega]
     rfl
    ·rw [Je (Ne.symm e),List.getElem?_append_left (by rw [List.length_take];omega),List.getElem?_take,if_pos (by omega)]
   ·rw [if_neg hi,List.getElem?_eq_none (by simp;omega)]
  have h2:(xs.set o v).drop (o+1+r.length)=xs.drop (o+(r.length+1)):=by
   rw [List.drop_set_of_lt (by omega),show o+1+r.length=o+(r.length+1) by omega]
  rw [h1,h2]
  simp
theorem Zx {B : Nat} {T : TypeId} {s g n C : Nat} : ∀ (vs : List Value) (o : Nat) (w : World) (xs : List Value), w.ownsRow B T s (.slice (some ⟨g, 0, none⟩) n C) n xs → (w.setCells g o vs).ownsRow B T s (.slice (some ⟨g, 0, none⟩) n C) n (patch xs o vs)
 | [],o,w,xs,h=>h
 | v :: r,o,w,xs,h=>Zx r (o+1) _ _ (World.ownsRow.stored h o v).1
theorem Zn {S : Nat → Prop} {B g : Nat} {a : World} (hg : S g) : ∀ (vs : List Value) (o : Nat) (w : World), Only S B a w → Only S B a (w.setCells g o vs)
 | [],o,w,h=>h
 | v :: r,o,w,h=>Zn hg r (o+1) _ (h.setCell (p:=⟨g,o,none⟩) (.inl hg) v)
theorem Qi {w:World} {B:Nat} {T:TypeId} {s g n C:Nat} {xs:List Value} (h:w.ownsRow B T s (.slice (some ⟨g,0,none⟩) n C) n xs) {j:Nat} (hj:j<C*s):(w.cell? ⟨g,j,none⟩).isSome=true∧w.frozen? ⟨g,j,none⟩=false:=by
 refine⟨?_,World.ownsRow.frozenAt h j⟩
 rcases h.2 with⟨e, -⟩|⟨g',cap,cur,e, -,hh, -, -,hs, -⟩
 ·cases e
 ·cases e
  simp only [World.cell?,hh]
  rw [Array.getElem?_eq_getElem (by omega)]
  rfl
theorem patch_del {xs Z : List Value} {n s i : Nat} (hx : xs.length = n * s) (hi : i < n) (hz : Z.length = s) :
  patch (patch xs (i*s) (xs.drop ((i+1)*s))) ((n - 1)*s) Z=xs.take (i*s)++xs.drop ((i+1)*s)++Z:=by
 obtain⟨m,rfl⟩:∃m,n=i+1+m:=⟨n - (i+1),by omega⟩
 have e1:(i+1+m)*s=i*s+s+m*s:=by rw [Nat.add_mul,Nat.add_mul];omega
 have e2:(i+1+m - 1)*s=i*s+m*s:=by rw [show i+1+m - 1=i+m by omega,Nat.add_mul]
 have e3:(i+1)*s=i*s+s:=by rw [Nat.add_mul];omega
 rw [e1] at hx
 rw [e2,e3]
 have hd:(xs.drop (i*s+s)).length=m*s:=by rw [List.length_drop];omega
 rw [patch_eq (xs.drop (i*s+s)) xs (i*s) (by omega),hd]
 have ht:(xs.take (i*s)).length=i*s:=by rw [List.length_take];omega
 have hd2:(xs.drop (i*s+m*s)).length=s:=by rw [List.length_drop];omega
 generalize xs.take (i*s)=A at ht⊢
 generalize xs.drop (i*s+s)=D at hd⊢
 generalize xs.drop (i*s+m*s)=E at hd2⊢
 have hl:(A++D).length=i*s+m*s:=by rw [List.length_append];omega
 rw [patch_eq Z (A++D++E) _ (by rw [List.length_append];omega),List.take_left' hl,List.drop_eq_nil_of_le (by rw [List.length_append];omega),List.append_nil]
theorem run_clear_one {P : Program} (w : World) (t e ty : TypeId) (z : Value) (zs : List Value) (ht : P.underlying t = some (.slice e)) (hv : ∀ w, (zeroValue e).run P w = .ok z w) (hz : (Builtin.zeroCells z.cells 1).toList = zs) (h1 : ∀ v, v ∈ zs → v.oneCell' = true) (b o c : Nat)
  (hc:∀j,j<zs.length→(w.cell? ⟨b,o+j,none⟩).isSome=true) (hf:∀j,j<zs.length→w.frozen? ⟨b,o+j,none⟩=false) :
  (Builtin.clear_ #[t] ty #[.slice (some ⟨b,o,none⟩) 1 c]).run P w = .ok (.tuple #[]) (w.setCells b o zs):=by
 have hst:=run_storeCells_cells (P:=P) b o zs 0 w (by simpa using hc) (by simpa using hf) h1
 simp only [Nat.add_zero] at hst
 simp [Builtin.clear_,run_underlying ht,hv,hz,hst]
section
variable {P:Program} {ops:Array Oper} {Q:Exit→Act→World→Prop} {md:Region.Mode} {S:World→Prop} {T:Nat→Bool}
def Q1 (P : Program) (md : Region.Mode) (ops : Array Oper) (Q : Exit → Act → World → Prop) (S : World → Prop) (T : Nat → Bool) : Nat → Array Bool → Act → World → Prop
 | 0,listed,a,w=>Region.ready md ops listed = []∧Q .normal a w
 | fuel+1,listed,a,w =>
  (Region.ready md ops listed = []→Q .normal a w)∧
  ∀i∈Region.ready md ops listed,wpOp P ops Q i (fun a' w'=>(T i=true→S w')∧Q1 P md ops Q S T fuel (listed.setIfInBounds i true) a' w') a w
theorem wpAny_of_U : ∀ (fuel : Nat) (listed : Array Bool) (a : Act) (w : World), Q1 P md ops Q S T fuel listed a w → wpAny P md ops Q fuel listed a w
 | 0,_,_,_,h=>h
 | fuel+1,_,_,_,h=>⟨h.1,fun i hi=>wpOp_mono (fun a' w' h'=>wpAny_of_U fuel _ a' w' h'.2) (h.2 i hi)⟩
def Closed (md:Region.Mode) (ops:Array Oper) (listed:Array Bool):Prop:=∀(k:Nat) ok,ops[k]? = some ok→listed.getD k false=true→∀e∈ok.after,Region.binds md e=true→listed.getD e.on false=true
theorem Closed.next {listed:Array Bool} {j:Nat} (h:Closed md ops listed) (hj:j∈Region.ready md ops listed):Closed md ops (listed.setIfInBounds j true):=fun k ok hk hl e he hb=>by
 by_cases e2:j=k
 ·subst e2
  obtain⟨-,oj,hoj,hall⟩:=mem_ready.1 hj
  rw [hk] at hoj
  cases hoj
  exact getD_set_true (hall e he hb)
 ·rw [getD_set_ne false e2] at hl
  exact getD_set_true (h k ok hk hl e he hb)
def tabB (md : Region.Mode) (ops : Array Oper) (i : Nat) : Nat → List Bool
 | 0 => []
 | j + 1 => let t := tabB md ops i j
  t ++ [match ops[j]? with|some oj=>oj.after.any (fun e=>Region.binds md e&&(e.on==i||t.getD e.on false))|none=>false]
theorem tab_len (i : Nat) : ∀ j, (tabB md ops i j).length = j
 | 0=>rfl
 | j+1=>by
  show(tabB md ops i j ++ [_]).length=_
  rw [List.length_append,tab_len i j];rfl
theorem tab_wait {listed : Array Bool} {i : Nat} (hc : Closed md ops listed) : ∀ (n j : Nat), (tabB md ops i n).getD j false = true → listed.getD j false = true → listed.getD i false = true
 | 0,j,h,_=>by simp [tabB] at h
 | n+1,j,h,hl=>by
  change (tabB md ops i n ++ [_]).getD j false=true at h
  rw [Jq] at h
  rcases Nat.lt_or_ge j n with h1|h1
  ·rw [List.getElem?_append_left (by rw [tab_len]; exact h1), ← Jq] at h
   exact tab_wait hc n j h hl
  ·rw [List.getElem?_append_right (by rw [tab_len]; exact h1), tab_len] at h
   rcases Nat.eq_or_lt_of_le h1 with h2|h2
   ·subst h2
    rw [Nat.sub_self,List.getElem?_cons_zero,Option.getD_some] at h
    cases ho:ops[n]? with
    | none=>rw [ho] at h;cases h
    | some oj =>
     rw [ho] at h
     obtain⟨e,he,hb⟩:=Array.any_eq_true'.1 h
     rw [Bool.and_eq_true,Bool.or_eq_true] at hb
     have h3:=hc n oj ho hl e he hb.1
     rcases hb.2 with h4|h4
     ·rw [beq_iff_eq] at h4
      rw [←h4];exact h3
     ·exact tab_wait hc n e.on h4 h3
   ·obtain ⟨m, hm⟩ : ∃ m, j - n = m + 1 := ⟨j - n - 1, by omega⟩
    rw [hm] at h
    simp at h
theorem tab_ready {listed:Array Bool} {i j n:Nat} (hc:Closed md ops listed) (hj:j∈Region.ready md ops listed) (h:(tabB md ops i n).getD j false=true) (hne:i≠j):listed.getD i false=true:=by
 have h1:=tab_wait (hc.next hj) n j h (by
  obtain⟨h2, -⟩:=mem_ready.1 hj
  rcases Nat.lt_or_ge j listed.size with h'|h'
  ·simp [h']
  ·simp [Array.getElem?_eq_none h'] at h2)
 rwa [getD_set_ne false (Ne.symm hne)] at h1
theorem wpAnyU_first {i : Nat} {oi : Oper} {v : Value} (hi : ops[i]? = some oi) (hsel : ∀ (j : Nat) (o : Oper) cs b, ops[j]? = some o → o.op ≠ .select cs b)
  (hQ:∀c a w,Q (.panic c) (a.put oi.dst v) w→Q (.panic c) a w) :
  ∀(fuel:Nat) (listed:Array Bool) (a:Act) (w:World),Closed md ops listed→(∀j,listed.getD j true=false→j≠i→T j=true∨∃n,(tabB md ops i n).getD j false=true)→
   (∀j oj,ops[j]? = some oj→j≠i→listed.getD j true=false→(∀e∈oj.after,Region.binds md e=true→e.on≠i)→oi.apart ops oj=true)→
   i∈Region.ready md ops listed→YieldsIf P ops S oi v a→S w→
   Q1 P md ops Q S T fuel (listed.setIfInBounds i true) (a.put oi.dst v) w→Q1 P md ops Q S T (fuel+1) listed a w:=by
 intro fuel
 induction fuel with
 | zero =>
  intro listed a w hc hT _ hr hy hS H
  refine⟨fun h=>(by rw [h] at hr;cases hr),fun j hj => ?_⟩
  by_cases hji:j=i
  ·subst hji;exact hy.wpOp hi hS ⟨fun _=>hS,H⟩
  ·have := ready_mono hj hji
   rw [H.1] at this
   cases this
 | succ fuel ih =>
  intro listed a w hc hT hfree hr hy hS H
  refine⟨fun h=>(by rw [h] at hr;cases hr),fun j hj => ?_⟩
  by_cases hji:j=i
  ·subst hji;exact hy.wpOp hi hS ⟨fun _=>hS,H⟩
  ·have h1 := H.2 j (ready_mono hj hji)
   obtain⟨hjun,oj,hoj,hall⟩:=mem_ready.1 hj
   have hiun:¬listed.getD i false=true:=fun h1=>by
    have h0:=(mem_ready.1 hr).1
    rcases Nat.lt_or_ge i listed.size with h'|h'
    ·simp [h'] at h0 h1;rw [h0] at h1;cases h1
    ·simp [Array.getElem?_eq_none h'] at h1
   have hnot:∀e∈oj.after,Region.binds md e=true→e.on≠i:=fun e he hb heq=>hiun (by rw [←heq];exact hall e he hb)
   have hTj:T j=true:=by
    rcases hT j hjun hji with h2|⟨n,h2⟩
    ·exact h2
    ·exact absurd (tab_ready hc hj h2 (Ne.symm hji)) hiun
   have h2:=wpOp_putIf hoj (hfree j oj hoj hji hjun hnot) (fun cs b=>hsel i oi cs b hi) (fun cs b=>hsel j oj cs b hoj) hQ hy h1
   have hun2:∀k,(listed.setIfInBounds j true).getD k true=false→listed.getD k true=false:=fun k hun=>by
    by_cases hjk:j=k
    ·subst hjk;exact hjun
    ·rw [getD_set_ne true hjk] at hun;exact hun
   refine wpOp_mono (fun a' w' h3=>⟨h3.2.1,ih (listed.setIfInBounds j true) a' w' (hc.next hj) (fun k hk hki=>hT k (hun2 k hk) hki) (fun k ok hk hki hun hno=>hfree k ok hk hki (hun2 k hun) hno) (ready_mono hr (Ne.symm hji)) h3.1 (h3.2.1 hTj) ?_⟩) h2
   rw [Array.setIfInBounds_comm _ _ hji]
   exact h3.2.2
theorem wpAnyU_firstY {i : Nat} {oi : Oper} {v : Value} (hi : ops[i]? = some oi) (hsel : ∀ (j : Nat) (o : Oper) cs b, ops[j]? = some o → o.op ≠ .select cs b)
  (hQ:∀c a w,Q (.panic c) (a.put oi.dst v) w→Q (.panic c) a w) (hTi:T i=false) :
  ∀(fuel:Nat) (listed:Array Bool) (a:Act) (w:World),
   (∀j oj,ops[j]? = some oj→j≠i→listed.getD j true=false→(∀e∈oj.after,Region.binds md e=true→e.on≠i)→oi.apart ops oj=true)→
   i∈Region.ready md ops listed→YieldsIf P ops (fun _=>True) oi v a→
   Q1 P md ops Q S T fuel (listed.setIfInBounds i true) (a.put oi.dst v) w→Q1 P md ops Q S T (fuel+1) listed a w:=by
 intro fuel
 induction fuel with
 | zero =>
  intro listed a w _ hr hy H
  refine⟨fun h=>(by rw [h] at hr;cases hr),fun j hj => ?_⟩
  by_cases hji:j=i
  ·subst hji;exact hy.wpOp hi trivial ⟨fun h=>(by rw [hTi] at h;cases h),H⟩
  ·have := ready_mono hj hji
   rw [H.1] at this
   cases this
 | succ fuel ih =>
  intro listed a w hfree hr hy H
  refine⟨fun h=>(by rw [h] at hr;cases hr),fun j hj => ?_⟩
  by_cases hji:j=i
  ·subst hji;exact hy.wpOp hi trivial ⟨fun h=>(by rw [hTi] at h;cases h),H⟩
  ·have h1 := H.2 j (ready_mono hj hji)
   obtain⟨hjun,oj,hoj,hall⟩:=mem_ready.1 hj
   have hnot:∀e∈oj.after,Region.binds md e=true→e.on≠i:=fun e he hb heq=>by
    have h1:=hall e he hb
    have h0:=(mem_ready.1 hr).1
    rw [heq] at h1
    rcases Nat.lt_or_ge i listed.size with h'|h'
    ·simp [h'] at h0 h1;rw [h0] at h1;cases h1
    ·simp [Array.getElem?_eq_none h'] at h1
   have h2:=wpOp_putIf hoj (hfree j oj hoj hji hjun hnot) (fun cs b=>hsel i oi cs b hi) (fun cs b=>hsel j oj cs b hoj) hQ hy h1
   have hun2:∀k,(listed.setIfInBounds j true).getD k true=false→listed.getD k true=false:=fun k hun=>by
    by_cases hjk:j=k
    ·subst hjk;exact hjun
    ·rw [getD_set_ne true hjk] at hun;exact hun
   refine wpOp_mono (fun a' w' h3=>⟨h3.2.1,ih (listed.setIfInBounds j true) a' w' (fun k ok hk hki hun hno=>hfree k ok hk hki (hun2 k hun) hno) (ready_mono hr (Ne.symm hji)) h3.1 ?_⟩) h2
   rw [Array.setIfInBounds_comm _ _ hji]
   exact h3.2.2
def waitsB (md:Region.Mode) (ops:Array Oper) (listed:Array Bool) (T:Nat→Bool) (i:Nat):Bool :=
 let t:=tabB md ops i ops.size
 (List.range ops.size).all (fun j => listed.getD j true || T j || j == i || t.getD j false) && (listed.size == ops.size) &&
  (List.range ops.size).all fun k => !listed.getD k false||match ops[k]? with|some ok=>ok.after.all (fun e => !Region.binds md e||listed.getD e.on false)|none=>true
theorem waits_spec {listed:Array Bool} {i:Nat} (h:waitsB md ops listed T i=true):Closed md ops listed∧∀j,listed.getD j true=false→j≠i→T j=true∨∃n,(tabB md ops i n).getD j false=true:=by
 unfold waitsB at h
 simp only [Bool.and_eq_true,List.all_eq_true,List.mem_range,beq_iff_eq] at h
 obtain⟨⟨h1,h2⟩,h3⟩:=h
 refine⟨fun k ok hk hl e he hb => ?_,fun j hj hne => ?_⟩
 ·have h4 := h3 k (Array.getElem?_eq_some_iff.1 hk).1
  rw [hl,hk] at h4
  simp only [Bool.not_true,Bool.false_or] at h4
  have h5:=Array.all_eq_true'.1 h4 e he
  rw [hb] at h5
  simpa using h5
 ·have hjs:j<ops.size:=by
   rw [←h2]
   rcases Nat.lt_or_ge j listed.size with h'|h'
   ·exact h'
   ·simp [Array.getElem?_eq_none h'] at hj
  have h4:=h1 j hjs
  rw [hj] at h4
  simp only [Bool.false_or,Bool.or_eq_true,beq_iff_eq] at h4
  rcases h4 with(h4|h4)|h4
  ·exact .inl h4
  ·exact absurd h4 hne
  ·exact .inr ⟨_,h4⟩
theorem wpAnyU_take {i : Nat} {oi : Oper} {v : Value} {fuel : Nat} {listed : Array Bool} {a : Act} {w : World} (hi : ops[i]? = some oi)
  (hs:Region.noSelect ops=true) (hf:Region.free md ops listed i=true) (hr:(Region.ready md ops listed).contains i=true) (hT:waitsB md ops listed T i=true)
  (hQ:∀c a w,Q (.panic c) (a.put oi.dst v) w→Q (.panic c) a w) (hy:YieldsIf P ops S oi v a) (hS:S w)
  (h:Q1 P md ops Q S T fuel (listed.setIfInBounds i true) (a.put oi.dst v) w):Q1 P md ops Q S T (fuel+1) listed a w :=
 wpAnyU_first hi (Region.noSelect_spec hs) hQ fuel listed a w (waits_spec hT).1 (waits_spec hT).2 (Region.free_spec hi hf) (by simpa using hr) hy hS h
theorem wpAnyU_takeY {i : Nat} {oi : Oper} {v : Value} {fuel : Nat} {listed : Array Bool} {a : Act} {w : World} (hi : ops[i]? = some oi)
  (hs:Region.noSelect ops=true) (hf:Region.free md ops listed i=true) (hr:(Region.ready md ops listed).contains i=true) (hT:T i=false)
  (hQ:∀c a w,Q (.panic c) (a.put oi.dst v) w→Q (.panic c) a w) (hy:YieldsIf P ops (fun _=>True) oi v a)
  (h:Q1 P md ops Q S T fuel (listed.setIfInBounds i true) (a.put oi.dst v) w):Q1 P md ops Q S T (fuel+1) listed a w :=
 wpAnyU_firstY hi (Region.noSelect_spec hs) hQ hT fuel listed a w (Region.free_spec hi hf) (by simpa using hr) hy h
def Yt (P:Program) (md:Region.Mode) (ops:Array Oper) (Q:Exit→Act→World→Prop) (S:World→Prop) (T:Nat→Bool) (fuel:Nat) (listed:Array Bool) (a:Act) (w:World) (rs:List Nat):Prop :=
 ∀i∈rs,wpOp P ops Q i (fun a' w'=>(T i=true→S w')∧Q1 P md ops Q S T fuel (listed.setIfInBounds i true) a' w') a w
theorem Yt.nil {fuel:Nat} {listed:Array Bool} {a:Act} {w:World}:Yt P md ops Q S T fuel listed a w []:=fun _ h=>by cases h
theorem Yt.cons {fuel : Nat} {listed : Array Bool} {a : Act} {w : World} {i : Nat} {o : Oper} {rs : List Nat} (ho : ops[i]? = some o)
  (h:∀K':Act→World→Prop,Shut (∀a w,(T i=true→S w)→Q1 P md ops Q S T fuel (listed.setIfInBounds i true) a w→K' a w)→if Region.wanted o (yielded ops a.tmps)=true then Oper.wp P o a w K' Q else K' (a.put o.dst undef) w)
  (hs:Yt P md ops Q S T fuel listed a w rs):Yt P md ops Q S T fuel listed a w (i :: rs):=fun j hj=>by
 rcases List.mem_cons.1 hj with rfl|hj
 ·exact wpOp_step ho (fun K' hK=>h K' (fun a w hS hW=>hK a w ⟨hS,hW⟩))
 ·exact hs j hj
theorem Zp {rs : List Nat} {fuel : Nat} {listed : Array Bool} {a : Act} {w : World} (hr : Region.ready md ops listed = rs) (hne : rs ≠ [])
  (h:Yt P md ops Q S T fuel listed a w rs):Q1 P md ops Q S T (fuel+1) listed a w :=
 ⟨fun h0=>absurd (hr▸h0) hne,hr▸h⟩
theorem Yv {listed : Array Bool} {a : Act} {w : World} (hr : Region.ready md ops listed = []) (h : Q .normal a w) :
  ∀fuel,Q1 P md ops Q S T fuel listed a w
 | 0=>⟨hr,h⟩
 | _+1=>⟨fun _=>h,by rw [hr];simp⟩
theorem Y8 {id : Nat} {a : Act} {w : World} (hm : P.follows .mixedOrders = true)
  (h:Q1 P .any ops Q S T ops.size (Array.replicate ops.size false) a w.drew):(Code.region id ops true).wp P Q a w :=
 wp_region_any hm (wpAny_of_U _ _ _ _ h)
end
section
variable {P:Program} {md:Region.Mode} {ops:Array Oper} {Q:Exit→Act→World→Prop} {S:World→Prop} {T:Nat→Bool}
theorem Jt {i : Nat} {fuel : Nat} {listed : Array Bool} {a a' : Act} {w : World} (hS : S w) {oi : Oper} {v : Value}
  (h:Q1 P md ops Q S T fuel (listed.setIfInBounds i true) a' w) (hi:ops[i]? = some oi:=by(simp only [List.getElem?_toArray,List.getElem?_cons_succ,List.getElem?_cons_zero];rfl))
  (hs:Region.noSelect ops=true:=by kernel_rfl) (hf:Region.free md ops listed i=true:=by kernel_rfl) (hr:(Region.ready md ops listed).contains i=true:=by kernel_rfl) (hT:waitsB md ops listed T i=true:=by kernel_rfl)
  (hQ:∀c a w,Q (.panic c) (a.put oi.dst v) w→Q (.panic c) a w:=by exact fun _ _ _ h=>h) (hy:YieldsIf P ops S oi v a:=by(refine Or.inl ⟨by rfl,?_⟩;intro w9 hSw;go_simp;all_goals with_reducible rfl)) (ha:a.put oi.dst v=a':=by((try simp only [Act.put,List.setIfInBounds_toArray,List.set_cons_zero,List.set_cons_succ])<;>exact rfl)):Q1 P md ops Q S T (fuel+1) listed a w :=
 wpAnyU_take hi hs hf hr hT hQ hy hS (ha▸h)
theorem Jy {i : Nat} {fuel : Nat} {listed : Array Bool} {a a' : Act} {w : World} {oi : Oper} {v : Value}
  (h:Q1 P md ops Q S T fuel (listed.setIfInBounds i true) a' w) (hi:ops[i]? = some oi:=by(simp only [List.getElem?_toArray,List.getElem?_cons_succ,List.getElem?_cons_zero];rfl))
  (hs:Region.noSelect ops=true:=by kernel_rfl) (hf:Region.free md ops listed i=true:=by kernel_rfl) (hr:(Region.ready md ops listed).contains i=true:=by kernel_rfl) (hT:T i=false:=by rfl)
  (hQ:∀c a w,Q (.panic c) (a.put oi.dst v) w→Q (.panic c) a w:=by exact fun _ _ _ h=>h) (hy:YieldsIf P ops (fun _=>True) oi v a:=by(refine Or.inl ⟨by rfl,?_⟩;intro w9 hSw;go_simp;all_goals with_reducible rfl)) (ha:a.put oi.dst v=a':=by((try simp only [Act.put,List.setIfInBounds_toArray,List.set_cons_zero,List.set_cons_succ])<;>exact rfl)):Q1 P md ops Q S T (fuel+1) listed a w :=
 wpAnyU_takeY hi hs hf hr hT hQ hy (ha▸h)
theorem Jo {p:Prop} {fuel:Nat} {listed:Array Bool} {a a':Act} {w:World} {K:Act→World→Prop} (hK:Shut (∀a w,(p→S w)→Q1 P md ops Q S T fuel listed a w→K a w)) (hs:p→S w) (h:Q1 P md ops Q S T fuel listed a' w) (ha:a=a':=by((try simp only [Act.put,List.setIfInBounds_toArray,List.set_cons_zero,List.set_cons_succ])<;>exact rfl)):K a w:=hK.out _ _ hs (ha▸h)
theorem Jr {i : Nat} {o : Oper} {fuel : Nat} {listed : Array Bool} {a : Act} {w : World}
  (h:∀K':Act→World→Prop,Shut (∀a w,(T i=true→S w)→Q1 P md ops Q S T fuel (listed.setIfInBounds i true) a w→K' a w)→if Region.wanted o (yielded ops a.tmps)=true then Oper.wp P o a w K' Q else K' (a.put o.dst undef) w)
  (ho:ops[i]? = some o:=by(simp only [List.getElem?_toArray,List.getElem?_cons_succ,List.getElem?_cons_zero];rfl)) (hr:Region.ready md ops listed = [i]:=by kernel_rfl):Q1 P md ops Q S T (fuel+1) listed a w :=
 Zp hr (by simp) (Yt.cons ho h Yt.nil)
end

def DelPost (T:TypeId) (s g n C i B:Nat) (xs Z:List Value) (w:World) (e:Ending) (w':World):Prop:=e = .returned (.slice (some ⟨g,0,none⟩) (n - 1) C)∧w'.ownsRow B T s (.slice (some ⟨g,0,none⟩) n C) n (xs.take (i*s)++xs.drop ((i+1)*s)++Z)∧Only (fun k=>k=g) w.heap.size w w'
theorem zero_delete_ints (w:World):(zeroValue 3).run Tryz.prog w = .ok (.int .i64 0) w:=by kernel_rfl
theorem delete_ints (g n C i B : Nat) (xs : List Value) (w : World) (h : w.ownsRow B 3 1 (.slice (some ⟨g, 0, none⟩) n C) n xs) (j : Nat) (hj : j = i + 1) (hi : i < n) (hone : ∀ u, u ∈ xs → u.oneCell' = true) :
  Calls Tryz.prog 100 #[.slice (some ⟨g,0,none⟩) n C, .int .i64 i, .int .i64 j] w (DelPost 3 1 g n C i B xs [.int .i64 0] w):=by
 obtain⟨i0,hi0,hz0,hz1,hz2⟩:=Yh Z5
 refine hd2 hi0 hz1 ?_;clear hi0 hz1;intro hi0 hz1
 obtain⟨hgB,hgw, -⟩:=Ya h rfl
 have hC:n≤C∧C≤9223372036854775807:=by
  rcases h.2 with⟨e, -⟩|⟨g',cap,cur,e, -, -,h1,h2, -⟩
  ·cases e
  ·cases e;exact⟨h1,h2⟩
 obtain⟨hnC,hCm⟩:=hC
 have hxl:=h.1
 obtain⟨news,hnews⟩:=Jn (xs.drop ((i+1)*1))
 have hn:Hid (news.length=(n - j)*1):=hide (by rw [hnews.out,List.length_drop];omega)
 have hn1:Hid (∀u∈news,u.oneCell'=true):=hide (fun u hu=>hone u (by rw [hnews.out] at hu;exact List.mem_of_mem_drop hu))
 obtain⟨U,hUe⟩:∃U,Hid (w.drew=U):=⟨_,hide rfl⟩
 have hU:Hid (U=U):=hide rfl
 have hrU:Hid (U.ownsRow B 3 1 (.slice (some ⟨g,0,none⟩) n C) n xs):=hide (by rw [←hUe.out];exact h)
 have hoU:Hid (Only (fun k=>k=g) w.heap.size w U):=hide (by rw [←hUe.out];exact(Only.refl _ _ _).drew)
 obtain⟨A,hA,hA2⟩:∃A:Addr,(if C=j then(some ⟨g,0,none⟩:Option Addr) else some ⟨g,j,none⟩)=some A∧Hid (∀t u,news[t]? = some u→U.cell? (A.add t)=some u):=by
  by_cases hc:C=j
  ·refine ⟨⟨g, 0, none⟩, by rw [if_pos hc], hide fun t u hu => ?_⟩
   have h1:=(Js.1 hu).1
   have h2:=hn.out
   have h3:n - j=0:=by omega
   rw [h3] at h2
   omega
  ·refine ⟨⟨g, j, none⟩, by rw [if_neg hc], hide fun t u hu => ?_⟩
   have h1:=(Js.1 hu).1
   have h2:=hn.out
   have ha:(⟨g,j,none⟩:Addr).add t=⟨g,j+t,none⟩:=by unfold Addr.add;split<;>simp_all
   rw [ha,World.ownsRow.cellAt hrU.out (j+t) (by omega)]
   rw [hnews.out,List.getElem?_drop] at hu
   rw [hj]
   simpa using hu
 have hsp:Hid (∀j,j<news.length→(U.cell? ⟨g,0+i*1+j,none⟩).isSome=true∧U.frozen? ⟨g,0+i*1+j,none⟩=false):=hide (fun q hq=>by
  have h2:=hn.out
  rw [Nat.zero_add]
  exact Qi hrU.out (by omega))
 obtain⟨V,hV⟩:∃V,Hid (U.setCells g (0+i*1) news=V):=⟨_,hide rfl⟩
 have hrV:Hid (V.ownsRow B 3 1 (.slice (some ⟨g,0,none⟩) n C) n (patch xs (i) news)):=hide (by
  have h9:=Zx news (0+i*1) _ _ hrU.out
  rw [hV.out] at h9
  simpa only [Nat.zero_add,Nat.mul_one] using h9)
 have hoV:Hid (Only (fun k=>k=g) w.heap.size w V):=hide (by rw [←hV.out];exact Zn (S:=fun k=>k=g) rfl _ _ _ hoU.out)
 have hcl:∀ty,(Builtin.clear_ #[29] ty #[.slice (some ⟨g,(i+(n - j)),none⟩) 1 (C - (i+(n - j)))]).run Tryz.prog V = .ok (.tuple #[]) (V.setCells g ((i+(n - j))) [.int .i64 0]):=fun ty =>
  run_clear_one V _ _ ty _ [.int .i64 0] Tryz.underlying29 zero_delete_ints (by kernel_rfl) (by simp [Value.oneCell']) g _ _ (fun j hj=>(Qi hrV.out (by simp at hj;omega)).1) (fun j hj=>(Qi hrV.out (by simp at hj;omega)).2)
 have hfin:Hid (DelPost 3 1 g n C i B xs [.int .i64 0] w (.returned (.slice (some ⟨g,0,none⟩) (i+(n - j)) C)) (V.setCells g ((i+(n - j))) [.int .i64 0])):=hide (by
  refine⟨by rw [show i+(n - j)=n - 1 by omega],?_,Zn (S:=fun k=>k=g) rfl _ _ _ hoV.out⟩
  have h1:=Zx [.int .i64 0] ((i+(n - j))) _ _ hrV.out
  rw [hnews.out] at h1
  rw [show i+(n - j)=n - 1 by omega] at h1⊢
  rw [←patch_del (Z := [.int .i64 0]) hxl hi rfl]
  simp only [Nat.mul_one] at h1⊢
  exact h1)
 have hne2:((i:Int)==(j:Int))=false:=by rw [beq_eq_false_iff_ne];omega
 have hiC:i≤C:=by omega
 have hi1:j≤n:=by omega
 have hi2:j≤C:=by omega
 have hi3:i≤j:=by omega
 have hi4:i+(n - j)≤n:=by omega
 have hi5:n - (i+(n - j))=1:=by omega
 have hi7:¬(C=i+(n - j)):=by omega
 replace hj:=hide hj
 clear h hxl hone
 go_enter Tryz.func100,Tryz.ntmps100
 go_upto_region 5 with(fail)
 refine Y8 (S:=fun u=>u=U) (T:=fun j=>decide (j<6)) (by kernel_rfl) ?_
 rw [hUe.out]
 refine Jt (i:=0) hU.out ?_
 refine Jt (i:=1) hU.out ?_
 refine Jt (i:=2) hU.out ?_
 refine Jt (i:=3) hU.out ?_
 refine Jt (i:=4) hU.out ?_
 refine Jt (i:=5) hU.out ?_
 refine Jr (i:=6) fun K hK => ?_
 refine step_append_room rfl (.tmp 22) (.tmp 25) 29 rfl 3 i0 1 Tryz.underlying29 hi0.out hz1.out g 0 i C (by simp [Act.eval,Act.put]) A (n - j) (C - j) news (by simp [Act.eval,Act.put]) hn.out (hA2.out) hn1.out (by omega) hsp.out ?_
 rw [hV.out]
 refine Jo hK (fun h=>absurd h (by decide)) ?_;clear hK K
 refine Jy (i:=7) ?_
 refine Yv (by kernel_rfl) ?_ _
 go_wp2
 go_ret
 exact hfin.out
theorem zero_delete_opds (w:World):(zeroValue 62).run Tryz.prog w = .ok (.agg #[.int .i64 0, .int .i64 0, .int .u64 0]) w:=by kernel_rfl
theorem delete_opds (g n C i B : Nat) (xs : List Value) (w : World) (h : w.ownsRow B 62 3 (.slice (some ⟨g, 0, none⟩) n C) n xs) (j : Nat) (hj : j = i + 1) (hi : i < n) (hone : ∀ u, u ∈ xs → u.oneCell' = true) :
  Calls Tryz.prog 101 #[.slice (some ⟨g,0,none⟩) n C, .int .i64 i, .int .i64 j] w (DelPost 62 3 g n C i B xs [.int .i64 0, .int .i64 0, .int .u64 0] w):=by
 obtain⟨i0,hi0,hz0,hz1,hz2⟩:=Yh Q8
 refine hd2 hi0 hz1 ?_;clear hi0 hz1;intro hi0 hz1
 obtain⟨hgB,hgw, -⟩:=Ya h rfl
 have hC:n≤C∧C≤9223372036854775807:=by
  rcases h.2 with⟨e, -⟩|⟨g',cap,cur,e, -, -,h1,h2, -⟩
  ·cases e
  ·cases e;exact⟨h1,h2⟩
 obtain⟨hnC,hCm⟩:=hC
 have hxl:=h.1
 obtain⟨news,hnews⟩:=Jn (xs.drop ((i+1)*3))
 have hn:Hid (news.length=(n - j)*3):=hide (by rw [hnews.out,List.length_drop];omega)
 have hn1:Hid (∀u∈news,u.oneCell'=true):=hide (fun u hu=>hone u (by rw [hnews.out] at hu;exact List.mem_of_mem_drop hu))
 obtain⟨U,hUe⟩:∃U,Hid (w.drew=U):=⟨_,hide rfl⟩
 have hU:Hid (U=U):=hide rfl
 have hrU:Hid (U.ownsRow B 62 3 (.slice (some ⟨g,0,none⟩) n C) n xs):=hide (by rw [←hUe.out];exact h)
 have hoU:Hid (Only (fun k=>k=g) w.heap.size w U):=hide (by rw [←hUe.out];exact(Only.refl _ _ _).drew)
 obtain⟨A,hA,hA2⟩:∃A:Addr,(if C=j then(some ⟨g,0,none⟩:Option Addr) else some ⟨g,j*3,none⟩)=some A∧Hid (∀t u,news[t]? = some u→U.cell? (A.add t)=some u):=by
  by_cases hc:C=j
  ·refine ⟨⟨g, 0, none⟩, by rw [if_pos hc], hide fun t u hu => ?_⟩
   have h1:=(Js.1 hu).1
   have h2:=hn.out
   have h3:n - j=0:=by omega
   rw [h3] at h2
   omega
  ·refine ⟨⟨g, j * 3, none⟩, by rw [if_neg hc], hide fun t u hu => ?_⟩
   have h1:=(Js.1 hu).1
   have h2:=hn.out
   have ha:(⟨g,j*3,none⟩:Addr).add t=⟨g,j*3+t,none⟩:=by unfold Addr.add;split<;>simp_all
   rw [ha,World.ownsRow.cellAt hrU.out (j*3+t) (by omega)]
   rw [hnews.out,List.getElem?_drop] at hu
   rw [hj]
   simpa using hu
 have hsp:Hid (∀j,j<news.length→(U.cell? ⟨g,0+i*3+j,none⟩).isSome=true∧U.frozen? ⟨g,0+i*3+j,none⟩=false):=hide (fun q hq=>by
  have h2:=hn.out
  rw [Nat.zero_add]
  exact Qi hrU.out (by omega))
 obtain⟨V,hV⟩:∃V,Hid (U.setCells g (0+i*3) news=V):=⟨_,hide rfl⟩
 have hrV:Hid (V.ownsRow B 62 3 (.slice (some ⟨g,0,none⟩) n C) n (patch xs (i*3) news)):=hide (by
  have h9:=Zx news (0+i*3) _ _ hrU.out
  rw [hV.out] at h9
  simpa only [Nat.zero_add,Nat.mul_one] using h9)
 have hoV:Hid (Only (fun k=>k=g) w.heap.size w V):=hide (by rw [←hV.out];exact Zn (S:=fun k=>k=g) rfl _ _ _ hoU.out)
 have hcl:∀ty,(Builtin.clear_ #[42] ty #[.slice (some ⟨g,(i+(n - j))*3,none⟩) 1 (C - (i+(n - j)))]).run Tryz.prog V = .ok (.tuple #[]) (V.setCells g ((i+(n - j))*3) [.int .i64 0, .int .i64 0, .int .u64 0]):=fun ty =>
  run_clear_one V _ _ ty _ [.int .i64 0, .int .i64 0, .int .u64 0] Tryz.underlying42 zero_delete_opds (by kernel_rfl) (by simp [Value.oneCell']) g _ _ (fun j hj=>(Qi hrV.out (by simp at hj;omega)).1) (fun j hj=>(Qi hrV.out (by simp at hj;omega)).2)
 have hfin:Hid (DelPost 62 3 g n C i B xs [.int .i64 0, .int .i64 0, .int .u64 0] w (.returned (.slice (some ⟨g,0,none⟩) (i+(n - j)) C)) (V.setCells g ((i+(n - j))*3) [.int .i64 0, .int .i64 0, .int .u64 0])):=hide (by
  refine⟨by rw [show i+(n - j)=n - 1 by omega],?_,Zn (S:=fun k=>k=g) rfl _ _ _ hoV.out⟩
  have h1:=Zx [.int .i64 0, .int .i64 0, .int .u64 0] ((i+(n - j))*3) _ _ hrV.out
  rw [hnews.out] at h1
  rw [show i+(n - j)=n - 1 by omega] at h1⊢
  rw [←patch_del (Z := [.int .i64 0, .int .i64 0, .int .u64 0]) hxl hi rfl]
  exact h1)
 have hne2:((i:Int)==(j:Int))=false:=by rw [beq_eq_false_iff_ne];omega
 have hiC:i≤C:=by omega
 have hi1:j≤n:=by omega
 have hi2:j≤C:=by omega
 have hi3:i≤j:=by omega
 have hi4:i+(n - j)≤n:=by omega
 have hi5:n - (i+(n - j))=1:=by omega
 have hi7:¬(C=i+(n - j)):=by omega
 replace hj:=hide hj
 clear h hxl hone
 go_enter Tryz.func101,Tryz.ntmps101
 go_upto_region 5 with(fail)
 refine Y8 (S:=fun u=>u=U) (T:=fun j=>decide (j<6)) (by kernel_rfl) ?_
 rw [hUe.out]
 refine Jt (i:=0) hU.out ?_
 refine Jt (i:=1) hU.out ?_
 refine Jt (i:=2) hU.out ?_
 refine Jt (i:=3) hU.out ?_
 refine Jt (i:=4) hU.out ?_
 refine Jt (i:=5) hU.out ?_
 refine Jr (i:=6) fun K hK => ?_
 refine step_append_room rfl (.tmp 22) (.tmp 25) 42 rfl 62 i0 3 Tryz.underlying42 hi0.out hz1.out g 0 i C (by simp [Act.eval,Act.put]) A (n - j) (C - j) news (by simp [Act.eval,Act.put]) hn.out (hA2.out) hn1.out (by omega) hsp.out ?_
 rw [hV.out]
 refine Jo hK (fun h=>absurd h (by decide)) ?_;clear hK K
 refine Jy (i:=7) ?_
 refine Yv (by kernel_rfl) ?_ _
 go_wp2
 go_ret
 exact hfin.out
theorem zero_delete_ins (w:World):(zeroValue 44).run Tryz.prog w = .ok (.agg #[.int .i64 0, .int .i64 0, .int .i64 0, .int .i64 0, .int .i64 0, .slice none 0 0, .slice none 0 0]) w:=by kernel_rfl
theorem delete_ins (g n C i B : Nat) (xs : List Value) (w : World) (h : w.ownsRow B 44 7 (.slice (some ⟨g, 0, none⟩) n C) n xs) (j : Nat) (hj : j = i + 1) (hi : i < n) (hone : ∀ u, u ∈ xs → u.oneCell' = true) :
  Calls Tryz.prog 58 #[.slice (some ⟨g,0,none⟩) n C, .int .i64 i, .int .i64 j] w (DelPost 44 7 g n C i B xs [.int .i64 0, .int .i64 0, .int .i64 0, .int .i64 0, .int .i64 0, .slice none 0 0, .slice none 0 0] w):=by
 obtain⟨i0,hi0,hz0,hz1,hz2⟩:=Yh Ya5
 refine hd2 hi0 hz1 ?_;clear hi0 hz1;intro hi0 hz1
 obtain⟨hgB,hgw, -⟩:=Ya h rfl
 have hC:n≤C∧C≤9223372036854775807:=by
  rcases h.2 with⟨e, -⟩|⟨g',cap,cur,e, -, -,h1,h2, -⟩
  ·cases e
  ·cases e;exact⟨h1,h2⟩
 obtain⟨hnC,hCm⟩:=hC
 have hxl:=h.1
 obtain⟨news,hnews⟩:=Jn (xs.drop ((i+1)*7))
 have hn:Hid (news.length=(n - j)*7):=hide (by rw [hnews.out,List.length_drop];omega)
 have hn1:Hid (∀u∈news,u.oneCell'=true):=hide (fun u hu=>hone u (by rw [hnews.out] at hu;exact List.mem_of_mem_drop hu))
 obtain⟨U,hUe⟩:∃U,Hid (w.drew=U):=⟨_,hide rfl⟩
 have hU:Hid (U=U):=hide rfl
 have hrU:Hid (U.ownsRow B 44 7 (.slice (some ⟨g,0,none⟩) n C) n xs):=hide (by rw [←hUe.out];exact h)
 have hoU:Hid (Only (fun k=>k=g) w.heap.size w U):=hide (by rw [←hUe.out];exact(Only.refl _ _ _).drew)
 obtain⟨A,hA,hA2⟩:∃A:Addr,(if C=j then(some ⟨g,0,none⟩:Option Addr) else some ⟨g,j*7,none⟩)=some A∧Hid (∀t u,news[t]? = some u→U.cell? (A.add t)=some u):=by
  by_cases hc:C=j
  ·refine ⟨⟨g, 0, none⟩, by rw [if_pos hc], hide fun t u hu => ?_⟩
   have h1:=(Js.1 hu).1
   have h2:=hn.out
   have h3:n - j=0:=by omega
   rw [h3] at h2
   omega
  ·refine ⟨⟨g, j * 7, none⟩, by rw [if_neg hc], hide fun t u hu => ?_⟩
   have h1:=(Js.1 hu).1
   have h2:=hn.out
   have ha:(⟨g,j*7,none⟩:Addr).add t=⟨g,j*7+t,none⟩:=by unfold Addr.add;split<;>simp_all
   rw [ha,World.ownsRow.cellAt hrU.out (j*7+t) (by omega)]
   rw [hnews.out,List.getElem?_drop] at hu
   rw [hj]
   simpa using hu
 have hsp:Hid (∀j,j<news.length→(U.cell? ⟨g,0+i*7+j,none⟩).isSome=true∧U.frozen? ⟨g,0+i*7+j,none⟩=false):=hide (fun q hq=>by
  have h2:=hn.out
  rw [Nat.zero_add]
  exact Qi hrU.out (by omega))
 obtain⟨V,hV⟩:∃V,Hid (U.setCells g (0+i*7) news=V):=⟨_,hide rfl⟩
 have hrV:Hid (V.ownsRow B 44 7 (.slice (some ⟨g,0,none⟩) n C) n (patch xs (i*7) news)):=hide (by
  have h9:=Zx news (0+i*7) _ _ hrU.out
  rw [hV.out] at h9
  simpa only [Nat.zero_add,Nat.mul_one] using h9)
 have hoV:Hid (Only (fun k=>k=g) w.heap.size w V):=hide (by rw [←hV.out];exact Zn (S:=fun k=>k=g) rfl _ _ _ hoU.out)
 have hcl:∀ty,(Builtin.clear_ #[39] ty #[.slice (some ⟨g,(i+(n - j))*7,none⟩) 1 (C - (i+(n - j)))]).run Tryz.prog V = .ok (.tuple #[]) (V.setCells g ((i+(n - j))*7) [.int .i64 0, .int .i64 0, .int .i64 0, .int .i64 0, .int .i64 0, .slice none 0 0, .slice none 0 0]):=fun ty =>
  run_clear_one V _ _ ty _ [.int .i64 0, .int .i64 0, .int .i64 0, .int .i64 0, .int .i64 0, .slice none 0 0, .slice none 0 0] Tryz.underlying39 zero_delete_ins (by kernel_rfl) (by simp [Value.oneCell']) g _ _ (fun j hj=>(Qi hrV.out (by simp at hj;omega)).1) (fun j hj=>(Qi hrV.out (by simp at hj;omega)).2)
 have hfin:Hid (DelPost 44 7 g n C i B xs [.int .i64 0, .int .i64 0, .int .i64 0, .int .i64 0, .int .i64 0, .slice none 0 0, .slice none 0 0] w (.returned (.slice (some ⟨g,0,none⟩) (i+(n - j)) C)) (V.setCells g ((i+(n - j))*7) [.int .i64 0, .int .i64 0, .int .i64 0, .int .i64 0, .int .i64 0, .slice none 0 0, .slice none 0 0])):=hide (by
  refine⟨by rw [show i+(n - j)=n - 1 by omega],?_,Zn (S:=fun k=>k=g) rfl _ _ _ hoV.out⟩
  have h1:=Zx [.int .i64 0, .int .i64 0, .int .i64 0, .int .i64 0, .int .i64 0, .slice none 0 0, .slice none 0 0] ((i+(n - j))*7) _ _ hrV.out
  rw [hnews.out] at h1
  rw [show i+(n - j)=n - 1 by omega] at h1⊢
  rw [←patch_del (Z := [.int .i64 0, .int .i64 0, .int .i64 0, .int .i64 0, .int .i64 0, .slice none 0 0, .slice none 0 0]) hxl hi rfl]
  exact h1)
 have hne2:((i:Int)==(j:Int))=false:=by rw [beq_eq_false_iff_ne];omega
 have hiC:i≤C:=by omega
 have hi1:j≤n:=by omega
 have hi2:j≤C:=by omega
 have hi3:i≤j:=by omega
 have hi4:i+(n - j)≤n:=by omega
 have hi5:n - (i+(n - j))=1:=by omega
 have hi7:¬(C=i+(n - j)):=by omega
 replace hj:=hide hj
 clear h hxl hone
 go_enter Tryz.func58,Tryz.ntmps58
 go_upto_region 5 with(fail)
 refine Y8 (S:=fun u=>u=U) (T:=fun j=>decide (j<6)) (by kernel_rfl) ?_
 rw [hUe.out]
 refine Jt (i:=0) hU.out ?_
 refine Jt (i:=1) hU.out ?_
 refine Jt (i:=2) hU.out ?_
 refine Jt (i:=3) hU.out ?_
 refine Jt (i:=4) hU.out ?_
 refine Jt (i:=5) hU.out ?_
 refine Jr (i:=6) fun K hK => ?_
 refine step_append_room rfl (.tmp 22) (.tmp 25) 39 rfl 44 i0 7 Tryz.underlying39 hi0.out hz1.out g 0 i C (by simp [Act.eval,Act.put]) A (n - j) (C - j) news (by simp [Act.eval,Act.put]) hn.out (hA2.out) hn1.out (by omega) hsp.out ?_
 rw [hV.out]
 refine Jo hK (fun h=>absurd h (by decide)) ?_;clear hK K
 refine Jy (i:=7) ?_
 refine Yv (by kernel_rfl) ?_ _
 go_wp2
 go_ret
 exact hfin.out
end Go.Proofs.YtamjcafjdioidaaGreat
