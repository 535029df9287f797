/- Texts of the chain, without what is not wanted: Cq, Mt. No condition but sizes. -/
import Derived.Test.YtamjcafjdioidaaGreatUw01
set_option linter.unusedVariables false
set_option linter.unusedSimpArgs false
set_option maxRecDepth 100000
set_option maxHeartbeats 12800000
namespace Go.Proofs.YtamjcafjdioidaaGreat
open Go.RowKit
theorem Ya {w:World} {base:Nat} {e:TypeId} {size:Nat} {v:Value} {n:Nat} {xs:List Value} {k:Nat} (h:w.ownsRow base e size v n xs) (hk:v.ownBlock=some k):base≤k∧k<w.heap.size∧∃c,w.heap[k]? = some (.cells c e (0,0)):=by
 rcases h.2 with⟨rfl,_⟩|⟨B,C,cur,rfl,hb,hB,_⟩
 ·cases hk
 ·cases hk;exact⟨hb,(Array.getElem?_eq_some_iff.1 hB).1,cur,hB⟩
theorem Yc {w w':World} {base:Nat} {e:TypeId} {size:Nat} {v:Value} {n:Nat} {xs:List Value} (h:w.ownsRow base e size v n xs) (hk:∀k,v.ownBlock=some k→w'.heap[k]? = w.heap[k]?):w'.ownsRow base e size v n xs:=by
 refine⟨h.1,?_⟩
 rcases h.2 with hn|⟨g,cap,cur,rfl,hb,hgg,rest⟩
 ·exact .inl hn
 ·exact .inr ⟨g,cap,cur,rfl,hb,(hk g rfl).trans hgg,rest⟩
theorem Zf {w:World} {b b':Nat} {e:TypeId} {size:Nat} {v:Value} {n:Nat} {xs:List Value} (h:w.ownsRow b e size v n xs) (hb:b'≤b):w.ownsRow b' e size v n xs:=by
 refine⟨h.1,?_⟩
 rcases h.2 with h1|⟨g,cap,cur,e,h1,rest⟩
 ·exact .inl h1
 ·exact .inr ⟨g,cap,cur,e,Nat.le_trans hb h1,rest⟩
theorem Yd {w:World} {b:Nat} {e:TypeId} {size:Nat} {v:Value} {n:Nat} {xs:List Value} (h:w.ownsRow b e size v n xs):∃A C,v = .slice A n C:=by
 rcases h.2 with⟨e,h0⟩|⟨g,c,cur,e,_⟩
 ·exact⟨none,0,by rw [e,h0]⟩
 ·exact⟨_,c,e⟩
def But (T:TypeId) (w w':World):Prop:=∀(k:Nat) (c:Array Value) (t:TypeId) (f:Nat×Nat),w.heap[k]? = some (Obj.cells c t f)→t≠T→w'.heap[k]? = w.heap[k]?
theorem But.grown {w w':World} {B:Nat} {T:TypeId} {n m:Nat} {v:Value} {xs:List Value} {o:Obj} (h:w.ownsRow B T n v m xs) (hg:(w.alloc o).grownBy w' v.ownBlock):But T w w':=fun k c t f hk ht=>by
 have hlt:=(Array.getElem?_eq_some_iff.1 hk).1
 rw [hg.block k (by simp;omega) (fun e => ?_)]
 ·exact Below.heap_alloc w o k hlt
 ·obtain ⟨-, -, c', h1⟩ := Ya h e.symm
  rw [hk] at h1
  injection h1 with h1
  injection h1 with _ h2
  exact ht h2
theorem But.row {w w':World} {T:TypeId} {base:Nat} {e:TypeId} {size:Nat} {v:Value} {n:Nat} {xs:List Value} (hb:But T w w') (he:e≠T) (h:w.ownsRow base e size v n xs):w'.ownsRow base e size v n xs:=Yc h fun k hk=>by
 obtain⟨-, -,c,h1⟩:=Ya h hk
 exact hb k c e _ h1 he
def oc (x:Opd):List Value := [.int .i64 x.kind, .int .i64 x.num, .int .u64 x.bits]
theorem oc_len (l:List Opd):(l.flatMap oc).length=l.length*3:=by
 induction l with
 | nil=>rfl
 | cons x l ih=>rw [List.flatMap_cons,List.length_append,ih,List.length_cons];show 3+_=_;omega
theorem oc_get : ∀ (l : List Opd) (m : Nat), (l.flatMap oc)[m]? = (l[m / 3]?).bind fun b => (oc b)[m % 3]?
 | [],m=>by simp
 | b :: l,m=>by
  have e3:(oc b).length=3:=rfl
  rw [List.flatMap_cons]
  rcases Nat.lt_or_ge m 3 with h|h
  ·rw [List.getElem?_append_left (by rw [e3];exact h),Nat.div_eq_of_lt h,Nat.mod_eq_of_lt h];rfl
  ·rw [List.getElem?_append_right (by rw [e3]; exact h), e3, oc_get l (m - 3)]
   obtain⟨n,rfl⟩:∃n,m=n+3:=⟨m - 3,by omega⟩
   rw [show(n+3) / 3=n / 3+1 by omega,show(n+3) % 3=n % 3 by omega,Nat.add_sub_cancel,List.getElem?_cons_succ]
structure OwnI (w : World) (B : Nat) (v : Value) (l : List Int) : Prop where
 row:w.ownsRow B 3 1 v l.length (l.map fun z=>Value.int .i64 z)
 ok:∀x,x∈l→I64 x
structure OwnV (w : World) (B : Nat) (v : Value) (l : List Opd) : Prop where
 row:w.ownsRow B 62 3 v l.length (l.flatMap oc)
 ok:∀x,x∈l→I64 x.kind∧I64 x.num
def insC (x:Ins) (c d:Value):List Value := [.int .i64 x.op, .int .i64 x.reg, .int .i64 x.ty, .int .i64 x.num, .int .i64 x.flags,c,d]
def Ybr (x:Ins):Prop:=I64 x.op∧I64 x.reg∧I64 x.ty∧I64 x.num∧I64 x.flags
structure OwnC (w : World) (B : Nat) (v : Value) (l : List Ins) : Prop where
 body:∃ess:List (List Value),ess.length=l.length∧w.ownsRow B 44 7 v l.length ess.flatten∧∀(i:Nat) es x,ess[i]? = some es→l[i]? = some x→∃c d,es=insC x c d∧OwnV w B c x.args∧OwnI w B d x.to∧Ybr x
structure OwnK (w : World) (B : Nat) (v : Value) (bs : List (List Ins)) : Prop where
 body:∃xs:List Value,xs.length=bs.length∧w.ownsRow B 41 1 v bs.length xs∧∀(i:Nat) x b,xs[i]? = some x→bs[i]? = some b→OwnC w B x b
section
variable {w w':World} {B B':Nat} {v:Value}
theorem OwnI.kept {l:List Int} (h:OwnI w B v l) (hk:∀k,B≤k→k<w.heap.size→w'.heap[k]? = w.heap[k]?):OwnI w' B v l:=⟨Yc h.row fun k hv=>hk k (Ya h.row hv).1 (Ya h.row hv).2.1,h.ok⟩
theorem OwnV.kept {l:List Opd} (h:OwnV w B v l) (hk:∀k,B≤k→k<w.heap.size→w'.heap[k]? = w.heap[k]?):OwnV w' B v l:=⟨Yc h.row fun k hv=>hk k (Ya h.row hv).1 (Ya h.row hv).2.1,h.ok⟩
theorem OwnC.kept {l:List Ins} (h:OwnC w B v l) (hk:∀k,B≤k→k<w.heap.size→w'.heap[k]? = w.heap[k]?):OwnC w' B v l:=by
 obtain⟨ess,h1,h2,h3⟩:=h
 refine⟨ess,h1,Yc h2 fun k hv=>hk k (Ya h2 hv).1 (Ya h2 hv).2.1,fun i es x he hx => ?_⟩
 obtain⟨c,d,e,h4,h5,h6⟩:=h3 i es x he hx
 exact⟨c,d,e,h4.kept hk,h5.kept hk,h6⟩
theorem OwnK.kept {bs:List (List Ins)} (h:OwnK w B v bs) (hk:∀k,B≤k→k<w.heap.size→w'.heap[k]? = w.heap[k]?):OwnK w' B v bs:=by
 obtain⟨xs,h1,h2,h3⟩:=h
 exact⟨xs,h1,Yc h2 fun k hv=>hk k (Ya h2 hv).1 (Ya h2 hv).2.1,fun i x b hx hb=>(h3 i x b hx hb).kept hk⟩
theorem OwnI.mono {l:List Int} (h:OwnI w B v l) (hb:B'≤B):OwnI w B' v l:=⟨Zf h.row hb,h.ok⟩
theorem OwnV.mono {l:List Opd} (h:OwnV w B v l) (hb:B'≤B):OwnV w B' v l:=⟨Zf h.row hb,h.ok⟩
theorem OwnC.mono {l:List Ins} (h:OwnC w B v l) (hb:B'≤B):OwnC w B' v l:=by
 obtain⟨ess,h1,h2,h3⟩:=h
 refine⟨ess,h1,Zf h2 hb,fun i es x he hx => ?_⟩
 obtain⟨c,d,e,h4,h5,h6⟩:=h3 i es x he hx
 exact⟨c,d,e,h4.mono hb,h5.mono hb,h6⟩
theorem OwnK.mono {bs:List (List Ins)} (h:OwnK w B v bs) (hb:B'≤B):OwnK w B' v bs:=by
 obtain⟨xs,h1,h2,h3⟩:=h
 exact⟨xs,h1,Zf h2 hb,fun i x b hx hb'=>(h3 i x b hx hb').mono hb⟩
theorem OwnI.nil_:OwnI w B (.slice none 0 0) []:=⟨⟨rfl, .inl ⟨rfl,rfl⟩⟩,fun x h=>by cases h⟩
theorem OwnV.nil_:OwnV w B (.slice none 0 0) []:=⟨⟨rfl, .inl ⟨rfl,rfl⟩⟩,fun x h=>by cases h⟩
theorem OwnI.rep {l:List Int} (h:OwnI w B v l):Z4.rep w w.heap.size [v] l:=by
 refine Own.rep (R:=RInt) (B:=0) (base:=B) (T := 3) ⟨l.map fun z => [.int .i64 z],by simp,?_,fun i es y h1 h2 => ?_⟩ (Nat.zero_le _)
 ·have e:(l.map fun z => [Value.int .i64 z]).flatten=l.map fun z=>Value.int .i64 z:=by
   clear h
   induction l with
   | nil=>rfl
   | cons z l ih=>rw [List.map_cons,List.flatten_cons,ih];rfl
  rw [e];exact h.row
 ·rw [List.getElem?_map, h2] at h1
  cases h1
  exact⟨rfl,rfl,h.ok y (Jm h2)⟩
theorem OwnV.rep {l:List Opd} (h:OwnV w B v l):ROpds.rep w w.heap.size [v] l:=by
 refine Own.rep (R:=ROpd) (B:=0) (base:=B) (T := 62) ⟨l.map oc,by simp,?_,fun i es y h1 h2 => ?_⟩ (Nat.zero_le _)
 ·rw [←List.flatMap_def];exact h.row
 ·rw [List.getElem?_map, h2] at h1
  cases h1
  exact⟨rfl,rfl,h.ok y (Jm h2)⟩
theorem OwnC.rep {l:List Ins} (h:OwnC w B v l):RBlk.rep w w.heap.size [v] l:=by
 obtain⟨ess,h1,h2,h3⟩:=h
 refine Own.rep (R:=RIns) (B:=w.heap.size) (base:=B) (T := 44) ⟨ess,h1,h2,fun i es y he hy => ?_⟩ (Nat.le_refl _)
 obtain⟨c,d,e,h4,h5,h6⟩:=h3 i es y he hy
 subst e
 exact⟨rfl,c,d,rfl,h4.rep,h5.rep,h6⟩
theorem OwnK.rep {bs:List (List Ins)} (h:OwnK w B v bs):RBlks.rep w w.heap.size [v] bs:=by
 obtain⟨xs,h1,h2,h3⟩:=h
 refine Own.rep (R:=RBlk) (B:=w.heap.size) (base:=B) (T := 41) ⟨xs.map fun x => [x],by simp [h1],?_,fun i es y he hy => ?_⟩ (Nat.le_refl _)
 ·have e:(xs.map fun x => [x]).flatten=xs:=by
   clear h1 h2 h3
   induction xs with
   | nil=>rfl
   | cons z l ih=>rw [List.map_cons,List.flatten_cons,ih];rfl
  rw [e];exact h2
 ·rw [List.getElem?_map] at he
  cases hx:xs[i]? with
  | none=>rw [hx] at he;cases he
  | some x =>
   rw [hx] at he
   cases he
   exact⟨rfl,(h3 i x y hx hy).rep⟩
end
def Nd (vs:List Value):Prop:=(vs.filterMap Value.ownBlock).Nodup
theorem nd_nil:Nd []:=List.nodup_nil
theorem Ybl {vs:List Value} {k:Nat}:k∈vs.filterMap Value.ownBlock↔∃v,v∈vs∧v.ownBlock=some k:=by rw [List.mem_filterMap]
theorem Ycb {a b:List Value} (ha:Nd a) (hb:Nd b) (h:∀u,u∈a→∀v,v∈b→∀k,u.ownBlock=some k→v.ownBlock≠some k):Nd (a++b):=by
 unfold Nd
 rw [List.filterMap_append,List.nodup_append]
 refine⟨ha,hb,fun x hx y hy e => ?_⟩
 subst e
 obtain⟨u,hu,hk⟩:=Ybl.1 hx
 obtain⟨v,hv,hk'⟩:=Ybl.1 hy
 exact h u hu v hv x hk hk'
theorem nd_one (v:Value):Nd [v]:=by
 unfold Nd
 rw [List.filterMap_cons]
 split
 ·exact List.nodup_nil
 ·simp
theorem nd_ne {vs:List Value} (h:Nd vs) {i j:Nat} {u v:Value} {k:Nat} (hi:vs[i]? = some u) (hj:vs[j]? = some v) (hij:i≠j) (hu:u.ownBlock=some k):v.ownBlock≠some k:=by
 intro hv
 have key:∀(vs:List Value),Nd vs→∀(i j:Nat) (u v:Value),i<j→vs[i]? = some u→vs[j]? = some v→u.ownBlock=some k→v.ownBlock=some k→False:=by
  intro vs h i j u v hij hi hj hu hv
  have h1:vs=vs.take j++vs.drop j:=(List.take_append_drop j vs).symm
  unfold Nd at h
  rw [h1,List.filterMap_append,List.nodup_append] at h
  refine h.2.2 k (Ybl.2 ⟨u,?_,hu⟩) k (Ybl.2 ⟨v,?_,hv⟩) rfl
  ·exact Jm (i:=i) (by rw [List.getElem?_take,if_pos hij];exact hi)
  ·exact Jm (i:=0) (by rw [List.getElem?_drop,Nat.add_zero];exact hj)
 rcases Nat.lt_or_ge i j with h1|h1
 ·exact key vs h i j u v h1 hi hj hu hv
 ·exact key vs h j i v u (by omega) hj hi hv hu
def cellsOf (l:List Ins) (es:List (Value×Value)):List Value:=(List.zipWith (fun x e=>insC x e.1 e.2) l es).flatten
structure Z9 (w : World) (B : Nat) (v : Value) (l : List Ins) (es : List (Value × Value)) : Prop where
 len:es.length=l.length
 row:w.ownsRow B 44 7 v l.length (cellsOf l es)
 inn:∀(i:Nat) x e,l[i]? = some x→es[i]? = some e→OwnV w B e.1 x.args∧OwnI w B e.2 x.to∧Ybr x
 nda:Nd (es.map Prod.fst)
 ndt:Nd (es.map Prod.snd)
structure Yq (w : World) (B : Nat) (v : Value) (bs : List (List Ins)) (xs : List Value) (ess : List (List (Value × Value))) : Prop where
 row:w.ownsRow B 41 1 v bs.length xs
 lene:ess.length=bs.length
 inn:∀(i:Nat) x b es,xs[i]? = some x→bs[i]? = some b→ess[i]? = some es→Z9 w B x b es
 ndx:Nd xs
 nda:Nd (ess.flatten.map Prod.fst)
 ndt:Nd (ess.flatten.map Prod.snd)
section
variable {w w':World} {B B':Nat} {v:Value}
theorem Yq.lenx {bs:List (List Ins)} {xs:List Value} {ess:List (List (Value×Value))} (h:Yq w B v bs xs ess):xs.length=bs.length:=by have:=h.row.1;omega
theorem Z9.kept {l:List Ins} {es:List (Value×Value)} (h:Z9 w B v l es) (hk:∀k,B≤k→k<w.heap.size→w'.heap[k]? = w.heap[k]?):Z9 w' B v l es :=
 ⟨h.len,Yc h.row fun k hv=>hk k (Ya h.row hv).1 (Ya h.row hv).2.1,fun i x e hx he=>by
  obtain⟨h1,h2,h3⟩:=h.inn i x e hx he
  exact⟨h1.kept hk,h2.kept hk,h3⟩,h.nda,h.ndt⟩
theorem Yq.kept {bs:List (List Ins)} {xs:List Value} {ess:List (List (Value×Value))} (h:Yq w B v bs xs ess) (hk:∀k,B≤k→k<w.heap.size→w'.heap[k]? = w.heap[k]?):Yq w' B v bs xs ess :=
 ⟨Yc h.row fun k hv=>hk k (Ya h.row hv).1 (Ya h.row hv).2.1,h.lene,fun i x b es hx hb he=>(h.inn i x b es hx hb he).kept hk,h.ndx,h.nda,h.ndt⟩
theorem Z9.mono {l:List Ins} {es:List (Value×Value)} (h:Z9 w B v l es) (hb:B'≤B):Z9 w B' v l es :=
 ⟨h.len,Zf h.row hb,fun i x e hx he=>by
  obtain⟨h1,h2,h3⟩:=h.inn i x e hx he
  exact⟨h1.mono hb,h2.mono hb,h3⟩,h.nda,h.ndt⟩
theorem Yq.mono {bs:List (List Ins)} {xs:List Value} {ess:List (List (Value×Value))} (h:Yq w B v bs xs ess) (hb:B'≤B):Yq w B' v bs xs ess :=
 ⟨Zf h.row hb,h.lene,fun i x b es hx hb' he=>(h.inn i x b es hx hb' he).mono hb,h.ndx,h.nda,h.ndt⟩
theorem Z9.nil_:Z9 w B (.slice none 0 0) [] []:=⟨rfl,⟨rfl, .inl ⟨rfl,rfl⟩⟩,fun i x e hx=>by simp at hx,nd_nil,nd_nil⟩
theorem Yq.nil_:Yq w B (.slice none 0 0) [] [] []:=⟨⟨rfl, .inl ⟨rfl,rfl⟩⟩,rfl,fun i x b es hx=>by simp at hx,nd_nil,nd_nil,nd_nil⟩
theorem Z9.but {T:TypeId} {l:List Ins} {es:List (Value×Value)} (hb:But T w w') (h1 : 44 ≠T) (h2 : 62 ≠T) (h3 : 3 ≠T) (h:Z9 w B v l es):Z9 w' B v l es :=
 ⟨h.len,hb.row h1 h.row,fun i x e hx he=>by
  obtain⟨h4,h5,h6⟩:=h.inn i x e hx he
  exact⟨⟨hb.row h2 h4.row,h4.ok⟩,⟨hb.row h3 h5.row,h5.ok⟩,h6⟩,h.nda,h.ndt⟩
theorem Z9.own_at {l:List Ins} {es:List (Value×Value)} (h:Z9 w B v l es) {e:Value×Value} (he:e∈es) (k:Nat):(e.1.ownBlock=some k→B≤k∧k<w.heap.size)∧(e.2.ownBlock=some k→B≤k∧k<w.heap.size):=by
 obtain⟨i,hi⟩:=List.getElem?_of_mem he
 have hil:=(Js.1 hi).1
 rw [h.len] at hil
 obtain⟨h1,h2, -⟩:=h.inn i _ e (Jg hil) hi
 exact⟨fun hk=>⟨(Ya h1.row hk).1,(Ya h1.row hk).2.1⟩,fun hk=>⟨(Ya h2.row hk).1,(Ya h2.row hk).2.1⟩⟩
theorem Yq.code_at {bs:List (List Ins)} {xs:List Value} {ess:List (List (Value×Value))} (h:Yq w B v bs xs ess) {i:Nat} {x:Value} (hx:xs[i]? = some x):∃b es,bs[i]? = some b∧ess[i]? = some es∧Z9 w B x b es:=by
 have hi:=(Js.1 hx).1
 have h1:i<bs.length:=by rw [←h.lenx];exact hi
 have h2:i<ess.length:=by rw [h.lene];exact h1
 exact⟨_,_,Jg h1,Jg h2,h.inn i x _ _ hx (Jg h1) (Jg h2)⟩
theorem Yq.own_at {bs:List (List Ins)} {xs:List Value} {ess:List (List (Value×Value))} (h:Yq w B v bs xs ess) {e:Value×Value} (he:e∈ess.flatten) (k:Nat):(e.1.ownBlock=some k→B≤k∧k<w.heap.size)∧(e.2.ownBlock=some k→B≤k∧k<w.heap.size):=by
 obtain⟨es,hes,he⟩:=List.mem_flatten.1 he
 obtain⟨i,hi⟩:=List.getElem?_of_mem hes
 have hil:=(Js.1 hi).1
 have hx:i<xs.length:=by rw [h.lenx,←h.lene];exact hil
 have hb:i<bs.length:=by rw [←h.lene];exact hil
 exact(h.inn i _ _ es (Jg hx) (Jg hb) hi).own_at he k
theorem Yq.own_x {bs:List (List Ins)} {xs:List Value} {ess:List (List (Value×Value))} (h:Yq w B v bs xs ess) {x:Value} (hx:x∈xs) (k:Nat) (hk:x.ownBlock=some k):B≤k∧k<w.heap.size:=by
 obtain⟨i,hi⟩:=List.getElem?_of_mem hx
 obtain⟨b,es, -, -,hc⟩:=h.code_at hi
 exact⟨(Ya hc.row hk).1,(Ya hc.row hk).2.1⟩
theorem cellsOf_snoc {l:List Ins} {es:List (Value×Value)} (h:es.length=l.length) (x:Ins) (c d:Value):cellsOf (l ++ [x]) (es ++ [(c,d)])=cellsOf l es++insC x c d:=by
 unfold cellsOf
 rw [List.zipWith_append h.symm,List.flatten_append]
 simp
theorem Z9.more {l:List Ins} {es:List (Value×Value)} (h:Z9 w B v l es) {w1:World} (hk:∀k,B≤k→k<w.heap.size→w1.heap[k]? = w.heap[k]?):w1.ownsRow B 44 7 v l.length (cellsOf l es)∧∀(x:Ins) (c d:Value) (w':World) (v':Value),OwnV w1 B c x.args→OwnI w1 B d x.to→
  (∀k,c.ownBlock=some k→w.heap.size≤k)→(∀k,d.ownBlock=some k→w.heap.size≤k)→Ybr x→
  w'.ownsRow B 44 7 v' (l.length+1) (cellsOf l es++insC x c d)→(w1.alloc (.cells (insC x c d).toArray 44)).grownBy w' v.ownBlock→Z9 w' B v' (l ++ [x]) (es ++ [(c,d)]):=by
 have h1:=h.kept hk
 refine⟨h1.row,fun x c d w' v' hc hd hcl hdl hx ho hg => ?_⟩
 have hb:=But.grown h1.row hg
 refine⟨by simp [h.len],by rw [cellsOf_snoc h.len,List.length_append];exact ho,fun i y e hy he => ?_,?_,?_⟩
 ·rcases Nat.lt_or_ge i l.length with hi | hi
  ·rw [List.getElem?_append_left hi] at hy
   rw [List.getElem?_append_left (by rw [h.len];exact hi)] at he
   obtain⟨h4,h5,h6⟩:=h1.inn i y e hy he
   exact⟨⟨hb.row (by decide) h4.row,h4.ok⟩,⟨hb.row (by decide) h5.row,h5.ok⟩,h6⟩
  ·rw [List.getElem?_append_right hi] at hy
   rw [List.getElem?_append_right (by rw [h.len];exact hi),h.len] at he
   have e0:i - l.length=0:=by have:=(Js.1 hy).1;simp at this;omega
   rw [e0] at he hy
   cases he;cases hy
   exact⟨⟨hb.row (by decide) hc.row,hc.ok⟩,⟨hb.row (by decide) hd.row,hd.ok⟩,hx⟩
 ·rw [List.map_append]
  refine Ycb h.nda (nd_one _) fun u hu z hz k hk' hk2 => ?_
  obtain⟨e,he,rfl⟩:=List.mem_map.1 hu
  rw [List.mem_singleton.1 hz] at hk2
  have:=((h.own_at he k).1 hk').2
  have:=hcl k hk2
  omega
 ·rw [List.map_append]
  refine Ycb h.ndt (nd_one _) fun u hu z hz k hk' hk2 => ?_
  obtain⟨e,he,rfl⟩:=List.mem_map.1 hu
  rw [List.mem_singleton.1 hz] at hk2
  have:=((h.own_at he k).2 hk').2
  have:=hdl k hk2
  omega
theorem Yq.more {bs:List (List Ins)} {xs:List Value} {ess:List (List (Value×Value))} (h:Yq w B v bs xs ess) {w1:World} (hk:∀k,B≤k→k<w.heap.size→w1.heap[k]? = w.heap[k]?):w1.ownsRow B 41 1 v bs.length xs∧∀(b:List Ins) (c:Value) (es:List (Value×Value)) (L:Nat) (w':World) (v':Value),Z9 w1 L c b es→B≤L→w.heap.size≤L→
  w'.ownsRow B 41 1 v' (bs.length+1) (xs ++ [c])→(w1.alloc (.cells #[c] 41)).grownBy w' v.ownBlock→Yq w' B v' (bs ++ [b]) (xs ++ [c]) (ess ++ [es]):=by
 have h1:=h.kept hk
 refine⟨h1.row,fun b c es L w' v' hc hBL hwL ho hg => ?_⟩
 have hb:=But.grown h1.row hg
 refine⟨by rw [List.length_append];exact ho,by simp [h.lene],fun i x y e hx hy he => ?_,?_,?_,?_⟩
 ·rcases Nat.lt_or_ge i bs.length with hi | hi
  ·rw [List.getElem?_append_left (by rw [h.lenx]; exact hi)] at hx
   rw [List.getElem?_append_left hi] at hy
   rw [List.getElem?_append_left (by rw [h.lene];exact hi)] at he
   exact(h1.inn i x y e hx hy he).but hb (by decide) (by decide) (by decide)
  ·rw [List.getElem?_append_right (by rw [h.lenx]; exact hi), h.lenx] at hx
   rw [List.getElem?_append_right hi] at hy
   rw [List.getElem?_append_right (by rw [h.lene];exact hi),h.lene] at he
   have e0:i - bs.length=0:=by have:=(Js.1 hx).1;simp at this;omega
   rw [e0] at hx hy he
   cases hx;cases hy;cases he
   exact(hc.mono hBL).but hb (by decide) (by decide) (by decide)
 ·refine Ycb h.ndx (nd_one _) fun u hu z hz k hk' hk2 => ?_
  rw [List.mem_singleton.1 hz] at hk2
  have:=(h.own_x hu k hk').2
  have:=(Ya hc.row hk2).1
  omega
 ·rw [List.flatten_append, List.map_append, List.flatten_singleton]
  refine Ycb h.nda hc.nda fun u hu z hz k hk' hk2 => ?_
  obtain⟨e,he,rfl⟩:=List.mem_map.1 hu
  obtain⟨e2,he2,rfl⟩:=List.mem_map.1 hz
  have:=((h.own_at he k).1 hk').2
  have:=((hc.own_at he2 k).1 hk2).1
  omega
 ·rw [List.flatten_append, List.map_append, List.flatten_singleton]
  refine Ycb h.ndt hc.ndt fun u hu z hz k hk' hk2 => ?_
  obtain⟨e,he,rfl⟩:=List.mem_map.1 hu
  obtain⟨e2,he2,rfl⟩:=List.mem_map.1 hz
  have:=((h.own_at he k).2 hk').2
  have:=((hc.own_at he2 k).2 hk2).1
  omega
theorem Z9.own {l:List Ins} {es:List (Value×Value)} (h:Z9 w B v l es):OwnC w B v l:=by
 refine⟨List.zipWith (fun(x:Ins) (e:Value×Value)=>insC x e.1 e.2) l es,by rw [List.length_zipWith,h.len,Nat.min_self],h.row,fun i c x hc hx => ?_⟩
 rw [List.getElem?_zipWith,hx] at hc
 cases he:es[i]? with
 | none=>rw [he] at hc;cases hc
 | some e =>
  rw [he] at hc
  cases hc
  obtain⟨h1,h2,h3⟩:=h.inn i x e hx he
  exact⟨e.1,e.2,rfl,h1,h2,h3⟩
theorem Yq.own {bs:List (List Ins)} {xs:List Value} {ess:List (List (Value×Value))} (h:Yq w B v bs xs ess):OwnK w B v bs :=
 ⟨xs,h.lenx,h.row,fun i x b hx hb=>by
  obtain⟨b',es,hb',he,hc⟩:=h.code_at hx
  rw [hb] at hb'
  cases hb'
  exact hc.own⟩
end
def OwnC2 (w:World) (B:Nat) (v:Value) (l:List Ins):Prop:=∃es,Z9 w B v l es
def OwnK2 (w:World) (B:Nat) (v:Value) (bs:List (List Ins)):Prop:=∃xs ess,Yq w B v bs xs ess
section
variable {w w':World} {B B':Nat} {v:Value}
theorem OwnC2.kept {l:List Ins} (h:OwnC2 w B v l) (hk:∀k,B≤k→k<w.heap.size→w'.heap[k]? = w.heap[k]?):OwnC2 w' B v l:=by obtain⟨es,h⟩:=h;exact⟨es,h.kept hk⟩
theorem OwnK2.kept {bs:List (List Ins)} (h:OwnK2 w B v bs) (hk:∀k,B≤k→k<w.heap.size→w'.heap[k]? = w.heap[k]?):OwnK2 w' B v bs:=by obtain⟨xs,ess,h⟩:=h;exact⟨xs,ess,h.kept hk⟩
theorem OwnC2.nil_:OwnC2 w B (.slice none 0 0) []:=⟨[],Z9.nil_⟩
theorem OwnK2.nil_:OwnK2 w B (.slice none 0 0) []:=⟨[], [],Yq.nil_⟩
theorem OwnC2.more {l:List Ins} (h:OwnC2 w B v l) {w1:World} (hk:∀k,B≤k→k<w.heap.size→w1.heap[k]? = w.heap[k]?):∃xs,w1.ownsRow B 44 7 v l.length xs∧∀(x:Ins) (c d:Value) (w':World) (v':Value),OwnV w1 B c x.args→OwnI w1 B d x.to→
  (∀k,c.ownBlock=some k→w.heap.size≤k)→(∀k,d.ownBlock=some k→w.heap.size≤k)→Ybr x→
  w'.ownsRow B 44 7 v' (l.length+1) (xs++insC x c d)→(w1.alloc (.cells (insC x c d).toArray 44)).grownBy w' v.ownBlock→OwnC2 w' B v' (l ++ [x]):=by
 obtain⟨es,h⟩:=h
 obtain⟨h1,h2⟩:=h.more hk
 exact⟨_,h1,fun x c d w' v' a1 a2 a3 a4 a5 a6 a7=>⟨_,h2 x c d w' v' a1 a2 a3 a4 a5 a6 a7⟩⟩
theorem OwnK2.more {bs:List (List Ins)} (h:OwnK2 w B v bs) {w1:World} (hk:∀k,B≤k→k<w.heap.size→w1.heap[k]? = w.heap[k]?):∃xs,w1.ownsRow B 41 1 v bs.length xs∧∀(b:List Ins) (c:Value) (L:Nat) (w':World) (v':Value),OwnC2 w1 L c b→B≤L→w.heap.size≤L→
  w'.ownsRow B 41 1 v' (bs.length+1) (xs ++ [c])→(w1.alloc (.cells #[c] 41)).grownBy w' v.ownBlock→OwnK2 w' B v' (bs ++ [b]):=by
 obtain⟨xs,ess,h⟩:=h
 obtain⟨h1,h2⟩:=h.more hk
 exact⟨_,h1,fun b c L w' v' ⟨es,a1⟩ a2 a3 a4 a5=>⟨_,_,h2 b c es L w' v' a1 a2 a3 a4 a5⟩⟩
theorem OwnC2.form {l:List Ins} (h:OwnC2 w B v l):∃A C,v = .slice A l.length C:=by obtain⟨es,h⟩:=h;exact Yd h.row
theorem OwnK2.form {bs:List (List Ins)} (h:OwnK2 w B v bs):∃A C,v = .slice A bs.length C:=by obtain⟨xs,ess,h⟩:=h;exact Yd h.row
end
theorem nd_iff {vs:List Value}:Nd vs↔∀(i j:Nat) u v k,vs[i]? = some u→vs[j]? = some v→u.ownBlock=some k→v.ownBlock=some k→i=j:=by
 constructor
 ·intro h i j u v k hi hj hu hv
  by_cases e:i=j
  ·exact e
  ·exact absurd hv (nd_ne h hi hj e hu)
 ·induction vs with
  | nil=>intro _;exact nd_nil
  | cons a vs ih =>
   intro h
   have h1:Nd vs:=ih fun i j u v k hi hj hu hv=>by
    have:=h (i+1) (j+1) u v k (by simpa using hi) (by simpa using hj) hu hv
    omega
   unfold Nd at h1⊢
   rw [List.filterMap_cons]
   cases hk:a.ownBlock with
   | none=>exact h1
   | some k =>
    refine List.nodup_cons.2 ⟨fun hm => ?_,h1⟩
    obtain⟨v,hv,hvk⟩:=Ybl.1 hm
    obtain⟨j,hj⟩:=List.mem_iff_getElem?.1 hv
    have:=h 0 (j+1) a v k rfl (by simpa using hj) hk hvk
    omega
theorem nd_set {vs:List Value} {b:Nat} {x v:Value} (h:Nd vs) (hx:vs[b]? = some x) (hv:∀k,v.ownBlock=some k→x.ownBlock=some k∨∀y,y∈vs→y.ownBlock≠some k):Nd (vs.set b v):=by
 rw [nd_iff] at h⊢
 intro i j u u' k hi hj hu hu'
 have key:∀(i j:Nat) u u',(vs.set b v)[i]? = some u→(vs.set b v)[j]? = some u'→u.ownBlock=some k→u'.ownBlock=some k→i=b→i=j:=by
  intro i j u u' hi hj hu hu' e
  subst e
  by_cases e2:j=i
  ·exact e2.symm
  ·have hlt := (Js.1 hx).1
   rw [Jf hlt] at hi
   rw [Je (Ne.symm e2)] at hj
   cases hi
   rcases hv k hu with h1|h1
   ·exact h i j x u' k hx hj h1 hu'
   ·exact absurd hu' (h1 u' (Jm hj))
 by_cases e:i=b
 ·exact key i j u u' hi hj hu hu' e
 ·by_cases e2 : j = b
  ·exact(key j i u' u hj hi hu' hu e2).symm
  ·rw [Je (Ne.symm e)] at hi
   rw [Je (Ne.symm e2)] at hj
   exact h i j u u' k hi hj hu hu'
def Nd2 {α:Type} (f:α→Value) (ess:List (List α)):Prop:=(∀(i:Nat) a,ess[i]? = some a→Nd (a.map f))∧∀(i j:Nat) a b e e' k,i≠j→ess[i]? = some a→ess[j]? = some b→e∈a→e'∈b→(f e).ownBlock=some k→(f e').ownBlock≠some k
theorem nd_app {a b:List Value} (h:Nd (a++b)):Nd a∧Nd b∧∀u,u∈a→∀v,v∈b→∀k,u.ownBlock=some k→v.ownBlock≠some k:=by
 unfold Nd at h
 rw [List.filterMap_append,List.nodup_append] at h
 exact⟨h.1,h.2.1,fun u hu v hv k h1 h2=>h.2.2 k (Ybl.2 ⟨u,hu,h1⟩) k (Ybl.2 ⟨v,hv,h2⟩) rfl⟩
theorem Qx {α : Type} {f : α → Value} : ∀ {ess : List (List α)}, Nd (ess.flatten.map f) ↔ Nd2 f ess
 | []=>⟨fun _=>⟨fun i a h=>by simp at h,fun i j a b e e' k _ h=>by simp at h⟩,fun _=>nd_nil⟩
 | x :: ess=>by
  rw [List.flatten_cons,List.map_append]
  constructor
  ·intro h
   obtain⟨h1,h2,h3⟩:=nd_app h
   obtain⟨g1,g2⟩:=Qx.1 h2
   have key:∀(j:Nat) b e e' k,ess[j]? = some b→e∈x→e'∈b→(f e).ownBlock=some k→(f e').ownBlock≠some k:=fun j b e e' k hj he he' hk =>
    h3 (f e) (List.mem_map_of_mem he) (f e') (List.mem_map_of_mem (List.mem_flatten.2 ⟨b,Jm hj,he'⟩)) k hk
   refine⟨fun i a hi => ?_,fun i j a b e e' k hij hi hj he he' hk => ?_⟩
   ·cases i with
    | zero=>cases hi;exact h1
    | succ i=>exact g1 i a (by simpa using hi)
   ·cases i with
    | zero =>
     cases j with
     | zero=>exact absurd rfl hij
     | succ j=>cases hi;exact key j b e e' k (by simpa using hj) he he' hk
    | succ i =>
     cases j with
     | zero=>cases hj;exact fun hk'=>key i a e' e k (by simpa using hi) he' he hk' hk
     | succ j=>exact g2 i j a b e e' k (by omega) (by simpa using hi) (by simpa using hj) he he' hk
  ·rintro ⟨g1, g2⟩
   refine Ycb (g1 0 x rfl) (Qx.2 ⟨fun i a hi=>g1 (i+1) a (by simpa using hi),fun i j a b e e' k hij hi hj=>g2 (i+1) (j+1) a b e e' k (by omega) (by simpa using hi) (by simpa using hj)⟩) ?_
   intro u hu v hv k h1
   obtain⟨e,he,rfl⟩:=List.mem_map.1 hu
   obtain⟨e',he',rfl⟩:=List.mem_map.1 hv
   obtain⟨b,hb,he'⟩:=List.mem_flatten.1 he'
   obtain⟨j,hj⟩:=List.mem_iff_getElem?.1 hb
   exact g2 0 (j+1) x b e e' k (by omega) rfl (by simpa using hj) he he' h1
theorem nd2_set {α : Type} {f : α → Value} {ess : List (List α)} {b : Nat} {es es' : List α} {H : Nat} (h : Nd2 f ess) (he : ess[b]? = some es) (h1 : Nd (es'.map f)) (hH : ∀ (i : Nat) a e k, ess[i]? = some a → e ∈ a → (f e).ownBlock = some k → k < H)
  (h2:∀e k,e∈es'→(f e).ownBlock=some k→(∃e0,e0∈es∧(f e0).ownBlock=some k)∨H≤k):Nd2 f (ess.set b es'):=by
 obtain⟨g1,g2⟩:=h
 have hlt:=(Js.1 he).1
 have key:∀(j:Nat) c e e' k,j≠b→ess[j]? = some c→e∈es'→e'∈c→(f e).ownBlock=some k→(f e').ownBlock≠some k:=fun j c e e' k hj hc hee hec hk hk'=>by
  rcases h2 e k hee hk with⟨e0,h3,h4⟩|h3
  ·exact g2 b j es c e0 e' k (Ne.symm hj) he hc h3 hec h4 hk'
  ·have := hH j c e' k hc hec hk'
   omega
 refine⟨fun i a hi => ?_,fun i j a c e e' k hij hi hj hea hec hk => ?_⟩
 ·by_cases e : i = b
  ·subst e
   rw [Jf hlt] at hi
   cases hi
   exact h1
  ·rw [Je (Ne.symm e)] at hi
   exact g1 i a hi
 ·by_cases e1 : i = b
  ·subst e1
   rw [Jf hlt] at hi
   rw [Je hij] at hj
   cases hi
   exact key j c e e' k (Ne.symm hij) hj hea hec hk
  ·rw [Je (Ne.symm e1)] at hi
   by_cases e2:j=b
   ·subst e2
    rw [Jf hlt] at hj
    cases hj
    exact fun hk'=>key i a e' e k e1 hi hec hea hk' hk
   ·rw [Je (Ne.symm e2)] at hj
    exact g2 i j a c e e' k hij hi hj hea hec hk
section
variable {w w':World} {L:Nat} {d:Value} {bs:List (List Ins)} {xs:List Value} {ess:List (List (Value×Value))}
theorem Yq.row_at (h:Yq w L d bs xs ess) {b:Nat} {l:List Ins} (hb:bs[b]? = some l):∃x es,xs[b]? = some x∧ess[b]? = some es∧Z9 w L x l es:=by
 have h1:=(Js.1 hb).1
 have h2:=h.lenx
 have h3:=h.lene
 exact⟨xs[b]'(by omega),ess[b]'(by omega),Jg _,Jg _,h.inn b _ l _ (Jg _) hb (Jg _)⟩
theorem Z9.ins_at {x:Value} {l:List Ins} {es:List (Value×Value)} (h:Z9 w L x l es) {i:Nat} {ins:Ins} (hi:l[i]? = some ins):∃c t,es[i]? = some (c,t)∧OwnV w L c ins.args∧OwnI w L t ins.to∧Ybr ins:=by
 have h1:=(Js.1 hi).1
 have h2:=h.len
 have h3:es[i]? = some (es[i]'(by omega)):=Jg _
 obtain⟨g1,g2,g3⟩:=h.inn i ins _ hi h3
 exact⟨_,_,h3,g1,g2,g3⟩
theorem Ya6 : ∀ (l : List Ins) (es : List (Value × Value)) (m : Nat), (cellsOf l es)[m]? = (l[m / 7]?).bind fun x => (es[m / 7]?).bind fun e => (insC x e.1 e.2)[m % 7]?
 | [],es,m=>by simp [cellsOf]
 | x :: l, [],m=>by simp [cellsOf]
 | x :: l,e :: es,m=>by
  have h0:cellsOf (x :: l) (e :: es)=insC x e.1 e.2++cellsOf l es:=by simp [cellsOf]
  have h7:(insC x e.1 e.2).length=7:=rfl
  rw [h0]
  by_cases hm:m<7
  ·rw [List.getElem?_append_left (by omega), show m / 7 = 0 by omega, show m % 7 = m by omega]
   rfl
  ·obtain ⟨q, rfl⟩ : ∃ q, m = q + 7 := ⟨m - 7, by omega⟩
   rw [List.getElem?_append_right (by omega),h7,Nat.add_sub_cancel,Ya6 l es q,show(q+7) / 7=q / 7+1 by omega,show(q+7) % 7=q % 7 by omega,List.getElem?_cons_succ,List.getElem?_cons_succ]
theorem Z9.cell_at {gc n C:Nat} {l:List Ins} {es:List (Value×Value)} (h:Z9 w L (.slice (some ⟨gc,0,none⟩) n C) l es) {i:Nat} {ins:Ins} {c t:Value} (hi:l[i]? = some ins) (he:es[i]? = some (c,t)) {j:Nat} {u:Value} (hu:(insC ins c t)[j]? = some u):w.cell? ⟨gc,i*7+j,none⟩=some u:=by
 have h1:=(Js.1 hi).1
 have h7:j<7:=(Js.1 hu).1
 have hn:n=l.length:=by
  rcases h.row.2 with⟨e,_⟩|⟨g,cap,cur,e,_⟩
  ·cases e
  ·cases e;rfl
 subst hn
 rw [World.ownsRow.cellAt h.row (i*7+j) (by omega),Ya6,show(i*7+j) / 7=i by omega,show(i*7+j) % 7=j by omega,hi,he]
 exact hu
theorem Yq.put (h : Yq w L d bs xs ess) {b : Nat} {l l' : List Ins} {x v' : Value} {es es' : List (Value × Value)} (hb : bs[b]? = some l) (hx : xs[b]? = some x) (he : ess[b]? = some es) (hcode : Z9 w' L v' l' es')
  (hkeep:∀k,k<w.heap.size→x.ownBlock≠some k→d.ownBlock≠some k→(∀e,e∈es→e.1.ownBlock≠some k∧e.2.ownBlock≠some k)→w'.heap[k]? = w.heap[k]?)
  (hd:w'.ownsRow L 41 1 d bs.length (xs.set b v')) (hv:∀k,v'.ownBlock=some k→x.ownBlock=some k∨w.heap.size≤k)
  (hes:∀e k,e∈es'→(e.1.ownBlock=some k→(∃e0,e0∈es∧e0.1.ownBlock=some k)∨w.heap.size≤k)∧(e.2.ownBlock=some k→(∃e0,e0∈es∧e0.2.ownBlock=some k)∨w.heap.size≤k)) :
  Yq w' L d (bs.set b l') (xs.set b v') (ess.set b es'):=by
 have hlt:b<bs.length:=(Js.1 hb).1
 have hlx:=h.lenx
 have hle:=h.lene
 have hxb:∀y k,y∈xs→y.ownBlock=some k→k<w.heap.size∧∃c,w.heap[k]? = some (.cells c 44 (0,0)):=fun y k hy hk=>by
  obtain⟨i,hi⟩:=List.mem_iff_getElem?.1 hy
  have h1:=(Js.1 hi).1
  have h2:=h.inn i y _ _ hi (Jg (by omega)) (Jg (by omega))
  exact(Ya h2.row hk).2
 have hin:∀(i:Nat) a e k,ess[i]? = some a→e∈a→(e.1.ownBlock=some k→k<w.heap.size∧∃c,w.heap[k]? = some (.cells c 62 (0,0)))∧(e.2.ownBlock=some k→k<w.heap.size∧∃c,w.heap[k]? = some (.cells c 3 (0,0))):=fun i a e k hi hea=>by
  have h1:=(Js.1 hi).1
  have h2:=h.inn i _ _ a (Jg (by omega)) (Jg (by omega)) hi
  obtain⟨j,hj⟩:=List.mem_iff_getElem?.1 hea
  have h3:=(Js.1 hj).1
  have h4:=h2.len
  obtain⟨g1,g2, -⟩:=h2.inn j _ e (Jg (by omega)) hj
  exact⟨fun hk=>(Ya g1.row hk).2,fun hk=>(Ya g2.row hk).2⟩
 have hdb:∀k,d.ownBlock=some k→∃c,w.heap[k]? = some (.cells c 41 (0,0)):=fun k hk=>(Ya h.row hk).2.2
 have tne:∀ {k:Nat} {c c':Array Value} {T T':TypeId},w.heap[k]? = some (.cells c T (0,0))→w.heap[k]? = some (.cells c' T' (0,0))→T=T':=fun h1 h2=>by
  rw [h1] at h2
  cases h2
  rfl
 refine⟨by rw [List.length_set];exact hd,by simp [hle],fun i y m a hy hm ha => ?_,?_,?_,?_⟩
 ·by_cases e : i = b
  ·subst e
   rw [Jf (by omega)] at hy hm ha
   cases hy;cases hm;cases ha
   exact hcode
  ·rw [Je (Ne.symm e)] at hy hm ha
   have h1:=h.inn i y m a hy hm ha
   have hnd:=Qx.1 h.nda
   have hnt:=Qx.1 h.ndt
   refine⟨h1.len,Yc h1.row fun k hk => ?_,fun j z ee hz hee => ?_,h1.nda,h1.ndt⟩
   ·obtain ⟨-, h2, c, hc⟩ := Ya h1.row hk
    refine hkeep k h2 (fun hk'=>nd_ne h.ndx hx hy (Ne.symm e) hk' hk) (fun hk' => ?_) (fun e0 he0=>⟨fun hk' => ?_,fun hk' => ?_⟩)
    ·obtain ⟨c', hc'⟩ := hdb k hk'
     exact absurd (tne hc hc') (by decide)
    ·obtain ⟨c', hc'⟩ := ((hin b es e0 k he he0).1 hk').2
     exact absurd (tne hc hc') (by decide)
    ·obtain ⟨c', hc'⟩ := ((hin b es e0 k he he0).2 hk').2
     exact absurd (tne hc hc') (by decide)
   ·obtain ⟨g1, g2, g3⟩ := h1.inn j z ee hz hee
    refine⟨⟨Yc g1.row fun k hk => ?_,g1.ok⟩,⟨Yc g2.row fun k hk => ?_,g2.ok⟩,g3⟩
    ·obtain ⟨-, h2, c, hc⟩ := Ya g1.row hk
     refine hkeep k h2 (fun hk' => ?_) (fun hk' => ?_) (fun e0 he0=>⟨fun hk' => ?_,fun hk' => ?_⟩)
     ·obtain ⟨c', hc'⟩ := (hxb x k (Jm hx) hk').2
      exact absurd (tne hc hc') (by decide)
     ·obtain ⟨c', hc'⟩ := hdb k hk'
      exact absurd (tne hc hc') (by decide)
     ·exact hnd.2 i b a es ee e0 k e ha he (Jm hee) he0 hk hk'
     ·obtain ⟨c', hc'⟩ := ((hin b es e0 k he he0).2 hk').2
      exact absurd (tne hc hc') (by decide)
    ·obtain ⟨-, h2, c, hc⟩ := Ya g2.row hk
     refine hkeep k h2 (fun hk' => ?_) (fun hk' => ?_) (fun e0 he0=>⟨fun hk' => ?_,fun hk' => ?_⟩)
     ·obtain ⟨c', hc'⟩ := (hxb x k (Jm hx) hk').2
      exact absurd (tne hc hc') (by decide)
     ·obtain ⟨c', hc'⟩ := hdb k hk'
      exact absurd (tne hc hc') (by decide)
     ·obtain ⟨c', hc'⟩ := ((hin b es e0 k he he0).1 hk').2
      exact absurd (tne hc hc') (by decide)
     ·exact hnt.2 i b a es ee e0 k e ha he (Jm hee) he0 hk hk'
 ·refine nd_set h.ndx hx fun k hk => ?_
  rcases hv k hk with h1|h1
  ·exact .inl h1
  ·exact .inr fun y hy hk'=>by have:=(hxb y k hy hk').1;omega
 ·refine Qx.2 (nd2_set (H:=w.heap.size) (Qx.1 h.nda) he hcode.nda (fun i a e k hi hea hk=>((hin i a e k hi hea).1 hk).1) fun e k hee hk=>(hes e k hee).1 hk)
 ·refine Qx.2 (nd2_set (H:=w.heap.size) (Qx.1 h.ndt) he hcode.ndt (fun i a e k hi hea hk=>((hin i a e k hi hea).2 hk).1) fun e k hee hk=>(hes e k hee).2 hk)
theorem Qo {α:Type} {l:List α} {b:Nat} {x:α} (h:l[b]? = some x):l.set b x=l:=by
 apply List.ext_getElem?
 intro i
 by_cases e:b=i
 ·subst e
  rw [Jf (Js.1 h).1,h]
 ·rw [Je e]
theorem Ya7 : ∀ {l : List Ins} {es : List (Value × Value)}, es.length = l.length → (cellsOf l es).length = l.length * 7
 | [], [],_=>rfl
 | x :: l,e :: es,h=>by
  have h0:cellsOf (x :: l) (e :: es)=insC x e.1 e.2++cellsOf l es:=by simp [cellsOf]
  have h7:(insC x e.1 e.2).length=7:=rfl
  rw [h0,List.length_append,Ya7 (l:=l) (es:=es) (by simpa using h),h7,List.length_cons]
  omega
theorem Q9 {l : List Ins} {es : List (Value × Value)} {i j : Nat} {x x' : Ins} {e e' : Value × Value} {u : Value} (hl : l[i]? = some x) (he : es[i]? = some e) (hlen : es.length = l.length) (hj : j < 7)
  (hu:(insC x e.1 e.2).set j u=insC x' e'.1 e'.2):(cellsOf l es).set (i*7+j) u=cellsOf (l.set i x') (es.set i e'):=by
 have hi:=(Js.1 hl).1
 apply List.ext_getElem?
 intro m
 rw [List.getElem?_set,Ya7 hlen,Ya6,Ya6]
 by_cases hm:m / 7=i
 ·subst hm
  rw [Jf hi,Jf (by omega),hl,he]
  show _=(insC x' e'.1 e'.2)[m % 7]?
  rw [←hu,List.getElem?_set]
  have h7:(insC x e.1 e.2).length=7:=rfl
  rw [h7]
  by_cases hr:m % 7=j
  ·rw [if_pos (by omega),if_pos (by omega),if_pos hr.symm,if_pos (by omega)]
  ·rw [if_neg (by omega), if_neg (fun e => hr e.symm)]
   rfl
 ·rw [if_neg (by omega),Je (fun e=>hm e.symm),Je (fun e=>hm e.symm)]
theorem cells_set7 {l : List Ins} {es : List (Value × Value)} {i : Nat} {x x' : Ins} {e : Value × Value} {c t : Value} (hl : l[i]? = some x) (he : es[i]? = some e) (hlen : es.length = l.length) :
  ((((((((cellsOf l es).set (i*7) (.int .i64 x'.op)).set (i*7+1) (.int .i64 x'.reg)).set (i*7+2) (.int .i64 x'.ty)).set (i*7+3) (.int .i64 x'.num)).set (i*7+4) (.int .i64 x'.flags)).set (i*7+5) c).set (i*7+6) t)=cellsOf (l.set i x') (es.set i (c,t)):=by
 have hi:=(Js.1 hl).1
 have a0:=Q9 (j:=0) (x' := { x with op:=x'.op }) (e':=e) (u := .int .i64 x'.op) hl he hlen (by omega) rfl
 have a1:=Q9 (i:=i) (j:=1) (l:=l.set i { x with op:=x'.op }) (es:=es.set i e) (x := { x with op:=x'.op }) (e:=e) (x' := { x with op:=x'.op,reg:=x'.reg }) (e':=e) (u := .int .i64 x'.reg) (by rw [Jf hi]) (by rw [Jf (by omega)]) (by simp [hlen]) (by omega) rfl
 have a2:=Q9 (i:=i) (j:=2) (l:=l.set i { x with op:=x'.op,reg:=x'.reg }) (es:=es.set i e) (x := { x with op:=x'.op,reg:=x'.reg }) (e:=e) (x' := { x with op:=x'.op,reg:=x'.reg,ty:=x'.ty }) (e':=e) (u := .int .i64 x'.ty) (by rw [Jf hi]) (by rw [Jf (by omega)]) (by simp [hlen]) (by omega) rfl
 have a3:=Q9 (i:=i) (j:=3) (l:=l.set i { x with op:=x'.op,reg:=x'.reg,ty:=x'.ty }) (es:=es.set i e) (x := { x with op:=x'.op,reg:=x'.reg,ty:=x'.ty }) (e:=e) (x' := { x with op:=x'.op,reg:=x'.reg,ty:=x'.ty,num:=x'.num }) (e':=e) (u := .int .i64 x'.num) (by rw [Jf hi]) (by rw [Jf (by omega)]) (by simp [hlen]) (by omega) rfl
 have a4:=Q9 (i:=i) (j:=4) (l:=l.set i { x with op:=x'.op,reg:=x'.reg,ty:=x'.ty,num:=x'.num }) (es:=es.set i e) (x := { x with op:=x'.op,reg:=x'.reg,ty:=x'.ty,num:=x'.num }) (e:=e) (x' := { x with op:=x'.op,reg:=x'.reg,ty:=x'.ty,num:=x'.num,flags:=x'.flags }) (e':=e) (u := .int .i64 x'.flags) (by rw [Jf hi]) (by rw [Jf (by omega)]) (by simp [hlen]) (by omega) rfl
 have a5:=Q9 (i:=i) (j:=5) (l:=l.set i { x with op:=x'.op,reg:=x'.reg,ty:=x'.ty,num:=x'.num,flags:=x'.flags }) (es:=es.set i e) (x := { x with op:=x'.op,reg:=x'.reg,ty:=x'.ty,num:=x'.num,flags:=x'.flags }) (e:=e) (x' := { x with op:=x'.op,reg:=x'.reg,ty:=x'.ty,num:=x'.num,flags:=x'.flags }) (e':=(c,e.2)) (u:=c) (by rw [Jf hi]) (by rw [Jf (by omega)]) (by simp [hlen]) (by omega) rfl
 have a6:=Q9 (i:=i) (j:=6) (l:=l.set i { x with op:=x'.op,reg:=x'.reg,ty:=x'.ty,num:=x'.num,flags:=x'.flags }) (es:=es.set i (c,e.2)) (x := { x with op:=x'.op,reg:=x'.reg,ty:=x'.ty,num:=x'.num,flags:=x'.flags }) (e:=(c,e.2)) (x':=x') (e':=(c,t)) (u:=t) (by rw [Jf hi]) (by rw [Jf (by omega)]) (by simp [hlen]) (by omega) rfl
 simp only [List.set_set] at a1 a2 a3 a4 a5 a6
 rw [show i*7=i*7+0 from rfl,a0,a1,a2,a3,a4,a5,a6]
section
variable {w w':World} {L:Nat} {d:Value} {bs:List (List Ins)} {xs:List Value} {ess:List (List (Value×Value))}
theorem Yq.put_ins (h : Yq w L d bs xs ess) {b i gc n C : Nat} {l : List Ins} {es : List (Value × Value)} {ins ins' : Ins} {c t c' t' : Value} (hb : bs[b]? = some l) (hx : xs[b]? = some (.slice (some ⟨gc, 0, none⟩) n C)) (he : ess[b]? = some es)
  (hi:l[i]? = some ins) (hei:es[i]? = some (c,t)) (hrow:w'.ownsRow L 44 7 (.slice (some ⟨gc,0,none⟩) n C) n (cellsOf (l.set i ins') (es.set i (c',t')))) (hV:OwnV w' L c' ins'.args) (hI:OwnI w' L t' ins'.to) (hok:Ybr ins')
  (hc:∀k,c'.ownBlock=some k→c.ownBlock=some k∨w.heap.size≤k) (ht:∀k,t'.ownBlock=some k→t.ownBlock=some k∨w.heap.size≤k)
  (hkeep:∀k,k<w.heap.size→k≠gc→c.ownBlock≠some k→t.ownBlock≠some k→w'.heap[k]? = w.heap[k]?):Yq w' L d (bs.set b (l.set i ins')) xs (ess.set b (es.set i (c',t'))):=by
 have hcd:=h.inn b _ l es hx hb he
 have hlt:=(Js.1 hi).1
 have hlen:=hcd.len
 have hn:n=l.length:=by
  rcases hcd.row.2 with⟨e,_⟩|⟨g,cap,cur,e,_⟩
  ·cases e
  ·cases e;rfl
 have hcin:(c,t)∈es:=Jm hei
 obtain⟨hcV,hcI, -⟩:=hcd.inn i ins (c,t) hi hei
 have hrow':=hcd.row
 have tyne:∀ {k:Nat} {T T':TypeId},(∃a,w.heap[k]? = some (.cells a T (0,0)))→(∃a,w.heap[k]? = some (.cells a T' (0,0)))→T=T':=fun⟨a,h1⟩ ⟨b,h2⟩=>by
  rw [h1] at h2
  cases h2
  rfl
 have hgc:=(Ya hrow' rfl).2.2
 have hcode:Z9 w' L (.slice (some ⟨gc,0,none⟩) n C) (l.set i ins') (es.set i (c',t')):=by
  refine⟨by simp [hlen],by rw [List.length_set,←hn];exact hrow,fun j x e hxj hej => ?_,?_,?_⟩
  ·by_cases e1 : j = i
   ·subst e1
    rw [Jf hlt] at hxj
    rw [Jf (by omega)] at hej
    cases hxj;cases hej
    exact⟨hV,hI,hok⟩
   ·rw [Je (Ne.symm e1)] at hxj hej
    obtain⟨g1,g2,g3⟩:=hcd.inn j x e hxj hej
    refine⟨⟨Yc g1.row fun k hk => ?_,g1.ok⟩,⟨Yc g2.row fun k hk => ?_,g2.ok⟩,g3⟩
    ·obtain ⟨-, h2, hc2⟩ := Ya g1.row hk
     refine hkeep k h2 (fun e2 => ?_) (fun hk' => ?_) (fun hk' => ?_)
     ·subst e2
      exact absurd (tyne hgc hc2) (by decide)
     ·exact nd_ne hcd.nda (i:=j) (j:=i) (u:=e.1) (v:=c) (by rw [List.getElem?_map,hej];rfl) (by rw [List.getElem?_map,hei];rfl) e1 hk hk'
     ·exact absurd (tyne hc2 (Ya hcI.row hk').2.2) (by decide)
    ·obtain ⟨-, h2, hc2⟩ := Ya g2.row hk
     refine hkeep k h2 (fun e2 => ?_) (fun hk' => ?_) (fun hk' => ?_)
     ·subst e2
      exact absurd (tyne hgc hc2) (by decide)
     ·exact absurd (tyne hc2 (Ya hcV.row hk').2.2) (by decide)
     ·exact nd_ne hcd.ndt (i:=j) (j:=i) (u:=e.2) (v:=t) (by rw [List.getElem?_map,hej];rfl) (by rw [List.getElem?_map,hei];rfl) e1 hk hk'
  ·rw [List.map_set]
   refine nd_set hcd.nda (x:=c) (by rw [List.getElem?_map,hei];rfl) fun k hk => ?_
   rcases hc k hk with h1|h1
   ·exact .inl h1
   ·refine .inr fun y hy hk' => ?_
    obtain⟨e,he2,rfl⟩:=List.mem_map.1 hy
    have:=(hcd.own_at he2 k).1 hk'
    omega
  ·rw [List.map_set]
   refine nd_set hcd.ndt (x:=t) (by rw [List.getElem?_map,hei];rfl) fun k hk => ?_
   rcases ht k hk with h1|h1
   ·exact .inl h1
   ·refine .inr fun y hy hk' => ?_
    obtain⟨e,he2,rfl⟩:=List.mem_map.1 hy
    have:=(hcd.own_at he2 k).2 hk'
    omega
 have hd:w'.ownsRow L 41 1 d bs.length (xs.set b (.slice (some ⟨gc,0,none⟩) n C)):=by
  rw [Qo hx]
  refine Yc h.row fun k hk => ?_
  obtain⟨-,h2,hc2⟩:=Ya h.row hk
  refine hkeep k h2 (fun e2 => ?_) (fun hk' => ?_) (fun hk' => ?_)
  ·subst e2
   exact absurd (tyne hgc hc2) (by decide)
  ·exact absurd (tyne hc2 (Ya hcV.row hk').2.2) (by decide)
  ·exact absurd (tyne hc2 (Ya hcI.row hk').2.2) (by decide)
 have:=h.put (w':=w') (l':=l.set i ins') (v' := .slice (some ⟨gc,0,none⟩) n C) (es':=es.set i (c',t')) hb hx he hcode (fun k h1 h2 h3 h4=>hkeep k h1 (fun e=>h2 (by subst e;rfl)) (h4 _ hcin).1 (h4 _ hcin).2) hd (fun k hk => .inl hk) (fun e k hee=>by
  rcases List.mem_or_eq_of_mem_set hee with h1|h1
  ·exact⟨fun hk => .inl ⟨e,h1,hk⟩,fun hk => .inl ⟨e,h1,hk⟩⟩
  ·subst h1
   refine⟨fun hk => ?_,fun hk => ?_⟩
   ·rcases hc k hk with h2 | h2
    ·exact .inl ⟨_,hcin,h2⟩
    ·exact .inr h2
   ·rcases ht k hk with h2 | h2
    ·exact .inl ⟨_,hcin,h2⟩
    ·exact .inr h2)
 rwa [Qo hx] at this
end
end
end Go.Proofs.YtamjcafjdioidaaGreat
