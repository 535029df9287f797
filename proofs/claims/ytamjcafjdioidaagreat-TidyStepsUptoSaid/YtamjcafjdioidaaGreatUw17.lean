/- Texts of the chain, without what is not wanted: TdU, TdV, TdSa, TdSb. No condition but sizes. -/
import Derived.Test.YtamjcafjdioidaaGreatUw16
set_option linter.unusedVariables false
set_option linter.unusedSimpArgs false
set_option maxRecDepth 100000
set_option maxHeartbeats 12800000
namespace Go.Proofs.YtamjcafjdioidaaGreat
def Za (p:Int) (x:Ins):Ins:=if x.op=25 then Q0 p x else x
theorem dropPhi_op (p:Int) (x:Ins):(Za p x).op=x.op:=by
 unfold Za
 split
 ·exact dropP_op p x
 ·rfl
theorem fronts_tail {y:Ins} {l:List Ins} (h:Ycm (y :: l)):Ycm l:=fun i j x x' hi hj hij ho=>h (i+1) (j+1) x x' (by simpa using hi) (by simpa using hj) (by omega) ho
theorem loseL_map {p : Int} : ∀ {l : List Ins}, Ycm l → Yaw p l = l.map (Za p)
 | [],_=>by simp [Yaw]
 | y :: l,h=>by
  by_cases ho:y.op=25
  ·have hy : Ybb y = true := by unfold Ybb; rw [beq_iff_eq]; exact ho
   have ih:=loseL_map (p:=p) (fronts_tail h)
   unfold Yaw at ih⊢
   rw [List.takeWhile_cons,List.dropWhile_cons,hy,if_pos rfl,if_pos rfl,List.map_cons,List.cons_append,ih,List.map_cons]
   congr 1
   unfold Za
   rw [if_pos ho]
  ·have hy : Ybb y = false := by unfold Ybb; rw [beq_eq_false_iff_ne]; exact ho
   have hno:=fronts_none h (by simpa using ho)
   unfold Yaw
   rw [List.takeWhile_cons,List.dropWhile_cons,hy,if_neg (by decide),if_neg (by decide),List.map_nil,List.nil_append]
   exact((List.map_congr_left (g:=id) fun x hx=>by unfold Za;rw [if_neg (hno x hx)];rfl).trans (List.map_id _)).symm
theorem dropP_mem {p q:Int} {x:Ins} (hs:x.to.Pairwise (· < ·)):q∈(Q0 p x).to↔q∈x.to∧q≠p:=by
 have hnd:x.to.Nodup:=hs.imp (fun {a b} h=>by omega)
 unfold Q0
 by_cases hp:p∈x.to
 ·rw [if_pos hp]
  show q∈x.to.eraseIdx (x.to.idxOf p)↔_
  rw [←List.erase_eq_eraseIdx_of_idxOf rfl,hnd.mem_erase_iff]
  constructor
  ·rintro⟨h1,h2⟩;exact⟨h2,h1⟩
  ·rintro⟨h1,h2⟩;exact⟨h2,h1⟩
 ·rw [if_neg hp]
  constructor
  ·intro h;exact⟨h,fun e=>hp (e▸h)⟩
  ·rintro⟨h, -⟩;exact h
theorem dropP_sub (p:Int) (x:Ins):(Q0 p x).to.Sublist x.to:=by
 unfold Q0
 split
 ·exact List.eraseIdx_sublist _ _
 ·exact List.Sublist.refl _
theorem LInv.lose {n:Nat} {l:List Ins} (h:LInv n l) (p:Int):LInv n (l.map (Za p)):=by
 have hne:∀x,x.op≠25→Za p x=x:=fun x ho=>by unfold Za;rw [if_neg ho]
 have he:∀x,x.op=25→Za p x=Q0 p x:=fun x ho=>by unfold Za;rw [if_pos ho]
 refine h.map (Za p) (dropPhi_op p) (fun x _ ho=>by rw [hne x ho]) (fun x _ ho=>by rw [hne x ho]) (fun x hx ho => ?_) (fun x hx ho => ?_) (fun x hx t ht => ?_) (fun x hx t ht => ?_) (fun x hx ho => ?_)
 ·rw [he x ho];exact phiLen_drop (h.wf.phi x hx ho)
 ·rw [he x ho];exact(h.srt x hx ho).sublist (dropP_sub p x)
 ·by_cases ho : x.op = 25
  ·rw [he x ho] at ht;exact h.wf.to_ x hx t (dropP_to ht)
  ·rw [hne x ho] at ht;exact h.wf.to_ x hx t ht
 ·obtain ⟨h1, -, h3⟩ := h.fin x hx
  rw [hne x h1] at ht
  exact h3 t ht
 ·rw [he x ho];exact(dropP_sub p x).length_le
theorem setEnd_eq {l ys:List Ins} {x y:Ins} (h:l=ys ++ [x]):setEnd l y=ys ++ [y]:=by
 subst h
 unfold setEnd
 rw [List.length_append,List.length_singleton,Nat.add_sub_cancel,List.set_append_right _ _ (Nat.le_refl _),Nat.sub_self,List.set_cons_zero]
theorem endI_set {bs:List (List Ins)} {b p:Nat} {l l':List Ins} (hb:bs[b]? = some l):endI (bs.set b l') p=if p=b then l'.getLast? else endI bs p:=by
 have hbl:=(Js.1 hb).1
 by_cases e:p=b
 ·subst e
  rw [if_pos rfl,Zi (l:=l') (by rw [Jf hbl])]
 ·rw [if_neg e]
  unfold endI
  rw [Je (Ne.symm e)]
theorem LInv.setEnd {n:Nat} {l:List Ins} (h:LInv n l) {t:Int} (ht:1≤t∧t<n):LInv n (setEnd l (brJ t)):=by
 obtain⟨x,hx⟩:∃x,l.getLast? = some x:=by
  cases hl:l.getLast? with
  | none=>exact absurd (List.getLast?_eq_none_iff.1 hl) h.wf.ne
  | some x=>exact⟨x,rfl⟩
 obtain⟨ys,hys⟩:=List.getLast?_eq_some_iff.1 hx
 rw [setEnd_eq hys]
 have hin:∀y,y∈ys ++ [brJ t]→y∈l∨y=brJ t:=fun y hy=>by
  rcases List.mem_append.1 hy with h1|h1
  ·left;rw [hys];exact List.mem_append_left _ h1
  ·right;exact List.mem_singleton.1 h1
 have hop:(brJ t).op=31:=rfl
 refine⟨⟨by simp,fun y hy ho => ?_,fun y hy ho => ?_,fun y hy ho => ?_,fun y hy s hs => ?_⟩,fun i j y z hi hj hij ho => ?_,fun i y hi hl => ?_,fun y hy => ?_,fun y hy ho => ?_,fun y hy => ?_⟩
 ·rcases hin y hy with h1 | h1
  ·exact h.wf.brif y h1 ho
  ·rw [h1,hop] at ho;omega
 ·rcases hin y hy with h1 | h1
  ·exact h.wf.br y h1 ho
  ·rw [h1];rfl
 ·rcases hin y hy with h1 | h1
  ·exact h.wf.phi y h1 ho
  ·rw [h1,hop] at ho;omega
 ·rcases hin y hy with h1 | h1
  ·exact h.wf.to_ y h1 s hs
  ·rw [h1] at hs
   have:s=t:=List.mem_singleton.1 hs
   omega
 ·have hjl:j<ys.length:=by
   rcases Nat.lt_or_ge j ys.length with h1|h1
   ·exact h1
   ·rw [List.getElem?_append_right h1] at hj
    have h2:=(Js.1 hj).1
    simp only [List.length_singleton] at h2
    rw [show j - ys.length=0 by omega] at hj
    cases hj
    rw [hop] at ho
    omega
  rw [List.getElem?_append_left hjl] at hj
  rw [List.getElem?_append_left (by omega)] at hi
  exact h.fr i j y z (by rw [hys,List.getElem?_append_left (by omega)];exact hi) (by rw [hys,List.getElem?_append_left hjl];exact hj) hij ho
 ·rw [List.length_append, List.length_singleton] at hl
  rw [List.getElem?_append_left (by omega)] at hi
  exact h.mid i y (by rw [hys,List.getElem?_append_left (by omega)];exact hi) (by rw [hys,List.length_append,List.length_singleton];omega)
 ·rw [List.getLast?_concat] at hy
  cases hy
  refine⟨by rw [hop];omega, .inl hop,fun s hs => ?_⟩
  have:s=t:=List.mem_singleton.1 hs
  omega
 ·rcases hin y hy with h1 | h1
  ·exact h.srt y h1 ho
  ·rw [h1,hop] at ho;omega
 ·rcases hin y hy with h1 | h1
  ·exact h.sz y h1
  ·rw [h1];exact⟨by simp [brJ],by simp [brJ]⟩
theorem wt_setEnd {l:List Ins} {x y:Ins} (hx:l.getLast? = some x) (h32:x.op=32) (hy:y.op≠32):wt (setEnd l y)+1=wt l:=by
 obtain⟨ys,hys⟩:=List.getLast?_eq_some_iff.1 hx
 rw [setEnd_eq hys,hys]
 unfold wt
 rw [List.length_append,List.length_append,List.countP_append,List.countP_append]
 have e1:List.countP (fun x=>x.op==32) [x]=1:=by simp [h32]
 have e2:List.countP (fun x=>x.op==32) [y]=0:=by simp [hy]
 rw [e1,e2]
 simp only [List.length_singleton]
 omega
theorem TInv.jump {bs : List (List Ins)} (h : TInv bs) {b : Nat} {l : List Ins} {x : Ins} (hb : bs[b]? = some l) (hx : l.getLast? = some x) (h32 : x.op = 32) {t o : Int} (ht : ∀ c, c ∈ x.to ↔ c = t ∨ c = o) :
  mz (bs.set b (setEnd l (brJ t)))<mz bs∧(o=t→TInv (bs.set b (setEnd l (brJ t))))∧(o≠t→TInv (loseB b (bs.set b (setEnd l (brJ t))) o.toNat))∧mz (loseB b (bs.set b (setEnd l (brJ t))) o.toNat)<mz bs:=by
 have hbl:=(Js.1 hb).1
 have hL:=h.loc b l hb
 have hxm:=List.mem_of_getLast? hx
 have htr:1≤t∧t<bs.length:=⟨(hL.fin x hx).2.2 t ((ht t).2 (.inl rfl)),(hL.wf.to_ x hxm t ((ht t).2 (.inl rfl))).2⟩
 have hor:1≤o∧o<bs.length:=⟨(hL.fin x hx).2.2 o ((ht o).2 (.inr rfl)),(hL.wf.to_ x hxm o ((ht o).2 (.inr rfl))).2⟩
 have hL1:=hL.setEnd htr
 obtain⟨ys,hys⟩:=List.getLast?_eq_some_iff.1 hx
 have hlast1:(setEnd l (brJ t)).getLast? = some (brJ t):=by rw [setEnd_eq hys,List.getLast?_concat]
 have hend:∀p c,Qt (bs.set b (setEnd l (brJ t))) p c↔(p=b∧c=t)∨(p≠b∧Qt bs p c):=fun p c=>by
  unfold Qt
  rw [endI_set hb]
  by_cases e:p=b
  ·rw [if_pos e, hlast1]
   constructor
   ·rintro ⟨y, hy, h1, h2⟩
    cases hy
    exact .inl ⟨e,List.mem_singleton.1 h2⟩
   ·rintro (⟨-, h1⟩ | ⟨h1, -⟩)
    ·exact⟨brJ t,rfl, .inl rfl,List.mem_singleton.2 h1⟩
    ·exact absurd e h1
  ·rw [if_neg e]
   constructor
   ·intro h1;exact .inr ⟨e,h1⟩
   ·rintro (⟨h1, -⟩ | ⟨-, h1⟩)
    ·exact absurd h1 e
    ·exact h1
 have hbend:∀c,Qt bs b c↔c=t∨c=o:=fun c=>by
  unfold Qt
  rw [Zi hb,hx]
  constructor
  ·rintro ⟨y, hy, -, h2⟩
   cases hy
   exact(ht c).1 h2
  ·intro h1
   exact⟨x,rfl, .inr h32,(ht c).2 h1⟩
 have hm1:mz (bs.set b (setEnd l (brJ t)))+1=mz bs:=by
  have h1:=mz_set (l':=setEnd l (brJ t)) hb
  have h2:=wt_setEnd (y:=brJ t) hx h32 (by show(31:Int)≠32;omega)
  omega
 have hloc1:∀(c:Nat) l',(bs.set b (setEnd l (brJ t)))[c]? = some l'→LInv bs.length l'∧∃l0,bs[c]? = some l0∧∀y,y∈l'→y.op=25→y∈l0:=fun c l' hl'=>by
  by_cases e:c=b
  ·subst e
   rw [Jf hbl] at hl'
   cases hl'
   refine⟨hL1,l,hb,fun y hy ho => ?_⟩
   rw [setEnd_eq hys] at hy
   rcases List.mem_append.1 hy with h1|h1
   ·rw [hys];exact List.mem_append_left _ h1
   ·rw [List.mem_singleton.1 h1] at ho
    have:(31:Int)=25:=ho
    omega
  ·rw [Je (Ne.symm e)] at hl'
   exact⟨h.loc c l' hl',l',hl',fun y hy _=>hy⟩
 have hoc:o.toNat<(bs.set b (setEnd l (brJ t))).length:=by rw [List.length_set];omega
 have hlo:(bs.set b (setEnd l (brJ t)))[o.toNat]? = some ((bs.set b (setEnd l (brJ t))).getD o.toNat []):=Zt hoc
 have hlos:=loseL_map (p:=(b:Int)) (hloc1 _ _ hlo).1.fr
 have hm2:mz (loseB b (bs.set b (setEnd l (brJ t))) o.toNat)=mz (bs.set b (setEnd l (brJ t))):=by
  unfold loseB
  have h1:=mz_set (l':=Yaw (b:Int) ((bs.set b (setEnd l (brJ t))).getD o.toNat [])) hlo
  rw [hlos,wt_map (dropPhi_op _)] at h1
  rw [hlos]
  omega
 refine⟨by omega,fun e => ?_,fun e => ?_,by omega⟩
 ·refine ⟨by rw [List.length_set]; exact h.pos, by have := h.size; omega, fun c l' hl' => by rw [List.length_set]; exact (hloc1 c l' hl').1, fun c l' hl' y hy ho => ?_⟩
  obtain⟨-,l0,h0,h1⟩:=hloc1 c l' hl'
  obtain⟨h2,h3⟩:=h.phi c l0 h0 y (h1 y hy ho) ho
  refine⟨h2,fun p => ?_⟩
  rw [h3 p,hend]
  by_cases e1:p.toNat=b
  ·rw [e1, hbend]
   constructor
   ·rintro⟨h4,h5⟩;exact⟨h4, .inl ⟨rfl,by omega⟩⟩
   ·rintro ⟨h4, h5 | h5⟩
    ·exact⟨h4, .inl h5.2⟩
    ·exact absurd rfl h5.1
  ·constructor
   ·rintro⟨h4,h5⟩;exact⟨h4, .inr ⟨e1,h5⟩⟩
   ·rintro ⟨h4, h5 | h5⟩
    ·exact absurd h5.1 e1
    ·exact⟨h4,h5.2⟩
 ·have hat:∀(c:Nat) l',(loseB b (bs.set b (setEnd l (brJ t))) o.toNat)[c]? = some l'→∃l1,(bs.set b (setEnd l (brJ t)))[c]? = some l1∧((c=o.toNat∧l'=l1.map (Za b))∨(c≠o.toNat∧l'=l1)):=fun c l' hl'=>by
   unfold loseB at hl'
   by_cases e1:c=o.toNat
   ·subst e1
    rw [Jf hoc,hlos] at hl'
    cases hl'
    exact⟨_,hlo, .inl ⟨rfl,rfl⟩⟩
   ·rw [Je (Ne.symm e1)] at hl'
    exact⟨l',hl', .inr ⟨e1,rfl⟩⟩
  have hendL:∀p c,Qt (loseB b (bs.set b (setEnd l (brJ t))) o.toNat) p c↔Qt (bs.set b (setEnd l (brJ t))) p c:=fun p c=>by
   unfold Qt loseB
   rw [endI_set hlo]
   by_cases e1:p=o.toNat
   ·subst e1
    rw [if_pos rfl,hlos,Zi hlo,List.getLast?_map]
    cases hq:((bs.set b (setEnd l (brJ t))).getD o.toNat []).getLast? with
    | none=>simp
    | some y =>
     have hne:=((hloc1 _ _ hlo).1.fin y hq).1
     have hd:Za b y=y:=by unfold Za;rw [if_neg hne]
     simp only [Option.map_some,hd]
   ·rw [if_neg e1]
  have hlenL:(loseB b (bs.set b (setEnd l (brJ t))) o.toNat).length=bs.length:=by rw [loseB_len,List.length_set]
  refine⟨by rw [hlenL];exact h.pos,by have:=h.size;omega,fun c l' hl' => ?_,fun c l' hl' y hy ho => ?_⟩
  ·rw [hlenL]
   obtain⟨l1,h1,⟨-,h2⟩|⟨-,h2⟩⟩:=hat c l' hl'
   ·rw [h2];exact(hloc1 c l1 h1).1.lose b
   ·rw [h2];exact(hloc1 c l1 h1).1
  ·obtain ⟨l1, h1, h2⟩ := hat c l' hl'
   obtain⟨hi,l0,h0,h01⟩:=hloc1 c l1 h1
   rcases h2 with⟨hc,rfl⟩|⟨hc,rfl⟩
   ·obtain ⟨z, hz, rfl⟩ := List.mem_map.1 hy
    rw [dropPhi_op] at ho
    obtain⟨g1,g2⟩:=h.phi c l0 h0 z (h01 z hz ho) ho
    refine⟨g1,fun p => ?_⟩
    have hd:Za b z=Q0 b z:=by unfold Za;rw [if_pos ho]
    rw [hd,dropP_mem (hi.srt z hz ho),g2 p,hendL,hend]
    constructor
    ·rintro⟨⟨h4,h5⟩,h6⟩;exact⟨h4, .inr ⟨by omega,h5⟩⟩
    ·rintro ⟨h4, h5 | h5⟩
     ·omega
     ·exact⟨⟨h4,h5.2⟩,by omega⟩
   ·obtain ⟨g1, g2⟩ := h.phi c l0 h0 y (h01 y hy ho) ho
    refine⟨g1,fun p => ?_⟩
    rw [g2 p,hendL,hend]
    by_cases e1:p.toNat=b
    ·rw [e1, hbend]
     constructor
     ·rintro⟨h4,h5⟩;exact⟨h4, .inl ⟨rfl,by omega⟩⟩
     ·rintro ⟨h4, h5 | h5⟩
      ·exact⟨h4, .inl h5.2⟩
      ·exact absurd rfl h5.1
    ·constructor
     ·rintro⟨h4,h5⟩;exact⟨h4, .inr ⟨e1,h5⟩⟩
     ·rintro ⟨h4, h5 | h5⟩
      ·exact absurd h5.1 e1
      ·exact⟨h4,h5.2⟩
theorem TInv.decided {bs bs':List (List Ins)} {R:List Bool} (h:TInv bs) (hd:Qe R bs=some bs'):TInv bs'∧mz bs'<mz bs:=by
 unfold Qe at hd
 cases hf:(List.range bs.length).find? (dcB R bs) with
 | none=>rw [hf] at hd;cases hd
 | some b =>
  rw [hf] at hd
  cases hd
  obtain⟨h1,h2, -⟩:=List.find?_range_eq_some.1 hf
  have hbl:=List.mem_range.1 h2
  have hb:bs[b]? = some (bs.getD b []):=Zt hbl
  unfold dcB at h1
  cases he:endI bs b with
  | none=>rw [he] at h1;simp at h1
  | some x =>
   rw [he] at h1
   have h32:x.op=32:=by simp at h1;exact h1.2.1
   have hx:(bs.getD b []).getLast? = some x:=by rw [←Zi hb];exact he
   have hxm:=List.mem_of_getLast? hx
   obtain⟨hto, -⟩:=(h.loc b _ hb).wf.brif x hxm h32
   obtain⟨t0,t1,hto⟩:∃t0 t1,x.to = [t0,t1]:=by
    match h9:x.to,hto with
    | [a,b],_=>exact⟨a,b,rfl⟩
   obtain⟨t,o,hgo,ht⟩:∃t o,Yad x=(t,o)∧∀c,c∈x.to↔c=t∨c=o:=by
    unfold Yad
    rw [hto]
    split
    ·exact⟨t0,t1,rfl,fun c=>by simp⟩
    ·exact⟨t1,t0,rfl,fun c=>by simp [or_comm]⟩
   obtain⟨g1,g2,g3,g4⟩:=h.jump hb hx h32 ht
   simp only [he,Option.map_some,Option.getD_some,hgo]
   unfold decAt
   by_cases e:o=t
   ·rw [if_pos e];exact⟨g2 e,g1⟩
   ·rw [if_neg e];exact⟨g3 e,g4⟩
theorem TInv.twice {bs bs':List (List Ins)} {R:List Bool} (h:TInv bs) (hd:Ya9 R bs=some bs'):TInv bs'∧mz bs'<mz bs:=by
 unfold Ya9 at hd
 cases hf:(List.range bs.length).find? (twB R bs) with
 | none=>rw [hf] at hd;cases hd
 | some b =>
  rw [hf] at hd
  cases hd
  obtain⟨h1,h2, -⟩:=List.find?_range_eq_some.1 hf
  have hbl:=List.mem_range.1 h2
  have hb:bs[b]? = some (bs.getD b []):=Zt hbl
  unfold twB at h1
  cases he:endI bs b with
  | none=>rw [he] at h1;simp at h1
  | some x =>
   rw [he] at h1
   have h32:x.op=32:=by simp at h1;exact h1.2.1
   have htt:x.to.getD 0 0=x.to.getD 1 0:=by simp only [Bool.and_eq_true,decide_eq_true_eq] at h1;exact h1.2.2
   have hx:(bs.getD b []).getLast? = some x:=by rw [←Zi hb];exact he
   have hxm:=List.mem_of_getLast? hx
   obtain⟨hto, -⟩:=(h.loc b _ hb).wf.brif x hxm h32
   obtain⟨t0,t1,hto⟩:∃t0 t1,x.to = [t0,t1]:=by
    match h9:x.to,hto with
    | [a,b],_=>exact⟨a,b,rfl⟩
   rw [hto] at htt
   have e:t0=t1:=by simpa using htt
   obtain⟨g1,g2, -, -⟩:=h.jump hb hx h32 (t:=t0) (o:=t1) (fun c=>by rw [hto];simp)
   simp only [he,Option.map_some,Option.getD_some,hto,Jq,List.getElem?_cons_zero]
   rw [Jq] at g1 g2
   exact⟨g2 e.symm,g1⟩
theorem phi_front {l:List Ins} {i:Nat} {x:Ins} (hi:i<(l.takeWhile Ybb).length) (hx:l[i]? = some x):x.op=25:=by
 induction l generalizing i with
 | nil=>simp at hx
 | cons y l ih =>
  rw [List.takeWhile_cons] at hi
  split at hi
  ·rename_i hy
   cases i with
   | zero=>cases hx;simpa [Ybb] using hy
   | succ i=>exact ih (by simpa using hi) (by simpa using hx)
  ·simp at hi
theorem LInv.erase {n i:Nat} {l:List Ins} {x:Ins} (h:LInv n l) (hx:l[i]? = some x) (h25:x.op=25):LInv n (l.eraseIdx i)∧(l.eraseIdx i).getLast? = l.getLast? := by
 have hil:=(Js.1 hx).1
 have hlen:(l.eraseIdx i).length=l.length - 1:=by rw [List.length_eraseIdx,if_pos hil]
 have hnl:i+1<l.length:=by
  rcases Nat.lt_or_ge (i+1) l.length with h1|h1
  ·exact h1
  ·have h2 : l.getLast? = some x := by rw [List.getLast?_eq_getElem?, show l.length - 1 = i by omega]; exact hx
   exact absurd h25 (h.fin x h2).1
 have hlast:(l.eraseIdx i).getLast? = l.getLast? := by
  rw [List.getLast?_eq_getElem?,List.getLast?_eq_getElem?,hlen,List.getElem?_eraseIdx,if_neg (by omega)]
  congr 1
  omega
 have hmem:∀y,y∈l.eraseIdx i→y∈l:=fun y hy=>List.mem_of_mem_eraseIdx hy
 refine⟨⟨⟨?_,fun y hy=>h.wf.brif y (hmem y hy),fun y hy=>h.wf.br y (hmem y hy),fun y hy=>h.wf.phi y (hmem y hy),fun y hy=>h.wf.to_ y (hmem y hy)⟩,fun a b y z ha hb hab ho => ?_,fun a y ha hl => ?_,fun y hy=>h.fin y (by rw [←hlast];exact hy),fun y hy=>h.srt y (hmem y hy),fun y hy=>h.sz y (hmem y hy)⟩,hlast⟩
 ·intro e
  rw [e] at hlen
  simp at hlen
  omega
 ·rw [List.getElem?_eraseIdx] at ha hb
  split at ha
  ·split at hb
   ·exact h.fr a b y z ha hb hab ho
   ·exact h.fr a (b+1) y z ha hb (by omega) ho
  ·split at hb
   ·omega
   ·exact h.fr (a+1) (b+1) y z ha hb (by omega) ho
 ·rw [List.getElem?_eraseIdx] at ha
  rw [hlen] at hl
  split at ha
  ·exact h.mid a y ha (by omega)
  ·exact h.mid (a+1) y ha (by omega)
theorem subIns_to (σ:Opd→Opd) (x:Ins):(subIns σ x).to=x.to:=rfl
theorem subIns_args (σ:Opd→Opd) (x:Ins):(subIns σ x).args=x.args.map σ:=rfl
theorem TInv.single {bs bs':List (List Ins)} {R:List Bool} (h:TInv bs) (hd:Qw R bs=some bs'):TInv bs'∧mz bs'<mz bs:=by
 unfold Qw at hd
 cases hf:(List.range bs.length).find? (sgB R bs) with
 | none=>rw [hf] at hd;cases hd
 | some b =>
  rw [hf] at hd
  simp only [Option.bind_some] at hd
  obtain⟨h1,h2, -⟩:=List.find?_range_eq_some.1 hf
  have hbl:=List.mem_range.1 h2
  have hb:bs[b]? = some (bs.getD b []):=Zt hbl
  obtain⟨l,hl⟩:∃l,l=bs.getD b []:=⟨_,rfl⟩
  rw [←hl] at hd hb
  cases hp:Q7 l with
  | none=>rw [hp] at hd;cases hd
  | some i =>
   rw [hp] at hd
   simp only [Option.bind_some] at hd
   cases hx:l[i]? with
   | none=>rw [hx] at hd;cases hd
   | some x =>
    rw [hx] at hd
    simp only [Option.bind_some] at hd
    cases hv:Ya2 x with
    | none=>rw [hv] at hd;cases hd
    | some v =>
     rw [hv] at hd
     simp only [Option.map_some,Option.some.injEq] at hd
     unfold Q7 at hp
     obtain⟨-,hi, -⟩:=List.find?_range_eq_some.1 hp
     have h25:=phi_front (List.mem_range.1 hi) hx
     obtain⟨hE,hlast⟩:=(h.loc b l hb).erase hx h25
     unfold Yai at hd
     rw [←hl] at hd
     have hil:=(Js.1 hx).1
     have hend0:∀p,endI (bs.set b (l.eraseIdx i)) p=endI bs p:=fun p=>by
      rw [endI_set hb]
      by_cases e:p=b
      ·subst e;rw [if_pos rfl,hlast,Zi hb]
      ·rw [if_neg e]
     have hend:∀p c,Qt bs' p c↔Qt bs p c:=fun p c=>by
      rw [←hd]
      unfold Qt
      have e1:endI (Yaq (rsub x.reg v) (bs.set b (l.eraseIdx i))) p=(endI bs p).map (subIns (rsub x.reg v)):=by
       rw [←hend0 p]
       unfold Yaq endI
       rw [List.getElem?_map]
       cases hq:(bs.set b (l.eraseIdx i))[p]? with
       | none=>rfl
       | some q=>simp
      rw [e1]
      cases endI bs p with
      | none=>simp
      | some y =>
       simp only [Option.map_some,Option.some.injEq]
       constructor
       ·rintro⟨z,rfl,g1,g2⟩;exact⟨y,rfl,g1,g2⟩
       ·rintro⟨z,rfl,g1,g2⟩;exact⟨_,rfl,g1,g2⟩
     have hat:∀(c:Nat) l',bs'[c]? = some l'→∃l1,l'=l1.map (subIns (rsub x.reg v))∧LInv bs.length l1∧∃l0,bs[c]? = some l0∧∀y,y∈l1→y∈l0:=fun c l' hl'=>by
      rw [←hd] at hl'
      unfold Yaq at hl'
      rw [List.getElem?_map] at hl'
      cases hq:(bs.set b (l.eraseIdx i))[c]? with
      | none=>rw [hq] at hl';cases hl'
      | some l1 =>
       rw [hq] at hl'
       cases hl'
       refine⟨l1,rfl,?_⟩
       by_cases e:c=b
       ·subst e
        rw [Jf hbl] at hq
        cases hq
        exact⟨hE,l,hb,fun y hy=>List.mem_of_mem_eraseIdx hy⟩
       ·rw [Je (Ne.symm e)] at hq
        exact⟨h.loc c l1 hq,l1,hq,fun y hy=>hy⟩
     have hlen:bs'.length=bs.length:=by rw [←hd];simp [Yaq]
     have hmz:mz bs'<mz bs:=by
      have g1:=mz_set (l':=l.eraseIdx i) hb
      have g2:mz bs'=mz (bs.set b (l.eraseIdx i)):=by
       rw [←hd]
       unfold mz Yaq
       rw [List.map_map]
       congr 1
       refine List.map_congr_left fun l1 _ => ?_
       exact wt_map (g:=subIns (rsub x.reg v)) (fun y=>rfl) l1
      have g3:wt (l.eraseIdx i)<wt l:=by
       unfold wt
       have g4:=(List.eraseIdx_sublist l i).countP_le (p:=fun x=>x.op==32)
       rw [List.length_eraseIdx,if_pos hil]
       omega
      omega
     refine⟨⟨by rw [hlen];exact h.pos,by have:=h.size;omega,fun c l' hl' => ?_,fun c l' hl' y hy ho => ?_⟩,hmz⟩
     ·rw [hlen]
      obtain⟨l1,rfl,hi1, -⟩:=hat c l' hl'
      refine hi1.map (subIns (rsub x.reg v)) (fun y=>rfl) (fun y _ _=>by rw [subIns_args,List.length_map]) (fun y _ _=>rfl) (fun y hy ho => ?_) (fun y hy ho=>hi1.srt y hy ho) (fun y hy t ht=>hi1.wf.to_ y hy t ht) (fun y hy t ht=>(hi1.fin y hy).2.2 t ht) (fun y hy ho=>Nat.le_refl _)
      rw [subIns_args,List.length_map]
      exact hi1.wf.phi y hy ho
     ·obtain ⟨l1, rfl, hi1, l0, h0, h01⟩ := hat c l' hl'
      obtain⟨z,hz,rfl⟩:=List.mem_map.1 hy
      obtain⟨g1,g2⟩:=h.phi c l0 h0 z (h01 z hz) ho
      refine⟨g1,fun p => ?_⟩
      rw [subIns_to,g2 p,hend]
def dropG (gone:List Bool) (k:Nat) (l:List Ins):List Ins:=(List.range k).foldl (fun l p=>if gone.getD p false=true then Yaw p l else l) l
def Qz (gone:List Bool) (k:Nat) (x:Ins):Ins:=(List.range k).foldl (fun x p=>if gone.getD p false=true then Za p x else x) x
theorem dropG_next (gone:List Bool) (k:Nat) (l:List Ins):dropG gone (k+1) l=if gone.getD k false=true then Yaw k (dropG gone k l) else dropG gone k l:=by
 unfold dropG
 rw [List.range_succ,List.foldl_append]
 rfl
theorem Ya4 (gone:List Bool) (k:Nat) (x:Ins):Qz gone (k+1) x=if gone.getD k false=true then Za k (Qz gone k x) else Qz gone k x:=by
 unfold Qz
 rw [List.range_succ,List.foldl_append]
 rfl
theorem Ycf (gone : List Bool) (x : Ins) : ∀ k, (Qz gone k x).op = x.op
 | 0=>rfl
 | k+1=>by
  rw [Ya4]
  split
  ·rw [dropPhi_op,Ycf gone x k]
  ·exact Ycf gone x k
theorem dropGI_no (gone : List Bool) {x : Ins} (h : x.op ≠ 25) : ∀ k, Qz gone k x = x
 | 0=>rfl
 | k+1=>by
  rw [Ya4,dropGI_no gone h k]
  split
  ·unfold Za;rw [if_neg h]
  ·rfl
theorem dropGI_phi (gone : List Bool) {x : Ins} (h : x.op = 25) (hs : x.to.Pairwise (· < ·)) : ∀ k, (Qz gone k x).to.Pairwise (· < ·) ∧ ∀ q : Int, q ∈ (Qz gone k x).to ↔ q ∈ x.to ∧ ¬ (0 ≤ q ∧ q.toNat < k ∧ gone.getD q.toNat false = true)
 | 0=>⟨hs,fun q=>by simp [Qz]⟩
 | k+1=>by
  obtain⟨h1,h2⟩:=dropGI_phi gone h hs k
  rw [Ya4]
  by_cases hg:gone.getD k false=true
  ·have hd : Za k (Qz gone k x) = Q0 k (Qz gone k x) := by unfold Za; rw [if_pos (by rw [Ycf]; exact h)]
   rw [if_pos hg,hd]
   refine⟨h1.sublist (dropP_sub _ _),fun q => ?_⟩
   rw [dropP_mem h1,h2 q]
   constructor
   ·rintro ⟨⟨a, b⟩, c⟩
    refine⟨a,fun d => ?_⟩
    by_cases e:q.toNat=k
    ·omega
    ·exact b ⟨d.1,by omega,d.2.2⟩
   ·rintro ⟨a, b⟩
    refine⟨⟨a,fun d=>b ⟨d.1,by omega,d.2.2⟩⟩,fun e => ?_⟩
    subst e
    exact b ⟨by omega,by omega,by rw [Int.toNat_natCast];exact hg⟩
  ·rw [if_neg hg]
   refine⟨h1,fun q => ?_⟩
   rw [h2 q]
   constructor
   ·rintro ⟨a, b⟩
    refine⟨a,fun d => ?_⟩
    by_cases e:q.toNat=k
    ·rw [e] at d;exact hg d.2.2
    ·exact b ⟨d.1,by omega,d.2.2⟩
   ·rintro ⟨a, b⟩
    exact⟨a,fun d=>b ⟨d.1,by omega,d.2.2⟩⟩
theorem dropG_map {n : Nat} {l : List Ins} (gone : List Bool) (h : LInv n l) : ∀ k, dropG gone k l = l.map (Qz gone k) ∧ LInv n (dropG gone k l)
 | 0=>⟨(List.map_id l).symm,h⟩
 | k+1=>by
  obtain⟨h1,h2⟩:=dropG_map gone h k
  rw [dropG_next]
  by_cases hg:gone.getD k false=true
  ·rw [if_pos hg, loseL_map h2.fr]
   refine⟨?_,h2.lose k⟩
   rw [h1,List.map_map]
   refine List.map_congr_left fun x _ => ?_
   rw [Ya4,if_pos hg]
   rfl
  ·rw [if_neg hg]
   refine⟨?_,h2⟩
   rw [h1]
   refine List.map_congr_left fun x _ => ?_
   rw [Ya4,if_neg hg]
theorem loseRow_eq {gone : List Bool} {b : Nat} {bs : List (List Ins)} (hb : b < bs.length) (hg : Kept gone b) : ∀ k, Qr gone b bs k = bs.set b (dropG gone k (bs.getD b []))
 | 0=>by
  have h1:bs[b]? = some (bs.getD b []):=Zt hb
  show bs=bs.set b (bs.getD b [])
  exact(Qo h1).symm
 | k+1=>by
  unfold Kept at hg
  rw [Q6,loseRow_eq hb hg k,dropG_next]
  unfold loseIf
  rw [hg]
  by_cases hk:gone.getD k false=true
  ·rw [hk, if_pos (by rfl), if_pos rfl]
   unfold loseB
   have e:(bs.set b (dropG gone k (bs.getD b []))).getD b []=dropG gone k (bs.getD b []):=by
    rw [Jq (l:=bs.set b _),Jf hb];rfl
   rw [e,List.set_set]
  ·have hk' : gone.getD k false = false := by simpa using hk
   rw [hk',if_neg (by decide),if_neg (by decide)]
theorem loseRow_gone {gone : List Bool} {b : Nat} {bs : List (List Ins)} (hg : ¬ Kept gone b) : ∀ k, Qr gone b bs k = bs
 | 0=>rfl
 | k+1=>by
  have hg':gone.getD b false=true:=by simpa [Kept] using hg
  rw [Q6,loseRow_gone hg k]
  unfold loseIf
  rw [hg']
  simp
theorem Ycd {gone : List Bool} {n : Nat} {bs : List (List Ins)} (c : Nat) : ∀ k, k ≤ bs.length → (loseAll gone n bs k).length = bs.length ∧ (loseAll gone n bs k)[c]? = (bs[c]?).map fun l => if c < k ∧ gone.getD c false = false then dropG gone n l else l
 | 0,_=>by
  refine⟨rfl,?_⟩
  show bs[c]? = _
  cases bs[c]? <;> simp
 | k+1,hk=>by
  obtain⟨h1,h2⟩:=Ycd (gone:=gone) (n:=n) (bs:=bs) c k (by omega)
  rw [Yar]
  have hkl:k<(loseAll gone n bs k).length:=by omega
  by_cases hg:Kept gone k
  ·rw [loseRow_eq hkl hg]
   refine⟨by rw [List.length_set];exact h1,?_⟩
   by_cases e:c=k
   ·subst e
    rw [Jf hkl,Jq,h2,Jg (show c<bs.length by omega)]
    simp only [Option.map_some,Option.getD_some,Nat.lt_irrefl,false_and,if_false,Option.some.injEq]
    rw [if_pos ⟨Nat.lt_succ_self c,hg⟩]
   ·rw [Je (Ne.symm e), h2]
    have:(c<k∧gone.getD c false=false)↔(c<k+1∧gone.getD c false=false):=by
     constructor
     ·rintro⟨a,b⟩;exact⟨by omega,b⟩
     ·rintro⟨a,b⟩;exact⟨by omega,b⟩
    simp only [this]
  ·rw [loseRow_gone hg]
   refine⟨h1,?_⟩
   rw [h2]
   have:(c<k∧gone.getD c false=false)↔(c<k+1∧gone.getD c false=false):=by
    constructor
    ·rintro⟨a,b⟩;exact⟨by omega,b⟩
    ·rintro ⟨a, b⟩
     refine⟨?_,b⟩
     by_cases e:c=k
     ·subst e;exact absurd b hg
     ·omega
   simp only [this]
theorem reach_zero {bs:List (List Ins)} (h:0<bs.length):(Yw bs)[0]? = some true:=by
 rw [reach_at bs 0 h]
 have:=((Ybe bs).mem 0).2 ⟨h, .start⟩
 simp [this]
theorem kept_reach {bs:List (List Ins)} {c:Nat} (hc:c<bs.length):Kept ((Yw bs).map fun r => !r) c↔(Yw bs)[c]? = some true:=by
 unfold Kept
 have hl:c<(Yw bs).length:=by rw [Qj];exact hc
 rw [Jq,List.getElem?_map,Jg hl]
 simp
theorem mz_eq {bs bs':List (List Ins)} (h:∀(c:Nat),(bs'[c]?).map wt=(bs[c]?).map wt):mz bs'=mz bs:=by
 unfold mz
 congr 1
 apply List.ext_getElem?
 intro c
 rw [List.getElem?_map,List.getElem?_map]
 exact h c
theorem TInv.unseen {bs bs':List (List Ins)} (h:TInv bs) (hd:Yal (Yw bs) bs=some bs'):TInv bs'∧mz bs'<mz bs:=by
 unfold Yal at hd
 split at hd
 case isFalse=>cases hd
 rename_i hany
 cases hd
 obtain⟨gone,hgone⟩:∃gone,gone=(Yw bs).map fun r => !r:=⟨_,rfl⟩
 rw [←hgone]
 have hgl:gone.length=bs.length:=by rw [hgone,List.length_map,Qj]
 have hkr:∀c,c<bs.length→(Kept gone c↔(Yw bs)[c]? = some true):=fun c hc=>by rw [hgone];exact kept_reach hc
 have hat:=fun c=>Ycd (gone:=gone) (n:=bs.length) (bs:=bs) c bs.length (Nat.le_refl _)
 have hlen:(loseAll gone bs.length bs bs.length).length=bs.length:=(hat 0).1
 have hget:∀(c:Nat) l',(loseAll gone bs.length bs bs.length)[c]? = some l'→∃l,bs[c]? = some l∧((Kept gone c∧l'=l.map (Qz gone bs.length)∧LInv bs.length l')∨(¬Kept gone c∧l'=l)):=fun c l' hl'=>by
  rw [(hat c).2] at hl'
  cases hl:bs[c]? with
  | none=>rw [hl] at hl';cases hl'
  | some l =>
   rw [hl] at hl'
   have hcl:=(Js.1 hl).1
   refine⟨l,rfl,?_⟩
   obtain⟨h1,h2⟩:=dropG_map gone (h.loc c l hl) bs.length
   by_cases hk:Kept gone c
   ·simp only [Option.map_some, Option.some.injEq] at hl'
    rw [if_pos ⟨hcl,hk⟩] at hl'
    subst hl'
    exact .inl ⟨hk,h1,h2⟩
   ·simp only [Option.map_some, Option.some.injEq] at hl'
    rw [if_neg (fun e=>hk e.2)] at hl'
    exact .inr ⟨hk,hl'.symm⟩
 have hendI:∀p,endI (loseAll gone bs.length bs bs.length) p=endI bs p:=fun p=>by
  cases hl:bs[p]? with
  | none =>
   unfold endI
   rw [(hat p).2,hl]
   rfl
  | some l =>
   have hpl:=(Js.1 hl).1
   obtain⟨l',hl'⟩:∃l',(loseAll gone bs.length bs bs.length)[p]? = some l':=⟨_,Jg (by omega)⟩
   obtain⟨l0,h0,h1⟩:=hget p l' hl'
   rw [hl] at h0
   cases h0
   rw [Zi hl',Zi hl]
   rcases h1 with⟨-,h1, -⟩|⟨-,h1⟩
   ·rw [h1, List.getLast?_map]
    cases hq:l.getLast? with
    | none=>rfl
    | some y=>simp only [Option.map_some];rw [dropGI_no gone ((h.loc p l hl).fin y hq).1]
   ·rw [h1]
 have hEnd:∀p c,Qt (loseAll gone bs.length bs bs.length) p c↔Qt bs p c:=fun p c=>by unfold Qt;rw [hendI]
 have hmz:mz (loseAll gone bs.length bs bs.length)=mz bs:=mz_eq fun c=>by
  cases hl:bs[c]? with
  | none=>rw [(hat c).2,hl];rfl
  | some l =>
   have hcl:=(Js.1 hl).1
   obtain⟨l',hl'⟩:∃l',(loseAll gone bs.length bs bs.length)[c]? = some l':=⟨_,Jg (by omega)⟩
   obtain⟨l0,h0,h1⟩:=hget c l' hl'
   rw [hl] at h0
   cases h0
   rw [hl']
   simp only [Option.map_some,Option.some.injEq]
   rcases h1 with⟨-,h1, -⟩|⟨-,h1⟩
   ·rw [h1];exact wt_map (fun x=>Ycf gone x _) l
   ·rw [h1]
 constructor
 ·refine TInv.without (by omega) ((hkr 0 h.pos).2 (reach_zero h.pos)) (by rw [hlen]; exact h.pos) (by rw [hmz]; exact h.size) (fun c l' hl' hk => ?_) (fun c l' hl' hk x hx t ht => ?_) (fun c l' hl' hk x hx ho => ?_)
  ·rw [hlen]
   obtain⟨l,hl,⟨-, -,h1⟩|⟨h1, -⟩⟩:=hget c l' hl'
   ·exact h1
   ·exact absurd hk h1
  ·obtain ⟨l, hl, ⟨-, h1, h2⟩ | ⟨h1, -⟩⟩ := hget c l' hl'
   ·have hcl := (Js.1 hl).1
    have hr:=h2.wf.to_ x hx t ht
    subst h1
    obtain⟨y,hy,rfl⟩:=List.mem_map.1 hx
    by_cases ho:y.op=25
    ·obtain ⟨-, h3⟩ := dropGI_phi gone ho ((h.loc c l hl).srt y hy ho) bs.length
     have h4:=((h3 t).1 ht).2
     unfold Kept
     cases hg:gone.getD t.toNat false with
     | false=>rfl
     | true=>exact absurd ⟨hr.1,by omega,hg⟩ h4
    ·rw [dropGI_no gone ho] at ht
     rcases (h.loc c l hl).kinds hy with h3|h3|⟨h3,h4⟩
     ·exact absurd h3 ho
     ·rw [h3] at ht;cases ht
     ·have h5 : Qt bs c t := ⟨y, by rw [Zi hl]; exact h3, h4, ht⟩
      have h6:=(Ya3 hr).1 h5
      have h7:=(hkr c hcl).1 hk
      refine(hkr t.toNat (by omega)).2 (reach_step h7 hcl ?_ (by omega))
      rw [show((t.toNat:Nat):Int)=t by omega]
      exact h6
   ·exact absurd hk h1
  ·obtain ⟨l, hl, ⟨-, h1, h2⟩ | ⟨h1, -⟩⟩ := hget c l' hl'
   ·subst h1
    obtain⟨y,hy,rfl⟩:=List.mem_map.1 hx
    rw [Ycf] at ho
    obtain⟨g1,g2⟩:=h.phi c l hl y hy ho
    refine⟨g1,fun p => ?_⟩
    obtain⟨-,h3⟩:=dropGI_phi gone ho ((h.loc c l hl).srt y hy ho) bs.length
    rw [h3 p,g2 p,hEnd]
    constructor
    ·rintro ⟨⟨a, b⟩, d⟩
     refine⟨a,?_,b⟩
     have hpl:=Yb0 b
     unfold Kept
     cases hg:gone.getD p.toNat false with
     | false=>rfl
     | true=>exact absurd ⟨a,hpl,hg⟩ d
    ·rintro ⟨a, b, d⟩
     refine⟨⟨a,d⟩,fun e => ?_⟩
     unfold Kept at b
     rw [e.2.2] at b
     cases b
   ·exact absurd hk h1
 ·have h1 := mz_without (bs := loseAll gone bs.length bs bs.length) (gone := gone)
  obtain⟨r,hr,hr2⟩:=List.any_eq_true.1 hany
  obtain⟨c,hc⟩:=List.mem_iff_getElem?.1 hr
  have hcl:=(Js.1 hc).1
  rw [Qj] at hcl
  have hrf:r=false:=by simpa using hr2
  have hg:gone.getD c false=true:=by
   rw [hgone,Jq,List.getElem?_map,hc,hrf]
   rfl
  have h2:c∈(List.range (loseAll gone bs.length bs bs.length).length).filter fun b=>gone.getD b false:=List.mem_filter.2 ⟨List.mem_range.2 (by omega),hg⟩
  have h3:=List.length_pos_of_mem h2
  omega
theorem bsGo_spec {l:List Int} {x:Int} (hs:l.Pairwise (· < ·)):∀(k lo hi:Nat),lo≤hi→hi≤l.length→hi - lo≤k→(∀i v,i<lo→l[i]? = some v→v<x)→(∀(i:Nat) v,hi≤i→l[i]? = some v→x≤v)→
  (∀(i:Nat) v,i<bsGo l x k lo hi→l[i]? = some v→v<x)∧(∀(i:Nat) v,bsGo l x k lo hi≤i→l[i]? = some v→x≤v)
 | 0,lo,hi,h1,h2,h3,h4,h5=>by
  have:lo=hi:=by omega
  subst this
  exact⟨h4,h5⟩
 | k+1,lo,hi,h1,h2,h3,h4,h5=>by
  rw [bsGo]
  by_cases hlt:lo<hi
  ·rw [if_pos hlt]
   have hm:(lo+hi) / 2<l.length:=by omega
   have hmg:l[(lo+hi) / 2]? = some (l.getD ((lo+hi) / 2) 0):=Zt hm
   have hsorted:∀(i j:Nat) u v,i<j→l[i]? = some u→l[j]? = some v→u<v:=fun i j u v hij hu hv=>by
    have hi':=(Js.1 hu).1
    have hj':=(Js.1 hv).1
    rw [Jg hi'] at hu
    rw [Jg hj'] at hv
    cases hu;cases hv
    exact List.pairwise_iff_getElem.1 hs i j hi' hj' hij
   by_cases hx:l.getD ((lo+hi) / 2) 0<x
   ·rw [if_pos hx]
    refine bsGo_spec hs k _ hi (by omega) h2 (by omega) (fun i v hi' hv => ?_) h5
    by_cases e:i=(lo+hi) / 2
    ·subst e;rw [hmg] at hv;cases hv;exact hx
    ·have := hsorted i ((lo + hi) / 2) v _ (by omega) hv hmg
     omega
   ·rw [if_neg hx]
    refine bsGo_spec hs k lo _ (by omega) (by omega) (by omega) h4 (fun i v hi' hv => ?_)
    by_cases e:i=(lo+hi) / 2
    ·subst e;rw [hmg] at hv;cases hv;omega
    ·have := hsorted ((lo + hi) / 2) i _ v (by omega) hmg hv
     omega
  ·rw [if_neg hlt]
   have:lo=hi:=by omega
   subst this
   exact⟨h4,h5⟩
theorem insert_take {α : Type} : ∀ (l : List α) (i : Nat) (a : α), i ≤ l.length → l.insertIdx i a = l.take i ++ a :: l.drop i
 | l,0,a,_=>by simp
 | [],i+1,a,h=>by simp at h
 | b :: l,i+1,a,h=>by
  rw [List.insertIdx_succ_cons,insert_take l i a (by simpa using h)]
  simp
theorem insert_sorted {l:List Int} {q:Int} (hs:l.Pairwise (· < ·)) (hq:q∉l):(l.insertIdx (bsI l q) q).Pairwise (· < ·):=by
 obtain⟨h1,h2⟩:=bsGo_spec (x:=q) hs l.length 0 l.length (Nat.zero_le _) (Nat.le_refl _) (by omega) (fun i v hi=>by omega) (fun i v hi hv=>by have:=(Js.1 hv).1;omega)
 have hle:=bsI_le l q
 rw [insert_take l (bsI l q) q hle,List.pairwise_append,List.pairwise_cons]
 have hk:∀v,v∈l.take (bsI l q)→v<q:=fun v hv=>by
  obtain⟨i,hi⟩:=List.mem_iff_getElem?.1 hv
  have hil:=(Js.1 hi).1
  rw [List.length_take] at hil
  rw [List.getElem?_take_of_lt (by omega)] at hi
  exact h1 i v (by show i<bsI l q;omega) hi
 have hd:∀v,v∈l.drop (bsI l q)→q<v:=fun v hv=>by
  obtain⟨i,hi⟩:=List.mem_iff_getElem?.1 hv
  rw [List.getElem?_drop] at hi
  have h3:=h2 (bsI l q+i) v (by show bsI l q≤_;omega) hi
  have h4:v≠q:=fun e=>hq (e▸Jm hi)
  omega
 refine⟨hs.sublist (List.take_sublist _ _),⟨hd,hs.sublist (List.drop_sublist _ _)⟩,fun a ha b hb => ?_⟩
 rcases List.mem_cons.1 hb with h3|h3
 ·subst h3;exact hk a ha
 ·have := hk a ha
  have:=hd b h3
  omega
theorem movI_mem {p q r:Int} {x:Ins} (hs:x.to.Pairwise (· < ·)):r∈(movI p q x).to↔(r∈x.to∧r≠p)∨(r=q∧p∈x.to):=by
 have hnd:x.to.Nodup:=hs.imp (fun {a b} h=>by omega)
 unfold movI
 by_cases hp:p∈x.to
 ·rw [if_pos hp]
  show r∈(x.to.eraseIdx (x.to.idxOf p)).insertIdx _ q↔_
  rw [List.mem_insertIdx (bsI_le _ _),←List.erase_eq_eraseIdx_of_idxOf rfl,hnd.mem_erase_iff]
  constructor
  ·rintro (h | ⟨h1, h2⟩)
   ·exact .inr ⟨h,hp⟩
   ·exact .inl ⟨h2,h1⟩
  ·rintro (⟨h1, h2⟩ | ⟨h, -⟩)
   ·exact .inr ⟨h2,h1⟩
   ·exact .inl h
 ·rw [if_neg hp]
  constructor
  ·intro h;exact .inl ⟨h,fun e=>hp (e▸h)⟩
  ·rintro (⟨h, -⟩ | ⟨-, h⟩)
   ·exact h
   ·exact absurd h hp
theorem movI_sorted {p q:Int} {x:Ins} (hs:x.to.Pairwise (· < ·)) (hq:q∉x.to):(movI p q x).to.Pairwise (· < ·):=by
 unfold movI
 split
 ·exact insert_sorted (hs.sublist (List.eraseIdx_sublist _ _)) fun h=>hq (List.mem_of_mem_eraseIdx h)
 ·exact hs
theorem movI_lens {p q:Int} {x:Ins} (h:x.args.length=x.to.length):(movI p q x).args.length=(movI p q x).to.length∧(movI p q x).to.length=x.to.length:=by
 unfold movI
 split
 ·rename_i hp
  have hk:=List.idxOf_lt_length_of_mem hp
  have e1:(x.to.eraseIdx (x.to.idxOf p)).length=x.to.length - 1:=by rw [List.length_eraseIdx,if_pos hk]
  have e2:(x.args.eraseIdx (x.to.idxOf p)).length=x.to.length - 1:=by rw [List.length_eraseIdx,if_pos (by omega),h]
  have hb:=bsI_le (x.to.eraseIdx (x.to.idxOf p)) q
  show(List.insertIdx _ _ _).length=(List.insertIdx _ _ _).length∧(List.insertIdx _ _ _).length=_
  rw [List.length_insertIdx_of_le_length (by omega),List.length_insertIdx_of_le_length hb]
  omega
 ·exact⟨h,rfl⟩
theorem LInv.join {n:Nat} {la lb:List Ins} (ha:LInv n la) (hb:LInv n lb) (hno:∀x,x∈lb→x.op≠25):LInv n (la.dropLast++lb):=by
 have hin:∀y,y∈la.dropLast++lb→y∈la∨y∈lb:=fun y hy=>by
  rcases List.mem_append.1 hy with h1|h1
  ·exact .inl ((List.dropLast_sublist la).subset h1)
  ·exact .inr h1
 have hbn:=hb.wf.ne
 have hlast:(la.dropLast++lb).getLast? = lb.getLast? := by
  cases hl:lb.getLast? with
  | none=>exact absurd (List.getLast?_eq_none_iff.1 hl) hbn
  | some x =>
   obtain⟨ys,hys⟩:=List.getLast?_eq_some_iff.1 hl
   rw [hys,←List.append_assoc,List.getLast?_concat]
 have hla:∀i,i<la.dropLast.length→la.dropLast[i]? = la[i]? := fun i hi=>by
  rw [List.getElem?_dropLast,if_pos (by rwa [List.length_dropLast] at hi)]
 refine⟨⟨fun e=>hbn (List.append_eq_nil_iff.1 e).2,fun y hy ho => ?_,fun y hy ho => ?_,fun y hy ho => ?_,fun y hy t ht => ?_⟩,fun i j y z hi hj hij ho => ?_,fun i y hi hl => ?_,fun y hy=>hb.fin y (by rw [←hlast];exact hy),fun y hy ho => ?_,fun y hy => ?_⟩
 ·rcases hin y hy with h1 | h1
  ·exact ha.wf.brif y h1 ho
  ·exact hb.wf.brif y h1 ho
 ·rcases hin y hy with h1 | h1
  ·exact ha.wf.br y h1 ho
  ·exact hb.wf.br y h1 ho
 ·rcases hin y hy with h1 | h1
  ·exact ha.wf.phi y h1 ho
  ·exact hb.wf.phi y h1 ho
 ·rcases hin y hy with h1 | h1
  ·exact ha.wf.to_ y h1 t ht
  ·exact hb.wf.to_ y h1 t ht
 ·have hjl:j<la.dropLast.length:=by
   rcases Nat.lt_or_ge j la.dropLast.length with h1|h1
   ·exact h1
   ·rw [List.getElem?_append_right h1] at hj
    exact absurd ho (hno z (Jm hj))
  rw [List.getElem?_append_left hjl,hla j hjl] at hj
  rw [List.getElem?_append_left (by omega),hla i (by omega)] at hi
  exact ha.fr i j y z hi hj hij ho
 ·rw [List.length_append] at hl
  by_cases h1:i<la.dropLast.length
  ·rw [List.getElem?_append_left h1, hla i h1] at hi
   rw [List.length_dropLast] at h1
   exact ha.mid i y hi (by omega)
  ·rw [List.getElem?_append_right (by omega)] at hi
   exact hb.mid _ y hi (by omega)
 ·rcases hin y hy with h1 | h1
  ·exact ha.srt y h1 ho
  ·exact hb.srt y h1 ho
 ·rcases hin y hy with h1 | h1
  ·exact ha.sz y h1
  ·exact hb.sz y h1
theorem TInv.merged {bs bs':List (List Ins)} (h:TInv bs) (hd:Q5 (Zw (Yo bs) bs.length) bs=some bs'):TInv bs'∧mz bs'<mz bs:=by
 unfold Q5 at hd
 cases hf:(List.range bs.length).find? (mgB (Zw (Yo bs) bs.length) bs) with
 | none=>rw [hf] at hd;cases hd
 | some a =>
  rw [hf] at hd
  cases hd
  show TInv (Yn ((List.replicate bs.length false).set (mgTo bs a) true) (mgAt bs a (mgTo bs a)))∧mz (Yn ((List.replicate bs.length false).set (mgTo bs a) true) (mgAt bs a (mgTo bs a)))<mz bs
  obtain⟨h1,h2, -⟩:=List.find?_range_eq_some.1 hf
  have hal:=List.mem_range.1 h2
  obtain⟨la,hla⟩:∃la,bs[a]? = some la:=⟨_,Jg hal⟩
  unfold mgB at h1
  cases he:endI bs a with
  | none=>rw [he] at h1;cases h1
  | some x =>
   rw [he] at h1
   simp only [Bool.and_eq_true,decide_eq_true_eq,Bool.not_eq_true',decide_eq_false_iff_not] at h1
   obtain⟨⟨⟨h31,hba⟩,hP1⟩,h25⟩:=h1
   have hx:la.getLast? = some x:=by rw [←Zi hla];exact he
   have hxm:=List.mem_of_getLast? hx
   have hLa:=h.loc a la hla
   have hto1:=hLa.wf.br x hxm h31
   obtain⟨tb,hto⟩:∃tb,x.to = [tb]:=by
    match h9:x.to,hto1 with
    | [t],_=>exact⟨t,rfl⟩
   have htb:1≤tb∧tb<bs.length:=⟨(hLa.fin x hx).2.2 tb (by rw [hto];simp),(hLa.wf.to_ x hxm tb (by rw [hto];simp)).2⟩
   obtain⟨b,hb⟩:∃b,b=mgTo bs a:=⟨_,rfl⟩
   rw [←hb] at hba hP1 h25⊢
   have hbt:(b:Int)=tb:=by
    rw [hb]
    unfold mgTo
    rw [he]
    simp only [Option.map_some,hto,Option.getD_some,Jq,List.getElem?_cons_zero]
    omega
   have hbl:b<bs.length:=by omega
   obtain⟨lb,hlb⟩:∃lb,bs[b]? = some lb:=⟨_,Jg hbl⟩
   have hLb:=h.loc b lb hlb
   have hgb:bs.getD b []=lb:=by rw [Jq,hlb];rfl
   have hga:bs.getD a []=la:=by rw [Jq,hla];rfl
   rw [hgb] at h25
   have hno:=fronts_none hLb.fr h25
   have hendA:∀c,Qt bs a c↔c=(b:Int):=fun c=>by
    unfold Qt
    rw [he]
    constructor
    ·rintro ⟨y, hy, -, hc⟩
     cases hy
     rw [hto] at hc
     rw [hbt]
     exact List.mem_singleton.1 hc
    ·intro hc
     exact⟨x,rfl, .inl h31,by rw [hto,hc,hbt];simp⟩
   -- only a comes «to» b
   have honly:∀p,Qt bs p (b:Int)→p=a:=fun p hp=>by
    have hpl:=Yb0 hp
    have e1:(Zw (Yo bs) bs.length).getD b []=Q3 (Yo bs) b bs.length:=by
     unfold Zw
     rw [Jq,List.getElem?_map,List.getElem?_range hbl]
     rfl
    rw [e1] at hP1
    unfold Q3 at hP1
    rw [List.length_map] at hP1
    have m1:p∈(List.range bs.length).filter fun(x:Nat)=>decide ((b:Int)∈Yo bs (x:Int)):=List.mem_filter.2 ⟨List.mem_range.2 hpl,by simpa using (Ya3 ⟨by omega,by omega⟩).1 hp⟩
    have m2:a∈(List.range bs.length).filter fun(x:Nat)=>decide ((b:Int)∈Yo bs (x:Int)):=List.mem_filter.2 ⟨List.mem_range.2 hal,by simpa using (Ya3 ⟨by omega,by omega⟩).1 ((hendA b).2 rfl)⟩
    obtain⟨z,hz⟩:=List.length_eq_one_iff.1 hP1
    rw [hz] at m1 m2
    rw [List.mem_singleton.1 m1,List.mem_singleton.1 m2]
   obtain⟨gone,hgone⟩:∃gone,gone=(List.replicate bs.length false).set b true:=⟨_,rfl⟩
   rw [←hgone]
   have hgl:gone.length=bs.length:=by rw [hgone];simp
   have hkept:∀c,Kept gone c↔c≠b:=fun c=>by
    unfold Kept
    rw [hgone,Jq]
    by_cases e:c=b
    ·subst e
     rw [Jf (by simpa using hbl)]
     simp
    ·rw [Je (Ne.symm e), List.getElem?_replicate]
     simp only [ne_eq,e,not_false_eq_true,iff_true]
     split<;>rfl
   -- the rows
   have hJ:∀(c:Nat) l',(mgAt bs a b)[c]? = some l'→c≠b→∃l1,l'=l1.map (movP b a)∧LInv bs.length l1∧(∃l0,bs[c]? = some l0∧∀y,y∈l1→y.op=25→y∈l0)∧(c≠a→bs[c]? = some l1)∧(c=a→l1.getLast? = lb.getLast?):=fun c l' hl' hcb=>by
    unfold mgAt Zb at hl'
    rw [hga,hgb,List.getElem?_map,Je (Ne.symm hcb)] at hl'
    by_cases e:c=a
    ·subst e
     rw [Jf hal] at hl'
     cases hl'
     refine⟨_,rfl,hLa.join hLb hno,⟨la,hla,fun y hy ho => ?_⟩,fun e=>absurd rfl e,fun _ => ?_⟩
     ·rcases List.mem_append.1 hy with h3 | h3
      ·exact(List.dropLast_sublist la).subset h3
      ·exact absurd ho (hno y h3)
     ·cases hl:lb.getLast? with
      | none=>exact absurd (List.getLast?_eq_none_iff.1 hl) hLb.wf.ne
      | some z =>
       obtain⟨ys,hys⟩:=List.getLast?_eq_some_iff.1 hl
       rw [hys,←List.append_assoc,List.getLast?_concat]
    ·rw [Je (Ne.symm e)] at hl'
     cases hq:bs[c]? with
     | none=>rw [hq] at hl';cases hl'
     | some l1 =>
      rw [hq] at hl'
      cases hl'
      exact⟨l1,rfl,h.loc c l1 hq,⟨l1,rfl,fun y hy _=>hy⟩,fun _=>rfl,fun e9=>absurd e9 e⟩
   have hlenM:(mgAt bs a b).length=bs.length:=by unfold mgAt;rw [List.length_map,J_len]
   have hendM:∀p c,p≠b→(Qt (mgAt bs a b) p c↔if p=a then Qt bs b c else Qt bs p c):=fun p c hpb=>by
    by_cases hpl:p<bs.length
    ·obtain ⟨l', hl'⟩ : ∃ l', (mgAt bs a b)[p]? = some l' := ⟨_, Jg (by omega)⟩
     obtain⟨l1,rfl,hi1, -,hne,heq⟩:=hJ p l' hl' hpb
     have key:∀y,l1.getLast? = some y→movP b a y=y:=fun y hy=>by
      unfold movP
      rw [if_neg (hi1.fin y hy).1]
     have e1:endI (mgAt bs a b) p=l1.getLast? := by
      rw [Zi hl',List.getLast?_map]
      cases hq:l1.getLast? with
      | none=>rfl
      | some y=>simp only [Option.map_some];rw [key y hq]
     unfold Qt
     rw [e1]
     by_cases e:p=a
     ·rw [if_pos e,heq e,Zi hlb]
     ·rw [if_neg e,Zi (hne e)]
    ·have e : p ≠ a := by omega
     rw [if_neg e]
     constructor
     ·intro h9;have:=Yb0 h9;omega
     ·intro h9;have:=Yb0 h9;omega
   have hnoA:∀(c:Nat) l0 y,bs[c]? = some l0→c≠b→y∈l0→y.op=25→(a:Int)∉y.to:=fun c l0 y h0 hcb hy ho hm=>by
    have h9:=(((h.phi c l0 h0 y hy ho).2 a).1 hm).2
    rw [Int.toNat_natCast,hendA] at h9
    omega
   have hmz:mz (mgAt bs a b)+1≤mz bs:=by
    have e1:mz (mgAt bs a b)=mz (Zb bs a b):=by
     unfold mz mgAt
     rw [List.map_map]
     congr 1
     refine List.map_congr_left fun l1 _ => ?_
     exact wt_map (g:=movP b a) (fun y=>movP_op _ _ y) l1
    have e2:(bs.set a (la.dropLast++lb))[b]? = some lb:=by rw [Je (Ne.symm hba)];exact hlb
    have e3:=mz_set (l':=la.dropLast++lb) hla
    have e4:=mz_set (l' := []) e2
    have e5:Zb bs a b=(bs.set a (la.dropLast++lb)).set b []:=by unfold Zb;rw [hga,hgb]
    obtain⟨ys,hys⟩:=List.getLast?_eq_some_iff.1 hx
    have e6:la.dropLast=ys:=by rw [hys];simp
    have e7:wt la=wt ys+1:=by
     rw [hys]
     unfold wt
     rw [List.length_append,List.countP_append]
     have:List.countP (fun x=>x.op==32) [x]=0:=by simp [h31]
     rw [this]
     simp only [List.length_singleton]
     omega
    have e8:wt (ys++lb)+1=wt ys+wt lb:=by
     unfold wt
     rw [List.length_append,List.countP_append]
     omega
    have e9:wt ([]:List Ins)=1:=by simp [wt]
    rw [e6] at e3 e4 e5
    rw [e1,e5]
    omega
   refine⟨TInv.without (by omega) ((hkept 0).2 (by omega)) (by rw [hlenM];exact h.pos) (by have:=h.size;omega) (fun c l' hl' hk => ?_) (fun c l' hl' hk y hy t ht => ?_) (fun c l' hl' hk y hy ho => ?_),?_⟩
   ·rw [hlenM]
    have hcb:=(hkept c).1 hk
    obtain⟨l1,rfl,hi1,⟨l0,h0,h01⟩, -, -⟩:=hJ c l' hl' hcb
    have hmo:∀y,y.op≠25→movP b a y=y:=fun y ho=>by unfold movP;rw [if_neg ho]
    have hmp:∀y,y.op=25→movP b a y=movI b a y:=fun y ho=>by unfold movP;rw [if_pos ho]
    refine hi1.map (movP b a) (fun y=>movP_op _ _ y) (fun y _ ho=>by rw [hmo y ho]) (fun y _ ho=>by rw [hmo y ho]) (fun y hy ho => ?_) (fun y hy ho => ?_) (fun y hy t ht => ?_) (fun y hy t ht => ?_) (fun y hy ho => ?_)
    ·rw [hmp y ho];exact(movI_lens (hi1.wf.phi y hy ho)).1
    ·rw [hmp y ho];exact movI_sorted (hi1.srt y hy ho) (hnoA c l0 y h0 hcb (h01 y hy ho) ho)
    ·rcases movP_to ht with h9 | h9
     ·exact hi1.wf.to_ y hy t h9
     ·omega
    ·rw [hmo y (hi1.fin y hy).1] at ht
     exact(hi1.fin y hy).2.2 t ht
    ·rw [hmp y ho,(movI_lens (hi1.wf.phi y hy ho)).2];exact Nat.le_refl _
   ·have hcb := (hkept c).1 hk
    rw [hkept]
    obtain⟨l1,rfl,hi1,⟨l0,h0,h01⟩,hne,heq⟩:=hJ c l' hl' hcb
    obtain⟨z,hz,rfl⟩:=List.mem_map.1 hy
    intro e
    by_cases ho:z.op=25
    ·have hmp : movP b a z = movI b a z := by unfold movP; rw [if_pos ho]
     rw [hmp,movI_mem (hi1.srt z hz ho)] at ht
     rcases ht with⟨h3,h4⟩|⟨h3, -⟩
     ·have := hi1.wf.to_ z hz t h3
      omega
     ·omega
    ·have hmo : movP b a z = z := by unfold movP; rw [if_neg ho]
     rw [hmo] at ht
     rcases hi1.kinds hz with h3|h3|⟨h3,h4⟩
     ·exact ho h3
     ·rw [h3] at ht;cases ht
     ·have hr := hi1.wf.to_ z hz t ht
      by_cases ec:c=a
      ·rw [heq ec] at h3
       have h5:Qt bs b (b:Int):=⟨z,by rw [Zi hlb];exact h3,h4,by rw [←e,show((t.toNat:Nat):Int)=t by omega];exact ht⟩
       exact hba (honly b h5)
      ·have h5 : Qt bs c (b : Int) := ⟨z, by rw [Zi (hne ec)]; exact h3, h4, by rw [← e, show ((t.toNat : Nat) : Int) = t by omega]; exact ht⟩
       exact ec (honly c h5)
   ·have hcb := (hkept c).1 hk
    obtain⟨l1,rfl,hi1,⟨l0,h0,h01⟩,hne,heq⟩:=hJ c l' hl' hcb
    obtain⟨z,hz,rfl⟩:=List.mem_map.1 hy
    rw [movP_op] at ho
    have hmp:movP b a z=movI b a z:=by unfold movP;rw [if_pos ho]
    obtain⟨g1,g2⟩:=h.phi c l0 h0 z (h01 z hz ho) ho
    refine⟨g1,fun p => ?_⟩
    rw [hmp,movI_mem (hi1.srt z hz ho),g2 p,g2 b,hkept]
    have hnA:=hnoA c l0 z h0 hcb (h01 z hz ho) ho
    constructor
    ·rintro (⟨⟨p0, p1⟩, p2⟩ | ⟨p0, p1, p2⟩)
     ·refine ⟨p0, by omega, ?_⟩
      rw [hendM _ _ (by omega)]
      have:p.toNat≠a:=fun e=>hnA ((g2 a).2 ⟨by omega,by rw [Int.toNat_natCast,←e];exact p1⟩)
      rw [if_neg this]
      exact p1
     ·refine ⟨by omega, by omega, ?_⟩
      rw [hendM _ _ (by omega),if_pos (by omega)]
      rw [Int.toNat_natCast] at p2
      exact p2
    ·rintro ⟨p0, p1, p2⟩
     rw [hendM _ _ p1] at p2
     by_cases e:p.toNat=a
     ·rw [if_pos e] at p2
      exact .inr ⟨by omega,by omega,by rw [Int.toNat_natCast];exact p2⟩
     ·rw [if_neg e] at p2
      exact .inl ⟨⟨p0,p2⟩,by omega⟩
   ·have := mz_without (bs := mgAt bs a b) (gone := gone)
    omega
theorem TInv.step {bs bs':List (List Ins)} (h:TInv bs) (hd:Yam bs=some bs'):TInv bs'∧mz bs'<mz bs:=by
 unfold Yam at hd
 cases hf:(List.range 5).find? fun i=>(Qd bs i).isSome with
 | none=>rw [hf] at hd;cases hd
 | some i =>
  rw [hf] at hd
  have hd:Qd bs i=some bs':=hd
  unfold Qd at hd
  split at hd
  ·exact h.decided hd
  ·exact h.twice hd
  ·exact h.single hd
  ·exact h.unseen hd
  ·exact h.merged hd
theorem TInv.inv {f:Fun} (hp:f.params.length≤2000000):InvT TInv f:=by
 refine⟨fun bs h=>⟨hp,?_,fun l hl=>⟨?_,fun x hx => ?_⟩⟩,fun bs h l hl => ?_,fun bs h l hl => ?_,fun bs bs' h hd=>h.step hd⟩
 ·show bs.length ≤ 2000000
  have:=mz_len bs
  have:=h.size
  omega
 ·have hl' : l ∈ bs := hl
  have h1:=mz_mem hl'
  have:=h.size
  unfold wt at h1
  omega
 ·have hl' : l ∈ bs := hl
  obtain⟨c,hc⟩:=List.mem_iff_getElem?.1 hl'
  exact(h.loc c l hc).sz x hx
 ·obtain ⟨c, hc⟩ := List.mem_iff_getElem?.1 hl
  exact(h.loc c l hc).wf
 ·obtain ⟨c, hc⟩ := List.mem_iff_getElem?.1 hl
  exact(h.loc c l hc).fr
def Z0 (x:Ins):List (Int×Opd):=x.to.zip x.args
theorem Ybi {x:Ins} {q:Int×Opd} (h:q∈Z0 x):q.1∈x.to∧q.2∈x.args:=⟨(List.of_mem_zip h).1,(List.of_mem_zip h).2⟩
theorem zip_erase {α β : Type} : ∀ (l : List α) (m : List β) (i : Nat), l.length = m.length → (l.eraseIdx i).zip (m.eraseIdx i) = (l.zip m).eraseIdx i
 | [], [],_,_=>by simp
 | [],b :: m,_,h=>by simp at h
 | a :: l, [],_,h=>by simp at h
 | a :: l,b :: m,0,_=>by simp
 | a :: l,b :: m,i+1,h=>by
  rw [List.eraseIdx_cons_succ,List.eraseIdx_cons_succ,List.zip_cons_cons,List.zip_cons_cons,List.eraseIdx_cons_succ,zip_erase l m i (by simpa using h)]
theorem args_drop {p:Int} {x:Ins} {a:Opd} (hq:a∈(Q0 p x).args):a∈x.args:=by
 unfold Q0 at hq
 split at hq
 ·exact List.mem_of_mem_eraseIdx hq
 ·exact hq
theorem zip_insert {α β : Type} : ∀ (l : List α) (m : List β) (i : Nat) (a : α) (b : β), l.length = m.length → i ≤ l.length → ∀ q, q ∈ (l.insertIdx i a).zip (m.insertIdx i b) → q = (a, b) ∨ q ∈ l.zip m
 | l,m,0,a,b,_,_,q,hq=>by
  simp only [List.insertIdx_zero,List.zip_cons_cons,List.mem_cons] at hq
  exact hq
 | [],m,i+1,a,b,_,hi,q,hq=>by simp at hi
 | x :: l, [],i+1,a,b,h,_,q,hq=>by simp at h
 | x :: l,y :: m,i+1,a,b,h,hi,q,hq=>by
  rw [List.insertIdx_succ_cons,List.insertIdx_succ_cons,List.zip_cons_cons,List.mem_cons] at hq
  rcases hq with hq|hq
  ·right;rw [List.zip_cons_cons,hq];exact List.mem_cons_self ..
  ·rcases zip_insert l m i a b (by simpa using h) (by simpa using hi) q hq with h1 | h1
   ·exact .inl h1
   ·right;rw [List.zip_cons_cons];exact List.mem_cons_of_mem _ h1
theorem takes_mov {p q:Int} {x:Ins} (h:x.args.length=x.to.length) (hq:q∉x.to) {r:Int} {a:Opd} (hr:(r,a)∈Z0 (movI p q x)):(r=q∧(p,a)∈Z0 x)∨(r≠q∧(r,a)∈Z0 x):=by
 by_cases hp:p∈x.to
 ·have e:Z0 (movI p q x)=((x.to.eraseIdx (x.to.idxOf p)).insertIdx (bsI (x.to.eraseIdx (x.to.idxOf p)) q) q).zip ((x.args.eraseIdx (x.to.idxOf p)).insertIdx (bsI (x.to.eraseIdx (x.to.idxOf p)) q) (x.args.getD (x.to.idxOf p) ⟨0,0,0⟩)):=by
   unfold Z0 movI
   rw [if_pos hp]
  rw [e] at hr
  have hk:=List.idxOf_lt_length_of_mem hp
  have hl:(x.to.eraseIdx (x.to.idxOf p)).length=(x.args.eraseIdx (x.to.idxOf p)).length:=by
   rw [List.length_eraseIdx,List.length_eraseIdx,if_pos hk,if_pos (by omega),h]
  rcases zip_insert _ _ _ _ _ hl (bsI_le _ _) _ hr with h1|h1
  ·simp only [Prod.mk.injEq] at h1
   obtain⟨h2,h3⟩:=h1
   left
   refine⟨h2,?_⟩
   have hpk:x.to[x.to.idxOf p]? = some p:=by
    rw [Jg hk,List.getElem_idxOf hk]
   have hak:x.args[x.to.idxOf p]? = some (x.args.getD (x.to.idxOf p) ⟨0,0,0⟩):=Zt (by omega)
   rw [h3]
   exact Jm (i:=x.to.idxOf p) (by unfold Z0;rw [List.getElem?_zip_eq_some];exact⟨hpk,hak⟩)
  ·right
   rw [zip_erase _ _ _ h.symm] at h1
   have h2:(r,a)∈Z0 x:=List.mem_of_mem_eraseIdx h1
   exact⟨fun e=>hq (e▸(Ybi h2).1),h2⟩
 ·rw [movI_no hp] at hr
  exact .inr ⟨fun e=>hq (e▸(Ybi hr).1),hr⟩
theorem args_mov {p q:Int} {x:Ins} (h:x.args.length=x.to.length) {a:Opd} (ha:a∈(movI p q x).args):a∈x.args:=by
 by_cases hp:p∈x.to
 ·have hk := List.idxOf_lt_length_of_mem hp
  have e:(movI p q x).args=(x.args.eraseIdx (x.to.idxOf p)).insertIdx (bsI (x.to.eraseIdx (x.to.idxOf p)) q) (x.args.getD (x.to.idxOf p) ⟨0,0,0⟩):=by
   unfold movI
   rw [if_pos hp]
  rw [e] at ha
  have hl:(x.to.eraseIdx (x.to.idxOf p)).length=(x.args.eraseIdx (x.to.idxOf p)).length:=by
   rw [List.length_eraseIdx,List.length_eraseIdx,if_pos hk,if_pos (by omega),h]
  rcases (List.mem_insertIdx (by rw [←hl];exact bsI_le _ _)).1 ha with h1|h1
  ·rw [h1];exact Jm (Zt (by omega))
  ·exact List.mem_of_mem_eraseIdx h1
 ·rw [movI_no hp] at ha;exact ha
end Go.Proofs.YtamjcafjdioidaaGreat
