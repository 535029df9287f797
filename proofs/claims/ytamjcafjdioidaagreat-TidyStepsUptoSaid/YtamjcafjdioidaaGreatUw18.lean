/- Texts of the chain, without what is not wanted: RfA, RfC, RfD, Of, IcK. No condition but sizes. -/
import Derived.Test.YtamjcafjdioidaaGreatUw17
set_option linter.unusedVariables false
set_option linter.unusedSimpArgs false
set_option maxRecDepth 100000
set_option maxHeartbeats 12800000
namespace Go.Proofs.YtamjcafjdioidaaGreat
def lostP (gone:List Int) (x:Ins):List (Int×Opd):=(Z0 x).filter fun q => !(gone.contains q.1)
def Qy (x:Ins) (ps:List (Int×Opd)):Ins:=⟨x.op,x.reg,x.ty,x.num,x.flags,ps.map Prod.snd,ps.map Prod.fst⟩
def Zg (gone:List Int) (x:Ins):Ins:=if x.op=25 then Qy x (lostP gone x) else x
theorem Yb7 {x:Ins} (h:x.args.length=x.to.length):(Z0 x).map Prod.fst=x.to:=by
 unfold Z0
 rw [List.map_fst_zip (by omega)]
theorem takes_snd {x:Ins} (h:x.args.length=x.to.length):(Z0 x).map Prod.snd=x.args:=by
 unfold Z0
 rw [List.map_snd_zip (by omega)]
theorem setTakes_self {x:Ins} (h:x.args.length=x.to.length):Qy x (Z0 x)=x:=by
 unfold Qy
 rw [Yb7 h,takes_snd h]
theorem takes_set (x:Ins) (ps:List (Int×Opd)):Z0 (Qy x ps)=ps:=by
 unfold Z0 Qy
 induction ps with
 | nil=>rfl
 | cons p ps ih =>
  simp only [List.map_cons,List.zip_cons_cons]
  simp only at ih
  rw [ih]
theorem filter_erase {l:List (Int×Opd)} {p:Int} (h:(l.map Prod.fst).Nodup):l.filter (fun q => !(q.1==p))=l.eraseIdx ((l.map Prod.fst).idxOf p):=by
 induction l with
 | nil=>simp
 | cons a l ih =>
  rw [List.map_cons,List.nodup_cons] at h
  rw [List.filter_cons,List.map_cons]
  by_cases e:a.1=p
  ·rw [if_neg (by simp [e]), show List.idxOf p (a.1 :: l.map Prod.fst) = 0 by rw [e, List.idxOf_cons_self], List.eraseIdx_zero, List.tail_cons]
   refine List.filter_eq_self.2 ?_
   intro q hq
   have:q.1≠p:=fun e2=>h.1 (by rw [e,←e2];exact List.mem_map_of_mem hq)
   simpa using this
  ·rw [if_pos (by simpa using e),ih h.2,show List.idxOf p (a.1 :: l.map Prod.fst)=List.idxOf p (l.map Prod.fst)+1 by rw [List.idxOf_cons,show(a.1==p)=false from beq_eq_false_iff_ne.2 e];rfl,List.eraseIdx_cons_succ]
theorem takes_dropP {p:Int} {x:Ins} (h:x.args.length=x.to.length) (hs:x.to.Pairwise (· < ·)):Z0 (Q0 p x)=(Z0 x).filter fun q => !(q.1==p):=by
 have hnd:x.to.Nodup:=hs.imp (fun {a b} h=>by omega)
 rw [filter_erase (by rw [Yb7 h];exact hnd),Yb7 h]
 unfold Q0
 by_cases hp:p∈x.to
 ·rw [if_pos hp]
  unfold Z0
  exact zip_erase _ _ _ h.symm
 ·rw [if_neg hp, List.eraseIdx_of_length_le]
  have h1:x.to.idxOf p=x.to.length:=List.idxOf_eq_length hp
  rw [h1]
  unfold Z0
  rw [List.length_zip]
  omega
theorem dropPhi_fields (p:Int) (x:Ins):Za p x=Qy x (Z0 (Za p x))∨(Za p x).args.length≠(Za p x).to.length:=by
 by_cases h:(Za p x).args.length=(Za p x).to.length
 ·left
  unfold Qy
  rw [Yb7 h,takes_snd h]
  unfold Za Q0
  split
  ·split<;>rfl
  ·rfl
 ·exact .inr h
theorem lostI_one {p:Int} {x:Ins} (h:x.op=25→x.args.length=x.to.length∧x.to.Pairwise (· < ·)):Zg [p] x=Za p x:=by
 by_cases ho:x.op=25
 ·obtain ⟨h1, h2⟩ := h ho
  have h3:(Za p x).args.length=(Za p x).to.length:=by unfold Za;rw [if_pos ho];exact phiLen_drop h1
  rcases dropPhi_fields p x with h4|h4
  ·rw [h4]
   unfold Zg lostP
   rw [if_pos ho]
   congr 1
   have e:Za p x=Q0 p x:=by unfold Za;rw [if_pos ho]
   rw [e,takes_dropP h1 h2]
   refine List.filter_congr fun q _ => ?_
   congr 1
   rw [Bool.eq_iff_iff]
   simp
  ·exact absurd h3 h4
 ·unfold Zg Za
  rw [if_neg ho,if_neg ho]
theorem lostI_all {gone:List Bool} {g:List Int} {x:Ins} {n:Nat} (hg:∀t:Int,0≤t→t<n→(g.contains t=true↔gone.getD t.toNat false=true)) (hx:∀t,t∈x.to→0≤t∧t<n) (h:x.op=25→x.args.length=x.to.length∧x.to.Pairwise (· < ·)):Zg g x=Qz gone n x:=by
 by_cases ho:x.op=25
 ·obtain ⟨h1, h2⟩ := h ho
  have key:∀k,(Qz gone k x).args.length=(Qz gone k x).to.length∧(Qz gone k x).to.Pairwise (· < ·)∧Z0 (Qz gone k x)=(Z0 x).filter (fun q => !(decide (0≤q.1∧q.1.toNat<k∧gone.getD q.1.toNat false=true)))∧Qz gone k x=Qy x (Z0 (Qz gone k x)):=by
   intro k
   induction k with
   | zero =>
    refine⟨h1,h2,?_,(setTakes_self h1).symm⟩
    refine(List.filter_eq_self.2 ?_).symm
    intro q _
    simp
   | succ k ih =>
    obtain⟨i1,i2,i3,i4⟩:=ih
    have e25:(Qz gone k x).op=25:=by rw [Ycf];exact ho
    rw [Ya4]
    by_cases hk:gone.getD k false=true
    ·rw [if_pos hk]
     have ed:Za k (Qz gone k x)=Q0 k (Qz gone k x):=by unfold Za;rw [if_pos e25]
     have l1:=phiLen_drop (p:=(k:Int)) i1
     refine⟨by rw [ed];exact l1,by rw [ed];exact i2.sublist (dropP_sub _ _),?_,?_⟩
     ·rw [ed, takes_dropP i1 i2, i3, List.filter_filter]
      refine List.filter_congr fun q hq => ?_
      have hq1:=hx q.1 (Ybi hq).1
      by_cases e:q.1=(k:Int)
      ·have : q.1.toNat = k := by omega
       have hk2:gone[k]?.getD false=true:=by rwa [Jq] at hk
       simp [e,hk2]
      ·have e2 : (q.1 == (k : Int)) = false := by rw [beq_eq_false_iff_ne]; exact e
       rw [e2]
       simp only [Bool.not_false,Bool.true_and]
       congr 1
       rw [decide_eq_decide]
       constructor
       ·rintro⟨a,b,c⟩;exact⟨a,by omega,c⟩
       ·rintro⟨a,b,c⟩;exact⟨a,by omega,c⟩
     ·rcases dropPhi_fields k (Qz gone k x) with h4 | h4
      ·rw [h4, takes_set]
       rw [i4]
       rfl
      ·rw [ed] at h4;exact absurd l1 h4
    ·rw [if_neg hk]
     refine⟨i1,i2,?_,i4⟩
     rw [i3]
     refine List.filter_congr fun q hq => ?_
     congr 1
     rw [decide_eq_decide]
     constructor
     ·rintro⟨a,b,c⟩;exact⟨a,by omega,c⟩
     ·rintro ⟨a, b, c⟩
      refine⟨a,?_,c⟩
      by_cases e:q.1.toNat=k
      ·rw [e] at c;exact absurd c hk
      ·omega
  obtain⟨-, -,k3,k4⟩:=key n
  rw [k4,k3]
  unfold Zg lostP
  rw [if_pos ho]
  congr 1
  refine List.filter_congr fun q hq => ?_
  obtain⟨r1,r2⟩:=hx q.1 (Ybi hq).1
  have h9:=hg q.1 r1 r2
  congr 1
  rw [Bool.eq_iff_iff,h9,decide_eq_true_iff]
  constructor
  ·intro h;exact⟨r1,by omega,h⟩
  ·rintro⟨-, -,h⟩;exact h
 ·rw [dropGI_no gone ho]
  unfold Zg
  rw [if_neg ho]
open Go.RowKit
def InsRead (x:Ins) (w:World) (e:Ending) (w':World):Prop:=∃c t,e = .returned (x.v c t)∧RIns.rep w' w'.heap.size [.int .i64 x.op, .int .i64 x.reg, .int .i64 x.ty, .int .i64 x.num, .int .i64 x.flags,c,t] x∧Below w.heap.size w w'
theorem opd_reads {X:World} {B:Nat} {v:Value} {l:List Opd} (h:OwnV X B v l):∃A C,v = .slice A l.length C∧(0<l.length→∃g,A=some ⟨g,0,none⟩∧∀(i:Nat) x,l[i]? = some x→∀w',Below X.heap.size X w'→w'.cell? ⟨g,i*3,none⟩=some (.int .i64 x.kind)∧w'.cell? ⟨g,i*3+1,none⟩=some (.int .i64 x.num)∧w'.cell? ⟨g,i*3+2,none⟩=some (.int .u64 x.bits)):=by
 obtain⟨A,C,rfl⟩:=Yd h.row
 refine⟨A,C,rfl,fun hl => ?_⟩
 obtain⟨g,cap,hv, -, -⟩:=h.row.form hl
 cases hv
 refine⟨g,rfl,fun i x hi w' hb => ?_⟩
 have hil:=(Js.1 hi).1
 have key:∀j u,j<3→(oc x)[j]? = some u→w'.cell? ⟨g,i*3+j,none⟩=some u:=fun j u hj hu=>by
  rw [hb.cell (p:=⟨g,i*3+j,none⟩) (Ya h.row rfl).2.1,World.ownsRow.cellAt h.row (i*3+j) (by omega),oc_get,show(i*3+j) / 3=i by omega,show(i*3+j) % 3=j by omega,hi]
  exact hu
 exact⟨key 0 _ (by omega) rfl,key 1 _ (by omega) rfl,key 2 _ (by omega) rfl⟩
theorem OwnV.snoc {w':World} {B:Nat} {v':Value} {l:List Opd} {t:Opd} (hl:∀x,x∈l→I64 x.kind∧I64 x.num) (ht:I64 t.kind∧I64 t.num) (h:w'.ownsRow B 62 3 v' (l.length+1) (l.flatMap oc ++ [.int .i64 t.kind, .int .i64 t.num, .int .u64 t.bits])):OwnV w' B v' (l ++ [t]):=by
 refine⟨?_,fun x hx => ?_⟩
 ·rw [List.length_append, List.length_singleton, List.flatMap_append]
  simpa [oc] using h
 ·rcases List.mem_append.1 hx with h1 | h1
  ·exact hl x h1
  ·rw [List.mem_singleton.1 h1];exact ht
theorem rbr_any (t:Int) (ht:I64 t) (w:World):Calls Tryz.prog 66 #[.int .i64 t] w (JumpP t w):=by
 have hb:Below w.heap.size w ((w.alloc (Obj.cells #[.int .i64 31, .int .i64 (-1), .int .i64 0, .int .i64 0, .int .i64 0, .slice none 0 0, .slice (some ⟨w.heap.size+1,0,none⟩) 1 1] 44)).alloc (Obj.cells #[.int .i64 t] 3)):=((Below.refl _ _).alloc (Nat.le_refl _) _).alloc (by simp) _
 have hq:=Yu (w.alloc (Obj.cells #[.int .i64 31, .int .i64 (-1), .int .i64 0, .int .i64 0, .int .i64 0, .slice none 0 0, .slice (some ⟨w.heap.size+1,0,none⟩) 1 1] 44)) (.cells #[.int .i64 t] 3)
 have hfin:Hid (JumpP t w (.returned (.agg #[.int .i64 31, .int .i64 (-1), .int .i64 0, .int .i64 0, .int .i64 0, .slice none 0 0, .slice (some ⟨w.heap.size+1,0,none⟩) 1 1])) ((w.alloc (Obj.cells #[.int .i64 31, .int .i64 (-1), .int .i64 0, .int .i64 0, .int .i64 0, .slice none 0 0, .slice (some ⟨w.heap.size+1,0,none⟩) 1 1] 44)).alloc (Obj.cells #[.int .i64 t] 3))):=hide ⟨_,rfl,⟨⟨rfl, .inr ⟨_,1,_,rfl,by omega,by simpa using hq,Nat.le_refl _,by unfold maxLen;omega,rfl,rfl⟩⟩,fun x hx=>by rw [List.mem_singleton.1 hx];exact ht⟩,hb⟩
 clear hb hq
 go_enter Tryz.func66,Tryz.ntmps66
 go_wp2
 refine bodyPost_ret (v := .agg #[.int .i64 31, .int .i64 (-1), .int .i64 0, .int .i64 0, .int .i64 0, .slice none 0 0, .slice (some ⟨w.heap.size+1,0,none⟩) 1 1]) (by simp [results,Tryz.results66,go_sem]) rfl ?_
 exact hfin.out
theorem rlast_any (f : Fun) (b q : Nat) (l : List Ins) (ins : Ins) (c1 c2 : Value) (w : World) (B : Nat) (hB : B ≤ w.heap.size) (hf : RFun.rep w B [.string f.name, c1, .int .i64 f.ret, c2] f) (hl : f.blocks[b]? = some l) (hq : l.length = q + 1) (hi : l[q]? = some ins) :
  Calls Tryz.prog 64 #[f.v c1 c2, .int .i64 b] w (InsRead ins w):=by
 obtain⟨hp,hb⟩:=Yk (RFun.later hf (Below.refl _ _) hB)
 obtain⟨A1,k1,h1, -, -⟩:=Rp.slice1_open hp
 obtain⟨A2,k2,h2,hm2,gb⟩:=Rp.slice1_open hb
 cases h1;cases h2
 clear hp hb hf
 obtain⟨n2,hn2⟩:∃n,Hid (n=f.blocks.length):=⟨_,hide rfl⟩
 have hbn:b<n2:=by rw [hn2.out];exact(Js.1 hl).1
 have hbi:(b:Int)<(n2:Int):=by omega
 rw [←hn2.out] at hm2⊢
 obtain⟨W,hW,hwW,hWs,hx,hy⟩:=Ql w #[.string f.name, .slice A1 f.params.length k1, .int .i64 f.ret, .slice A2 n2 k2] #[.int .i64 0, .int .i64 0, .int .i64 0, .int .i64 0, .int .i64 0, .slice none 0 0, .slice none 0 0] 32 44
 have hR:W.heap[w.heap.size+1]? = some (.cells #[.int .i64 0, .int .i64 0, .int .i64 0, .int .i64 0, .int .i64 0, .slice none 0 0, .slice none 0 0] 44 (0,0)):=by
  rw [←hW]
  have:=Yu (w.alloc (.cells #[.string f.name, .slice A1 f.params.length k1, .int .i64 f.ret, .slice A2 n2 k2] 32)) (.cells #[.int .i64 0, .int .i64 0, .int .i64 0, .int .i64 0, .int .i64 0, .slice none 0 0, .slice none 0 0] 44)
  simpa using this
 have x3:=hx 3 _ rfl W (Below.refl _ _)
 clear hx hy
 have hws:w.heap.size≤W.heap.size:=by omega
 obtain⟨b1,o1,rfl,he1⟩:=gb (by rw [←hn2.out];omega)
 obtain⟨d1,hr1,hd1⟩:=he1 b l hl
 obtain⟨A3,c3,h3,hm3,ga3⟩:=Rp.slice_open hr1
 cases h3
 obtain⟨m,hm⟩:=Jn (l.length)
 have y3:=hd1 W hwW
 rw [←hm.out] at hm3 y3
 have c9:(m:Int) - 1=(q:Int):=by have:=hm.out;omega
 have c8:(q:Int)<(m:Int):=by omega
 obtain⟨b3,o3,rfl,he3⟩:=ga3 (by omega)
 obtain⟨_,_,⟨a1,a2,rfl,ha,hto,hwf⟩,hc⟩:=he3 q ins hi
 have hrep:Hid (RIns.rep w w.heap.size [.int .i64 ins.op, .int .i64 ins.reg, .int .i64 ins.ty, .int .i64 ins.num, .int .i64 ins.flags,a1,a2] ins):=hide ⟨a1,a2,rfl,ha,hto,hwf⟩
 obtain⟨A5,k5,h5, -, -⟩:=Rp.slice_open ha
 obtain⟨A6,k6,h6, -, -⟩:=Rp.slice1_open hto
 cases h5;cases h6
 obtain⟨q0,q1,q2,q3,q4,q5,q6⟩:=(hc.later hwW hws).seven
 replace q0:=q0 W (Below.refl _ _)
 replace q1:=q1 W (Below.refl _ _)
 replace q2:=q2 W (Below.refl _ _)
 replace q3:=q3 W (Below.refl _ _)
 replace q4:=q4 W (Below.refl _ _)
 replace q5:=q5 W (Below.refl _ _)
 replace q6:=q6 W (Below.refl _ _)
 obtain⟨N,hN⟩:=Jn (w.heap.size+1)
 have hNw:w.heap.size≤N:=by have:=hN.out;omega
 rw [←hN.out] at hR
 obtain⟨n0,n1,n2',n3,n4,n5,n6⟩:=bx7 hR
 obtain⟨g0,g1,g2,g3,g4,g5,g6⟩:=bf7 hR
 obtain⟨na,hna⟩:=Jn (ins.args.length)
 obtain⟨nt,hnt⟩:=Jn (ins.to.length)
 rw [←hna.out] at q5 hrep
 rw [←hnt.out] at q6 hrep
 refine hd7 hWs hwW hW hR hl hq hi ?_;clear hWs hwW hW hR hl hq hi;intro hWs hwW hW hR hl hq hi
 clear he1 hr1 hd1 ga3 gb he3 ha hto hwf hc
 go_enter Tryz.func64,Tryz.ntmps64
 go_upto_region 1 with(fail)
 rw [hW.out,←hN.out]
 go_wp2
 refine bodyPost_ret (v:=ins.v (.slice A5 na k5) (.slice A6 nt k6)) (by simp [results,Tryz.results64,go_sem,n0,n1,n2',n3,n4,n5,n6,g0,g1,g2,g3,g4,g5,g6]) rfl ?_
 have hfin:=((((((hwW.out.setCell (p:=⟨N,0,none⟩) hNw (.int .i64 ins.op)).setCell (p:=⟨N,1,none⟩) hNw (.int .i64 ins.reg)).setCell (p:=⟨N,2,none⟩) hNw (.int .i64 ins.ty)).setCell (p:=⟨N,3,none⟩) hNw (.int .i64 ins.num)).setCell (p:=⟨N,4,none⟩) hNw (.int .i64 ins.flags)).setCell (p:=⟨N,5,none⟩) hNw (.slice A5 na k5)).setCell (p:=⟨N,6,none⟩) hNw (.slice A6 nt k6)
 exact⟨_,_,rfl,RIns.later hrep.out hfin hfin.size,hfin⟩
def InsOwn (x:Ins) (ca ct:Value) (w:World) (e:Ending) (w':World):Prop:=∃c t,e = .returned (x.v c t)∧OwnV w' 0 c x.args∧OwnI w' 0 t x.to∧(∀k,c.ownBlock=some k→ca.ownBlock=some k∨w.heap.size≤k)∧(∀k,t.ownBlock=some k→ct.ownBlock=some k∨w.heap.size≤k)∧Below w.heap.size w w'
def Yao (gone:List Int) (x:Ins) (i:Nat):List (Int×Opd):=((Z0 x).take i).filter fun q => !(gone.contains q.1)
theorem lostN_zero (gone:List Int) (x:Ins):Yao gone x 0 = []:=by simp [Yao]
theorem lostN_end {gone:List Int} {x:Ins} (h:x.args.length=x.to.length):Yao gone x x.to.length=lostP gone x:=by
 unfold Yao lostP
 rw [List.take_of_length_le]
 unfold Z0
 rw [List.length_zip]
 omega
theorem takes_at {x:Ins} {i:Nat} {t:Int} {a:Opd} (ht:x.to[i]? = some t) (ha:x.args[i]? = some a):(Z0 x)[i]? = some (t,a):=by
 unfold Z0
 rw [List.getElem?_zip_eq_some]
 exact⟨ht,ha⟩
theorem lostN_next {gone:List Int} {x:Ins} {i:Nat} {t:Int} {a:Opd} (ht:x.to[i]? = some t) (ha:x.args[i]? = some a):Yao gone x (i+1)=Yao gone x i++if decide (t∈gone)=true then [] else [(t,a)]:=by
 unfold Yao
 rw [List.take_add_one,takes_at ht ha,List.filter_append]
 congr 1
 have e:gone.contains t=decide (t∈gone):=by rw [Bool.eq_iff_iff];simp
 simp only [Option.toList_some,List.filter_cons,List.filter_nil,e]
 cases decide (t∈gone)<;>rfl
theorem lostN_le (gone:List Int) (x:Ins) (i:Nat):(Yao gone x i).length≤i:=by
 unfold Yao
 have h1:=List.length_filter_le (fun q:Int×Opd => !(gone.contains q.1)) ((Z0 x).take i)
 rw [List.length_take] at h1
 omega
theorem rlost_any (x : Ins) (ca ct : Value) (gone : List Int) (Ag : Option Addr) (Cg : Nat) (w : World) (hV : OwnV w 0 ca x.args) (hI : OwnI w 0 ct x.to) (hg : OwnI w 0 (.slice Ag gone.length Cg) gone) (hgl : gone.length ≤ 4000000) (hlen : x.op = 25 → x.args.length = x.to.length) (hsz : x.to.length ≤ 2000000) :
  Calls Tryz.prog 107 #[x.v ca ct, .slice Ag gone.length Cg] w (InsOwn (Zg gone x) ca ct w):=by
 obtain⟨A5,k5,rfl,ra⟩:=opd_reads hV
 obtain⟨A6,k6,rfl,ri⟩:=int_reads hI
 obtain⟨na,hna⟩:=Jn (x.args.length)
 obtain⟨nt,hnt⟩:=Jn (x.to.length)
 obtain⟨ng,hng⟩:=Jn (gone.length)
 obtain⟨W,hW,hwW,hWs,hx,hy⟩:=Ql w #[.int .i64 x.op, .int .i64 x.reg, .int .i64 x.ty, .int .i64 x.num, .int .i64 x.flags, .slice A5 na k5, .slice A6 nt k6] #[.int .i64 0, .int .i64 0, .int .i64 0, .int .i64 0, .int .i64 0, .slice none 0 0, .slice none 0 0] 44 44
 obtain⟨N,hN⟩:=Jn (w.heap.size)
 have hI0:W.heap[N]? = some (.cells #[.int .i64 x.op, .int .i64 x.reg, .int .i64 x.ty, .int .i64 x.num, .int .i64 x.flags, .slice A5 na k5, .slice A6 nt k6] 44 (0,0)):=by rw [←hW,hN.out];exact box_under _ _ _
 have hR0:W.heap[N+1]? = some (.cells #[.int .i64 0, .int .i64 0, .int .i64 0, .int .i64 0, .int .i64 0, .slice none 0 0, .slice none 0 0] 44 (0,0)):=by
  rw [←hW,hN.out]
  have:=Yu (w.alloc (.cells #[.int .i64 x.op, .int .i64 x.reg, .int .i64 x.ty, .int .i64 x.num, .int .i64 x.flags, .slice A5 na k5, .slice A6 nt k6] 44)) (.cells #[.int .i64 0, .int .i64 0, .int .i64 0, .int .i64 0, .int .i64 0, .slice none 0 0, .slice none 0 0] 44)
  simpa using this
 rw [←hna.out,←hnt.out,←hng.out]
 rw [←hnt.out] at hsz
 rw [←hng.out] at hgl hg
 have hNW:N<W.heap.size:=(Array.getElem?_eq_some_iff.1 hI0).1
 have hNW1:N+1<W.heap.size:=(Array.getElem?_eq_some_iff.1 hR0).1
 have c0:=Yg (Yb hI0 0 rfl) hNW
 have c1:=Yg (Yb hI0 1 rfl) hNW
 have c2:=Yg (Yb hI0 2 rfl) hNW
 have c3:=Yg (Yb hI0 3 rfl) hNW
 have c4:=Yg (Yb hI0 4 rfl) hNW
 have c5:=Yg (Yb hI0 5 rfl) hNW
 have c6:=Yg (Yb hI0 6 rfl) hNW
 have hself:=Below.refl W.heap.size W
 have hNw:w.heap.size≤N:=by have:=hN.out;omega
 have hN1w:w.heap.size≤N+1:=by omega
 refine hd10 hWs hwW hW hI0 hR0 hV hI hg ra ri ?_;clear hWs hwW hW hI0 hR0 hV hI hg ra ri;intro hWs hwW hW hI0 hR0 hV hI hg ra ri
 clear hx hy
 by_cases h25:x.op=25
 case neg =>
  have hv:Hid (Zg gone x=x):=hide (by unfold Zg;rw [if_neg h25])
  have d0:=c0 W hself
  have d1:=c1 W hself
  have d2:=c2 W hself
  have d3:=c3 W hself
  have d4:=c4 W hself
  have d5:=c5 W hself
  have d6:=c6 W hself
  obtain⟨n0,n1,n2,n3,n4,n5,n6⟩:=bx7 hR0.out
  obtain⟨g0,g1,g2,g3,g4,g5,g6⟩:=bf7 hR0.out
  clear c0 c1 c2 c3 c4 c5 c6
  have q25:(x.op != 25)=true:=by simp [h25]
  replace h25:=hide h25
  go_enter Tryz.func107,Tryz.ntmps107
  go_upto_region 1 with(fail)
  rw [hW.out,←hN.out]
  go_wp2
  refine bodyPost_ret (v:=x.v (.slice A5 na k5) (.slice A6 nt k6)) (by simp [results,Tryz.results107,go_sem,n0,n1,n2,n3,n4,n5,n6,g0,g1,g2,g3,g4,g5,g6]) rfl ?_
  have hfin:=((((((hwW.out.setCell (p:=⟨N+1,0,none⟩) hN1w (.int .i64 x.op)).setCell (p:=⟨N+1,1,none⟩) hN1w (.int .i64 x.reg)).setCell (p:=⟨N+1,2,none⟩) hN1w (.int .i64 x.ty)).setCell (p:=⟨N+1,3,none⟩) hN1w (.int .i64 x.num)).setCell (p:=⟨N+1,4,none⟩) hN1w (.int .i64 x.flags)).setCell (p:=⟨N+1,5,none⟩) hN1w (.slice A5 na k5)).setCell (p:=⟨N+1,6,none⟩) hN1w (.slice A6 nt k6)
  rw [hv.out]
  have hV2:=hV.out.kept fun k _ hk=>hfin.block k hk
  have hI2:=hI.out.kept fun k _ hk=>hfin.block k hk
  rw [←hna.out] at hV2
  rw [←hnt.out] at hI2
  exact⟨_,_,rfl,hV2,hI2,fun k hk => .inl hk,fun k hk => .inl hk,hfin⟩
 have hle:=hlen h25
 have hnat:Hid (na=nt):=hide (by rw [hna.out,hnt.out];exact hle)
 obtain⟨i0,hi0,hz0,hz1,hz2⟩:=Yh Z5
 refine hd4 hi0 hz0 hz1 hz2 ?_;clear hi0 hz0 hz1 hz2;intro hi0 hz0 hz1 hz2
 obtain⟨p0,hp0,hp1,hp2,hp3⟩:=Yh Q8
 refine hd4 hp0 hp1 hp2 hp3 ?_;clear hp0 hp1 hp2 hp3;intro hp0 hp1 hp2 hp3
 have hrow0:Hid (OwnV W W.heap.size (.slice none 0 0) ((Yao gone x 0).map Prod.snd)):=hide (by rw [lostN_zero];exact OwnV.nil_)
 have hrot0:Hid (OwnI W W.heap.size (.slice none 0 0) ((Yao gone x 0).map Prod.fst)):=hide (by rw [lostN_zero];exact OwnI.nil_)
 have hl0:Hid (0=(Yao gone x 0).length):=hide (by rw [lostN_zero];rfl)
 have d0:=c0 W hself
 refine hd2 hlen hle ?_;clear hlen hle;intro hlen hle
 have q25:(x.op != 25)=false:=by simp [h25]
 replace h25:=hide h25
 go_enter Tryz.func107,Tryz.ntmps107
 go_upto_region 1 with(fail)
 rw [hW.out,←hN.out]
 go_wp2
 go_loopw [5,6,7] (fun u5 u6 s wr=>∃(i r:Nat) (Ar:Option Addr) (kr:Nat) (At:Option Addr) (kt:Nat),u5 = .slice Ar r kr∧u6 = .slice At r kt∧s = .int .i64 i∧i≤nt∧Hid (r=(Yao gone x i).length)∧Hid (OwnV wr W.heap.size (.slice Ar r kr) ((Yao gone x i).map Prod.snd))∧Hid (OwnI wr W.heap.size (.slice At r kt) ((Yao gone x i).map Prod.fst))∧Below W.heap.size W wr) (fun _ _ s _=>nt - (intOf s).toNat)
 case atStart=>exact⟨0,0,none,0,none,0,rfl,rfl,rfl,Nat.zero_le _,hl0,hrow0,hrot0,hself⟩
 case round =>
  clear hrow0 hrot0 hl0 hself d0
  rename World=>V
  obtain⟨i,r,Ar,kr,At,kt,rfl,rfl,rfl,hi,hr,hrow,hrot,hbV⟩:=hrel
  have hVs:=hbV.size
  by_cases hlt:i<nt
  ·have hii : (i : Int) < (nt : Int) := by omega
   obtain⟨t,ht⟩:=Yf (l:=x.to) (k:=i) (by rw [←hnt.out];exact hlt)
   obtain⟨a,ha⟩:=Yf (l:=x.args) (k:=i) (by rw [←hna.out,hnat.out];exact hlt)
   have hia:(i:Int)<(na:Int):=by have:=hnat.out;omega
   have hwV:Hid (∀w',Below V.heap.size V w'→Below w.heap.size w w'):=hide (fun w' h9=>hwW.out.trans ((hbV.mono hwW.out.size).trans (h9.mono (by have:=hwW.out.size;omega))))
   have hWV:Hid (∀w',Below V.heap.size V w'→Below W.heap.size W w'):=hide (fun w' h9=>hbV.trans (h9.mono hVs))
   obtain⟨g5,rfl,ra5⟩:=ra.out (by rw [←hna.out,hnat.out];omega)
   obtain⟨g6,rfl,ri6⟩:=ri.out (by rw [←hnt.out];omega)
   have d5:∀w',Below V.heap.size V w'→w'.cell? ⟨N,5,none⟩=some (.slice (some ⟨g5,0,none⟩) na k5):=fun w' h9=>c5 w' (hWV.out w' h9)
   have d6:∀w',Below V.heap.size V w'→w'.cell? ⟨N,6,none⟩=some (.slice (some ⟨g6,0,none⟩) nt k6):=fun w' h9=>c6 w' (hWV.out w' h9)
   have dt:∀w',Below V.heap.size V w'→w'.cell? ⟨g6,i,none⟩=some (.int .i64 t):=fun w' h9=>ri6 i t ht.out w' (hwV.out w' h9)
   have da0:∀w',Below V.heap.size V w'→w'.cell? ⟨g5,i*3,none⟩=some (.int .i64 a.kind):=fun w' h9=>(ra5 i a ha.out w' (hwV.out w' h9)).1
   have da1:∀w',Below V.heap.size V w'→w'.cell? ⟨g5,i*3+1,none⟩=some (.int .i64 a.num):=fun w' h9=>(ra5 i a ha.out w' (hwV.out w' h9)).2.1
   have da2:∀w',Below V.heap.size V w'→w'.cell? ⟨g5,i*3+2,none⟩=some (.int .u64 a.bits):=fun w' h9=>(ra5 i a ha.out w' (hwV.out w' h9)).2.2
   have hselfV:=Below.refl V.heap.size V
   have hnx:=hide (lostN_next (gone:=gone) ht.out ha.out)
   have hrl:r≤2000000:=by have:=lostN_le gone x i;have:=hr.out;omega
   have htI:Hid (I64 t):=hide (hI.out.ok t (Jm ht.out))
   have haI:Hid (I64 a.kind∧I64 a.num):=hide (hV.out.ok a (Jm ha.out))
   obtain⟨b,hb⟩:=Jn (decide (t∈gone))
   have cH:Hid (Calls Tryz.prog 83 #[.slice Ag ng Cg, .int .i64 t] V fun e w'=>e = .returned (.bool b)∧w'=V):=hide (by
    have h9:=rhas_any Ag Cg gone t V 0 (by rw [←hng.out];exact hgl) (by have:=hg.out.kept fun k _ hk=>(hwV.out V hselfV).block k hk;rwa [hng.out] at this)
    rwa [←hng.out,←hb.out] at h9)
   rw [←hb.out] at hnx
   refine hd2 ht ha ?_;clear ht ha;intro ht ha
   clear ra5 ri6
   have d6V:=d6 V hselfV
   have dtV:=dt V hselfV
   go_wp2_with (fail)
   refine cH.out.mono ?_
   rintro e w1 ⟨rfl,hw1⟩
   rw [hw1]
   clear hw1 w1
   cases b with
   | true =>
    have hnx2:Hid (Yao gone x (i+1)=Yao gone x i):=hide (by rw [hnx.out];simp)
    have hr2:Hid (r=(Yao gone x (i+1)).length):=hide (by rw [hnx2.out];exact hr.out)
    have hrow2:Hid (OwnV V W.heap.size (.slice Ar r kr) ((Yao gone x (i+1)).map Prod.snd)):=hide (by rw [hnx2.out];exact hrow.out)
    have hrot2:Hid (OwnI V W.heap.size (.slice At r kt) ((Yao gone x (i+1)).map Prod.fst)):=hide (by rw [hnx2.out];exact hrot.out)
    go_wp2
    go_roundw
    case rel=>exact⟨i+1,r,Ar,kr,At,kt,rfl,rfl,by go_num,hlt,hr2,hrow2,hrot2,hbV⟩
    case measure=>simp [intOf];omega
   | false =>
    have hnx2:Hid (Yao gone x (i+1)=Yao gone x i ++ [(t,a)]):=hide (by rw [hnx.out];simp)
    have hr2:Hid (r+1=(Yao gone x (i+1)).length):=hide (by rw [hnx2.out,List.length_append,←hr.out];rfl)
    have hrl1:Hid (((Yao gone x i).map Prod.snd).length=r):=hide (by rw [List.length_map,←hr.out])
    have hrl2:Hid (((Yao gone x i).map Prod.fst).length=r):=hide (by rw [List.length_map,←hr.out])
    have hrowR:Hid (V.ownsRow W.heap.size 62 3 (.slice Ar r kr) r (((Yao gone x i).map Prod.snd).flatMap oc)):=hide (by have:=hrow.out.row;rwa [hrl1.out] at this)
    have hrotR:Hid (V.ownsRow W.heap.size 3 1 (.slice At r kt) r (((Yao gone x i).map Prod.fst).map fun z=>Value.int .i64 z)):=hide (by have:=hrot.out.row;rwa [hrl2.out] at this)
    have d5V:=d5 V hselfV
    have daV0:=da0 V hselfV
    have daV1:=da1 V hselfV
    have daV2:=da2 V hselfV
    go_wp2_with (first
     | (at_builtin
        refine wpList_append_own _ rfl (.tmp 29) (.tmp 35) _ rfl W.heap.size 62 p0 _ 3 24 Tryz.underlying42 hp0.out hp1.out hp2.out hp3.out rfl (by omega) (.slice Ar r kr) _ _ rfl (hrowR.out.alloc _) ⟨V.heap.size,0,none⟩ 1 1 [.int .i64 a.kind, .int .i64 a.num, .int .u64 a.bits] rfl rfl ?c1 ?c2 ?c3 ?c4 ?c5 ?_
        case c1=>exact World.news_of_block (cs := #[.int .i64 a.kind, .int .i64 a.num, .int .u64 a.bits]) (t := 62) (fr:=(0,0)) (heap_alloc_new V _)
        case c2=>simp [Value.oneCell']
        case c3=>unfold maxLen;omega
        case c4=>omega
        case c5=>first|(simp;omega)|simp|omega
        intro v1 w1 hown1 hg1 _
        have hbw1:Below W.heap.size W w1:=(hbV.alloc hVs _).grown hg1 (by simp;omega) (fun k hk=>(Ya hrowR.out hk).1)
        obtain⟨A8,C8,hv8⟩:=Yd hown1
        subst hv8
        have hL:=hide (OwnV.snoc hrow.out.ok haI.out (by rw [hrl1.out];exact hown1))
        have hrotS:Hid (w1.ownsRow W.heap.size 3 1 (.slice At r kt) r (((Yao gone x i).map Prod.fst).map fun z=>Value.int .i64 z)):=hide (Yc hrotR.out fun k hk=>(hg1.block k (by have:=(Ya hrotR.out hk).2.1;simp;omega) (fun e=>by
         obtain⟨-, -,cc,h1⟩:=Ya hrotR.out hk
         obtain⟨-, -,cd,h2⟩:=Ya hrowR.out e.symm
         rw [h1] at h2
         cases h2)).trans (Below.heap_alloc _ _ _ (Ya hrotR.out hk).2.1))
        have hw1s:=hbw1.size
        have e6:=c6 w1 hbw1
        have et:=ri.out (by rw [←hnt.out];omega)
        have hti:w1.cell? ⟨g6,i,none⟩=some (.int .i64 t):=by
         obtain⟨gg,e9,r9⟩:=et
         cases e9
         exact r9 i t ht.out w1 (hwW.out.trans (hbw1.mono hwW.out.size))
        refine hd2 et hown1 ?_;clear et hown1;intro et hown1
        replace hg1:=hide hg1)
     | (at_builtin
        refine wpList_append_own _ rfl (.tmp 37) (.tmp 43) _ rfl W.heap.size 3 i0 _ 1 8 Tryz.underlying29 hi0.out hz0.out hz1.out hz2.out rfl (by omega) (.slice At r kt) _ _ rfl (hrotS.out.alloc _) ⟨w1.heap.size,0,none⟩ 1 1 [.int .i64 t] rfl rfl ?c1 ?c2 ?c3 ?c4 ?c5 ?_
        case c1=>exact World.news_of_block (cs := #[.int .i64 t]) (t := 3) (fr:=(0,0)) (heap_alloc_new w1 _)
        case c2=>simp [Value.oneCell']
        case c3=>unfold maxLen;omega
        case c4=>omega
        case c5=>first|(simp;omega)|simp|omega
        intro v2 w2 hown2 hg2 _
        have hbw2:Below W.heap.size W w2:=(hbw1.alloc hw1s _).grown hg2 (by simp;omega) (fun k hk=>(Ya hrotS.out hk).1)
        obtain⟨A9,C9,hv9⟩:=Yd hown2
        subst hv9
        have hL2:=hide (OwnI.snoc hrot.out.ok htI.out (by rw [hrl2.out];exact hown2))
        have hLk:=hide (show OwnV w2 W.heap.size _ _ from⟨Yc hL.out.row fun k hk=>(hg2.block k (by have:=(Ya hL.out.row hk).2.1;simp;omega) (fun e=>by
         obtain⟨-, -,cc,h1⟩:=Ya hL.out.row hk
         obtain⟨-, -,cd,h2⟩:=Ya hrotS.out e.symm
         rw [h1] at h2
         cases h2)).trans (Below.heap_alloc _ _ _ (Ya hL.out.row hk).2.1),hL.out.ok⟩)
        replace hown2:=hide hown2
        replace hg2:=hide hg2))
    have hLe:Hid (OwnV w2 W.heap.size (.slice A8 (r+1) C8) ((Yao gone x (i+1)).map Prod.snd)):=hide (by rw [hnx2.out,List.map_append];exact hLk.out)
    have hLf:Hid (OwnI w2 W.heap.size (.slice A9 (r+1) C9) ((Yao gone x (i+1)).map Prod.fst)):=hide (by rw [hnx2.out,List.map_append];exact hL2.out)
    go_roundw
    case rel=>exact⟨i+1,r+1,A8,C8,A9,C9,rfl,rfl,by go_num,hlt,hr2,hLe,hLf,hbw2⟩
    case measure=>simp [intOf];omega
  ·obtain rfl : nt = i := by omega
   have hv:Hid (Zg gone x=Qy x (Yao gone x nt)):=hide (by unfold Zg;rw [if_pos h25.out,hnt.out,lostN_end (by rw [←hna.out,←hnt.out];exact hnat.out)])
   have hIV:=(hbV.block N hNW).trans hI0.out
   have hRV:=(hbV.block (N+1) hNW1).trans hR0.out
   obtain⟨d0,d1,d2,d3,d4,d5,d6⟩:=bx7 hIV
   have f5:=Ym (j:=5) hIV
   have f6:=Ym (j:=6) hIV
   obtain⟨n0,n1,n2,n3,n4,n5,n6⟩:=bx7 hRV
   obtain⟨g0,g1,g2,g3,g4,g5,g6⟩:=bf7 hRV
   have hNo:N<W.heap.size∧N+1<W.heap.size:=⟨hNW,hNW1⟩
   refine hd2 hIV hRV ?_;clear hIV hRV;intro hIV hRV
   clear c0 c1 c2 c3 c4 c5 c6
   go_wp2
   refine bodyPost_ret (v:=x.v (.slice Ar r kr) (.slice At r kt)) (by simp [results,Tryz.results107,go_sem,n0,n1,n2,n3,n4,n5,n6,g0,g1,g2,g3,g4,g5,g6]) rfl ?_
   have hwV:=hwW.out.trans (hbV.mono hwW.out.size)
   have hfin:=((((((((hwV.setCell (p:=⟨N,5,none⟩) hNw (.slice Ar r kr)).setCell (p:=⟨N,6,none⟩) hNw (.slice At r kt)).setCell (p:=⟨N+1,0,none⟩) hN1w (.int .i64 x.op)).setCell (p:=⟨N+1,1,none⟩) hN1w (.int .i64 x.reg)).setCell (p:=⟨N+1,2,none⟩) hN1w (.int .i64 x.ty)).setCell (p:=⟨N+1,3,none⟩) hN1w (.int .i64 x.num)).setCell (p:=⟨N+1,4,none⟩) hN1w (.int .i64 x.flags)).setCell (p:=⟨N+1,5,none⟩) hN1w (.slice Ar r kr)).setCell (p:=⟨N+1,6,none⟩) hN1w (.slice At r kt)
   have hk:∀(u0 u1 u2 u3 u4 u5 u6 u7 u8:Value) (k:Nat),W.heap.size≤k→(((((((((V.setCell ⟨N,5,none⟩ u0).setCell ⟨N,6,none⟩ u1).setCell ⟨N+1,0,none⟩ u2).setCell ⟨N+1,1,none⟩ u3).setCell ⟨N+1,2,none⟩ u4).setCell ⟨N+1,3,none⟩ u5).setCell ⟨N+1,4,none⟩ u6).setCell ⟨N+1,5,none⟩ u7).setCell ⟨N+1,6,none⟩ u8).heap[k]? = V.heap[k]? := fun u0 u1 u2 u3 u4 u5 u6 u7 u8 k hk=>by
    have e1:k≠N:=by omega
    have e2:k≠N+1:=by omega
    rw [Below.heap_setCell _ ⟨N+1,6,none⟩ _ _ e2,Below.heap_setCell _ ⟨N+1,5,none⟩ _ _ e2,Below.heap_setCell _ ⟨N+1,4,none⟩ _ _ e2,Below.heap_setCell _ ⟨N+1,3,none⟩ _ _ e2,Below.heap_setCell _ ⟨N+1,2,none⟩ _ _ e2,Below.heap_setCell _ ⟨N+1,1,none⟩ _ _ e2,Below.heap_setCell _ ⟨N+1,0,none⟩ _ _ e2,Below.heap_setCell _ ⟨N,6,none⟩ _ _ e1,Below.heap_setCell _ ⟨N,5,none⟩ _ _ e1]
   rw [hv.out]
   have hV2:=(hrow.out.kept fun k h1 _=>hk (.slice Ar r kr) (.slice At r kt) (.int .i64 x.op) (.int .i64 x.reg) (.int .i64 x.ty) (.int .i64 x.num) (.int .i64 x.flags) (.slice Ar r kr) (.slice At r kt) k h1).mono (Nat.zero_le _)
   have hI2:=(hrot.out.kept fun k h1 _=>hk (.slice Ar r kr) (.slice At r kt) (.int .i64 x.op) (.int .i64 x.reg) (.int .i64 x.ty) (.int .i64 x.num) (.int .i64 x.flags) (.slice Ar r kr) (.slice At r kt) k h1).mono (Nat.zero_le _)
   exact⟨_,_,rfl,hV2,hI2,fun k hk => .inr (by have:=(Ya hrow.out.row hk).1;omega),fun k hk => .inr (by have:=(Ya hrot.out.row hk).1;omega),hfin⟩
section
variable {w:World}
theorem Only.fact {Q:Nat→Prop} {B N j:Nat} {u:Value} (h:w.cell? ⟨N,j,none⟩=some u) (hN:N<B) (hQ:¬Q N):∀w',Only Q B w w'→w'.cell? ⟨N,j,none⟩=some u:=fun w' hw=>(hw.cell (p:=⟨N,j,none⟩) hN hQ).trans h
theorem Only.free {Q:Nat→Prop} {B N j:Nat} (h:w.frozen? ⟨N,j,none⟩=false) (hN:N<B) (hQ:¬Q N):∀w',Only Q B w w'→w'.frozen? ⟨N,j,none⟩=false:=fun w' hw=>(World.frozen?_of_block (a:=⟨N,j,none⟩) (hw.block N hN hQ)).trans h
end
theorem argB_type {w:World} {L:Nat} {d:Value} {bs:List (List Ins)} {xs:List Value} {ess:List (List (Value×Value))} (hK:Yq w L d bs xs ess) {q:Nat} (h:ArgB ess q):L≤q∧q<w.heap.size∧∃c,w.heap[q]? = some (.cells c 62 (0,0)):=by
 obtain⟨e,hef,hq⟩:=h
 obtain⟨fs,hfs,hef⟩:=List.mem_flatten.1 hef
 obtain⟨p,hp⟩:=List.getElem?_of_mem hfs
 have hpl:=(Js.1 hp).1
 obtain⟨q,hq'⟩:=List.getElem?_of_mem hef
 have hxp:xs[p]? = some (xs[p]'(by rw [hK.lenx,←hK.lene];exact hpl)):=Jg _
 obtain⟨b',es',hb',hes',hcd⟩:=hK.code_at hxp
 rw [hp] at hes'
 cases hes'
 have hql:=(Js.1 hq').1
 rw [hcd.len] at hql
 obtain⟨h1, -, -⟩:=hcd.inn q _ e (Jg hql) hq'
 exact Ya h1.row hq
theorem argB_not {w:World} {L:Nat} {d:Value} {bs:List (List Ins)} {xs:List Value} {ess:List (List (Value×Value))} (hK:Yq w L d bs xs ess) {g B n size:Nat} {T:TypeId} {u:Value} {us:List Value} (hr:w.ownsRow B T size u n us) (hu:u.ownBlock=some g) (hT:T≠ 62):¬ArgB ess g:=fun h=>by
 obtain⟨-, -,c,h1⟩:=argB_type hK h
 obtain⟨-, -,c',h2⟩:=Ya hr hu
 rw [h1] at h2
 injection h2 with h2
 injection h2 with _ h3
 exact hT h3.symm
theorem rreplace_any (f : Fun) (reg : Int) (v : Opd) (hv64 : I64 v.kind ∧ I64 v.num) (c1 c2 : Value) (w : World) (B : Nat) (hB : B ≤ w.heap.size) (hf : RFun.rep w B [.string f.name, c1, .int .i64 f.ret, c2] f) (hs : Zo f) :
  Calls Tryz.prog 70 #[f.v c1 c2, .int .i64 reg, .agg #[.int .i64 v.kind, .int .i64 v.num, .int .u64 v.bits]] w (TreePost f (Yaq (rsub reg v) f.blocks) w):=by
 obtain⟨hp,hb⟩:=Yk (RFun.later hf (Below.refl _ _) hB)
 obtain⟨A1,k1,h1, -, -⟩:=Rp.slice1_open hp
 obtain⟨A2,k2,h2,hm2, -⟩:=Rp.slice1_open hb
 cases h1;cases h2
 clear hp hb
 obtain⟨n,hn⟩:=Jn (f.blocks.length)
 obtain⟨np,hnp⟩:∃n,Hid (n=f.params.length):=⟨_,hide rfl⟩
 have hnle:n≤2000000:=by rw [hn.out];exact hs.blocks
 rw [←hn.out,←hnp.out] at hf
 rw [←hn.out] at hm2
 rw [←hn.out,←hnp.out]
 obtain⟨W3,hW3,hwW3,hW3s,hx1,hx2⟩:=Ql w #[.string f.name, .slice A1 np k1, .int .i64 f.ret, .slice A2 n k2] #[.int .i64 v.kind, .int .i64 v.num, .int .u64 v.bits] 32 62
 obtain⟨W,hW⟩:∃W,W3.alloc (.cells #[.string ⟨#[]⟩, .slice none 0 0, .int .i64 0, .slice none 0 0] 32)=W:=⟨_,rfl⟩
 have hR0:W.heap[W3.heap.size]? = some (.cells #[.string ⟨#[]⟩, .slice none 0 0, .int .i64 0, .slice none 0 0] 32 (0,0)):=by rw [←hW];exact Yu _ _
 have hb3:Below W3.heap.size W3 W:=by rw [←hW];exact(Below.refl _ _).alloc (Nat.le_refl _) _
 have hWs:W.heap.size=w.heap.size+3:=by rw [←hW];simp;omega
 obtain⟨N4,hN4⟩:∃N4,N4=W3.heap.size:=⟨_,rfl⟩
 rw [←hN4] at hR0
 have h4a:w.heap.size<N4:=by omega
 have h4b:N4<W.heap.size:=by omega
 have hwW:Below w.heap.size w W:=hwW3.trans (hb3.mono (by omega))
 have q0:W.cell? ⟨w.heap.size,0,none⟩=some (.string f.name):=hx1 0 _ rfl W hb3
 have q1:W.cell? ⟨w.heap.size,1,none⟩=some (.slice A1 np k1):=hx1 1 _ rfl W hb3
 have q2:W.cell? ⟨w.heap.size,2,none⟩=some (.int .i64 f.ret):=hx1 2 _ rfl W hb3
 have q3:W.cell? ⟨w.heap.size,3,none⟩=some (.slice A2 n k2):=hx1 3 _ rfl W hb3
 have hv0:W.cell? ⟨w.heap.size+1,0,none⟩=some (.int .i64 v.kind):=hx2 0 _ rfl W hb3
 have hv1:W.cell? ⟨w.heap.size+1,1,none⟩=some (.int .i64 v.num):=hx2 1 _ rfl W hb3
 have hv2:W.cell? ⟨w.heap.size+1,2,none⟩=some (.int .u64 v.bits):=hx2 2 _ rfl W hb3
 have cC:=hide (Qp f (.slice A1 np k1) (.slice A2 n k2) W B (by omega) (RFun.later hf (hwW.mono hB) (Nat.le_refl _)) hs)
 refine hd10 hN4 hR0 hv0 hv1 hv2 hs hf hwW hWs hW3s ?_;clear hN4 hR0 hv0 hv1 hv2 hs hf hwW hWs hW3s;intro hN4 hR0 hv0 hv1 hv2 hs hf hwW hWs hW3s
 clear hx1 hx2 hwW3 hb3
 go_enter Tryz.func70,Tryz.ntmps70
 go_wp2_with (fail)
 rw [←hN4.out]
 refine cC.out.mono ?_
 rintro e V ⟨c,d,L,rfl,hOI,hPL,hOK,hL0,hbV⟩
 obtain⟨Am,Cm,hcm⟩:=Yd hOI.row
 subst hcm
 obtain⟨Ad,Cd,hdm⟩:=hOK.form
 subst hdm
 rw [←hnp.out] at hOI hPL⊢
 rw [←hn.out] at hOK⊢
 obtain⟨xs,ess,hK⟩:=hOK
 have hWso:=hWs.out
 have hVs:=hbV.size
 obtain⟨X,hX,hwX,hXs,hxc⟩:=Y6 V #[.string f.name, .slice Am np Cm, .int .i64 f.ret, .slice Ad n Cd] 32
 have hKX:=hK.kept (w':=X) fun k h1 h2=>hwX.block k h2
 have hOIX:=hide (hOI.kept (w':=X) fun k h1 h2=>hwX.block k h2)
 have hSL:∀q,ArgB ess q→L≤q∧q<V.heap.size:=fun q h=>by
  obtain⟨h1,h2, -⟩:=argB_type hK h
  exact⟨h1,h2⟩
 have old:∀(N j:Nat) (u:Value),N<W.heap.size→W.cell? ⟨N,j,none⟩=some u→∀w',Only (ArgB ess) X.heap.size X w'→w'.cell? ⟨N,j,none⟩=some u:=fun N j u hN hu=>Only.fact (((hwX.cell (p:=⟨N,j,none⟩) (by show N<_;omega)).trans (hbV.cell (p:=⟨N,j,none⟩) hN)).trans hu) (by omega) fun h=>by have:=(hSL N h).1;omega
 have hNf:¬ArgB ess V.heap.size:=fun h=>by have:=(hSL _ h).2;omega
 have zV0:=old _ 0 _ (by omega) hv0.out
 have zV1:=old _ 1 _ (by omega) hv1.out
 have zV2:=old _ 2 _ (by omega) hv2.out
 have z0:∀w',Only (ArgB ess) X.heap.size X w'→w'.cell? ⟨V.heap.size,0,none⟩=some (.string f.name):=Only.fact (hxc 0 _ rfl X (Below.refl _ _)) (by omega) hNf
 have z1:∀w',Only (ArgB ess) X.heap.size X w'→w'.cell? ⟨V.heap.size,1,none⟩=some (.slice Am np Cm):=Only.fact (hxc 1 _ rfl X (Below.refl _ _)) (by omega) hNf
 have z2:∀w',Only (ArgB ess) X.heap.size X w'→w'.cell? ⟨V.heap.size,2,none⟩=some (.int .i64 f.ret):=Only.fact (hxc 2 _ rfl X (Below.refl _ _)) (by omega) hNf
 have z3:∀w',Only (ArgB ess) X.heap.size X w'→w'.cell? ⟨V.heap.size,3,none⟩=some (.slice Ad n Cd):=Only.fact (hxc 3 _ rfl X (Below.refl _ _)) (by omega) hNf
 have hR3:X.heap[N4]? = some (.cells #[.string ⟨#[]⟩, .slice none 0 0, .int .i64 0, .slice none 0 0] 32 (0,0)):=((hwX.block N4 (by omega)).trans (hbV.block N4 (by omega))).trans hR0.out
 have hN4no:¬ArgB ess N4:=fun h=>by have:=(hSL _ h).1;omega
 have hwX9:Below w.heap.size w X:=(hwW.out.trans (hbV.mono (by omega))).trans (hwX.mono (by omega))
 have hlx:xs.length=n:=by rw [hK.lenx,hn.out]
 have hle:ess.length=n:=by rw [hK.lene,hn.out]
 have hK0:Hid (Yq X L (.slice Ad n Cd) (Yat (rsub reg v) 0 0 0 f.blocks) xs ess):=hide (by rw [progA_start];exact hKX)
 have hself:=Only.refl (ArgB ess) X.heap.size X
 have hX9:V.heap.size<X.heap.size:=by omega
 refine hd11 hR3 hN4no hSL hKX hwX9 hPL hL0 hNf hXs hwX hbV ?_;clear hR3 hN4no hSL hKX hwX9 hPL hL0 hNf hXs hwX hbV;intro hR3 hN4no hSL hKX hwX9 hPL hL0 hNf hXs hwX hbV
 have hv64h:=hide hv64
 clear hOI hK old hxc hv64 q0 q1 q2 q3
 go_upto_region 2 with(fail)
 try rw [hX]
 clear hX
 go_wp2
 go_loopw [8] (fun u wr=>∃i:Nat,u = .int .i64 i∧i≤n∧Hid (Yq wr L (.slice Ad n Cd) (Yat (rsub reg v) i 0 0 f.blocks) xs ess)∧Only (ArgB ess) X.heap.size X wr) (fun u _=>n - (intOf u).toNat)
 case atStart=>exact⟨0,rfl,Nat.zero_le _,hK0,hself⟩
 case round =>
  clear hK0 hself
  obtain⟨i,rfl,hi,hK,hon⟩:=hrel
  by_cases hlt:i<n
  ·have hii : (i : Int) < (n : Int) := by omega
   obtain⟨c,hc⟩:=Yf (l:=f.blocks) (k:=i) (by rw [←hn.out];exact hlt)
   obtain⟨xi,hxi⟩:=Yf (l:=xs) (k:=i) (by omega)
   obtain⟨es,hes⟩:=Yf (l:=ess) (k:=i) (by omega)
   obtain⟨gB,CB,hAd, -, -⟩:=hKX.out.row.form (by rw [←hn.out];omega)
   have hAd':Ad=some ⟨gB,0,none⟩:=by cases hAd;rfl
   subst hAd'
   clear hAd CB
   obtain⟨nc,hnc⟩:=Jn (c.length)
   have hszc:=hs.out.code c (Jm hc.out)
   have hnc8:nc≤2000000:=by rw [hnc.out];exact hszc.1
   have hszi:=hide hszc.2
   have hCd0:=hKX.out.inn i xi _ es hxi.out hc.out hes.out
   obtain⟨Ac,Cc,hxf⟩:=Yd hCd0.row
   rw [←hnc.out] at hxf
   subst hxf
   have hrow0:=hKX.out.row
   rw [←hn.out] at hrow0
   have hgBn:¬ArgB ess gB:=argB_not hKX.out hrow0 rfl (by decide)
   have yB:∀w',Only (ArgB ess) X.heap.size X w'→w'.cell? ⟨gB,i,none⟩=some (.slice Ac nc Cc):=Only.fact (by rw [World.ownsRow.cellAt hrow0 i (by omega)];exact hxi.out) (Ya hrow0 rfl).2.1 hgBn
   have hCdh:=hide hCd0
   clear hszc hCd0 hrow0 hgBn
   go_wp2
   go_loopw [9] (fun u wr=>∃k:Nat,u = .int .i64 k∧k≤nc∧Hid (Yq wr L (.slice (some ⟨gB,0,none⟩) n Cd) (Yat (rsub reg v) i k 0 f.blocks) xs ess)∧Only (ArgB ess) X.heap.size X wr) (fun u _=>nc - (intOf u).toNat)
   case atStart=>exact⟨0,rfl,Nat.zero_le _,hK,hon⟩
   case round =>
    clear hK hon
    obtain⟨k,rfl,hk,hK,hon⟩:=hrel
    by_cases hlt2:k<nc
    ·have hki : (k : Int) < (nc : Int) := by omega
     obtain⟨x,hx⟩:=Yf (l:=c) (k:=k) (by rw [←hnc.out];exact hlt2)
     obtain⟨⟨cv,dv⟩,he⟩:=Yf (l:=es) (k:=k) (by rw [hCdh.out.len,←hnc.out];exact hlt2)
     obtain⟨har0, -, -⟩:=hCdh.out.inn k _ _ hx.out he.out
     obtain⟨Aa,Ca,hcv⟩:=Yd har0.row
     obtain⟨na,hna⟩:=Jn (x.args.length)
     rw [←hna.out] at hcv
     subst hcv
     obtain⟨gc,CC,hAc, -, -⟩:=hCdh.out.row.form (by rw [←hnc.out];omega)
     have hAc':Ac=some ⟨gc,0,none⟩:=by cases hAc;rfl
     subst hAc'
     clear hAc CC
     have hrow1:=hCdh.out.row
     rw [←hnc.out] at hrow1
     have hgcn:¬ArgB ess gc:=argB_not hKX.out hrow1 rfl (by decide)
     have yC:∀w',Only (ArgB ess) X.heap.size X w'→w'.cell? ⟨gc,k*7+5,none⟩=some (.slice Aa na Ca):=Only.fact (by rw [World.ownsRow.cellAt hrow1 (k*7+5) (by omega)];exact cellsOf_at hx.out he.out rfl) (Ya hrow1 rfl).2.1 hgcn
     have hna8:na≤2000000:=by rw [hna.out];exact(hszi.out x (Jm hx.out)).1
     clear har0 hrow1 hgcn
     go_wp2
     go_loopw [11] (fun u wr=>∃j:Nat,u = .int .i64 j∧j≤na∧Hid (Yq wr L (.slice (some ⟨gB,0,none⟩) n Cd) (Yat (rsub reg v) i k j f.blocks) xs ess)∧Only (ArgB ess) X.heap.size X wr) (fun u _=>na - (intOf u).toNat)
     case atStart=>exact⟨0,rfl,Nat.zero_le _,hK,hon⟩
     case round =>
      clear hK hon
      obtain⟨j,rfl,hj,hK,hon⟩:=hrel
      by_cases hlt3:j<na
      ·obtain ⟨t, ht⟩ := Yf (l := x.args) (k := j) (by rw [← hna.out]; exact hlt3)
       have hji:(j:Int)<(na:Int):=by omega
       have hCd:=hK.out.inn i _ _ es hxi.out (Qq hc.out) hes.out
       obtain⟨har, -, -⟩:=hCd.inn k _ _ (Ze hx.out) he.out
       have hal:(Qb (rsub reg v) i k j i k x).args.length=x.args.length:=Qv
       obtain⟨gA,CA,hAa, -, -⟩:=har.row.form (by rw [hal,←hna.out];omega)
       have hAa':Aa=some ⟨gA,0,none⟩:=by cases hAa;rfl
       subst hAa'
       clear hAa CA
       have htv:(Qb (rsub reg v) i k j i k x).args[j]? = some t:=by
        show(Ybw (rsub reg v) i k j i k x.args)[j]? = _
        rw [Yag ht.out,if_neg (by unfold Yau;omega)]
       have hrow:=har.row
       rw [hal,←hna.out] at hrow
       have hcell:∀(r:Nat) u,(oc t)[r]? = some u→r<3→wr.cell? ⟨gA,j*3+r,none⟩=some u:=fun r u hu hr=>by
        rw [World.ownsRow.cellAt hrow (j*3+r) (by omega),oc_get,show(j*3+r) / 3=j by omega,show(j*3+r) % 3=r by omega,htv]
        exact hu
       have r0:wr.cell? ⟨gA,j*3,none⟩=some (.int .i64 t.kind):=hcell 0 _ rfl (by omega)
       have r1:wr.cell? ⟨gA,j*3+1,none⟩=some (.int .i64 t.num):=hcell 1 _ rfl (by omega)
       have r2:wr.cell? ⟨gA,j*3+2,none⟩=some (.int .u64 t.bits):=hcell 2 _ rfl (by omega)
       have f0:wr.frozen? ⟨gA,j*3,none⟩=false:=World.ownsRow.frozenAt hrow _
       have f1:wr.frozen? ⟨gA,j*3+1,none⟩=false:=World.ownsRow.frozenAt hrow _
       have f2:wr.frozen? ⟨gA,j*3+2,none⟩=false:=World.ownsRow.frozenAt hrow _
       have hS:ArgB ess gA:=⟨(.slice (some ⟨gA,0,none⟩) na Ca,dv),List.mem_flatten.2 ⟨es,Jm hes.out,Jm he.out⟩,rfl⟩
       have hput:=hide (hK.out.put_arg (j:=j) (z:=v) (Qq hc.out) hes.out (Ze hx.out) he.out (by rw [hal,←hna.out];exact hlt3) hv64h.out)
       have hon9:Hid (Only (ArgB ess) X.heap.size X (put3 wr gA (j*3) v)):=hide (((hon.setCell (p:=⟨gA,j*3,none⟩) (.inl hS) _).setCell (p:=⟨gA,j*3+1,none⟩) (.inl hS) _).setCell (p:=⟨gA,j*3+2,none⟩) (.inl hS) _)
       refine hd2 hrow hS ?_;clear hrow hS;intro hrow hS
       clear hCd har hcell htv hal
       by_cases hcase:t.kind=1∧t.num=reg
       ·have e1 : (t.kind == 1) = true := by rw [beq_iff_eq]; exact hcase.1
        have e2:(t.num==reg)=true:=by rw [beq_iff_eq];exact hcase.2
        have hst:Hid (rsub reg v t=v):=hide (by unfold rsub;rw [if_pos hcase])
        have hnext:=hput.out
        have hstep:=progA_step (σ:=rsub reg v) hc.out hx.out ht.out
        rw [hst.out] at hstep
        rw [hstep] at hnext
        clear hstep
        replace hnext:=hide hnext
        clear hput hK
        replace hcase:=hide hcase
        go_wp2
        go_roundw
        case rel=>exact⟨j+1,by go_num,hlt3,hide (hnext.out.kept fun _ _ _=>rfl),(by first|exact hon9.out|exact hon9.out.drew)⟩
        case measure=>simp [intOf];omega
       ·have hst : Hid (rsub reg v t = t) := hide (by unfold rsub; rw [if_neg hcase])
        have hnext:=hK.out
        rw [←progA_id hc.out hx.out ht.out hst.out] at hnext
        replace hnext:=hide hnext
        clear hput hon9 hK
        by_cases hk1:t.kind=1
        ·have e1 : (t.kind == 1) = true := by rw [beq_iff_eq]; exact hk1
         have e2:(t.num==reg)=false:=by rw [beq_eq_false_iff_ne];exact fun h=>hcase ⟨hk1,h⟩
         clear hcase hk1
         go_wp2
         go_roundw
         case rel=>exact⟨j+1,by go_num,hlt3,hnext,hon⟩
         case measure=>simp [intOf];omega
        ·have e1 : (t.kind == 1) = false := by rw [beq_eq_false_iff_ne]; exact hk1
         clear hcase hk1
         go_wp2
         go_roundw
         case rel=>exact⟨j+1,by go_num,hlt3,hnext,hon⟩
         case measure=>simp [intOf];omega
      ·obtain rfl : j = na := by omega
       have hnext:=hK.out
       rw [hna.out,progA_next_ins hc.out hx.out] at hnext
       replace hnext:=hide hnext
       go_wp2
       go_roundw
       case rel=>exact⟨k+1,by go_num,hlt2,hnext,hon⟩
       case measure=>simp [intOf];omega
    ·obtain rfl : k = nc := by omega
     have hnext:Hid (Yq wr L (.slice (some ⟨gB,0,none⟩) n Cd) (Yat (rsub reg v) (i+1) 0 0 f.blocks) xs ess):=hide (by rw [←progA_next_block hc.out,←hnc.out];exact hK.out)
     go_wp2
     go_roundw
     case rel=>exact⟨i+1,by go_num,hlt,hnext,hon⟩
     case measure=>simp [intOf];omega
  ·obtain rfl : i = n := by omega
   have hE:Yat (rsub reg v) i 0 0 f.blocks=Yaq (rsub reg v) f.blocks:=by rw [hn.out];exact progA_end
   rw [hE] at hK
   have hR4:=(hon.block N4 (by omega) hN4no.out).trans hR3.out
   obtain⟨p0,p1,p2,p3⟩:=box4 hR4
   obtain⟨g0,g1,g2,g3⟩:=bf4 hR4
   have hWso:=hWs.out
   have hLo:=hL0.out
   have hOIZ:=hide (show OwnI wr W.heap.size (.slice Am np Cm) f.params from⟨Yc hOIX.out.row fun k hk=>hon.block k (Ya hOIX.out.row hk).2.1 (fun h=>by have h1:=hPL.out k hk;have h2:=(hSL.out k h).1;omega),hOIX.out.ok⟩)
   have hwZ:=hide (hwX9.out.trans (hon.to_below (B':=w.heap.size) (fun k hk=>by have:=(hSL.out k hk).1;omega) hwX9.out.size))
   replace hR4:=hide hR4
   have hKh:=hide hK.out
   clear hE hK
   go_wp2
   have hkeep:∀(v0 v1 v2 v3:Value) (k:Nat),W.heap.size≤k→((((wr.setCell ⟨N4,0,none⟩ v0).setCell ⟨N4,1,none⟩ v1).setCell ⟨N4,2,none⟩ v2).setCell ⟨N4,3,none⟩ v3).heap[k]? = wr.heap[k]? := fun v0 v1 v2 v3 k hk=>by
    have hne:k≠N4:=by omega
    rw [Below.heap_setCell _ _ _ _ hne,Below.heap_setCell _ _ _ _ hne,Below.heap_setCell _ _ _ _ hne,Below.heap_setCell _ _ _ _ hne]
   refine bodyPost_ret (v:=f.v (.slice Am np Cm) (.slice Ad i Cd)) (by simp [results,Tryz.results70,go_sem,p0,p1,p2,p3,g0,g1,g2,g3]) rfl ⟨_,_,L,rfl,(hOIZ.out.kept fun k h1 _=>hkeep _ _ _ _ k h1).mono (by omega),fun k hk=>hPL.out k hk,⟨xs,ess,hKh.out.kept fun k h1 _=>hkeep _ _ _ _ k (by omega)⟩,by omega,?_⟩
   exact(((hwZ.out.setCell (p:=⟨N4,0,none⟩) (by show w.heap.size≤N4;omega) _).setCell (p:=⟨N4,1,none⟩) (by show w.heap.size≤N4;omega) _).setCell (p:=⟨N4,2,none⟩) (by show w.heap.size≤N4;omega) _).setCell (p:=⟨N4,3,none⟩) (by show w.heap.size≤N4;omega) _
end Go.Proofs.YtamjcafjdioidaaGreat
