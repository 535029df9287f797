/- Texts of the chain, without what is not wanted: RfF, RfJ. No condition but sizes. -/
import Derived.Test.YtamjcafjdioidaaGreatUw20
set_option linter.unusedVariables false
set_option linter.unusedSimpArgs false
set_option maxRecDepth 100000
set_option maxHeartbeats 12800000
namespace Go.Proofs.YtamjcafjdioidaaGreat
open Go.RowKit
def renP (p q t:Int):Int:=if t=p then q else t
def rens (p q:Int) (x:Ins):List (Int×Opd):=(Z0 x).map fun z=>(renP p q z.1,z.2)
def mvQ (l:List (Int×Opd)) (b:Nat):List (Int×Opd):=(List.range b).flatMap fun j:Nat=>l.filter fun z=>decide (z.1=(j:Int))
def mvN (l:List (Int×Opd)) (b i:Nat):List (Int×Opd):=mvQ l b++(l.take i).filter fun z=>decide (z.1=(b:Int))
def movR (p q:Int) (x:Ins):Ins:=if x.op=25 then Qy x (mvQ (rens p q x) 1000) else x
theorem mvQ_zero (l:List (Int×Opd)):mvQ l 0 = []:=rfl
theorem mvN_zero (l:List (Int×Opd)) (b:Nat):mvN l b 0=mvQ l b:=by simp [mvN]
theorem mvN_end (l:List (Int×Opd)) (b:Nat):mvN l b l.length=mvN l (b+1) 0:=by
 rw [mvN_zero]
 unfold mvN mvQ
 rw [List.take_length,List.range_succ,List.flatMap_append]
 simp
theorem mvN_next {l:List (Int×Opd)} {b i:Nat} {z:Int×Opd} (h:l[i]? = some z):mvN l b (i+1)=mvN l b i++if decide (z.1=(b:Int))=true then [z] else []:=by
 unfold mvN
 rw [List.take_add_one,h,List.filter_append,List.append_assoc]
 congr 2
 simp only [Option.toList_some,List.filter_cons,List.filter_nil]
theorem mvQ_le (l : List (Int × Opd)) : ∀ b, (mvQ l b).length ≤ b * l.length
 | 0=>by simp [mvQ]
 | b+1=>by
  have h1:=mvQ_le l b
  unfold mvQ at h1⊢
  rw [List.range_succ,List.flatMap_append,List.length_append]
  have h2:=List.length_filter_le (fun z:Int×Opd=>decide (z.1=(b:Int))) l
  simp only [List.flatMap_cons,List.flatMap_nil,List.append_nil]
  rw [Nat.add_mul,Nat.one_mul]
  omega
theorem mvN_le {l:List (Int×Opd)} {b i:Nat} (hb:b≤1000) (hl:l.length≤2000000):(mvN l b i).length≤2002000000:=by
 have h1:=mvQ_le l b
 have h2:b*l.length≤1000*2000000:=Nat.mul_le_mul hb hl
 unfold mvN
 rw [List.length_append]
 have h3:=List.length_filter_le (fun z:Int×Opd=>decide (z.1=(b:Int))) (l.take i)
 rw [List.length_take] at h3
 omega
theorem rens_at {p q:Int} {x:Ins} {i:Nat} {t:Int} {a:Opd} (ht:x.to[i]? = some t) (ha:x.args[i]? = some a):(rens p q x)[i]? = some (renP p q t,a):=by
 unfold rens
 rw [List.getElem?_map,takes_at ht ha]
 rfl
theorem rens_len {p q:Int} {x:Ins} (h:x.args.length=x.to.length):(rens p q x).length=x.to.length:=by
 unfold rens Z0
 rw [List.length_map,List.length_zip]
 omega
theorem rmoved_any (x : Ins) (ca ct : Value) (p q : Int) (hq64 : I64 q) (w : World) (hV : OwnV w 0 ca x.args) (hI : OwnI w 0 ct x.to) (hlen : x.op = 25 → x.args.length = x.to.length) (hsz : x.to.length ≤ 2000000) :
  Calls Tryz.prog 108 #[x.v ca ct, .int .i64 p, .int .i64 q] w (InsOwn (movR p q x) ca ct w):=by
 obtain⟨A5,k5,rfl,ra⟩:=opd_reads hV
 obtain⟨A6,k6,rfl,ri⟩:=int_reads hI
 obtain⟨na,hna⟩:=Jn (x.args.length)
 obtain⟨nt,hnt⟩:=Jn (x.to.length)
 obtain⟨W,hW,hwW,hWs,hx,hy⟩:=Ql w #[.int .i64 x.op, .int .i64 x.reg, .int .i64 x.ty, .int .i64 x.num, .int .i64 x.flags, .slice A5 na k5, .slice A6 nt k6] #[.int .i64 0, .int .i64 0, .int .i64 0, .int .i64 0, .int .i64 0, .slice none 0 0, .slice none 0 0] 44 44
 obtain⟨N,hN⟩:=Jn (w.heap.size)
 have hI0:W.heap[N]? = some (.cells #[.int .i64 x.op, .int .i64 x.reg, .int .i64 x.ty, .int .i64 x.num, .int .i64 x.flags, .slice A5 na k5, .slice A6 nt k6] 44 (0,0)):=by rw [←hW,hN.out];exact box_under _ _ _
 have hR0:W.heap[N+1]? = some (.cells #[.int .i64 0, .int .i64 0, .int .i64 0, .int .i64 0, .int .i64 0, .slice none 0 0, .slice none 0 0] 44 (0,0)):=by
  rw [←hW,hN.out]
  have:=Yu (w.alloc (.cells #[.int .i64 x.op, .int .i64 x.reg, .int .i64 x.ty, .int .i64 x.num, .int .i64 x.flags, .slice A5 na k5, .slice A6 nt k6] 44)) (.cells #[.int .i64 0, .int .i64 0, .int .i64 0, .int .i64 0, .int .i64 0, .slice none 0 0, .slice none 0 0] 44)
  simpa using this
 rw [←hna.out,←hnt.out]
 rw [←hnt.out] at hsz
 have hNW:N<W.heap.size:=(Array.getElem?_eq_some_iff.1 hI0).1
 have hNW1:N+1<W.heap.size:=(Array.getElem?_eq_some_iff.1 hR0).1
 have c0:=Yg (Yb hI0 0 rfl) hNW
 have c1:=Yg (Yb hI0 1 rfl) hNW
 have c2:=Yg (Yb hI0 2 rfl) hNW
 have c3:=Yg (Yb hI0 3 rfl) hNW
 have c4:=Yg (Yb hI0 4 rfl) hNW
 have c5:=Yg (Yb hI0 5 rfl) hNW
 have c6:=Yg (Yb hI0 6 rfl) hNW
 have hself:=Below.refl W.heap.size W
 have hNw:w.heap.size≤N:=by have:=hN.out;omega
 have hN1w:w.heap.size≤N+1:=by omega
 refine hd9 hWs hwW hW hI0 hR0 hV hI ra ri ?_;clear hWs hwW hW hI0 hR0 hV hI ra ri;intro hWs hwW hW hI0 hR0 hV hI ra ri
 clear hx hy
 by_cases h25:x.op=25
 case neg =>
  have hv:Hid (movR p q x=x):=hide (by unfold movR;rw [if_neg h25])
  have d0:=c0 W hself
  have d1:=c1 W hself
  have d2:=c2 W hself
  have d3:=c3 W hself
  have d4:=c4 W hself
  have d5:=c5 W hself
  have d6:=c6 W hself
  obtain⟨n0,n1,n2,n3,n4,n5,n6⟩:=bx7 hR0.out
  obtain⟨g0,g1,g2,g3,g4,g5,g6⟩:=bf7 hR0.out
  clear c0 c1 c2 c3 c4 c5 c6
  have q25:(x.op != 25)=true:=by simp [h25]
  replace h25:=hide h25
  go_enter Tryz.func108,Tryz.ntmps108
  go_upto_region 1 with(fail)
  rw [hW.out,←hN.out]
  go_wp2
  refine bodyPost_ret (v:=x.v (.slice A5 na k5) (.slice A6 nt k6)) (by simp [results,Tryz.results108,go_sem,n0,n1,n2,n3,n4,n5,n6,g0,g1,g2,g3,g4,g5,g6]) rfl ?_
  have hfin:=((((((hwW.out.setCell (p:=⟨N+1,0,none⟩) hN1w (.int .i64 x.op)).setCell (p:=⟨N+1,1,none⟩) hN1w (.int .i64 x.reg)).setCell (p:=⟨N+1,2,none⟩) hN1w (.int .i64 x.ty)).setCell (p:=⟨N+1,3,none⟩) hN1w (.int .i64 x.num)).setCell (p:=⟨N+1,4,none⟩) hN1w (.int .i64 x.flags)).setCell (p:=⟨N+1,5,none⟩) hN1w (.slice A5 na k5)).setCell (p:=⟨N+1,6,none⟩) hN1w (.slice A6 nt k6)
  rw [hv.out]
  have hV2:=hV.out.kept fun k _ hk=>hfin.block k hk
  have hI2:=hI.out.kept fun k _ hk=>hfin.block k hk
  rw [←hna.out] at hV2
  rw [←hnt.out] at hI2
  exact⟨_,_,rfl,hV2,hI2,fun k hk => .inl hk,fun k hk => .inl hk,hfin⟩
 have hle:=hlen h25
 have hnat:Hid (na=nt):=hide (by rw [hna.out,hnt.out];exact hle)
 obtain⟨i0,hi0,hz0,hz1,hz2⟩:=Yh Z5
 refine hd4 hi0 hz0 hz1 hz2 ?_;clear hi0 hz0 hz1 hz2;intro hi0 hz0 hz1 hz2
 obtain⟨p0,hp0,hp1,hp2,hp3⟩:=Yh Q8
 refine hd4 hp0 hp1 hp2 hp3 ?_;clear hp0 hp1 hp2 hp3;intro hp0 hp1 hp2 hp3
 obtain⟨L,hL⟩:=Jn (rens p q x)
 have hLn:Hid (L.length=nt):=hide (by rw [hL.out,rens_len hle,hnt.out])
 have hrow0:Hid (OwnV W W.heap.size (.slice none 0 0) ((mvN L 0 0).map Prod.snd)):=hide (by rw [mvN_zero,mvQ_zero];exact OwnV.nil_)
 have hrot0:Hid (OwnI W W.heap.size (.slice none 0 0) ((mvN L 0 0).map Prod.fst)):=hide (by rw [mvN_zero,mvQ_zero];exact OwnI.nil_)
 have hl0:Hid (0=(mvN L 0 0).length):=hide (by rw [mvN_zero,mvQ_zero];rfl)
 have d0:=c0 W hself
 refine hd2 hlen hle ?_;clear hlen hle;intro hlen hle
 have q25:(x.op != 25)=false:=by simp [h25]
 replace h25:=hide h25
 go_enter Tryz.func108,Tryz.ntmps108
 go_upto_region 1 with(fail)
 rw [hW.out,←hN.out]
 go_wp2
 go_loopw [7,8,9] (fun u6 u5 s wr=>∃(b r:Nat) (Ar:Option Addr) (kr:Nat) (At:Option Addr) (kt:Nat),u5 = .slice Ar r kr∧u6 = .slice At r kt∧s = .int .i64 b∧b≤1000∧Hid (r=(mvN L b 0).length)∧Hid (OwnV wr W.heap.size (.slice Ar r kr) ((mvN L b 0).map Prod.snd))∧Hid (OwnI wr W.heap.size (.slice At r kt) ((mvN L b 0).map Prod.fst))∧Below W.heap.size W wr) (fun _ _ s _=>1000 - (intOf s).toNat)
 case atStart=>exact⟨0,0,none,0,none,0,rfl,rfl,rfl,by omega,hl0,hrow0,hrot0,hself⟩
 case round =>
  clear hrow0 hrot0 hl0 hself d0
  rename World=>V0
  obtain⟨b,r,Ar,kr,At,kt,rfl,rfl,rfl,hb,hr,hrow,hrot,hbV0⟩:=hrel
  have hVs0:=hbV0.size
  by_cases hltb:b<1000
  ·have hbi : (b : Int) < 1000 := by omega
   have d6V0:=c6 V0 hbV0
   go_wp2
   go_loopw [7,8,10] (fun u6 u5 s wr=>∃(i r:Nat) (Ar:Option Addr) (kr:Nat) (At:Option Addr) (kt:Nat),u5 = .slice Ar r kr∧u6 = .slice At r kt∧s = .int .i64 i∧i≤nt∧Hid (r=(mvN L b i).length)∧Hid (OwnV wr W.heap.size (.slice Ar r kr) ((mvN L b i).map Prod.snd))∧Hid (OwnI wr W.heap.size (.slice At r kt) ((mvN L b i).map Prod.fst))∧Below W.heap.size W wr) (fun _ _ s _=>nt - (intOf s).toNat)
   case atStart=>exact⟨0,r,Ar,kr,At,kt,rfl,rfl,rfl,Nat.zero_le _,hr,hrow,hrot,hbV0⟩
   case round =>
    clear hr hrow hrot hbV0 d6V0 hVs0
    rename World=>V
    obtain⟨i,r,Ar,kr,At,kt,rfl,rfl,rfl,hi,hr,hrow,hrot,hbV⟩:=hrel
    have hVs:=hbV.size
    have d6V:=c6 V hbV
    by_cases hlt:i<nt
    ·have hii : (i : Int) < (nt : Int) := by omega
     obtain⟨t,ht⟩:=Yf (l:=x.to) (k:=i) (by rw [←hnt.out];exact hlt)
     obtain⟨a,ha⟩:=Yf (l:=x.args) (k:=i) (by rw [←hna.out,hnat.out];exact hlt)
     have hia:(i:Int)<(na:Int):=by have:=hnat.out;omega
     have hwV:Hid (Below w.heap.size w V):=hide (hwW.out.trans (hbV.mono hwW.out.size))
     obtain⟨g5,rfl,ra5⟩:=ra.out (by rw [←hna.out,hnat.out];omega)
     obtain⟨g6,rfl,ri6⟩:=ri.out (by rw [←hnt.out];omega)
     have dtV:=ri6 i t ht.out V hwV.out
     have hnx:=hide (mvN_next (b:=b) (show L[i]? = some (renP p q t,a) by rw [hL.out];exact rens_at ht.out ha.out))
     have hrl:r≤2002000000:=by have:=mvN_le (l:=L) (i:=i) hb (by rw [hLn.out];exact hsz);have:=hr.out;omega
     have haI:Hid (I64 a.kind∧I64 a.num):=hide (hV.out.ok a (Jm ha.out))
     replace ht:=hide ht.out
     replace ha:=hide ha.out
     replace ra5:=hide ra5
     clear ri6
     by_cases htp:t=p
     ·have q1 : (t == p) = true := by simp [htp]
      have hrn:Hid (renP p q t=q):=hide (by unfold renP;rw [if_pos htp])
      obtain⟨bb,hbb⟩:=Jn (decide (q=(b:Int)))
      have q2:(q==(b:Int))=bb:=by rw [hbb.out,Bool.eq_iff_iff];simp
      replace htp:=hide htp
      cases bb with
      | false =>
       have hnx2:Hid (mvN L b (i+1)=mvN L b i):=hide (by rw [hnx.out,hrn.out];simp only [←hbb.out,Bool.false_eq_true,if_false,List.append_nil])
       have hr2:Hid (r=(mvN L b (i+1)).length):=hide (by rw [hnx2.out];exact hr.out)
       have hrow2:Hid (OwnV V W.heap.size (.slice Ar r kr) ((mvN L b (i+1)).map Prod.snd)):=hide (by rw [hnx2.out];exact hrow.out)
       have hrot2:Hid (OwnI V W.heap.size (.slice At r kt) ((mvN L b (i+1)).map Prod.fst)):=hide (by rw [hnx2.out];exact hrot.out)
       go_wp2
       go_roundw
       case rel=>exact⟨i+1,r,Ar,kr,At,kt,rfl,rfl,by go_num,hlt,hr2,hrow2,hrot2,hbV⟩
       case measure=>simp [intOf];omega
      | true =>
       have hnx2:Hid (mvN L b (i+1)=mvN L b i ++ [(q,a)]):=hide (by rw [hnx.out,hrn.out];simp only [←hbb.out,if_true])
       have hr2:Hid (r+1=(mvN L b (i+1)).length):=hide (by rw [hnx2.out,List.length_append,←hr.out];rfl)
       have hrl1:Hid (((mvN L b i).map Prod.snd).length=r):=hide (by rw [List.length_map,←hr.out])
       have hrl2:Hid (((mvN L b i).map Prod.fst).length=r):=hide (by rw [List.length_map,←hr.out])
       have hrowR:Hid (V.ownsRow W.heap.size 62 3 (.slice Ar r kr) r (((mvN L b i).map Prod.snd).flatMap oc)):=hide (by have:=hrow.out.row;rwa [hrl1.out] at this)
       have hrotR:Hid (V.ownsRow W.heap.size 3 1 (.slice At r kt) r (((mvN L b i).map Prod.fst).map fun z=>Value.int .i64 z)):=hide (by have:=hrot.out.row;rwa [hrl2.out] at this)
       have htI:Hid (I64 (q)):=hide (by first|exact hq64|exact hI.out.ok _ (Jm ht.out))
       go_wp2_with (first
        | (at_builtin
           refine wpList_append_own _ rfl (.tmp 39) (.tmp 41) _ rfl W.heap.size 3 i0 _ 1 8 Tryz.underlying29 hi0.out hz0.out hz1.out hz2.out rfl (by omega) (.slice At r kt) _ _ rfl (hrotR.out.alloc _) ⟨V.heap.size,0,none⟩ 1 1 [.int .i64 q] rfl rfl ?c1 ?c2 ?c3 ?c4 ?c5 ?_
           case c1=>exact World.news_of_block (cs := #[.int .i64 q]) (t := 3) (fr:=(0,0)) (heap_alloc_new V _)
           case c2=>simp [Value.oneCell']
           case c3=>unfold maxLen;omega
           case c4=>omega
           case c5=>first|(simp;omega)|simp|omega
           intro v2 w2 hown2 hg2 _
           have hbw2:Below W.heap.size W w2:=(hbV.alloc hVs _).grown hg2 (by simp;omega) (fun k hk=>(Ya hrotR.out hk).1)
           obtain⟨A9,C9,hv9⟩:=Yd hown2
           subst hv9
           have hL2:=hide (OwnI.snoc hrot.out.ok htI.out (by rw [hrl2.out];exact hown2))
           have hrowS:Hid (w2.ownsRow W.heap.size 62 3 (.slice Ar r kr) r (((mvN L b i).map Prod.snd).flatMap oc)):=hide (Yc hrowR.out fun k hk=>(hg2.block k (by have:=(Ya hrowR.out hk).2.1;simp;omega) (fun e=>by
            obtain⟨-, -,cc,h1⟩:=Ya hrowR.out hk
            obtain⟨-, -,cd,h2⟩:=Ya hrotR.out e.symm
            rw [h1] at h2
            cases h2)).trans (Below.heap_alloc _ _ _ (Ya hrowR.out hk).2.1))
           have hw2s:=hbw2.size
           have e5:=c5 w2 hbw2
           have hww2:=hwW.out.trans (hbw2.mono hwW.out.size)
           have ea:=ra5.out i a ha.out w2 hww2
           obtain⟨ea0,ea1,ea2⟩:=ea
           clear hww2
           replace hown2:=hide hown2
           replace hg2:=hide hg2)
        | (at_builtin
           refine wpList_append_own _ rfl (.tmp 43) (.tmp 49) _ rfl W.heap.size 62 p0 _ 3 24 Tryz.underlying42 hp0.out hp1.out hp2.out hp3.out rfl (by omega) (.slice Ar r kr) _ _ rfl (hrowS.out.alloc _) ⟨w2.heap.size,0,none⟩ 1 1 [.int .i64 a.kind, .int .i64 a.num, .int .u64 a.bits] rfl rfl ?c1 ?c2 ?c3 ?c4 ?c5 ?_
           case c1=>exact World.news_of_block (cs := #[.int .i64 a.kind, .int .i64 a.num, .int .u64 a.bits]) (t := 62) (fr:=(0,0)) (heap_alloc_new w2 _)
           case c2=>simp [Value.oneCell']
           case c3=>unfold maxLen;omega
           case c4=>omega
           case c5=>first|(simp;omega)|simp|omega
           intro v1 w1 hown1 hg1 _
           have hbw1:Below W.heap.size W w1:=(hbw2.alloc hw2s _).grown hg1 (by simp;omega) (fun k hk=>(Ya hrowS.out hk).1)
           obtain⟨A8,C8,hv8⟩:=Yd hown1
           subst hv8
           have hL:=hide (OwnV.snoc hrow.out.ok haI.out (by rw [hrl1.out];exact hown1))
           have hLk:=hide (show OwnI w1 W.heap.size _ _ from⟨Yc hL2.out.row fun k hk=>(hg1.block k (by have:=(Ya hL2.out.row hk).2.1;simp;omega) (fun e=>by
            obtain⟨-, -,cc,h1⟩:=Ya hL2.out.row hk
            obtain⟨-, -,cd,h2⟩:=Ya hrowS.out e.symm
            rw [h1] at h2
            cases h2)).trans (Below.heap_alloc _ _ _ (Ya hL2.out.row hk).2.1),hL2.out.ok⟩)
           replace hown1:=hide hown1
           replace hg1:=hide hg1))
       have hLe:Hid (OwnV w1 W.heap.size (.slice A8 (r+1) C8) ((mvN L b (i+1)).map Prod.snd)):=hide (by rw [hnx2.out,List.map_append];exact hL.out)
       have hLf:Hid (OwnI w1 W.heap.size (.slice A9 (r+1) C9) ((mvN L b (i+1)).map Prod.fst)):=hide (by rw [hnx2.out,List.map_append];exact hLk.out)
       go_roundw
       case rel=>exact⟨i+1,r+1,A8,C8,A9,C9,rfl,rfl,by go_num,hlt,hr2,hLe,hLf,hbw1⟩
       case measure=>simp [intOf];omega
     ·have q1 : (t == p) = false := by simp [htp]
      have hrn:Hid (renP p q t=t):=hide (by unfold renP;rw [if_neg htp])
      obtain⟨bb,hbb⟩:=Jn (decide (t=(b:Int)))
      have q2:(t==(b:Int))=bb:=by rw [hbb.out,Bool.eq_iff_iff];simp
      replace htp:=hide htp
      cases bb with
      | false =>
       have hnx2:Hid (mvN L b (i+1)=mvN L b i):=hide (by rw [hnx.out,hrn.out];simp only [←hbb.out,Bool.false_eq_true,if_false,List.append_nil])
       have hr2:Hid (r=(mvN L b (i+1)).length):=hide (by rw [hnx2.out];exact hr.out)
       have hrow2:Hid (OwnV V W.heap.size (.slice Ar r kr) ((mvN L b (i+1)).map Prod.snd)):=hide (by rw [hnx2.out];exact hrow.out)
       have hrot2:Hid (OwnI V W.heap.size (.slice At r kt) ((mvN L b (i+1)).map Prod.fst)):=hide (by rw [hnx2.out];exact hrot.out)
       go_wp2
       go_roundw
       case rel=>exact⟨i+1,r,Ar,kr,At,kt,rfl,rfl,by go_num,hlt,hr2,hrow2,hrot2,hbV⟩
       case measure=>simp [intOf];omega
      | true =>
       have hnx2:Hid (mvN L b (i+1)=mvN L b i ++ [(t,a)]):=hide (by rw [hnx.out,hrn.out];simp only [←hbb.out,if_true])
       have hr2:Hid (r+1=(mvN L b (i+1)).length):=hide (by rw [hnx2.out,List.length_append,←hr.out];rfl)
       have hrl1:Hid (((mvN L b i).map Prod.snd).length=r):=hide (by rw [List.length_map,←hr.out])
       have hrl2:Hid (((mvN L b i).map Prod.fst).length=r):=hide (by rw [List.length_map,←hr.out])
       have hrowR:Hid (V.ownsRow W.heap.size 62 3 (.slice Ar r kr) r (((mvN L b i).map Prod.snd).flatMap oc)):=hide (by have:=hrow.out.row;rwa [hrl1.out] at this)
       have hrotR:Hid (V.ownsRow W.heap.size 3 1 (.slice At r kt) r (((mvN L b i).map Prod.fst).map fun z=>Value.int .i64 z)):=hide (by have:=hrot.out.row;rwa [hrl2.out] at this)
       have htI:Hid (I64 (t)):=hide (by first|exact hq64|exact hI.out.ok _ (Jm ht.out))
       go_wp2_with (first
        | (at_builtin
           refine wpList_append_own _ rfl (.tmp 39) (.tmp 41) _ rfl W.heap.size 3 i0 _ 1 8 Tryz.underlying29 hi0.out hz0.out hz1.out hz2.out rfl (by omega) (.slice At r kt) _ _ rfl (hrotR.out.alloc _) ⟨V.heap.size,0,none⟩ 1 1 [.int .i64 t] rfl rfl ?c1 ?c2 ?c3 ?c4 ?c5 ?_
           case c1=>exact World.news_of_block (cs := #[.int .i64 t]) (t := 3) (fr:=(0,0)) (heap_alloc_new V _)
           case c2=>simp [Value.oneCell']
           case c3=>unfold maxLen;omega
           case c4=>omega
           case c5=>first|(simp;omega)|simp|omega
           intro v2 w2 hown2 hg2 _
           have hbw2:Below W.heap.size W w2:=(hbV.alloc hVs _).grown hg2 (by simp;omega) (fun k hk=>(Ya hrotR.out hk).1)
           obtain⟨A9,C9,hv9⟩:=Yd hown2
           subst hv9
           have hL2:=hide (OwnI.snoc hrot.out.ok htI.out (by rw [hrl2.out];exact hown2))
           have hrowS:Hid (w2.ownsRow W.heap.size 62 3 (.slice Ar r kr) r (((mvN L b i).map Prod.snd).flatMap oc)):=hide (Yc hrowR.out fun k hk=>(hg2.block k (by have:=(Ya hrowR.out hk).2.1;simp;omega) (fun e=>by
            obtain⟨-, -,cc,h1⟩:=Ya hrowR.out hk
            obtain⟨-, -,cd,h2⟩:=Ya hrotR.out e.symm
            rw [h1] at h2
            cases h2)).trans (Below.heap_alloc _ _ _ (Ya hrowR.out hk).2.1))
           have hw2s:=hbw2.size
           have e5:=c5 w2 hbw2
           have hww2:=hwW.out.trans (hbw2.mono hwW.out.size)
           have ea:=ra5.out i a ha.out w2 hww2
           obtain⟨ea0,ea1,ea2⟩:=ea
           clear hww2
           replace hown2:=hide hown2
           replace hg2:=hide hg2)
        | (at_builtin
           refine wpList_append_own _ rfl (.tmp 43) (.tmp 49) _ rfl W.heap.size 62 p0 _ 3 24 Tryz.underlying42 hp0.out hp1.out hp2.out hp3.out rfl (by omega) (.slice Ar r kr) _ _ rfl (hrowS.out.alloc _) ⟨w2.heap.size,0,none⟩ 1 1 [.int .i64 a.kind, .int .i64 a.num, .int .u64 a.bits] rfl rfl ?c1 ?c2 ?c3 ?c4 ?c5 ?_
           case c1=>exact World.news_of_block (cs := #[.int .i64 a.kind, .int .i64 a.num, .int .u64 a.bits]) (t := 62) (fr:=(0,0)) (heap_alloc_new w2 _)
           case c2=>simp [Value.oneCell']
           case c3=>unfold maxLen;omega
           case c4=>omega
           case c5=>first|(simp;omega)|simp|omega
           intro v1 w1 hown1 hg1 _
           have hbw1:Below W.heap.size W w1:=(hbw2.alloc hw2s _).grown hg1 (by simp;omega) (fun k hk=>(Ya hrowS.out hk).1)
           obtain⟨A8,C8,hv8⟩:=Yd hown1
           subst hv8
           have hL:=hide (OwnV.snoc hrow.out.ok haI.out (by rw [hrl1.out];exact hown1))
           have hLk:=hide (show OwnI w1 W.heap.size _ _ from⟨Yc hL2.out.row fun k hk=>(hg1.block k (by have:=(Ya hL2.out.row hk).2.1;simp;omega) (fun e=>by
            obtain⟨-, -,cc,h1⟩:=Ya hL2.out.row hk
            obtain⟨-, -,cd,h2⟩:=Ya hrowS.out e.symm
            rw [h1] at h2
            cases h2)).trans (Below.heap_alloc _ _ _ (Ya hL2.out.row hk).2.1),hL2.out.ok⟩)
           replace hown1:=hide hown1
           replace hg1:=hide hg1))
       have hLe:Hid (OwnV w1 W.heap.size (.slice A8 (r+1) C8) ((mvN L b (i+1)).map Prod.snd)):=hide (by rw [hnx2.out,List.map_append];exact hL.out)
       have hLf:Hid (OwnI w1 W.heap.size (.slice A9 (r+1) C9) ((mvN L b (i+1)).map Prod.fst)):=hide (by rw [hnx2.out,List.map_append];exact hLk.out)
       go_roundw
       case rel=>exact⟨i+1,r+1,A8,C8,A9,C9,rfl,rfl,by go_num,hlt,hr2,hLe,hLf,hbw1⟩
       case measure=>simp [intOf];omega
    ·obtain rfl : nt = i := by omega
     have hr2:Hid (r=(mvN L (b+1) 0).length):=hide (by rw [←mvN_end,hLn.out];exact hr.out)
     have hrow2:Hid (OwnV V W.heap.size (.slice Ar r kr) ((mvN L (b+1) 0).map Prod.snd)):=hide (by rw [←mvN_end,hLn.out];exact hrow.out)
     have hrot2:Hid (OwnI V W.heap.size (.slice At r kt) ((mvN L (b+1) 0).map Prod.fst)):=hide (by rw [←mvN_end,hLn.out];exact hrot.out)
     go_wp2
     go_roundw
     case rel=>exact⟨b+1,r,Ar,kr,At,kt,rfl,rfl,by go_num,hltb,hr2,hrow2,hrot2,hbV⟩
     case measure=>simp [intOf];omega
  ·obtain rfl : b = 1000 := by omega
   rename World=>V
   have hbV:=hbV0
   have hv:Hid (movR p q x=Qy x (mvN L 1000 0)):=hide (by unfold movR;rw [if_pos h25.out,mvN_zero,hL.out])
   have hIV:=(hbV.block N hNW).trans hI0.out
   have hRV:=(hbV.block (N+1) hNW1).trans hR0.out
   obtain⟨d0,d1,d2,d3,d4,d5,d6⟩:=bx7 hIV
   have f5:=Ym (j:=5) hIV
   have f6:=Ym (j:=6) hIV
   obtain⟨n0,n1,n2,n3,n4,n5,n6⟩:=bx7 hRV
   obtain⟨g0,g1,g2,g3,g4,g5,g6⟩:=bf7 hRV
   have hNo:N<W.heap.size∧N+1<W.heap.size:=⟨hNW,hNW1⟩
   refine hd2 hIV hRV ?_;clear hIV hRV;intro hIV hRV
   clear c0 c1 c2 c3 c4 c5 c6
   go_wp2
   refine bodyPost_ret (v:=x.v (.slice Ar r kr) (.slice At r kt)) (by simp [results,Tryz.results108,go_sem,n0,n1,n2,n3,n4,n5,n6,g0,g1,g2,g3,g4,g5,g6]) rfl ?_
   have hwV:=hwW.out.trans (hbV.mono hwW.out.size)
   have hfin:=((((((((hwV.setCell (p:=⟨N,6,none⟩) hNw (.slice At r kt)).setCell (p:=⟨N,5,none⟩) hNw (.slice Ar r kr)).setCell (p:=⟨N+1,0,none⟩) hN1w (.int .i64 x.op)).setCell (p:=⟨N+1,1,none⟩) hN1w (.int .i64 x.reg)).setCell (p:=⟨N+1,2,none⟩) hN1w (.int .i64 x.ty)).setCell (p:=⟨N+1,3,none⟩) hN1w (.int .i64 x.num)).setCell (p:=⟨N+1,4,none⟩) hN1w (.int .i64 x.flags)).setCell (p:=⟨N+1,5,none⟩) hN1w (.slice Ar r kr)).setCell (p:=⟨N+1,6,none⟩) hN1w (.slice At r kt)
   have hk:∀(u0 u1 u2 u3 u4 u5 u6 u7 u8:Value) (k:Nat),W.heap.size≤k→(((((((((V.setCell ⟨N,6,none⟩ u0).setCell ⟨N,5,none⟩ u1).setCell ⟨N+1,0,none⟩ u2).setCell ⟨N+1,1,none⟩ u3).setCell ⟨N+1,2,none⟩ u4).setCell ⟨N+1,3,none⟩ u5).setCell ⟨N+1,4,none⟩ u6).setCell ⟨N+1,5,none⟩ u7).setCell ⟨N+1,6,none⟩ u8).heap[k]? = V.heap[k]? := fun u0 u1 u2 u3 u4 u5 u6 u7 u8 k hk=>by
    have e1:k≠N:=by omega
    have e2:k≠N+1:=by omega
    rw [Below.heap_setCell _ ⟨N+1,6,none⟩ _ _ e2,Below.heap_setCell _ ⟨N+1,5,none⟩ _ _ e2,Below.heap_setCell _ ⟨N+1,4,none⟩ _ _ e2,Below.heap_setCell _ ⟨N+1,3,none⟩ _ _ e2,Below.heap_setCell _ ⟨N+1,2,none⟩ _ _ e2,Below.heap_setCell _ ⟨N+1,1,none⟩ _ _ e2,Below.heap_setCell _ ⟨N+1,0,none⟩ _ _ e2,Below.heap_setCell _ ⟨N,5,none⟩ _ _ e1,Below.heap_setCell _ ⟨N,6,none⟩ _ _ e1]
   rw [hv.out]
   have hV2:=(hrow.out.kept fun k h1 _=>hk (.slice At r kt) (.slice Ar r kr) (.int .i64 x.op) (.int .i64 x.reg) (.int .i64 x.ty) (.int .i64 x.num) (.int .i64 x.flags) (.slice Ar r kr) (.slice At r kt) k h1).mono (Nat.zero_le _)
   have hI2:=(hrot.out.kept fun k h1 _=>hk (.slice At r kt) (.slice Ar r kr) (.int .i64 x.op) (.int .i64 x.reg) (.int .i64 x.ty) (.int .i64 x.num) (.int .i64 x.flags) (.slice Ar r kr) (.slice At r kt) k h1).mono (Nat.zero_le _)
   exact⟨_,_,rfl,hV2,hI2,fun k hk => .inr (by have:=(Ya hrow.out.row hk).1;omega),fun k hk => .inr (by have:=(Ya hrot.out.row hk).1;omega),hfin⟩
def mapB (g:Ins→Ins) (bs:List (List Ins)) (k:Nat):List (List Ins):=(bs.take k).map (fun l=>l.map g)++bs.drop k
theorem mapB_zero (g:Ins→Ins) (bs:List (List Ins)):mapB g bs 0=bs:=by simp [mapB]
theorem mapB_end (g:Ins→Ins) (bs:List (List Ins)):mapB g bs bs.length=bs.map fun l=>l.map g:=by simp [mapB]
theorem mapB_len (g:Ins→Ins) (bs:List (List Ins)) (k:Nat):(mapB g bs k).length=bs.length:=by unfold mapB;simp;omega
theorem mapB_at {g:Ins→Ins} {bs:List (List Ins)} {k:Nat} {l:List Ins} (h:bs[k]? = some l):(mapB g bs k)[k]? = some l:=by
 have h1:=(Js.1 h).1
 unfold mapB
 rw [List.getElem?_append_right (by simp;omega),List.length_map,List.length_take,Nat.min_eq_left (by omega),Nat.sub_self,List.getElem?_drop]
 exact h
theorem mapB_next {g:Ins→Ins} {bs:List (List Ins)} {k:Nat} {l:List Ins} (h:bs[k]? = some l):(mapB g bs k).set k (l.map g)=mapB g bs (k+1):=by
 have h1:=(Js.1 h).1
 have h2:bs.drop k=l :: bs.drop (k+1):=by
  rw [Jg h1] at h
  injection h with h
  rw [←h,List.getElem_cons_drop]
 have h3:((bs.take k).map fun l=>l.map g).length=k:=by simp;omega
 unfold mapB
 rw [h2,List.set_append_right _ _ (by omega),h3,Nat.sub_self,List.set_cons_zero,List.take_add_one,h,List.map_append]
 simp
theorem movR_ok {p q:Int} {x:Ins} (h:Ybr x):Ybr (movR p q x):=by
 unfold movR
 generalize mvQ (rens p q x) 1000=ps
 split
 ·exact h
 ·exact h
theorem ownI_one {w:World} {t:Int} (ht:I64 t):OwnI (w.alloc (.cells #[.int .i64 t] 3)) 0 (.slice (some ⟨w.heap.size,0,none⟩) 1 1) [t]:=by
 have hq:=Yu w (.cells #[.int .i64 t] 3)
 exact⟨⟨rfl, .inr ⟨_,1,_,rfl,by omega,by simpa using hq,Nat.le_refl _,by unfold maxLen;omega,rfl,rfl⟩⟩,fun x hx=>by rw [List.mem_singleton.1 hx];exact ht⟩
theorem row_cap {w:World} {B:Nat} {e:TypeId} {size n C:Nat} {A:Option Addr} {xs:List Value} (h:w.ownsRow B e size (.slice A n C) n xs):n≤C∧C≤maxLen:=by
 rcases h.2 with⟨hv, -⟩|⟨g,cap,cur,hv, -, -,h1,h2, -⟩
 ·cases hv;exact⟨Nat.le_refl _,Nat.zero_le _⟩
 ·cases hv;exact⟨h1,h2⟩
theorem OwnK.form0 {w:World} {B:Nat} {v:Value} {bs:List (List Ins)} (h:OwnK w B v bs):∃A C,v = .slice A bs.length C:=by
 obtain⟨xs, -,hr, -⟩:=h.body
 exact Yd hr
theorem one_gone {n b:Nat} (hb:b<n) {k:Nat} {g:Bool} (h:((List.replicate n false).set b true)[k]? = some g):decide ((k:Int)∈ [(b:Int)])=g:=by
 have hk:k<n:=by have:=(Js.1 h).1;simpa using this
 by_cases e:b=k
 ·subst e
  rw [Jf (by simpa using hb)] at h
  cases h
  simp
 ·rw [Je e, List.getElem?_replicate, if_pos hk] at h
  cases h
  simp
  omega
theorem rjoined_any (f : Fun) (a b : Nat) (la lb : List Ins) (ha : f.blocks[a]? = some la) (hb : f.blocks[b]? = some lb) (hab : a ≠ b) (hla : la ≠ []) (hlb : lb ≠ []) (hph : ∀ l, l ∈ f.blocks → PhiLen l) (bs' : List (List Ins)) (hbs' : bs' = (Zb f.blocks a b).map fun l => l.map (movR b a)) (hs' : Zo (Ye f bs')) (hwf' : ∀ l, l ∈ bs' → ∀ x, x ∈ l → ∀ t, t ∈ x.to → 0 ≤ t ∧ t < bs'.length) (c1 d1 : Value) (w : World) (B : Nat) (hB : B ≤ w.heap.size) (hf : RFun.rep w B [.string f.name, c1, .int .i64 f.ret, d1] f) (hs : Zo f) :
  Calls Tryz.prog 74 #[f.v c1 d1, .int .i64 a, .int .i64 b] w (GivesF f (Yn ((List.replicate f.blocks.length false).set b true) bs') w):=by
 have hphJ:Hid (∀l,l∈Zb f.blocks a b→PhiLen l):=hide (fun l hl x hx=>by
  unfold Zb at hl
  rw [Jq,ha,Jq,hb] at hl
  rcases List.mem_or_eq_of_mem_set hl with h2|h2
  ·rcases List.mem_or_eq_of_mem_set h2 with h3 | h3
   ·exact hph l h3 x hx
   ·subst h3
    rcases List.mem_append.1 hx with h4|h4
    ·exact hph la (Jm ha) x ((List.dropLast_sublist la).subset h4)
    ·exact hph lb (Jm hb) x h4
  ·subst h2;cases hx)
 have hszJ:Hid (∀l,l∈Zb f.blocks a b→∀x,x∈l→x.to.length≤2000000):=hide (fun l hl x hx=>by
  unfold Zb at hl
  rw [Jq,ha,Jq,hb] at hl
  rcases List.mem_or_eq_of_mem_set hl with h2|h2
  ·rcases List.mem_or_eq_of_mem_set h2 with h3 | h3
   ·exact((hs.code l h3).2 x hx).2
   ·subst h3
    rcases List.mem_append.1 hx with h4|h4
    ·exact((hs.code la (Jm ha)).2 x ((List.dropLast_sublist la).subset h4)).2
    ·exact((hs.code lb (Jm hb)).2 x h4).2
  ·subst h2;cases hx)
 have hszl:Hid (∀l,l∈Zb f.blocks a b→l.length≤4000000):=hide (fun l hl=>by
  unfold Zb at hl
  rw [Jq,ha,Jq,hb] at hl
  rcases List.mem_or_eq_of_mem_set hl with h2|h2
  ·rcases List.mem_or_eq_of_mem_set h2 with h3 | h3
   ·have:=(hs.code l h3).1;omega
   ·subst h3
    have h5:=(hs.code la (Jm ha)).1
    have h6:=(hs.code lb (Jm hb)).1
    simp
    omega
  ·subst h2;simp)
 have hnJ:(Zb f.blocks a b).length=f.blocks.length:=by simp [Zb]
 obtain⟨bs1,hbs1⟩:=Jn (Zb f.blocks a b)
 rw [←hbs1.out] at hphJ hszJ hszl hnJ
 have hbs2:Hid (bs'=bs1.map fun l=>l.map (movR b a)):=hide (by rw [hbs',hbs1.out])
 have hn':bs'.length=f.blocks.length:=by rw [hbs2.out,List.length_map,hnJ]
 obtain⟨q,hq⟩:∃q,Hid (la.length=q+1):=⟨la.length - 1,hide (by have:=List.length_pos_iff.2 hla;omega)⟩
 obtain⟨ma,hma⟩:=Jn (la.length)
 obtain⟨mb,hmb⟩:=Jn (lb.length)
 have hmb0:0<mb:=by rw [hmb.out];exact List.length_pos_iff.2 hlb
 have hmale:ma≤2000000:=by rw [hma.out];exact(hs.code la (Jm ha)).1
 have hmble:mb≤2000000:=by rw [hmb.out];exact(hs.code lb (Jm hb)).1
 have hmq:(ma:Int) - 1=(q:Int):=by have:=hma.out;have:=hq.out;omega
 have hqm:q≤ma:=by omega
 have hqi:(q:Int)≤(ma:Int):=by omega
 have hwq:IntKind.i64.wrap (q:Int)=(q:Int):=by rw [IntKind.wrap_i64];omega
 refine hd10 hbs' hs' hwf' hph ha hb hab hla hnJ hn' ?_;clear hbs' hs' hwf' hph ha hb hab hla hnJ hn';intro hbs' hs' hwf' hph ha hb hab hla hnJ hn'
 obtain⟨-, -, -, -, -,hret,hnm⟩:=id hf
 obtain⟨hp,hb⟩:=Yk (RFun.later hf (Below.refl _ _) hB)
 obtain⟨A1,k1,h1, -, -⟩:=Rp.slice1_open hp
 obtain⟨A2,k2,h2,hm2, -⟩:=Rp.slice1_open hb
 cases h1;cases h2
 clear hp hb hm2
 obtain⟨n,hn⟩:=Jn (f.blocks.length)
 obtain⟨np,hnp⟩:∃n,Hid (n=f.params.length):=⟨_,hide rfl⟩
 have hnle:n≤2000000:=by rw [hn.out];exact hs.blocks
 rw [←hn.out,←hnp.out] at hf⊢
 obtain⟨W,hW,hwW,hWs,hx1,hx2⟩:=Ql w #[.string f.name, .slice A1 np k1, .int .i64 f.ret, .slice A2 n k2] #[.string ⟨#[]⟩, .slice none 0 0, .int .i64 0, .slice none 0 0] 32 32
 obtain⟨Nr,hNr⟩:=Jn (w.heap.size+1)
 have hR0:W.heap[Nr]? = some (.cells #[.string ⟨#[]⟩, .slice none 0 0, .int .i64 0, .slice none 0 0] 32 (0,0)):=by
  rw [←hW,hNr.out]
  have:=Yu (w.alloc (.cells #[.string f.name, .slice A1 np k1, .int .i64 f.ret, .slice A2 n k2] 32)) (.cells #[.string ⟨#[]⟩, .slice none 0 0, .int .i64 0, .slice none 0 0] 32)
  simpa using this
 have hself:=Below.refl W.heap.size W
 have q0:=hx1 0 _ rfl W hself
 have q1:=hx1 1 _ rfl W hself
 have q2:=hx1 2 _ rfl W hself
 have q3:=hx1 3 _ rfl W hself
 have hNrW:Nr<W.heap.size:=(Array.getElem?_eq_some_iff.1 hR0).1
 have hNrw:w.heap.size≤Nr:=by have:=hNr.out;omega
 have hws:w.heap.size≤W.heap.size:=hwW.size
 have cC:=hide (Qp f (.slice A1 np k1) (.slice A2 n k2) W B (by omega) (RFun.later hf (hwW.mono hB) (Nat.le_refl _)) hs)
 refine hd8 hR0 hs hf hwW hWs hW hret hnm ?_;clear hR0 hs hf hwW hWs hW hret hnm;intro hR0 hs hf hwW hWs hW hret hnm
 clear hx1 hx2
 go_enter Tryz.func74,Tryz.ntmps74
 go_upto_region 1 with(fail)
 rw [hW.out,←hNr.out]
 go_wp2_with (fail)
 refine cC.out.mono ?_
 rintro e V ⟨c,d,L,rfl,hOI,hPL,hOK,hL0,hbV⟩
 obtain⟨Am,Cm,hcm⟩:=Yd hOI.row
 subst hcm
 obtain⟨Ad,Cd,hdm⟩:=hOK.form
 subst hdm
 rw [←hnp.out] at hOI hPL⊢
 rw [←hn.out] at hOK⊢
 obtain⟨X,hX⟩:∃X,Hid (V.alloc (.cells #[.string f.name, .slice Am np Cm, .int .i64 f.ret, .slice Ad n Cd] 32)=X):=⟨_,hide rfl⟩
 obtain⟨hM0,hWX,hXs⟩:=Yci hOI hPL hOK hL0 hbV hX.out.symm hret.out hnm.out
 obtain⟨N,hN⟩:=Jn (V.heap.size)
 have hNW:W.heap.size≤N:=by rw [hN.out];exact hbV.size
 rw [←hN.out] at hM0
 have hT0:Hid (∀k,(fun k=>L≤k∧k<N) k→W.heap.size≤k):=hide (fun k hk=>by have:=hk.1;omega)
 have hcW:Hid (∀k,(Value.slice Am np Cm).ownBlock=some k→W.heap.size≤k):=hide (fun k hk=>(Ya hOI.row hk).1)
 have hselfX:=Below.refl X.heap.size X
 refine hd4 hM0 hbV hXs hL0 ?_;clear hM0 hbV hXs hL0;intro hM0 hbV hXs hL0
 clear hOI hPL hOK q0 q1 q2 q3 cC hself
 go_upto_region 2 with(fail)
 rw [hX.out,←hN.out]
 clear hX
 have han:a<n:=by rw [hn.out];exact(Js.1 ha.out).1
 have hai:(a:Int)<(n:Int):=by omega
 have hbn:b<n:=by rw [hn.out];exact(Js.1 hb.out).1
 have hbi:(b:Int)<(n:Int):=by omega
 have ha64:Hid (I64 (a:Int)):=hide (Ybz (by omega) (by omega))
 have hb64:Hid (I64 (b:Int)):=hide (Ybz (by omega) (by omega))
 obtain⟨m0,hm0,hm1,hm2,hm3⟩:=Yh Ya5
 refine hd4 hm0 hm1 hm2 hm3 ?_;clear hm0 hm1 hm2 hm3;intro hm0 hm1 hm2 hm3
 obtain⟨xs,ess,hk,hTB⟩:=hM0.out.tree
 obtain⟨xa,ea,hxa,hea,hca⟩:=hk.row_at ha.out
 obtain⟨xb,eb,hxb,heb,hcb⟩:=hk.row_at hb.out
 obtain⟨gd,CD9,hgdf, -,hgd⟩:=hk.row.form (by rw [←hn.out];omega)
 have hAd:=(Value.slice.inj hgdf).1
 subst hAd
 clear hgdf CD9
 obtain⟨ga,Ca,hxaf, -,hgal⟩:=hca.row.form (by have:=hq.out;omega)
 subst hxaf
 obtain⟨gb,Cb,hxbf, -,hgbl⟩:=hcb.row.form (by have:=hmb.out;omega)
 subst hxbf
 rw [←hma.out] at hxa
 rw [←hmb.out] at hxb
 have hgdl:gd<X.heap.size:=(Ya hk.row rfl).2.1
 have hNl:=hM0.out.lt
 have hTgd:=hTB gd (.inl rfl)
 have hNgd:N≠gd:=fun e=>hM0.out.out (e▸hTgd)
 have hgdW:W.heap.size≤gd:=hT0.out gd hTgd
 have f3':=Yg (Yb hM0.out.box 3 rfl) hNl
 have fa:=Yg (hk.blk_cell hxa) hgdl
 have fb:=Yg (hk.blk_cell hxb) hgdl
 have hzr:=hk.row
 rw [←hn.out] at hzr
 have hzf:Hid (∀w',Below X.heap.size X w'→∀j,w'.frozen? ⟨gd,j,none⟩=false):=hide (fun w' h9 j=>Zj (Yc hzr fun k hk=>h9.block k (Ya hzr hk).2.1) j)
 have f3X:=f3' X hselfX
 have faX:=fa X hselfX
 have fbX:=fb X hselfX
 have hcapa:q≤Ca:=by have h9:=(row_cap hca.row).1;have:=hq.out;omega
 have hcapi:(q:Int)≤(Ca:Int):=by omega
 have hq0:(0:Int)≤(q:Int):=by omega
 have hrna:Hid (X.ownsRow 0 44 7 (.slice (some ⟨ga,0,none⟩) ma Ca) ma (cellsOf la ea)):=hide (by rw [hma.out];exact hca.row)
 have hrnb:Hid (X.ownsRow 0 44 7 (.slice (some ⟨gb,0,none⟩) mb Cb) mb (cellsOf lb eb)):=hide (by rw [hmb.out];exact hcb.row)
 have hlca:Hid (ea.length=la.length):=hide hca.len
 have hlcb:Hid (eb.length=lb.length):=hide hcb.len
 have honea:Hid (∀u,u∈cellsOf la ea→u.oneCell'=true):=hide hca.one_cells
 have honeb:Hid (∀u,u∈cellsOf lb eb→u.oneCell'=true):=hide hcb.one_cells
 have hfront:Hid ((cellsOf la ea).take (q*7)=cellsOf la.dropLast ea.dropLast):=hide (by have h9:=cellsOf_front hlca.out hla.out;rwa [hq.out,Nat.add_sub_cancel] at h9)
 have hlenf:Hid ((cellsOf la.dropLast ea.dropLast).length=q*7):=hide (by rw [Qn (by simp [hlca.out]),List.length_dropLast,hq.out,Nat.add_sub_cancel])
 have hlenb:Hid ((cellsOf lb eb).length=mb*7):=hide (by rw [Qn hlcb.out,hmb.out])
 have hnewa:Hid (∀ad,some (⟨ga,0,none⟩:Addr)=some ad→∀(j:Nat) u,(cellsOf la.dropLast ea.dropLast)[j]? = some u→X.cell? (ad.add j)=some u):=hide (by
  intro ad h9 j u hu
  cases h9
  have hj:=(Js.1 hu).1
  rw [hlenf.out] at hj
  have h7:=World.ownsRow.cellAt hrna.out j (by omega)
  rw [←hfront.out,List.getElem?_take,if_pos hj] at hu
  have e9:(⟨ga,0,none⟩:Addr).add j=⟨ga,j,none⟩:=by
   unfold Addr.add
   split
   ·rename_i h;rw [h]
   ·simp
  rw [e9,h7]
  exact hu)
 have honef:Hid (∀u,u∈cellsOf la.dropLast ea.dropLast→u.oneCell'=true):=hide (fun u hu=>by
  rw [←hfront.out] at hu
  exact honea.out u (List.mem_of_mem_take hu))
 have hnewb:Hid (∀w',Below X.heap.size X w'→∀ad,some (⟨gb,0,none⟩:Addr)=some ad→∀(j:Nat) u,(cellsOf lb eb)[j]? = some u→w'.cell? (ad.add j)=some u):=hide (by
  intro w' hw9 ad h9 j u hu
  cases h9
  have hj:=(Js.1 hu).1
  rw [hlenb.out] at hj
  have h8:=Yc hrnb.out (w':=w') fun k hk=>hw9.block k (Ya hrnb.out hk).2.1
  have h7:=World.ownsRow.cellAt h8 j hj
  have e9:(⟨gb,0,none⟩:Addr).add j=⟨gb,j,none⟩:=by
   unfold Addr.add
   split
   ·rename_i h;rw [h]
   ·simp
  rw [e9,h7]
  exact hu)
 have hnil:Hid (X.ownsRow X.heap.size 44 7 (.slice none 0 0) 0 []):=hide ⟨rfl, .inl ⟨rfl,rfl⟩⟩
 refine hd9 hxa hxb hea heb hca hcb hk hTB hzr ?_;clear hxa hxb hea heb hca hcb hk hTB hzr;intro hxa hxb hea heb hca hcb hk hTB hzr
 go_cut [8] (fun s wx=>(∃(A:Option Addr) (z C:Nat),s = .slice A z C∧Hid (z=0)∧Hid (X.ownsRow X.heap.size 44 7 (.slice A z C) z []))∧wx=X)
 case first =>
  go_wp2
  go_meet
  exact⟨⟨none,0,0,rfl,hide rfl,hnil⟩,rfl⟩
 case rest =>
 obtain⟨⟨A6,z6,C6,rfl,hz6,hnil2⟩,hwx⟩:=hcut
 obtain rfl:X=_:=hwx.symm
 clear hwx
 go_upto_region 6 with (first
  | (at_builtin
     refine Zv _ rfl (.tmp 32) (.tmp 38) _ rfl X.heap.size 44 m0 _ 7 88 Tryz.underlying39 hm0.out hm1.out hm2.out hm3.out rfl (by omega) (.slice A7 q C7) q (cellsOf la.dropLast ea.dropLast) rfl hown1.out (some ⟨gb,0,none⟩) mb Cb (cellsOf lb eb) rfl hlenb.out (by intro h9;cases h9) (hnewb.out w1 hb1) honeb.out ?c3 ?c4 hb1s ?_
     case c3=>unfold maxLen;omega
     case c4=>omega
     intro v2 w2 hown2 hg2
     have hb2:Below X.heap.size X w2:=hb1.grown hg2 hb1s (fun k hk=>(Ya hown1.out hk).1)
     obtain⟨gv,Cv,hvf, -,hgvl⟩:=hown2.form (by omega)
     subst hvf
     refine hd2 hown2 hg2 ?_;clear hown2 hg2;intro hown2 hg2
     have f3Y:=f3' w2 hb2
     have faY:=fa w2 hb2
     have hza:=hzf.out w2 hb2 a)
  | (at_builtin
     refine Zv _ rfl (.tmp 21) (.tmp 30) _ rfl X.heap.size 44 m0 _ 7 88 Tryz.underlying39 hm0.out hm1.out hm2.out hm3.out rfl (by omega) (.slice A6 z6 C6) z6 [] rfl hnil2.out (some ⟨ga,0,none⟩) q Ca (cellsOf la.dropLast ea.dropLast) rfl hlenf.out (by intro h9;cases h9) hnewa.out honef.out ?c3 ?c4 (Nat.le_refl _) ?_
     case c3=>have:=hz6.out;unfold maxLen;omega
     case c4=>have:=hz6.out;omega
     intro v1 w1 hown1 hg1
     have hb1:Below X.heap.size X w1:=hselfX.grown hg1 (Nat.le_refl _) (fun k hk=>(Ya hnil2.out hk).1)
     have hb1s:=hb1.size
     rw [hz6.out,Nat.zero_add,List.nil_append] at hown1
     obtain⟨A7,C7,hv7⟩:=Yd hown1
     subst hv7
     refine hd2 hown1 hg1 ?_;clear hown1 hg1;intro hown1 hg1
     have f3Z:=f3' w1 hb1
     have fbZ:=fb w1 hb1))
 go_upto_region 7 with(fail)
 obtain⟨Y,hY⟩:∃Y,Hid (w2.setCell ⟨gd,a,none⟩ (.slice (some ⟨gv,0,none⟩) (q+mb) Cv)=Y):=⟨_,hide rfl⟩
 rw [hY.out]
 have f3Y2:Y.cell? ⟨N,3,none⟩=some (.slice (some ⟨gd,0,none⟩) n Cd):=by
  rw [←hY.out,World.cell?_of_block (w:=w2) (Below.heap_setCell w2 ⟨gd,a,none⟩ _ N hNgd)]
  exact f3' w2 hb2
 have fbY2:Y.cell? ⟨gd,b,none⟩=some (.slice (some ⟨gb,0,none⟩) mb Cb):=by
  rw [←hY.out,World.cell?_setCell_other w2 ⟨gd,a,none⟩ ⟨gd,b,none⟩ _ (by intro e;injection e with e1 e2;exact hab.out e2)]
  exact fb w2 hb2
 have hzb:Y.frozen? ⟨gd,b,none⟩=false:=by
  have h9:=Yc hzr.out (w':=w2) fun k hk=>hb2.block k (Ya hzr.out hk).2.1
  have h8:=(World.ownsRow.stored h9 a (.slice (some ⟨gv,0,none⟩) (q+mb) Cv)).1
  rw [hY.out] at h8
  exact Zj h8 b
 clear f3X faX fbX f3Y faY hza f3Z fbZ
 go_upto_region 8 with(fail)
 have hMJ:=MF.joined hM0.out hk.out hTB.out ha.out hb.out hea.out heb.out hxb.out hab.out hla.out hb2 hown2.out (fun k hk=>Nat.lt_trans hk.2 hNl)
 unfold Vt at hMJ
 rw [hY.out,←hbs1.out] at hMJ
 obtain⟨Z,hZ⟩:∃Z,Hid (Y.setCell ⟨gd,b,none⟩ (.slice none 0 0)=Z):=⟨_,hide rfl⟩
 rw [hZ.out] at hMJ⊢
 have hgvX:=hgvl
 have hM2:Hid (MF Z (fun k=>((L≤k∧k<N)∨k=gv)∧k≠gb) N (Ye f (mapB (movR b a) bs1 0)) (.slice Am np Cm) (.slice (some ⟨gd,0,none⟩) n Cd)):=hide (by rw [mapB_zero];exact hMJ)
 have hXW:=hWX.size
 have hgvW:W.heap.size≤gv:=Nat.le_trans hXW (Ya hown2.out rfl).1
 have hT2:Hid (∀k,(fun k=>((L≤k∧k<N)∨k=gv)∧k≠gb) k→W.heap.size≤k):=hide (fun k hk=>hk.1.elim (fun h9=>hT0.out k h9) (fun h9=>by rw [h9];exact hgvW))
 have hbZ:Below W.heap.size W Z:=by
  rw [←hZ.out,←hY.out]
  exact((hWX.trans (hb2.mono hXW)).setCell (p:=⟨gd,a,none⟩) hgdW _).setCell (p:=⟨gd,b,none⟩) hgdW _
 clear f3Y2 fbY2 hzb hMJ hY hZ f3' fa fb hselfX
 clear hM0
 go_wp2
 go_loopw [10] (fun s wr=>∃(kb:Nat) (T1:Nat→Prop),s = .int .i64 kb∧kb≤n∧Hid (MF wr T1 N (Ye f (mapB (movR b a) bs1 kb)) (.slice Am np Cm) (.slice (some ⟨gd,0,none⟩) n Cd))∧Hid (∀k,T1 k→W.heap.size≤k)∧Below W.heap.size W wr) (fun s _=>n - (intOf s).toNat)
 case atStart=>exact⟨0,_,rfl,Nat.zero_le _,hM2,hT2,hbZ⟩
 case round =>
  clear hM2 hT2 hbZ
  rename World=>V0
  obtain⟨kb,T0,rfl,hkb,hM,hT1,hbV0⟩:=hrel
  have hV0s:=hbV0.size
  have f30:=Yb hM.out.box 3 rfl
  by_cases hltb:kb<n
  ·have hkbi : (kb : Int) < (n : Int) := by omega
   obtain⟨l,hl⟩:=Yf (l:=bs1) (k:=kb) (by rw [hnJ.out,←hn.out];exact hltb)
   obtain⟨m,hm⟩:=Jn (l.length)
   have hmle:m≤4000000:=by
    rw [hm.out]
    exact hszl.out l (Jm hl.out)
   have hphl:=hide (hphJ.out l (Jm hl.out))
   have hszl2:=hide (hszJ.out l (Jm hl.out))
   have hM1:Hid (MF V0 T0 N (Ye f ((mapB (movR b a) bs1 kb).set kb (mapL (movR b a) l 0))) (.slice Am np Cm) (.slice (some ⟨gd,0,none⟩) n Cd)):=hide (by rw [mapL_zero,Qo (mapB_at hl.out)];exact hM.out)
   go_wp2
   go_loopw [11] (fun s wr=>∃(i:Nat) (T1:Nat→Prop),s = .int .i64 i∧i≤m∧Hid (MF wr T1 N (Ye f ((mapB (movR b a) bs1 kb).set kb (mapL (movR b a) l i))) (.slice Am np Cm) (.slice (some ⟨gd,0,none⟩) n Cd))∧Hid (∀k,T1 k→W.heap.size≤k)∧Below W.heap.size W wr) (fun s _=>m - (intOf s).toNat)
   case atStart=>exact⟨0,_,rfl,Nat.zero_le _,hM1,hT1,hbV0⟩
   case round =>
    clear hM1 hT1 hbV0 hM hV0s f30
    rename World=>V1
    obtain⟨i,T1,rfl,hi,hM,hT1,hbV1⟩:=hrel
    have hV1s:=hbV1.size
    obtain⟨xs,ess,hk,hTB⟩:=hM.out.tree
    have hbs:(Ye f ((mapB (movR b a) bs1 kb).set kb (mapL (movR b a) l i))).blocks[kb]? = some (mapL (movR b a) l i):=Jf (by rw [mapB_len,hnJ.out,←hn.out];exact hltb)
    have hbl:(Ye f ((mapB (movR b a) bs1 kb).set kb (mapL (movR b a) l i))).blocks.length=n:=by
     show((mapB (movR b a) bs1 kb).set kb _).length=n
     rw [List.length_set,mapB_len,hnJ.out,hn.out]
    obtain⟨x,es,hx,he,hcd⟩:=hk.row_at hbs
    obtain⟨Ax,Cx,hxf⟩:=Yd hcd.row
    have hml:(mapL (movR b a) l i).length=m:=by rw [mapL_len,hm.out]
    rw [hml] at hxf
    subst hxf
    have hgdl:gd<V1.heap.size:=(Ya hk.row rfl).2.1
    have hNl:=hM.out.lt
    have f3':=Yg (Yb hM.out.box 3 rfl) hNl
    have fx:=Yg (hk.blk_cell hx) hgdl
    have hself1:=Below.refl V1.heap.size V1
    have f3V:=f3' V1 hself1
    have fxV:=fx V1 hself1
    by_cases hlt:i<m
    ·have hii : (i : Int) < (m : Int) := by omega
     obtain⟨ins,hins⟩:=Yf (l:=l) (k:=i) (by rw [←hm.out];exact hlt)
     have hri:Hid ((mapL (movR b a) l i)[i]? = some ins):=hide (mapL_at hins.out)
     obtain⟨ca,ct,hei,hva,hvt,hok⟩:=hcd.ins_at hri.out
     obtain⟨gc,CX9,hgcf, -,hgcl⟩:=hcd.row.form (by rw [hml];omega)
     have hAx:=(Value.slice.inj hgcf).1
     subst hAx
     clear hgcf
     obtain⟨Aa,Ca,hcaf⟩:=Yd hva.row
     subst hcaf
     obtain⟨At,Ct,hctf⟩:=Yd hvt.row
     subst hctf
     obtain⟨na,hna⟩:=Jn (ins.args.length)
     obtain⟨nt,hnt⟩:=Jn (ins.to.length)
     rw [←hna.out] at hei hva
     rw [←hnt.out] at hei hvt
     have hgcl2:gc<V1.heap.size:=(Ya hcd.row rfl).2.1
     obtain⟨e0,e1,e2,e3,e4,e5,e6⟩:=cell7 hcd hri.out hei
     have f0:=Yg e0 hgcl2
     have f1:=Yg e1 hgcl2
     have f2:=Yg e2 hgcl2
     have f3:=Yg e3 hgcl2
     have f4:=Yg e4 hgcl2
     have f5:=Yg e5 hgcl2
     have f6:=Yg e6 hgcl2
     have hrow7:=hide hcd.row
     have hinl:=Jm hins.out
     have cL:Hid (∀w',Below V1.heap.size V1 w'→Calls Tryz.prog 108 #[ins.v (.slice Aa na Ca) (.slice At nt Ct), .int .i64 b, .int .i64 a] w' (InsOwn (movR b a ins) (.slice Aa na Ca) (.slice At nt Ct) w')):=hide (fun w' h9=>rmoved_any ins (.slice Aa na Ca) (.slice At nt Ct) b a ha64.out w' (hva.kept fun k _ hk=>h9.block k hk) (hvt.kept fun k _ hk=>h9.block k hk) (hphl.out ins hinl) (hszl2.out ins hinl))
     refine hd12 hx he hei hva hvt hok hcd hk hTB hbs hbl hinl ?_;clear hx he hei hva hvt hok hcd hk hTB hbs hbl hinl;intro hx he hei hva hvt hok hcd hk hTB hbs hbl hinl
     clear e0 e1 e2 e3 e4 e5 e6 hml
     go_upto_region 14 with(fail)
     refine Y8 (S:=fun u=>Below V1.heap.size V1 u) (T:=fun j=>decide (j<19)) (by kernel_rfl) ?_
     obtain⟨R0,hR9⟩:∃R0,V1.drew=R0:=⟨_,rfl⟩
     have hS0:Hid (Below V1.heap.size V1 R0):=hide (by rw [←hR9];exact hself1.drew)
     rw [hR9]
     clear hR9 f3V fxV
     refine Jt (i:=0) hS0.out ?_
     refine Jt (i:=1) hS0.out ?_
     refine Jt (i:=2) hS0.out ?_
     refine Jt (i:=3) hS0.out ?_
     refine Jt (i:=4) hS0.out ?_
     refine Jt (i:=5) hS0.out ?_
     refine Jt (i:=6) hS0.out ?_
     refine Jt (i:=7) hS0.out ?_
     refine Jt (i:=8) hS0.out ?_
     refine Jt (i:=9) hS0.out ?_
     refine Jt (i:=10) hS0.out ?_
     refine Jt (i:=11) hS0.out ?_
     refine Jt (i:=12) hS0.out ?_
     refine Jt (i:=13) hS0.out ?_
     refine Jt (i:=14) hS0.out ?_
     refine Jt (i:=15) hS0.out ?_
     refine Jt (i:=16) hS0.out ?_
     refine Jt (i:=17) hS0.out ?_
     refine Jr (i:=18) fun K hK => ?_
     (try go_simp)
     go_at_call 108
     refine(cL.out _ hS0.out).mono ?_
     rintro e K1 ⟨c9,t9,rfl,hV9,hI9,hc9,ht9,hbK⟩
     obtain⟨A9,C9,hcf9⟩:=Yd hV9.row
     subst hcf9
     obtain⟨B9,D9,htf9⟩:=Yd hI9.row
     subst htf9
     obtain⟨n9,hn9⟩:=Jn ((movR b a ins).args.length)
     obtain⟨m9,hm9⟩:=Jn ((movR b a ins).to.length)
     rw [←hn9.out] at hV9 hc9⊢
     rw [←hm9.out] at hI9 ht9⊢
     have hS1:Hid (Below V1.heap.size V1 K1):=hide (hS0.out.trans (hbK.mono hS0.out.size))
     have o0:=f0 K1 hS1.out
     have o1:=f1 K1 hS1.out
     have o2:=f2 K1 hS1.out
     have o3:=f3 K1 hS1.out
     have o4:=f4 K1 hS1.out
     have o5:=f5 K1 hS1.out
     have o6:=f6 K1 hS1.out
     have hrK:=Yc hrow7.out (w':=K1) fun k hk=>hS1.out.block k (Ya hrow7.out hk).2.1
     have xz:∀j,K1.frozen? ⟨gc,j,none⟩=false:=fun j=>Zj hrK j
     have y0:=xz (i*7)
     have y1:=xz (i*7+1)
     have y2:=xz (i*7+2)
     have y3:=xz (i*7+3)
     have y4:=xz (i*7+4)
     have y5:=xz (i*7+5)
     have y6:=xz (i*7+6)
     clear xz
     refine hd6 hrK hV9 hI9 hc9 ht9 hbK ?_;clear hrK hV9 hI9 hc9 ht9 hbK;intro hrK hV9 hI9 hc9 ht9 hbK
     refine Jo hK (fun _=>hS1.out) ?_;clear hK K
     refine Jy (i:=19) ?_
     refine Jr (i:=20) fun K hK => ?_
     go_simp
     refine Jo hK (fun h=>absurd h (by decide)) ?_;clear hK K
     refine Yv (by kernel_rfl) ?_ _
     have hfin:=hide (MF.ins7g hM.out hk.out hTB.out hbs.out hx.out he.out hri.out hei.out hS1.out (c' := .slice A9 n9 C9) (t' := .slice B9 m9 D9) (x:=movR b a ins) hV9.out hI9.out (movR_ok hok.out) (fun k hk=>(hc9.out k hk).imp_right fun h9=>by have:=hS0.out.size;omega) (fun k hk=>(ht9.out k hk).imp_right fun h9=>by have:=hS0.out.size;omega))
     have hM2:Hid (MF (Ybc K1 gc (i*7) (movR b a ins) (.slice A9 n9 C9) (.slice B9 m9 D9)) (fun k=>T1 k∨V1.heap.size≤k) N (Ye f ((mapB (movR b a) bs1 kb).set kb (mapL (movR b a) l (i+1)))) (.slice Am np Cm) (.slice (some ⟨gd,0,none⟩) n Cd)):=hide (by
      have h9:=hfin.out.1
      have e9:(Ye f ((mapB (movR b a) bs1 kb).set kb (mapL (movR b a) l i))).blocks.set kb ((mapL (movR b a) l i).set i (movR b a ins))=(mapB (movR b a) bs1 kb).set kb (mapL (movR b a) l (i+1)):=by
       show((mapB (movR b a) bs1 kb).set kb _).set kb _=_
       rw [mapL_next hins.out,List.set_set]
      rw [e9] at h9
      exact h9)
     have hT2:Hid (∀k,(fun k=>T1 k∨V1.heap.size≤k) k→W.heap.size≤k):=hide (fun k hk=>hk.elim (fun h9=>hT1.out k h9) (fun h9=>by omega))
     have hb2:Below W.heap.size W (Ybc K1 gc (i*7) (movR b a ins) (.slice A9 n9 C9) (.slice B9 m9 D9)):=by
      have h9:=hfin.out.2
      have h8:Below W.heap.size V1 (Ybc K1 gc (i*7) (movR b a ins) (.slice A9 n9 C9) (.slice B9 m9 D9)):=h9.to_below (B':=W.heap.size) (fun k hk=>by
       rcases hk with hk|hk
       ·omega
       ·exact hT1.out k hk) hV1s
      exact hbV1.trans h8
     replace hfin:=hide hfin
     go_wp2
     go_roundw
     case rel=>exact⟨i+1,_,by go_num,hlt,hM2,hT2,hb2⟩
     case measure=>simp [intOf];omega
    ·obtain rfl : m = i := by omega
     have hMe:Hid (MF V1 T1 N (Ye f (mapB (movR b a) bs1 (kb+1))) (.slice Am np Cm) (.slice (some ⟨gd,0,none⟩) n Cd)):=hide (by
      have h9:=hM.out
      rw [hm.out,mapL_end,mapB_next hl.out] at h9
      exact h9)
     refine hd7 hx he hcd hk hTB hbs hbl ?_;clear hx he hcd hk hTB hbs hbl;intro hx he hcd hk hTB hbs hbl
     clear f3' fx hml
     go_wp2
     go_roundw
     case rel=>exact⟨kb+1,_,by go_num,hltb,hMe,hT1,hbV1⟩
     case measure=>simp [intOf];omega
  ·obtain rfl : n = kb := by omega
   rename World=>V1
   have hMe:Hid (MF V1 T0 N (Ye f bs') (.slice Am np Cm) (.slice (some ⟨gd,0,none⟩) n Cd)):=hide (by
    have h9:=hM.out
    have e9:mapB (movR b a) bs1 n=bs':=by rw [hn.out,←hnJ.out,mapB_end,←hbs2.out]
    rw [e9] at h9
    exact h9)
   have v0:V1.cell? ⟨N,0,none⟩=some (.string f.name):=Yb hMe.out.box 0 rfl
   have v1:=Yb hMe.out.box 1 rfl
   have v2:V1.cell? ⟨N,2,none⟩=some (.int .i64 f.ret):=Yb hMe.out.box 2 rfl
   have hb1:Below V1.heap.size V1 (V1.alloc (.cells #[.int .i64 b] 3)):=(Below.refl _ _).alloc (Nat.le_refl _) _
   have hMp:=hide (hMe.out.gives (w':=V1.alloc (.cells #[.int .i64 b] 3)) (b:=0) (fun _ _=>Nat.zero_le _) (fun _ _=>Nat.zero_le _))
   have cW:Hid (Calls Tryz.prog 72 #[f.v (.slice Am np Cm) (.slice (some ⟨gd,0,none⟩) n Cd), .slice (some ⟨V1.heap.size,0,none⟩) 1 1] (V1.alloc (.cells #[.int .i64 b] 3)) (GivesF f (Yn ((List.replicate n false).set b true) bs') (V1.alloc (.cells #[.int .i64 b] 3)))):=hide (by
    have hp:OwnI (V1.alloc (.cells #[.int .i64 b] 3)) 0 (.slice Am np Cm) (Ye f bs').params:=hMe.out.par.kept fun k _ hk=>hb1.block k hk
    obtain⟨xs,ess,h1,h2⟩:=hMe.out.tree
    have hk9:OwnK (V1.alloc (.cells #[.int .i64 b] 3)) 0 (.slice (some ⟨gd,0,none⟩) n Cd) (Ye f bs').blocks:=(h1.kept fun k _ hk=>hb1.block k hk).own
    have hr9:=own_rep (f:=Ye f bs') hp hk9 hret.out hnm.out
    have h8:=rwithout17_any (Ye f bs') [(b:Int)] ((List.replicate n false).set b true) (by show _=bs'.length;rw [hn'.out,←hn.out];simp) (fun k g hk=>one_gone hbn hk) hwf'.out (some ⟨V1.heap.size,0,none⟩) 1 _ _ (V1.alloc (.cells #[.int .i64 b] 3)) _ (Nat.le_refl _) hr9 hs'.out (ownI_one hb64.out) (by simp)
    exact h8)
   clear hMp
   replace hb1:=hide hb1
   go_wp2_with (fail)
   refine cW.out.mono ?_
   rintro e V2 ⟨c9,d9,rfl,hI9,hK9,hb9⟩
   obtain⟨Ac,kc,hcf⟩:=Yd hI9.row
   subst hcf
   obtain⟨Ad,kd,hdf⟩:=hK9.form0
   subst hdf
   have hV2:Below W.heap.size W V2:=(hbV0.trans (hb1.out.mono hV0s)).trans (hb9.mono (by have:=hb1.out.size;omega))
   have hRV:=(hV2.block Nr hNrW).trans hR0.out
   obtain⟨n0,n1,n2,n3⟩:=bx4 hRV
   obtain⟨g0,g1,g2,g3⟩:=bf4 hRV
   refine hd4 hRV hI9 hK9 hb9 ?_;clear hRV hI9 hK9 hb9;intro hRV hI9 hK9 hb9
   obtain⟨np2,hnp2⟩:∃x,Hid (x=f.params.length):=⟨_,hide rfl⟩
   obtain⟨nb2,hnb2⟩:∃x,Hid (x=(Yn ((List.replicate n false).set b true) bs').length):=⟨_,hide rfl⟩
   rw [←hnp2.out] at hI9⊢
   rw [←hnb2.out] at hK9⊢
   clear v0 v1 v2 f30
   go_wp2
   refine bodyPost_ret (v:=f.v (.slice Ac np2 kc) (.slice Ad nb2 kd)) (by simp [results,Tryz.results74,go_sem,n0,n1,n2,n3,g0,g1,g2,g3]) rfl ?_
   have hwV:=hwW.out.trans (hV2.mono hws)
   have hfin:=(((hwV.setCell (p:=⟨Nr,0,none⟩) hNrw (.string f.name)).setCell (p:=⟨Nr,1,none⟩) hNrw (.slice Ac np2 kc)).setCell (p:=⟨Nr,2,none⟩) hNrw (.int .i64 f.ret)).setCell (p:=⟨Nr,3,none⟩) hNrw (.slice Ad nb2 kd)
   have hkp:∀(u0 u1 u2 u3:Value) (k:Nat),W.heap.size≤k→((((V2.setCell ⟨Nr,0,none⟩ u0).setCell ⟨Nr,1,none⟩ u1).setCell ⟨Nr,2,none⟩ u2).setCell ⟨Nr,3,none⟩ u3).heap[k]? = V2.heap[k]? := fun u0 u1 u2 u3 k hk=>by
    have e1:k≠Nr:=by omega
    rw [Below.heap_setCell _ ⟨Nr,3,none⟩ _ _ e1,Below.heap_setCell _ ⟨Nr,2,none⟩ _ _ e1,Below.heap_setCell _ ⟨Nr,1,none⟩ _ _ e1,Below.heap_setCell _ ⟨Nr,0,none⟩ _ _ e1]
   have hWV9:W.heap.size≤(V1.alloc (.cells #[.int .i64 b] 3)).heap.size:=by have:=hb1.out.size;omega
   have r1:=(hI9.out.kept (w':=(((V2.setCell ⟨Nr,0,none⟩ (.string f.name)).setCell ⟨Nr,1,none⟩ (.slice Ac np2 kc)).setCell ⟨Nr,2,none⟩ (.int .i64 f.ret)).setCell ⟨Nr,3,none⟩ (.slice Ad nb2 kd)) fun k hk _=>hkp _ _ _ _ k (by omega)).mono (B':=w.heap.size) (by omega)
   have r2:=(hK9.out.kept (w':=(((V2.setCell ⟨Nr,0,none⟩ (.string f.name)).setCell ⟨Nr,1,none⟩ (.slice Ac np2 kc)).setCell ⟨Nr,2,none⟩ (.int .i64 f.ret)).setCell ⟨Nr,3,none⟩ (.slice Ad nb2 kd)) fun k hk _=>hkp _ _ _ _ k (by omega)).mono (B':=w.heap.size) (by omega)
   exact⟨_,_,rfl,r1,r2,hfin⟩
end Go.Proofs.YtamjcafjdioidaaGreat
