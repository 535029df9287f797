/- Texts of the chain, without what is not wanted: RfD, Of, IcK, RfG. No condition but sizes. -/
import Derived.Test.YtamjcafjdioidaaGreatUv18
set_option linter.unusedVariables false
set_option linter.unusedSimpArgs false
set_option maxRecDepth 100000
set_option maxHeartbeats 12800000
namespace Go.Proofs.YtamjcafjdioidaaGreat
open Go.RowKit
def InsOwn (x:Ins) (ca ct:Value) (w:World) (e:Ending) (w':World):Prop:=∃c t,e = .returned (x.v c t)∧OwnV w' 0 c x.args∧OwnI w' 0 t x.to∧(∀k,c.ownBlock=some k→ca.ownBlock=some k∨w.heap.size≤k)∧(∀k,t.ownBlock=some k→ct.ownBlock=some k∨w.heap.size≤k)∧Below w.heap.size w w'
def Yaj (gone:List Int) (x:Ins) (i:Nat):List (Int×Opd):=((Zy x).take i).filter fun q => !(gone.contains q.1)
theorem lostN_zero (gone:List Int) (x:Ins):Yaj gone x 0 = []:=by simp [Yaj]
theorem lostN_end {gone:List Int} {x:Ins} (h:x.args.length=x.to.length):Yaj gone x x.to.length=lostP gone x:=by
 unfold Yaj lostP
 rw [List.take_of_length_le]
 unfold Zy
 rw [List.length_zip]
 omega
theorem takes_at {x:Ins} {i:Nat} {t:Int} {a:Opd} (ht:x.to[i]? = some t) (ha:x.args[i]? = some a):(Zy x)[i]? = some (t,a):=by
 unfold Zy
 rw [List.getElem?_zip_eq_some]
 exact⟨ht,ha⟩
theorem lostN_next {gone:List Int} {x:Ins} {i:Nat} {t:Int} {a:Opd} (ht:x.to[i]? = some t) (ha:x.args[i]? = some a):Yaj gone x (i+1)=Yaj gone x i++if decide (t∈gone)=true then [] else [(t,a)]:=by
 unfold Yaj
 rw [List.take_add_one,takes_at ht ha,List.filter_append]
 congr 1
 have e:gone.contains t=decide (t∈gone):=by rw [Bool.eq_iff_iff];simp
 simp only [Option.toList_some,List.filter_cons,List.filter_nil,e]
 cases decide (t∈gone)<;>rfl
theorem lostN_le (gone:List Int) (x:Ins) (i:Nat):(Yaj gone x i).length≤i:=by
 unfold Yaj
 have h1:=List.length_filter_le (fun q:Int×Opd => !(gone.contains q.1)) ((Zy x).take i)
 rw [List.length_take] at h1
 omega
theorem rlost_any (x : Ins) (ca ct : Value) (gone : List Int) (Ag : Option Addr) (Cg : Nat) (w : World) (hV : OwnV w 0 ca x.args) (hI : OwnI w 0 ct x.to) (hg : OwnI w 0 (.slice Ag gone.length Cg) gone) (hgl : gone.length ≤ 4000000) (hlen : x.op = 25 → x.args.length = x.to.length) (hsz : x.to.length ≤ 2000000) :
  Calls Tryz.prog 107 #[x.v ca ct, .slice Ag gone.length Cg] w (InsOwn (Ze gone x) ca ct w):=by
 obtain⟨A5,k5,rfl,ra⟩:=opd_reads hV
 obtain⟨A6,k6,rfl,ri⟩:=int_reads hI
 obtain⟨na,hna⟩:=Jn (x.args.length)
 obtain⟨nt,hnt⟩:=Jn (x.to.length)
 obtain⟨ng,hng⟩:=Jn (gone.length)
 obtain⟨W,hW,hwW,hWs,hx,hy⟩:=Qb w #[.int .i64 x.op, .int .i64 x.reg, .int .i64 x.ty, .int .i64 x.num, .int .i64 x.flags, .slice A5 na k5, .slice A6 nt k6] #[.int .i64 0, .int .i64 0, .int .i64 0, .int .i64 0, .int .i64 0, .slice none 0 0, .slice none 0 0] 44 44
 obtain⟨N,hN⟩:=Jn (w.heap.size)
 have hI0:W.heap[N]? = some (.cells #[.int .i64 x.op, .int .i64 x.reg, .int .i64 x.ty, .int .i64 x.num, .int .i64 x.flags, .slice A5 na k5, .slice A6 nt k6] 44 (0,0)):=by rw [←hW,hN.out];exact Ycf _ _ _
 have hR0:W.heap[N+1]? = some (.cells #[.int .i64 0, .int .i64 0, .int .i64 0, .int .i64 0, .int .i64 0, .slice none 0 0, .slice none 0 0] 44 (0,0)):=by
  rw [←hW,hN.out]
  have:=Yt (w.alloc (.cells #[.int .i64 x.op, .int .i64 x.reg, .int .i64 x.ty, .int .i64 x.num, .int .i64 x.flags, .slice A5 na k5, .slice A6 nt k6] 44)) (.cells #[.int .i64 0, .int .i64 0, .int .i64 0, .int .i64 0, .int .i64 0, .slice none 0 0, .slice none 0 0] 44)
  simpa using this
 rw [←hna.out,←hnt.out,←hng.out]
 rw [←hnt.out] at hsz
 rw [←hng.out] at hgl hg
 have hNW:N<W.heap.size:=(Array.getElem?_eq_some_iff.1 hI0).1
 have hNW1:N+1<W.heap.size:=(Array.getElem?_eq_some_iff.1 hR0).1
 have c0:=Yg (Yb hI0 0 rfl) hNW
 have c1:=Yg (Yb hI0 1 rfl) hNW
 have c2:=Yg (Yb hI0 2 rfl) hNW
 have c3:=Yg (Yb hI0 3 rfl) hNW
 have c4:=Yg (Yb hI0 4 rfl) hNW
 have c5:=Yg (Yb hI0 5 rfl) hNW
 have c6:=Yg (Yb hI0 6 rfl) hNW
 have hself:=Below.refl W.heap.size W
 have hNw:w.heap.size≤N:=by have:=hN.out;omega
 have hN1w:w.heap.size≤N+1:=by omega
 refine hd10 hWs hwW hW hI0 hR0 hV hI hg ra ri ?_;clear hWs hwW hW hI0 hR0 hV hI hg ra ri;intro hWs hwW hW hI0 hR0 hV hI hg ra ri
 clear hx hy
 by_cases h25:x.op=25
 case neg =>
  have hv:Hid (Ze gone x=x):=hide (by unfold Ze;rw [if_neg h25])
  have d0:=c0 W hself
  have d1:=c1 W hself
  have d2:=c2 W hself
  have d3:=c3 W hself
  have d4:=c4 W hself
  have d5:=c5 W hself
  have d6:=c6 W hself
  obtain⟨n0,n1,n2,n3,n4,n5,n6⟩:=bx7 hR0.out
  obtain⟨g0,g1,g2,g3,g4,g5,g6⟩:=bf7 hR0.out
  clear c0 c1 c2 c3 c4 c5 c6
  have q25:(x.op != 25)=true:=by simp [h25]
  replace h25:=hide h25
  go_enter Tryz.func107,Tryz.ntmps107
  go_upto_region 1 with(fail)
  rw [hW.out,←hN.out]
  go_wp2
  refine bodyPost_ret (v:=x.v (.slice A5 na k5) (.slice A6 nt k6)) (by simp [results,Tryz.results107,go_sem,n0,n1,n2,n3,n4,n5,n6,g0,g1,g2,g3,g4,g5,g6]) rfl ?_
  have hfin:=((((((hwW.out.setCell (p:=⟨N+1,0,none⟩) hN1w (.int .i64 x.op)).setCell (p:=⟨N+1,1,none⟩) hN1w (.int .i64 x.reg)).setCell (p:=⟨N+1,2,none⟩) hN1w (.int .i64 x.ty)).setCell (p:=⟨N+1,3,none⟩) hN1w (.int .i64 x.num)).setCell (p:=⟨N+1,4,none⟩) hN1w (.int .i64 x.flags)).setCell (p:=⟨N+1,5,none⟩) hN1w (.slice A5 na k5)).setCell (p:=⟨N+1,6,none⟩) hN1w (.slice A6 nt k6)
  rw [hv.out]
  have hV2:=hV.out.kept fun k _ hk=>hfin.block k hk
  have hI2:=hI.out.kept fun k _ hk=>hfin.block k hk
  rw [←hna.out] at hV2
  rw [←hnt.out] at hI2
  exact⟨_,_,rfl,hV2,hI2,fun k hk => .inl hk,fun k hk => .inl hk,hfin⟩
 have hle:=hlen h25
 have hnat:Hid (na=nt):=hide (by rw [hna.out,hnt.out];exact hle)
 obtain⟨i0,hi0,hz0,hz1,hz2⟩:=Yh Z4
 refine hd4 hi0 hz0 hz1 hz2 ?_;clear hi0 hz0 hz1 hz2;intro hi0 hz0 hz1 hz2
 obtain⟨p0,hp0,hp1,hp2,hp3⟩:=Yh Q6
 refine hd4 hp0 hp1 hp2 hp3 ?_;clear hp0 hp1 hp2 hp3;intro hp0 hp1 hp2 hp3
 have hrow0:Hid (OwnV W W.heap.size (.slice none 0 0) ((Yaj gone x 0).map Prod.snd)):=hide (by rw [lostN_zero];exact OwnV.nil_)
 have hrot0:Hid (OwnI W W.heap.size (.slice none 0 0) ((Yaj gone x 0).map Prod.fst)):=hide (by rw [lostN_zero];exact OwnI.nil_)
 have hl0:Hid (0=(Yaj gone x 0).length):=hide (by rw [lostN_zero];rfl)
 have d0:=c0 W hself
 refine hd2 hlen hle ?_;clear hlen hle;intro hlen hle
 have q25:(x.op != 25)=false:=by simp [h25]
 replace h25:=hide h25
 go_enter Tryz.func107,Tryz.ntmps107
 go_upto_region 1 with(fail)
 rw [hW.out,←hN.out]
 go_wp2
 go_loopw [5,6,7] (fun u5 u6 s wr=>∃(i r:Nat) (Ar:Option Addr) (kr:Nat) (At:Option Addr) (kt:Nat),u5 = .slice Ar r kr∧u6 = .slice At r kt∧s = .int .i64 i∧i≤nt∧Hid (r=(Yaj gone x i).length)∧Hid (OwnV wr W.heap.size (.slice Ar r kr) ((Yaj gone x i).map Prod.snd))∧Hid (OwnI wr W.heap.size (.slice At r kt) ((Yaj gone x i).map Prod.fst))∧Below W.heap.size W wr) (fun _ _ s _=>nt - (intOf s).toNat)
 case atStart=>exact⟨0,0,none,0,none,0,rfl,rfl,rfl,Nat.zero_le _,hl0,hrow0,hrot0,hself⟩
 case round =>
  clear hrow0 hrot0 hl0 hself d0
  rename World=>V
  obtain⟨i,r,Ar,kr,At,kt,rfl,rfl,rfl,hi,hr,hrow,hrot,hbV⟩:=hrel
  have hVs:=hbV.size
  by_cases hlt:i<nt
  ·have hii : (i : Int) < (nt : Int) := by omega
   obtain⟨t,ht⟩:=Yf (l:=x.to) (k:=i) (by rw [←hnt.out];exact hlt)
   obtain⟨a,ha⟩:=Yf (l:=x.args) (k:=i) (by rw [←hna.out,hnat.out];exact hlt)
   have hia:(i:Int)<(na:Int):=by have:=hnat.out;omega
   have hwV:Hid (∀w',Below V.heap.size V w'→Below w.heap.size w w'):=hide (fun w' h9=>hwW.out.trans ((hbV.mono hwW.out.size).trans (h9.mono (by have:=hwW.out.size;omega))))
   have hWV:Hid (∀w',Below V.heap.size V w'→Below W.heap.size W w'):=hide (fun w' h9=>hbV.trans (h9.mono hVs))
   obtain⟨g5,rfl,ra5⟩:=ra.out (by rw [←hna.out,hnat.out];omega)
   obtain⟨g6,rfl,ri6⟩:=ri.out (by rw [←hnt.out];omega)
   have d5:∀w',Below V.heap.size V w'→w'.cell? ⟨N,5,none⟩=some (.slice (some ⟨g5,0,none⟩) na k5):=fun w' h9=>c5 w' (hWV.out w' h9)
   have d6:∀w',Below V.heap.size V w'→w'.cell? ⟨N,6,none⟩=some (.slice (some ⟨g6,0,none⟩) nt k6):=fun w' h9=>c6 w' (hWV.out w' h9)
   have dt:∀w',Below V.heap.size V w'→w'.cell? ⟨g6,i,none⟩=some (.int .i64 t):=fun w' h9=>ri6 i t ht.out w' (hwV.out w' h9)
   have da0:∀w',Below V.heap.size V w'→w'.cell? ⟨g5,i*3,none⟩=some (.int .i64 a.kind):=fun w' h9=>(ra5 i a ha.out w' (hwV.out w' h9)).1
   have da1:∀w',Below V.heap.size V w'→w'.cell? ⟨g5,i*3+1,none⟩=some (.int .i64 a.num):=fun w' h9=>(ra5 i a ha.out w' (hwV.out w' h9)).2.1
   have da2:∀w',Below V.heap.size V w'→w'.cell? ⟨g5,i*3+2,none⟩=some (.int .u64 a.bits):=fun w' h9=>(ra5 i a ha.out w' (hwV.out w' h9)).2.2
   have hselfV:=Below.refl V.heap.size V
   have hnx:=hide (lostN_next (gone:=gone) ht.out ha.out)
   have hrl:r≤2000000:=by have:=lostN_le gone x i;have:=hr.out;omega
   have htI:Hid (I64 t):=hide (hI.out.ok t (Jm ht.out))
   have haI:Hid (I64 a.kind∧I64 a.num):=hide (hV.out.ok a (Jm ha.out))
   obtain⟨b,hb⟩:=Jn (decide (t∈gone))
   have cH:Hid (Calls Tryz.prog 83 #[.slice Ag ng Cg, .int .i64 t] V fun e w'=>e = .returned (.bool b)∧w'=V):=hide (by
    have h9:=rhas_any Ag Cg gone t V 0 (by rw [←hng.out];exact hgl) (by have:=hg.out.kept fun k _ hk=>(hwV.out V hselfV).block k hk;rwa [hng.out] at this)
    rwa [←hng.out,←hb.out] at h9)
   rw [←hb.out] at hnx
   refine hd2 ht ha ?_;clear ht ha;intro ht ha
   clear ra5 ri6
   have d6V:=d6 V hselfV
   have dtV:=dt V hselfV
   go_wp2_with (fail)
   refine cH.out.mono ?_
   rintro e w1 ⟨rfl,hw1⟩
   rw [hw1]
   clear hw1 w1
   cases b with
   | true =>
    have hnx2:Hid (Yaj gone x (i+1)=Yaj gone x i):=hide (by rw [hnx.out];simp)
    have hr2:Hid (r=(Yaj gone x (i+1)).length):=hide (by rw [hnx2.out];exact hr.out)
    have hrow2:Hid (OwnV V W.heap.size (.slice Ar r kr) ((Yaj gone x (i+1)).map Prod.snd)):=hide (by rw [hnx2.out];exact hrow.out)
    have hrot2:Hid (OwnI V W.heap.size (.slice At r kt) ((Yaj gone x (i+1)).map Prod.fst)):=hide (by rw [hnx2.out];exact hrot.out)
    go_wp2
    go_roundw
    case rel=>exact⟨i+1,r,Ar,kr,At,kt,rfl,rfl,by go_num,hlt,hr2,hrow2,hrot2,hbV⟩
    case measure=>simp [intOf];omega
   | false =>
    have hnx2:Hid (Yaj gone x (i+1)=Yaj gone x i ++ [(t,a)]):=hide (by rw [hnx.out];simp)
    have hr2:Hid (r+1=(Yaj gone x (i+1)).length):=hide (by rw [hnx2.out,List.length_append,←hr.out];rfl)
    have hrl1:Hid (((Yaj gone x i).map Prod.snd).length=r):=hide (by rw [List.length_map,←hr.out])
    have hrl2:Hid (((Yaj gone x i).map Prod.fst).length=r):=hide (by rw [List.length_map,←hr.out])
    have hrowR:Hid (V.ownsRow W.heap.size 62 3 (.slice Ar r kr) r (((Yaj gone x i).map Prod.snd).flatMap oc)):=hide (by have:=hrow.out.row;rwa [hrl1.out] at this)
    have hrotR:Hid (V.ownsRow W.heap.size 3 1 (.slice At r kt) r (((Yaj gone x i).map Prod.fst).map fun z=>Value.int .i64 z)):=hide (by have:=hrot.out.row;rwa [hrl2.out] at this)
    have d5V:=d5 V hselfV
    have daV0:=da0 V hselfV
    have daV1:=da1 V hselfV
    have daV2:=da2 V hselfV
    go_wp2_with (first
     | (at_builtin
        refine wpList_append_own _ rfl (.tmp 29) (.tmp 35) _ rfl W.heap.size 62 p0 _ 3 24 Tryz.underlying42 hp0.out hp1.out hp2.out hp3.out rfl (by omega) (.slice Ar r kr) _ _ rfl (hrowR.out.alloc _) ⟨V.heap.size,0,none⟩ 1 1 [.int .i64 a.kind, .int .i64 a.num, .int .u64 a.bits] rfl rfl ?c1 ?c2 ?c3 ?c4 ?c5 ?_
        case c1=>exact World.news_of_block (cs := #[.int .i64 a.kind, .int .i64 a.num, .int .u64 a.bits]) (t := 62) (fr:=(0,0)) (heap_alloc_new V _)
        case c2=>simp [Value.oneCell']
        case c3=>unfold maxLen;omega
        case c4=>omega
        case c5=>first|(simp;omega)|simp|omega
        intro v1 w1 hown1 hg1 _
        have hbw1:Below W.heap.size W w1:=(hbV.alloc hVs _).grown hg1 (by simp;omega) (fun k hk=>(Ya hrowR.out hk).1)
        obtain⟨A8,C8,hv8⟩:=Yd hown1
        subst hv8
        have hL:=hide (OwnV.snoc hrow.out.ok haI.out (by rw [hrl1.out];exact hown1))
        have hrotS:Hid (w1.ownsRow W.heap.size 3 1 (.slice At r kt) r (((Yaj gone x i).map Prod.fst).map fun z=>Value.int .i64 z)):=hide (Yc hrotR.out fun k hk=>(hg1.block k (by have:=(Ya hrotR.out hk).2.1;simp;omega) (fun e=>by
         obtain⟨-, -,cc,h1⟩:=Ya hrotR.out hk
         obtain⟨-, -,cd,h2⟩:=Ya hrowR.out e.symm
         rw [h1] at h2
         cases h2)).trans (Below.heap_alloc _ _ _ (Ya hrotR.out hk).2.1))
        have hw1s:=hbw1.size
        have e6:=c6 w1 hbw1
        have et:=ri.out (by rw [←hnt.out];omega)
        have hti:w1.cell? ⟨g6,i,none⟩=some (.int .i64 t):=by
         obtain⟨gg,e9,r9⟩:=et
         cases e9
         exact r9 i t ht.out w1 (hwW.out.trans (hbw1.mono hwW.out.size))
        refine hd2 et hown1 ?_;clear et hown1;intro et hown1
        replace hg1:=hide hg1)
     | (at_builtin
        refine wpList_append_own _ rfl (.tmp 37) (.tmp 43) _ rfl W.heap.size 3 i0 _ 1 8 Tryz.underlying29 hi0.out hz0.out hz1.out hz2.out rfl (by omega) (.slice At r kt) _ _ rfl (hrotS.out.alloc _) ⟨w1.heap.size,0,none⟩ 1 1 [.int .i64 t] rfl rfl ?c1 ?c2 ?c3 ?c4 ?c5 ?_
        case c1=>exact World.news_of_block (cs := #[.int .i64 t]) (t := 3) (fr:=(0,0)) (heap_alloc_new w1 _)
        case c2=>simp [Value.oneCell']
        case c3=>unfold maxLen;omega
        case c4=>omega
        case c5=>first|(simp;omega)|simp|omega
        intro v2 w2 hown2 hg2 _
        have hbw2:Below W.heap.size W w2:=(hbw1.alloc hw1s _).grown hg2 (by simp;omega) (fun k hk=>(Ya hrotS.out hk).1)
        obtain⟨A9,C9,hv9⟩:=Yd hown2
        subst hv9
        have hL2:=hide (OwnI.snoc hrot.out.ok htI.out (by rw [hrl2.out];exact hown2))
        have hLk:=hide (show OwnV w2 W.heap.size _ _ from⟨Yc hL.out.row fun k hk=>(hg2.block k (by have:=(Ya hL.out.row hk).2.1;simp;omega) (fun e=>by
         obtain⟨-, -,cc,h1⟩:=Ya hL.out.row hk
         obtain⟨-, -,cd,h2⟩:=Ya hrotS.out e.symm
         rw [h1] at h2
         cases h2)).trans (Below.heap_alloc _ _ _ (Ya hL.out.row hk).2.1),hL.out.ok⟩)
        replace hown2:=hide hown2
        replace hg2:=hide hg2))
    have hLe:Hid (OwnV w2 W.heap.size (.slice A8 (r+1) C8) ((Yaj gone x (i+1)).map Prod.snd)):=hide (by rw [hnx2.out,List.map_append];exact hLk.out)
    have hLf:Hid (OwnI w2 W.heap.size (.slice A9 (r+1) C9) ((Yaj gone x (i+1)).map Prod.fst)):=hide (by rw [hnx2.out,List.map_append];exact hL2.out)
    go_roundw
    case rel=>exact⟨i+1,r+1,A8,C8,A9,C9,rfl,rfl,by go_num,hlt,hr2,hLe,hLf,hbw2⟩
    case measure=>simp [intOf];omega
  ·obtain rfl : nt = i := by omega
   have hv:Hid (Ze gone x=Qw x (Yaj gone x nt)):=hide (by unfold Ze;rw [if_pos h25.out,hnt.out,lostN_end (by rw [←hna.out,←hnt.out];exact hnat.out)])
   have hIV:=(hbV.block N hNW).trans hI0.out
   have hRV:=(hbV.block (N+1) hNW1).trans hR0.out
   obtain⟨d0,d1,d2,d3,d4,d5,d6⟩:=bx7 hIV
   have f5:=Yq (j:=5) hIV
   have f6:=Yq (j:=6) hIV
   obtain⟨n0,n1,n2,n3,n4,n5,n6⟩:=bx7 hRV
   obtain⟨g0,g1,g2,g3,g4,g5,g6⟩:=bf7 hRV
   have hNo:N<W.heap.size∧N+1<W.heap.size:=⟨hNW,hNW1⟩
   refine hd2 hIV hRV ?_;clear hIV hRV;intro hIV hRV
   clear c0 c1 c2 c3 c4 c5 c6
   go_wp2
   refine bodyPost_ret (v:=x.v (.slice Ar r kr) (.slice At r kt)) (by simp [results,Tryz.results107,go_sem,n0,n1,n2,n3,n4,n5,n6,g0,g1,g2,g3,g4,g5,g6]) rfl ?_
   have hwV:=hwW.out.trans (hbV.mono hwW.out.size)
   have hfin:=((((((((hwV.setCell (p:=⟨N,5,none⟩) hNw (.slice Ar r kr)).setCell (p:=⟨N,6,none⟩) hNw (.slice At r kt)).setCell (p:=⟨N+1,0,none⟩) hN1w (.int .i64 x.op)).setCell (p:=⟨N+1,1,none⟩) hN1w (.int .i64 x.reg)).setCell (p:=⟨N+1,2,none⟩) hN1w (.int .i64 x.ty)).setCell (p:=⟨N+1,3,none⟩) hN1w (.int .i64 x.num)).setCell (p:=⟨N+1,4,none⟩) hN1w (.int .i64 x.flags)).setCell (p:=⟨N+1,5,none⟩) hN1w (.slice Ar r kr)).setCell (p:=⟨N+1,6,none⟩) hN1w (.slice At r kt)
   have hk:∀(u0 u1 u2 u3 u4 u5 u6 u7 u8:Value) (k:Nat),W.heap.size≤k→(((((((((V.setCell ⟨N,5,none⟩ u0).setCell ⟨N,6,none⟩ u1).setCell ⟨N+1,0,none⟩ u2).setCell ⟨N+1,1,none⟩ u3).setCell ⟨N+1,2,none⟩ u4).setCell ⟨N+1,3,none⟩ u5).setCell ⟨N+1,4,none⟩ u6).setCell ⟨N+1,5,none⟩ u7).setCell ⟨N+1,6,none⟩ u8).heap[k]? = V.heap[k]? := fun u0 u1 u2 u3 u4 u5 u6 u7 u8 k hk=>by
    have e1:k≠N:=by omega
    have e2:k≠N+1:=by omega
    rw [Below.heap_setCell _ ⟨N+1,6,none⟩ _ _ e2,Below.heap_setCell _ ⟨N+1,5,none⟩ _ _ e2,Below.heap_setCell _ ⟨N+1,4,none⟩ _ _ e2,Below.heap_setCell _ ⟨N+1,3,none⟩ _ _ e2,Below.heap_setCell _ ⟨N+1,2,none⟩ _ _ e2,Below.heap_setCell _ ⟨N+1,1,none⟩ _ _ e2,Below.heap_setCell _ ⟨N+1,0,none⟩ _ _ e2,Below.heap_setCell _ ⟨N,6,none⟩ _ _ e1,Below.heap_setCell _ ⟨N,5,none⟩ _ _ e1]
   rw [hv.out]
   have hV2:=(hrow.out.kept fun k h1 _=>hk (.slice Ar r kr) (.slice At r kt) (.int .i64 x.op) (.int .i64 x.reg) (.int .i64 x.ty) (.int .i64 x.num) (.int .i64 x.flags) (.slice Ar r kr) (.slice At r kt) k h1).mono (Nat.zero_le _)
   have hI2:=(hrot.out.kept fun k h1 _=>hk (.slice Ar r kr) (.slice At r kt) (.int .i64 x.op) (.int .i64 x.reg) (.int .i64 x.ty) (.int .i64 x.num) (.int .i64 x.flags) (.slice Ar r kr) (.slice At r kt) k h1).mono (Nat.zero_le _)
   exact⟨_,_,rfl,hV2,hI2,fun k hk => .inr (by have:=(Ya hrow.out.row hk).1;omega),fun k hk => .inr (by have:=(Ya hrot.out.row hk).1;omega),hfin⟩
section
variable {w:World}
theorem Only.fact {Q:Nat→Prop} {B N j:Nat} {u:Value} (h:w.cell? ⟨N,j,none⟩=some u) (hN:N<B) (hQ:¬Q N):∀w',Only Q B w w'→w'.cell? ⟨N,j,none⟩=some u:=fun w' hw=>(hw.cell (p:=⟨N,j,none⟩) hN hQ).trans h
end
theorem argB_type {w:World} {L:Nat} {d:Value} {bs:List (List Ins)} {xs:List Value} {ess:List (List (Value×Value))} (hK:Yr w L d bs xs ess) {q:Nat} (h:ArgB ess q):L≤q∧q<w.heap.size∧∃c,w.heap[q]? = some (.cells c 62 (0,0)):=by
 obtain⟨e,hef,hq⟩:=h
 obtain⟨fs,hfs,hef⟩:=List.mem_flatten.1 hef
 obtain⟨p,hp⟩:=List.getElem?_of_mem hfs
 have hpl:=(Js.1 hp).1
 obtain⟨q,hq'⟩:=List.getElem?_of_mem hef
 have hxp:xs[p]? = some (xs[p]'(by rw [hK.lenx,←hK.lene];exact hpl)):=Jg _
 obtain⟨b',es',hb',hes',hcd⟩:=hK.code_at hxp
 rw [hp] at hes'
 cases hes'
 have hql:=(Js.1 hq').1
 rw [hcd.len] at hql
 obtain⟨h1, -, -⟩:=hcd.inn q _ e (Jg hql) hq'
 exact Ya h1.row hq
theorem argB_not {w:World} {L:Nat} {d:Value} {bs:List (List Ins)} {xs:List Value} {ess:List (List (Value×Value))} (hK:Yr w L d bs xs ess) {g B n size:Nat} {T:TypeId} {u:Value} {us:List Value} (hr:w.ownsRow B T size u n us) (hu:u.ownBlock=some g) (hT:T≠ 62):¬ArgB ess g:=fun h=>by
 obtain⟨-, -,c,h1⟩:=argB_type hK h
 obtain⟨-, -,c',h2⟩:=Ya hr hu
 rw [h1] at h2
 injection h2 with h2
 injection h2 with _ h3
 exact hT h3.symm
theorem rreplace_any (f : Fun) (reg : Int) (v : Opd) (hv64 : I64 v.kind ∧ I64 v.num) (c1 c2 : Value) (w : World) (B : Nat) (hB : B ≤ w.heap.size) (hf : RFun.rep w B [.string f.name, c1, .int .i64 f.ret, c2] f) (hs : Zs f) :
  Calls Tryz.prog 70 #[f.v c1 c2, .int .i64 reg, .agg #[.int .i64 v.kind, .int .i64 v.num, .int .u64 v.bits]] w (TreePost f (Yal (rsub reg v) f.blocks) w):=by
 obtain⟨hp,hb⟩:=Yk (RFun.later hf (Below.refl _ _) hB)
 obtain⟨A1,k1,h1, -, -⟩:=Rp.slice1_open hp
 obtain⟨A2,k2,h2,hm2, -⟩:=Rp.slice1_open hb
 cases h1;cases h2
 clear hp hb
 obtain⟨n,hn⟩:=Jn (f.blocks.length)
 obtain⟨np,hnp⟩:∃n,Hid (n=f.params.length):=⟨_,hide rfl⟩
 have hnle:n≤2000000:=by rw [hn.out];exact hs.blocks
 rw [←hn.out,←hnp.out] at hf
 rw [←hn.out] at hm2
 rw [←hn.out,←hnp.out]
 obtain⟨W3,hW3,hwW3,hW3s,hx1,hx2⟩:=Qb w #[.string f.name, .slice A1 np k1, .int .i64 f.ret, .slice A2 n k2] #[.int .i64 v.kind, .int .i64 v.num, .int .u64 v.bits] 32 62
 obtain⟨W,hW⟩:∃W,W3.alloc (.cells #[.string ⟨#[]⟩, .slice none 0 0, .int .i64 0, .slice none 0 0] 32)=W:=⟨_,rfl⟩
 have hR0:W.heap[W3.heap.size]? = some (.cells #[.string ⟨#[]⟩, .slice none 0 0, .int .i64 0, .slice none 0 0] 32 (0,0)):=by rw [←hW];exact Yt _ _
 have hb3:Below W3.heap.size W3 W:=by rw [←hW];exact(Below.refl _ _).alloc (Nat.le_refl _) _
 have hWs:W.heap.size=w.heap.size+3:=by rw [←hW];simp;omega
 obtain⟨N4,hN4⟩:∃N4,N4=W3.heap.size:=⟨_,rfl⟩
 rw [←hN4] at hR0
 have h4a:w.heap.size<N4:=by omega
 have h4b:N4<W.heap.size:=by omega
 have hwW:Below w.heap.size w W:=hwW3.trans (hb3.mono (by omega))
 have q0:W.cell? ⟨w.heap.size,0,none⟩=some (.string f.name):=hx1 0 _ rfl W hb3
 have q1:W.cell? ⟨w.heap.size,1,none⟩=some (.slice A1 np k1):=hx1 1 _ rfl W hb3
 have q2:W.cell? ⟨w.heap.size,2,none⟩=some (.int .i64 f.ret):=hx1 2 _ rfl W hb3
 have q3:W.cell? ⟨w.heap.size,3,none⟩=some (.slice A2 n k2):=hx1 3 _ rfl W hb3
 have hv0:W.cell? ⟨w.heap.size+1,0,none⟩=some (.int .i64 v.kind):=hx2 0 _ rfl W hb3
 have hv1:W.cell? ⟨w.heap.size+1,1,none⟩=some (.int .i64 v.num):=hx2 1 _ rfl W hb3
 have hv2:W.cell? ⟨w.heap.size+1,2,none⟩=some (.int .u64 v.bits):=hx2 2 _ rfl W hb3
 have cC:=hide (Qn f (.slice A1 np k1) (.slice A2 n k2) W B (by omega) (RFun.later hf (hwW.mono hB) (Nat.le_refl _)) hs)
 refine hd10 hN4 hR0 hv0 hv1 hv2 hs hf hwW hWs hW3s ?_;clear hN4 hR0 hv0 hv1 hv2 hs hf hwW hWs hW3s;intro hN4 hR0 hv0 hv1 hv2 hs hf hwW hWs hW3s
 clear hx1 hx2 hwW3 hb3
 go_enter Tryz.func70,Tryz.ntmps70
 go_wp2_with (fail)
 rw [←hN4.out]
 refine cC.out.mono ?_
 rintro e V ⟨c,d,L,rfl,hOI,hPL,hOK,hL0,hbV⟩
 obtain⟨Am,Cm,hcm⟩:=Yd hOI.row
 subst hcm
 obtain⟨Ad,Cd,hdm⟩:=hOK.form
 subst hdm
 rw [←hnp.out] at hOI hPL⊢
 rw [←hn.out] at hOK⊢
 obtain⟨xs,ess,hK⟩:=hOK
 have hWso:=hWs.out
 have hVs:=hbV.size
 obtain⟨X,hX,hwX,hXs,hxc⟩:=Y5 V #[.string f.name, .slice Am np Cm, .int .i64 f.ret, .slice Ad n Cd] 32
 have hKX:=hK.kept (w':=X) fun k h1 h2=>hwX.block k h2
 have hOIX:=hide (hOI.kept (w':=X) fun k h1 h2=>hwX.block k h2)
 have hSL:∀q,ArgB ess q→L≤q∧q<V.heap.size:=fun q h=>by
  obtain⟨h1,h2, -⟩:=argB_type hK h
  exact⟨h1,h2⟩
 have old:∀(N j:Nat) (u:Value),N<W.heap.size→W.cell? ⟨N,j,none⟩=some u→∀w',Only (ArgB ess) X.heap.size X w'→w'.cell? ⟨N,j,none⟩=some u:=fun N j u hN hu=>Only.fact (((hwX.cell (p:=⟨N,j,none⟩) (by show N<_;omega)).trans (hbV.cell (p:=⟨N,j,none⟩) hN)).trans hu) (by omega) fun h=>by have:=(hSL N h).1;omega
 have hNf:¬ArgB ess V.heap.size:=fun h=>by have:=(hSL _ h).2;omega
 have zV0:=old _ 0 _ (by omega) hv0.out
 have zV1:=old _ 1 _ (by omega) hv1.out
 have zV2:=old _ 2 _ (by omega) hv2.out
 have z0:∀w',Only (ArgB ess) X.heap.size X w'→w'.cell? ⟨V.heap.size,0,none⟩=some (.string f.name):=Only.fact (hxc 0 _ rfl X (Below.refl _ _)) (by omega) hNf
 have z1:∀w',Only (ArgB ess) X.heap.size X w'→w'.cell? ⟨V.heap.size,1,none⟩=some (.slice Am np Cm):=Only.fact (hxc 1 _ rfl X (Below.refl _ _)) (by omega) hNf
 have z2:∀w',Only (ArgB ess) X.heap.size X w'→w'.cell? ⟨V.heap.size,2,none⟩=some (.int .i64 f.ret):=Only.fact (hxc 2 _ rfl X (Below.refl _ _)) (by omega) hNf
 have z3:∀w',Only (ArgB ess) X.heap.size X w'→w'.cell? ⟨V.heap.size,3,none⟩=some (.slice Ad n Cd):=Only.fact (hxc 3 _ rfl X (Below.refl _ _)) (by omega) hNf
 have hR3:X.heap[N4]? = some (.cells #[.string ⟨#[]⟩, .slice none 0 0, .int .i64 0, .slice none 0 0] 32 (0,0)):=((hwX.block N4 (by omega)).trans (hbV.block N4 (by omega))).trans hR0.out
 have hN4no:¬ArgB ess N4:=fun h=>by have:=(hSL _ h).1;omega
 have hwX9:Below w.heap.size w X:=(hwW.out.trans (hbV.mono (by omega))).trans (hwX.mono (by omega))
 have hlx:xs.length=n:=by rw [hK.lenx,hn.out]
 have hle:ess.length=n:=by rw [hK.lene,hn.out]
 have hK0:Hid (Yr X L (.slice Ad n Cd) (Yao (rsub reg v) 0 0 0 f.blocks) xs ess):=hide (by rw [progA_start];exact hKX)
 have hself:=Only.refl (ArgB ess) X.heap.size X
 have hX9:V.heap.size<X.heap.size:=by omega
 refine hd11 hR3 hN4no hSL hKX hwX9 hPL hL0 hNf hXs hwX hbV ?_;clear hR3 hN4no hSL hKX hwX9 hPL hL0 hNf hXs hwX hbV;intro hR3 hN4no hSL hKX hwX9 hPL hL0 hNf hXs hwX hbV
 have hv64h:=hide hv64
 clear hOI hK old hxc hv64 q0 q1 q2 q3
 go_upto_region 2 with(fail)
 try rw [hX]
 clear hX
 go_wp2
 go_loopw [8] (fun u wr=>∃i:Nat,u = .int .i64 i∧i≤n∧Hid (Yr wr L (.slice Ad n Cd) (Yao (rsub reg v) i 0 0 f.blocks) xs ess)∧Only (ArgB ess) X.heap.size X wr) (fun u _=>n - (intOf u).toNat)
 case atStart=>exact⟨0,rfl,Nat.zero_le _,hK0,hself⟩
 case round =>
  clear hK0 hself
  obtain⟨i,rfl,hi,hK,hon⟩:=hrel
  by_cases hlt:i<n
  ·have hii : (i : Int) < (n : Int) := by omega
   obtain⟨c,hc⟩:=Yf (l:=f.blocks) (k:=i) (by rw [←hn.out];exact hlt)
   obtain⟨xi,hxi⟩:=Yf (l:=xs) (k:=i) (by omega)
   obtain⟨es,hes⟩:=Yf (l:=ess) (k:=i) (by omega)
   obtain⟨gB,CB,hAd, -, -⟩:=hKX.out.row.form (by rw [←hn.out];omega)
   have hAd':Ad=some ⟨gB,0,none⟩:=by cases hAd;rfl
   subst hAd'
   clear hAd CB
   obtain⟨nc,hnc⟩:=Jn (c.length)
   have hszc:=hs.out.code c (Jm hc.out)
   have hnc8:nc≤2000000:=by rw [hnc.out];exact hszc.1
   have hszi:=hide hszc.2
   have hCd0:=hKX.out.inn i xi _ es hxi.out hc.out hes.out
   obtain⟨Ac,Cc,hxf⟩:=Yd hCd0.row
   rw [←hnc.out] at hxf
   subst hxf
   have hrow0:=hKX.out.row
   rw [←hn.out] at hrow0
   have hgBn:¬ArgB ess gB:=argB_not hKX.out hrow0 rfl (by decide)
   have yB:∀w',Only (ArgB ess) X.heap.size X w'→w'.cell? ⟨gB,i,none⟩=some (.slice Ac nc Cc):=Only.fact (by rw [World.ownsRow.cellAt hrow0 i (by omega)];exact hxi.out) (Ya hrow0 rfl).2.1 hgBn
   have hCdh:=hide hCd0
   clear hszc hCd0 hrow0 hgBn
   go_wp2
   go_loopw [9] (fun u wr=>∃k:Nat,u = .int .i64 k∧k≤nc∧Hid (Yr wr L (.slice (some ⟨gB,0,none⟩) n Cd) (Yao (rsub reg v) i k 0 f.blocks) xs ess)∧Only (ArgB ess) X.heap.size X wr) (fun u _=>nc - (intOf u).toNat)
   case atStart=>exact⟨0,rfl,Nat.zero_le _,hK,hon⟩
   case round =>
    clear hK hon
    obtain⟨k,rfl,hk,hK,hon⟩:=hrel
    by_cases hlt2:k<nc
    ·have hki : (k : Int) < (nc : Int) := by omega
     obtain⟨x,hx⟩:=Yf (l:=c) (k:=k) (by rw [←hnc.out];exact hlt2)
     obtain⟨⟨cv,dv⟩,he⟩:=Yf (l:=es) (k:=k) (by rw [hCdh.out.len,←hnc.out];exact hlt2)
     obtain⟨har0, -, -⟩:=hCdh.out.inn k _ _ hx.out he.out
     obtain⟨Aa,Ca,hcv⟩:=Yd har0.row
     obtain⟨na,hna⟩:=Jn (x.args.length)
     rw [←hna.out] at hcv
     subst hcv
     obtain⟨gc,CC,hAc, -, -⟩:=hCdh.out.row.form (by rw [←hnc.out];omega)
     have hAc':Ac=some ⟨gc,0,none⟩:=by cases hAc;rfl
     subst hAc'
     clear hAc CC
     have hrow1:=hCdh.out.row
     rw [←hnc.out] at hrow1
     have hgcn:¬ArgB ess gc:=argB_not hKX.out hrow1 rfl (by decide)
     have yC:∀w',Only (ArgB ess) X.heap.size X w'→w'.cell? ⟨gc,k*7+5,none⟩=some (.slice Aa na Ca):=Only.fact (by rw [World.ownsRow.cellAt hrow1 (k*7+5) (by omega)];exact cellsOf_at hx.out he.out rfl) (Ya hrow1 rfl).2.1 hgcn
     have hna8:na≤2000000:=by rw [hna.out];exact(hszi.out x (Jm hx.out)).1
     clear har0 hrow1 hgcn
     go_wp2
     go_loopw [11] (fun u wr=>∃j:Nat,u = .int .i64 j∧j≤na∧Hid (Yr wr L (.slice (some ⟨gB,0,none⟩) n Cd) (Yao (rsub reg v) i k j f.blocks) xs ess)∧Only (ArgB ess) X.heap.size X wr) (fun u _=>na - (intOf u).toNat)
     case atStart=>exact⟨0,rfl,Nat.zero_le _,hK,hon⟩
     case round =>
      clear hK hon
      obtain⟨j,rfl,hj,hK,hon⟩:=hrel
      by_cases hlt3:j<na
      ·obtain ⟨t, ht⟩ := Yf (l := x.args) (k := j) (by rw [← hna.out]; exact hlt3)
       have hji:(j:Int)<(na:Int):=by omega
       have hCd:=hK.out.inn i _ _ es hxi.out (Qo hc.out) hes.out
       obtain⟨har, -, -⟩:=hCd.inn k _ _ (Zc hx.out) he.out
       have hal:(Z9 (rsub reg v) i k j i k x).args.length=x.args.length:=Qt
       obtain⟨gA,CA,hAa, -, -⟩:=har.row.form (by rw [hal,←hna.out];omega)
       have hAa':Aa=some ⟨gA,0,none⟩:=by cases hAa;rfl
       subst hAa'
       clear hAa CA
       have htv:(Z9 (rsub reg v) i k j i k x).args[j]? = some t:=by
        show(Ybt (rsub reg v) i k j i k x.args)[j]? = _
        rw [Yad ht.out,if_neg (by unfold Yap;omega)]
       have hrow:=har.row
       rw [hal,←hna.out] at hrow
       have hcell:∀(r:Nat) u,(oc t)[r]? = some u→r<3→wr.cell? ⟨gA,j*3+r,none⟩=some u:=fun r u hu hr=>by
        rw [World.ownsRow.cellAt hrow (j*3+r) (by omega),oc_get,show(j*3+r) / 3=j by omega,show(j*3+r) % 3=r by omega,htv]
        exact hu
       have r0:wr.cell? ⟨gA,j*3,none⟩=some (.int .i64 t.kind):=hcell 0 _ rfl (by omega)
       have r1:wr.cell? ⟨gA,j*3+1,none⟩=some (.int .i64 t.num):=hcell 1 _ rfl (by omega)
       have r2:wr.cell? ⟨gA,j*3+2,none⟩=some (.int .u64 t.bits):=hcell 2 _ rfl (by omega)
       have f0:wr.frozen? ⟨gA,j*3,none⟩=false:=World.ownsRow.frozenAt hrow _
       have f1:wr.frozen? ⟨gA,j*3+1,none⟩=false:=World.ownsRow.frozenAt hrow _
       have f2:wr.frozen? ⟨gA,j*3+2,none⟩=false:=World.ownsRow.frozenAt hrow _
       have hS:ArgB ess gA:=⟨(.slice (some ⟨gA,0,none⟩) na Ca,dv),List.mem_flatten.2 ⟨es,Jm hes.out,Jm he.out⟩,rfl⟩
       have hput:=hide (hK.out.put_arg (j:=j) (z:=v) (Qo hc.out) hes.out (Zc hx.out) he.out (by rw [hal,←hna.out];exact hlt3) hv64h.out)
       have hon9:Hid (Only (ArgB ess) X.heap.size X (put3 wr gA (j*3) v)):=hide (((hon.setCell (p:=⟨gA,j*3,none⟩) (.inl hS) _).setCell (p:=⟨gA,j*3+1,none⟩) (.inl hS) _).setCell (p:=⟨gA,j*3+2,none⟩) (.inl hS) _)
       refine hd2 hrow hS ?_;clear hrow hS;intro hrow hS
       clear hCd har hcell htv hal
       by_cases hcase:t.kind=1∧t.num=reg
       ·have e1 : (t.kind == 1) = true := by rw [beq_iff_eq]; exact hcase.1
        have e2:(t.num==reg)=true:=by rw [beq_iff_eq];exact hcase.2
        have hst:Hid (rsub reg v t=v):=hide (by unfold rsub;rw [if_pos hcase])
        have hnext:=hput.out
        have hstep:=progA_step (σ:=rsub reg v) hc.out hx.out ht.out
        rw [hst.out] at hstep
        rw [hstep] at hnext
        clear hstep
        replace hnext:=hide hnext
        clear hput hK
        replace hcase:=hide hcase
        go_wp2
        go_roundw
        case rel=>exact⟨j+1,by go_num,hlt3,hide (hnext.out.kept fun _ _ _=>rfl),(by first|exact hon9.out|exact hon9.out.drew)⟩
        case measure=>simp [intOf];omega
       ·have hst : Hid (rsub reg v t = t) := hide (by unfold rsub; rw [if_neg hcase])
        have hnext:=hK.out
        rw [←progA_id hc.out hx.out ht.out hst.out] at hnext
        replace hnext:=hide hnext
        clear hput hon9 hK
        by_cases hk1:t.kind=1
        ·have e1 : (t.kind == 1) = true := by rw [beq_iff_eq]; exact hk1
         have e2:(t.num==reg)=false:=by rw [beq_eq_false_iff_ne];exact fun h=>hcase ⟨hk1,h⟩
         clear hcase hk1
         go_wp2
         go_roundw
         case rel=>exact⟨j+1,by go_num,hlt3,hnext,hon⟩
         case measure=>simp [intOf];omega
        ·have e1 : (t.kind == 1) = false := by rw [beq_eq_false_iff_ne]; exact hk1
         clear hcase hk1
         go_wp2
         go_roundw
         case rel=>exact⟨j+1,by go_num,hlt3,hnext,hon⟩
         case measure=>simp [intOf];omega
      ·obtain rfl : j = na := by omega
       have hnext:=hK.out
       rw [hna.out,progA_next_ins hc.out hx.out] at hnext
       replace hnext:=hide hnext
       go_wp2
       go_roundw
       case rel=>exact⟨k+1,by go_num,hlt2,hnext,hon⟩
       case measure=>simp [intOf];omega
    ·obtain rfl : k = nc := by omega
     have hnext:Hid (Yr wr L (.slice (some ⟨gB,0,none⟩) n Cd) (Yao (rsub reg v) (i+1) 0 0 f.blocks) xs ess):=hide (by rw [←progA_next_block hc.out,←hnc.out];exact hK.out)
     go_wp2
     go_roundw
     case rel=>exact⟨i+1,by go_num,hlt,hnext,hon⟩
     case measure=>simp [intOf];omega
  ·obtain rfl : i = n := by omega
   have hE:Yao (rsub reg v) i 0 0 f.blocks=Yal (rsub reg v) f.blocks:=by rw [hn.out];exact progA_end
   rw [hE] at hK
   have hR4:=(hon.block N4 (by omega) hN4no.out).trans hR3.out
   obtain⟨p0,p1,p2,p3⟩:=box4 hR4
   obtain⟨g0,g1,g2,g3⟩:=bf4 hR4
   have hWso:=hWs.out
   have hLo:=hL0.out
   have hOIZ:=hide (show OwnI wr W.heap.size (.slice Am np Cm) f.params from⟨Yc hOIX.out.row fun k hk=>hon.block k (Ya hOIX.out.row hk).2.1 (fun h=>by have h1:=hPL.out k hk;have h2:=(hSL.out k h).1;omega),hOIX.out.ok⟩)
   have hwZ:=hide (hwX9.out.trans (hon.to_below (B':=w.heap.size) (fun k hk=>by have:=(hSL.out k hk).1;omega) hwX9.out.size))
   replace hR4:=hide hR4
   have hKh:=hide hK.out
   clear hE hK
   go_wp2
   have hkeep:∀(v0 v1 v2 v3:Value) (k:Nat),W.heap.size≤k→((((wr.setCell ⟨N4,0,none⟩ v0).setCell ⟨N4,1,none⟩ v1).setCell ⟨N4,2,none⟩ v2).setCell ⟨N4,3,none⟩ v3).heap[k]? = wr.heap[k]? := fun v0 v1 v2 v3 k hk=>by
    have hne:k≠N4:=by omega
    rw [Below.heap_setCell _ _ _ _ hne,Below.heap_setCell _ _ _ _ hne,Below.heap_setCell _ _ _ _ hne,Below.heap_setCell _ _ _ _ hne]
   refine bodyPost_ret (v:=f.v (.slice Am np Cm) (.slice Ad i Cd)) (by simp [results,Tryz.results70,go_sem,p0,p1,p2,p3,g0,g1,g2,g3]) rfl ⟨_,_,L,rfl,(hOIZ.out.kept fun k h1 _=>hkeep _ _ _ _ k h1).mono (by omega),fun k hk=>hPL.out k hk,⟨xs,ess,hKh.out.kept fun k h1 _=>hkeep _ _ _ _ k (by omega)⟩,by omega,?_⟩
   exact(((hwZ.out.setCell (p:=⟨N4,0,none⟩) (by show w.heap.size≤N4;omega) _).setCell (p:=⟨N4,1,none⟩) (by show w.heap.size≤N4;omega) _).setCell (p:=⟨N4,2,none⟩) (by show w.heap.size≤N4;omega) _).setCell (p:=⟨N4,3,none⟩) (by show w.heap.size≤N4;omega) _
def mapL (g:Ins→Ins) (l:List Ins) (i:Nat):List Ins:=(l.take i).map g++l.drop i
theorem mapL_zero (g:Ins→Ins) (l:List Ins):mapL g l 0=l:=by simp [mapL]
theorem mapL_end (g:Ins→Ins) (l:List Ins):mapL g l l.length=l.map g:=by simp [mapL]
theorem mapL_len (g:Ins→Ins) (l:List Ins) (i:Nat):(mapL g l i).length=l.length:=by unfold mapL;simp;omega
theorem mapL_at {g:Ins→Ins} {l:List Ins} {i:Nat} {x:Ins} (h:l[i]? = some x):(mapL g l i)[i]? = some x:=by
 have h1:=(Js.1 h).1
 unfold mapL
 rw [List.getElem?_append_right (by simp;omega),List.length_map,List.length_take,Nat.min_eq_left (by omega),Nat.sub_self,List.getElem?_drop]
 exact h
theorem mapL_next {g:Ins→Ins} {l:List Ins} {i:Nat} {x:Ins} (h:l[i]? = some x):(mapL g l i).set i (g x)=mapL g l (i+1):=by
 have h1:=(Js.1 h).1
 have h2:l.drop i=x :: l.drop (i+1):=by
  rw [Jg h1] at h
  injection h with h
  rw [←h,List.getElem_cons_drop]
 have h3:((l.take i).map g).length=i:=by simp;omega
 unfold mapL
 rw [h2,List.set_append_right _ _ (by omega),h3,Nat.sub_self,List.set_cons_zero,List.take_add_one,h,List.map_append]
 simp
theorem MF.gives {w w':World} {T:Nat→Prop} {N b:Nat} {g:Fun} {c d:Value} (h:MF w T N g c d) (hT:∀k,T k→b≤k) (hc:∀k,c.ownBlock=some k→b≤k) (hk:∀k,b≤k→w'.heap[k]? = w.heap[k]?):OwnI w' b c g.params∧OwnK w' b d g.blocks:=by
 obtain⟨xs,ess,h1,h2⟩:=h.tree
 exact⟨⟨Qg (Yc h.par.row fun k hv=>hk k (hc k hv)) hc,h.par.ok⟩,((h1.tb_kept fun k hk1 hk2=>hk k (hT k (h2 k hk2))).raise fun k h9=>hT k (h2 k h9)).own⟩
theorem lostI_ok {gone:List Int} {x:Ins} (h:Ybo x):Ybo (Ze gone x):=by
 unfold Ze
 split
 ·exact h
 ·exact h
theorem rlose_any (f : Fun) (b : Nat) (l : List Ins) (hl : f.blocks[b]? = some l) (gone : List Int) (Ag : Option Addr) (Cg : Nat) (c1 d1 : Value) (w : World) (B : Nat) (hB : B ≤ w.heap.size) (hf : RFun.rep w B [.string f.name, c1, .int .i64 f.ret, d1] f) (hs : Zs f) (hg : OwnI w 0 (.slice Ag gone.length Cg) gone) (hgl : gone.length ≤ 4000000) (hph : PhiLen l) :
  Calls Tryz.prog 67 #[f.v c1 d1, .int .i64 b, .slice Ag gone.length Cg] w (GivesF f (f.blocks.set b (l.map (Ze gone))) w):=by
 obtain⟨ng,hng⟩:=Jn (gone.length)
 rw [←hng.out]
 obtain⟨m,hm⟩:=Jn (l.length)
 have hmle:m≤2000000:=by rw [hm.out];exact(hs.code l (Jm hl)).1
 refine hd3 hl hph hg ?_;clear hl hph hg;intro hl hph hg
 obtain⟨-, -, -, -, -,hret,hnm⟩:=id hf
 obtain⟨hp,hb⟩:=Yk (RFun.later hf (Below.refl _ _) hB)
 obtain⟨A1,k1,h1, -, -⟩:=Rp.slice1_open hp
 obtain⟨A2,k2,h2,hm2, -⟩:=Rp.slice1_open hb
 cases h1;cases h2
 clear hp hb hm2
 obtain⟨n,hn⟩:=Jn (f.blocks.length)
 obtain⟨np,hnp⟩:∃n,Hid (n=f.params.length):=⟨_,hide rfl⟩
 have hnle:n≤2000000:=by rw [hn.out];exact hs.blocks
 rw [←hn.out,←hnp.out] at hf⊢
 obtain⟨W,hW,hwW,hWs,hx1,hx2⟩:=Qb w #[.string f.name, .slice A1 np k1, .int .i64 f.ret, .slice A2 n k2] #[.string ⟨#[]⟩, .slice none 0 0, .int .i64 0, .slice none 0 0] 32 32
 obtain⟨Nr,hNr⟩:=Jn (w.heap.size+1)
 have hR0:W.heap[Nr]? = some (.cells #[.string ⟨#[]⟩, .slice none 0 0, .int .i64 0, .slice none 0 0] 32 (0,0)):=by
  rw [←hW,hNr.out]
  have:=Yt (w.alloc (.cells #[.string f.name, .slice A1 np k1, .int .i64 f.ret, .slice A2 n k2] 32)) (.cells #[.string ⟨#[]⟩, .slice none 0 0, .int .i64 0, .slice none 0 0] 32)
  simpa using this
 have hself:=Below.refl W.heap.size W
 have q0:=hx1 0 _ rfl W hself
 have q1:=hx1 1 _ rfl W hself
 have q2:=hx1 2 _ rfl W hself
 have q3:=hx1 3 _ rfl W hself
 have hNrW:Nr<W.heap.size:=(Array.getElem?_eq_some_iff.1 hR0).1
 have hNrw:w.heap.size≤Nr:=by have:=hNr.out;omega
 have hws:w.heap.size≤W.heap.size:=hwW.size
 have cC:=hide (Qn f (.slice A1 np k1) (.slice A2 n k2) W B (by omega) (RFun.later hf (hwW.mono hB) (Nat.le_refl _)) hs)
 refine hd8 hR0 hs hf hwW hWs hW hret hnm ?_;clear hR0 hs hf hwW hWs hW hret hnm;intro hR0 hs hf hwW hWs hW hret hnm
 clear hx1 hx2
 go_enter Tryz.func67,Tryz.ntmps67
 go_upto_region 1 with(fail)
 rw [hW.out,←hNr.out]
 go_wp2_with (fail)
 refine cC.out.mono ?_
 rintro e V ⟨c,d,L,rfl,hOI,hPL,hOK,hL0,hbV⟩
 obtain⟨Am,Cm,hcm⟩:=Yd hOI.row
 subst hcm
 obtain⟨Ad,Cd,hdm⟩:=hOK.form
 subst hdm
 rw [←hnp.out] at hOI hPL⊢
 rw [←hn.out] at hOK⊢
 obtain⟨X,hX⟩:∃X,Hid (V.alloc (.cells #[.string f.name, .slice Am np Cm, .int .i64 f.ret, .slice Ad n Cd] 32)=X):=⟨_,hide rfl⟩
 obtain⟨hM0,hWX,hXs⟩:=Ybe hOI hPL hOK hL0 hbV hX.out.symm hret.out hnm.out
 obtain⟨N,hN⟩:=Jn (V.heap.size)
 have hNW:W.heap.size≤N:=by rw [hN.out];exact hbV.size
 rw [←hN.out] at hM0
 have hT0:Hid (∀k,(fun k=>L≤k∧k<N) k→W.heap.size≤k):=hide (fun k hk=>by have:=hk.1;omega)
 have hcW:Hid (∀k,(Value.slice Am np Cm).ownBlock=some k→W.heap.size≤k):=hide (fun k hk=>(Ya hOI.row hk).1)
 have hselfX:=Below.refl X.heap.size X
 refine hd4 hM0 hbV hXs hL0 ?_;clear hM0 hbV hXs hL0;intro hM0 hbV hXs hL0
 clear hOI hPL hOK q0 q1 q2 q3 cC hself
 go_upto_region 2 with(fail)
 rw [hX.out,←hN.out]
 clear hX
 have hbn:b<n:=by rw [hn.out];exact(Js.1 hl.out).1
 have hbi:(b:Int)<(n:Int):=by omega
 have hM1:Hid (MF X (fun k=>L≤k∧k<N) N (Ye f (f.blocks.set b (mapL (Ze gone) l 0))) (.slice Am np Cm) (.slice Ad n Cd)):=hide (by rw [mapL_zero,Qm hl.out];exact hM0.out)
 clear hM0
 go_wp2
 go_loopw [8] (fun s wr=>∃(i:Nat) (T1:Nat→Prop),s = .int .i64 i∧i≤m∧Hid (MF wr T1 N (Ye f (f.blocks.set b (mapL (Ze gone) l i))) (.slice Am np Cm) (.slice Ad n Cd))∧Hid (∀k,T1 k→W.heap.size≤k)∧Below W.heap.size W wr) (fun s _=>m - (intOf s).toNat)
 case atStart=>exact⟨0,_,rfl,Nat.zero_le _,hM1,hT0,hWX⟩
 case round =>
  clear hM1 hT0 hWX hselfX
  rename World=>V1
  obtain⟨i,T1,rfl,hi,hM,hT1,hbV1⟩:=hrel
  have hV1s:=hbV1.size
  obtain⟨xs,ess,hk,hTB⟩:=hM.out.tree
  have hbs:(Ye f (f.blocks.set b (mapL (Ze gone) l i))).blocks[b]? = some (mapL (Ze gone) l i):=Jf (by rw [←hn.out];exact hbn)
  have hbl:(Ye f (f.blocks.set b (mapL (Ze gone) l i))).blocks.length=n:=by
   show(f.blocks.set b _).length=n
   rw [List.length_set,hn.out]
  obtain⟨x,es,hx,he,hcd⟩:=hk.row_at hbs
  obtain⟨gd,CD9,hgdf, -,hgd⟩:=hk.row.form (by rw [hbl];omega)
  have hAd:=(Value.slice.inj hgdf).1
  subst hAd
  clear hgdf
  obtain⟨Ax,Cx,hxf⟩:=Yd hcd.row
  have hml:(mapL (Ze gone) l i).length=m:=by rw [mapL_len,hm.out]
  rw [hml] at hxf
  subst hxf
  have hgdl:gd<V1.heap.size:=(Ya hk.row rfl).2.1
  have hNl:=hM.out.lt
  have f3':=Yg (Yb hM.out.box 3 rfl) hNl
  have fx:=Yg (hk.blk_cell hx) hgdl
  have hself1:=Below.refl V1.heap.size V1
  have f3V:=f3' V1 hself1
  have fxV:=fx V1 hself1
  by_cases hlt:i<m
  ·have hii : (i : Int) < (m : Int) := by omega
   obtain⟨ins,hins⟩:=Yf (l:=l) (k:=i) (by rw [←hm.out];exact hlt)
   have hri:Hid ((mapL (Ze gone) l i)[i]? = some ins):=hide (mapL_at hins.out)
   obtain⟨ca,ct,hei,hva,hvt,hok⟩:=hcd.ins_at hri.out
   obtain⟨gc,CX9,hgcf, -,hgcl⟩:=hcd.row.form (by rw [hml];omega)
   have hAx:=(Value.slice.inj hgcf).1
   subst hAx
   clear hgcf
   obtain⟨Aa,Ca,hcaf⟩:=Yd hva.row
   subst hcaf
   obtain⟨At,Ct,hctf⟩:=Yd hvt.row
   subst hctf
   obtain⟨na,hna⟩:=Jn (ins.args.length)
   obtain⟨nt,hnt⟩:=Jn (ins.to.length)
   rw [←hna.out] at hei hva
   rw [←hnt.out] at hei hvt
   have hgcl2:gc<V1.heap.size:=(Ya hcd.row rfl).2.1
   obtain⟨e0,e1,e2,e3,e4,e5,e6⟩:=cell7 hcd hri.out hei
   have f0:=Yg e0 hgcl2
   have f1:=Yg e1 hgcl2
   have f2:=Yg e2 hgcl2
   have f3:=Yg e3 hgcl2
   have f4:=Yg e4 hgcl2
   have f5:=Yg e5 hgcl2
   have f6:=Yg e6 hgcl2
   have hrow7:=hide hcd.row
   have hinl:=Jm hins.out
   have cL:Hid (∀w',Below V1.heap.size V1 w'→Calls Tryz.prog 107 #[ins.v (.slice Aa na Ca) (.slice At nt Ct), .slice Ag ng Cg] w' (InsOwn (Ze gone ins) (.slice Aa na Ca) (.slice At nt Ct) w')):=hide (fun w' h9=>by
    have hgw:OwnI w' 0 (.slice Ag gone.length Cg) gone:=by
     exact hg.out.kept fun k _ hk=>(hwW.out.trans ((hbV1.mono hws).trans (h9.mono (by omega)))).block k hk
    have h8:=rlost_any ins (.slice Aa na Ca) (.slice At nt Ct) gone Ag Cg w' (hva.kept fun k _ hk=>h9.block k hk) (hvt.kept fun k _ hk=>h9.block k hk) hgw hgl (hph.out ins hinl) ((hs.out.code l (Jm hl.out)).2 ins hinl).2
    rwa [←hng.out] at h8)
   refine hd12 hx he hei hva hvt hok hcd hk hTB hbs hbl hinl ?_;clear hx he hei hva hvt hok hcd hk hTB hbs hbl hinl;intro hx he hei hva hvt hok hcd hk hTB hbs hbl hinl
   clear e0 e1 e2 e3 e4 e5 e6 hml
   go_upto_region 5 with(fail)
   refine Y0 (S:=fun u=>Below V1.heap.size V1 u) (T:=fun j=>decide (j<18)) (by kernel_rfl) ?_
   obtain⟨R0,hR9⟩:∃R0,V1.drew=R0:=⟨_,rfl⟩
   have hS0:Hid (Below V1.heap.size V1 R0):=hide (by rw [←hR9];exact hself1.drew)
   rw [hR9]
   clear hR9 f3V fxV
   refine Jt (i:=0) hS0.out ?_
   refine Jt (i:=1) hS0.out ?_
   refine Jt (i:=2) hS0.out ?_
   refine Jt (i:=3) hS0.out ?_
   refine Jt (i:=4) hS0.out ?_
   refine Jt (i:=5) hS0.out ?_
   refine Jt (i:=6) hS0.out ?_
   refine Jt (i:=7) hS0.out ?_
   refine Jt (i:=8) hS0.out ?_
   refine Jt (i:=9) hS0.out ?_
   refine Jt (i:=10) hS0.out ?_
   refine Jt (i:=11) hS0.out ?_
   refine Jt (i:=12) hS0.out ?_
   refine Jt (i:=13) hS0.out ?_
   refine Jt (i:=14) hS0.out ?_
   refine Jt (i:=15) hS0.out ?_
   refine Jt (i:=16) hS0.out ?_
   refine Jr (i:=17) fun K hK => ?_
   (try go_simp)
   go_at_call 107
   refine(cL.out _ hS0.out).mono ?_
   rintro e K1 ⟨c9,t9,rfl,hV9,hI9,hc9,ht9,hbK⟩
   obtain⟨A9,C9,hcf9⟩:=Yd hV9.row
   subst hcf9
   obtain⟨B9,D9,htf9⟩:=Yd hI9.row
   subst htf9
   obtain⟨n9,hn9⟩:=Jn ((Ze gone ins).args.length)
   obtain⟨m9,hm9⟩:=Jn ((Ze gone ins).to.length)
   rw [←hn9.out] at hV9 hc9⊢
   rw [←hm9.out] at hI9 ht9⊢
   have hS1:Hid (Below V1.heap.size V1 K1):=hide (hS0.out.trans (hbK.mono hS0.out.size))
   have o0:=f0 K1 hS1.out
   have o1:=f1 K1 hS1.out
   have o2:=f2 K1 hS1.out
   have o3:=f3 K1 hS1.out
   have o4:=f4 K1 hS1.out
   have o5:=f5 K1 hS1.out
   have o6:=f6 K1 hS1.out
   have hrK:=Yc hrow7.out (w':=K1) fun k hk=>hS1.out.block k (Ya hrow7.out hk).2.1
   have xz:∀j,K1.frozen? ⟨gc,j,none⟩=false:=fun j=>Zh hrK j
   have y0:=xz (i*7)
   have y1:=xz (i*7+1)
   have y2:=xz (i*7+2)
   have y3:=xz (i*7+3)
   have y4:=xz (i*7+4)
   have y5:=xz (i*7+5)
   have y6:=xz (i*7+6)
   clear xz
   refine hd6 hrK hV9 hI9 hc9 ht9 hbK ?_;clear hrK hV9 hI9 hc9 ht9 hbK;intro hrK hV9 hI9 hc9 ht9 hbK
   refine Jo hK (fun _=>hS1.out) ?_;clear hK K
   refine Jy (i:=18) ?_
   refine Jr (i:=19) fun K hK => ?_
   go_simp
   refine Jo hK (fun h=>absurd h (by decide)) ?_;clear hK K
   refine Yu (by kernel_rfl) ?_ _
   have hfin:=hide (MF.ins7g hM.out hk.out hTB.out hbs.out hx.out he.out hri.out hei.out hS1.out (c' := .slice A9 n9 C9) (t' := .slice B9 m9 D9) (x:=Ze gone ins) hV9.out hI9.out (lostI_ok hok.out) (fun k hk=>(hc9.out k hk).imp_right fun h9=>by have:=hS0.out.size;omega) (fun k hk=>(ht9.out k hk).imp_right fun h9=>by have:=hS0.out.size;omega))
   have hM2:Hid (MF (Ya8 K1 gc (i*7) (Ze gone ins) (.slice A9 n9 C9) (.slice B9 m9 D9)) (fun k=>T1 k∨V1.heap.size≤k) N (Ye f (f.blocks.set b (mapL (Ze gone) l (i+1)))) (.slice Am np Cm) (.slice (some ⟨gd,0,none⟩) n Cd)):=hide (by
    have h9:=hfin.out.1
    have e9:(Ye f (f.blocks.set b (mapL (Ze gone) l i))).blocks.set b ((mapL (Ze gone) l i).set i (Ze gone ins))=f.blocks.set b (mapL (Ze gone) l (i+1)):=by
     show(f.blocks.set b _).set b _=_
     rw [mapL_next hins.out,List.set_set]
    rw [e9] at h9
    exact h9)
   have hT2:Hid (∀k,(fun k=>T1 k∨V1.heap.size≤k) k→W.heap.size≤k):=hide (fun k hk=>hk.elim (fun h9=>hT1.out k h9) (fun h9=>by omega))
   have hb2:Below W.heap.size W (Ya8 K1 gc (i*7) (Ze gone ins) (.slice A9 n9 C9) (.slice B9 m9 D9)):=by
    have h9:=hfin.out.2
    have h8:Below W.heap.size V1 (Ya8 K1 gc (i*7) (Ze gone ins) (.slice A9 n9 C9) (.slice B9 m9 D9)):=h9.to_below (B':=W.heap.size) (fun k hk=>by
     rcases hk with hk|hk
     ·omega
     ·exact hT1.out k hk) hV1s
    exact hbV1.trans h8
   replace hfin:=hide hfin
   go_wp2
   go_roundw
   case rel=>exact⟨i+1,_,by go_num,hlt,hM2,hT2,hb2⟩
   case measure=>simp [intOf];omega
  ·obtain rfl : m = i := by omega
   have hMe:Hid (MF V1 T1 N (Ye f (f.blocks.set b (l.map (Ze gone)))) (.slice Am np Cm) (.slice (some ⟨gd,0,none⟩) n Cd)):=hide (by
    have h9:=hM.out
    rw [hm.out,mapL_end] at h9
    exact h9)
   refine hd7 hx he hcd hk hTB hbs hbl ?_;clear hx he hcd hk hTB hbs hbl;intro hx he hcd hk hTB hbs hbl
   clear f3' fx hml
   have hRV:=(hbV1.block Nr hNrW).trans hR0.out
   obtain⟨n0,n1,n2,n3⟩:=bx4 hRV
   obtain⟨g0,g1,g2,g3⟩:=bf4 hRV
   have v0:V1.cell? ⟨N,0,none⟩=some (.string f.name):=Yb hMe.out.box 0 rfl
   have v1:=Yb hMe.out.box 1 rfl
   have v2:V1.cell? ⟨N,2,none⟩=some (.int .i64 f.ret):=Yb hMe.out.box 2 rfl
   have v3:=Yb hMe.out.box 3 rfl
   replace hRV:=hide hRV
   go_wp2
   refine bodyPost_ret (v:=f.v (.slice Am np Cm) (.slice (some ⟨gd,0,none⟩) n Cd)) (by simp [results,Tryz.results67,go_sem,n0,n1,n2,n3,g0,g1,g2,g3]) rfl ?_
   have hwV:=hwW.out.trans (hbV1.mono hws)
   have hfin:=(((hwV.setCell (p:=⟨Nr,0,none⟩) hNrw (.string f.name)).setCell (p:=⟨Nr,1,none⟩) hNrw (.slice Am np Cm)).setCell (p:=⟨Nr,2,none⟩) hNrw (.int .i64 f.ret)).setCell (p:=⟨Nr,3,none⟩) hNrw (.slice (some ⟨gd,0,none⟩) n Cd)
   have hkp:∀(u0 u1 u2 u3:Value) (k:Nat),W.heap.size≤k→((((V1.setCell ⟨Nr,0,none⟩ u0).setCell ⟨Nr,1,none⟩ u1).setCell ⟨Nr,2,none⟩ u2).setCell ⟨Nr,3,none⟩ u3).heap[k]? = V1.heap[k]? := fun u0 u1 u2 u3 k hk=>by
    have e1:k≠Nr:=by omega
    rw [Below.heap_setCell _ ⟨Nr,3,none⟩ _ _ e1,Below.heap_setCell _ ⟨Nr,2,none⟩ _ _ e1,Below.heap_setCell _ ⟨Nr,1,none⟩ _ _ e1,Below.heap_setCell _ ⟨Nr,0,none⟩ _ _ e1]
   have hgv:=hMe.out.gives hT1.out hcW.out (fun k hk=>hkp (.string f.name) (.slice Am np Cm) (.int .i64 f.ret) (.slice (some ⟨gd,0,none⟩) n Cd) k hk)
   exact⟨_,_,rfl,hgv.1.mono hws,hgv.2.mono hws,hfin⟩
end Go.Proofs.YtamjcafjdioidaaGreat
