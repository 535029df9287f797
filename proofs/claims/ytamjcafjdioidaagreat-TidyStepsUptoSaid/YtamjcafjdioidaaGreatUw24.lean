/- Texts of the chain, without what is not wanted: GrW. No condition but sizes. -/
import Derived.Test.YtamjcafjdioidaaGreatUw07
set_option linter.unusedVariables false
set_option linter.unusedSimpArgs false
set_option maxRecDepth 100000
set_option maxHeartbeats 12800000
namespace Go.Proofs.YtamjcafjdioidaaGreat
open Go.RowKit
theorem decide_take {l:List Int} {k:Nat} {x t:Int} (h:l[k]? = some x) (hx:x≠t) (ht:t∉l.take k):t∉l.take (k+1):=by
 rw [List.take_add_one,h]
 simp only [Option.toList_some,List.mem_append,List.mem_singleton]
 rintro(h|h)
 ·exact ht h
 ·exact hx h.symm
theorem has_any (u : Value) (l : List Int) (t : Int) (w : World) (B : Nat) (hB : B ≤ w.heap.size) (ha : Z4.rep w B [u] l) :
  Calls Tryz.prog 115 #[u, .int .i64 t] w fun e w'=>e = .returned (.bool (decide (t∈l)))∧Below w.heap.size w w':=by
 obtain⟨A1,c1,h1,hm1,ga⟩:=Rp.slice1_open (Z4.later ha (Below.refl _ _) hB)
 cases h1
 replace ga:=hide ga
 have hself:=Below.refl w.heap.size w
 go_enter Tryz.func115,Tryz.ntmps115
 go_wp2
 go_loopw [5] (fun i wr=>∃k:Nat,k≤l.length∧i = .int .i64 k∧Hid (t∉l.take k)∧Below w.heap.size w wr) (fun i _=>l.length - (intOf i).toNat)
 case atStart=>exact⟨0,Nat.zero_le _,rfl,hide (by simp),hself⟩
 case round =>
  obtain⟨k,hk,rfl,hall,hbel⟩:=hrel
  by_cases hlt:k<l.length
  ·obtain ⟨b1, o1, rfl, het⟩ := ga.out (by omega)
   obtain⟨x,hx⟩:=Yf (l:=l) (k:=k) hlt
   obtain⟨_,⟨hrt,hti⟩,p0⟩:=het k x hx.out
   cases hrt
   clear het
   by_cases hxt:x=t
   ·have hm : Hid (decide (t ∈ l) = true) := hide (decide_eq_true (by rw [← hxt]; exact Jm hx.out))
    subst hxt
    go_wp2
    go_ret
    exact⟨by rw [hm.out];rfl,hbel⟩
   ·have hne : Hid (t ∉ l.take (k + 1)) := hide (decide_take hx.out hxt hall.out)
    go_wp2
    go_roundw
    case rel=>exact⟨k+1,hlt,by go_num,hne,hbel⟩
    case measure=>simp [intOf];omega
  ·obtain rfl : k = l.length := by omega
   have hm:Hid (decide (t∈l)=false):=hide (decide_eq_false (by have:=hall.out;rwa [List.take_length] at this))
   go_wp2
   go_ret
   exact⟨by rw [hm.out];rfl,hbel⟩
theorem rsuccs_any (f : Fun) (b : Int) (c1 c2 : Value) (w : World) (B : Nat) (hB : B ≤ w.heap.size) (hf : RFun.rep w B [.string f.name, c1, .int .i64 f.ret, c2] f) (hs : Zo f) :
  Calls Tryz.prog 84 #[f.v c1 c2, .int .i64 b] w (SuccPost (Yo f.blocks b) w):=by
 obtain⟨hp,hb⟩:=Yk (RFun.later hf (Below.refl _ _) hB)
 obtain⟨A1,k1,h1, -, -⟩:=Rp.slice1_open hp
 obtain⟨A2,k2,h2,hm2,gb⟩:=Rp.slice1_open hb
 cases h1;cases h2
 replace gb:=hide gb
 clear hp hb hf
 obtain⟨i0,hi0,hz0,hz1,hz2⟩:=Yh Z5
 refine hd4 hi0 hz0 hz1 hz2 ?_;clear hi0 hz0 hz1 hz2;intro hi0 hz0 hz1 hz2
 obtain⟨n2,hn2⟩:∃n,Hid (n=f.blocks.length):=⟨_,hide rfl⟩
 rw [←hn2.out] at hm2⊢
 obtain⟨W,hW,hwW,hWs,hx⟩:=Y6 w #[.string f.name, .slice A1 f.params.length k1, .int .i64 f.ret, .slice A2 n2 k2] 32
 have x3:=hx 3 _ rfl
 clear hx
 have hws:w.heap.size≤W.heap.size:=by omega
 replace hWs:=hide hWs
 have hself:=Below.refl W.heap.size W
 replace hs:=hide hs
 by_cases h0:0≤b
 case neg =>
  have hlt0:b<0:=by omega
  have hsp:Hid (Yo f.blocks b = []):=hide (by unfold Yo;rw [if_neg h0])
  go_enter Tryz.func84,Tryz.ntmps84
  go_wp2
  go_ret
  exact⟨_,rfl,by rw [hsp.out];exact OwnI.nil_,hwW⟩
 obtain⟨k,rfl⟩:=Int.eq_ofNat_of_zero_le h0
 by_cases hlt:k<n2
 case neg =>
  have hsp:Hid (Yo f.blocks k = []):=hide (by unfold Yo;rw [if_pos h0,Int.toNat_natCast,List.getElem?_eq_none (by rw [←hn2.out];omega)])
  have hk1:¬(k:Int)<0:=by omega
  have hk2:(k:Int) ≥ (n2:Int):=by omega
  go_enter Tryz.func84,Tryz.ntmps84
  go_wp2
  go_ret
  exact⟨_,rfl,by rw [hsp.out];exact OwnI.nil_,hwW⟩
 obtain⟨x,hx⟩:=Yf (l:=f.blocks) (k:=k) (by rw [←hn2.out];exact hlt)
 obtain⟨b1,o1,rfl,he1⟩:=gb.out (by rw [←hn2.out];omega)
 obtain⟨d1,hr1,hd1⟩:=he1 k x hx.out
 obtain⟨A3,c3,h3,hm3,ga3⟩:=Rp.slice_open hr1
 cases h3
 replace ga3:=hide ga3
 have hd1':∀w',Below W.heap.size W w'→w'.cell? ⟨b1,o1+k,none⟩=some (.slice A3 x.length c3):=fun w' h=>hd1 w' (hwW.trans (h.mono hws))
 clear hd1 hr1 he1
 obtain⟨nx,hnx⟩:∃n,Hid (n=x.length):=⟨_,hide rfl⟩
 rw [←hnx.out] at hm3 hd1'
 have hk1:¬(k:Int)<0:=by omega
 have hk2:¬(k:Int) ≥ (n2:Int):=by omega
 by_cases hx0:nx=0
 ·have hsp : Hid (Yo f.blocks k = []) := hide (by unfold Yo; rw [if_pos h0, Int.toNat_natCast, hx.out]; show succsB _ x = []; rw [List.eq_nil_of_length_eq_zero (hnx.out.symm.trans hx0)]; rfl)
  subst hx0
  go_enter Tryz.func84,Tryz.ntmps84
  go_wp2
  go_ret
  exact⟨_,rfl,by rw [hsp.out];exact OwnI.nil_,hwW⟩
 obtain⟨nl,rfl⟩:∃m,nx=m+1:=⟨nx - 1,by omega⟩
 obtain⟨ins,hin1,hin2⟩:=last_at (x:=x) (by rw [←hnx.out];omega)
 replace hin1:=hide hin1
 rw [←hnx.out,Nat.add_sub_cancel] at hin2
 replace hin2:=hide hin2
 obtain⟨b3,o3,rfl,he3⟩:=ga3.out (by rw [←hnx.out];omega)
 obtain⟨_,_,⟨a1,a2,rfl,ha,hto,hwf⟩,hc⟩:=he3 nl ins hin2.out
 obtain⟨A5,k5,h5, -, -⟩:=Rp.slice_open ha
 obtain⟨A6,k6,h6,hm6,gt⟩:=Rp.slice1_open hto
 cases h5;cases h6
 replace gt:=hide gt
 obtain⟨q0,q1,q2,q3,q4,q5,q6⟩:=(hc.later hwW hws).seven
 have hsm:ins.to.length≤2000000:=((hs.out.code x (Jm hx.out)).2 ins (Jm hin2.out)).2
 have hi64:Hid (∀y,y∈ins.to→I64 y):=hide (ints_src (Z4.later hto (Below.refl _ _) (Nat.le_refl _))).2.2.1
 clear he3 hc ha hto hwf
 have hkind:Hid (Yo f.blocks k=if ins.op=31∨ins.op=32 then Qf n2 ins.to else []):=hide (by unfold Yo;rw [if_pos h0,Int.toNat_natCast,hx.out];show succsB _ x=_;unfold succsB;rw [hin1.out,←hn2.out])
 have e0:((nl+1:Nat):Int) - 1=(nl:Int):=by omega
 have e1:(((nl+1:Nat):Int)==0)=false:=by rw [beq_eq_false_iff_ne];omega
 obtain⟨X,hX,hWX,hXs,hz⟩:=Y6 W #[.int .i64 ins.op, .int .i64 ins.reg, .int .i64 ins.ty, .int .i64 ins.num, .int .i64 ins.flags, .slice A5 ins.args.length k5, .slice A6 ins.to.length k6] 44
 have z0:∀w',Below X.heap.size X w'→w'.cell? ⟨W.heap.size,0,none⟩=some (.int .i64 ins.op):=hz 0 _ rfl
 have z6:∀w',Below X.heap.size X w'→w'.cell? ⟨W.heap.size,6,none⟩=some (.slice A6 ins.to.length k6):=hz 6 _ rfl
 clear hz
 have hWXs:W.heap.size≤X.heap.size:=by omega
 have x3X:∀w',Below X.heap.size X w'→w'.cell? ⟨w.heap.size,3,none⟩=some (.slice (some ⟨b1,o1,none⟩) n2 k2):=fun w' h=>x3 w' (hWX.trans (h.mono hWXs))
 have hwX:=hide (hwW.trans (hWX.mono hws))
 have hselfX:=Below.refl X.heap.size X
 refine hd2 hXs hWX ?_;clear hXs hWX;intro hXs hWX
 by_cases hbr:ins.op=31∨ins.op=32
 case neg =>
  have hsp:Hid (Yo f.blocks k = []):=hide (by rw [hkind.out,if_neg hbr])
  have hb1:(ins.op != 31)=true:=by rw [bne_iff_ne];exact fun e=>hbr (.inl e)
  have hb2:(ins.op != 32)=true:=by rw [bne_iff_ne];exact fun e=>hbr (.inr e)
  clear hbr
  go_enter Tryz.func84,Tryz.ntmps84
  go_wp2
  go_ret
  exact⟨_,rfl,by rw [hsp.out];exact OwnI.nil_,hwX.out⟩
 have hsp:Hid (Yo f.blocks k=Qf n2 ins.to):=hide (by rw [hkind.out,if_pos hbr])
 obtain⟨nt,hnt⟩:∃n,Hid (n=ins.to.length):=⟨_,hide rfl⟩
 rw [←hnt.out] at q6 z6 hm6 hsm hX
 have hcase:(ins.op != 31)=false∨((ins.op != 31)=true∧(ins.op != 32)=false):=by
  rcases hbr with h|h
  ·exact .inl (by rw [h];rfl)
  ·exact .inr (by rw [h];exact⟨rfl,rfl⟩)
 replace hbr:=hide hbr
 go_enter Tryz.func84,Tryz.ntmps84
 go_upto_region 8 with(fail)
 rcases hcase with ho|⟨ho,ho2⟩
 all_goals
  go_wp2
  go_loopw [5,8] (fun l i wr=>∃j:Nat,j≤nt∧i = .int .i64 j∧Hid (OwnI wr X.heap.size l (Qf n2 (ins.to.take j)))∧Below X.heap.size X wr) (fun _ i _=>nt - (intOf i).toNat)
  case atStart=>exact⟨0,Nat.zero_le _,rfl,hide OwnI.nil_,hselfX⟩
  case round =>
   obtain⟨j,hj,rfl,hl,hbel⟩:=hrel
   by_cases hlt2:j<nt
   ·obtain ⟨bt, ot, rfl, het⟩ := gt.out (by rw [← hnt.out]; omega)
    obtain⟨t,ht⟩:=Yf (l:=ins.to) (k:=j) (by rw [←hnt.out];exact hlt2)
    obtain⟨_,⟨hrt,hti⟩,p0⟩:=het j t ht.out
    cases hrt
    replace p0:∀w',Below X.heap.size X w'→w'.cell? ⟨bt,ot+j,none⟩=some (.int .i64 t):=fun w' h=>p0 w' (hwX.out.trans (h.mono hwX.out.size))
    clear het
    have hstep:Hid (Qf n2 (ins.to.take (j+1))=keepS n2 (Qf n2 (ins.to.take j)) t):=hide (succsL_take ht.out)
    obtain⟨ac,hac⟩:∃ac,Hid (Qf n2 (ins.to.take j)=ac):=⟨_,hide rfl⟩
    have hlen:ac.length≤2000000:=by rw [←hac.out];exact Nat.le_trans (succsL_take_len _ _ _) (by rw [←hnt.out];exact hsm)
    rw [hac.out] at hl hstep
    obtain⟨g7,hg7,hf7⟩:∃A C,u5 = .slice A ac.length C:=Yd hl.out.row
    subst hf7
    have hbs:=hbel.size
    have hselfr:=Below.refl wr.heap.size wr
    have hcC:Hid (∀w',Below wr.heap.size wr w'→Calls Tryz.prog 115 #[.slice g7 ac.length hg7, .int .i64 t] w' fun e w''=>e = .returned (.bool (decide (t∈ac)))∧Below w'.heap.size w' w''):=hide (fun w' h=>has_any _ ac t w' w'.heap.size (Nat.le_refl _) (hl.out.kept fun k _ hk=>h.block k hk).rep)
    have hti2:=hide hti
    clear hti
    obtain⟨bm,hbm⟩:=Jn (decide (t∈ac))
    rw [←hbm.out] at hcC
    go_upto_region 14 with(first|(go_at_call 115;refine(hcC.out _ hselfr).mono ?_;rintro e w5 ⟨rfl,hb5⟩))
    have hl5:=hide (hl.out.kept fun k _ hk=>hb5.block k hk)
    have hbel5:=hbel.trans (hb5.mono hbs)
    have hbs5:=hbel5.size
    clear hl hbel hbs hselfr hcC hb5
    by_cases hin:0≤t∧t<n2∧t∉ac
    ·have hk1 : decide (t ≥ 0) = true := decide_eq_true hin.1
     have hk2:decide (t<(n2:Int))=true:=decide_eq_true hin.2.1
     have hfb:bm=false:=by rw [hbm.out];exact decide_eq_false hin.2.2
     subst hfb
     have hsame:Hid (Qf n2 (ins.to.take (j+1))=ac ++ [t]):=hide (by rw [hstep.out,keepS_yes hin])
     replace hin:=hide hin
     go_quiet (fail)
     have hl6:Hid (OwnI (w5.drewN nq) X.heap.size (.slice g7 ac.length hg7) ac):=hide (hl5.out.kept fun k _ _=>rfl)
     have hbel6:Below X.heap.size X (w5.drewN nq):=Yi hbel5 _
     have hbs6:X.heap.size≤(w5.drewN nq).heap.size:=hbs5
     obtain⟨w6,hw6⟩:∃w6,w6=w5.drewN nq:=⟨_,rfl⟩
     rw [←hw6] at hl6 hbel6 hbs6⊢
     clear hw6 hl5 hbel5 hbs5
     go_wp2_with (first
      | (at_builtin
         refine wpList_append_own _ rfl (.tmp 80) (.tmp 86) _ rfl X.heap.size 3 i0 _ 1 8 Tryz.underlying29 hi0.out hz0.out hz1.out hz2.out rfl (by omega) (.slice g7 ac.length hg7) _ _ rfl (hl6.out.row.alloc _) ⟨w6.heap.size,0,none⟩ 1 1 [.int .i64 t] rfl rfl ?c1 ?c2 ?c3 ?c4 ?c5 ?_
         case c1=>exact World.news_of_block (cs := #[.int .i64 t]) (t := 3) (fr:=(0,0)) (heap_alloc_new w6 _)
         case c2=>simp [Value.oneCell']
         case c3=>unfold maxLen;omega
         case c4=>omega
         case c5=>first|(simp;omega)|simp|omega
         intro v1 w1 hown1 hg1 _
         have hbw1:Below X.heap.size X w1:=(hbel6.alloc hbs6 _).grown hg1 (by simp;omega) (fun k hk=>(Ya hl6.out.row hk).1)
         have hL:=hide (OwnI.snoc hl6.out.ok hti2.out hown1)
         replace hown1:=hide hown1
         replace hg1:=hide hg1))
     go_roundw
     case rel=>exact⟨j+1,hlt2,by go_num,hide (by rw [hsame.out];exact hL.out),hbw1⟩
     case measure=>simp [intOf];omega
    ·have hsame : Hid (Qf n2 (ins.to.take (j + 1)) = ac) := hide (by rw [hstep.out, keepS_no hin])
     have hL:Hid (∀q,OwnI (w5.drewN q) X.heap.size (.slice g7 ac.length hg7) (Qf n2 (ins.to.take (j+1)))):=hide (fun q=>by rw [hsame.out];exact hl5.out.kept fun k _ _=>rfl)
     have hb9:∀q,Below X.heap.size X (w5.drewN q):=Yi hbel5
     by_cases ht0:0≤t
     ·have hk1 : decide (t ≥ 0) = true := decide_eq_true ht0
      by_cases ht1:t<n2
      ·have hk2 : decide (t < (n2 : Int)) = true := decide_eq_true ht1
       have hfb:bm=true:=by rw [hbm.out];exact decide_eq_true (Classical.byContradiction fun h=>hin ⟨ht0,ht1,h⟩)
       subst hfb
       replace hin:=hide hin
       go_quiet (fail)
       go_wp2
       go_roundw
       case rel=>exact⟨j+1,hlt2,by go_num,hide (hL.out _),hb9 _⟩
       case measure=>simp [intOf];omega
      ·have hk2 : decide (t < (n2 : Int)) = false := decide_eq_false ht1
       replace hin:=hide hin
       clear ht1
       go_quiet (fail)
       go_wp2
       go_roundw
       case rel=>exact⟨j+1,hlt2,by go_num,hide (hL.out _),hb9 _⟩
       case measure=>simp [intOf];omega
     ·have hk1 : decide (t ≥ 0) = false := decide_eq_false ht0
      replace hin:=hide hin
      clear ht0
      go_quiet (fail)
      go_wp2
      go_roundw
      case rel=>exact⟨j+1,hlt2,by go_num,hide (hL.out _),hb9 _⟩
      case measure=>simp [intOf];omega
   ·obtain rfl : j = nt := by omega
    go_wp2
    go_ret
    exact⟨_,rfl,by rw [hsp.out];have:=hl.out;rw [List.take_of_length_le (by rw [hnt.out];exact Nat.le_refl _)] at this;exact this.mono hwX.out.size,hwX.out.trans (hbel.mono hwX.out.size)⟩
theorem rpreds_any (f : Fun) (c1 c2 : Value) (w : World) (B : Nat) (hB : B ≤ w.heap.size) (hf : RFun.rep w B [.string f.name, c1, .int .i64 f.ret, c2] f) (hs : Zo f) :
  Calls Tryz.prog 73 #[f.v c1 c2] w (PredPost f.blocks.length (Zw (Yo f.blocks) f.blocks.length) w):=by
 obtain⟨hp,hb⟩:=Yk (RFun.later hf (Below.refl _ _) hB)
 obtain⟨A1,k1,h1, -, -⟩:=Rp.slice1_open hp
 obtain⟨A2,k2,h2,hm2, -⟩:=Rp.slice1_open hb
 cases h1;cases h2
 clear hp hb
 obtain⟨i0,hi0,hz0,hz1,hz2⟩:=Yh Z5
 obtain⟨b0,hb0,hx0,hx1,hx2⟩:=Yh cinfo_ints
 refine hd8 hi0 hz0 hz1 hz2 hb0 hx0 hx1 hx2 ?_;clear hi0 hz0 hz1 hz2 hb0 hx0 hx1 hx2;intro hi0 hz0 hz1 hz2 hb0 hx0 hx1 hx2
 obtain⟨n,hn⟩:=Jn (f.blocks.length)
 have hnle:n≤2000000:=by rw [hn.out];exact hs.blocks
 obtain⟨sc,hsc⟩:=Jn (Yo f.blocks)
 have hsok:Hid (∀b,Ya1 n (sc b)):=hide (fun b=>by rw [hsc.out,hn.out];exact Yba _ _)
 rw [←hn.out,←hsc.out]
 rw [←hn.out] at hf hm2
 obtain⟨W,hW,hwW,hWs,hx⟩:=Y6 w #[.string f.name, .slice A1 f.params.length k1, .int .i64 f.ret, .slice A2 n k2] 32
 have q0:∀w',Below W.heap.size W w'→w'.cell? ⟨w.heap.size,0,none⟩=some (.string f.name):=hx 0 _ rfl
 have q1:∀w',Below W.heap.size W w'→w'.cell? ⟨w.heap.size,1,none⟩=some (.slice A1 f.params.length k1):=hx 1 _ rfl
 have q2:∀w',Below W.heap.size W w'→w'.cell? ⟨w.heap.size,2,none⟩=some (.int .i64 f.ret):=hx 2 _ rfl
 have q3:∀w',Below W.heap.size W w'→w'.cell? ⟨w.heap.size,3,none⟩=some (.slice A2 n k2):=hx 3 _ rfl
 clear hx
 have hws:w.heap.size≤W.heap.size:=by omega
 replace hWs:=hide hWs
 have hself:=Below.refl W.heap.size W
 have cS:Hid (∀(b:Int) w',Below W.heap.size W w'→Calls Tryz.prog 84 #[f.v (.slice A1 f.params.length k1) (.slice A2 n k2), .int .i64 b] w' (SuccPost (sc b) w')):=hide (fun b w' h=>by
  have hh:=hwW.trans (h.mono hws)
  have:=rsuccs_any f b (.slice A1 f.params.length k1) (.slice A2 n k2) w' w'.heap.size (Nat.le_refl _) (RFun.later hf (hh.mono hB) (Nat.le_trans hB hh.size)) hs
  rwa [←hsc.out] at this)
 refine hd3 hs hf hwW ?_;clear hs hf hwW;intro hs hf hwW
 go_enter Tryz.func73,Tryz.ntmps73
 go_wp2_with (at_make;refine wpList_make_full _ rfl (.tmp 11) (.tmp 11) _ rfl W.heap.size 29 b0 _ 1 Tryz.underlying89 hb0.out hx0.out hx1.out .i64 .i64 n n n rfl rfl rfl rfl ?c1 ?c2 (Nat.le_refl _) ?_)
 case c1=>rw [hx2.out];omega
 case c2=>unfold maxLen;omega
 intro w1 hown1 hg1
 have hbel1:=Zr hg1
 have hmk1:=hide (OwnL.start (made_rows hown1))
 clear hg1 hown1
 go_wp2
 go_loopw [5] (fun j wr=>∃b:Nat,j = .int .i64 b∧b≤n∧Hid (∃cs,OwnL wr W.heap.size none (.slice (some ⟨W.heap.size,0,none⟩) n n) (Yy sc n b 0) cs)∧Below W.heap.size W wr) (fun i _=>n - (intOf i).toNat)
 case atStart=>exact⟨0,rfl,Nat.zero_le _,hide ⟨_,by rw [predsPart_start];exact hmk1.out⟩,hbel1⟩
 case round =>
  clear hmk1 hbel1
  obtain⟨b,rfl,hb,hrow,hbel⟩:=hrel
  by_cases hlt:b<n
  ·have hbi : (b : Int) < (n : Int) := by omega
   have hbs:=hbel.size
   have hsl:(sc b).length≤n:=succ_len (hsok.out b)
   go_wp2_with (first|(go_at_call 84;refine(cS.out b _ hbel).mono ?_;rintro e w3 ⟨c,rfl,hO3,hb3⟩;obtain⟨Ac,kc,hcf⟩:=Yd hO3.row;subst hcf))
   have hbel3:=hbel.trans (hb3.mono hbs)
   have hrow3:Hid (∃cs,OwnL w3 W.heap.size (Value.ownBlock (.slice Ac (sc b).length kc)) (.slice (some ⟨W.heap.size,0,none⟩) n n) (Yy sc n b 0) cs):=hide (by
    obtain⟨cs,h⟩:=hrow.out
    exact⟨cs,(h.no_ (fun k hk=>(Ya hO3.row hk).1)).below hb3⟩)
   have hO3':=hide (hO3.mono hbs)
   clear hbel hrow hb3 hO3 hbs
   go_loopw [7] (fun j wr=>∃i:Nat,j = .int .i64 i∧i≤(sc b).length∧Hid (∃cs,OwnL wr W.heap.size (Value.ownBlock (.slice Ac (sc b).length kc)) (.slice (some ⟨W.heap.size,0,none⟩) n n) (Yy sc n b i) cs)∧Hid (OwnI wr W.heap.size (.slice Ac (sc b).length kc) (sc b))∧Below W.heap.size W wr) (fun i _=>(sc b).length - (intOf i).toNat)
   case atStart=>exact⟨0,rfl,Nat.zero_le _,hrow3,hO3',hbel3⟩
   case round =>
    clear hrow3 hO3' hbel3
    obtain⟨i,rfl,hi,hrow,hou,hbel⟩:=hrel
    by_cases hlt2:i<(sc b).length
    ·obtain ⟨t, ht⟩ := Yf (l := sc b) (k := i) hlt2
     have htb:=(hsok.out b).bound t (Jm ht.out)
     obtain⟨tn,rfl⟩:=Int.eq_ofNat_of_zero_le htb.1
     have htn:tn<n:=by have:=htb.2;omega
     clear htb
     obtain⟨g,rfl⟩:∃g,Ac=some ⟨g,0,none⟩:=by
      rcases hou.out.row.2 with⟨h1,h2⟩|⟨gp,cp,cur,h1,h2,_⟩
      ·omega
      ·cases h1;exact⟨gp,rfl⟩
     have r0:wr.cell? ⟨g,i,none⟩=some (.int .i64 tn):=by rw [World.ownsRow.cellAt hou.out.row i (by omega),List.getElem?_map,ht.out];rfl
     obtain⟨cs,hcs⟩:=hrow.out
     obtain⟨p,hp⟩:=Yf (l:=Yy sc n b i) (k:=tn) (by rw [Qc];exact htn)
     obtain⟨c,hc,hcp⟩:=hcs.at_ hp.out
     obtain⟨Ap,kp,rfl⟩:=Yd hcp.row
     have hpl:p.length≤n:=by have:=predsPart_at_len hp.out;omega
     have hrw:=hcs.row
     rw [Qc] at hrw
     have r1:wr.cell? ⟨W.heap.size,tn,none⟩=some (.slice Ap p.length kp):=by rw [World.ownsRow.cellAt hrw tn (by omega)];exact hc
     have hII:Hid (i<(sc b).length):=hide hlt2
     have hmi:(i:Int)<((sc b).length:Int):=by omega
     have hbI:Hid (I64 b):=hide (Ybz (by omega) (by omega))
     have hgs:=hide ((Ya hou.out.row (k:=g) rfl).2.1)
     refine hd4 hrw hcp hcs hc ?_;clear hrw hcp hcs hc;intro hrw hcp hcs hc
     clear hrow
     have hbs:=hbel.size
     have hgW:Hid (g≠W.heap.size):=hide (by
      rintro rfl
      obtain⟨-, -,c1,h1⟩:=Ya hou.out.row rfl
      obtain⟨-, -,c2,h2⟩:=Ya hrw.out rfl
      rw [h1] at h2
      injection h2 with h2
      injection h2 with _ h3
      exact absurd h3 (by decide))
     have hba:=(Below.refl wr.heap.size wr).alloc (Nat.le_refl _) (.cells #[.int .i64 b] 3)
     have r0a:(wr.alloc (.cells #[.int .i64 b] 3)).cell? ⟨g,i,none⟩=some (.int .i64 tn):=(hba.cell (p:=⟨g,i,none⟩) hgs.out).trans r0
     have r1a:(wr.alloc (.cells #[.int .i64 b] 3)).cell? ⟨W.heap.size,tn,none⟩=some (.slice Ap p.length kp):=(hba.cell (p:=⟨W.heap.size,tn,none⟩) (Ya hrw.out rfl).2.1).trans r1
     clear hba
     go_upto_region 10 with(fail)
     go_region_law (first
      | (refine step_append_lies _ (by rfl) (.tmp 38) (.tmp 40) 29 (by rfl) W.heap.size 3 i0 (.int .i64 0) 1 8 Tryz.underlying29 hi0.out hz0.out hz1.out hz2.out (by rfl) (by omega) (.slice Ap p.length kp) p.length _ (by rfl) (by exact (hcp.out.row).alloc _) ⟨wr.heap.size, 0, none⟩ 1 1 [.int .i64 b] (by rfl) (by rfl) ?c1 ?c2 (by omega) ?c3 ?c4 ?c5 (wr.heap.size + 1) ?c6 ?_
         case c1=>exact World.news_of_block (cs := #[.int .i64 b]) (t := 3) (fr:=(0,0)) (by exact heap_alloc_new wr _)
         case c2=>simp [Value.oneCell']
         case c3=>unfold maxLen;omega
         case c4=>omega
         case c5=>first|(simp;omega)|simp|omega
         case c6=>simp
         intro gq cq w1 hown1 hg1' hgq hlt1
         have hg1:(wr.alloc (.cells #[.int .i64 b] 3)).grownBy w1 (Value.ownBlock (.slice Ap p.length kp)):=⟨hg1'.os,hg1'.tape,hg1'.output,hg1'.size,hg1'.block⟩
         have hbw1:Below W.heap.size W w1:=(hbel.alloc hbs _).grown hg1 (by simp;omega) (fun k hk=>(Ya hcp.out.row hk).1)
         have hbut:=But.grown hcp.out.row hg1
         have hL:=hide (OwnL.app hcs.out hp.out hc.out hbI.out (fun k hk=>(Ya hou.out.row hk).2.1) hown1 hg1 hgq (Qc ..).symm)
         have hrw1:=hbut.row (by decide) hrw.out
         have fz1:w1.frozen? ⟨W.heap.size,tn,none⟩=false:=World.ownsRow.frozenAt hrw1 tn
         have rz1:w1.cell? ⟨W.heap.size,tn,none⟩=some (.slice Ap p.length kp):=by rw [World.ownsRow.cellAt hrw1 tn (by omega)];exact hc.out
         have hou1:Hid (OwnI w1 W.heap.size (.slice (some ⟨g,0,none⟩) (sc b).length kc) (sc b)):=hide ⟨Yc hou.out.row fun k hk=>by
          cases hk
          rw [hg1.block g (by have:=hgs.out;simp;omega) (fun e=>hcs.out.far tn _ g hc.out rfl e.symm)]
          exact Below.heap_alloc wr _ g hgs.out,hou.out.ok⟩
         have r01:w1.cell? ⟨g,i,none⟩=some (.int .i64 tn):=(World.cell?_of_block (a:=⟨g,i,none⟩) (hg1.block g (by have:=hgs.out;simp;omega) (fun e=>hcs.out.far tn _ g hc.out rfl e.symm))).trans r0a
         have hbw2:=hide (hbw1.setCell (p:=⟨W.heap.size,tn,none⟩) (Nat.le_refl _) (.slice (some ⟨gq,0,none⟩) (p.length+1) cq))
         have hou2:Hid (OwnI (w1.setCell ⟨W.heap.size,tn,none⟩ (.slice (some ⟨gq,0,none⟩) (p.length+1) cq)) W.heap.size (.slice (some ⟨g,0,none⟩) (sc b).length kc) (sc b)):=hide ⟨(But.stored (j:=tn) (u := .slice (some ⟨gq,0,none⟩) (p.length+1) cq) hrw1).row (by decide) hou1.out.row,hou1.out.ok⟩
         refine hd5 hrw1 hown1 hg1 hbut hgq ?_;clear hrw1 hown1 hg1 hbut hgq;intro hrw1 hown1 hg1 hbut hgq
         replace hlt1:=hide hlt1))
     all_goals
      go_wp2
      go_roundw
      case rel=>exact⟨i+1,by go_num,hlt2,hide ⟨_,by have:=hL.out;rwa [predsPart_step (hsok.out b).nodup ht.out htn hp.out] at this⟩,hou2,hbw2.out⟩
      case measure=>simp [intOf];omega
    ·obtain rfl : i = (sc b).length := by omega
     have hnext:Hid (∃cs,OwnL wr W.heap.size none (.slice (some ⟨W.heap.size,0,none⟩) n n) (Yy sc n (b+1) 0) cs):=hide (by
      obtain⟨cs,h⟩:=hrow.out
      rw [predsPart_end] at h
      exact⟨cs,h.none_⟩)
     go_wp2
     go_roundw
     case rel=>exact⟨b+1,by go_num,hlt,hnext,hbel⟩
     case measure=>simp [intOf];omega
  ·obtain rfl : b = n := by omega
   go_wp2
   go_ret
   obtain⟨cs,h⟩:=hrow.out
   rw [predsPart_last] at h
   exact⟨W.heap.size,cs,rfl,h.mono hws,hwW.out.trans (hbel.mono hws)⟩
def Yck (sc:Int→List Int) (n:Nat) (w:World) (B g b:Nat):Prop:=∃cs:List Value,w.ownsRow B 29 1 (.slice (some ⟨g,0,none⟩) n n) n cs∧∀k:Nat,k<b→∃c,cs[k]? = some c∧OwnI w 0 c (sc k)
theorem Yck.start {sc:Int→List Int} {n:Nat} {w:World} {B g:Nat} (h:w.ownsRow B 29 1 (.slice (some ⟨g,0,none⟩) n n) n (List.replicate n (Value.slice none 0 0))):Yck sc n w B g 0:=⟨_,h,fun k hk=>by omega⟩
theorem Yck.below {sc:Int→List Int} {n:Nat} {w w':World} {B g b:Nat} (h:Yck sc n w B g b) (hb:Below w.heap.size w w'):Yck sc n w' B g b:=by
 obtain⟨cs,h1,h2⟩:=h
 exact⟨cs,Yc h1 fun k hk=>hb.block k (Ya h1 hk).2.1,fun k hk=>by
  obtain⟨c,h3,h4⟩:=h2 k hk
  exact⟨c,h3,h4.kept fun k _ hk=>hb.block k hk⟩⟩
theorem Yck.put {sc:Int→List Int} {n:Nat} {w:World} {B g b:Nat} {c:Value} (h:Yck sc n w B g b) (hb:b<n) (hc:OwnI w 0 c (sc b)):Yck sc n (w.setCell ⟨g,b,none⟩ c) B g (b+1):=by
 obtain⟨cs,h1,h2⟩:=h
 have h3:=(World.ownsRow.stored h1 b c).1
 have hbut:=But.stored (j:=b) (u:=c) h1
 have hl:cs.length=n:=by have:=h1.1;omega
 refine⟨_,h3,fun k hk => ?_⟩
 by_cases e:b=k
 ·subst e
  exact⟨c,Jf (by omega),⟨hbut.row (by decide) hc.row,hc.ok⟩⟩
 ·obtain ⟨c', h4, h5⟩ := h2 k (by omega)
  exact⟨c',by rw [Je e];exact h4,⟨hbut.row (by decide) h5.row,h5.ok⟩⟩
theorem Yck.reads {sc:Int→List Int} {n:Nat} {w:World} {B g gl:Nat} (h:Yck sc n w B g n) (hgl:∀c T,w.heap[gl]? = some (.cells c T (0,0))→T = 4):∀b:Nat,b<n→∃A C,(∀w',Only (fun k=>k=gl) w.heap.size w w'→w'.cell? ⟨g,b,none⟩=some (.slice A (sc b).length C))∧
  (0<(sc b).length→∃g,A=some ⟨g,0,none⟩∧∀(i:Nat) x,(sc b)[i]? = some x→∀w',Only (fun k=>k=gl) w.heap.size w w'→w'.cell? ⟨g,i,none⟩=some (.int .i64 x)):=by
 obtain⟨cs,h1,h2⟩:=h
 intro b hb
 obtain⟨c,h3,h4⟩:=h2 b hb
 obtain⟨A,C,rfl⟩:=Yd h4.row
 refine⟨A,C,fun w' ho => ?_,fun hl => ?_⟩
 ·obtain ⟨-, h5, c5, h6⟩ := Ya h1 (k := g) rfl
  rw [ho.cell (p:=⟨g,b,none⟩) h5 (fun e=>by have e':g=gl:=e;rw [e'] at h6;exact absurd (hgl _ _ h6) (by decide)),World.ownsRow.cellAt h1 b (by omega)]
  exact h3
 ·obtain ⟨g2, cap, hv, -, -⟩ := h4.row.form hl
  cases hv
  obtain⟨-,h5,c5,h6⟩:=Ya h4.row (k:=g2) rfl
  refine⟨g2,rfl,fun i x hi w' ho => ?_⟩
  rw [ho.cell (p:=⟨g2,i,none⟩) h5 (fun e=>by have e':g2=gl:=e;rw [e'] at h6;exact absurd (hgl _ _ h6) (by decide)),World.ownsRow.cellAt h4.row i (by have:=(Js.1 hi).1;omega),List.getElem?_map,hi]
  rfl
def b01 (b:Bool):Nat:=match b with|true=>1|false=>0
def WithoutPost (sc:Int→List Int) (gone:Int) (n:Nat) (w:World) (e:Ending) (w':World):Prop:=∃g l,e = .returned (.slice (some ⟨g,0,none⟩) n n)∧w'.ownsRow w.heap.size 4 1 (.slice (some ⟨g,0,none⟩) n n) n (l.map Value.bool)∧WOk sc gone n l∧Below w.heap.size w w'
theorem without_any (f : Fun) (gone : Int) (c1 c2 : Value) (w : World) (B : Nat) (hB : B ≤ w.heap.size) (hf : RFun.rep w B [.string f.name, c1, .int .i64 f.ret, c2] f) (hs : Zo f) :
  Calls Tryz.prog 63 #[f.v c1 c2, .int .i64 gone] w (WithoutPost (Yo f.blocks) gone f.blocks.length w):=by
 obtain⟨hp,hb⟩:=Yk (RFun.later hf (Below.refl _ _) hB)
 obtain⟨A1,k1,h1, -, -⟩:=Rp.slice1_open hp
 obtain⟨A2,k2,h2,hm2, -⟩:=Rp.slice1_open hb
 cases h1;cases h2
 clear hp hb
 obtain⟨b0,hb0,hx0,hx1,hx2⟩:=Yh Ybh
 refine hd4 hb0 hx0 hx1 hx2 ?_;clear hb0 hx0 hx1 hx2;intro hb0 hx0 hx1 hx2
 obtain⟨j0,hj0,hy0,hy1,hy2⟩:=Yh cinfo_ints
 refine hd4 hj0 hy0 hy1 hy2 ?_;clear hj0 hy0 hy1 hy2;intro hj0 hy0 hy1 hy2
 obtain⟨n,hn⟩:=Jn (f.blocks.length)
 have hnle:n≤2000000:=by rw [hn.out];exact hs.blocks
 obtain⟨sc,hsc⟩:=Jn (Yo f.blocks)
 have hsok:Hid (∀b,Ya1 n (sc b)):=hide (fun b=>by rw [hsc.out,hn.out];exact Yba _ _)
 rw [←hn.out,←hsc.out]
 rw [←hn.out] at hf hm2
 obtain⟨W,hW,hwW,hWs,hx⟩:=Y6 w #[.string f.name, .slice A1 f.params.length k1, .int .i64 f.ret, .slice A2 n k2] 32
 have q0:∀w',Below W.heap.size W w'→w'.cell? ⟨w.heap.size,0,none⟩=some (.string f.name):=hx 0 _ rfl
 have q1:∀w',Below W.heap.size W w'→w'.cell? ⟨w.heap.size,1,none⟩=some (.slice A1 f.params.length k1):=hx 1 _ rfl
 have q2:∀w',Below W.heap.size W w'→w'.cell? ⟨w.heap.size,2,none⟩=some (.int .i64 f.ret):=hx 2 _ rfl
 have q3:∀w',Below W.heap.size W w'→w'.cell? ⟨w.heap.size,3,none⟩=some (.slice A2 n k2):=hx 3 _ rfl
 clear hx
 have hws:w.heap.size≤W.heap.size:=by omega
 replace hWs:=hide hWs
 have hself:=Below.refl W.heap.size W
 have cS:Hid (∀(b:Int) w',Below W.heap.size W w'→Calls Tryz.prog 84 #[f.v (.slice A1 f.params.length k1) (.slice A2 n k2), .int .i64 b] w' (SuccPost (sc b) w')):=hide (fun b w' h=>by
  have hh:=hwW.trans (h.mono hws)
  have:=rsuccs_any f b (.slice A1 f.params.length k1) (.slice A2 n k2) w' w'.heap.size (Nat.le_refl _) (RFun.later hf (hh.mono hB) (Nat.le_trans hB hh.size)) hs
  rwa [←hsc.out] at this)
 refine hd3 hs hf hwW ?_;clear hs hf hwW;intro hs hf hwW
 go_enter Tryz.func63,Tryz.ntmps63
 go_wp2_with (at_make;refine wpList_make_full _ rfl (.tmp 16) (.tmp 16) _ rfl W.heap.size 4 b0 _ 1 Tryz.underlying55 hb0.out hx0.out hx1.out .i64 .i64 n n n rfl rfl rfl rfl ?c1 ?c2 (Nat.le_refl _) ?_)
 case c1=>rw [hx2.out];omega
 case c2=>unfold maxLen;omega
 intro w1 hown1 hg1
 have hbel1:=Zr hg1
 have hmk1:=Ybf hown1
 clear hg1 hown1
 have e00:((0:Nat):Int)=0:=rfl
 by_cases hz:n=0∨gone=0
 ·have hcase:((n:Int)==0)=true∨(((n:Int)==0)=false∧(gone==0)=true):=by
   by_cases h0:n=0
   ·exact .inl (by rw [beq_iff_eq];omega)
   ·exact .inr ⟨by rw [beq_eq_false_iff_ne];omega,by rw [beq_iff_eq];omega⟩
  have hok:=hide (wok_none (sc:=sc) hz)
  clear hz
  replace hmk1:=hide hmk1
  rcases hcase with h0|⟨h0,h1⟩
  all_goals
   go_wp2
   go_ret
   exact⟨W.heap.size,_,rfl,Zf hmk1.out hws,hok.out,hwW.out.trans (hbel1.mono hws)⟩
 have hg0:Hid (gone≠0):=hide (fun e=>hz (.inr e))
 have hn0:0<n:=Nat.pos_of_ne_zero (fun e=>hz (.inl e))
 clear hz
 have h0:((n:Int)==0)=false:=by rw [beq_eq_false_iff_ne];omega
 have h1:(gone==0)=false:=by rw [beq_eq_false_iff_ne];exact hg0.out
 have fz1:w1.frozen? ⟨W.heap.size,0,none⟩=false:=World.ownsRow.frozenAt hmk1 0
 have rz1:w1.cell? ⟨W.heap.size,0,none⟩=some (.bool false):=OwnB.cell hmk1 (by rw [List.getElem?_replicate,if_pos hn0]) hn0
 have hmk2:=(World.ownsRow.stored hmk1 0 (.bool true)).1
 rw [bmap_set] at hmk2
 have hbel2:Below W.heap.size W (w1.setCell ⟨W.heap.size,0,none⟩ (.bool true)):=hbel1.setCell (p:=⟨W.heap.size,0,none⟩) (Nat.le_refl _) (.bool true)
 have hs2:=hbel2.size
 refine hd2 hmk1 hmk2 ?_;clear hmk1 hmk2;intro hmk1 hmk2
 go_wp2_with (at_make;refine wpList_make_full _ rfl (.tmp 27) (.tmp 27) _ rfl W.heap.size 29 j0 _ 1 Tryz.underlying89 hj0.out hy0.out hy1.out .i64 .i64 n n n rfl rfl rfl rfl ?c1 ?c2 hs2 ?_)
 case c1=>rw [hy2.out];omega
 case c2=>unfold maxLen;omega
 intro w3 hown3 hg3
 have hbel3:=hbel2.trans ((Zr hg3).mono hs2)
 have hmk3:=hide (Yc hmk2.out fun k hk=>hg3.block k (Ya hmk2.out hk).2.1 (fun e=>by cases e))
 have hnx3:=hide (Yck.start (sc:=sc) (made_rows hown3))
 have hs3:=hbel3.size
 clear hg3 hown3 hbel1 hbel2 hmk1 hmk2 hs2 fz1 rz1
 go_wp2
 obtain⟨gN,hgN⟩:∃gN,gN=w1.heap.size:=⟨_,rfl⟩
 rw [←hgN] at hnx3⊢
 clear hgN
 go_loopw [8] (fun i wr=>∃b:Nat,i = .int .i64 b∧b≤n∧Hid (Yck sc n wr W.heap.size gN b)∧Hid (wr.ownsRow W.heap.size 4 1 (.slice (some ⟨W.heap.size,0,none⟩) n n) n (((List.replicate n false).set 0 true).map Value.bool))∧Below W.heap.size W wr) (fun i _=>n - (intOf i).toNat)
 case atStart=>exact⟨0,rfl,Nat.zero_le _,hnx3,hmk3,hbel3⟩
 case round =>
  clear hnx3 hmk3 hbel3 hs3
  obtain⟨b,rfl,hb,hnx,hmk,hbel⟩:=hrel
  by_cases hlt:b<n
  ·have hbs := hbel.size
   have hbi:(b:Int)<(n:Int):=by omega
   go_wp2_with (first
    | (go_at_call 84
       refine(cS.out b _ hbel).mono ?_
       rintro e w5 ⟨c5,rfl,hO5,hb5⟩
       have hnx5:=hide (hnx.out.below hb5)
       have hbel5:=hbel.trans (hb5.mono hbs)
       have hmk5:=hide (Yc hmk.out fun k hk=>hb5.block k (Ya hmk.out hk).2.1)
       obtain⟨cs5,hr5,hc5⟩:=id hnx5.out
       have hcl:cs5.length=n:=by have:=hr5.1;omega
       obtain⟨u5,hu5⟩:=Yf (l:=cs5) (k:=b) (by omega)
       have rz5:w5.cell? ⟨gN,b,none⟩=some u5:=by rw [World.ownsRow.cellAt hr5 b (by omega)];exact hu5.out
       have fz5:w5.frozen? ⟨gN,b,none⟩=false:=World.ownsRow.frozenAt hr5 b
       have hgb:=hide (Ya hr5 (k:=gN) rfl).1
       have hnx6:=hide (Yck.put hnx5.out hlt (hO5.mono (Nat.zero_le _)))
       have hmk6:=hide ((But.stored (j:=b) (u:=c5) hr5).row (by decide) hmk5.out)
       have hbel6:=hide (hbel5.setCell (p:=⟨gN,b,none⟩) hgb.out c5)
       obtain⟨Ac,kc,hcf⟩:=Yd hO5.row
       subst hcf
       clear hO5 hb5 hnx5 hmk5 hr5 hc5))
   go_roundw
   case rel=>exact⟨b+1,by go_num,hlt,hnx6,hmk6,hbel6.out⟩
   case measure=>simp [intOf];omega
  ·obtain rfl : b = n := by omega
   rename World=>Y
   have hgl:∀c T,Y.heap[W.heap.size]? = some (.cells c T (0,0))→T = 4 := fun c T h=>by
    obtain⟨-, -,c',h'⟩:=Ya hmk.out (k:=W.heap.size) rfl
    rw [h] at h'
    injection h' with h'
    injection h' with _ h3
   have hrd:=hide (hnx.out.reads hgl)
   have hfr:Hid (Y.ownsRow W.heap.size 4 1 (.slice (some ⟨W.heap.size,0,none⟩) b b) b (((List.replicate b false).set 0 true).map Value.bool)):=hmk
   have hselfY:=Only.refl (fun k=>k=W.heap.size) Y.heap.size Y
   have hstart:=hide (wout_start (sc:=sc) hn0 hg0.out)
   clear hgl hnx
   go_wp2
   go_loopg [9] (2*((List.replicate b false).set 0 true).count false+1) (fun k u9 wr=>∃l more,2*l.count false+b01 more=k∧u9 = .bool more∧Hid (WOut sc gone b l more)∧Hid (wr.ownsRow W.heap.size 4 1 (.slice (some ⟨W.heap.size,0,none⟩) b b) b (l.map Value.bool))∧Only (fun k=>k=W.heap.size) Y.heap.size Y wr)
   case atStart=>exact⟨_,true,rfl,rfl,hstart,hmk,hselfY⟩
   case round =>
    clear hstart hfr hselfY hmk
    obtain⟨l0,more0,hmu,rfl,hwo,hmk,hon⟩:=hrel
    replace hmu:=hide hmu
    cases more0 with
    | false =>
     have hok:Hid (WOk sc gone b l0):=hide ⟨hwo.out.len,wout_end hsok.out hwo.out⟩
     have hbY:=hide (hbel.trans (hon.to_below (fun k hk=>by have e:k=W.heap.size:=hk;omega) hbel.size))
     go_wp2
     go_ret
     exact⟨W.heap.size,l0,rfl,Zf hmk.out hws,hok.out,hwW.out.trans (hbY.out.mono hws)⟩
    | true =>
     have hst:=hide (winv_start hwo.out)
     go_wp2
     go_loopw [9,10] (fun m i wr=>∃(d:Nat) (l:List Bool) (more:Bool),i = .int .i64 d∧m = .bool more∧d≤b∧Hid (WInv sc gone b l0 l more d)∧Hid (wr.ownsRow W.heap.size 4 1 (.slice (some ⟨W.heap.size,0,none⟩) b b) b (l.map Value.bool))∧Only (fun k=>k=W.heap.size) Y.heap.size Y wr) (fun _ i _=>b - (intOf i).toNat)
     case atStart=>exact⟨0,l0,false,rfl,rfl,Nat.zero_le _,hst,hmk,hon⟩
     case round =>
      clear hst hmk hon
      obtain⟨d,l1,more1,rfl,rfl,hd,hwi,hmk,hon⟩:=hrel
      by_cases hltd:d<b
      ·have hdi : (d : Int) < (b : Int) := by omega
       obtain⟨Ad,kd,rd,hdr⟩:=hrd.out d hltd
       replace hdr:=hide hdr
       have hsl:(sc d).length≤b:=succ_len (hsok.out d)
       have hst2:=hide (winv_in hwi.out)
       go_wp2
       go_loopw [9,11] (fun m i wr=>∃(j:Nat) (l:List Bool) (more:Bool),i = .int .i64 j∧m = .bool more∧j≤(sc d).length∧Hid (WInvI sc gone b l0 l more d j)∧Hid (wr.ownsRow W.heap.size 4 1 (.slice (some ⟨W.heap.size,0,none⟩) b b) b (l.map Value.bool))∧Only (fun k=>k=W.heap.size) Y.heap.size Y wr) (fun _ i _=>(sc d).length - (intOf i).toNat)
       case atStart=>exact⟨0,l1,more1,rfl,rfl,Nat.zero_le _,hst2,hmk,hon⟩
       case round =>
        clear hst2 hwi hmk hon
        obtain⟨j,l2,more2,rfl,rfl,hj,hwi,hmk,hon⟩:=hrel
        have hl2:=hwi.out.inv.len
        obtain⟨bd,hbd⟩:=Yf (l:=l2) (k:=d) (by omega)
        have s0:wr.cell? ⟨W.heap.size,d,none⟩=some (.bool bd):=OwnB.cell hmk.out hbd.out hltd
        cases bd with
        | false =>
         have hnext:=hide (winv_dead hwi.out.inv hbd.out)
         go_wp2
         go_roundw
         case rel=>exact⟨d+1,l2,more2,by go_num,rfl,hltd,hnext,hmk,hon⟩
         case measure=>simp [intOf];omega
        | true =>
         by_cases hltj:j<(sc d).length
         ·have hji : (j : Int) < ((sc d).length : Int) := by omega
          obtain⟨t,ht⟩:=Yf (l:=sc d) (k:=j) hltj
          have htb:=(hsok.out d).bound t (Jm ht.out)
          obtain⟨tn,rfl⟩:=Int.eq_ofNat_of_zero_le htb.1
          have htn:tn<b:=by have:=htb.2;omega
          clear htb
          obtain⟨g5,hg5,hgr⟩:=hdr.out (by omega)
          cases hg5
          have r0:=hgr j _ ht.out
          clear hgr
          obtain⟨bt,hbt⟩:=Yf (l:=l2) (k:=tn) (by omega)
          have s1:wr.cell? ⟨W.heap.size,tn,none⟩=some (.bool bt):=OwnB.cell hmk.out hbt.out htn
          by_cases hgt:((tn:Nat):Int)=gone
          ·have hgf : (((tn : Nat) : Int) != gone) = false := by rw [hgt]; simp
           have hnext:=hide (wI_skip hwi.out ht.out (.inl hgt))
           replace hgt:=hide hgt
           go_wp2
           go_roundw
           case rel=>exact⟨j+1,l2,more2,by go_num,rfl,hltj,hnext,hmk,hon⟩
           case measure=>simp [intOf];omega
          ·have hgf : (((tn : Nat) : Int) != gone) = true := by rw [bne_iff_ne]; exact hgt
           cases bt with
           | true =>
            have hnext:=hide (wI_skip hwi.out ht.out (.inr hbt.out))
            replace hgt:=hide hgt
            go_wp2
            go_roundw
            case rel=>exact⟨j+1,l2,more2,by go_num,rfl,hltj,hnext,hmk,hon⟩
            case measure=>simp [intOf];omega
           | false =>
            have hnext:=hide (wI_mark hwi.out hbd.out ht.out hgt hbt.out)
            have f1:wr.frozen? ⟨W.heap.size,tn,none⟩=false:=World.ownsRow.frozenAt hmk.out tn
            have st:=(World.ownsRow.stored hmk.out tn (.bool true)).1
            rw [bmap_set] at st
            replace st:=hide st
            have hon9:=hide (hon.setCell (S:=fun k=>k=W.heap.size) (p:=⟨W.heap.size,tn,none⟩) (.inl rfl) (.bool true))
            replace hgt:=hide hgt
            go_wp2
            go_roundw
            case rel=>exact⟨j+1,_,true,by go_num,rfl,hltj,hnext,st,hon9.out⟩
            case measure=>simp [intOf];omega
         ·obtain rfl : j = (sc d).length := by omega
          have hnext:=hide (wI_end hwi.out)
          go_wp2
          go_roundw
          case rel=>exact⟨d+1,l2,more2,by go_num,rfl,hltd,hnext,hmk,hon⟩
          case measure=>simp [intOf];omega
      ·obtain rfl : d = b := by omega
       have hwo2:=hide (winv_out hwi.out)
       have hlt9:Hid (2*l1.count false+b01 more1<gk):=hide (by
        rw [←hmu.out]
        cases more1 with
        | true=>have:=hwi.out.less rfl;simp only [b01];omega
        | false=>rw [hwi.out.same rfl];simp only [b01];omega)
       go_wp2
       go_roundg (2*l1.count false+b01 more1)
       case measure=>exact hlt9.out
       case rel=>exact⟨l1,more1,rfl,rfl,hwo2,hmk,hon⟩
theorem rreach_any (f : Fun) (c1 c2 : Value) (w : World) (B : Nat) (hB : B ≤ w.heap.size) (hf : RFun.rep w B [.string f.name, c1, .int .i64 f.ret, c2] f) (hs : Zo f) :
  Calls Tryz.prog 29 #[f.v c1 c2] w (Yay f.blocks.length (Yw f.blocks) w):=by
 obtain⟨hp,hb⟩:=Yk (RFun.later hf (Below.refl _ _) hB)
 obtain⟨A1,k1,h1, -, -⟩:=Rp.slice1_open hp
 obtain⟨A2,k2,h2,hm2, -⟩:=Rp.slice1_open hb
 cases h1;cases h2
 clear hp hb
 obtain⟨n,hn⟩:=Jn (f.blocks.length)
 rw [←hn.out] at hf hm2⊢
 obtain⟨W,hW,hwW,hWs,hx⟩:=Y6 w #[.string f.name, .slice A1 f.params.length k1, .int .i64 f.ret, .slice A2 n k2] 32
 have q0:∀w',Below W.heap.size W w'→w'.cell? ⟨w.heap.size,0,none⟩=some (.string f.name):=hx 0 _ rfl
 have q1:∀w',Below W.heap.size W w'→w'.cell? ⟨w.heap.size,1,none⟩=some (.slice A1 f.params.length k1):=hx 1 _ rfl
 have q2:∀w',Below W.heap.size W w'→w'.cell? ⟨w.heap.size,2,none⟩=some (.int .i64 f.ret):=hx 2 _ rfl
 have q3:∀w',Below W.heap.size W w'→w'.cell? ⟨w.heap.size,3,none⟩=some (.slice A2 n k2):=hx 3 _ rfl
 clear hx
 have hws:w.heap.size≤W.heap.size:=by omega
 replace hWs:=hide hWs
 have hself:=Below.refl W.heap.size W
 have cW:Hid (Calls Tryz.prog 63 #[f.v (.slice A1 f.params.length k1) (.slice A2 n k2), .int .i64 (-1)] W (WithoutPost (Yo f.blocks) (-1) n W)):=hide (by
  have:=without_any f (-1) (.slice A1 f.params.length k1) (.slice A2 n k2) W W.heap.size (Nat.le_refl _) (RFun.later hf (hwW.mono hB) (Nat.le_trans hB hws)) hs
  rwa [←hn.out] at this)
 refine hd3 hs hf hwW ?_;clear hs hf hwW;intro hs hf hwW
 go_enter Tryz.func29,Tryz.ntmps29
 go_wp2_with (first|(go_at_call 63;refine cW.out.mono ?_;rintro e w9 ⟨g,l,rfl,hr,hl,hb9⟩))
 go_ret
 refine⟨g,rfl,?_,hwW.out.trans (hb9.mono hws)⟩
 have h9:=wok_reach f.blocks
 rw [←hn.out] at h9
 rw [←wok_unique hl h9]
 exact Zf hr hws
end Go.Proofs.YtamjcafjdioidaaGreat
