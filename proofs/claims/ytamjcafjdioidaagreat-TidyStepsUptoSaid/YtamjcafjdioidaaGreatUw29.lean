/- Texts of the chain, without what is not wanted: IrF, IrR, VrI. No condition but sizes. -/
import Derived.Test.YtamjcafjdioidaaGreatUw28
set_option linter.unusedVariables false
set_option linter.unusedSimpArgs false
set_option maxRecDepth 100000
set_option maxHeartbeats 12800000
namespace Go.Proofs.YtamjcafjdioidaaGreat
open Go.RowKit
def DefPost (f:Fun) (reg:Int) (w:World) (e:Ending) (w':World):Prop :=
 ∃(i j:Nat) (fd:Bool),e = .returned (.tuple #[.agg #[.int .i64 0, .int .i64 i, .int .i64 j], .bool fd])∧Below w.heap.size w w'∧
   (fd=true→IsDef f.blocks reg i j)∧(fd=false→i=0∧j=0∧noDef f.blocks.flatten reg)
theorem noDef_take {l:List Ins} {m:Nat} {x:Ins} {r:Int} (h:l[m]? = some x) (hn:noDef (l.take m) r) (hd:defs x r=false):noDef (l.take (m+1)) r:=by rw [Zl h];exact noDef_snoc hn hd
theorem rdef_any (f : Fun) (reg : Int) (c1 c2 : Value) (w : World) (B : Nat) (hB : B ≤ w.heap.size) (hp : Z4.rep w B [c1] f.params) (hb : RBlks.rep w B [c2] f.blocks) (hsz : Ybx f.blocks.flatten ≤ 1000000000000) :
  Calls Tryz.prog 94 #[f.v c1 c2, .int .i64 reg] w (DefPost f reg w):=by
 obtain⟨A1,k1,h1,hm1, -⟩:=Rp.slice1_at hp
 obtain⟨A2,k2,h2,hm2, -⟩:=Rp.slice1_at hb
 cases h1;cases h2
 have hfl:=length_le_partsL f.blocks.flatten
 refine hd2 hp hb ?_;clear hp hb;intro hp hb
 obtain⟨W,hW,hwW,hWs,hx,hr⟩:=Ql w #[.string f.name, .slice A1 f.params.length k1, .int .i64 f.ret, .slice A2 f.blocks.length k2] #[.int .i64 0, .int .i64 0, .int .i64 0] 32 48
 have hR0:W.heap[w.heap.size+1]? = some (.cells #[.int .i64 0, .int .i64 0, .int .i64 0] 48 (0,0)):=by
  rw [←hW]
  have:=Yu (w.alloc (.cells #[.string f.name, .slice A1 f.params.length k1, .int .i64 f.ret, .slice A2 f.blocks.length k2] 32)) (.cells #[.int .i64 0, .int .i64 0, .int .i64 0] 48)
  simpa using this
 have x0:=hx 0 _ rfl
 have x1:=hx 1 _ rfl
 have x2:=hx 2 _ rfl
 have x3:=hx 3 _ rfl
 clear hx hr
 have hself:=Below.refl W.heap.size W
 have hws:w.heap.size≤W.heap.size:=by omega
 have hRW:w.heap.size+1<W.heap.size:=by omega
 refine hd2 hWs hR0 ?_;clear hWs hR0;intro hWs hR0
 go_enter Tryz.func94,Tryz.ntmps94
 go_wp2_with fail
 clear hW
 refine(Yb1 f _ _ W w.heap.size hws (Z4.later hp.out (hwW.mono hB) hB) (RBlks.later hb.out (hwW.mono hB) hB) (by omega)).mono ?_
 rintro e V ⟨v1,v2,rfl,bV,hl,hpl⟩
 obtain⟨A3,k3,h3,hm3,gl⟩:=Rp.slice_open hl
 obtain⟨A4,k4,h4,hm4,gp⟩:=Rp.slice_open hpl
 have hpp:(Yl f.blocks f.blocks.length 0).length=f.blocks.flatten.length:=by rw [Zk _ _ (.inl rfl) (Nat.le_refl _),Z3]
 cases h3;cases h4
 refine hd2 gl gp ?_;clear gl gp;intro gl gp
 clear hl hpl x0 x1 x2 x3
 have hRV:Hid (V.heap[w.heap.size+1]? = some (.cells #[.int .i64 0, .int .i64 0, .int .i64 0] 48 (0,0))):=hide ((bV.block _ hRW).trans hR0.out)
 have hRV2:w.heap.size+1<V.heap.size:=by have:=bV.size;omega
 obtain⟨l,hll⟩:∃l:List Ins,Hid (l=f.blocks.flatten):=⟨_,hide rfl⟩
 obtain⟨pl,hpll⟩:∃pl:List Plc,Hid (pl=Yl f.blocks f.blocks.length 0):=⟨_,hide rfl⟩
 rw [←hll.out] at gl hfl hsz hm3 hpp⊢
 rw [←hpll.out] at gp hpp hm4⊢
 replace hpp:=hide hpp
 have hVV:=Nat.le_refl V.heap.size
 go_wp2
 go_loopw [8] (fun i wr=>∃k:Nat,k≤l.length∧i = .int .i64 k∧Hid (noDef (l.take k) reg)∧Below V.heap.size V wr) (fun i _=>l.length - (intOf i).toNat)
 case atStart=>exact⟨0,Nat.zero_le _,rfl,hide (noDef_nil _),Below.refl _ _⟩
 case round =>
  obtain⟨k,hk,rfl,hn,hbel⟩:=hrel
  have hq:Hid (wr.heap[w.heap.size+1]? = some (.cells #[.int .i64 0, .int .i64 0, .int .i64 0] 48 (0,0))):=hide ((hbel.block _ hRV2).trans hRV.out)
  by_cases hlt:k<l.length
  ·obtain ⟨b1, o1, rfl, he1⟩ := gl.out (by omega)
   obtain⟨ins,hins⟩:=Yf hlt
   obtain⟨_,_,⟨a1,a2,rfl,ha,hto,hwf⟩,hc⟩:=he1 k ins hins.out
   obtain⟨q0,q1,q2,q3,q4,q5,q6⟩:=hc.seven
   obtain⟨A5,k5,h5, -, -⟩:=Rp.slice_open ha
   obtain⟨A6,k6,h6, -, -⟩:=Rp.slice1_open hto
   cases h5;cases h6
   clear he1 hc ha hto hwf
   cases hk1:(ins.reg==reg) with
   | false =>
    have hd:Hid (defs ins reg=false):=hide (by simp [defs,hk1])
    go_wp2
    go_roundw
    case rel=>exact⟨k+1,hlt,by go_num,hide (noDef_take hins.out hn.out hd.out),hbel⟩
    case measure=>simp [intOf];omega
   | true =>
    cases hk2:(Yap ins.op ins.ty != 0) with
    | false =>
     have hd:Hid (defs ins reg=false):=hide (by simp [defs,hk1,hk2])
     go_wp2_with (go_at_call 93;refine(Ybj ins _ _ _).mono ?_;rintro e w4 ⟨rfl,hcall⟩;have hbel4:=Ycj hbel hVV hcall)
     go_roundw
     case rel=>exact⟨k+1,hlt,by go_num,hide (noDef_take hins.out hn.out hd.out),hbel4⟩
     case measure=>simp [intOf];omega
    | true =>
     have hd:Hid (defs ins reg=true):=hide (by simp [defs,hk1,hk2])
     obtain⟨i,j,hdef,hplace⟩:=def_of (bs:=f.blocks) (k:=k) (by rw [←hll.out];exact hins.out) hd.out (by rw [←hll.out];exact hn.out)
     rw [←hpll.out] at hplace
     have hltp:k<pl.length:=by rw [hpp.out];exact hlt
     obtain⟨b2,o2,rfl,he2⟩:=gp.out (by omega)
     obtain⟨_,_,⟨rfl,_⟩,hc2⟩:=he2 k _ hplace
     obtain⟨p0,p1,p2⟩:=hc2.three
     replace hdef:=hide hdef
     clear he2 hc2 hplace
     go_wp2_with fail
     refine(Ybj ins _ _ _).mono ?_
     rintro e w4 ⟨rfl,hcall⟩
     have hbel4:=Ycj hbel hVV hcall
     have hq4:Hid (w4.heap[w.heap.size+1]? = some (.cells #[.int .i64 0, .int .i64 0, .int .i64 0] 48 (0,0))):=hide ((hbel4.block _ hRV2).trans hRV.out)
     obtain⟨z0,z1,z2⟩:=Q2 hq4.out
     have f0:=Ym (j:=0) hq4.out
     have f1:=Ym (j:=1) hq4.out
     have f2:=Ym (j:=2) hq4.out
     go_wp2
     obtain⟨y0,y1,y2⟩:=Q2 (Yr (j:=2) (v := .int .i64 (j:Int)) (Yr (j:=1) (v := .int .i64 (i:Int)) (Yr (j:=0) (v := .int .i64 0) hq4.out)))
     refine bodyPost_ret (v := .tuple #[.agg #[.int .i64 0, .int .i64 i, .int .i64 j], .bool true]) (by simp [results,Tryz.results94,go_sem,y0,y1,y2]) rfl ⟨i,j,true,rfl,?_,fun _=>hdef.out,(fun h=>by cases h)⟩
     have hbw:Below w.heap.size w w4:=hwW.trans ((bV.mono hws).trans (hbel4.mono (by omega)))
     exact((hbw.setCell (by simp) _).setCell (by simp) _).setCell (by simp) _
  ·have hno : Hid (noDef f.blocks.flatten reg) := hide (by rw [← hll.out]; have := hn.out; rwa [List.take_of_length_le (by omega)] at this)
   obtain⟨z0,z1,z2⟩:=Q2 hq.out
   have f0:=Ym (j:=0) hq.out
   have f1:=Ym (j:=1) hq.out
   have f2:=Ym (j:=2) hq.out
   go_wp2
   obtain⟨y0,y1,y2⟩:=Q2 (Yr (j:=2) (v := .int .i64 0) (Yr (j:=1) (v := .int .i64 0) (Yr (j:=0) (v := .int .i64 0) hq.out)))
   refine bodyPost_ret (v := .tuple #[.agg #[.int .i64 0, .int .i64 ((0:Nat):Int), .int .i64 ((0:Nat):Int)], .bool false]) (by simp [results,Tryz.results94,go_sem,y0,y1,y2]) rfl ⟨0,0,false,rfl,?_,(fun h=>by cases h),fun _=>⟨rfl,rfl,hno.out⟩⟩
   have hbw:Below w.heap.size w wr:=hwW.trans ((bV.mono hws).trans (hbel.mono (by omega)))
   exact((hbw.setCell (by simp) _).setCell (by simp) _).setCell (by simp) _
def plainOk (op ty ret:Int):Prop:=if op=33 then ty=ret else if op=26∨op=29∨op=31∨op=32∨op=34 then True else 1≤ty∧ty≤(if op≤13∨(16≤op∧op≤19) then 64 else 65)
def TypedOk (m:Mod) (ret:Int) (x:Ins):Prop :=
 if convB x.op=true then(convS8 x.op x.num x.ty 0).2=true else if x.op=30 then(Zu m x.num).2.2=true∧(Zu m x.num).2.1=x.ty∧(Zu m x.num).1.length=x.args.length else plainOk x.op x.ty ret
theorem typed_any (m : Mod) (f : Fun) (x : Ins) (M1 M2 M3 A1 A2 A5 A6 : Option Addr) (v1 v2 v3 j1 j2 j3 np k1 N k2 k5 k6 : Nat) (w : World) (B : Nat) (hB : B ≤ w.heap.size) (ha : RMod.rep w B [.slice M1 v1 j1, .slice M2 v2 j2, .slice M3 v3 j3] m) (hn : -9223372036854775808 ≤ x.num ∧ x.num ≤ 9223372036854775807) :
  Calls Tryz.prog 92 #[m.v (.slice M1 v1 j1) (.slice M2 v2 j2) (.slice M3 v3 j3),f.v (.slice A1 np k1) (.slice A2 N k2),x.v (.slice A5 x.args.length k5) (.slice A6 x.to.length k6)] w (Yz (TypedOk m f.ret x) w):=by
 obtain⟨na,hna⟩:=Jn (x.args.length)
 obtain⟨TT,hTT⟩:∃TT:Prop,Hid (TT=TypedOk m f.ret x):=⟨_,hide rfl⟩
 rw [←hna.out,←hTT.out]
 obtain⟨W,hW,hwW,hWs,hx,hy,hz⟩:=boxes3 w #[.slice M1 v1 j1, .slice M2 v2 j2, .slice M3 v3 j3] #[.string f.name, .slice A1 np k1, .int .i64 f.ret, .slice A2 N k2] #[.int .i64 x.op, .int .i64 x.reg, .int .i64 x.ty, .int .i64 x.num, .int .i64 x.flags, .slice A5 na k5, .slice A6 x.to.length k6] 26 32 44
 have p0:∀w',Below W.heap.size W w'→w'.cell? ⟨w.heap.size,0,none⟩=some (.slice M1 v1 j1):=hx 0 _ rfl
 have p1:∀w',Below W.heap.size W w'→w'.cell? ⟨w.heap.size,1,none⟩=some (.slice M2 v2 j2):=hx 1 _ rfl
 have p2:∀w',Below W.heap.size W w'→w'.cell? ⟨w.heap.size,2,none⟩=some (.slice M3 v3 j3):=hx 2 _ rfl
 have q2:∀w',Below W.heap.size W w'→w'.cell? ⟨w.heap.size+1,2,none⟩=some (.int .i64 f.ret):=hy 2 _ rfl
 have y0:∀w',Below W.heap.size W w'→w'.cell? ⟨w.heap.size+1+1,0,none⟩=some (.int .i64 x.op):=hz 0 _ rfl
 have y2:∀w',Below W.heap.size W w'→w'.cell? ⟨w.heap.size+1+1,2,none⟩=some (.int .i64 x.ty):=hz 2 _ rfl
 have y3:∀w',Below W.heap.size W w'→w'.cell? ⟨w.heap.size+1+1,3,none⟩=some (.int .i64 x.num):=hz 3 _ rfl
 have y5:∀w',Below W.heap.size W w'→w'.cell? ⟨w.heap.size+1+1,5,none⟩=some (.slice A5 na k5):=hz 5 _ rfl
 clear hx hy hz
 have hself:=Below.refl W.heap.size W
 have hws:w.heap.size≤W.heap.size:=by omega
 refine hd3 hWs hW hwW ?_;clear hWs hW hwW;intro hWs hW hwW
 have cC:Hid (∀w',Below W.heap.size W w'→Calls Tryz.prog 121 #[m.v (.slice M1 v1 j1) (.slice M2 v2 j2) (.slice M3 v3 j3), .int .i64 x.num] w' (Ybp m x.num w'.heap.size w')):=hide (fun w' h=>rcallee_any m x.num _ _ _ w' w'.heap.size (Nat.le_refl _) (RMod.later ha ((hwW.out.trans (h.mono hws)).mono hB) (Nat.le_trans hB (hwW.out.trans (h.mono hws)).size)) hn)
 obtain⟨cb,hcb⟩:∃cb,Hid (convB x.op=cb):=⟨_,hide rfl⟩
 refine hd2 hn ha ?_;clear hn ha;intro hn ha
 go_enter Tryz.func92,Tryz.ntmps92
 go_upto_region 1 with(fail)
 rw [hW.out]
 clear hW
 go_wp2_with (fail)
 refine(Yb2 x.op _).mono ?_
 rintro e w9 ⟨rfl,hw9⟩
 subst hw9
 rw [hcb.out]
 rename World=>V
 have hfin:=hwW
 cases cb with
 | true =>
  have hT:Hid (TT↔(convS8 x.op x.num x.ty 0).2=true):=hide (by rw [hTT.out];unfold TypedOk;rw [if_pos hcb.out])
  go_wp2_with (fail)
  refine(rconv8_any x.op x.num x.ty 0 _ (by decide)).mono ?_
  rintro e X ⟨rfl,hbX⟩
  have hfin:=hide (hwW.out.trans (hbX.mono hws))
  cases hok:(convS8 x.op x.num x.ty 0).2 with
  | true =>
   have hfx:Hid (Yz TT w (.returned (.int .i64 0)) X):=hide ⟨0,rfl,⟨fun _=>hT.out.2 hok,fun _=>rfl⟩,hfin.out⟩
   replace hok:=hide hok
   go_wp2
   go_ret
   exact hfx.out
  | false =>
   have hfx:Hid (Yz TT w (.returned (.int .i64 7)) X):=hide ⟨7,rfl,⟨fun h=>by omega,fun h=>by have:=hT.out.1 h;rw [hok] at this;cases this⟩,hfin.out⟩
   replace hok:=hide hok
   go_wp2
   go_ret
   exact hfx.out
 | false =>
  by_cases h30:x.op=30
  ·have b30 : (x.op == 30) = true := by rw [h30]; rfl
   have hT:Hid (TT↔((Zu m x.num).2.2=true∧(Zu m x.num).2.1=x.ty∧(Zu m x.num).1.length=x.args.length)):=hide (by rw [hTT.out];unfold TypedOk;rw [if_neg (by rw [hcb.out];simp),if_pos h30])
   replace h30:=hide h30
   obtain⟨pr,hpr⟩:∃pr,Hid ((Zu m x.num).1=pr):=⟨_,hide rfl⟩
   obtain⟨rt,hrt⟩:∃rt,Hid ((Zu m x.num).2.1=rt):=⟨_,hide rfl⟩
   obtain⟨ok,hok⟩:∃ok,Hid ((Zu m x.num).2.2=ok):=⟨_,hide rfl⟩
   unfold Ybp at cC
   rw [hpr.out,hrt.out,hok.out] at cC hT
   go_wp2_with (fail)
   refine(cC.out _ hself).mono ?_
   rintro e X ⟨v,rfl,hrv,hbX⟩
   obtain⟨Ap,Cp,hv,hmp, -⟩:=Rp.slice1_open hrv
   cases hv
   have hfin:=hide (hwW.out.trans (hbX.mono hws))
   obtain⟨lp,hlp⟩:=Jn (pr.length)
   rw [←hlp.out] at hmp⊢
   replace hrv:=hide hrv
   cases ok with
   | false =>
    have hfx:Hid (Yz TT w (.returned (.int .i64 4)) X):=hide ⟨4,rfl,⟨fun h=>by omega,fun h=>by have:=(hT.out.1 h).1;cases this⟩,hfin.out⟩
    go_wp2
    go_ret
    exact hfx.out
   | true =>
    by_cases g1:rt=x.ty
    ·have e1 : (rt != x.ty) = false := by rw [g1]; simp
     by_cases g2:lp=na
     ·have e2 : ((lp : Int) != (na : Int)) = false := by rw [g2]; simp
      have hfx:Hid (Yz TT w (.returned (.int .i64 0)) X):=hide ⟨0,rfl,⟨fun _=>hT.out.2 ⟨rfl,g1,by rw [←hlp.out,←hna.out,g2]⟩,fun _=>rfl⟩,hfin.out⟩
      refine hd2 g1 g2 ?_;clear g1 g2;intro g1 g2
      go_wp2
      go_ret
      exact hfx.out
     ·have e2 : ((lp : Int) != (na : Int)) = true := bne_iff_ne.2 (by omega)
      have hfx:Hid (Yz TT w (.returned (.int .i64 13)) X):=hide ⟨13,rfl,⟨fun h=>by omega,fun h=>absurd (by rw [hlp.out,hna.out];exact(hT.out.1 h).2.2) g2⟩,hfin.out⟩
      refine hd2 g1 g2 ?_;clear g1 g2;intro g1 g2
      go_wp2
      go_ret
      exact hfx.out
    ·have e1 : (rt != x.ty) = true := by simpa using g1
     have hfx:Hid (Yz TT w (.returned (.int .i64 7)) X):=hide ⟨7,rfl,⟨fun h=>by omega,fun h=>absurd (hT.out.1 h).2.1 g1⟩,hfin.out⟩
     replace g1:=hide g1
     go_wp2
     go_ret
     exact hfx.out
  ·have b30 : (x.op == 30) = false := by rw [beq_eq_false_iff_ne]; exact h30
   have hT:Hid (TT↔plainOk x.op x.ty f.ret):=hide (by rw [hTT.out];unfold TypedOk;rw [if_neg (by rw [hcb.out];simp),if_neg h30])
   have z0:=y0 V hself
   have z2:=y2 V hself
   have z3:=q2 V hself
   obtain⟨op,hop⟩:=Jn (x.op)
   obtain⟨ty,hty⟩:=Jn (x.ty)
   obtain⟨rt,hrt⟩:=Jn (f.ret)
   rw [←hop.out] at z0 b30
   rw [←hty.out] at z2
   rw [←hrt.out] at z3
   have hT2:Hid (TT↔plainOk op ty rt):=hide (by rw [hop.out,hty.out,hrt.out];exact hT.out)
   replace h30:=hide h30
   clear y0 y2 y3 y5 q2 p0 p1 p2 hself cC hT
   go_wp2
   all_goals go_ret
   all_goals refine⟨_,rfl,?_,hfin.out⟩
   all_goals
    rw [hT2.out]
    clear hT2 hTT hop hty hrt hna hcb hwW hfin z0 z2 z3 ha hn h30
    unfold plainOk
    try simp at *
    try ((repeat' split)<;>first|omega|(simp;omega)|(exfalso;omega))
theorem Ycc {w:World} {B:Nat} {m:Mod} {c d e:Value} (h:RMod.rep w B [c,d,e] m):∃(M1:Option Addr) (v1 j1:Nat) (M2:Option Addr) (v2 j2:Nat) (M3:Option Addr) (v3 j3:Nat),c = .slice M1 v1 j1∧d = .slice M2 v2 j2∧e = .slice M3 v3 j3:=by
 obtain⟨h1,h2,h3⟩:=Yby h
 obtain⟨A1,k1,e1, -, -⟩:=Rp.slice_open h1
 obtain⟨A2,k2,e2, -, -⟩:=Rp.slice_open h2
 obtain⟨A3,k3,e3, -, -⟩:=Rp.slice_open h3
 cases e1;cases e2;cases e3
 exact⟨_,_,_,_,_,_,_,_,_,rfl,rfl,rfl⟩
theorem i64_of8 {n:Int} (h:(Lit.int .i64 n).wf=true) : -9223372036854775808≤n∧n≤9223372036854775807:=by
 have h' : -9223372036854775808≤n∧n≤9223372036854775808 - 1:=by simpa [Lit.wf,IntKind.min,IntKind.max,IntKind.bits,IntKind.signed] using h
 omega
theorem i64_in8 {x:Int} (h:I64 x) : -9223372036854775808≤x∧x≤9223372036854775807:=i64_of8 h
def FormOk (m:Mod) (ret:Int) (x:Ins) (b:Int):Prop:=formedB ret x b=true∧bits BinOp.andNot IntKind.i64 x.flags (flagsOf x.op)=0∧TypedOk m ret x
def AllAt (f:Fun) (P:Ins→Plc→Prop):Prop:=∀(i:Nat) x p,f.blocks.flatten[i]? = some x→(Yl f.blocks f.blocks.length 0)[i]? = some p→P x p
def FormsOk (m:Mod) (f:Fun):Prop:=AllAt f fun x p=>FormOk m f.ret x p.blk
theorem forms08_any (m : Mod) (f : Fun) (n : Int) (m1 m2 m3 c1 c2 : Value) (w : World) (B : Nat) (hB : B ≤ w.heap.size) (ha : RMod.rep w B [m1, m2, m3] m) (hf : RFun.rep w B [.string f.name, c1, .int .i64 f.ret, c2] f) (hsz : Ybo f ≤ 2000000) :
  Calls Tryz.prog 47 #[m.v m1 m2 m3,f.v c1 c2, .int .i64 n] w (Z2 (FormsOk m f) w):=by
 have hs:Zo f:=Ybu hsz
 obtain⟨PP,hPP⟩:∃PP:Prop,Hid (PP=FormsOk m f):=⟨_,hide rfl⟩
 rw [←hPP.out]
 obtain⟨hp,hb⟩:=Yk (RFun.later hf (Below.refl _ _) hB)
 obtain⟨A1,k1,h1,hm1,gp⟩:=Rp.slice1_open hp
 obtain⟨A2,k2,h2,hm2,gb⟩:=Rp.slice1_open hb
 cases h1;cases h2
 refine hd2 gp gb ?_;clear gp gb;intro gp gb
 clear hp hb
 obtain⟨M1,v1,j1,M2,v2,j2,M3,v3,j3,hmf⟩:=Ycc ha
 obtain⟨e1,e2,e3⟩:=hmf
 subst e1 e2 e3
 obtain⟨N,hN⟩:=Jn (f.blocks.length)
 obtain⟨np,hnp⟩:=Jn (f.params.length)
 have hNle:N≤2000000:=by rw [hN.out];exact hs.blocks
 rw [←hN.out,←hnp.out] at hf⊢
 rw [←hN.out] at hm2
 rw [←hnp.out] at hm1
 obtain⟨W,hW,hwW,hWs,hu,hx,hy⟩:=boxes3 w #[.slice M1 v1 j1, .slice M2 v2 j2, .slice M3 v3 j3] #[.string f.name, .slice A1 np k1, .int .i64 f.ret, .slice A2 N k2] #[.int .i64 0, .int .i64 0, .int .i64 0, .int .i64 0] 26 32 50
 have p0:∀w',Below W.heap.size W w'→w'.cell? ⟨w.heap.size,0,none⟩=some (.slice M1 v1 j1):=hu 0 _ rfl
 have p1:∀w',Below W.heap.size W w'→w'.cell? ⟨w.heap.size,1,none⟩=some (.slice M2 v2 j2):=hu 1 _ rfl
 have p2:∀w',Below W.heap.size W w'→w'.cell? ⟨w.heap.size,2,none⟩=some (.slice M3 v3 j3):=hu 2 _ rfl
 have q0:∀w',Below W.heap.size W w'→w'.cell? ⟨w.heap.size+1,0,none⟩=some (.string f.name):=hx 0 _ rfl
 have q1:∀w',Below W.heap.size W w'→w'.cell? ⟨w.heap.size+1,1,none⟩=some (.slice A1 np k1):=hx 1 _ rfl
 have q2:∀w',Below W.heap.size W w'→w'.cell? ⟨w.heap.size+1,2,none⟩=some (.int .i64 f.ret):=hx 2 _ rfl
 have q3:∀w',Below W.heap.size W w'→w'.cell? ⟨w.heap.size+1,3,none⟩=some (.slice A2 N k2):=hx 3 _ rfl
 obtain⟨R,hRd⟩:=Jn (w.heap.size+1+1)
 have hR:Hid (W.heap[R]? = some (.cells #[.int .i64 0, .int .i64 0, .int .i64 0, .int .i64 0] 50 (0,0))):=hide (by
  rw [hRd.out,←hW]
  have:=Yu ((w.alloc (.cells #[.slice M1 v1 j1, .slice M2 v2 j2, .slice M3 v3 j3] 26)).alloc (.cells #[.string f.name, .slice A1 np k1, .int .i64 f.ret, .slice A2 N k2] 32)) (.cells #[.int .i64 0, .int .i64 0, .int .i64 0, .int .i64 0] 50)
  simpa using this)
 have hRW:R<W.heap.size:=by have:=hRd.out;omega
 have hRw:Hid (w.heap.size≤R):=hide (by have:=hRd.out;omega)
 clear hu hx hy
 have hws:w.heap.size≤W.heap.size:=by omega
 have hwX:Hid (∀w',Below W.heap.size W w'→Below w.heap.size w w'):=hide (fun w' h=>hwW.trans (h.mono hws))
 have hF:Hid (∀w',Below W.heap.size W w'→RFun.rep w' w'.heap.size [.string f.name, .slice A1 np k1, .int .i64 f.ret, .slice A2 N k2] f):=hide (fun w' h=>RFun.later hf ((hwX.out w' h).mono hB) (Nat.le_trans hB (hwX.out w' h).size))
 have hMo:Hid (∀w',Below W.heap.size W w'→RMod.rep w' w'.heap.size [.slice M1 v1 j1, .slice M2 v2 j2, .slice M3 v3 j3] m):=hide (fun w' h=>RMod.later ha ((hwX.out w' h).mono hB) (Nat.le_trans hB (hwX.out w' h).size))
 replace ha:=hide ha
 have hCo:Hid (∀w',Below W.heap.size W w'→Calls Tryz.prog 68 #[f.v (.slice A1 np k1) (.slice A2 N k2)] w' (CodePost f w')):=hide (fun w' h=>Yb1 f _ _ w' w'.heap.size (Nat.le_refl _) (Yk (hF.out w' h)).1 (Yk (hF.out w' h)).2 (by have:=Yac f;omega))
 have hzb:Hid (∀x,x∈f.blocks→x.length≤2000000):=hide (fun x hx=>(hs.code x hx).1)
 refine hd3 hs hf hWs ?_;clear hs hf hWs;intro hs hf hWs
 have hself:=Below.refl W.heap.size W
 refine hd2 hW hwW ?_;clear hW hwW;intro hW hwW
 go_enter Tryz.func47,Tryz.ntmps47
 go_upto_region 1 with(fail)
 rw [hW.out,←hRd.out]
 clear hW
 go_wp2_with (fail)
 refine(hCo.out _ hself).mono ?_
 rintro e V0 ⟨vl,vp,rfl,hb0,hl,hpl⟩
 obtain⟨A3,k3,h3,hm3,gl⟩:=Rp.slice_open hl
 obtain⟨A4,k4,h4,hm4,gpl⟩:=Rp.slice_open hpl
 cases h3;cases h4
 have hpp:(Yl f.blocks f.blocks.length 0).length=f.blocks.flatten.length:=by rw [Zk _ _ (.inl rfl) (Nat.le_refl _),Z3]
 have hbV0:=hself.trans (hb0.mono hself.size)
 refine hd2 gl gpl ?_;clear gl gpl;intro gl gpl
 obtain⟨l,hll⟩:∃l:List Ins,Hid (l=f.blocks.flatten):=⟨_,hide rfl⟩
 obtain⟨pl,hpll⟩:∃pl:List Plc,Hid (pl=Yl f.blocks f.blocks.length 0):=⟨_,hide rfl⟩
 rw [←hll.out] at gl hpp hm3⊢
 rw [←hpll.out] at gpl hpp hm4⊢
 obtain⟨nl,hnl⟩:=Jn (l.length)
 rw [hpp,←hnl.out] at gpl hm4⊢
 rw [←hnl.out] at gl hm3
 have hpl2:Hid (pl.length=nl):=hide (by rw [hpp,hnl.out])
 clear hl hpl hpp hb0
 have hPP:Hid (PP=∀(i:Nat) x p,l[i]? = some x→pl[i]? = some p→FormOk m f.ret x p.blk):=hide (by rw [hPP.out,hll.out,hpll.out];rfl)
 have hnl2:nl≤2000000:=by have h1:=Yac f;rw [hnl.out,hll.out];omega
 have hself0:=Below.refl V0.heap.size V0
 have hok0:Hid (∀(j:Nat) x p,j<0→l[j]? = some x→pl[j]? = some p→FormOk m f.ret x p.blk):=hide (fun j x p h=>by omega)
 have h0W:Hid (∀w',Below V0.heap.size V0 w'→Below W.heap.size W w'):=hide (fun w' h=>hbV0.trans (h.mono hbV0.size))
 have pp0:∀w',Below V0.heap.size V0 w'→w'.cell? ⟨w.heap.size,0,none⟩=some (.slice M1 v1 j1):=fun w' h=>p0 w' (h0W.out w' h)
 have pp1:∀w',Below V0.heap.size V0 w'→w'.cell? ⟨w.heap.size,1,none⟩=some (.slice M2 v2 j2):=fun w' h=>p1 w' (h0W.out w' h)
 have pp2:∀w',Below V0.heap.size V0 w'→w'.cell? ⟨w.heap.size,2,none⟩=some (.slice M3 v3 j3):=fun w' h=>p2 w' (h0W.out w' h)
 have qq0:∀w',Below V0.heap.size V0 w'→w'.cell? ⟨w.heap.size+1,0,none⟩=some (.string f.name):=fun w' h=>q0 w' (h0W.out w' h)
 have qq1:∀w',Below V0.heap.size V0 w'→w'.cell? ⟨w.heap.size+1,1,none⟩=some (.slice A1 np k1):=fun w' h=>q1 w' (h0W.out w' h)
 have qq2:∀w',Below V0.heap.size V0 w'→w'.cell? ⟨w.heap.size+1,2,none⟩=some (.int .i64 f.ret):=fun w' h=>q2 w' (h0W.out w' h)
 have qq3:∀w',Below V0.heap.size V0 w'→w'.cell? ⟨w.heap.size+1,3,none⟩=some (.slice A2 N k2):=fun w' h=>q3 w' (h0W.out w' h)
 clear p0 p1 p2 q0 q1 q2 q3 hself hbV0
 go_wp2
 go_loopw [9,10,11] (fun s9 _ _ wr=>∃i:Nat,s9 = .int .i64 i∧i≤nl∧Hid (∀(j:Nat) x p,j<i→l[j]? = some x→pl[j]? = some p→FormOk m f.ret x p.blk)∧Below V0.heap.size V0 wr) (fun s9 _ _ _=>nl - (intOf s9).toNat)
 case atStart=>exact⟨0,rfl,Nat.zero_le _,hok0,hself0⟩
 case round =>
  clear hok0 hself0
  rename World=>V
  obtain⟨i,rfl,hi,hok,hbel0⟩:=hrel
  have hbel:=h0W.out V hbel0
  have hVs:=hbel0.size
  by_cases hlt:i<nl
  ·have hii : (i : Int) < (nl : Int) := by omega
   obtain⟨x,hx⟩:=Yf (l:=l) (k:=i) (by rw [←hnl.out];exact hlt)
   obtain⟨p,hp⟩:=Yf (l:=pl) (k:=i) (by rw [hpl2.out];exact hlt)
   obtain⟨b3,o3,hA3,he3⟩:=gl.out (by omega)
   subst hA3
   obtain⟨b4,o4,hA4,he4⟩:=gpl.out (by omega)
   subst hA4
   obtain⟨_,_,⟨a1',a2',rfl,hra,hrt, -,hI2,hI3,hI4,hI5⟩,hcx⟩:=he3 i x hx.out
   obtain⟨A5,k5,h5,hm5,ga⟩:=Rp.slice_open hra
   obtain⟨A6,k6,h6,hm6,gt⟩:=Rp.slice1_open hrt
   cases h5;cases h6
   refine hd2 ga gt ?_;clear ga gt;intro ga gt
   obtain⟨es4,hel4,hr4,hcp⟩:=he4 i p hp.out
   have hr4:=hr4.1
   subst hr4
   obtain⟨x0,x1,x2,x3,x4,x5,x6⟩:=hcx.seven
   obtain⟨t0,t1,t2⟩:=hcp.three
   clear he3 he4 hcx hcp hra hrt hel4
   have cFm:Hid (∀w',Calls Tryz.prog 90 #[f.v (.slice A1 np k1) (.slice A2 N k2),x.v (.slice A5 x.args.length k5) (.slice A6 x.to.length k6), .int .i64 p.blk] w' (RetB (formedB f.ret x p.blk) w')):=hide (fun w'=>formed_any f x p.blk A1 A2 A5 A6 np k1 N k2 k5 k6 w')
   have cFl:Hid (∀w',Calls Tryz.prog 91 #[.int .i64 x.op] w' fun e w''=>e = .returned (.int .i64 (flagsOf x.op))∧w'=w''):=hide (fun w'=>rflags8_any x.op w')
   have cTy:Hid (∀w',Below V0.heap.size V0 w'→Calls Tryz.prog 92 #[m.v (.slice M1 v1 j1) (.slice M2 v2 j2) (.slice M3 v3 j3),f.v (.slice A1 np k1) (.slice A2 N k2),x.v (.slice A5 x.args.length k5) (.slice A6 x.to.length k6)] w' (Yz (TypedOk m f.ret x) w')):=hide (fun w' h=>typed_any m f x M1 M2 M3 A1 A2 A5 A6 v1 v2 v3 j1 j2 j3 np k1 N k2 k5 k6 w' w'.heap.size (Nat.le_refl _) (hMo.out w' (h0W.out w' h)) (i64_in8 hI4))
   have hno:Hid (¬FormOk m f.ret x p.blk→¬PP):=hide (fun h1 h2=>h1 (by rw [hPP.out] at h2;exact h2 i x p hx.out hp.out))
   obtain⟨fb,hfb⟩:∃fb,Hid (formedB f.ret x p.blk=fb):=⟨_,hide rfl⟩
   rw [hfb.out] at cFm
   obtain⟨na,hna⟩:=Jn (x.args.length)
   obtain⟨nt,hnt⟩:=Jn (x.to.length)
   rw [←hna.out] at hm5 x5 cFm cTy
   rw [←hnt.out] at hm6 x6 cFm cTy
   have hbd:=hbel0.drew
   go_upto_region 5 with(fail)
   go_region_held3 (fun w' => Below V0.heap.size V0 w') (first | (with_reducible assumption) | exact hbd)
    (first
     | (go_at_call 90;refine(cFm.out _).mono ?_;rintro e X1 ⟨rfl,hb⟩;have hk1:Below V0.heap.size V0 X1:=hbd.trans (hb.mono hbd.size);clear hb))
   have hbel1:=h0W.out X1 hk1
   cases fb with
   | false =>
    have hfx:Hid ((15:Int)=0↔PP):=hide ⟨fun h=>by omega,fun h=>absurd h (hno.out fun h9=>by have:=h9.1;rw [hfb.out] at this;cases this)⟩
    go_upto_region 7 with(fail)
    have hbe:=hbel1.drew
    go_still_tail 11,(by kernel_rfl)
    change wpList _ _ _ _ _ X1.drew
    go_wp2_with (fail)
    refine(Zc _ _ _ _ _).mono ?_
    rintro e X9 ⟨rfl,hb9⟩
    have hk9:Below W.heap.size W X9:=hbe.trans (hb9.mono hbe.size)
    have hR9:X9.heap[R]? = _:=(hk9.block R hRW).trans hR.out
    obtain⟨z0,z1,z2,z3⟩:=Zz hR9
    obtain⟨f0,f1,f2,f3⟩:=Yj hR9
    go_wp2
    refine Yp (c:=15) (k:=(n)) (b:=p.blk) (i:=p.pos) ?_ (by rfl) hfx.out (Zs (hwX.out X9 hk9) hRw.out)
    obtain⟨y0,y1,y2,y3⟩:=Zq (u0 := .int .i64 (15)) (u1 := .int .i64 (n)) (u2 := .int .i64 (p.blk)) (u3 := .int .i64 (p.pos)) hR9
    simp [results,Tryz.results47,go_sem,y0,y1,y2,y3]
   | true =>
    obtain⟨fl,hfl⟩:∃fl,Hid (bits BinOp.andNot IntKind.i64 x.flags (flagsOf x.op)=fl):=⟨_,hide rfl⟩
    have hbd1:=hk1.drew
    go_upto_region 8 with(fail)
    go_region_held3 (fun w' => Below V0.heap.size V0 w') (first | (with_reducible assumption) | exact hbd1)
     (first
      | (go_at_call 91;refine(cFl.out _).mono ?_;rintro e X2 ⟨rfl,hw2⟩;subst hw2))
    rw [hfl.out]
    have hbel2:=h0W.out _ hbd1
    by_cases hf0:fl=0
    ·have e0 : (fl != 0) = false := by rw [hf0]; rfl
     have hbd2:=hbd1.drew
     go_upto_region 10 with(fail)
     go_region_held3 (fun w' => Below V0.heap.size V0 w') (first | (with_reducible assumption) | exact hbd2)
      (first
       | (go_at_call 92;refine(cTy.out _ hbd2).mono ?_;rintro e X3 ⟨ec,rfl,hec,hb⟩;have hk3:Below V0.heap.size V0 X3:=hbd2.trans (hb.mono hbd2.size);clear hb))
     have hbel3:=h0W.out X3 hk3
     by_cases hc0:ec=0
     ·have e1 : (ec != 0) = false := by rw [hc0]; rfl
      have hty:=hec.1 hc0
      have hnx:Hid (∀(j:Nat) x p,j<i+1→l[j]? = some x→pl[j]? = some p→FormOk m f.ret x p.blk):=hide (fun j y q hj hy hq=>by
       rcases Nat.lt_succ_iff_lt_or_eq.1 hj with h|h
       ·exact hok.out j y q h hy hq
       ·subst h
        rw [hx.out] at hy
        rw [hp.out] at hq
        cases hy;cases hq
        exact⟨hfb.out,by rw [hfl.out];exact hf0,hty⟩)
      refine hd4 hf0 hc0 hec hty ?_;clear hf0 hc0 hec hty;intro hf0 hc0 hec hty
      go_wp2
      go_roundw
      case rel=>exact⟨i+1,by go_num,hlt,hnx,hk3⟩
      case measure=>simp [intOf];omega
     ·have e1 : (ec != 0) = true := by simpa using hc0
      have hfx:Hid (ec=0↔PP):=hide ⟨fun h=>absurd h hc0,fun h=>absurd h (hno.out fun h9=>hc0 (hec.2 h9.2.2))⟩
      refine hd3 hf0 hc0 hec ?_;clear hf0 hc0 hec;intro hf0 hc0 hec
      go_upto_region 12 with(fail)
      have hbe:=hbel3.drew
      go_still_tail 12,(by kernel_rfl)
      change wpList _ _ _ _ _ X3.drew
      go_wp2_with (fail)
      refine(Zc _ _ _ _ _).mono ?_
      rintro e X9 ⟨rfl,hb9⟩
      have hk9:Below W.heap.size W X9:=hbe.trans (hb9.mono hbe.size)
      have hR9:X9.heap[R]? = _:=(hk9.block R hRW).trans hR.out
      obtain⟨z0,z1,z2,z3⟩:=Zz hR9
      obtain⟨f0,f1,f2,f3⟩:=Yj hR9
      go_wp2
      refine Yp (c:=ec) (k:=(n)) (b:=p.blk) (i:=p.pos) ?_ (by rfl) hfx.out (Zs (hwX.out X9 hk9) hRw.out)
      obtain⟨y0,y1,y2,y3⟩:=Zq (u0 := .int .i64 (ec)) (u1 := .int .i64 (n)) (u2 := .int .i64 (p.blk)) (u3 := .int .i64 (p.pos)) hR9
      simp [results,Tryz.results47,go_sem,y0,y1,y2,y3]
    ·have e0 : (fl != 0) = true := by simpa using hf0
     have hfx:Hid ((14:Int)=0↔PP):=hide ⟨fun h=>by omega,fun h=>absurd h (hno.out fun h9=>hf0 (by rw [←hfl.out];exact h9.2.1))⟩
     replace hf0:=hide hf0
     obtain⟨X2,hX2⟩:∃X2,X2=X1.drew:=⟨_,rfl⟩
     rw [←hX2] at hbd1 hbel2⊢
     replace hX2:=hide hX2
     go_upto_region 9 with(fail)
     have hbe:=hbel2.drew
     go_still_tail 11,(by kernel_rfl)
     change wpList _ _ _ _ _ X2.drew
     go_wp2_with (fail)
     refine(Zc _ _ _ _ _).mono ?_
     rintro e X9 ⟨rfl,hb9⟩
     have hk9:Below W.heap.size W X9:=hbe.trans (hb9.mono hbe.size)
     have hR9:X9.heap[R]? = _:=(hk9.block R hRW).trans hR.out
     obtain⟨z0,z1,z2,z3⟩:=Zz hR9
     obtain⟨f0,f1,f2,f3⟩:=Yj hR9
     go_wp2
     refine Yp (c:=14) (k:=(n)) (b:=p.blk) (i:=p.pos) ?_ (by rfl) hfx.out (Zs (hwX.out X9 hk9) hRw.out)
     obtain⟨y0,y1,y2,y3⟩:=Zq (u0 := .int .i64 (14)) (u1 := .int .i64 (n)) (u2 := .int .i64 (p.blk)) (u3 := .int .i64 (p.pos)) hR9
     simp [results,Tryz.results47,go_sem,y0,y1,y2,y3]

  ·have hfx : Hid PP := hide (by rw [hPP.out]; exact fun j x p hx hp => hok.out j x p (by have := (Js.1 hx).1; have := hnl.out; omega) hx hp)
   have hR9:V.heap[R]? = _:=(hbel.block R hRW).trans hR.out
   obtain⟨z0,z1,z2,z3⟩:=Zz hR9
   obtain⟨f0,f1,f2,f3⟩:=Yj hR9
   go_wp2
   refine Yp (c:=0) (k:=(0)) (b:=0) (i:=0) ?_ (by rfl) ⟨fun _=>hfx.out,fun _=>rfl⟩ (Zs (hwX.out V hbel) hRw.out)
   obtain⟨y0,y1,y2,y3⟩:=Zq (u0 := .int .i64 (0)) (u1 := .int .i64 (0)) (u2 := .int .i64 (0)) (u3 := .int .i64 (0)) hR9
   simp [results,Tryz.results47,go_sem,y0,y1,y2,y3]
theorem rowP_at {i n j:Nat} (h:j<n):(rowP i n)[j]? = some ⟨0,i,j⟩:=by simp [rowP,h]
theorem rowP_len {i n:Nat}:(rowP i n).length=n:=by simp [rowP]
section
variable {bs:List (List Ins)} {k b j:Nat} {blk:List Ins} {x:Ins}
theorem before_succ (hx:bs[k]? = some blk):Y9 bs (k+1) 0=Y9 bs k 0++blk:=by
 unfold Y9
 rw [Zl hx]
 simp
theorem beforeP_succ (hx:bs[k]? = some blk):Yl bs (k+1) 0=Yl bs k 0++rowP k blk.length:=by
 unfold Yl
 rw [List.range_succ,List.flatMap_append]
 simp [rowP,Jq,hx]
theorem lens_eq : ∀ {k : Nat}, k ≤ bs.length → (Yl bs k 0).length = (Y9 bs k 0).length
 | 0,_=>rfl
 | k+1,h=>by
  have hx:=Jg (show k<bs.length by omega)
  rw [before_succ hx,beforeP_succ hx,List.length_append,List.length_append,lens_eq (by omega),rowP_len]
theorem place8_of : ∀ {k : Nat}, k ≤ bs.length → ∀ {i : Nat} {p : Plc}, (Y9 bs k 0)[i]? = some x → (Yl bs k 0)[i]? = some p → ∃ (b j : Nat) (blk : List Ins), p = ⟨0, b, j⟩ ∧ b < k ∧ bs[b]? = some blk ∧ blk[j]? = some x
 | 0,_,i,p,h,_=>by simp [Y9] at h
 | k+1,hk,i,p,h,hp=>by
  have hx:=Jg (show k<bs.length by omega)
  have hl:=lens_eq (bs:=bs) (show k≤bs.length by omega)
  rw [before_succ hx] at h
  rw [beforeP_succ hx] at hp
  rcases Nat.lt_or_ge i (Y9 bs k 0).length with h1|h1
  ·rw [List.getElem?_append_left h1] at h
   rw [List.getElem?_append_left (by omega)] at hp
   obtain⟨b,j,blk,h2,h3,h4⟩:=place8_of (by omega) h hp
   exact⟨b,j,blk,h2,by omega,h4⟩
  ·rw [List.getElem?_append_right h1] at h
   rw [List.getElem?_append_right (by omega),hl] at hp
   have h2:=(Js.1 h).1
   rw [rowP_at h2] at hp
   exact⟨k,_,_,(Option.some.inj hp).symm,Nat.lt_succ_self k,hx,h⟩
theorem place8_at (hb : bs[b]? = some blk) (hj : blk[j]? = some x) : ∀ {k : Nat}, b < k → k ≤ bs.length → (Y9 bs k 0)[(Y9 bs b 0).length + j]? = some x ∧ (Yl bs k 0)[(Y9 bs b 0).length + j]? = some ⟨0, b, j⟩
 | 0,h,_=>by omega
 | k+1,h,hk=>by
  have hx:=Jg (show k<bs.length by omega)
  have hl:=lens_eq (bs:=bs) (show k≤bs.length by omega)
  have hjl:=(Js.1 hj).1
  rw [before_succ hx,beforeP_succ hx]
  by_cases e:b=k
  ·subst e
   rw [hb] at hx
   have e2:=Option.some.inj hx
   rw [←e2]
   rw [List.getElem?_append_right (by omega),List.getElem?_append_right (by omega),hl,Nat.add_sub_cancel_left,rowP_at hjl]
   exact⟨hj,rfl⟩
  ·obtain ⟨h1, h2⟩ := place8_at hb hj (k := k) (by omega) (by omega)
   have h3:=(Js.1 h1).1
   rw [List.getElem?_append_left h3,List.getElem?_append_left (by omega)]
   exact⟨h1,h2⟩
end
theorem allAt_iff {f:Fun} {P:Ins→Plc→Prop}:AllAt f P↔∀(b j:Nat) blk x,f.blocks[b]? = some blk→blk[j]? = some x→P x ⟨0,b,j⟩:=by
 have e:=Z3 f.blocks
 constructor
 ·intro h b j blk x hb hj
  obtain⟨h1,h2⟩:=place8_at hb hj (Js.1 hb).1 (Nat.le_refl _)
  rw [e] at h1
  exact h _ x _ h1 h2
 ·intro h i x p hx hp
  rw [←e] at hx
  obtain⟨b,j,blk,rfl, -,h3,h4⟩:=place8_of (Nat.le_refl _) hx hp
  exact h b j blk x h3 h4
theorem mem_before {bs:List (List Ins)} {b j b' j':Nat} {blk':List Ins} {x:Ins} (hb:bs[b']? = some blk') (hj:blk'[j']? = some x) (h:b'<b∨b'=b∧j'<j):x∈Y9 bs b j:=by
 unfold Y9
 rcases h with h|⟨rfl,h⟩
 ·refine List.mem_append_left _ (List.mem_flatten.2 ⟨blk', ?_, Jm hj⟩)
  refine Jm (i:=b') ?_
  rw [List.getElem?_take_of_lt h];exact hb
 ·refine List.mem_append_right _ ?_
  rw [Jq,hb]
  refine Jm (i:=j') ?_
  show(blk'.take j)[j']? = some x
  rw [List.getElem?_take_of_lt h];exact hj
theorem isDef_one {bs:List (List Ins)} {r:Int} {i j i' j':Nat} (h:IsDef bs r i j) (h':IsDef bs r i' j'):i=i'∧j=j':=by
 obtain⟨x,ins,h1,h2,h3,h4⟩:=h
 obtain⟨x',ins',h1',h2',h3',h4'⟩:=h'
 have k1:¬(i<i'∨i=i'∧j<j'):=fun h9=>by
  have:=h4' ins (mem_before h1 h2 h9)
  rw [h3] at this;cases this
 have k2:¬(i'<i∨i'=i∧j'<j):=fun h9=>by
  have:=h4 ins' (mem_before h1' h2' h9)
  rw [h3'] at this;cases this
 omega
theorem parts_flat (f:Fun):Ybx f.blocks.flatten≤Ybo f:=by
 have key:∀bs:List (List Ins),Ybx bs.flatten≤(bs.map blkSz).sum:=fun bs=>by
  induction bs with
  | nil=>simp [Ybx]
  | cons x bs ih =>
   have h2:=partsL_le_blk x
   rw [List.flatten_cons,partsL_append,List.map_cons,List.sum_cons]
   omega
 have:=key f.blocks
 unfold Ybo blksSz
 omega
def RegOk (f:Fun) (x:Ins) (p:Plc):Prop:=Yap x.op x.ty=0∨(f.params.length:Int)≤x.reg∧x.reg≤4095∧∃b j:Nat,p=⟨0,b,j⟩∧IsDef f.blocks x.reg b j
def RegsOk (f:Fun):Prop:=AllAt f (RegOk f)
end Go.Proofs.YtamjcafjdioidaaGreat
