/- Texts of the chain, without what is not wanted: TdM, TdD. No condition but sizes. -/
import Derived.Deep.RegionLawGrows
import Derived.Test.YtamjcafjdioidaaGreatUw13
set_option linter.unusedVariables false
set_option linter.unusedSimpArgs false
set_option maxRecDepth 100000
set_option maxHeartbeats 12800000
namespace Go.Proofs.YtamjcafjdioidaaGreat
open Go.RowKit
theorem J_mem {bs:List (List Ins)} {a b:Nat} {l:List Ins} {x:Ins} (h:l∈Zb bs a b) (hx:x∈l):∃l0,l0∈bs∧x∈l0:=by
 have key:∀k,x∈bs.getD k []→∃l0,l0∈bs∧x∈l0:=fun k hk=>by
  rcases Nat.lt_or_ge k bs.length with h1|h1
  ·exact⟨_,Jm (Zt h1),hk⟩
  ·rw [Jq, List.getElem?_eq_none h1] at hk
   cases hk
 unfold Zb at h
 rcases List.mem_or_eq_of_mem_set h with h1|h1
 ·rcases List.mem_or_eq_of_mem_set h1 with h2 | h2
  ·exact⟨l,h2,hx⟩
  ·subst h2
   rcases List.mem_append.1 hx with h3|h3
   ·exact key a ((List.dropLast_sublist _).subset h3)
   ·exact key b h3
 ·subst h1;cases hx
theorem J_ne {bs:List (List Ins)} {a b K:Nat} {l:List Ins} (hne:∀l,l∈bs→l≠ []) (hb:b<bs.length) (h:(Zb bs a b)[K]? = some l) (hK:K≠b):l≠ []:=by
 unfold Zb at h
 rw [Je (Ne.symm hK)] at h
 by_cases e:K=a
 ·subst e
  have h1:=(Js.1 h).1
  rw [List.length_set] at h1
  rw [Jf h1] at h
  cases h
  intro e
  have:=hne _ (Jm (Zt (z := []) hb))
  exact this (List.append_eq_nil_iff.1 e).2
 ·rw [Je (Ne.symm e)] at h
  exact hne l (Jm h)
theorem J_at {bs:List (List Ins)} {a b:Nat} (hb:b<bs.length):(Zb bs a b)[b]? = some []:=by
 unfold Zb
 rw [Jf (by rw [List.length_set];exact hb)]
theorem J_len (bs:List (List Ins)) (a b:Nat):(Zb bs a b).length=bs.length:=by simp [Zb]
theorem movI_to {p q:Int} {x:Ins} {t:Int} (h:t∈(movI p q x).to):t∈x.to∨t=q:=by
 unfold movI at h
 split at h
 ·rcases (List.mem_insertIdx (bsI_le _ _)).1 h with h1 | h1
  ·exact .inr h1
  ·exact .inl (List.mem_of_mem_eraseIdx h1)
 ·exact .inl h
theorem movP_to {p q:Int} {x:Ins} {t:Int} (h:t∈(movP p q x).to):t∈x.to∨t=q:=by
 unfold movP at h
 split at h
 ·exact movI_to h
 ·exact .inl h
theorem mgAt_to {bs:List (List Ins)} {a b n:Nat} (hto:∀l,l∈bs→∀x,x∈l→∀t,t∈x.to→0≤t∧t<n) (ha:a<n):∀l,l∈mgAt bs a b→∀x,x∈l→∀t,t∈x.to→0≤t∧t<n:=by
 intro l hl x hx t ht
 unfold mgAt at hl
 obtain⟨l0,hl0,rfl⟩:=List.mem_map.1 hl
 obtain⟨x0,hx0,rfl⟩:=List.mem_map.1 hx
 obtain⟨l1,h1,h2⟩:=J_mem hl0 hx0
 rcases movP_to ht with h3|h3
 ·exact hto l1 h1 x0 h2 t h3
 ·omega
theorem mg_found {P:List (List Int)} {bs:List (List Ins)} {a:Nat} (ha:a<bs.length) (h1:mgB P bs a=true) (hno:∀j,j<a→mgB P bs j=false):Q5 P bs=some (Yn ((List.replicate bs.length false).set (mgTo bs a) true) (mgAt bs a (mgTo bs a))):=by
 unfold Q5
 rw [Qk ha h1 hno]
 rfl
theorem mg_none {P:List (List Int)} {bs:List (List Ins)} (hno:∀j,j<bs.length→mgB P bs j=false):Q5 P bs=none:=by
 unfold Q5
 rw [Zd hno]
 rfl
theorem row_cell0 {w:World} {g m C s:Nat} {T:TypeId} {n:Nat} {ys:List Value} (h:w.ownsRow 0 T s (.slice (some ⟨g,0,none⟩) m C) n ys) {j:Nat} {u:Value} (hu:ys[j]? = some u):w.cell? ((⟨g,0,none⟩:Addr).add j)=some u:=by
 have hn:m=n:=by
  rcases h.2 with⟨e, -⟩|⟨g',cap,cur,e, -⟩
  ·cases e
  ·cases e;rfl
 subst hn
 have ha:(⟨g,0,none⟩:Addr).add j=⟨g,j,none⟩:=by unfold Addr.add;split<;>simp_all
 have hj:=(Js.1 hu).1
 rw [ha,World.ownsRow.cellAt h j (by have:=h.1;omega)]
 exact hu
theorem front_cell {w:World} {g m C:Nat} {l:List Ins} {es:List (Value×Value)} (h:Z9 w 0 (.slice (some ⟨g,0,none⟩) m C) l es) {q:Nat} (hq:l.length - 1=q) (hl:l≠ []) {j:Nat} {u:Value} (hu:(cellsOf l.dropLast es.dropLast)[j]? = some u):w.cell? ((⟨g,0,none⟩:Addr).add j)=some u:=by
 refine row_cell0 h.row ?_
 rw [←cellsOf_front h.len hl] at hu
 have hj:=(Js.1 hu).1
 rw [List.length_take] at hj
 rw [←hu,List.getElem?_take_of_lt (by omega)]
theorem tmerged_any {w : World} {T : Nat → Prop} {N : Nat} {f : Fun} {c d : Value} {Cp : Nat → Prop} (hCp : ∀ k, c.ownBlock = some k → Cp k) (h : MF w T N f c d) (hs : Zo f) (hwf : Wf f.blocks) (hfr : ∀ l, l ∈ f.blocks → Ycm l) :
  Calls Tryz.prog 28 #[.pointer (some ⟨N,0,none⟩)] w (Y7 w T N f Cp (Q5 (Zw (Yo f.blocks) f.blocks.length) f.blocks)):=by
 replace hCp:=hide hCp
 obtain⟨P,hP⟩:=Jn (Zw (Yo f.blocks) f.blocks.length)
 obtain⟨n,hn⟩:=Jn (f.blocks.length)
 have hnb:n≤2000000:=by rw [hn.out];exact hs.blocks
 have hPl:Hid (P.length=n):=hide (by rw [hP.out,hn.out,predsL_len])
 obtain⟨res,hres⟩:=Jn (Q5 P f.blocks)
 rw [←hP.out,←hres.out]
 have hcut:=h.cut
 obtain⟨T0,hT0⟩:∃T0:Nat→Prop,T0=fun k=>T k∧k<w.heap.size:=⟨_,rfl⟩
 rw [←hT0] at hcut
 have hT0T:Hid (∀k,T0 k→T k∧k<w.heap.size):=hide (fun k hk=>by rw [hT0] at hk;exact hk)
 clear hT0
 obtain⟨xs,ess,hk,hT⟩:=hcut.tree
 obtain⟨Ad,Cd,hdf⟩:=Yd hk.row
 subst hdf
 obtain⟨Ac,Cc,hcf⟩:=Yd h.par.row
 subst hcf
 have hNlt:=h.lt
 have hbox:=h.box
 have b0:=Yg (Yb hbox 0 rfl) hNlt
 have b1:=Yg (Yb hbox 1 rfl) hNlt
 have b2:=Yg (Yb hbox 2 rfl) hNlt
 have b3:=Yg (Yb hbox 3 rfl) hNlt
 have hself:=Below.refl w.heap.size w
 obtain⟨np,hnp⟩:=Jn (f.params.length)
 have cP:Hid (Calls Tryz.prog 61 #[f.v (.slice Ac np Cc) (.slice Ad n Cd)] w (PredPost n P w)):=hide (by
  have:=preds_any f _ _ w w.heap.size (Nat.le_refl _) h.rep hs
  rw [←hP.out,←hn.out,←hnp.out] at this
  exact this)
 rw [←hnp.out] at b1
 rw [←hn.out] at b3
 rw [←hnp.out,←hn.out] at hcut
 obtain⟨i0,hi0,hz0,hz1,hz2⟩:=Yh Ybh
 refine hd4 hi0 hz0 hz1 hz2 ?_;clear hi0 hz0 hz1 hz2;intro hi0 hz0 hz1 hz2
 obtain⟨p0,hp0,hp1,hp2,hp3⟩:=Yh Ya5
 refine hd12 hp0 hp1 hp2 hp3 h hcut hk hT hbox hwf hs hfr ?_;clear hp0 hp1 hp2 hp3 h hcut hk hT hbox hwf hs hfr;intro hp0 hp1 hp2 hp3 h hcut hk hT hbox hwf hs hfr
 go_enter Tryz.func28,Tryz.ntmps28
 go_wp2_with (fail)
 refine cP.out.mono ?_
 rintro e w1 ⟨gp,cs,rfl,hPL,hb1⟩
 have hw1s:=hb1.size
 have hprd:Hid (∀b L,P[b]? = some L→∃A C,∀w',Below w1.heap.size w1 w'→w'.cell? ⟨gp,b,none⟩=some (.slice A L.length C)):=hide (fun b L hL=>by
  have hbl:=(Js.1 hL).1
  obtain⟨ci,hci⟩:∃ci,cs[b]? = some ci:=⟨_,Jg (by rw [hPL.len];exact hbl)⟩
  have h1:=hPL.inn b ci L hci hL
  obtain⟨A,C,e1⟩:=Yd h1.row
  subst e1
  refine⟨A,C,Yg ?_ (Ya hPL.row rfl).2.1⟩
  have h2:=hPL.row
  rw [hPl.out] at h2
  rw [World.ownsRow.cellAt h2 b (by rw [←hPl.out];omega),hci])
 have hself1:=Below.refl w1.heap.size w1
 have h1w:Hid (∀w',Below w1.heap.size w1 w'→Below w.heap.size w w'):=hide (fun w' hb=>hb1.trans (hb.mono hw1s))
 have hno0:Hid (∀j,j<0→mgB P f.blocks j=false):=hide (fun j hj=>by omega)
 have c31:=b3 w1 hb1
 refine hd2 hPL hb1 ?_;clear hPL hb1;intro hPL hb1
 clear cP hself
 go_wp2
 go_loopw [21] (fun s wr=>∃i:Nat,s = .int .i64 i∧i≤n∧Hid (∀j,j<i→mgB P f.blocks j=false)∧Below w1.heap.size w1 wr) (fun s _=>n - (intOf s).toNat)
 case atStart=>exact⟨0,rfl,Nat.zero_le _,hno0,hself1⟩
 case round =>
  clear hno0 hself1 c31
  rename World=>V
  obtain⟨a,rfl,hi,hno,hbV⟩:=hrel
  have hbw:=h1w.out V hbV
  have hVs:=hbV.size
  by_cases hlt:a<n
  ·have hii : (a : Int) < (n : Int) := by omega
   obtain⟨l,hl⟩:=Yf (l:=f.blocks) (k:=a) (by rw [←hn.out];exact hlt)
   have hwl:=hwf.out l (Jm hl.out)
   obtain⟨x,es,hx,he,hcd⟩:=hk.out.row_at hl.out
   have hlpos:0<l.length:=List.length_pos_iff.2 hwl.ne
   obtain⟨gd,CD9,hgdf, -,hgd⟩:=hk.out.row.form (by rw [←hn.out];omega)
   rw [←hn.out] at hgdf
   cases hgdf
   obtain⟨gc,Cx,hxf, -,hgcl⟩:=hcd.row.form hlpos
   subst hxf
   obtain⟨q,hq⟩:∃q,Hid (l.length=q+1):=⟨l.length - 1,hide (by omega)⟩
   obtain⟨m,hm⟩:=Jn (l.length)
   rw [←hm.out] at hx
   obtain⟨ins,hins⟩:=Yf (l:=l) (k:=q) (by rw [hq.out];omega)
   obtain⟨ca,ct,hei,hva,hvt,hok⟩:=hcd.ins_at hins.out
   have hmem:=Jm hins.out
   have hend:=endI_at hl.out hq.out hins.out
   have hmb:m≤9223372036854775807:=by rw [hm.out];exact Yae hcd.row
   have cE:Hid (Calls Tryz.prog 55 #[.pointer (some ⟨N,0,none⟩), .int .i64 a] V fun e w'=>e = .returned (.pointer (some ⟨gc,q*7,none⟩))∧w'=V):=hide (by
    have hk1:=hk.out.kept (w':=V) fun k _ hk=>hbw.block k hk
    rw [←hn.out] at hk1
    exact tend_any (b3 V hbw) hn.out hk1 hx (by rw [hm.out,hq.out]) hmb)
   have hcdV:Hid (Z9 V 0 (.slice (some ⟨gc,0,none⟩) m Cx) l es):=hide (by
    have:=hcd.kept (w':=V) fun k _ hk=>hbw.block k hk
    rwa [←hm.out] at this)
   refine hd7 hx he hei hend hmem hwl hok ?_;clear hx he hei hend hmem hwl hok;intro hx he hei hend hmem hwl hok
   go_wp2_with (fail)
   refine cE.out.mono ?_
   rintro e w2 ⟨rfl,hw2⟩
   rw [hw2]
   clear hw2
   obtain⟨e0,e1,e2,e3,e4,e5,e6⟩:=cell7 hcdV.out hins.out hei.out
   clear e1 e2 e3 e4 e5
   have hstep:Hid (mgB P f.blocks a=false→∀j,j<a+1→mgB P f.blocks j=false):=hide (fun h9 j hj=>by
    rcases Nat.lt_succ_iff_lt_or_eq.1 hj with h1|h1
    ·exact hno.out j h1
    ·rw [h1];exact h9)
   by_cases h31:ins.op=31
   case neg =>
    have hnx:=hide (hstep.out (by unfold mgB;rw [hend.out];simp [h31]))
    have g1:(ins.op != 31)=true:=by rw [bne_iff_ne];exact h31
    replace h31:=hide h31
    go_wp2
    go_roundw
    case rel=>exact⟨a+1,by go_num,hlt,hnx,hbV⟩
    case measure=>simp [intOf];omega
   have g1:(ins.op != 31)=false:=by rw [h31];rfl
   have hto1:=hwl.out.br ins hmem.out h31
   obtain⟨tb,hto⟩:∃tb,ins.to = [tb]:=by
    match h9:ins.to,hto1 with
    | [t],_=>exact⟨t,rfl⟩
   have htr:=hwl.out.to_ ins hmem.out tb (by rw [hto];simp)
   obtain⟨b,hb⟩:∃b:Nat,tb=(b:Int):=⟨tb.toNat,by omega⟩
   subst hb
   have hbn:b<n:=by have:=hn.out;omega
   have hbi:(b:Int)<(n:Int):=by omega
   obtain⟨At,Ct,hctf⟩:=Yd hvt.row
   subst hctf
   obtain⟨gt,CT9,htf, -,hgtl⟩:=hvt.row.form (by rw [hto];simp)
   rw [hto] at htf
   cases htf
   have hvr:=hvt.row
   have hgtl':gt<w.heap.size:=hgtl
   have a0:=World.ownsRow.cellAt (n:=1) (by rw [hto] at hvr;exact hvr) 0 (by omega)
   simp only [hto,List.map_cons,List.map_nil,List.getElem?_cons_zero,List.getElem?_cons_succ,List.length_cons,List.length_nil] at a0 e6
   have a0':=Yg (w:=w) (N:=gt) (j:=0) a0 hgtl' V hbw
   clear a0 hvr
   have hmt:Hid (mgTo f.blocks a=b):=hide (by unfold mgTo;rw [hend.out];simp [hto])
   have hmB:Hid (mgB P f.blocks a=(!(decide (b=a))&&decide ((P.getD b []).length=1) && !(decide ((((f.blocks.getD b [])[0]?).map Ins.op).getD 0=25)))):=hide (by
    unfold mgB
    rw [hend.out,hmt.out]
    simp [h31])
   refine hd4 h31 hto hto1 htr ?_;clear h31 hto hto1 htr;intro h31 hto hto1 htr
   by_cases hba:b=a
   case pos =>
    have hnx:=hide (hstep.out (by rw [hmB.out];simp [hba]))
    have g2:((b:Int)==(a:Int))=true:=by rw [beq_iff_eq,hba]
    replace hba:=hide hba
    go_wp2
    go_roundw
    case rel=>exact⟨a+1,by go_num,hlt,hnx,hbV⟩
    case measure=>simp [intOf];omega
   have g2:((b:Int)==(a:Int))=false:=by rw [beq_eq_false_iff_ne];omega
   obtain⟨L,hL⟩:=Yf (l:=P) (k:=b) (by rw [hPl.out];exact hbn)
   obtain⟨AL,CL,hprb⟩:=hprd.out b L hL.out
   have r3:=hprb V hbV
   obtain⟨nL,hnL⟩:=Jn (L.length)
   rw [←hnL.out] at r3
   clear hprb
   obtain⟨lb,hlb⟩:=Yf (l:=f.blocks) (k:=b) (by rw [←hn.out];exact hbn)
   have hPb:Hid (P.getD b []=L):=hide (by rw [Jq,hL.out];rfl)
   have hlbg:Hid (f.blocks.getD b []=lb):=hide (by rw [Jq,hlb.out];rfl)
   obtain⟨xb,eb,hxb,heb,hcdb⟩:=hk.out.row_at hlb.out
   have hlbne:=(hwf.out lb (Jm hlb.out)).ne
   have hlbpos:0<lb.length:=List.length_pos_iff.2 hlbne
   obtain⟨gb,Cb,hxbf, -,hgbl⟩:=hcdb.row.form hlbpos
   subst hxbf
   obtain⟨mb,hmbd⟩:=Jn (lb.length)
   rw [←hmbd.out] at hxb
   obtain⟨y,hy⟩:=Yf (l:=lb) (k:=0) hlbpos
   obtain⟨ca9,ct9,hei9, -, -, -⟩:=hcdb.ins_at hy.out
   have hkV:Hid (Yq V 0 (.slice (some ⟨gd,0,none⟩) n Cd) f.blocks xs ess):=hide (by
    have hk1:=hk.out.kept (w':=V) fun k _ hk=>hbw.block k hk
    rwa [←hn.out] at hk1)
   have cb:=hkV.out.blk_cell hxb
   have hcdbV:Hid (Z9 V 0 (.slice (some ⟨gb,0,none⟩) mb Cb) lb eb):=hide (by
    have:=hcdb.kept (w':=V) fun k _ hk=>hbw.block k hk
    rwa [←hmbd.out] at this)
   have y0:=hcdbV.out.cell_at hy.out hei9 (j:=0) rfl
   simp only [Nat.zero_mul,Nat.zero_add] at y0
   have hmb0:0<mb:=by rw [hmbd.out];exact hlbpos
   have hmb0i:(0:Int)<(mb:Int):=by omega
   have hb3:=b3 V hbw
   refine hd4 hxb heb hei9 hlbne ?_;clear hxb heb hei9 hlbne;intro hxb heb hei9 hlbne
   by_cases hL1:nL=1
   case neg =>
    have hnx:=hide (hstep.out (by rw [hmB.out,hPb.out,←hnL.out];simp [hL1]))
    have g3:((nL:Int) != 1)=true:=by rw [bne_iff_ne];omega
    replace hL1:=hide hL1
    go_wp2
    go_roundw
    case rel=>exact⟨a+1,by go_num,hlt,hnx,hbV⟩
    case measure=>simp [intOf];omega
   have g3:((nL:Int) != 1)=false:=by rw [bne_eq_false_iff_eq];omega
   by_cases h25:y.op=25
   case pos =>
    have hnx:=hide (hstep.out (by rw [hmB.out,hlbg.out,hy.out];simp [h25]))
    have g4:(y.op==25)=true:=by rw [h25];rfl
    refine hd2 hL1 h25 ?_;clear hL1 h25;intro hL1 h25
    go_wp2
    go_roundw
    case rel=>exact⟨a+1,by go_num,hlt,hnx,hbV⟩
    case measure=>simp [intOf];omega
   have g4:(y.op==25)=false:=by rw [beq_eq_false_iff_ne];exact h25
   have hfound:Hid (res=some (Yn ((List.replicate n false).set b true) (mgAt f.blocks a b))):=hide (by
    rw [hres.out,mg_found (by rw [←hn.out];exact hlt) (by rw [hmB.out,hPb.out,hlbg.out,hy.out,←hnL.out];simp [hL1,h25,hba]) hno.out,hmt.out,←hn.out])
   have hnone:Hid (∀(i:Nat) z,lb[i]? = some z→z.op≠25):=hide (fun i z hz=>fronts_none (hfr.out lb (Jm hlb.out)) (by rw [hy.out];exact h25) z (Jm hz))
   refine hd2 hL1 h25 ?_;clear hL1 h25;intro hL1 h25
   have ca0:=hkV.out.blk_cell hx.out
   have hqm:(m:Int) - 1=(q:Int):=by have:=hm.out;have:=hq.out;omega
   have hqC:q≤Cx:=by
    rcases hcdV.out.row.2 with⟨e9, -⟩|⟨g',cap,cur,e9, -, -,h9, -⟩
    ·cases e9
    ·cases e9;have:=hm.out;have:=hq.out;omega
   have hqw:IntKind.i64.wrap (q:Int)=(q:Int):=by rw [IntKind.wrap_i64];have:=hm.out;have:=hq.out;omega
   have hqq:q≤q:=Nat.le_refl _
   have hlsm:=(hs.out.code l (Jm hl.out)).1
   have hlbsm:=(hs.out.code lb (Jm hlb.out)).1
   have hmbsm:mb≤2000000:=by rw [hmbd.out];exact hlbsm
   have hMV:Hid (MF V T0 N f (.slice Ac np Cc) (.slice (some ⟨gd,0,none⟩) n Cd)):=hide (hcut.out.below hbw)
   have hgdV:gd<V.heap.size:=by have:=hbw.size;omega
   have hNV:N<V.heap.size:=by have:=hbw.size;omega
   have c3V:=Yg hb3 hNV
   have caV:=Yg ca0 hgdV
   have cbV:=Yg cb hgdV
   have faV:∀w',Below V.heap.size V w'→w'.frozen? ⟨gd,a,none⟩=false:=fun w' hb9=>(hb9.frozen (p:=⟨gd,a,none⟩) hgdV).trans (Zj hkV.out.row a)
   go_upto_region 10 with(fail)
   refine Y8 (S:=fun u=>Below V.heap.size V u) (T:=fun j=>decide (j<22)) (by kernel_rfl) ?_
   obtain⟨U0,hU0⟩:∃U0,Hid (V.drew=U0):=⟨_,hide rfl⟩
   have hS0:Hid (Below V.heap.size V U0):=hide (by rw [←hU0.out];exact(Below.refl _ _).drew)
   have hoU:Hid (Z9 U0 0 (.slice (some ⟨gc,0,none⟩) m Cx) l es):=hide (hcdV.out.kept fun k _ hk=>hS0.out.block k hk)
   have hobU:Hid (Z9 U0 0 (.slice (some ⟨gb,0,none⟩) mb Cb) lb eb):=hide (hcdbV.out.kept fun k _ hk=>hS0.out.block k hk)
   have hU0s:=hS0.out.size
   rw [hU0.out]
   refine Jt (i:=0) hS0.out ?_
   refine Jt (i:=1) hS0.out ?_
   refine Jt (i:=2) hS0.out ?_
   refine Jt (i:=3) hS0.out ?_
   refine Jt (i:=4) hS0.out ?_
   refine Jt (i:=5) hS0.out ?_
   refine Jt (i:=6) hS0.out ?_
   refine Jt (i:=7) hS0.out ?_
   refine Jt (i:=8) hS0.out ?_
   refine Jt (i:=9) hS0.out ?_
   refine Jt (i:=10) hS0.out ?_
   refine Jt (i:=11) hS0.out ?_
   refine Jt (i:=12) hS0.out ?_
   refine Jt (i:=13) hS0.out ?_
   refine Jt (i:=14) hS0.out ?_
   refine Jt (i:=15) hS0.out ?_
   refine Jt (i:=16) hS0.out ?_
   refine Jt (i:=17) hS0.out ?_
   refine Jt (i:=18) hS0.out ?_
   refine Jt (i:=19) hS0.out ?_
   refine Jt (i:=20) hS0.out ?_
   refine Jr (i:=21) fun K hK => ?_
   refine step_append_grows (by rfl) (.tmp 83) (.tmp 91) 39 (by rfl) 44 p0 (.agg #[.int .i64 0, .int .i64 0, .int .i64 0, .int .i64 0, .int .i64 0, .slice none 0 0, .slice none 0 0]) 7 88 Tryz.underlying39 hp0.out hp1.out hp2.out hp3.out (by rfl) (by omega) (some ⟨gc,0,none⟩) q q (cellsOf l.dropLast es.dropLast) (by rfl) (by intro e9;cases e9) (by rw [Qn (by simp [hoU.out.len]),List.length_dropLast,hq.out,Nat.add_sub_cancel]) (fun b9 hb9 j u hu => ?_) ⟨gb,0,none⟩ mb Cb (cellsOf lb eb) (by rfl) (by rw [Qn hobU.out.len,hmbd.out]) (fun j u hu => ?_) hobU.out.one_cells (by omega) (by unfold maxLen;have:=hm.out;have:=hq.out;have:=hmbd.out;omega) (by have:=hm.out;have:=hq.out;have:=hmbd.out;omega) (fun v9 U1 hv9 hg9 => ?_)
   ·cases hb9
    exact Go.Proofs.YtamjcafjdioidaaGreat.front_cell hoU.out (by rw [hq.out]) (List.ne_nil_of_length_pos hlpos) hu
   ·exact Go.Proofs.YtamjcafjdioidaaGreat.row_cell0 hobU.out.row hu
   have hbU1:=Zr hg9
   have hS1:Hid (Below V.heap.size V U1):=hide (hS0.out.trans (hbU1.mono hU0s))
   obtain⟨mv,hmv⟩:=Jn (q+mb)
   rw [←hmv.out] at hv9
   obtain⟨gv,Cv,hvf,hgv1,hgv2⟩:=hv9.form (by have:=hmv.out;omega)
   subst hvf
   refine hd3 hv9 hg9 hbU1 ?_;clear hv9 hg9 hbU1;intro hv9 hg9 hbU1
   have yc:=caV U1 hS1.out
   have yf:=faV U1 hS1.out
   refine Jo hK (fun _=>hS1.out) ?_;clear hK K
   refine Jy (i:=22) ?_
   refine Jy (i:=23) ?_
   refine Jr (i:=24) fun K hK => ?_
   go_simp
   refine Jo hK (fun h=>absurd h (by decide)) ?_;clear hK K
   refine Yv (by kernel_rfl) ?_ _
   have hgdw:gd<w.heap.size:=hgd
   have hgbw:gb<w.heap.size:=hgbl
   have hws:w.heap.size≤V.heap.size:=hbw.size
   have hgvV:V.heap.size≤gv:=by omega
   obtain⟨W0,hW0⟩:∃W0,Hid (U1.setCell ⟨gd,a,none⟩ (.slice (some ⟨gv,0,none⟩) mv Cv)=W0):=⟨_,hide rfl⟩
   have hW0s:Hid (W0.heap.size=U1.heap.size):=hide (by rw [←hW0.out];simp)
   have hgvW:gv<W0.heap.size:=by rw [hW0s.out];exact hgv2
   obtain⟨J,hJ⟩:=Jn (Zb f.blocks a b)
   have hJl:Hid (J.length=n):=hide (by rw [hJ.out,J_len,hn.out])
   obtain⟨T2,hT2⟩:∃T2:Nat→Prop,Hid (T2=fun k=>(T0 k∨k=gv)∧k≠gb):=⟨_,hide rfl⟩
   have hT2i:Hid (∀k,T2 k→(T0 k∨k=gv)∧k≠gb):=hide (fun k hk9=>by rw [hT2.out] at hk9;exact hk9)
   have hM0:Hid (MF (Vt gd b W0) T2 N (Ye f (mvB b a J 0)) (.slice Ac np Cc) (.slice (some ⟨gd,0,none⟩) n Cd)):=hide (by
    rw [mvB_zero,hJ.out,hT2.out,←hW0.out]
    refine hMV.out.joined (a:=a) (b:=b) (V1:=U1) hkV.out hT.out hl.out hlb.out he.out heb.out hxb.out (Ne.symm hba) (List.ne_nil_of_length_pos hlpos) hS1.out (Zf hv9.out hU0s) (fun k hk9 => ?_)
    have:=(hT0T.out k hk9).2
    omega)
   have nT2N:¬T2 N:=hM0.out.out
   have nT2gb:¬T2 gb:=fun h9=>(hT2i.out gb h9).2 rfl
   have hWV:Hid (∀k,k<V.heap.size→k≠gd→W0.heap[k]? = V.heap[k]?):=hide (fun k h1 h2=>by
    rw [←hW0.out,Below.heap_setCell U1 ⟨gd,a,none⟩ _ k h2]
    exact hS1.out.block k h1)
   have tyD:=(Ya hkV.out.row rfl).2.2
   have tyB:=(Ya hcdbV.out.row rfl).2.2
   have tyX:=(Ya hcdV.out.row rfl).2.2
   have ngdb:gd≠gb:=Z7 tyD tyB (by decide)
   have hTgd:T0 gd:=hT.out gd (.inl rfl)
   have hNgd:N≠gd:=fun e9=>by rw [e9] at nT2N;exact nT2N (by rw [hT2.out];exact⟨.inl hTgd,ngdb⟩)
   have hNW:N<W0.heap.size:=by have:=hW0s.out;have:=hS1.out.size;omega
   have hgdW:gd<W0.heap.size:=by have:=hW0s.out;have:=hS1.out.size;omega
   have hgbW:gb<W0.heap.size:=by have:=hW0s.out;have:=hS1.out.size;omega
   have c3W:∀w',Only (fun k=>T2 k∧k≠gd) W0.heap.size W0 w'→w'.cell? ⟨N,3,none⟩=some (.slice (some ⟨gd,0,none⟩) n Cd):=Yx (by
    rw [World.cell?_of_block (w:=V) (hWV.out N hNV hNgd)]
    exact hb3) hNW (fun h9=>nT2N h9.1)
   have cgd:Hid (∀K v,W0.cell? ⟨gd,K,none⟩=some v→∀w',Only (fun k=>T2 k∧k≠gd) W0.heap.size W0 w'→w'.cell? ⟨gd,K,none⟩=some v):=hide (fun K v h9=>Yx h9 hgdW (fun h8=>h8.2 rfl))
   have cbW:∀w',Only (fun k=>T2 k∧k≠gd) W0.heap.size W0 w'→w'.cell? ⟨gd,b,none⟩=some (.slice (some ⟨gb,0,none⟩) mb Cb):=cgd.out b _ (by
    rw [←hW0.out,World.cell?_setCell_other U1 ⟨gd,a,none⟩ ⟨gd,b,none⟩ _ (by intro e9;injection e9 with e8 e7;exact hba e7.symm)]
    exact cbV U1 hS1.out)
   have cbr:Hid (∀(i:Nat) z,lb[i]? = some z→∀w',Only (fun k=>T2 k∧k≠gd) W0.heap.size W0 w'→w'.cell? ⟨gb,i*7,none⟩=some (.int .i64 z.op)):=hide (fun i z hz=>Yx (by
    rw [World.cell?_of_block (w:=V) (hWV.out gb (by omega) (Ne.symm ngdb))]
    obtain⟨c8,t8,he8, -, -, -⟩:=hcdbV.out.ins_at hz
    exact hcdbV.out.cell_at hz he8 (j:=0) rfl) hgbW (fun h9=>nT2gb h9.1))
   have hfzgd:Hid (∀w',Only (fun k=>T2 k∧k≠gd) W0.heap.size W0 w'→w'.frozen? ⟨gd,b,none⟩=false):=hide (fun w' hw9=>by
    have h1:W0.frozen? ⟨gd,b,none⟩=false:=by
     have h2:W0.ownsRow 0 41 1 (.slice (some ⟨gd,0,none⟩) n Cd) n (xs.set a (.slice (some ⟨gv,0,none⟩) mv Cv)):=by
      rw [←hW0.out]
      have h3:=hkV.out.row
      rw [←hn.out] at h3
      exact(World.ownsRow.stored (Yc h3 fun k hk9=>hS1.out.block k (Ya h3 hk9).2.1) a _).1
     exact Zj h2 b
    exact on_free h1 hgdW (fun h8=>h8.2 rfl) w' hw9)
   have hon0:Only (fun k=>T2 k∧k≠gd) W0.heap.size W0 W0:=Only.refl _ _ _
   have hwW:Hid (Only (fun k=>k=N∨T k) w.heap.size w W0):=hide (by
    rw [←hW0.out]
    exact(Only.of_below (hbw.trans (hS1.out.mono hws))).setCell (p:=⟨gd,a,none⟩) (.inl (.inr (hT0T.out gd hTgd).1)) _)
   have hTlt:Hid (∀k,T2 k→k<W0.heap.size):=hide (fun k hk9=>by
    rcases (hT2i.out k hk9).1 with h1|h1
    ·have := (hT0T.out k h1).2
     have:=hW0s.out;have:=hS1.out.size;omega
    ·omega)
   have hphil:Hid (∀l9,l9∈J→∀z,z∈l9→z.op=25→z.args.length=z.to.length∧z.to.length≤2000000):=hide (fun l9 h1 z hz ho=>by
    rw [hJ.out] at h1
    obtain⟨l0,h2,h3⟩:=J_mem h1 hz
    exact⟨(hwf.out l0 h2).phi z h3 ho,((hs.out.code l0 h2).2 z h3).2⟩)
   have hJne:Hid (∀(K:Nat) l9,J[K]? = some l9→K≠b→l9≠ []):=hide (fun K l9 h1 h2=>by
    rw [hJ.out] at h1
    exact J_ne (fun l0 h3=>(hwf.out l0 h3).ne) (by rw [←hn.out];exact hbn) h1 h2)
   have hJb:Hid (J[b]? = some []):=hide (by rw [hJ.out];exact J_at (by rw [←hn.out];exact hbn))
   have ha64:Hid (I64 (a:Int)):=hide (Ybz (by omega) (by omega))
   rw [hW0.out]
   clear c3V caV cbV faV yc yf a0' y0 cb hb3 g1 g2 g3 g4 e0 e6 ca0 r3 b0 b1 b2 hgvV hprd hbV hVs tyD tyB tyX
   have c3W0:=c3W W0 hon0
   go_wp2
   go_loopw [100] (fun s wr=>∃K:Nat,s = .int .i64 K∧K≤n∧Hid (MF (Vt gd b wr) T2 N (Ye f (mvB b a J K)) (.slice Ac np Cc) (.slice (some ⟨gd,0,none⟩) n Cd))∧Only (fun k=>T2 k∧k≠gd) W0.heap.size W0 wr) (fun s _=>n - (intOf s).toNat)
   case atStart=>exact⟨0,rfl,Nat.zero_le _,hM0,hon0⟩
   case round =>
    clear hM0 hon0 c3W0
    rename World=>V2
    obtain⟨K,rfl,hK,hMK,hon⟩:=hrel
    have hV2s:=hon.size
    by_cases hltK:K<n
    ·have hKi : (K : Int) < (n : Int) := by omega
     have c3K:=c3W V2 hon
     by_cases hKb:K=b
     ·have cK := cbW V2 hon
      have cbrK:=cbr.out
      rw [←hKb] at cK
      obtain⟨X,hX,hwX,hXs,hxx⟩:=Y6 V2 #[.slice (some ⟨gb,0,none⟩) mb Cb] 41
      have honX:=hon.next (Nat.le_refl _) (Only.of_below hwX)
      have x0:=hxx 0 _ rfl X (Below.refl _ _)
      have hMX:Hid (MF (Vt gd b X) T2 N (Ye f (mvB b a J (K+1))) (.slice Ac np Cc) (.slice (some ⟨gd,0,none⟩) n Cd)):=hide (by
       have h1:=hMK.out.real hwX
       rwa [mvB_nil (by rw [hKb];exact hJb.out)] at h1)
      have hKb9:=hide hKb
      refine hd3 hX hXs hwX ?_;clear hX hXs hwX;intro hX hXs hwX
      clear hKb hxx
      go_upto_region 14 with(fail)
      rw [hX.out]
      obtain⟨NB,hNB⟩:=Jn (V2.heap.size)
      rw [←hNB.out] at x0⊢
      go_wp2
      go_loopw [107] (fun s wr=>∃i:Nat,s = .int .i64 i∧i≤mb∧Hid (wr=X)) (fun s _=>mb - (intOf s).toNat)
      case atStart=>exact⟨0,rfl,Nat.zero_le _,hide rfl⟩
      case round =>
       obtain⟨i,rfl,hi9,hwr⟩:=hrel
       have hwr9:=hwr.out
       clear hwr
       subst hwr9
       by_cases hlt9:i<mb
       ·have hii9 : (i : Int) < (mb : Int) := by omega
        obtain⟨z,hz⟩:=Yf (l:=lb) (k:=i) (by rw [←hmbd.out];exact hlt9)
        have z0:=cbrK i z hz.out _ honX
        have g9:(z.op==25)=false:=by rw [beq_eq_false_iff_ne];exact hnone.out i z hz.out
        go_wp2
        go_roundw
        case rel=>exact⟨i+1,by go_num,hlt9,hide trivial⟩
        case measure=>simp [intOf];omega
       ·obtain rfl : mb = i := by omega
        go_wp2
        go_roundw
        case rel=>exact⟨K+1,by go_num,hltK,hMX,honX⟩
        case measure=>simp [intOf];omega
     ·obtain ⟨lK, hlK⟩ := Yf (l := J) (k := K) (by rw [hJl.out]; exact hltK)
      obtain⟨mK,hmK⟩:=Jn (lK.length)
      have hlKne:=hJne.out K lK hlK.out hKb
      obtain⟨xs2,ess2,hk2,hT2'⟩:=hMK.out.tree
      obtain⟨x2,es2,hx2,he2,hcd2⟩:=hk2.row_at (mvB_at (p:=b) (q:=a) hlK.out)
      obtain⟨gk,Ck,hx2f, -,hgkl⟩:=hcd2.row.form (List.length_pos_iff.2 hlKne)
      subst hx2f
      rw [←hmK.out] at hx2
      have hmK64:mK≤9223372036854775807:=by rw [hmK.out];exact Yae hcd2.row
      have cK:=hk2.blk_cell hx2
      rw [Vt_at hKb] at cK
      have hgdV2:gd<V2.heap.size:=by omega
      have cKon:Hid (∀w',Only (fun k=>T2 k∧k≠gd) V2.heap.size V2 w'→w'.cell? ⟨gd,K,none⟩=some (.slice (some ⟨gk,0,none⟩) mK Ck)):=hide (Yx cK hgdV2 (fun h8=>h8.2 rfl))
      obtain⟨X,hX,hwX,hXs,hxx⟩:=Y6 V2 #[.slice (some ⟨gk,0,none⟩) mK Ck] 41
      have honX:=hon.next (Nat.le_refl _) (Only.of_below hwX)
      have x0:=hxx 0 _ rfl X (Below.refl _ _)
      have hMX:Hid (MF (Vt gd b X) T2 N (Ye f ((mvB b a J K).set K (mvL b a lK 0))) (.slice Ac np Cc) (.slice (some ⟨gd,0,none⟩) n Cd)):=hide (by
       rw [mvL_zero,Qo (mvB_at hlK.out)]
       exact hMK.out.real hwX)
      have cKX:Hid (∀w',Only (fun k=>T2 k∧k≠gd) X.heap.size X w'→w'.cell? ⟨gd,K,none⟩=some (.slice (some ⟨gk,0,none⟩) mK Ck)):=hide (fun w' h9=>cKon.out w' ((Only.of_below hwX).next (Nat.le_refl _) h9))
      obtain⟨NB,hNB⟩:=Jn (V2.heap.size)
      rw [←hNB.out] at x0
      have hNBX:NB<X.heap.size:=by have:=hNB.out;omega
      have xon:=Yx (Q:=fun k=>T2 k∧k≠gd) x0 hNBX (fun h8=>by have:=hTlt.out NB h8.1;have:=hNB.out;omega)
      have hXX:Only (fun k=>T2 k∧k≠gd) X.heap.size X X:=Only.refl _ _ _
      refine hd8 hX hXs hwX hk2 hcd2 hx2 he2 hKb ?_;clear hX hXs hwX hk2 hcd2 hx2 he2 hKb;intro hX hXs hwX hk2 hcd2 hx2 he2 hKb
      clear hxx hT2'
      go_upto_region 14 with(fail)
      rw [hX.out]
      rw [←hNB.out]
      go_wp2
      clear x0 c3K cK
      go_loopw [107] (fun s wr=>∃i:Nat,s = .int .i64 i∧i≤mK∧Hid (MF (Vt gd b wr) T2 N (Ye f ((mvB b a J K).set K (mvL b a lK i))) (.slice Ac np Cc) (.slice (some ⟨gd,0,none⟩) n Cd))∧Only (fun k=>T2 k∧k≠gd) X.heap.size X wr) (fun s _=>mK - (intOf s).toNat)
      case atStart=>exact⟨0,rfl,Nat.zero_le _,hMX,hXX⟩
      case round =>
       clear hMX hXX
       rename World=>V3
       obtain⟨i,rfl,hi9,hM3,hon3⟩:=hrel
       have x3:=xon V3 hon3
       have hV3s:=hon3.size
       by_cases hlt9:i<mK
       ·have hii9 : (i : Int) < (mK : Int) := by omega
        obtain⟨z,hz⟩:=Yf (l:=lK) (k:=i) (by rw [←hmK.out];exact hlt9)
        obtain⟨xs3,ess3,hk3,hT3⟩:=hM3.out.tree
        have hat:((mvB b a J K).set K (mvL b a lK i))[K]? = some (mvL b a lK i):=by rw [Jf (by rw [mvB_len,hJl.out];exact hltK)]
        obtain⟨x9,es3,hx3,he3,hcd3⟩:=hk3.row_at hat
        have hx9:x9 = .slice (some ⟨gk,0,none⟩) mK Ck:=by
         have h1:=hk3.blk_cell hx3
         rw [Vt_at hKb.out,cKX.out V3 hon3] at h1
         exact(Option.some.inj h1).symm
        subst hx9
        obtain⟨ca3,ct3,hei3, -, -, -⟩:=hcd3.ins_at (mvL_at (p:=b) (q:=a) hz.out)
        obtain⟨ngk,hrow3,hva3,hvt3,hok3,z0,z5,z6⟩:=Vt_ins hk3 hat hx3 he3 (mvL_at (p:=b) (q:=a) hz.out) hei3
        by_cases ho:z.op=25
        ·have g9 : (z.op == 25) = true := by rw [ho]; rfl
         obtain⟨hp1',hp2'⟩:=hphil.out lK (Jm hlK.out) z (Jm hz.out) ho
         have cM:Hid (Calls Tryz.prog 62 #[.pointer (some ⟨gk,i*7,none⟩), .int .i64 b, .int .i64 a] V3 fun e w'=>e = .returned (.tuple #[])∧Hid (MF (Vt gd b w') T2 N (Ye f ((mvB b a J K).set K (mvL b a lK (i+1)))) (.slice Ac np Cc) (.slice (some ⟨gd,0,none⟩) n Cd))∧Only (fun k=>T2 k∧k≠gd) X.heap.size X w'):=hide (by
          refine(moved_any b a hrow3 hlt9 z5 z6 hva3 hvt3 hp1' ha64.out (by omega)).mono ?_
          intro e w' hpost
          obtain⟨h1,h2⟩:=MF.moved hM3.out hk3 hT3 hat hx3 he3 (mvL_at (p:=b) (q:=a) hz.out) hei3 hpost
          refine⟨hpost.1,hide ?_,hon3.next (Nat.le_refl _) h2⟩
          have h3:=mvL_next (p:=b) (q:=a) hz.out
          unfold movP at h3
          rw [if_pos ho] at h3
          have h4:(Ye f ((mvB b a J K).set K (mvL b a lK i))).blocks=(mvB b a J K).set K (mvL b a lK i):=rfl
          rw [h4,List.set_set,h3] at h1
          exact h1)
         refine hd11 hk3 hT3 hat hx3 he3 hcd3 hei3 hrow3 hva3 hvt3 ho ?_;clear hk3 hT3 hat hx3 he3 hcd3 hei3 hrow3 hva3 hvt3 ho;intro hk3 hT3 hat hx3 he3 hcd3 hei3 hrow3 hva3 hvt3 ho
         clear z5 z6 hok3 hp1' hp2'
         go_wp2_with (fail)
         refine cM.out.mono ?_
         rintro e w4 ⟨rfl,hM4,hon4⟩
         clear z0 x3
         go_wp2
         go_roundw
         case rel=>exact⟨i+1,by go_num,hlt9,hM4,hon4⟩
         case measure=>simp [intOf];omega
        ·have g9 : (z.op == 25) = false := by rw [beq_eq_false_iff_ne]; exact ho
         have hM4:Hid (MF (Vt gd b V3) T2 N (Ye f ((mvB b a J K).set K (mvL b a lK (i+1)))) (.slice Ac np Cc) (.slice (some ⟨gd,0,none⟩) n Cd)):=hide (by
          rw [←mvL_same hz.out ho]
          exact hM3.out)
         clear hk3 hT3 hat hx3 he3 hcd3 hei3 hrow3 hva3 hvt3 z5 z6 hok3
         replace ho:=hide ho
         go_wp2
         go_roundw
         case rel=>exact⟨i+1,by go_num,hlt9,hM4,hon3⟩
         case measure=>simp [intOf];omega
       ·obtain rfl : mK = i := by omega
        have hM4:Hid (MF (Vt gd b V3) T2 N (Ye f (mvB b a J (K+1))) (.slice Ac np Cc) (.slice (some ⟨gd,0,none⟩) n Cd)):=hide (by
         rw [←mvB_next hlK.out,←mvL_end,←hmK.out]
         exact hM3.out)
        have hon4:Only (fun k=>T2 k∧k≠gd) W0.heap.size W0 V3:=honX.next (Nat.le_refl _) hon3
        go_wp2
        go_roundw
        case rel=>exact⟨K+1,by go_num,hltK,hM4,hon4⟩
        case measure=>simp [intOf];omega
    ·obtain rfl : n = K := by omega
     have c3K:=c3W V2 hon
     have hMn:Hid (MF (Vt gd b V2) T2 N (Ye f (mgAt f.blocks a b)) (.slice Ac np Cc) (.slice (some ⟨gd,0,none⟩) n Cd)):=hide (by
      have h1:=hMK.out
      rw [←hJl.out,mvB_end,hJl.out] at h1
      unfold mgAt
      rw [←hJ.out]
      exact h1)
     have hfz2:=hfzgd.out V2 hon
     have cb2:=cbW V2 hon
     go_wp2_with (at_make;refine wpList_make_full _ rfl (.tmp 130) (.tmp 130) _ rfl V2.heap.size 4 i0 _ 1 Tryz.underlying55 hi0.out hz0.out hz1.out .i64 .i64 n n n rfl rfl rfl rfl ?c1 ?c2 (Nat.le_refl _) ?_)
     case c1=>rw [hz2.out];omega
     case c2=>unfold maxLen;omega
     intro w2 hown2 hg2
     have hb2:=Zr hg2
     obtain⟨G,hG⟩:=Jn (V2.heap.size)
     rw [←hG.out]
     obtain⟨gone,hgone⟩:=Jn ((List.replicate n false).set b true)
     have hrow0:Hid (w2.ownsRow 0 4 1 (.slice (some ⟨G,0,none⟩) n n) n ((List.replicate n false).map Value.bool)):=hide (by
      rw [hG.out]
      exact Zf (Ybf hown2) (Nat.zero_le _))
     have hGw2:G<w2.heap.size:=(Ya hrow0.out rfl).2.1
     have hgd2:gd<V2.heap.size:=by omega
     have hN2:N<V2.heap.size:=by omega
     have nGgd:G≠gd:=by have:=hG.out;omega
     have nGN:G≠N:=by have:=hG.out;omega
     have hgl:Hid (gone.length=n):=hide (by rw [hgone.out];simp)
     have r1:w2.cell? ⟨G,b,none⟩=some (.bool false):=by
      rw [World.ownsRow.cellAt hrow0.out b (by omega),List.getElem?_map,List.getElem?_replicate,if_pos hbn]
      rfl
     have r2:=Zj hrow0.out b
     have c32:=Yg c3K hN2 w2 hb2
     have cb3:=Yg cb2 hgd2 w2 hb2
     have hfz3:w2.frozen? ⟨gd,b,none⟩=false:=(hb2.frozen (p:=⟨gd,b,none⟩) hgd2).trans hfz2
     have c33:(w2.setCell ⟨G,b,none⟩ (.bool true)).cell? ⟨N,3,none⟩=some (.slice (some ⟨gd,0,none⟩) n Cd):=by
      rw [World.cell?_of_block (w:=w2) (Below.heap_setCell w2 ⟨G,b,none⟩ _ N (Ne.symm nGN))]
      exact c32
     have cb4:(w2.setCell ⟨G,b,none⟩ (.bool true)).cell? ⟨gd,b,none⟩=some (.slice (some ⟨gb,0,none⟩) mb Cb):=by
      rw [World.cell?_of_block (w:=w2) (Below.heap_setCell w2 ⟨G,b,none⟩ _ gd (Ne.symm nGgd))]
      exact cb3
     have hfz4:(w2.setCell ⟨G,b,none⟩ (.bool true)).frozen? ⟨gd,b,none⟩=false:=by
      have h1:=Below.heap_setCell w2 ⟨G,b,none⟩ (.bool true) gd (Ne.symm nGgd)
      simp only [World.frozen?,h1] at hfz3⊢
      exact hfz3
     obtain⟨Y,hY⟩:∃Y,Hid (w2.setCell ⟨G,b,none⟩ (.bool true)=Y):=⟨_,hide rfl⟩
     rw [hY.out] at c33 cb4 hfz4
     have hYs:Hid (Y.heap.size=w2.heap.size):=hide (by rw [←hY.out];simp)
     have hbY:Hid (Below V2.heap.size V2 Y):=hide (by rw [←hY.out];exact hb2.setCell (p:=⟨G,b,none⟩) (by show V2.heap.size≤G;have:=hG.out;omega) _)
     have hrowY:Hid (Y.ownsRow 0 4 1 (.slice (some ⟨G,0,none⟩) n n) n (gone.map Value.bool)):=hide (by
      rw [←hY.out,hgone.out,List.map_set]
      exact(World.ownsRow.stored hrow0.out b (.bool true)).1)
     have cW:Hid (Calls Tryz.prog 60 #[.pointer (some ⟨N,0,none⟩), .slice (some ⟨G,0,none⟩) n n] (Y.setCell ⟨gd,b,none⟩ (.slice none 0 0)) fun e w'=>e = .returned (.tuple #[])∧Hid (Y7 w T N f Cp res (.returned (.bool true)) w')):=hide (by
      have hMY:MF (Vt gd b Y) T2 N (Ye f (mgAt f.blocks a b)) (.slice Ac np Cc) (.slice (some ⟨gd,0,none⟩) n Cd):=hMn.out.real hbY.out
      have hlen:(Ye f (mgAt f.blocks a b)).blocks.length=n:=by
       show(mgAt f.blocks a b).length=n
       unfold mgAt
       rw [List.length_map,J_len,hn.out]
      have hrowV:(Vt gd b Y).ownsRow 0 4 1 (.slice (some ⟨G,0,none⟩) n n) n (gone.map Value.bool):=Yc hrowY.out fun k hk9=>Yb5 (by cases hk9;exact nGgd)
      have hGT:¬T2 G:=fun h9=>by have:=hTlt.out G h9;have:=hG.out;omega
      have h9:=twithout_any hMY (by rw [hlen];exact hnb) (by
       rw [hlen,hn.out]
       exact mgAt_to (fun l9 h1 z hz t ht=>(hwf.out l9 h1).to_ z hz t ht) (by rw [←hn.out];exact hlt)) (gone:=gone) (G:=G) (by rw [hlen];exact hgl.out) (by rw [hlen];exact hrowV) hGT nGN
      rw [hlen] at h9
      refine h9.mono ?_
      rintro e w' ⟨rfl,d',h1,h2⟩
      refine⟨rfl,hide ?_⟩
      rw [hfound.out,←hgone.out]
      have hwV2:w.heap.size≤W0.heap.size:=hwW.out.size
      have hT2w:∀k,k<w.heap.size→T2 k→T k:=fun k hk9 h8=>by
       rcases (hT2i.out k h8).1 with h7|h7
       ·exact(hT0T.out k h7).1
       ·omega
      have hVY:(Vt gd b Y).heap.size=Y.heap.size:=Vt_size
      have hbYs:=hbY.out.size
      refine⟨_,_,d',fun k hk9 => ?_,⟨rfl,h1⟩,?_,fun k hk => .inl (hCp.out k (by cases Ac<;>exact hk))⟩
      ·rcases hk9 with hk9 | hk9
       ·rcases (hT2i.out k hk9).1 with h7 | h7
        ·exact .inl (hT0T.out k h7).1
        ·right;omega
       ·right;omega
      ·have s1 : Only (fun k => k = N ∨ T k) w.heap.size w V2 := hwW.out.trans ((hon.mono hwV2).more fun k hk9 h8 => .inr (hT2w k hk9 h8.1))
       have s2:Only (fun k=>k=N∨T k) w.heap.size w Y:=s1.trans (Only.of_below (hbY.out.mono (by omega)))
       have s3:Only (fun k=>k=N∨T k) w.heap.size w (Vt gd b Y):=s2.setCell (p:=⟨gd,b,none⟩) (.inl (.inr (hT0T.out gd hTgd).1)) _
       exact s3.trans ((h2.mono (by omega)).more fun k hk9 h8=>h8.imp_right fun h7=>hT2w k hk9 h7))
     clear c3K cb2 hfz2 c32 cb3 hfz3
     refine hd3 hown2 hg2 hb2 ?_;clear hown2 hg2 hb2;intro hown2 hg2 hb2
     go_upto_region 23 with(fail)
     rw [hY.out]
     clear r1 r2
     go_wp2_with (fail)
     refine cW.out.mono ?_
     rintro e w9 ⟨rfl,hfin⟩
     go_wp2
     go_ret
     exact hfin.out
  ·obtain rfl : n = a := by omega
   have hfin:Hid (Y7 w T N f Cp res (.returned (.bool false)) V):=hide (Y7.none_ (by
    rw [hres.out]
    exact mg_none (by rw [←hn.out];exact hno.out)) h.out hbw hCp.out)
   go_wp2
   go_ret
   exact hfin.out
theorem tdecided_any {w : World} {T : Nat → Prop} {N : Nat} {f : Fun} {c d : Value} {Cp : Nat → Prop} (hCp : ∀ k, c.ownBlock = some k → Cp k) (h : MF w T N f c d) (hs : Zo f) (hwf : Wf f.blocks) :
  Calls Tryz.prog 24 #[.pointer (some ⟨N,0,none⟩)] w (Y7 w T N f Cp (Qe (Yw f.blocks) f.blocks)):=by
 replace hCp:=hide hCp
 obtain⟨xs,ess,hk,hT⟩:=h.tree
 obtain⟨R,hR⟩:=Jn (Yw f.blocks)
 obtain⟨n,hn⟩:=Jn (f.blocks.length)
 have hnb:n≤2000000:=by rw [hn.out];exact hs.blocks
 have hRl:Hid (R.length=n):=hide (by rw [hR.out,hn.out,Qj])
 obtain⟨res,hres⟩:=Jn (Qe (Yw f.blocks) f.blocks)
 rw [←hres.out]
 obtain⟨Ad,Cd,hdf⟩:=Yd hk.row
 subst hdf
 obtain⟨Ac,Cc,hcf⟩:=Yd h.par.row
 subst hcf
 have hNlt:=h.lt
 have hbox:=h.box
 have b0:=Yg (Yb hbox 0 rfl) hNlt
 have b1:=Yg (Yb hbox 1 rfl) hNlt
 have b2:=Yg (Yb hbox 2 rfl) hNlt
 have b3:=Yg (Yb hbox 3 rfl) hNlt
 have hself:=Below.refl w.heap.size w
 obtain⟨np,hnp⟩:=Jn (f.params.length)
 have hh:=h
 have hkk:=hk
 have cR:Hid (Calls Tryz.prog 54 #[f.v (.slice Ac np Cc) (.slice Ad n Cd)] w (Yay n R w)):=hide (by
  have:=reach_any f _ _ w w.heap.size (Nat.le_refl _) h.rep hs
  rw [←hn.out,←hR.out,←hnp.out] at this
  exact this)
 rw [←hnp.out] at b1
 rw [←hn.out] at b3
 refine hd8 h hh hk hkk hT hbox hwf hs ?_;clear h hh hk hkk hT hbox hwf hs;intro h hh hk hkk hT hbox hwf hs
 go_enter Tryz.func24,Tryz.ntmps24
 go_wp2_with (fail)
 refine cR.out.mono ?_
 rintro e w1 ⟨gr,rfl,hrr,hb1⟩
 obtain⟨-,hrd⟩:=Yas hrr
 refine hd2 hrr hrd ?_;clear hrr hrd;intro hrr hrd
 have hw1s:=hb1.size
 have hself1:=Below.refl w1.heap.size w1
 have h1w:Hid (∀w',Below w1.heap.size w1 w'→Below w.heap.size w w'):=hide (fun w' hb=>hb1.trans (hb.mono hw1s))
 have hno0:Hid (∀j,j<0→dcB R f.blocks j=false):=hide (fun j hj=>by omega)
 clear cR
 go_wp2
 go_loopw [13] (fun s wr=>∃i:Nat,s = .int .i64 i∧i≤n∧Hid (∀j,j<i→dcB R f.blocks j=false)∧Below w1.heap.size w1 wr) (fun s _=>n - (intOf s).toNat)
 case atStart=>exact⟨0,rfl,Nat.zero_le _,hno0,hself1⟩
 case round =>
  clear hno0 hself1
  rename World=>V
  obtain⟨i,rfl,hi,hno,hbV⟩:=hrel
  have hbw:=h1w.out V hbV
  have hVs:=hbV.size
  by_cases hlt:i<n
  ·have hii : (i : Int) < (n : Int) := by omega
   obtain⟨l,hl⟩:=Yf (l:=f.blocks) (k:=i) (by rw [←hn.out];exact hlt)
   obtain⟨rb,hrb⟩:=Yf (l:=R) (k:=i) (by rw [hRl.out];exact hlt)
   have rr:=hrd.out i rb hrb.out
   have rr0:=rr V hbV
   have hwl:=hwf.out l (Jm hl.out)
   obtain⟨x,es,hx,he,hcd⟩:=hk.out.row_at hl.out
   have hlpos:0<l.length:=List.length_pos_iff.2 hwl.ne
   obtain⟨gd,CD9,hgdf, -,hgd⟩:=hk.out.row.form (by rw [←hn.out];omega)
   rw [←hn.out] at hgdf
   cases hgdf
   obtain⟨gc,Cx,hxf, -,hgcl⟩:=hcd.row.form hlpos
   subst hxf
   obtain⟨q,hq⟩:∃q,Hid (l.length=q+1):=⟨l.length - 1,hide (by omega)⟩
   obtain⟨m,hm⟩:=Jn (l.length)
   rw [←hm.out] at hx
   obtain⟨ins,hins⟩:=Yf (l:=l) (k:=q) (by rw [hq.out];omega)
   obtain⟨ca,ct,hei,hva,hvt,hok⟩:=hcd.ins_at hins.out
   have hmem:=Jm hins.out
   have hend:=endI_at hl.out hq.out hins.out
   have hmb:m≤9223372036854775807:=by rw [hm.out];exact Yae hcd.row
   have cE:Hid (Calls Tryz.prog 55 #[.pointer (some ⟨N,0,none⟩), .int .i64 i] V fun e w'=>e = .returned (.pointer (some ⟨gc,q*7,none⟩))∧w'=V):=hide (by
    have hk1:=hk.out.kept (w':=V) fun k _ hk=>hbw.block k hk
    rw [←hn.out] at hk1
    exact tend_any (b3 V hbw) hn.out hk1 hx (by rw [hm.out,hq.out]) hmb)
   have hcdV:Hid (Z9 V 0 (.slice (some ⟨gc,0,none⟩) m Cx) l es):=hide (by
    have:=hcd.kept (w':=V) fun k _ hk=>hbw.block k hk
    rwa [←hm.out] at this)
   refine hd7 hx he hei hend hmem hwl hok ?_;clear hx he hei hend hmem hwl hok;intro hx he hei hend hmem hwl hok
   go_wp2_with (fail)
   refine cE.out.mono ?_
   rintro e w2 ⟨rfl,hw2⟩
   rw [hw2]
   clear hw2
   obtain⟨e0,e1,e2,e3,e4,e5,e6⟩:=cell7 hcdV.out hins.out hei.out
   have hstep:Hid (dcB R f.blocks i=false→∀j,j<i+1→dcB R f.blocks j=false):=hide (fun h9 j hj=>by
    rcases Nat.lt_succ_iff_lt_or_eq.1 hj with h1|h1
    ·exact hno.out j h1
    ·rw [h1];exact h9)
   have hgetR:Hid (R.getD i false=rb):=hide (by rw [Jq,hrb.out];rfl)
   cases rb with
   | false =>
    have hnx:=hide (hstep.out (by unfold dcB;rw [hgetR.out];rfl))
    go_wp2
    go_roundw
    case rel=>exact⟨i+1,by go_num,hlt,hnx,hbV⟩
    case measure=>simp [intOf];omega
   | true =>
    by_cases h32:ins.op=32
    case neg =>
     have hnx:=hide (hstep.out (by unfold dcB;rw [hend.out];simp [h32]))
     have g1:(ins.op != 32)=true:=by rw [bne_iff_ne];exact h32
     replace h32:=hide h32
     go_wp2
     go_roundw
     case rel=>exact⟨i+1,by go_num,hlt,hnx,hbV⟩
     case measure=>simp [intOf];omega
    have g1:(ins.op != 32)=false:=by rw [h32];rfl
    obtain⟨hto2,hargs1⟩:=hwl.out.brif ins hmem.out h32
    obtain⟨t0,t1,hto⟩:∃t0 t1,Hid (ins.to = [t0,t1]):=by
     match h9:ins.to,hto2 with
     | [a,b],_=>exact⟨a,b,hide rfl⟩
    obtain⟨ao,hargs⟩:∃ao,Hid (ins.args = [ao]):=by
     match h9:ins.args,hargs1 with
     | [a],_=>exact⟨a,hide rfl⟩
    obtain⟨At,Ct,hctf⟩:=Yd hvt.row
    subst hctf
    obtain⟨Aa,Ca,hcaf⟩:=Yd hva.row
    subst hcaf
    obtain⟨gt,CT9,htf, -,hgtl⟩:=hvt.row.form (by rw [hto.out];simp)
    rw [hto.out] at htf
    cases htf
    obtain⟨ga,CA9,haf, -,hgal⟩:=hva.row.form (by rw [hargs.out];simp)
    rw [hargs.out] at haf
    cases haf
    have hvr:=hvt.row
    have har:=hva.row
    have hgtl':gt<w.heap.size:=hgtl
    have hgal':ga<w.heap.size:=hgal
    have a0:=World.ownsRow.cellAt (n:=2) (by rw [hto.out] at hvr;exact hvr) 0 (by omega)
    have a1:=World.ownsRow.cellAt (n:=2) (by rw [hto.out] at hvr;exact hvr) 1 (by omega)
    have ab0:=World.ownsRow.cellAt (n:=1) (by rw [hargs.out] at har;exact har) 0 (by omega)
    have ab2:=World.ownsRow.cellAt (n:=1) (by rw [hargs.out] at har;exact har) 2 (by omega)
    simp only [hto.out,List.map_cons,List.map_nil,List.getElem?_cons_zero,List.getElem?_cons_succ] at a0 a1
    simp only [hargs.out,List.flatMap_cons,List.flatMap_nil,oc,List.cons_append,List.nil_append,List.getElem?_cons_zero,List.getElem?_cons_succ] at ab0 ab2
    simp only [hto.out,List.length_cons,List.length_nil] at e6
    simp only [hargs.out,List.length_cons,List.length_nil] at e5
    have a0':=Yg (w:=w) (N:=gt) (j:=0) a0 hgtl' V hbw
    have a1':=Yg (w:=w) (N:=gt) (j:=1) a1 hgtl' V hbw
    have k0':=Yg (w:=w) (N:=ga) (j:=0) ab0 hgal' V hbw
    have htok:Hid (∀z,z∈ins.to→I64 z):=hide hvt.ok
    have hse:Hid (∀z,setEnd l (brI z)=l.set q (brI z)):=hide (fun z=>by unfold setEnd;rw [hq.out,Nat.add_sub_cancel])
    replace h32:=hide h32
    by_cases hkind:ao.kind=2
    case neg =>
     have hnx:=hide (hstep.out (by unfold dcB;rw [hend.out];simp [hargs.out,hkind]))
     have g3:(ao.kind != 2)=true:=by rw [bne_iff_ne];exact hkind
     replace hkind:=hide hkind
     go_wp2
     go_roundw
     case rel=>exact⟨i+1,by go_num,hlt,hnx,hbV⟩
     case measure=>simp [intOf];omega
    have g3:(ao.kind != 2)=false:=by rw [hkind];rfl
    replace hkind:=hide hkind
    by_cases hbits:ao.bits=1
    ·have g4 : (ao.bits != 1) = false := by rw [hbits]; rfl
     replace hbits:=hide hbits
     have hgo:Hid (Yad ins=(t0,t1)):=hide (by unfold Yad;simp [hargs.out,hto.out,hbits.out])
     have hfound:Hid (res=some (decAt f.blocks i (t0,t1))):=hide (by
      rw [hres.out]
      unfold Qe
      rw [←hR.out,Qk (i:=i) (by rw [←hn.out];exact hlt) (by unfold dcB;rw [hgetR.out,hend.out];simp [h32.out,hargs.out,hkind.out]) hno.out]
      simp only [Option.map_some,hend.out,hgo.out]
      rfl)
     have hIA:Hid (I64 t0):=hide (htok.out t0 (by rw [hto.out];simp))
     go_upto_region 6 with(fail)
     go_quiet (fail)
     have hbQ0:=Yi hbw nq
     obtain⟨Q,hQ⟩:∃Q,Hid (V.drewN nq=Q):=⟨_,hide rfl⟩
     rw [hQ.out] at hbQ0⊢
     have hVQ:Hid (Below V.heap.size V Q):=hide (by rw [←hQ.out];exact Yi (Below.refl _ _) nq)
     obtain⟨e0,e1,e2,e3,e4,e5,e6⟩:=cell7 (hcdV.out.kept (w':=Q) fun k _ hk=>hVQ.out.block k hk) hins.out hei.out
     simp only [hto.out,List.length_cons,List.length_nil] at e6
     simp only [hargs.out,List.length_cons,List.length_nil] at e5
     have a2':=Yg (w:=w) (N:=ga) (j:=2) ab2 hgal' Q hbQ0
     have hbQ:=hide hbQ0
     go_wp2_with (fail)
     refine(tjump_any t0 hIA.out _).mono ?_
     rintro e X ⟨g,rfl,hIX,hbX⟩
     have hcX:=(hcdV.out.kept (w':=Q) fun k _ hk=>hVQ.out.block k hk).kept (w':=X) fun k _ hk=>hbX.block k hk
     obtain⟨x0,x1,x2,x3,x4,x5,x6⟩:=cell7 hcX hins.out hei.out
     have xz:∀j,X.frozen? ⟨gc,j,none⟩=false:=fun j=>Zj hcX.row j
     have z0:=xz (q*7)
     have z1:=xz (q*7+1)
     have z2:=xz (q*7+2)
     have z3:=xz (q*7+3)
     have z4:=xz (q*7+4)
     have z5:=xz (q*7+5)
     have z6:=xz (q*7+6)
     have hwX:Below w.heap.size w X:=hbQ.out.trans (hbX.mono hbQ.out.size)
     have h9:=hide (MF.ins7 h.out hk.out hT.out hl.out (by rw [hm.out] at hx;exact hx.out) he.out hins.out hei.out hwX (c' := .slice none 0 0) (x:=brI t0) OwnV.nil_ (hIX.mono hbQ.out.size) (brI_ok t0))
     have hXs:Hid (w.heap.size≤X.heap.size):=hide hwX.size
     refine hd4 hIX hbX hcX hwX ?_;clear hIX hbX hcX hwX;intro hIX hbX hcX hwX
     clear xz
     obtain⟨Y,hY⟩:∃Y,Hid (Ybc X gc (q*7) (brI t0) (.slice none 0 0) (.slice (some ⟨g,0,none⟩) 1 1)=Y):=⟨_,hide rfl⟩
     have h8:=h9.out
     rw [hY.out] at h8
     have h8:=hide h8
     go_upto_region 10 with(fail)
     rw [show((((((X.setCell ⟨gc,q*7,none⟩ (.int .i64 31)).setCell ⟨gc,q*7+1,none⟩ (.int .i64 (-1))).setCell ⟨gc,q*7+2,none⟩ (.int .i64 0)).setCell ⟨gc,q*7+3,none⟩ (.int .i64 0)).setCell ⟨gc,q*7+4,none⟩ (.int .i64 0)).setCell ⟨gc,q*7+5,none⟩ (.slice none 0 0)).setCell ⟨gc,q*7+6,none⟩ (.slice (some ⟨g,0,none⟩) 1 1)=Y from hY.out]
     clear x0 x1 x2 x3 x4 x5 x6 z0 z1 z2 z3 z4 z5 z6 e0 e1 e2 e3 e4 e5 e6
     by_cases hoa:t1=t0
     ·have g9 : (t1 != t0) = false := by rw [hoa]; simp
      have hfin:Hid (Y7 w T N f Cp res (.returned (.bool true)) Y):=hide (by
       rw [hfound.out]
       have e:decAt f.blocks i (t0,t1)=f.blocks.set i (l.set q (brI t0)):=by
        unfold decAt
        rw [if_pos hoa,Jq,hl.out,←hse.out t0]
        rfl
       rw [e]
       exact⟨_,_,_,fun k hk=>hk,⟨rfl,h8.out.1⟩,h8.out.2,fun k hk => .inl (hCp.out k hk)⟩)
      replace hoa:=hide hoa
      go_wp2
      go_ret
      exact hfin.out
     ·have g9 : (t1 != t0) = true := by rw [bne_iff_ne]; exact hoa
      obtain⟨o,ho⟩:∃o:Nat,Hid (t1=(o:Int)∧o<n):=by
       have h1:=hwl.out.to_ ins hmem.out t1 (by rw [hto.out];simp)
       obtain⟨o,e⟩:=Int.eq_ofNat_of_zero_le h1.1
       exact⟨o,hide ⟨e,by have:=hn.out;have:=h1.2;omega⟩⟩
      obtain⟨l2,hl2⟩:∃l2,Hid ((f.blocks.set i (l.set q (brI t0)))[o]? = some l2):=by
       have h1:=ho.out.2
       rw [hn.out] at h1
       exact⟨_,hide (Jg (by rw [List.length_set];exact h1))⟩
      have hph2:Hid (PhiLen l2):=hide (by
       rcases List.mem_or_eq_of_mem_set (Jm hl2.out) with h1|h1
       ·exact(hwf.out l2 h1).phi
       ·rw [h1, ← hse.out t0]
        exact phiLen_setEnd hwl.out.phi (by show(31:Int)≠25;omega))
      have cL:Hid (Calls Tryz.prog 57 #[.pointer (some ⟨N,0,none⟩), .int .i64 t1, .int .i64 i] Y fun e w'=>e = .returned (.tuple #[])∧Y7 w T N f Cp res (.returned (.bool true)) w'):=hide (by
       rw [ho.out.1]
       refine(lose_any h8.out.1 o i hl2.out hph2.out).mono ?_
       rintro e w' ⟨rfl,hm1,hm2⟩
       refine⟨rfl,?_⟩
       rw [hfound.out]
       have e:decAt f.blocks i (t0,t1)=(f.blocks.set i (l.set q (brI t0))).set o (Yaw i l2):=by
        unfold decAt loseB
        rw [if_neg hoa,ho.out.1,Int.toNat_natCast]
        have e1:f.blocks.getD i []=l:=by rw [Jq,hl.out];rfl
        simp only [e1]
        rw [show setEnd l (brJ t0)=l.set q (brI t0) from hse.out t0]
        rw [Jq,hl2.out]
        rfl
       rw [e]
       refine⟨_,_,_,fun k hk=>hk,⟨rfl,hm1⟩,h8.out.2.trans ((hm2.mono (B':=w.heap.size) h8.out.2.size).more fun k hk hq => ?_),fun k hk => .inl (hCp.out k hk)⟩
       rcases hq with h1|h1
       ·exact .inr h1
       ·omega)
      replace hoa:=hide hoa
      go_wp2_with (fail)
      refine cL.out.mono ?_
      rintro e w9 ⟨rfl,hfin⟩
      replace hfin:=hide hfin
      go_wp2
      go_ret
      exact hfin.out
    ·have g4 : (ao.bits != 1) = true := by rw [bne_iff_ne]; exact hbits
     replace hbits:=hide hbits
     have hgo:Hid (Yad ins=(t1,t0)):=hide (by unfold Yad;simp [hargs.out,hto.out,hbits.out])
     have hfound:Hid (res=some (decAt f.blocks i (t1,t0))):=hide (by
      rw [hres.out]
      unfold Qe
      rw [←hR.out,Qk (i:=i) (by rw [←hn.out];exact hlt) (by unfold dcB;rw [hgetR.out,hend.out];simp [h32.out,hargs.out,hkind.out]) hno.out]
      simp only [Option.map_some,hend.out,hgo.out]
      rfl)
     have hIA:Hid (I64 t1):=hide (htok.out t1 (by rw [hto.out];simp))
     go_upto_region 6 with(fail)
     go_quiet (fail)
     have hbQ0:=Yi hbw nq
     obtain⟨Q,hQ⟩:∃Q,Hid (V.drewN nq=Q):=⟨_,hide rfl⟩
     rw [hQ.out] at hbQ0⊢
     have hVQ:Hid (Below V.heap.size V Q):=hide (by rw [←hQ.out];exact Yi (Below.refl _ _) nq)
     obtain⟨e0,e1,e2,e3,e4,e5,e6⟩:=cell7 (hcdV.out.kept (w':=Q) fun k _ hk=>hVQ.out.block k hk) hins.out hei.out
     simp only [hto.out,List.length_cons,List.length_nil] at e6
     simp only [hargs.out,List.length_cons,List.length_nil] at e5
     have a2':=Yg (w:=w) (N:=ga) (j:=2) ab2 hgal' Q hbQ0
     have hbQ:=hide hbQ0
     go_wp2_with (fail)
     refine(tjump_any t1 hIA.out _).mono ?_
     rintro e X ⟨g,rfl,hIX,hbX⟩
     have hcX:=(hcdV.out.kept (w':=Q) fun k _ hk=>hVQ.out.block k hk).kept (w':=X) fun k _ hk=>hbX.block k hk
     obtain⟨x0,x1,x2,x3,x4,x5,x6⟩:=cell7 hcX hins.out hei.out
     have xz:∀j,X.frozen? ⟨gc,j,none⟩=false:=fun j=>Zj hcX.row j
     have z0:=xz (q*7)
     have z1:=xz (q*7+1)
     have z2:=xz (q*7+2)
     have z3:=xz (q*7+3)
     have z4:=xz (q*7+4)
     have z5:=xz (q*7+5)
     have z6:=xz (q*7+6)
     have hwX:Below w.heap.size w X:=hbQ.out.trans (hbX.mono hbQ.out.size)
     have h9:=hide (MF.ins7 h.out hk.out hT.out hl.out (by rw [hm.out] at hx;exact hx.out) he.out hins.out hei.out hwX (c' := .slice none 0 0) (x:=brI t1) OwnV.nil_ (hIX.mono hbQ.out.size) (brI_ok t1))
     have hXs:Hid (w.heap.size≤X.heap.size):=hide hwX.size
     refine hd4 hIX hbX hcX hwX ?_;clear hIX hbX hcX hwX;intro hIX hbX hcX hwX
     clear xz
     obtain⟨Y,hY⟩:∃Y,Hid (Ybc X gc (q*7) (brI t1) (.slice none 0 0) (.slice (some ⟨g,0,none⟩) 1 1)=Y):=⟨_,hide rfl⟩
     have h8:=h9.out
     rw [hY.out] at h8
     have h8:=hide h8
     go_upto_region 10 with(fail)
     rw [show((((((X.setCell ⟨gc,q*7,none⟩ (.int .i64 31)).setCell ⟨gc,q*7+1,none⟩ (.int .i64 (-1))).setCell ⟨gc,q*7+2,none⟩ (.int .i64 0)).setCell ⟨gc,q*7+3,none⟩ (.int .i64 0)).setCell ⟨gc,q*7+4,none⟩ (.int .i64 0)).setCell ⟨gc,q*7+5,none⟩ (.slice none 0 0)).setCell ⟨gc,q*7+6,none⟩ (.slice (some ⟨g,0,none⟩) 1 1)=Y from hY.out]
     clear x0 x1 x2 x3 x4 x5 x6 z0 z1 z2 z3 z4 z5 z6 e0 e1 e2 e3 e4 e5 e6
     by_cases hoa:t0=t1
     ·have g9 : (t0 != t1) = false := by rw [hoa]; simp
      have hfin:Hid (Y7 w T N f Cp res (.returned (.bool true)) Y):=hide (by
       rw [hfound.out]
       have e:decAt f.blocks i (t1,t0)=f.blocks.set i (l.set q (brI t1)):=by
        unfold decAt
        rw [if_pos hoa,Jq,hl.out,←hse.out t1]
        rfl
       rw [e]
       exact⟨_,_,_,fun k hk=>hk,⟨rfl,h8.out.1⟩,h8.out.2,fun k hk => .inl (hCp.out k hk)⟩)
      replace hoa:=hide hoa
      go_wp2
      go_ret
      exact hfin.out
     ·have g9 : (t0 != t1) = true := by rw [bne_iff_ne]; exact hoa
      obtain⟨o,ho⟩:∃o:Nat,Hid (t0=(o:Int)∧o<n):=by
       have h1:=hwl.out.to_ ins hmem.out t0 (by rw [hto.out];simp)
       obtain⟨o,e⟩:=Int.eq_ofNat_of_zero_le h1.1
       exact⟨o,hide ⟨e,by have:=hn.out;have:=h1.2;omega⟩⟩
      obtain⟨l2,hl2⟩:∃l2,Hid ((f.blocks.set i (l.set q (brI t1)))[o]? = some l2):=by
       have h1:=ho.out.2
       rw [hn.out] at h1
       exact⟨_,hide (Jg (by rw [List.length_set];exact h1))⟩
      have hph2:Hid (PhiLen l2):=hide (by
       rcases List.mem_or_eq_of_mem_set (Jm hl2.out) with h1|h1
       ·exact(hwf.out l2 h1).phi
       ·rw [h1, ← hse.out t1]
        exact phiLen_setEnd hwl.out.phi (by show(31:Int)≠25;omega))
      have cL:Hid (Calls Tryz.prog 57 #[.pointer (some ⟨N,0,none⟩), .int .i64 t0, .int .i64 i] Y fun e w'=>e = .returned (.tuple #[])∧Y7 w T N f Cp res (.returned (.bool true)) w'):=hide (by
       rw [ho.out.1]
       refine(lose_any h8.out.1 o i hl2.out hph2.out).mono ?_
       rintro e w' ⟨rfl,hm1,hm2⟩
       refine⟨rfl,?_⟩
       rw [hfound.out]
       have e:decAt f.blocks i (t1,t0)=(f.blocks.set i (l.set q (brI t1))).set o (Yaw i l2):=by
        unfold decAt loseB
        rw [if_neg hoa,ho.out.1,Int.toNat_natCast]
        have e1:f.blocks.getD i []=l:=by rw [Jq,hl.out];rfl
        simp only [e1]
        rw [show setEnd l (brJ t1)=l.set q (brI t1) from hse.out t1]
        rw [Jq,hl2.out]
        rfl
       rw [e]
       refine⟨_,_,_,fun k hk=>hk,⟨rfl,hm1⟩,h8.out.2.trans ((hm2.mono (B':=w.heap.size) h8.out.2.size).more fun k hk hq => ?_),fun k hk => .inl (hCp.out k hk)⟩
       rcases hq with h1|h1
       ·exact .inr h1
       ·omega)
      replace hoa:=hide hoa
      go_wp2_with (fail)
      refine cL.out.mono ?_
      rintro e w9 ⟨rfl,hfin⟩
      replace hfin:=hide hfin
      go_wp2
      go_ret
      exact hfin.out
  ·obtain rfl : n = i := by omega
   have hfin:Hid (Y7 w T N f Cp res (.returned (.bool false)) V):=hide (Y7.none_ (by
    rw [hres.out]
    unfold Qe
    rw [←hR.out,Zd (by rw [←hn.out];exact hno.out)]
    rfl) h.out (h1w.out V hbV) hCp.out)
   go_wp2
   go_ret
   exact hfin.out
end Go.Proofs.YtamjcafjdioidaaGreat
