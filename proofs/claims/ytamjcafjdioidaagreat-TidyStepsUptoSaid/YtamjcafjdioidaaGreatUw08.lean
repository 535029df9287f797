/- Texts of the chain, without what is not wanted: Cr, GrZb, TdQ. No condition but sizes. -/
import Derived.Test.YtamjcafjdioidaaGreatUw07
set_option linter.unusedVariables false
set_option linter.unusedSimpArgs false
set_option maxRecDepth 100000
set_option maxHeartbeats 12800000
namespace Go.Proofs.YtamjcafjdioidaaGreat
open Go.RowKit
def CopyTree (f:Fun) (w:World) (e:Ending) (w':World):Prop:=∃c d L,e = .returned (f.v c d)∧OwnI w' w.heap.size c f.params∧(∀k,c.ownBlock=some k→k<L)∧OwnK2 w' L d f.blocks∧w.heap.size≤L∧Below w.heap.size w w'
theorem Qp (f : Fun) (c1 d1 : Value) (w : World) (B : Nat) (hB : B ≤ w.heap.size) (hf : RFun.rep w B [.string f.name, c1, .int .i64 f.ret, d1] f) (hs : Zo f) :
  Calls Tryz.prog 9 #[f.v c1 d1] w (CopyTree f w):=by
 obtain⟨hp,hb⟩:=Yk (RFun.later hf (Below.refl _ _) hB)
 obtain⟨A0,k0,hc1, -, -⟩:=Rp.slice1_open hp
 cases hc1
 obtain⟨-,hpn,hpo,hps⟩:=ints_src hp
 obtain⟨A1,k1,rfl,hl1,ga⟩:=blks_at hb
 clear hf hp hb
 obtain⟨np,hnp⟩:=Jn (f.params.length)
 obtain⟨n,hn⟩:=Jn (f.blocks.length)
 have hnp8:=hs.params
 have hn8:=hs.blocks
 have hcode:=hide hs.code
 rw [←hnp.out] at hpn hnp8⊢
 rw [←hn.out] at hl1 hn8⊢
 obtain⟨W,hW,hwW,hWs,hx, -⟩:=Ql w #[.string f.name, .slice A0 np k0, .int .i64 f.ret, .slice A1 n k1] #[.string ⟨#[]⟩, .slice none 0 0, .int .i64 0, .slice none 0 0] 32 32
 have hR:W.heap[w.heap.size+1]? = some (.cells #[.string ⟨#[]⟩, .slice none 0 0, .int .i64 0, .slice none 0 0] 32 (0,0)):=by
  rw [←hW]
  have:=Yu (w.alloc (.cells #[.string f.name, .slice A0 np k0, .int .i64 f.ret, .slice A1 n k1] 32)) (.cells #[.string ⟨#[]⟩, .slice none 0 0, .int .i64 0, .slice none 0 0] 32)
  simpa using this
 have x0:=hx 0 _ rfl
 have x1:=hx 1 _ rfl
 have x2:=hx 2 _ rfl
 have x3:=hx 3 _ rfl
 clear hx
 have hws:w.heap.size+1<W.heap.size:=by omega
 refine hd3 hWs hW hR ?_;clear hWs hW hR;intro hWs hW hR
 obtain⟨i0,hi0,hz0,hz1,hz2⟩:=Yh Z5
 obtain⟨j0,hj0,hj1,hj2,hj3⟩:=Yh Q8
 obtain⟨m0,hm0,hm1,hm2,hm3⟩:=Yh Ya5
 obtain⟨p0,hp0,hp1,hp2,hp3⟩:=Yh cinfo_Block
 refine hd12 hi0 hz0 hz1 hz2 hj0 hj1 hj2 hj3 hm0 hm1 hm2 hm3 ?_;clear hi0 hz0 hz1 hz2 hj0 hj1 hj2 hj3 hm0 hm1 hm2 hm3;intro hi0 hz0 hz1 hz2 hj0 hj1 hj2 hj3 hm0 hm1 hm2 hm3
 refine hd9 hp0 hp1 hp2 hp3 ga hpn hpo hps hs ?_;clear hp0 hp1 hp2 hp3 ga hpn hpo hps hs;intro hp0 hp1 hp2 hp3 ga hpn hpo hps hs
 have hself:=Below.refl W.heap.size W
 go_enter Tryz.func9,Tryz.ntmps9
 go_upto_region 1 with(fail)
 rw [hW.out]
 clear hW
 go_upto_region 2 with(fail)
 have hN3:=Yu W (.cells #[.string f.name, .slice none 0 0, .int .i64 f.ret, .slice none 0 0] 32)
 have hWU:=hself.alloc (Nat.le_refl _) (.cells #[.string f.name, .slice none 0 0, .int .i64 f.ret, .slice none 0 0] 32)
 obtain⟨U,hU⟩:∃U,U=W.alloc (.cells #[.string f.name, .slice none 0 0, .int .i64 f.ret, .slice none 0 0] 32):=⟨_,rfl⟩
 have hUs:U.heap.size=W.heap.size+1:=by rw [hU];simp
 rw [←hU] at hN3 hWU⊢
 clear hU
 obtain⟨N3,hNe⟩:∃N3,N3=W.heap.size:=⟨_,rfl⟩
 have hN3w:w.heap.size+1<N3:=by rw [hNe];exact hws
 have hNU:N3<U.heap.size:=by omega
 have y0:∀w',Below N3 U w'→w'.cell? ⟨w.heap.size,0,none⟩=some (.string f.name):=fun w' h=>x0 w' (by rw [←hNe];exact(hNe▸hWU).trans h)
 have y1:∀w',Below N3 U w'→w'.cell? ⟨w.heap.size,1,none⟩=some (.slice A0 np k0):=fun w' h=>x1 w' (by rw [←hNe];exact(hNe▸hWU).trans h)
 have y2:∀w',Below N3 U w'→w'.cell? ⟨w.heap.size,2,none⟩=some (.int .i64 f.ret):=fun w' h=>x2 w' (by rw [←hNe];exact(hNe▸hWU).trans h)
 have y3:∀w',Below N3 U w'→w'.cell? ⟨w.heap.size,3,none⟩=some (.slice A1 n k1):=fun w' h=>x3 w' (by rw [←hNe];exact(hNe▸hWU).trans h)
 have hwU:Hid (Below w.heap.size w U):=hide (hwW.trans (hWU.mono (by omega)))
 have hRU:Hid (U.heap[w.heap.size+1]? = some (.cells #[.string ⟨#[]⟩, .slice none 0 0, .int .i64 0, .slice none 0 0] 32 (0,0))):=hide ((hWU.block _ hws).trans hR.out)
 rw [←hNe] at hN3⊢
 clear x0 x1 x2 x3 hself hWU hwW hR hUs hNe hws hWs
 have hselfU:=Below.refl N3 U
 obtain⟨r0,r1,r2,r3⟩:=box4 hN3
 have fz1:=Ym (j:=1) hN3
 have hown0:Hid (U.ownsRow U.heap.size 3 1 (.slice none 0 0) 0 []):=hide ⟨rfl, .inl ⟨rfl,rfl⟩⟩
 have hsrc:=hide (hps.out U hwU.out)
 go_upto_region 3 with(at_builtin;refine Zv _ rfl (.tmp 16) (.tmp 18) _ rfl U.heap.size 3 i0 _ 1 8 Tryz.underlying29 hi0.out hz0.out hz1.out hz2.out rfl (by omega) (.slice none 0 0) 0 [] rfl hown0.out A0 np k0 (f.params.map fun z=>Value.int .i64 z) rfl (by rw [List.length_map,←hnp.out];omega) (fun e=>by have:=hpn.out e;omega) hsrc.out (ints_one _) (by unfold maxLen;omega) (by omega) (Nat.le_refl _) ?_;intro v1 Y hownY hgY;rw [Nat.zero_add] at hownY;obtain⟨Av,Cv,hv1⟩:=Yd hownY;subst hv1;have hbY:Below U.heap.size U Y:=(Below.refl _ _).grown hgY (Nat.le_refl _) (fun k hk=>by cases hk);have hNY:=hide ((hbY.block N3 hNU).trans hN3);have t1:=(box4 hNY.out).2.1;have ft1:=Ym (j:=1) hNY.out;have hbYN:Below N3 U Y:=hbY.mono (by omega);replace hownY:=hide hownY;clear hgY)
 have hNV:=Yr (j:=1) (v:=(Value.slice Av np Cv)) hNY.out
 have hOI:Hid (OwnI (Y.setCell ⟨N3,1,none⟩ (Value.slice Av np Cv)) U.heap.size (Value.slice Av np Cv) f.params):=hide ⟨Yc (by rw [←hnp.out];exact hownY.out) fun k hk=>Below.heap_setCell _ _ _ _ (by have:=(Ya hownY.out hk).1;show k≠N3;omega),hpo.out⟩
 have hbV:=hbYN.setCell (p:=⟨N3,1,none⟩) (Nat.le_refl _) (Value.slice Av np Cv)
 obtain⟨V,hV⟩:∃V,V=Y.setCell ⟨N3,1,none⟩ (Value.slice Av np Cv):=⟨_,rfl⟩
 rw [←hV] at hNV hOI hbV⊢
 have hPlo:Hid (∀k,Value.ownBlock (.slice Av np Cv)=some k→k<V.heap.size):=hide (fun k hk=>(Ya hOI.out.row hk).2.1)
 clear hV hNY t1 ft1 hbYN hownY hbY r0 r1 r2 r3 fz1 hown0 hsrc hselfU hN3
 have hNV':Hid (V.heap[N3]? = some (.cells #[.string f.name,(Value.slice Av np Cv), .int .i64 f.ret, .slice none 0 0] 32 (0,0))):=hide (by simpa using hNV)
 clear hNV
 go_wp2_with fail
 go_loopw [4] (fun u4 wr=>∃(k:Nat) (u:Value),k≤n∧u4 = .int .i64 k∧Hid (wr.heap[N3]? = some (.cells #[.string f.name,(Value.slice Av np Cv), .int .i64 f.ret,u] 32 (0,0)))∧Hid (OwnI wr U.heap.size (Value.slice Av np Cv) f.params)∧Hid (OwnK2 wr V.heap.size u (f.blocks.take k))∧Below N3 U wr∧Hid (V.heap.size≤wr.heap.size)) (fun u4 _=>n - (intOf u4).toNat)
 case atStart=>exact⟨0,_,Nat.zero_le _,rfl,hNV',hOI,hide OwnK2.nil_,hbV,hide (Nat.le_refl _)⟩
 case round =>
  have hUV:U.heap.size≤V.heap.size:=hbV.size
  clear hNV' hOI hbV
  obtain⟨k,u,hk,rfl,hNr,hOI,hOK,hbel,hUr⟩:=hrel
  by_cases hlt:k<n
  ·obtain ⟨q1, o1, rfl, he1⟩ := ga.out (by rw [← hn.out]; omega)
   obtain⟨x,hx⟩:=Yf (l:=f.blocks) (k:=k) (by rw [←hn.out];exact hlt)
   obtain⟨A3,k3,c3,hl3,gx⟩:=he1 k x hx.out
   have d3:∀w',Below N3 U w'→w'.cell? ⟨q1,o1+k,none⟩=some (.slice A3 x.length k3):=fun w' h=>c3 w' (hwU.out.trans (h.mono (by omega)))
   obtain⟨m,hm⟩:=Jn (x.length)
   have hxm:=hcode.out x (Jm hx.out)
   rw [←hm.out] at d3 hl3 hxm
   have hm8:=hxm.1
   have hcx:=hide hxm.2
   replace gx:=hide gx
   clear c3 he1 hxm
   have hself0:=Below.refl wr.heap.size wr
   obtain⟨w0,hw0⟩:∃w0,w0=wr:=⟨_,rfl⟩
   rw [←hw0] at hNr hOI hOK hbel hUr hself0⊢
   clear hw0
   have hN0:Hid (N3<w0.heap.size):=hide (by have:=hUr.out;omega)
   go_wp2_with fail
   go_loopw [5,6] (fun u5 u6 wr=>∃j:Nat,j≤m∧u6 = .int .i64 j∧Hid (OwnC2 wr w0.heap.size u5 (x.take j))∧Below w0.heap.size w0 wr) (fun _ u6 _=>m - (intOf u6).toNat)
   case atStart=>exact⟨0,Nat.zero_le _,rfl,hide OwnC2.nil_,hself0⟩
   case round =>
    clear hself0
    obtain⟨j,hj,rfl,hOC,hb0⟩:=hrel
    have hbr:Below N3 U wr:=hbel.trans (hb0.mono (Nat.le_of_lt hN0.out))
    have hs0:=hb0.size
    by_cases hlt2:j<m
    ·obtain ⟨q2, o2, rfl, hi1⟩ := gx.out (by rw [← hm.out]; omega)
     obtain⟨ins,hins⟩:=Yf (l:=x) (k:=j) (by rw [←hm.out];exact hlt2)
     obtain⟨ca,da,hra,hca⟩:=hi1 j ins hins.out
     obtain⟨ra,rt⟩:=ins_open hra
     have hiok:Hid (Ybr ins):=hide (by obtain⟨_,_,_,_,_,h5⟩:=hra;exact h5)
     obtain⟨A5,k5,hca5, -, -⟩:=Rp.slice_open ra
     obtain⟨A6,k6,hda6, -, -⟩:=Rp.slice1_open rt
     cases hca5
     cases hda6
     obtain⟨-,han,hao,has⟩:=opds_src ra
     obtain⟨-,htn,hto,hts⟩:=ints_src rt
     obtain⟨na,hna⟩:=Jn (ins.args.length)
     obtain⟨nt,hnt⟩:=Jn (ins.to.length)
     have hszi:=hcx.out ins (Jm hins.out)
     rw [←hna.out] at han hszi hca
     rw [←hnt.out] at htn hszi hca
     have hsa:=hszi.1
     have hst:=hszi.2
     obtain⟨e0,e1,e2,e3,e4,e5,e6⟩:=hca.seven
     have a0:∀w',Below N3 U w'→w'.cell? ⟨q2,o2+j*7,none⟩=some (.int .i64 ins.op):=fun w' h=>e0 w' (hwU.out.trans (h.mono (by omega)))
     have a1:∀w',Below N3 U w'→w'.cell? ⟨q2,o2+j*7+1,none⟩=some (.int .i64 ins.reg):=fun w' h=>e1 w' (hwU.out.trans (h.mono (by omega)))
     have a2:∀w',Below N3 U w'→w'.cell? ⟨q2,o2+j*7+2,none⟩=some (.int .i64 ins.ty):=fun w' h=>e2 w' (hwU.out.trans (h.mono (by omega)))
     have a3:∀w',Below N3 U w'→w'.cell? ⟨q2,o2+j*7+3,none⟩=some (.int .i64 ins.num):=fun w' h=>e3 w' (hwU.out.trans (h.mono (by omega)))
     have a4:∀w',Below N3 U w'→w'.cell? ⟨q2,o2+j*7+4,none⟩=some (.int .i64 ins.flags):=fun w' h=>e4 w' (hwU.out.trans (h.mono (by omega)))
     have a5:∀w',Below N3 U w'→w'.cell? ⟨q2,o2+j*7+5,none⟩=some (.slice A5 na k5):=fun w' h=>e5 w' (hwU.out.trans (h.mono (by omega)))
     have a6:∀w',Below N3 U w'→w'.cell? ⟨q2,o2+j*7+6,none⟩=some (.slice A6 nt k6):=fun w' h=>e6 w' (hwU.out.trans (h.mono (by omega)))
     clear e0 e1 e2 e3 e4 e5 e6
     obtain⟨A50,C50,hu50⟩:=(show∃A C,u5 = .slice A j C by
      have:=hOC.out.form
      rw [List.length_take,show min j x.length=j by have:=hm.out;omega] at this
      exact this)
     subst hu50
     go_upto_region 11 with(fail)
     have hB7:=Yu wr (.cells #[.int .i64 ins.op, .int .i64 ins.reg, .int .i64 ins.ty, .int .i64 ins.num, .int .i64 ins.flags, .slice A5 na k5, .slice A6 nt k6] 44)
     have hbX:=(Below.refl wr.heap.size wr).alloc (Nat.le_refl _) (.cells #[.int .i64 ins.op, .int .i64 ins.reg, .int .i64 ins.ty, .int .i64 ins.num, .int .i64 ins.flags, .slice A5 na k5, .slice A6 nt k6] 44)
     obtain⟨X1,hX1e⟩:∃X1,X1=wr.alloc (.cells #[.int .i64 ins.op, .int .i64 ins.reg, .int .i64 ins.ty, .int .i64 ins.num, .int .i64 ins.flags, .slice A5 na k5, .slice A6 nt k6] 44):=⟨_,rfl⟩
     have hX1s:X1.heap.size=wr.heap.size+1:=by rw [hX1e];simp
     rw [←hX1e] at hB7 hbX⊢
     obtain⟨N7,hN7⟩:∃N7,N7=wr.heap.size:=⟨_,rfl⟩
     have hN7X:N7<X1.heap.size:=by omega
     have h7a:wr.heap.size≤N7:=by omega
     have h7b:N7≤wr.heap.size:=by omega
     have hXa:wr.heap.size+1≤X1.heap.size:=by omega
     have hwX:Hid (Below w.heap.size w X1):=hide (hwU.out.trans ((hbr.trans (hbX.mono (by have:=hN0.out;omega))).mono (by omega)))
     have hbXr:=hide hbX
     rw [←hN7] at hB7⊢
     have hsX:=hwX.out.size
     refine hd2 hX1s hN7 ?_;clear hX1s hN7;intro hX1s hN7
     clear hX1e a0 a1 a2 a3 a4 a5 a6 hi1 hca hbX
     have hselfX:=Below.refl X1.heap.size X1
     have b0:∀w',Below X1.heap.size X1 w'→w'.cell? ⟨N7,5,none⟩=some (.slice A5 na k5):=fun w' h=>(h.cell (p:=⟨N7,5,none⟩) hN7X).trans (box7 hB7).2.2.2.2.2.1
     have b1:∀w',Below X1.heap.size X1 w'→w'.cell? ⟨N7,6,none⟩=some (.slice A6 nt k6):=fun w' h=>(h.cell (p:=⟨N7,6,none⟩) hN7X).trans (box7 hB7).2.2.2.2.2.2
     have hownA:Hid (X1.ownsRow X1.heap.size 62 3 (.slice none 0 0) 0 []):=hide ⟨rfl, .inl ⟨rfl,rfl⟩⟩
     have hsA:=hide (has X1 hwX.out)
     refine hd5 han htn hao hto hts ?_;clear han htn hao hto hts;intro han htn hao hto hts
     clear has
     go_upto_region 14 with(at_builtin;refine Zv _ rfl (.tmp 48) (.tmp 50) _ rfl X1.heap.size 62 j0 _ 3 24 Tryz.underlying42 hj0.out hj1.out hj2.out hj3.out rfl (by omega) (.slice none 0 0) 0 [] rfl hownA.out A5 na k5 (ins.args.flatMap oc) rfl (by rw [oc_len,←hna.out]) (fun e=>by have:=han.out e;omega) hsA.out (oc_one _) (by unfold maxLen;omega) (by omega) (Nat.le_refl _) ?_;intro v8 Y1 hownY hgY;rw [Nat.zero_add] at hownY;obtain⟨Aa,Ca,hv8⟩:=Yd hownY;subst hv8;have hbY1:Below X1.heap.size X1 Y1:=(Below.refl _ _).grown hgY (Nat.le_refl _) (fun k hk=>by cases hk);replace hownY:=hide hownY;clear hgY)
     have hOV:Hid (OwnV Y1 X1.heap.size (.slice Aa na Ca) ins.args):=hide ⟨by rw [←hna.out];exact hownY.out,hao.out⟩
     have hsY1:=hbY1.size
     have hownT:Hid (Y1.ownsRow Y1.heap.size 3 1 (.slice none 0 0) 0 []):=hide ⟨rfl, .inl ⟨rfl,rfl⟩⟩
     have hsT:=hide (hts.out Y1 (hwX.out.trans (hbY1.mono (by omega))))
     clear hownY hownA hsA
     go_upto_region 15 with(at_builtin;refine Zv _ rfl (.tmp 52) (.tmp 54) _ rfl Y1.heap.size 3 i0 _ 1 8 Tryz.underlying29 hi0.out hz0.out hz1.out hz2.out rfl (by omega) (.slice none 0 0) 0 [] rfl hownT.out A6 nt k6 (ins.to.map fun z=>Value.int .i64 z) rfl (by rw [List.length_map,←hnt.out];omega) (fun e=>by have:=htn.out e;omega) hsT.out (ints_one _) (by unfold maxLen;omega) (by omega) (Nat.le_refl _) ?_;intro v9 Y2 hownY hgY;rw [Nat.zero_add] at hownY;obtain⟨At,Ct,hv9⟩:=Yd hownY;subst hv9;have hbY2:Below Y1.heap.size Y1 Y2:=(Below.refl _ _).grown hgY (Nat.le_refl _) (fun k hk=>by cases hk);replace hownY:=hide hownY;clear hgY)
     have hOT:Hid (OwnI Y2 Y1.heap.size (.slice At nt Ct) ins.to):=hide ⟨by rw [←hnt.out];exact hownY.out,hto.out⟩
     have hOV2:Hid (OwnV Y2 X1.heap.size (.slice Aa na Ca) ins.args):=hide (hOV.out.kept fun k _ hk=>hbY2.block k hk)
     have hbX2:=hbY1.trans (hbY2.mono hsY1)
     have hsY2:=hbX2.size
     have hB2:=(hbX2.block N7 hN7X).trans hB7
     have t5:=(box7 hB2).2.2.2.2.2.1
     have t6:=(box7 hB2).2.2.2.2.2.2
     have f5:=Ym (j:=5) hB2
     have f6:=Ym (j:=6) hB2
     have hB4:=Yr (j:=6) (v := .slice At nt Ct) (Yr (j:=5) (v := .slice Aa na Ca) hB2)
     have hbX3:=hide hbX2
     clear hownY hownT hsT b0 b1 hselfX hbY1 hbY2 hOV hB7 hbX2
     go_upto_region 17 with(fail)
     obtain⟨Y4,hY4⟩:∃Y4,Y4=(Y2.setCell ⟨N7,5,none⟩ (.slice Aa na Ca)).setCell ⟨N7,6,none⟩ (.slice At nt Ct):=⟨_,rfl⟩
     have hY4far:∀k,k≠N7→Y4.heap[k]? = Y2.heap[k]? := fun k hk=>by rw [hY4,Below.heap_setCell _ _ _ _ hk,Below.heap_setCell _ _ _ _ hk]
     have hY4s:Y4.heap.size=Y2.heap.size:=by rw [hY4];simp [World.setCell]
     have hbr4:Below wr.heap.size wr Y4:=by
      rw [hY4]
      exact((hbXr.out.trans (hbX3.out.mono (by omega))).setCell (p:=⟨N7,5,none⟩) (by show wr.heap.size≤N7;omega) _).setCell (p:=⟨N7,6,none⟩) (by show wr.heap.size≤N7;omega) _
     rw [←hY4] at hB4⊢
     clear hY4 t5 t6 f5 f6 hB2
     have hB5:Y4.heap[N7]? = some (.cells #[.int .i64 ins.op, .int .i64 ins.reg, .int .i64 ins.ty, .int .i64 ins.num, .int .i64 ins.flags, .slice Aa na Ca, .slice At nt Ct] 44 (0,0)):=by simpa using hB4
     obtain⟨z0,z1,z2,z3,z4,z5,z6⟩:=box7 hB5
     have hV4:Hid (OwnV Y4 w0.heap.size (.slice Aa na Ca) ins.args):=hide ((hOV2.out.kept fun k h1 _=>hY4far k (by omega)).mono (by omega))
     have hT4:Hid (OwnI Y4 w0.heap.size (.slice At nt Ct) ins.to):=hide ((hOT.out.kept fun k h1 _=>hY4far k (by omega)).mono (by omega))
     obtain⟨xs,hown,hmore⟩:=hOC.out.more (w1:=Y4) fun k _ hk=>hbr4.block k hk
     have hVlo:Hid (∀k,Value.ownBlock (.slice Aa na Ca)=some k→wr.heap.size≤k):=hide (fun k hk=>by have:=(Ya hOV2.out.row hk).1;omega)
     have hTlo:Hid (∀k,Value.ownBlock (.slice At nt Ct)=some k→wr.heap.size≤k):=hide (fun k hk=>by have:=(Ya hOT.out.row hk).1;omega)
     rw [List.length_take,show min j x.length=j by have:=hm.out;omega] at hown hmore
     have hb4:=hide (hb0.trans (hbr4.mono hs0))
     have hs4:w0.heap.size≤Y4.heap.size:=hb4.out.size
     refine hd4 hown hmore hB5 hY4far ?_;clear hown hmore hB5 hY4far;intro hown hmore hB5 hY4far
     clear hB4 hbr4 hOV2 hOT hX1s hN7 hY4s hsX hsY1 hsY2 hN7X
     go_wp2_with (first
      | (at_builtin
         refine wpList_append_own _ rfl (.tmp 60) (.tmp 62) _ rfl w0.heap.size 44 m0 _ 7 88 Tryz.underlying39 hm0.out hm1.out hm2.out hm3.out rfl (by omega) (.slice A50 j C50) _ _ rfl (hown.out.alloc _) ⟨Y4.heap.size,0,none⟩ 1 1 [.int .i64 ins.op, .int .i64 ins.reg, .int .i64 ins.ty, .int .i64 ins.num, .int .i64 ins.flags, .slice Aa na Ca, .slice At nt Ct] rfl rfl ?c1 ?c2 ?c3 ?c4 ?c5 ?_
         case c1=>exact World.news_of_block (cs := #[.int .i64 ins.op, .int .i64 ins.reg, .int .i64 ins.ty, .int .i64 ins.num, .int .i64 ins.flags, .slice Aa na Ca, .slice At nt Ct]) (t := 44) (fr:=(0,0)) (heap_alloc_new Y4 _)
         case c2=>simp [Value.oneCell']
         case c3=>unfold maxLen;omega
         case c4=>omega
         case c5=>simp;omega
         intro v6 w6 hown6 hg6 _
         have hC6:=hide (hmore.out ins (.slice Aa na Ca) (.slice At nt Ct) w6 v6 hV4.out hT4.out hVlo.out hTlo.out hiok.out hown6 hg6)
         have hb6:Below w0.heap.size w0 w6:=(hb4.out.alloc hs4 _).grown hg6 (by simp;omega) (fun k hk=>(Ya hown.out hk).1)
         clear hown6 hg6))
     go_roundw
     case rel=>exact⟨j+1,by omega,by go_num,by rw [List.take_add_one,hins.out];exact hC6,hb6⟩
     case measure=>simp [intOf];omega
    ·obtain rfl : j = m := by omega
     rw [List.take_of_length_le (by have:=hm.out;omega)] at hOC
     obtain⟨A50,C50,hu50⟩:=(show∃A C,u5 = .slice A x.length C by
      exact hOC.out.form)
     rw [←hm.out] at hu50
     subst hu50
     have hNw:=(hb0.block N3 hN0.out).trans hNr.out
     have hOIw:=hide (hOI.out.kept (w':=wr) fun k _ hk=>hb0.block k hk)
     obtain⟨xs,hown,hmore⟩:=hOK.out.more (w1:=wr) fun k _ hk=>hb0.block k hk
     rw [List.length_take,show min k f.blocks.length=k by have:=hn.out;omega] at hown hmore
     obtain⟨Au,Cu,hu⟩:=Yd hown
     subst hu
     have t3:=(box4 hNw).2.2.2
     have hUw:V.heap.size≤wr.heap.size:=Nat.le_trans hUr.out hs0
     have hNwh:=hide hNw
     refine hd2 hown hmore ?_;clear hown hmore;intro hown hmore
     clear hNw
     go_wp2_with (first
      | (at_builtin
         refine wpList_append_own _ rfl (.tmp 65) (.tmp 68) _ rfl V.heap.size 41 p0 _ 1 24 Tryz.underlying30 hp0.out hp1.out hp2.out hp3.out rfl (by omega) (.slice Au k Cu) _ _ rfl (hown.out.alloc _) ⟨wr.heap.size,0,none⟩ 1 1 [.slice A50 j C50] rfl rfl ?c1 ?c2 ?c3 ?c4 ?c5 ?_
         case c1=>exact World.news_of_block (cs := #[.slice A50 j C50]) (t := 41) (fr:=(0,0)) (heap_alloc_new wr _)
         case c2=>simp [Value.oneCell']
         case c3=>unfold maxLen;omega
         case c4=>omega
         case c5=>simp;omega
         intro v6 w6 hown6 hg6 _
         have hK6:=hide (hmore.out x (.slice A50 j C50) w0.heap.size w6 v6 hOC.out hUr.out (Nat.le_refl _) hown6 hg6)
         have hbut:=But.grown hown.out hg6
         have hI6:Hid (OwnI w6 U.heap.size (.slice Av np Cv) f.params):=hide ⟨hbut.row (by decide) hOIw.out.row,hOIw.out.ok⟩
         have hN6:=hbut N3 _ _ _ hNwh.out (by decide)
         have hN6':=hide (hN6.trans hNwh.out)
         have hb6:Below N3 U w6:=(hbr.alloc (by omega) _).grown hg6 (by simp;omega) (fun i hi=>by have:=(Ya hown.out hi).1;omega)
         have hs6:wr.heap.size≤w6.heap.size:=by have:=hg6.size;simp at this;omega
         obtain⟨A6,C6,hv6⟩:=Yd hown6
         subst hv6
         have t6:=(box4 hN6'.out).2.2.2
         have f6:=Ym (j:=3) hN6'.out
         clear hown6 hg6 hbut hN6))
     have hfar:∀i,U.heap.size≤i→i≠N3:=fun i hi=>by omega
     go_roundw
     case rel =>
      refine⟨k+1,_,by omega,by go_num,hide (by simpa using Yr (j:=3) (v := .slice A6 (k+1) C6) hN6'.out),hide (hI6.out.kept fun i hi _=>Below.heap_setCell _ _ _ _ (hfar i hi)),hide ?_,hb6.setCell (p:=⟨N3,3,none⟩) (Nat.le_refl _) _,hide (by simp [World.setCell];omega)⟩
      rw [List.take_add_one,hx.out]
      exact hK6.out.kept fun i hi _=>Below.heap_setCell _ _ _ _ (hfar i (by omega))
     case measure=>simp [intOf];omega
  ·obtain rfl : k = n := by omega
   rw [List.take_of_length_le (by have:=hn.out;omega)] at hOK
   obtain⟨Au,Cu,hu⟩:=(show∃A C,u = .slice A f.blocks.length C by
    exact hOK.out.form)
   rw [←hn.out] at hu
   subst hu
   obtain⟨r0,r1,r2,r3⟩:=box4 hNr.out
   have hRw:=hide ((hbel.block (w.heap.size+1) hN3w).trans hRU.out)
   obtain⟨s0,s1,s2,s3⟩:=box4 hRw.out
   obtain⟨g0,g1,g2,g3⟩:=bf4 hRw.out
   have hsU:=hwU.out.size
   have hfar:∀i,U.heap.size≤i→i≠w.heap.size+1:=fun i hi=>by have:=hUr.out;omega
   have hbel2:=hide hbel
   go_wp2
   have hK9:∀(v0 v1 v2 v3:Value) (i:Nat),U.heap.size≤i→((((wr.setCell ⟨w.heap.size+1,0,none⟩ v0).setCell ⟨w.heap.size+1,1,none⟩ v1).setCell ⟨w.heap.size+1,2,none⟩ v2).setCell ⟨w.heap.size+1,3,none⟩ v3).heap[i]? = wr.heap[i]? := fun v0 v1 v2 v3 i hi=>by
    rw [Below.heap_setCell _ _ _ _ (hfar i hi),Below.heap_setCell _ _ _ _ (hfar i hi),Below.heap_setCell _ _ _ _ (hfar i hi),Below.heap_setCell _ _ _ _ (hfar i hi)]
   refine bodyPost_ret (v:=f.v (.slice Av np Cv) (.slice Au k Cu)) (by simp [results,Tryz.results9,go_sem,s0,s1,s2,s3,g0,g1,g2,g3]) rfl ⟨_,_,V.heap.size,rfl,(hOI.out.kept fun i hi _=>hK9 _ _ _ _ i hi).mono hsU,fun k hk=>hPlo.out k hk,hOK.out.kept fun i hi _=>hK9 _ _ _ _ i (by omega),by omega,?_⟩
   exact((((hwU.out.trans (hbel2.out.mono (by omega))).setCell (p:=⟨w.heap.size+1,0,none⟩) (Nat.le_succ _) _).setCell (p:=⟨w.heap.size+1,1,none⟩) (Nat.le_succ _) _).setCell (p:=⟨w.heap.size+1,2,none⟩) (Nat.le_succ _) _).setCell (p:=⟨w.heap.size+1,3,none⟩) (Nat.le_succ _) _
def Done (i k j p q r:Nat):Prop:=p<i∨(p=i∧(q<k∨(q=k∧r<j)))
instance (i k j p q r:Nat):Decidable (Done i k j p q r):=by unfold Done;exact inferInstance
def progTo (a b:Int) (i k j p q:Nat) (l:List Int):List Int:=l.mapIdx fun r t=>if Done i k j p q r then mv a b t else t
def progIns (a b:Int) (i k j p q:Nat) (x:Ins):Ins:=setTo x (progTo a b i k j p q x.to)
def progCode (a b:Int) (i k j p:Nat) (c:List Ins):List Ins:=c.mapIdx fun q x=>progIns a b i k j p q x
def prog (a b:Int) (i k j:Nat) (bs:List (List Ins)):List (List Ins):=bs.mapIdx fun p c=>progCode a b i k j p c
theorem cellsOf_set {l:List Ins} {es:List (Value×Value)} {k:Nat} {x x':Ins} (hx:l[k]? = some x) (h:∀c d,insC x' c d=insC x c d):cellsOf (l.set k x') es=cellsOf l es:=by
 unfold cellsOf
 congr 1
 refine List.ext_getElem? fun q => ?_
 rw [List.getElem?_zipWith,List.getElem?_zipWith]
 by_cases hq:k=q
 ·subst hq
  rw [Jf (Js.1 hx).1,hx]
  cases es[k]? with
  | none=>rfl
  | some e=>simp only [h]
 ·rw [Je hq]
theorem nd_flat {ess:List (List (Value×Value))} (h:Nd (ess.flatten.map Prod.snd)) {p q:Nat} {es es':List (Value×Value)} (hp:ess[p]? = some es) (hq:ess[q]? = some es') (hpq:p≠q) {e e':Value×Value} (he:e∈es) (he':e'∈es') {k:Nat} (hk:e.2.ownBlock=some k):e'.2.ownBlock≠some k:=by
 intro hk'
 have key:∀(p q:Nat) (es es':List (Value×Value)) (e e':Value×Value),p<q→ess[p]? = some es→ess[q]? = some es'→e∈es→e'∈es'→e.2.ownBlock=some k→e'.2.ownBlock=some k→False:=by
  intro p q es es' e e' hpq hp hq he he' hk hk'
  have h1:ess=ess.take q++ess.drop q:=(List.take_append_drop q ess).symm
  unfold Nd at h
  rw [h1,List.flatten_append,List.map_append,List.filterMap_append,List.nodup_append] at h
  refine h.2.2 k (Ybl.2 ⟨e.2,List.mem_map.2 ⟨e,List.mem_flatten.2 ⟨es,?_,he⟩,rfl⟩,hk⟩) k (Ybl.2 ⟨e'.2,List.mem_map.2 ⟨e',List.mem_flatten.2 ⟨es',?_,he'⟩,rfl⟩,hk'⟩) rfl
  ·exact Jm (i:=p) (by rw [List.getElem?_take,if_pos hpq];exact hp)
  ·exact Jm (i:=0) (by rw [List.getElem?_drop,Nat.add_zero];exact hq)
 rcases Nat.lt_or_ge p q with h1|h1
 ·exact key p q es es' e e' h1 hp hq he he' hk hk'
 ·exact key q p es' es e' e (by omega) hq hp he' he hk' hk
theorem Yq.put_to {w : World} {B : Nat} {v : Value} {bs : List (List Ins)} {xs : List Value} {ess : List (List (Value × Value))} (h : Yq w B v bs xs ess) {i k j g n cap : Nat} {c : List Ins} {x : Ins} {es : List (Value × Value)} {cv : Value} {z : Int}
  (hc:bs[i]? = some c) (hes:ess[i]? = some es) (hx:c[k]? = some x) (he:es[k]? = some (cv, .slice (some ⟨g,0,none⟩) n cap)) (hj:j<x.to.length) (hz:I64 z) :
  Yq (w.setCell ⟨g,j,none⟩ (.int .i64 z)) B v (bs.set i (c.set k (setTo x (x.to.set j z)))) xs ess:=by
 have hil:=(Js.1 hc).1
 have hkl:=(Js.1 hx).1
 have hxi:xs[i]? = some (xs[i]'(by rw [h.lenx];exact hil)):=Jg _
 have hci:=h.inn i _ c es hxi hc hes
 obtain⟨-,hto, -⟩:=hci.inn k x _ hx he
 have hn:n=x.to.length:=by
  obtain⟨A,C,e⟩:=Yd hto.row
  cases e;rfl
 subst hn
 have hbut:=But.stored (j:=j) (u := .int .i64 z) hto.row
 have hst:=(World.ownsRow.stored hto.row j (.int .i64 z)).1
 rw [map_set] at hst
 have hfar:∀(u:Value) (l:List Int),OwnI w B u l→(u.ownBlock≠some g)→OwnI (w.setCell ⟨g,j,none⟩ (.int .i64 z)) B u l:=fun u l hu hg =>
  ⟨Yc hu.row fun k' hk'=>Below.heap_setCell _ _ _ _ (fun e=>hg (by have e':k'=g:=e;rw [hk',e'])),hu.ok⟩
 refine⟨by rw [List.length_set];exact hbut.row (by decide) h.row,by rw [List.length_set];exact h.lene,fun p y d fs hy hd hf => ?_,h.ndx,h.nda,h.ndt⟩
 by_cases hip:i=p
 ·subst hip
  rw [Jf hil] at hd
  rw [hes] at hf
  rw [hxi] at hy
  cases hd;cases hf;cases hy
  refine⟨by rw [List.length_set];exact hci.len,by rw [cellsOf_set (x':=setTo x (x.to.set j z)) hx (fun _ _=>rfl),List.length_set];exact hbut.row (by decide) hci.row,fun q y e hy he' => ?_,hci.nda,hci.ndt⟩
  by_cases hkq:k=q
  ·subst hkq
   rw [Jf hkl] at hy
   rw [he] at he'
   cases hy;cases he'
   obtain⟨ha,ht,hok⟩:=hci.inn k x _ hx he
   exact⟨⟨hbut.row (by decide) ha.row,ha.ok⟩,⟨by show(w.setCell _ _).ownsRow B 3 1 _ (x.to.set j z).length _;rw [List.length_set];exact hst,fun y hy=>by
    rcases List.mem_or_eq_of_mem_set hy with hy|rfl
    ·exact ht.ok y hy
    ·exact hz⟩,hok⟩
  ·rw [Je hkq] at hy
   obtain⟨ha,ht,hok⟩:=hci.inn q y e hy he'
   refine⟨⟨hbut.row (by decide) ha.row,ha.ok⟩,hfar _ _ ht ?_,hok⟩
   exact nd_ne hci.ndt (i:=k) (j:=q) (by rw [List.getElem?_map,he];rfl) (by rw [List.getElem?_map,he'];rfl) hkq rfl
 ·rw [Je hip] at hd
  have hcp:=h.inn p y d fs hy hd hf
  refine⟨hcp.len,hbut.row (by decide) hcp.row,fun q u e hu he' => ?_,hcp.nda,hcp.ndt⟩
  obtain⟨ha,ht,hok⟩:=hcp.inn q u e hu he'
  refine⟨⟨hbut.row (by decide) ha.row,ha.ok⟩,hfar _ _ ht ?_,hok⟩
  exact nd_flat h.ndt hes hf hip (Jm he) (Jm he') rfl
def Ys (gone:List Bool) (t:Nat):Nat:=((gone.take t).filter fun g => !g).length
def renT (gone:List Bool) (t:Int):Int:=Ys gone t.toNat
def renI (gone:List Bool) (x:Ins):Ins:=setTo x (x.to.map (renT gone))
def Z1 (gone:List Bool) (n:Nat):List Nat:=(List.range n).filter fun b => !(gone.getD b false)
def Yn (gone:List Bool) (bs:List (List Ins)):List (List Ins):=(Z1 gone bs.length).map fun b=>(bs.getD b []).map (renI gone)
theorem Ybg {gone:List Bool} {b:Nat} {g:Bool} (h:gone[b]? = some g):Ys gone (b+1)=Ys gone b+if g then 0 else 1:=by
 unfold Ys
 rw [List.take_add_one,h]
 cases g<;>simp [List.filter_append]
theorem leftN_le (gone:List Bool) (b:Nat):Ys gone b≤b:=by
 unfold Ys
 have h1:=List.length_filter_le (fun g => !g) (gone.take b)
 rw [List.length_take] at h1
 omega
theorem keptN_next {gone:List Bool} {b:Nat} {g:Bool} (h:gone[b]? = some g):Z1 gone (b+1)=Z1 gone b++if g then [] else [b]:=by
 unfold Z1
 rw [List.range_succ,List.filter_append]
 congr 1
 rw [List.filter_cons,Jq,h]
 cases g<;>rfl
theorem keptN_len {gone : List Bool} : ∀ {b : Nat}, b ≤ gone.length → (Z1 gone b).length = Ys gone b
 | 0,_=>by simp [Z1,Ys]
 | b+1,h=>by
  have h1:gone[b]? = some (gone[b]'(by omega)):=Jg _
  rw [keptN_next h1,Ybg h1,List.length_append,keptN_len (by omega)]
  cases gone[b]'(by omega)<;>rfl
def atL (gone:List Bool) (n i:Nat):List Int:=(List.range i).map (fun b=>(Ys gone b:Int))++List.replicate (n - i) 0
theorem atL_zero (gone:List Bool) (n:Nat):atL gone n 0=List.replicate n 0:=by simp [atL]
theorem atL_next {gone:List Bool} {n i:Nat} (h:i<n):(atL gone n i).set i (Ys gone i:Int)=atL gone n (i+1):=by
 unfold atL
 have h1:((List.range i).map fun b=>(Ys gone b:Int)).length=i:=by simp
 rw [List.set_append_right _ _ (by omega),h1,Nat.sub_self,show n - i=n - (i+1)+1 by omega,List.replicate_succ,List.set_cons_zero,List.range_succ,List.map_append]
 simp
theorem atL_end {gone:List Bool} {n t:Nat} (h:t<n):(atL gone n n)[t]? = some (Ys gone t:Int):=by
 unfold atL
 rw [Nat.sub_self,List.replicate_zero,List.append_nil,List.getElem?_map,List.getElem?_range h]
 rfl
def renX (gone:List Bool) (x:Ins) (k:Nat):Ins:=setTo x ((x.to.take k).map (renT gone)++x.to.drop k)
theorem renX_zero (gone:List Bool) (x:Ins):renX gone x 0=x:=by simp [renX,setTo]
theorem renX_end (gone:List Bool) (x:Ins):renX gone x x.to.length=renI gone x:=by simp [renX,renI]
theorem renX_to (gone:List Bool) (x:Ins) (k:Nat):(renX gone x k).to.length=x.to.length:=by
 show((x.to.take k).map (renT gone)++x.to.drop k).length=_
 simp;omega
theorem renX_at {gone:List Bool} {x:Ins} {k:Nat} {t:Int} (h:x.to[k]? = some t):(renX gone x k).to[k]? = some t:=by
 have h1:=(Js.1 h).1
 show((x.to.take k).map (renT gone)++x.to.drop k)[k]? = _
 rw [List.getElem?_append_right (by simp;omega),List.length_map,List.length_take,Nat.min_eq_left (by omega),Nat.sub_self,List.getElem?_drop]
 exact h
theorem renX_next {gone:List Bool} {x:Ins} {k:Nat} {t:Int} (h:x.to[k]? = some t):setTo (renX gone x k) ((renX gone x k).to.set k (renT gone t))=renX gone x (k+1):=by
 have h1:=(Js.1 h).1
 have h2:x.to.drop k=t :: x.to.drop (k+1):=by
  rw [Jg h1] at h
  injection h with h
  rw [←h,List.getElem_cons_drop]
 have h3:((x.to.take k).map (renT gone)).length=k:=by simp;omega
 unfold renX
 show setTo (setTo x _) (((x.to.take k).map (renT gone)++x.to.drop k).set k (renT gone t))=_
 rw [h2,List.set_append_right _ _ (by omega),h3,Nat.sub_self,List.set_cons_zero,List.take_add_one,h]
 simp [setTo]
def renL (gone:List Bool) (l:List Ins) (i:Nat):List Ins:=(l.take i).map (renI gone)++l.drop i
theorem renL_zero (gone:List Bool) (l:List Ins):renL gone l 0=l:=by simp [renL]
theorem renL_end (gone:List Bool) (l:List Ins):renL gone l l.length=l.map (renI gone):=by simp [renL]
theorem renL_len (gone:List Bool) (l:List Ins) (i:Nat):(renL gone l i).length=l.length:=by unfold renL;simp;omega
theorem renL_at {gone:List Bool} {l:List Ins} {i:Nat} {x:Ins} (h:l[i]? = some x):(renL gone l i)[i]? = some x:=by
 have h1:=(Js.1 h).1
 unfold renL
 rw [List.getElem?_append_right (by simp;omega),List.length_map,List.length_take,Nat.min_eq_left (by omega),Nat.sub_self,List.getElem?_drop]
 exact h
theorem renL_next {gone:List Bool} {l:List Ins} {i:Nat} {x:Ins} (h:l[i]? = some x):(renL gone l i).set i (renI gone x)=renL gone l (i+1):=by
 have h1:=(Js.1 h).1
 have h2:l.drop i=x :: l.drop (i+1):=by
  rw [Jg h1] at h
  injection h with h
  rw [←h,List.getElem_cons_drop]
 have h3:((l.take i).map (renI gone)).length=i:=by simp;omega
 unfold renL
 rw [h2,List.set_append_right _ _ (by omega),h3,Nat.sub_self,List.set_cons_zero,List.take_add_one,h]
 simp
def renB (gone:List Bool) (bs:List (List Ins)) (b:Nat):List (List Ins):=bs.mapIdx fun j l=>if j<b∧gone.getD j false=false then l.map (renI gone) else l
theorem renB_zero (gone:List Bool) (bs:List (List Ins)):renB gone bs 0=bs:=by
 unfold renB
 apply List.ext_getElem?
 intro j
 rw [List.getElem?_mapIdx]
 cases bs[j]? <;> simp
theorem Yav (gone:List Bool) (bs:List (List Ins)) (b:Nat):(renB gone bs b).length=bs.length:=by simp [renB]
theorem renB_at {gone:List Bool} {bs:List (List Ins)} {b j:Nat} {l:List Ins} (h:bs[j]? = some l) (hj:b≤j):(renB gone bs b)[j]? = some l:=by
 unfold renB
 rw [List.getElem?_mapIdx,h]
 simp
 intro h1
 omega
theorem renB_next {gone:List Bool} {bs:List (List Ins)} {b:Nat} {l:List Ins} (h:bs[b]? = some l) (hg:gone[b]? = some false):(renB gone bs b).set b (l.map (renI gone))=renB gone bs (b+1):=by
 have hg':gone.getD b false=false:=by rw [Jq,hg];rfl
 apply List.ext_getElem?
 intro j
 by_cases e:b=j
 ·subst e
  rw [Jf (by rw [Yav];exact(Js.1 h).1)]
  unfold renB
  rw [List.getElem?_mapIdx,h]
  simp only [Option.map_some]
  rw [if_pos ⟨Nat.lt_succ_self b,hg'⟩]
 ·rw [Je e]
  unfold renB
  rw [List.getElem?_mapIdx,List.getElem?_mapIdx]
  have:(j<b∧gone.getD j false=false)↔(j<b+1∧gone.getD j false=false):=by
   constructor
   ·rintro⟨h1,h2⟩;exact⟨by omega,h2⟩
   ·rintro⟨h1,h2⟩;exact⟨by omega,h2⟩
  simp only [this]
theorem renB_gone {gone:List Bool} {bs:List (List Ins)} {b:Nat} (hg:gone[b]? = some true):renB gone bs b=renB gone bs (b+1):=by
 have hg':gone.getD b false=true:=by rw [Jq,hg];rfl
 unfold renB
 congr 1
 funext j l
 have:(j<b∧gone.getD j false=false)↔(j<b+1∧gone.getD j false=false):=by
  constructor
  ·rintro⟨h1,h2⟩;exact⟨by omega,h2⟩
  ·rintro ⟨h1, h2⟩
   refine⟨?_,h2⟩
   by_cases e:j=b
   ·subst e;rw [hg'] at h2;cases h2
   ·omega
 simp only [this]
theorem renB_end {gone:List Bool} {bs:List (List Ins)}:(Z1 gone bs.length).map (fun b=>(renB gone bs bs.length).getD b [])=Yn gone bs:=by
 unfold Yn
 apply List.map_congr_left
 intro b hb
 obtain⟨h1,h2⟩:=List.mem_filter.1 hb
 have h3:=List.mem_range.1 h1
 have h4:gone.getD b false=false:=by simpa using h2
 unfold renB
 rw [Jq,List.getElem?_mapIdx,Jg h3,Jq (l:=bs),Jg h3]
 simp only [Option.map_some,Option.getD_some]
 rw [if_pos ⟨h3,h4⟩]
theorem Zt {α:Type} {l:List α} {k:Nat} {z:α} (h:k<l.length):l[k]? = some (l.getD k z):=by
 rw [Jq,Jg h];rfl
theorem nd_pick {vs:List Value} (h:Nd vs) {ks:List Nat} (hk:ks.Nodup) (hl:∀k,k∈ks→k<vs.length) (z:Value):Nd (ks.map fun k=>vs.getD k z):=by
 rw [nd_iff] at h⊢
 intro i j u v k hi hj hu hv
 rw [List.getElem?_map] at hi hj
 cases hi':ks[i]? with
 | none=>rw [hi'] at hi;cases hi
 | some a =>
  cases hj':ks[j]? with
  | none=>rw [hj'] at hj;cases hj
  | some b =>
   rw [hi'] at hi
   rw [hj'] at hj
   cases hi;cases hj
   have la:=hl a (Jm hi')
   have lb:=hl b (Jm hj')
   have ea:vs[a]? = some (vs.getD a z):=by rw [Jq,Jg la];rfl
   have eb:vs[b]? = some (vs.getD b z):=by rw [Jq,Jg lb];rfl
   have e:=h a b _ _ k ea eb hu hv
   subst e
   have h1:=(Js.1 hi').1
   have h2:=(Js.1 hj').1
   rw [Jg h1] at hi'
   rw [Jg h2] at hj'
   exact(List.getElem_inj hk).1 ((Option.some.inj hi').trans (Option.some.inj hj').symm)
theorem nd2_pick {α:Type} {f:α→Value} {ess:List (List α)} (h:Nd2 f ess) {ks:List Nat} (hk:ks.Nodup) (hl:∀k,k∈ks→k<ess.length):Nd2 f (ks.map fun k=>ess.getD k []):=by
 obtain⟨g1,g2⟩:=h
 have key:∀(i:Nat) a,(ks.map fun k=>ess.getD k [])[i]? = some a→∃k,ks[i]? = some k∧ess[k]? = some a:=fun i a hi=>by
  rw [List.getElem?_map] at hi
  cases hi':ks[i]? with
  | none=>rw [hi'] at hi;cases hi
  | some k =>
   rw [hi'] at hi
   cases hi
   have lk:=hl k (Jm hi')
   exact⟨k,rfl,Zt lk⟩
 refine⟨fun i a hi => ?_,fun i j a b e e' k hij hi hj hea heb hk1 => ?_⟩
 ·obtain ⟨k, -, h2⟩ := key i a hi
  exact g1 k a h2
 ·obtain ⟨k1, h1, h2⟩ := key i a hi
  obtain⟨k2,h3,h4⟩:=key j b hj
  refine g2 k1 k2 a b e e' k (fun e9=>hij ?_) h2 h4 hea heb hk1
  subst e9
  have l1:=(Js.1 h1).1
  have l2:=(Js.1 h3).1
  rw [Jg l1] at h1
  rw [Jg l2] at h3
  exact(List.getElem_inj hk).1 ((Option.some.inj h1).trans (Option.some.inj h3).symm)
theorem Yq.pick {w : World} {d v' : Value} {bs : List (List Ins)} {xs : List Value} {ess : List (List (Value × Value))} (h : Yq w 0 d bs xs ess) {ks : List Nat} (hk : ks.Nodup) (hl : ∀ k, k ∈ ks → k < bs.length)
  (hr:w.ownsRow 0 41 1 v' ks.length (ks.map fun k=>xs.getD k (.slice none 0 0))):Yq w 0 v' (ks.map fun k=>bs.getD k []) (ks.map fun k=>xs.getD k (.slice none 0 0)) (ks.map fun k=>ess.getD k []):=by
 have hlx:=h.lenx
 have hle:=h.lene
 refine⟨by rw [List.length_map];exact hr,by simp,fun i x b es hx hb he => ?_,nd_pick h.ndx hk (fun k hk'=>by rw [hlx];exact hl k hk') _,Qx.2 (nd2_pick (Qx.1 h.nda) hk fun k hk'=>by rw [hle];exact hl k hk'),Qx.2 (nd2_pick (Qx.1 h.ndt) hk fun k hk'=>by rw [hle];exact hl k hk')⟩
 rw [List.getElem?_map] at hx hb he
 cases hi:ks[i]? with
 | none=>rw [hi] at hx;cases hx
 | some k =>
  rw [hi] at hx hb he
  have lk:=hl k (Jm hi)
  cases hx;cases hb;cases he
  refine h.inn k _ _ _ ?_ ?_ ?_
  ·exact Zt (by omega)
  ·exact Zt lk
  ·exact Zt (by omega)
theorem keptN_nodup (gone:List Bool) (n:Nat):(Z1 gone n).Nodup:=List.Pairwise.filter _ List.nodup_range
theorem keptN_lt {gone:List Bool} {n k:Nat} (h:k∈Z1 gone n):k<n:=List.mem_range.1 (List.mem_filter.1 h).1
theorem MF.cut {w:World} {T:Nat→Prop} {N:Nat} {f:Fun} {c d:Value} (h:MF w T N f c d):MF w (fun k=>T k∧k<w.heap.size) N f c d:=by
 obtain⟨xs,ess,h1,h2⟩:=h.tree
 exact⟨h.box,⟨xs,ess,h1,fun k hk=>⟨h2 k hk,h1.tb_lt hk⟩⟩,h.par,fun k hk=>⟨fun h9=>(h.far k hk).1 h9.1,(h.far k hk).2⟩,fun h9=>h.out h9.1,h.ret,h.nm⟩
theorem MF.store_d {w0 w : World} {T T' : Nat → Prop} {N : Nat} {f : Fun} {c d d' : Value} {bs : List (List Ins)} {xs : List Value} {ess : List (List (Value × Value))} (h : MF w0 T N f c d) (ho : Only T w0.heap.size w0 w) (hk : Yq w 0 d' bs xs ess) (hT : ∀ k, TB d' xs ess k → T' k) (hTT : ∀ k, T' k → T k ∨ w0.heap.size ≤ k) :
  MF (w.setCell ⟨N,3,none⟩ d') T' N (Ye f bs) c d'∧Only (fun k=>k=N∨T k) w0.heap.size w0 (w.setCell ⟨N,3,none⟩ d'):=by
 have hN:¬T' N:=fun h9=>by
  rcases hTT N h9 with h1|h1
  ·exact h.out h1
  ·have:=h.lt;omega
 have hbox:w.heap[N]? = some (.cells #[.string f.name,c, .int .i64 f.ret,d] 32 (0,0)):=by
  rw [ho.block N h.lt h.out]
  exact h.box
 refine⟨⟨?_,⟨xs,ess,hk.tb_kept fun k h1 h2=>Below.heap_setCell w ⟨N,3,none⟩ d' k (fun e=>hN (by have e':k=N:=e;rw [←e'];exact hT k h2)),hT⟩,⟨Yc h.par.row fun k hv => ?_,h.par.ok⟩,fun k hv=>⟨fun h9 => ?_,(h.far k hv).2⟩,hN,h.ret,h.nm⟩,Only.setCell (S:=fun k=>k=N∨T k) (ho.more fun k _ h9=>Or.inr h9) (p:=⟨N,3,none⟩) (.inl (.inl rfl)) _⟩
 ·rw [heap_setCell_same w N 3 _ _ d' hbox]
  rfl
 ·have e1 := (h.far k hv).2
  rw [Below.heap_setCell w ⟨N,3,none⟩ d' k e1]
  exact ho.block k (Ya h.par.row hv).2.1 (h.far k hv).1
 ·rcases hTT k h9 with h1 | h1
  ·exact(h.far k hv).1 h1
  ·have:=(Ya h.par.row hv).2.1;omega
end Go.Proofs.YtamjcafjdioidaaGreat
