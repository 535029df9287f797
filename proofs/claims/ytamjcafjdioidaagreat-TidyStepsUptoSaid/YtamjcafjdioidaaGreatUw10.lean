/- Texts of the chain, without what is not wanted: IcB, IcC, IcD, IcE. No condition but sizes. -/
import Derived.RegionTactic
import Derived.Test.YtamjcafjdioidaaGreatUw09
set_option linter.unusedVariables false
set_option linter.unusedSimpArgs false
set_option maxRecDepth 100000
set_option maxHeartbeats 12800000
namespace Go.Proofs.YtamjcafjdioidaaGreat
open Go.RowKit
theorem icopytree_any (f : Fun) (c1 d1 : Value) (w : World) (B : Nat) (hB : B ≤ w.heap.size) (hf : RFun.rep w B [.string f.name, c1, .int .i64 f.ret, d1] f) (hs : Zo f) :
  Calls Tryz.prog 23 #[f.v c1 d1] w (CopyTree f w):=by
 obtain⟨hp,hb⟩:=Yk (RFun.later hf (Below.refl _ _) hB)
 obtain⟨A0,k0,hc1, -, -⟩:=Rp.slice1_open hp
 cases hc1
 obtain⟨-,hpn,hpo,hps⟩:=ints_src hp
 obtain⟨A1,k1,rfl,hl1,ga⟩:=blks_at hb
 have hprep:Hid (Z4.rep w w.heap.size [.slice A0 f.params.length k0] f.params):=hide hp
 clear hf hp hb
 obtain⟨np,hnp⟩:=Jn (f.params.length)
 obtain⟨n,hn⟩:=Jn (f.blocks.length)
 have hnp8:=hs.params
 have hn8:=hs.blocks
 have hcode:=hide hs.code
 rw [←hnp.out] at hpn hnp8 hprep⊢
 rw [←hn.out] at hl1 hn8⊢
 obtain⟨W,hW,hwW,hWs,hx, -⟩:=Ql w #[.string f.name, .slice A0 np k0, .int .i64 f.ret, .slice A1 n k1] #[.string ⟨#[]⟩, .slice none 0 0, .int .i64 0, .slice none 0 0] 32 32
 have hR:W.heap[w.heap.size+1]? = some (.cells #[.string ⟨#[]⟩, .slice none 0 0, .int .i64 0, .slice none 0 0] 32 (0,0)):=by
  rw [←hW]
  have:=Yu (w.alloc (.cells #[.string f.name, .slice A0 np k0, .int .i64 f.ret, .slice A1 n k1] 32)) (.cells #[.string ⟨#[]⟩, .slice none 0 0, .int .i64 0, .slice none 0 0] 32)
  simpa using this
 have x0:=hx 0 _ rfl
 have x1:=hx 1 _ rfl
 have x2:=hx 2 _ rfl
 have x3:=hx 3 _ rfl
 clear hx
 have hws:w.heap.size+1<W.heap.size:=by omega
 refine hd3 hWs hW hR ?_;clear hWs hW hR;intro hWs hW hR
 obtain⟨i0,hi0,hz0,hz1,hz2⟩:=Yh Z5
 obtain⟨j0,hj0,hj1,hj2,hj3⟩:=Yh Q8
 obtain⟨m0,hm0,hm1,hm2,hm3⟩:=Yh Ya5
 obtain⟨p0,hp0,hp1,hp2,hp3⟩:=Yh cinfo_Block
 refine hd12 hi0 hz0 hz1 hz2 hj0 hj1 hj2 hj3 hm0 hm1 hm2 hm3 ?_;clear hi0 hz0 hz1 hz2 hj0 hj1 hj2 hj3 hm0 hm1 hm2 hm3;intro hi0 hz0 hz1 hz2 hj0 hj1 hj2 hj3 hm0 hm1 hm2 hm3
 refine hd9 hp0 hp1 hp2 hp3 ga hpn hpo hps hs ?_;clear hp0 hp1 hp2 hp3 ga hpn hpo hps hs;intro hp0 hp1 hp2 hp3 ga hpn hpo hps hs
 have hself:=Below.refl W.heap.size W
 go_enter Tryz.func23,Tryz.ntmps23
 go_upto_region 1 with(fail)
 rw [hW.out]
 clear hW
 go_upto_region 2 with(fail)
 have hN3:=Yu W (.cells #[.string f.name, .slice A0 np k0, .int .i64 f.ret, .slice A1 n k1] 32)
 have hWU:=hself.alloc (Nat.le_refl _) (.cells #[.string f.name, .slice A0 np k0, .int .i64 f.ret, .slice A1 n k1] 32)
 obtain⟨U,hU⟩:∃U,U=W.alloc (.cells #[.string f.name, .slice A0 np k0, .int .i64 f.ret, .slice A1 n k1] 32):=⟨_,rfl⟩
 have hUs:U.heap.size=W.heap.size+1:=by rw [hU];simp
 rw [←hU] at hN3 hWU⊢
 clear hU
 obtain⟨N3,hNe⟩:∃N3,N3=W.heap.size:=⟨_,rfl⟩
 have hN3w:w.heap.size+1<N3:=by rw [hNe];exact hws
 have hNU:N3<U.heap.size:=by omega
 have y0:∀w',Below N3 U w'→w'.cell? ⟨w.heap.size,0,none⟩=some (.string f.name):=fun w' h=>x0 w' (by rw [←hNe];exact(hNe▸hWU).trans h)
 have y1:∀w',Below N3 U w'→w'.cell? ⟨w.heap.size,1,none⟩=some (.slice A0 np k0):=fun w' h=>x1 w' (by rw [←hNe];exact(hNe▸hWU).trans h)
 have y2:∀w',Below N3 U w'→w'.cell? ⟨w.heap.size,2,none⟩=some (.int .i64 f.ret):=fun w' h=>x2 w' (by rw [←hNe];exact(hNe▸hWU).trans h)
 have y3:∀w',Below N3 U w'→w'.cell? ⟨w.heap.size,3,none⟩=some (.slice A1 n k1):=fun w' h=>x3 w' (by rw [←hNe];exact(hNe▸hWU).trans h)
 have hwU:Hid (Below w.heap.size w U):=hide (hwW.trans (hWU.mono (by omega)))
 have hRU:Hid (U.heap[w.heap.size+1]? = some (.cells #[.string ⟨#[]⟩, .slice none 0 0, .int .i64 0, .slice none 0 0] 32 (0,0))):=hide ((hWU.block _ hws).trans hR.out)
 rw [←hNe] at hN3⊢
 clear x0 x1 x2 x3 hself hWU hwW hR hUs hNe hws hWs
 have hselfU:=Below.refl N3 U
 have hselfUU:=Below.refl U.heap.size U
 have cP:=hide (clone_nums (.slice A0 np k0) f.params U (Z4.later hprep.out (hwU.out) hwU.out.size) (by rw [←hnp.out];exact hnp8))
 go_upto_region 4 with (first
  | (go_at_call 52
     refine cP.out.mono ?_
     rintro e Y ⟨v1,rfl,hOI0,hbY⟩
     obtain⟨Av,Cv,hv1⟩:=Yd hOI0.row
     subst hv1
     rw [←hnp.out] at hOI0⊢
     have hNY:=hide ((hbY.block N3 hNU).trans hN3)
     have t1:=(box4 hNY.out).2.1
     have t3:=(box4 hNY.out).2.2.2
     have ft1:=Ym (j:=1) hNY.out
     have ft3:=Ym (j:=3) hNY.out
     have hOI1:=hide hOI0
     have hbY1:=hide hbY
     clear hOI0 hbY))
 have hNV:=Yr (j:=3) (v:=(Value.slice none 0 0)) (Yr (j:=1) (v:=(Value.slice Av np Cv)) hNY.out)
 have hOI:Hid (OwnI ((Y.setCell ⟨N3,1,none⟩ (Value.slice Av np Cv)).setCell ⟨N3,3,none⟩ (Value.slice none 0 0)) U.heap.size (Value.slice Av np Cv) f.params):=hide (hOI1.out.kept fun k hk _=>(Below.heap_setCell _ _ _ _ (by show k≠N3;omega)).trans (Below.heap_setCell _ _ _ _ (by show k≠N3;omega)))
 have hbV:=(((hbY1.out.mono (Nat.le_of_lt hNU)).setCell (p:=⟨N3,1,none⟩) (Nat.le_refl _) (Value.slice Av np Cv)).setCell (p:=⟨N3,3,none⟩) (Nat.le_refl _) (Value.slice none 0 0):Below N3 U _)
 obtain⟨V,hV⟩:∃V,V=(Y.setCell ⟨N3,1,none⟩ (Value.slice Av np Cv)).setCell ⟨N3,3,none⟩ (Value.slice none 0 0):=⟨_,rfl⟩
 rw [←hV] at hNV hOI hbV⊢
 have hPlo:Hid (∀k,Value.ownBlock (.slice Av np Cv)=some k→k<V.heap.size):=hide (fun k hk=>(Ya hOI.out.row hk).2.1)
 clear hV hNY t1 t3 ft1 ft3 hbY1 hOI1 hselfU hselfUU hN3 cP
 have hNV':Hid (V.heap[N3]? = some (.cells #[.string f.name,(Value.slice Av np Cv), .int .i64 f.ret, .slice none 0 0] 32 (0,0))):=hide (by simpa using hNV)
 clear hNV
 go_wp2_with fail
 go_loopw [18] (fun u4 wr=>∃(k:Nat) (u:Value),k≤n∧u4 = .int .i64 k∧Hid (wr.heap[N3]? = some (.cells #[.string f.name,(Value.slice Av np Cv), .int .i64 f.ret,u] 32 (0,0)))∧Hid (OwnI wr U.heap.size (Value.slice Av np Cv) f.params)∧Hid (OwnK2 wr V.heap.size u (f.blocks.take k))∧Below N3 U wr∧Hid (V.heap.size≤wr.heap.size)) (fun u4 _=>n - (intOf u4).toNat)
 case atStart=>exact⟨0,_,Nat.zero_le _,rfl,hNV',hOI,hide OwnK2.nil_,hbV,hide (Nat.le_refl _)⟩
 case round =>
  have hUV:U.heap.size≤V.heap.size:=hbV.size
  clear hNV' hOI hbV
  obtain⟨k,u,hk,rfl,hNr,hOI,hOK,hbel,hUr⟩:=hrel
  by_cases hlt:k<n
  ·obtain ⟨q1, o1, rfl, he1⟩ := ga.out (by rw [← hn.out]; omega)
   obtain⟨x,hx⟩:=Yf (l:=f.blocks) (k:=k) (by rw [←hn.out];exact hlt)
   obtain⟨A3,k3,c3,hl3,gx⟩:=he1 k x hx.out
   have d3:∀w',Below N3 U w'→w'.cell? ⟨q1,o1+k,none⟩=some (.slice A3 x.length k3):=fun w' h=>c3 w' (hwU.out.trans (h.mono (by omega)))
   obtain⟨m,hm⟩:=Jn (x.length)
   have hxm:=hcode.out x (Jm hx.out)
   rw [←hm.out] at d3 hl3 hxm
   have hm8:=hxm.1
   have hcx:=hide hxm.2
   replace gx:=hide gx
   clear c3 he1 hxm
   have hself0:=Below.refl wr.heap.size wr
   obtain⟨w0,hw0⟩:∃w0,w0=wr:=⟨_,rfl⟩
   rw [←hw0] at hNr hOI hOK hbel hUr hself0⊢
   clear hw0
   have hN0:Hid (N3<w0.heap.size):=hide (by have:=hUr.out;omega)
   go_upto_region 8 with(fail)
   obtain⟨w1,hw1,hb01,hw1s,hz5,hz6⟩:=Ql w0 #[.slice A3 m k3] #[.slice none 0 0] 41 41
   have hN6:Hid (w1.heap[w0.heap.size+1]? = some (.cells #[.slice none 0 0] 41 (0,0))):=hide (by
    rw [←hw1]
    have:=Yu (w0.alloc (.cells #[.slice A3 m k3] 41)) (.cells #[.slice none 0 0] 41)
    simpa using this)
   have e5:∀w',Below w1.heap.size w1 w'→w'.cell? ⟨w0.heap.size,0,none⟩=some (.slice A3 m k3):=hz5 0 _ rfl
   rw [hw1]
   obtain⟨N6,hN6e⟩:∃N6,N6=w0.heap.size+1:=⟨_,rfl⟩
   rw [←hN6e] at hN6⊢
   have h06:w0.heap.size≤N6:=by omega
   have h61:N6<w1.heap.size:=by omega
   have hself1:=Below.refl w1.heap.size w1
   have hb011:=hide hb01
   refine hd2 hw1s hN6e ?_;clear hw1s hN6e;intro hw1s hN6e
   clear hz5 hz6 hw1 hb01 hself0
   go_wp2_with fail
   go_loopw [25] (fun u6 wr=>∃(j:Nat) (u:Value),j≤m∧u6 = .int .i64 j∧Hid (wr.heap[N6]? = some (.cells #[u] 41 (0,0)))∧Hid (OwnC2 wr w1.heap.size u (x.take j))∧Below w0.heap.size w0 wr∧Hid (w1.heap.size≤wr.heap.size)) (fun u6 _=>m - (intOf u6).toNat)
   case atStart=>exact⟨0,_,Nat.zero_le _,rfl,hN6,hide OwnC2.nil_,hb011.out,hide (Nat.le_refl _)⟩
   case round =>
    clear hself1 e5 hN6
    obtain⟨j,u5,hj,rfl,hN6,hOC,hb0,hs1⟩:=hrel
    have hbr:Below N3 U wr:=hbel.trans (hb0.mono (Nat.le_of_lt hN0.out))
    have hs0:=hb0.size
    by_cases hlt2:j<m
    ·obtain ⟨q2, o2, rfl, hi1⟩ := gx.out (by rw [← hm.out]; omega)
     obtain⟨ins,hins⟩:=Yf (l:=x) (k:=j) (by rw [←hm.out];exact hlt2)
     obtain⟨ca,da,hra,hca⟩:=hi1 j ins hins.out
     obtain⟨ra,rt⟩:=ins_open hra
     have hiok:Hid (Ybr ins):=hide (by obtain⟨_,_,_,_,_,h5⟩:=hra;exact h5)
     obtain⟨A5,k5,hca5, -, -⟩:=Rp.slice_open ra
     obtain⟨A6,k6,hda6, -, -⟩:=Rp.slice1_open rt
     cases hca5
     cases hda6
     obtain⟨na,hna⟩:=Jn (ins.args.length)
     obtain⟨nt,hnt⟩:=Jn (ins.to.length)
     have hszi:=hcx.out ins (Jm hins.out)
     rw [←hna.out] at hszi hca ra
     rw [←hnt.out] at hszi hca rt
     have hsa:=hszi.1
     have hst:=hszi.2
     obtain⟨e0,e1,e2,e3,e4,e5,e6⟩:=hca.seven
     have a0:∀w',Below N3 U w'→w'.cell? ⟨q2,o2+j*7,none⟩=some (.int .i64 ins.op):=fun w' h=>e0 w' (hwU.out.trans (h.mono (by omega)))
     have a1:∀w',Below N3 U w'→w'.cell? ⟨q2,o2+j*7+1,none⟩=some (.int .i64 ins.reg):=fun w' h=>e1 w' (hwU.out.trans (h.mono (by omega)))
     have a2:∀w',Below N3 U w'→w'.cell? ⟨q2,o2+j*7+2,none⟩=some (.int .i64 ins.ty):=fun w' h=>e2 w' (hwU.out.trans (h.mono (by omega)))
     have a3:∀w',Below N3 U w'→w'.cell? ⟨q2,o2+j*7+3,none⟩=some (.int .i64 ins.num):=fun w' h=>e3 w' (hwU.out.trans (h.mono (by omega)))
     have a4:∀w',Below N3 U w'→w'.cell? ⟨q2,o2+j*7+4,none⟩=some (.int .i64 ins.flags):=fun w' h=>e4 w' (hwU.out.trans (h.mono (by omega)))
     have a5:∀w',Below N3 U w'→w'.cell? ⟨q2,o2+j*7+5,none⟩=some (.slice A5 na k5):=fun w' h=>e5 w' (hwU.out.trans (h.mono (by omega)))
     have a6:∀w',Below N3 U w'→w'.cell? ⟨q2,o2+j*7+6,none⟩=some (.slice A6 nt k6):=fun w' h=>e6 w' (hwU.out.trans (h.mono (by omega)))
     clear e0 e1 e2 e3 e4 e5 e6
     obtain⟨A50,C50,hu50⟩:=(show∃A C,u5 = .slice A j C by
      have:=hOC.out.form
      rw [List.length_take,show min j x.length=j by have:=hm.out;omega] at this
      exact this)
     subst hu50
     have hwr:Hid (Below w.heap.size w wr):=hide (hwU.out.trans (hbr.mono (by omega)))
     go_upto_region 11 with(fail)
     have hB7:=Yu wr (.cells #[.int .i64 ins.op, .int .i64 ins.reg, .int .i64 ins.ty, .int .i64 ins.num, .int .i64 ins.flags, .slice A5 na k5, .slice A6 nt k6] 44)
     have hbX:=(Below.refl wr.heap.size wr).alloc (Nat.le_refl _) (.cells #[.int .i64 ins.op, .int .i64 ins.reg, .int .i64 ins.ty, .int .i64 ins.num, .int .i64 ins.flags, .slice A5 na k5, .slice A6 nt k6] 44)
     obtain⟨X1,hX1e⟩:∃X1,X1=wr.alloc (.cells #[.int .i64 ins.op, .int .i64 ins.reg, .int .i64 ins.ty, .int .i64 ins.num, .int .i64 ins.flags, .slice A5 na k5, .slice A6 nt k6] 44):=⟨_,rfl⟩
     have hX1s:X1.heap.size=wr.heap.size+1:=by rw [hX1e];simp
     rw [←hX1e] at hB7 hbX⊢
     obtain⟨N7,hN7⟩:∃N7,N7=wr.heap.size:=⟨_,rfl⟩
     have hN7X:N7<X1.heap.size:=by omega
     have hwX:Hid (Below w.heap.size w X1):=hide (hwr.out.trans (hbX.mono hwr.out.size))
     have hXr:Hid (wr.heap.size≤X1.heap.size):=hide (by omega)
     have hbXr:=hide hbX
     rw [←hN7] at hB7⊢
     have hN7':=hide hN7
     replace hX1s:=hide hX1s
     clear hX1e a0 a1 a2 a3 a4 a5 a6 hi1 hca hbX hN7
     have hselfX:=Below.refl X1.heap.size X1
     have b0:∀w',Below X1.heap.size X1 w'→w'.cell? ⟨N7,5,none⟩=some (.slice A5 na k5):=fun w' h=>(h.cell (p:=⟨N7,5,none⟩) hN7X).trans (box7 hB7).2.2.2.2.2.1
     have b1:∀w',Below X1.heap.size X1 w'→w'.cell? ⟨N7,6,none⟩=some (.slice A6 nt k6):=fun w' h=>(h.cell (p:=⟨N7,6,none⟩) hN7X).trans (box7 hB7).2.2.2.2.2.2
     have cA:Hid (∀w',Below X1.heap.size X1 w'→Calls Tryz.prog 53 #[.slice A5 na k5] w' (CloneVPost ins.args w')):=hide (fun w' h=>by
      have hh:=hwX.out.trans (h.mono hwX.out.size)
      exact clone_vals _ _ w' (ROpds.later ra hh hh.size) (by rw [←hna.out];exact hsa))
     have cT:Hid (∀w',Below X1.heap.size X1 w'→Calls Tryz.prog 52 #[.slice A6 nt k6] w' (CloneIPost ins.to w')):=hide (fun w' h=>by
      have hh:=hwX.out.trans (h.mono hwX.out.size)
      exact clone_nums _ _ w' (Z4.later rt hh hh.size) (by rw [←hnt.out];exact hst))
     have hB7':=hide hB7
     clear hB7 ra rt hra
     go_region_law (first
      | (go_simp
         go_at_call 53
         refine(cA.out _ (hselfX.drew)).mono ?_
         rintro e Y1 ⟨va,rfl,hOV1,hbY1⟩
         have hkY1:Below X1.heap.size X1 Y1:=(hselfX.drew).trans hbY1
         have hOVh:Hid (OwnV Y1 X1.heap.size va ins.args):=hide hOV1
         clear hOV1 hbY1)
      | (go_simp
         go_at_call 52
         refine(cT.out _ hkY1).mono ?_
         rintro e Y2 ⟨vt,rfl,hOT2,hbY2⟩
         have hkY2:Below X1.heap.size X1 Y2:=hkY1.trans (hbY2.mono hkY1.size)
         have hOV2:=hide (hOVh.out.kept (w':=Y2) fun k _ hk=>hbY2.block k hk)
         have hOTh:Hid (OwnI Y2 X1.heap.size vt ins.to):=hide (hOT2.mono hkY1.size)
         have hs12:=hide (show X1.heap.size≤Y1.heap.size from hkY1.size)
         obtain⟨Aa,Ca,hva⟩:=Yd hOV2.out.row
         obtain⟨At,Ct,hvt⟩:=Yd hOTh.out.row
         rw [←hna.out] at hva
         rw [←hnt.out] at hvt
         subst hva
         subst hvt
         have hB2:=(hkY2.block N7 hN7X).trans hB7'.out
         have t5:=(box7 hB2).2.2.2.2.2.1
         have t6:=(box7 hB2).2.2.2.2.2.2
         have f5:=Ym (j:=5) hB2
         have f6:=Ym (j:=6) hB2
         have hB4:=hide (Yr (j:=6) (v := .slice At nt Ct) (Yr (j:=5) (v := .slice Aa na Ca) hB2))
         clear hB2 hOT2 hbY2))
     all_goals
      obtain⟨Y4,hY4⟩:∃Y4,Y4=(Y2.setCell ⟨N7,5,none⟩ (.slice Aa na Ca)).setCell ⟨N7,6,none⟩ (.slice At nt Ct):=⟨_,rfl⟩
      have hN7e:=hN7'.out
      have hXs1:=hXr.out
      have hs1o:=hs1.out
      have hY4far:∀k,k≠N7→Y4.heap[k]? = Y2.heap[k]? := fun k hk=>by rw [hY4,Below.heap_setCell _ _ _ _ hk,Below.heap_setCell _ _ _ _ hk]
      have hbr4:Below wr.heap.size wr Y4:=by
       rw [hY4]
       exact((hbXr.out.trans (hkY2.mono hXs1)).setCell (p:=⟨N7,5,none⟩) (by show wr.heap.size≤N7;omega) _).setCell (p:=⟨N7,6,none⟩) (by show wr.heap.size≤N7;omega) _
      have hB5:Y4.heap[N7]? = some (.cells #[.int .i64 ins.op, .int .i64 ins.reg, .int .i64 ins.ty, .int .i64 ins.num, .int .i64 ins.flags, .slice Aa na Ca, .slice At nt Ct] 44 (0,0)):=by rw [hY4];simpa using hB4.out
      rw [←hY4]
      clear hY4 t5 t6 f5 f6 hB4 b0 b1 hselfX
      obtain⟨z0,z1,z2,z3,z4,z5,z6⟩:=box7 hB5
      have hV4:Hid (OwnV Y4 w1.heap.size (.slice Aa na Ca) ins.args):=hide ((hOV2.out.kept fun k h1 _=>hY4far k (by omega)).mono (by omega))
      have hs12o:=hs12.out
      have hT4:Hid (OwnI Y4 w1.heap.size (.slice At nt Ct) ins.to):=hide ((hOTh.out.kept fun k h1 _=>hY4far k (by omega)).mono (by omega))
      obtain⟨xs,hown,hmore⟩:=hOC.out.more (w1:=Y4) fun k _ hk=>hbr4.block k hk
      have hVlo:Hid (∀k,Value.ownBlock (.slice Aa na Ca)=some k→wr.heap.size≤k):=hide (fun k hk=>by have:=(Ya hOV2.out.row hk).1;omega)
      have hTlo:Hid (∀k,Value.ownBlock (.slice At nt Ct)=some k→wr.heap.size≤k):=hide (fun k hk=>by have:=(Ya hOTh.out.row hk).1;omega)
      rw [List.length_take,show min j x.length=j by have:=hm.out;omega] at hown hmore
      have hN64:=(hbr4.block N6 (by omega)).trans hN6.out
      have c64:=one_cell hN64
      have hb4:=hide (hb0.trans (hbr4.mono hs0))
      have hs4:w1.heap.size≤Y4.heap.size:=Nat.le_trans hs1o hbr4.size
      have hs04:w0.heap.size≤Y4.heap.size:=hb4.out.size
      have hN64h:=hide hN64
      refine hd5 hown hmore hB5 hY4far hN7e ?_;clear hown hmore hB5 hY4far hN7e;intro hown hmore hB5 hY4far hN7e
      clear hbr4 hOV2 hOTh hOVh hkY1 hkY2 hs12o hXs1 hN64
      go_wp2_with (first
       | (at_builtin
          refine wpList_append_own _ rfl (.tmp 38) (.tmp 40) _ rfl w1.heap.size 44 m0 _ 7 88 Tryz.underlying39 hm0.out hm1.out hm2.out hm3.out rfl (by omega) (.slice A50 j C50) _ _ rfl (hown.out.alloc _) ⟨Y4.heap.size,0,none⟩ 1 1 [.int .i64 ins.op, .int .i64 ins.reg, .int .i64 ins.ty, .int .i64 ins.num, .int .i64 ins.flags, .slice Aa na Ca, .slice At nt Ct] rfl rfl ?c1 ?c2 ?c3 ?c4 ?c5 ?_
          case c1=>exact World.news_of_block (cs := #[.int .i64 ins.op, .int .i64 ins.reg, .int .i64 ins.ty, .int .i64 ins.num, .int .i64 ins.flags, .slice Aa na Ca, .slice At nt Ct]) (t := 44) (fr:=(0,0)) (heap_alloc_new Y4 _)
          case c2=>simp [Value.oneCell']
          case c3=>unfold maxLen;omega
          case c4=>omega
          case c5=>simp;omega
          intro v6 w6 hown6 hg6 _
          have hC6:=hide (hmore.out ins (.slice Aa na Ca) (.slice At nt Ct) w6 v6 hV4.out hT4.out hVlo.out hTlo.out hiok.out hown6 hg6)
          have hb6:Below w0.heap.size w0 w6:=(hb4.out.alloc hs04 _).grown hg6 (by simp;omega) (fun k hk=>by have:=(Ya hown.out hk).1;omega)
          have hN66:=hide ((But.grown hown.out hg6 N6 _ _ _ hN64h.out (by decide)).trans hN64h.out)
          have hs6:Y4.heap.size≤w6.heap.size:=by have:=hg6.size;simp at this;omega
          obtain⟨A66,C66,hv6⟩:=Yd hown6
          subst hv6
          have c66:=one_cell hN66.out
          have f66:=Ym (j:=0) hN66.out
          clear hown6 hg6))
      go_roundw
      case rel=>exact⟨j+1,_,by omega,by go_num,hide (set_one hN66.out),hide (by rw [List.take_add_one,hins.out];exact hC6.out.kept fun k hk _=>Below.heap_setCell _ _ _ _ (by show k≠N6;omega)),hb6.setCell (p:=⟨N6,0,none⟩) h06 _,hide (by simp [World.setCell];omega)⟩
      case measure=>simp [intOf];omega
    ·obtain rfl : j = m := by omega
     rw [List.take_of_length_le (by have:=hm.out;omega)] at hOC
     obtain⟨A50,C50,hu50⟩:=hOC.out.form
     rw [←hm.out] at hu50
     subst hu50
     have hNw:=(hb0.block N3 hN0.out).trans hNr.out
     have hOIw:=hide (hOI.out.kept (w':=wr) fun k _ hk=>hb0.block k hk)
     obtain⟨xs,hown,hmore⟩:=hOK.out.more (w1:=wr) fun k _ hk=>hb0.block k hk
     rw [List.length_take,show min k f.blocks.length=k by have:=hn.out;omega] at hown hmore
     obtain⟨Au,Cu,hu⟩:=Yd hown
     subst hu
     have t3:=(box4 hNw).2.2.2
     have c64:=one_cell hN6.out
     have hUw:V.heap.size≤wr.heap.size:=Nat.le_trans hUr.out hs0
     have hNwh:=hide hNw
     have hw01:Hid (w0.heap.size≤w1.heap.size):=hide (by omega)
     refine hd2 hown hmore ?_;clear hown hmore;intro hown hmore
     clear hNw
     go_wp2_with (first
      | (at_builtin
         refine wpList_append_own _ rfl (.tmp 45) (.tmp 47) _ rfl V.heap.size 41 p0 _ 1 24 Tryz.underlying30 hp0.out hp1.out hp2.out hp3.out rfl (by omega) (.slice Au k Cu) _ _ rfl (hown.out.alloc _) ⟨wr.heap.size,0,none⟩ 1 1 [.slice A50 j C50] rfl rfl ?c1 ?c2 ?c3 ?c4 ?c5 ?_
         case c1=>exact World.news_of_block (cs := #[.slice A50 j C50]) (t := 41) (fr:=(0,0)) (heap_alloc_new wr _)
         case c2=>simp [Value.oneCell']
         case c3=>unfold maxLen;omega
         case c4=>omega
         case c5=>simp;omega
         intro v6 w6 hown6 hg6 _
         have hK6:=hide (hmore.out x (.slice A50 j C50) w1.heap.size w6 v6 hOC.out (Nat.le_trans hUr.out hw01.out) hw01.out hown6 hg6)
         have hbut:=But.grown hown.out hg6
         have hI6:Hid (OwnI w6 U.heap.size (.slice Av np Cv) f.params):=hide ⟨hbut.row (by decide) hOIw.out.row,hOIw.out.ok⟩
         have hN63:=hbut N3 _ _ _ hNwh.out (by decide)
         have hN63':=hide (hN63.trans hNwh.out)
         have hb6:Below N3 U w6:=(hbr.alloc (by omega) _).grown hg6 (by simp;omega) (fun i hi=>by have:=(Ya hown.out hi).1;omega)
         have hs6:wr.heap.size≤w6.heap.size:=by have:=hg6.size;simp at this;omega
         obtain⟨A6,C6,hv6⟩:=Yd hown6
         subst hv6
         have t6:=(box4 hN63'.out).2.2.2
         have f6:=Ym (j:=3) hN63'.out
         clear hown6 hg6 hbut hN63))
     have hfar:∀i,U.heap.size≤i→i≠N3:=fun i hi=>by omega
     go_roundw
     case rel =>
      refine⟨k+1,_,by omega,by go_num,hide (by simpa using Yr (j:=3) (v := .slice A6 (k+1) C6) hN63'.out),hide (hI6.out.kept fun i hi _=>Below.heap_setCell _ _ _ _ (hfar i hi)),hide ?_,hb6.setCell (p:=⟨N3,3,none⟩) (Nat.le_refl _) _,hide (by simp [World.setCell];omega)⟩
      rw [List.take_add_one,hx.out]
      exact hK6.out.kept fun i hi _=>Below.heap_setCell _ _ _ _ (hfar i (by omega))
     case measure=>simp [intOf];omega
  ·obtain rfl : k = n := by omega
   rw [List.take_of_length_le (by have:=hn.out;omega)] at hOK
   obtain⟨Au,Cu,hu⟩:=hOK.out.form
   rw [←hn.out] at hu
   subst hu
   obtain⟨r0,r1,r2,r3⟩:=box4 hNr.out
   have hRw:=hide ((hbel.block (w.heap.size+1) hN3w).trans hRU.out)
   obtain⟨s0,s1,s2,s3⟩:=box4 hRw.out
   obtain⟨g0,g1,g2,g3⟩:=bf4 hRw.out
   have hsU:=hwU.out.size
   have hfar:∀i,U.heap.size≤i→i≠w.heap.size+1:=fun i hi=>by have:=hUr.out;omega
   have hbel2:=hide hbel
   go_wp2
   have hK9:∀(v0 v1 v2 v3:Value) (i:Nat),U.heap.size≤i→((((wr.setCell ⟨w.heap.size+1,0,none⟩ v0).setCell ⟨w.heap.size+1,1,none⟩ v1).setCell ⟨w.heap.size+1,2,none⟩ v2).setCell ⟨w.heap.size+1,3,none⟩ v3).heap[i]? = wr.heap[i]? := fun v0 v1 v2 v3 i hi=>by
    rw [Below.heap_setCell _ _ _ _ (hfar i hi),Below.heap_setCell _ _ _ _ (hfar i hi),Below.heap_setCell _ _ _ _ (hfar i hi),Below.heap_setCell _ _ _ _ (hfar i hi)]
   refine bodyPost_ret (v:=f.v (.slice Av np Cv) (.slice Au k Cu)) (by simp [results,Tryz.results23,go_sem,s0,s1,s2,s3,g0,g1,g2,g3]) rfl ⟨_,_,V.heap.size,rfl,(hOI.out.kept fun i hi _=>hK9 _ _ _ _ i hi).mono hsU,fun k hk=>hPlo.out k hk,hOK.out.kept fun i hi _=>hK9 _ _ _ _ i (by omega),by omega,?_⟩
   exact((((hwU.out.trans (hbel2.out.mono (by omega))).setCell (p:=⟨w.heap.size+1,0,none⟩) (Nat.le_succ _) _).setCell (p:=⟨w.heap.size+1,1,none⟩) (Nat.le_succ _) _).setCell (p:=⟨w.heap.size+1,2,none⟩) (Nat.le_succ _) _).setCell (p:=⟨w.heap.size+1,3,none⟩) (Nat.le_succ _) _
def setArgs (x:Ins) (l:List Opd):Ins:=⟨x.op,x.reg,x.ty,x.num,x.flags,l,x.to⟩
def subIns (σ:Opd→Opd) (x:Ins):Ins:=setArgs x (x.args.map σ)
def Yaq (σ:Opd→Opd) (bs:List (List Ins)):List (List Ins):=bs.map fun c=>c.map (subIns σ)
def Yau (i k j p q r:Nat):Prop:=p<i∨(p=i∧(q<k∨(q=k∧r<j)))
instance (i k j p q r:Nat):Decidable (Yau i k j p q r):=by unfold Yau;exact inferInstance
def Ybw (σ:Opd→Opd) (i k j p q:Nat) (l:List Opd):List Opd:=l.mapIdx fun r t=>if Yau i k j p q r then σ t else t
def Qb (σ:Opd→Opd) (i k j p q:Nat) (x:Ins):Ins:=setArgs x (Ybw σ i k j p q x.args)
def Yaf (σ:Opd→Opd) (i k j p:Nat) (c:List Ins):List Ins:=c.mapIdx fun q x=>Qb σ i k j p q x
def Yat (σ:Opd→Opd) (i k j:Nat) (bs:List (List Ins)):List (List Ins):=bs.mapIdx fun p c=>Yaf σ i k j p c
section
variable {σ:Opd→Opd} {i k j:Nat} {bs:List (List Ins)}
theorem Yah:(Yat σ i k j bs).length=bs.length:=by simp [Yat]
theorem Qq {p:Nat} {c:List Ins} (h:bs[p]? = some c):(Yat σ i k j bs)[p]? = some (Yaf σ i k j p c):=by simp [Yat,h]
theorem Zm {p:Nat} {c:List Ins}:(Yaf σ i k j p c).length=c.length:=by simp [Yaf]
theorem Ze {p q:Nat} {c:List Ins} {x:Ins} (h:c[q]? = some x):(Yaf σ i k j p c)[q]? = some (Qb σ i k j p q x):=by simp [Yaf,h]
theorem Qv {p q:Nat} {l:List Opd}:(Ybw σ i k j p q l).length=l.length:=by simp [Ybw]
theorem Yag {p q r:Nat} {l:List Opd} {t:Opd} (h:l[r]? = some t):(Ybw σ i k j p q l)[r]? = some (if Yau i k j p q r then σ t else t):=by simp [Ybw,h]
theorem progAr_same {i' k' j' p q:Nat} {l:List Opd} (h:∀r,r<l.length→(Yau i k j p q r↔Yau i' k' j' p q r)):Ybw σ i k j p q l=Ybw σ i' k' j' p q l:=by
 refine List.ext_getElem? fun r => ?_
 cases hr:l[r]? with
 | none=>rw [List.getElem?_eq_none (by rw [Qv];exact List.getElem?_eq_none_iff.1 hr),List.getElem?_eq_none (by rw [Qv];exact List.getElem?_eq_none_iff.1 hr)]
 | some t =>
  rw [Yag hr,Yag hr]
  have:=h r (Js.1 hr).1
  by_cases hd:Yau i k j p q r
  ·rw [if_pos hd,if_pos (this.1 hd)]
  ·rw [if_neg hd,if_neg fun h'=>hd (this.2 h')]
theorem progCodeA_same {i' k' j' p:Nat} {c:List Ins} (h:∀q x,c[q]? = some x→∀r,r<x.args.length→(Yau i k j p q r↔Yau i' k' j' p q r)):Yaf σ i k j p c=Yaf σ i' k' j' p c:=by
 refine List.ext_getElem? fun q => ?_
 cases hq:c[q]? with
 | none=>rw [List.getElem?_eq_none (by rw [Zm];exact List.getElem?_eq_none_iff.1 hq),List.getElem?_eq_none (by rw [Zm];exact List.getElem?_eq_none_iff.1 hq)]
 | some x =>
  rw [Ze hq,Ze hq]
  unfold Qb
  rw [progAr_same (h q x hq)]
theorem progA_same {i' k' j':Nat} (h:∀p c,bs[p]? = some c→∀q x,c[q]? = some x→∀r,r<x.args.length→(Yau i k j p q r↔Yau i' k' j' p q r)):Yat σ i k j bs=Yat σ i' k' j' bs:=by
 refine List.ext_getElem? fun p => ?_
 cases hp:bs[p]? with
 | none=>rw [List.getElem?_eq_none (by rw [Yah];exact List.getElem?_eq_none_iff.1 hp),List.getElem?_eq_none (by rw [Yah];exact List.getElem?_eq_none_iff.1 hp)]
 | some c=>rw [Qq hp,Qq hp,progCodeA_same (h p c hp)]
theorem progAr_all {p q:Nat} {l:List Opd} (h:∀r,r<l.length→Yau i k j p q r):Ybw σ i k j p q l=l.map σ:=by
 refine List.ext_getElem? fun r => ?_
 cases hr:l[r]? with
 | none=>rw [List.getElem?_eq_none (by rw [Qv];exact List.getElem?_eq_none_iff.1 hr),List.getElem?_eq_none (by rw [List.length_map];exact List.getElem?_eq_none_iff.1 hr)]
 | some t=>rw [Yag hr,if_pos (h r (Js.1 hr).1),List.getElem?_map,hr];rfl
theorem progAr_none {p q:Nat} {l:List Opd} (h:∀r,r<l.length→¬Yau i k j p q r):Ybw σ i k j p q l=l:=by
 refine List.ext_getElem? fun r => ?_
 cases hr:l[r]? with
 | none=>rw [List.getElem?_eq_none (by rw [Qv];exact List.getElem?_eq_none_iff.1 hr)]
 | some t=>rw [Yag hr,if_neg (h r (Js.1 hr).1)]
theorem progA_start:Yat σ 0 0 0 bs=bs:=by
 refine List.ext_getElem? fun p => ?_
 cases hp:bs[p]? with
 | none=>rw [List.getElem?_eq_none (by rw [Yah];exact List.getElem?_eq_none_iff.1 hp)]
 | some c =>
  rw [Qq hp]
  congr 1
  refine List.ext_getElem? fun q => ?_
  cases hq:c[q]? with
  | none=>rw [List.getElem?_eq_none (by rw [Zm];exact List.getElem?_eq_none_iff.1 hq)]
  | some x =>
   rw [Ze hq]
   unfold Qb
   rw [progAr_none (fun r _ h=>by unfold Yau at h;omega)]
   rfl
theorem progA_end:Yat σ bs.length 0 0 bs=Yaq σ bs:=by
 refine List.ext_getElem? fun p => ?_
 unfold Yaq
 rw [List.getElem?_map]
 cases hp:bs[p]? with
 | none=>rw [List.getElem?_eq_none (by rw [Yah];exact List.getElem?_eq_none_iff.1 hp)];rfl
 | some c =>
  have hpl:=(Js.1 hp).1
  rw [Qq hp]
  show some _=some _
  congr 1
  refine List.ext_getElem? fun q => ?_
  rw [List.getElem?_map]
  cases hq:c[q]? with
  | none=>rw [List.getElem?_eq_none (by rw [Zm];exact List.getElem?_eq_none_iff.1 hq)];rfl
  | some x =>
   rw [Ze hq]
   unfold Qb
   rw [progAr_all (fun r _=>by unfold Yau;omega)]
   rfl
theorem progA_step {c : List Ins} {x : Ins} {t : Opd} (hp : bs[i]? = some c) (hq : c[k]? = some x) (hr : x.args[j]? = some t) :
  (Yat σ i k j bs).set i ((Yaf σ i k j i c).set k (setArgs (Qb σ i k j i k x) ((Qb σ i k j i k x).args.set j (σ t))))=Yat σ i k (j+1) bs:=by
 refine List.ext_getElem? fun p => ?_
 by_cases h1:i=p
 ·subst h1
  rw [Jf (by rw [Yah];exact(Js.1 hp).1),Qq hp]
  congr 1
  refine List.ext_getElem? fun q => ?_
  by_cases h2:k=q
  ·subst h2
   rw [Jf (by rw [Zm];exact(Js.1 hq).1),Ze hq]
   congr 1
   show setArgs x ((Ybw σ i k j i k x.args).set j (σ t))=setArgs x (Ybw σ i k (j+1) i k x.args)
   congr 1
   refine List.ext_getElem? fun r => ?_
   by_cases h3:j=r
   ·subst h3
    rw [Jf (by rw [Qv];exact(Js.1 hr).1),Yag hr,if_pos (by unfold Yau;omega)]
   ·rw [Je h3]
    cases hr':x.args[r]? with
    | none=>rw [List.getElem?_eq_none (by rw [Qv];exact List.getElem?_eq_none_iff.1 hr'),List.getElem?_eq_none (by rw [Qv];exact List.getElem?_eq_none_iff.1 hr')]
    | some t' =>
     rw [Yag hr',Yag hr']
     have:Yau i k j i k r↔Yau i k (j+1) i k r:=by unfold Yau;omega
     by_cases hd:Yau i k j i k r
     ·rw [if_pos hd,if_pos (this.1 hd)]
     ·rw [if_neg hd,if_neg fun h'=>hd (this.2 h')]
  ·rw [Je h2]
   cases hq':c[q]? with
   | none=>rw [List.getElem?_eq_none (by rw [Zm];exact List.getElem?_eq_none_iff.1 hq'),List.getElem?_eq_none (by rw [Zm];exact List.getElem?_eq_none_iff.1 hq')]
   | some x' =>
    rw [Ze hq',Ze hq']
    unfold Qb
    rw [progAr_same (i':=i) (k':=k) (j':=j+1) (fun r _=>by unfold Yau;omega)]
 ·rw [Je h1]
  cases hp':bs[p]? with
  | none=>rw [List.getElem?_eq_none (by rw [Yah];exact List.getElem?_eq_none_iff.1 hp'),List.getElem?_eq_none (by rw [Yah];exact List.getElem?_eq_none_iff.1 hp')]
  | some c'=>rw [Qq hp',Qq hp',progCodeA_same (i':=i) (k':=k) (j':=j+1) (fun q x _ r _=>by unfold Yau;omega)]
theorem progA_next_ins {c:List Ins} {x:Ins} (hp:bs[i]? = some c) (hq:c[k]? = some x):Yat σ i k x.args.length bs=Yat σ i (k+1) 0 bs :=
 progA_same fun p c' hp' q x' hq' r hr=>by
  by_cases h1:p=i
  ·subst h1
   rw [hp] at hp'
   cases hp'
   by_cases h2:q=k
   ·subst h2
    rw [hq] at hq'
    cases hq'
    unfold Yau;omega
   ·unfold Yau;omega
  ·unfold Yau;omega
theorem progA_next_block {c:List Ins} (hp:bs[i]? = some c):Yat σ i c.length 0 bs=Yat σ (i+1) 0 0 bs :=
 progA_same fun p c' hp' q x' hq' r hr=>by
  by_cases h1:p=i
  ·subst h1
   rw [hp] at hp'
   cases hp'
   have:=(Js.1 hq').1
   unfold Yau;omega
  ·unfold Yau;omega
end
theorem cellsOf_setA {l:List Ins} {es:List (Value×Value)} {k:Nat} {x x':Ins} (hx:l[k]? = some x) (h:∀c d,insC x' c d=insC x c d):cellsOf (l.set k x') es=cellsOf l es:=by
 unfold cellsOf
 congr 1
 refine List.ext_getElem? fun q => ?_
 rw [List.getElem?_zipWith,List.getElem?_zipWith]
 by_cases hq:k=q
 ·subst hq
  rw [Jf (Js.1 hx).1,hx]
  cases es[k]? with
  | none=>rfl
  | some e=>simp only [h]
 ·rw [Je hq]
theorem nd_flatA {ess:List (List (Value×Value))} (h:Nd (ess.flatten.map Prod.fst)) {p q:Nat} {es es':List (Value×Value)} (hp:ess[p]? = some es) (hq:ess[q]? = some es') (hpq:p≠q) {e e':Value×Value} (he:e∈es) (he':e'∈es') {k:Nat} (hk:e.1.ownBlock=some k):e'.1.ownBlock≠some k:=by
 intro hk'
 have key:∀(p q:Nat) (es es':List (Value×Value)) (e e':Value×Value),p<q→ess[p]? = some es→ess[q]? = some es'→e∈es→e'∈es'→e.1.ownBlock=some k→e'.1.ownBlock=some k→False:=by
  intro p q es es' e e' hpq hp hq he he' hk hk'
  have h1:ess=ess.take q++ess.drop q:=(List.take_append_drop q ess).symm
  unfold Nd at h
  rw [h1,List.flatten_append,List.map_append,List.filterMap_append,List.nodup_append] at h
  refine h.2.2 k (Ybl.2 ⟨e.1,List.mem_map.2 ⟨e,List.mem_flatten.2 ⟨es,?_,he⟩,rfl⟩,hk⟩) k (Ybl.2 ⟨e'.1,List.mem_map.2 ⟨e',List.mem_flatten.2 ⟨es',?_,he'⟩,rfl⟩,hk'⟩) rfl
  ·exact Jm (i:=p) (by rw [List.getElem?_take,if_pos hpq];exact hp)
  ·exact Jm (i:=0) (by rw [List.getElem?_drop,Nat.add_zero];exact hq)
 rcases Nat.lt_or_ge p q with h1|h1
 ·exact key p q es es' e e' h1 hp hq he he' hk hk'
 ·exact key q p es' es e' e (by omega) hq hp he' he hk' hk
theorem flat_set3 {l:List Opd} {j:Nat} {z:Opd} (hj:j<l.length):(((l.flatMap oc).set (j*3) (.int .i64 z.kind)).set (j*3+1) (.int .i64 z.num)).set (j*3+2) (.int .u64 z.bits)=(l.set j z).flatMap oc:=by
 have hl:=oc_len l
 refine List.ext_getElem? fun m => ?_
 rw [oc_get (l.set j z)]
 by_cases h2:j*3+2=m
 ·subst h2
  rw [Jf (by rw [List.length_set,List.length_set,hl];omega),show(j*3+2) / 3=j by omega,show(j*3+2) % 3=2 by omega,Jf hj];rfl
 ·rw [Je h2]
  by_cases h1:j*3+1=m
  ·subst h1
   rw [Jf (by rw [List.length_set,hl];omega),show(j*3+1) / 3=j by omega,show(j*3+1) % 3=1 by omega,Jf hj];rfl
  ·rw [Je h1]
   by_cases h0:j*3=m
   ·subst h0
    rw [Jf (by omega),show j*3 / 3=j by omega,show j*3 % 3=0 by omega,Jf hj];rfl
   ·rw [Je h0,oc_get l,Je (by omega)]
def put3 (w:World) (g o:Nat) (z:Opd):World:=((w.setCell ⟨g,o,none⟩ (.int .i64 z.kind)).setCell ⟨g,o+1,none⟩ (.int .i64 z.num)).setCell ⟨g,o+2,none⟩ (.int .u64 z.bits)
theorem put3_far {w:World} {g o:Nat} {z:Opd} {k:Nat} (h:k≠g):(put3 w g o z).heap[k]? = w.heap[k]? := by
 unfold put3
 rw [Below.heap_setCell _ _ _ _ h,Below.heap_setCell _ _ _ _ h,Below.heap_setCell _ _ _ _ h]
theorem OwnV.put {w:World} {B g n cap j:Nat} {l:List Opd} {z:Opd} (h:OwnV w B (.slice (some ⟨g,0,none⟩) n cap) l) (hj:j<l.length) (hz:I64 z.kind∧I64 z.num):OwnV (put3 w g (j*3) z) B (.slice (some ⟨g,0,none⟩) n cap) (l.set j z):=by
 have hn:n=l.length:=by
  obtain⟨A,C,e⟩:=Yd h.row
  cases e;rfl
 subst hn
 have h3:=(World.ownsRow.stored (World.ownsRow.stored (World.ownsRow.stored h.row (j*3) (.int .i64 z.kind)).1 (j*3+1) (.int .i64 z.num)).1 (j*3+2) (.int .u64 z.bits)).1
 rw [flat_set3 hj] at h3
 refine⟨by rw [List.length_set];exact h3,fun y hy => ?_⟩
 rcases List.mem_or_eq_of_mem_set hy with hy|rfl
 ·exact h.ok y hy
 ·exact hz
theorem Yq.put_arg {w : World} {B : Nat} {v : Value} {bs : List (List Ins)} {xs : List Value} {ess : List (List (Value × Value))} (h : Yq w B v bs xs ess) {i k j g n cap : Nat} {c : List Ins} {x : Ins} {es : List (Value × Value)} {dv : Value} {z : Opd}
  (hc:bs[i]? = some c) (hes:ess[i]? = some es) (hx:c[k]? = some x) (he:es[k]? = some (.slice (some ⟨g,0,none⟩) n cap,dv)) (hj:j<x.args.length) (hz:I64 z.kind∧I64 z.num) :
  Yq (put3 w g (j*3) z) B v (bs.set i (c.set k (setArgs x (x.args.set j z)))) xs ess:=by
 have hil:=(Js.1 hc).1
 have hkl:=(Js.1 hx).1
 have hxi:xs[i]? = some (xs[i]'(by rw [h.lenx];exact hil)):=Jg _
 have hci:=h.inn i _ c es hxi hc hes
 obtain⟨har, -, -⟩:=hci.inn k x _ hx he
 have hput:=har.put (j:=j) (z:=z) hj hz
 have hbut:But 62 w (put3 w g (j*3) z):=fun k' cc t f hk' ht=>put3_far (fun e=>by
  subst e
  obtain⟨-, -,c',h1⟩:=Ya har.row (k:=k') rfl
  rw [hk'] at h1
  injection h1 with h1
  injection h1 with _ h2
  exact ht h2)
 have hfar:∀(u:Value) (l:List Opd),OwnV w B u l→(u.ownBlock≠some g)→OwnV (put3 w g (j*3) z) B u l:=fun u l hu hg =>
  ⟨Yc hu.row fun k' hk'=>put3_far (fun e=>hg (by rw [hk',e])),hu.ok⟩
 refine⟨by rw [List.length_set];exact hbut.row (by decide) h.row,by rw [List.length_set];exact h.lene,fun p y d fs hy hd hf => ?_,h.ndx,h.nda,h.ndt⟩
 by_cases hip:i=p
 ·subst hip
  rw [Jf hil] at hd
  rw [hes] at hf
  rw [hxi] at hy
  cases hd;cases hf;cases hy
  refine⟨by rw [List.length_set];exact hci.len,by rw [cellsOf_setA (x':=setArgs x (x.args.set j z)) hx (fun _ _=>rfl),List.length_set];exact hbut.row (by decide) hci.row,fun q y e hy he' => ?_,hci.nda,hci.ndt⟩
  by_cases hkq:k=q
  ·subst hkq
   rw [Jf hkl] at hy
   rw [he] at he'
   cases hy;cases he'
   obtain⟨ha,ht,hok⟩:=hci.inn k x _ hx he
   exact⟨hput,⟨hbut.row (by decide) ht.row,ht.ok⟩,hok⟩
  ·rw [Je hkq] at hy
   obtain⟨ha,ht,hok⟩:=hci.inn q y e hy he'
   refine⟨hfar _ _ ha ?_,⟨hbut.row (by decide) ht.row,ht.ok⟩,hok⟩
   exact nd_ne hci.nda (i:=k) (j:=q) (by rw [List.getElem?_map,he];rfl) (by rw [List.getElem?_map,he'];rfl) hkq rfl
 ·rw [Je hip] at hd
  have hcp:=h.inn p y d fs hy hd hf
  refine⟨hcp.len,hbut.row (by decide) hcp.row,fun q u e hu he' => ?_,hcp.nda,hcp.ndt⟩
  obtain⟨ha,ht,hok⟩:=hcp.inn q u e hu he'
  refine⟨hfar _ _ ha ?_,⟨hbut.row (by decide) ht.row,ht.ok⟩,hok⟩
  exact nd_flatA h.nda hes hf hip (Jm he) (Jm he') rfl
def rsub (reg:Int) (v:Opd) (a:Opd):Opd:=if a.kind=1∧a.num=reg then v else a
def ArgB (ess:List (List (Value×Value))) (k:Nat):Prop:=∃e,e∈ess.flatten∧e.1.ownBlock=some k
theorem set_same {α:Type} {l:List α} {j:Nat} {t:α} (h:l[j]? = some t):l.set j t=l:=by
 refine List.ext_getElem? fun r => ?_
 by_cases e:j=r
 ·subst e;rw [Jf (Js.1 h).1,h]
 ·rw [Je e]
theorem progA_id {σ:Opd→Opd} {i k j:Nat} {bs:List (List Ins)} {c:List Ins} {x:Ins} {t:Opd} (hp:bs[i]? = some c) (hq:c[k]? = some x) (hr:x.args[j]? = some t) (ht:σ t=t):Yat σ i k (j+1) bs=Yat σ i k j bs:=by
 have hv:(Qb σ i k j i k x).args[j]? = some t:=by
  show(Ybw σ i k j i k x.args)[j]? = _
  rw [Yag hr,if_neg (by unfold Yau;omega)]
 rw [←progA_step hp hq hr,ht,set_same hv,show setArgs (Qb σ i k j i k x) (Qb σ i k j i k x).args=Qb σ i k j i k x from rfl,set_same (Ze hq),set_same (Qq hp)]
def ReplPost (σ:Opd→Opd) (i k L:Nat) (d:Value) (bs:List (List Ins)) (xs:List Value) (ess:List (List (Value×Value))) (w:World) (e:Ending) (w':World):Prop :=
 e = .returned (.bool true)∧Yq w' L d (Yat σ i (k+1) 0 bs) xs ess∧Only (ArgB ess) w.heap.size w w'
theorem repl_any (reg : Int) (v : Opd) (hv64 : I64 v.kind ∧ I64 v.num) (i k L NR NV gc nc Cc : Nat) (d : Value) (bs : List (List Ins)) (xs : List Value) (ess : List (List (Value × Value))) (c : List Ins) (x : Ins) (es : List (Value × Value)) (w : World)
  (hK:Yq w L d (Yat (rsub reg v) i k 0 bs) xs ess) (hc:bs[i]? = some c) (hx:c[k]? = some x) (hes:ess[i]? = some es) (hxi:xs[i]? = some (.slice (some ⟨gc,0,none⟩) nc Cc)) (hxa:x.args.length≤2000000)
  (hNR:NR<L) (hNV:NV<L) (hNRw:NR<w.heap.size) (hNVw:NV<w.heap.size) (hR:w.cell? ⟨NR,0,none⟩=some (.int .i64 reg)) (hV0:w.cell? ⟨NV,0,none⟩=some (.int .i64 v.kind)) (hV1:w.cell? ⟨NV,1,none⟩=some (.int .i64 v.num)) (hV2:w.cell? ⟨NV,2,none⟩=some (.int .u64 v.bits)) :
  Calls Tryz.prog 103 #[.agg #[.int .i64 0, .int .i64 i, .int .i64 k], .pointer (some ⟨gc,k*7,none⟩), .pointer (some ⟨NR,0,none⟩), .pointer (some ⟨NV,0,none⟩)] w (ReplPost (rsub reg v) i k L d bs xs ess w):=by
 have hCd:=hK.inn i _ _ es hxi (Qq hc) hes
 have hkl:k<es.length:=by rw [hCd.len,Zm];exact(Js.1 hx).1
 obtain⟨⟨cv,dv⟩,he⟩:=Yf hkl
 obtain⟨har, -, -⟩:=hCd.inn k _ _ (Ze hx) he.out
 obtain⟨Aa,Ca,hcv⟩:=Yd har.row
 obtain⟨na,hna⟩:=Jn (x.args.length)
 have hcv':cv = .slice Aa na Ca:=by
  have e:(Qb (rsub reg v) i k 0 i k x).args.length=x.args.length:=Qv
  rw [e,←hna.out] at hcv
  exact hcv
 subst hcv'
 have hSL:∀q,ArgB ess q→L≤q∧q<w.heap.size:=fun q ⟨e,he,hq⟩=>(hK.own_at he q).1 hq
 have hgc:=Ya hCd.row (k:=gc) rfl
 have hSg:¬ArgB ess gc:=fun⟨e,hef,hq⟩=>by
  obtain⟨fs,hfs,hef⟩:=List.mem_flatten.1 hef
  obtain⟨p,hp⟩:=List.getElem?_of_mem hfs
  have hpl:=(Js.1 hp).1
  obtain⟨q,hq'⟩:=List.getElem?_of_mem hef
  have hxp:xs[p]? = some (xs[p]'(by rw [hK.lenx,←hK.lene];exact hpl)):=Jg _
  obtain⟨b',es',hb',hes',hcd⟩:=hK.code_at hxp
  rw [hp] at hes'
  cases hes'
  have hql:=(Js.1 hq').1
  rw [hcd.len] at hql
  obtain⟨h1, -, -⟩:=hcd.inn q _ e (Jg hql) hq'
  obtain⟨-, -,c1,h2⟩:=Ya h1.row hq
  obtain⟨-, -,c2,h3⟩:=hgc
  rw [h2] at h3
  injection h3 with h3
  injection h3 with _ h4
  exact absurd h4 (by decide)
 have hrow1:=hCd.row
 have r5:w.cell? ⟨gc,k*7+5,none⟩=some (.slice Aa na Ca):=by
  have hkc:=(Js.1 hx).1
  have hl:(Yaf (rsub reg v) i k 0 i c).length=nc:=by
   obtain⟨A,C,e⟩:=Yd hCd.row
   cases e;rfl
  rw [hl] at hrow1
  have hl2:c.length=nc:=by rw [←hl];exact Zm.symm
  rw [World.ownsRow.cellAt hrow1 (k*7+5) (by omega)]
  exact cellsOf_at (Ze hx) he.out rfl
 obtain⟨W,hW,hwW,hWs, -⟩:=Y6 w #[.int .i64 0, .int .i64 i, .int .i64 k] 48
 have hon0:Only (ArgB ess) w.heap.size w W:=Only.of_below hwW
 have up:∀w',Only (ArgB ess) W.heap.size W w'→Only (ArgB ess) w.heap.size w w':=fun w' h=>hon0.trans (h.mono hwW.size)
 have z5:∀w',Only (ArgB ess) W.heap.size W w'→w'.cell? ⟨gc,k*7+5,none⟩=some (.slice Aa na Ca):=fun w' h=>((up w' h).cell (p:=⟨gc,k*7+5,none⟩) hgc.2.1 hSg).trans r5
 have zR:∀w',Only (ArgB ess) W.heap.size W w'→w'.cell? ⟨NR,0,none⟩=some (.int .i64 reg):=fun w' h=>((up w' h).cell (p:=⟨NR,0,none⟩) (by show NR<_;omega) (fun e=>by have:L≤NR:=(hSL _ e).1;omega)).trans hR
 have zV0:∀w',Only (ArgB ess) W.heap.size W w'→w'.cell? ⟨NV,0,none⟩=some (.int .i64 v.kind):=fun w' h=>((up w' h).cell (p:=⟨NV,0,none⟩) (by show NV<_;omega) (fun e=>by have:L≤NV:=(hSL _ e).1;omega)).trans hV0
 have zV1:∀w',Only (ArgB ess) W.heap.size W w'→w'.cell? ⟨NV,1,none⟩=some (.int .i64 v.num):=fun w' h=>((up w' h).cell (p:=⟨NV,1,none⟩) (by show NV<_;omega) (fun e=>by have:L≤NV:=(hSL _ e).1;omega)).trans hV1
 have zV2:∀w',Only (ArgB ess) W.heap.size W w'→w'.cell? ⟨NV,2,none⟩=some (.int .u64 v.bits):=fun w' h=>((up w' h).cell (p:=⟨NV,2,none⟩) (by show NV<_;omega) (fun e=>by have:L≤NV:=(hSL _ e).1;omega)).trans hV2
 have hKW:=hide (hK.kept (w':=W) fun q _ hq=>hwW.block q hq)
 have hself:=Only.refl (ArgB ess) W.heap.size W
 have hna8:na≤2000000:=by rw [hna.out];exact hxa
 have hwWh:=hide hwW
 refine hd7 hWs hSL hc hx hes hxi hv64 ?_;clear hWs hSL hc hx hes hxi hv64;intro hWs hSL hc hx hes hxi hv64
 clear hK hCd hkl har hcv hgc hSg hrow1 r5 hon0 up hwW hR hV0 hV1 hV2 hxa
 go_enter Tryz.func103,Tryz.ntmps103
 go_wp2
 go_loopw [14] (fun u wr=>∃j:Nat,u = .int .i64 j∧j≤na∧Hid (Yq wr L d (Yat (rsub reg v) i k j bs) xs ess)∧Only (ArgB ess) W.heap.size W wr) (fun u _=>na - (intOf u).toNat)
 case atStart=>exact⟨0,rfl,Nat.zero_le _,hKW,hself⟩
 case round =>
  clear hKW hself
  obtain⟨j,rfl,hj,hK,hon⟩:=hrel
  by_cases hlt:j<na
  ·obtain ⟨t, ht⟩ := Yf (l := x.args) (k := j) (by rw [← hna.out]; exact hlt)
   have hji:(j:Int)<(na:Int):=by omega
   have hCd:=hK.out.inn i _ _ es hxi.out (Qq hc.out) hes.out
   obtain⟨har, -, -⟩:=hCd.inn k _ _ (Ze hx.out) he.out
   have hal:(Qb (rsub reg v) i k j i k x).args.length=x.args.length:=Qv
   obtain⟨gA,CA,hAa, -, -⟩:=har.row.form (by rw [hal,←hna.out];omega)
   have hAa':Aa=some ⟨gA,0,none⟩:=by cases hAa;rfl
   subst hAa'
   clear hAa CA
   have htv:(Qb (rsub reg v) i k j i k x).args[j]? = some t:=by
    show(Ybw (rsub reg v) i k j i k x.args)[j]? = _
    rw [Yag ht.out,if_neg (by unfold Yau;omega)]
   have hrow:=har.row
   rw [hal,←hna.out] at hrow
   have hcell:∀(r:Nat) u,(oc t)[r]? = some u→r<3→wr.cell? ⟨gA,j*3+r,none⟩=some u:=fun r u hu hr=>by
    rw [World.ownsRow.cellAt hrow (j*3+r) (by omega),oc_get,show(j*3+r) / 3=j by omega,show(j*3+r) % 3=r by omega,htv]
    exact hu
   have r0:wr.cell? ⟨gA,j*3,none⟩=some (.int .i64 t.kind):=hcell 0 _ rfl (by omega)
   have r1:wr.cell? ⟨gA,j*3+1,none⟩=some (.int .i64 t.num):=hcell 1 _ rfl (by omega)
   have r2:wr.cell? ⟨gA,j*3+2,none⟩=some (.int .u64 t.bits):=hcell 2 _ rfl (by omega)
   have f0:wr.frozen? ⟨gA,j*3,none⟩=false:=World.ownsRow.frozenAt hrow _
   have f1:wr.frozen? ⟨gA,j*3+1,none⟩=false:=World.ownsRow.frozenAt hrow _
   have f2:wr.frozen? ⟨gA,j*3+2,none⟩=false:=World.ownsRow.frozenAt hrow _
   have hbs:=hon.size
   go_upto_region 4 with(fail)
   obtain⟨X,hX,hwX,hXs,hxc⟩:=Y6 wr #[.int .i64 t.kind, .int .i64 t.num, .int .u64 t.bits] 62
   rw [hX]
   have x0:=hxc 0 _ rfl X (Below.refl _ _)
   have x1:=hxc 1 _ rfl X (Below.refl _ _)
   have x2:=hxc 2 _ rfl X (Below.refl _ _)
   have honX:Only (ArgB ess) W.heap.size W X:=hon.then_below (Nat.le_refl _) hwX
   have hKX:=hK.out.kept (w':=X) fun q _ hq=>hwX.block q hq
   have hgA:=(Ya hrow (k:=gA) rfl).2.1
   have s0:X.cell? ⟨gA,j*3,none⟩=some (.int .i64 t.kind):=(hwX.cell (p:=⟨gA,j*3,none⟩) hgA).trans r0
   have s1:X.cell? ⟨gA,j*3+1,none⟩=some (.int .i64 t.num):=(hwX.cell (p:=⟨gA,j*3+1,none⟩) hgA).trans r1
   have s2:X.cell? ⟨gA,j*3+2,none⟩=some (.int .u64 t.bits):=(hwX.cell (p:=⟨gA,j*3+2,none⟩) hgA).trans r2
   have g0:X.frozen? ⟨gA,j*3,none⟩=false:=(World.frozen?_of_block (a:=⟨gA,j*3,none⟩) (hwX.block gA hgA)).trans f0
   have g1:X.frozen? ⟨gA,j*3+1,none⟩=false:=(World.frozen?_of_block (a:=⟨gA,j*3+1,none⟩) (hwX.block gA hgA)).trans f1
   have g2:X.frozen? ⟨gA,j*3+2,none⟩=false:=(World.frozen?_of_block (a:=⟨gA,j*3+2,none⟩) (hwX.block gA hgA)).trans f2
   have hS:ArgB ess gA:=⟨(.slice (some ⟨gA,0,none⟩) na Ca,dv),List.mem_flatten.2 ⟨es,Jm hes.out,Jm he.out⟩,rfl⟩
   have hput:=hKX.put_arg (j:=j) (z:=v) (Qq hc.out) hes.out (Ze hx.out) he.out (by rw [hal,←hna.out];exact hlt) hv64.out
   have hon9:Only (ArgB ess) W.heap.size W (put3 X gA (j*3) v):=((honX.setCell (p:=⟨gA,j*3,none⟩) (.inl hS) _).setCell (p:=⟨gA,j*3+1,none⟩) (.inl hS) _).setCell (p:=⟨gA,j*3+2,none⟩) (.inl hS) _
   refine hd8 hput hon9 hKX hrow hwX hXs hS hgA ?_;clear hput hon9 hKX hrow hwX hXs hS hgA;intro hput hon9 hKX hrow hwX hXs hS hgA
   clear hX hxc hCd har hcell r0 r1 r2 f0 f1 f2 hK hon hbs
   by_cases hcase:t.kind=1∧t.num=reg
   ·have e1 : (t.kind == 1) = true := by rw [beq_iff_eq]; exact hcase.1
    have e2:(t.num==reg)=true:=by rw [beq_iff_eq];exact hcase.2
    have hst:Hid (rsub reg v t=v):=hide (by unfold rsub;rw [if_pos hcase])
    have hnext:=hput.out
    have hstep:=progA_step (σ:=rsub reg v) hc.out hx.out ht.out
    rw [hst.out] at hstep
    rw [hstep] at hnext
    clear hstep
    replace hnext:=hide hnext
    clear hput
    replace hcase:=hide hcase
    go_upto_region 5 with(fail)
    go_region
    go_wp2
    go_roundw
    case rel=>exact⟨j+1,by go_num,hlt,hide (hnext.out.kept fun _ _ _=>rfl),hon9.out.drew⟩
    case measure=>simp [intOf];omega
   ·have hst : Hid (rsub reg v t = t) := hide (by unfold rsub; rw [if_neg hcase])
    have hnext:=hKX.out
    rw [←progA_id hc.out hx.out ht.out hst.out] at hnext
    replace hnext:=hide hnext
    clear hput hon9
    by_cases hk1:t.kind=1
    ·have e1 : (t.kind == 1) = true := by rw [beq_iff_eq]; exact hk1
     have e2:(t.num==reg)=false:=by rw [beq_eq_false_iff_ne];exact fun h=>hcase ⟨hk1,h⟩
     clear hcase hk1
     go_wp2
     go_roundw
     case rel=>exact⟨j+1,by go_num,hlt,hnext,honX⟩
     case measure=>simp [intOf];omega
    ·have e1 : (t.kind == 1) = false := by rw [beq_eq_false_iff_ne]; exact hk1
     clear hcase hk1
     go_wp2
     go_roundw
     case rel=>exact⟨j+1,by go_num,hlt,hnext,honX⟩
     case measure=>simp [intOf];omega
  ·obtain rfl : j = na := by omega
   have hnext:=hK.out
   rw [hna.out,progA_next_ins hc.out hx.out] at hnext
   replace hnext:=hide hnext
   go_wp2
   go_ret
   exact⟨rfl,hnext.out,(Only.of_below hwWh.out).trans (hon.mono hwWh.out.size)⟩
def EachPost (σ:Opd→Opd) (L:Nat) (d:Value) (bs:List (List Ins)) (xs:List Value) (ess:List (List (Value×Value))) (w:World) (e:Ending) (w':World):Prop :=
 e = .returned (.tuple #[])∧Yq w' L d (Yaq σ bs) xs ess∧Only (ArgB ess) w.heap.size w w'
theorem each_repl (nm : ByteArray) (ret : Int) (Am : Option Addr) (np Cm : Nat) (reg : Int) (v : Opd) (hv64 : I64 v.kind ∧ I64 v.num) (L NR NV : Nat) (Ad : Option Addr) (n Cd : Nat) (bs : List (List Ins)) (xs : List Value) (ess : List (List (Value × Value))) (w : World)
  (hn:n=bs.length) (hK:Yq w L (.slice Ad n Cd) bs xs ess) (hn8:n≤2000000) (hcode:∀x,x∈bs→x.length≤2000000∧∀i,i∈x→i.args.length≤2000000∧i.to.length≤2000000)
  (hNR:NR<L) (hNV:NV<L) (hNRw:NR<w.heap.size) (hNVw:NV<w.heap.size) (hR:w.cell? ⟨NR,0,none⟩=some (.int .i64 reg)) (hV0:w.cell? ⟨NV,0,none⟩=some (.int .i64 v.kind)) (hV1:w.cell? ⟨NV,1,none⟩=some (.int .i64 v.num)) (hV2:w.cell? ⟨NV,2,none⟩=some (.int .u64 v.bits)) :
  Calls Tryz.prog 102 #[.agg #[.string nm, .slice Am np Cm, .int .i64 ret, .slice Ad n Cd], .func (.func 103) #[] #[.pointer (some ⟨NR,0,none⟩), .pointer (some ⟨NV,0,none⟩)]] w (EachPost (rsub reg v) L (.slice Ad n Cd) bs xs ess w):=by
 have hSL:Hid (∀q,ArgB ess q→L≤q∧q<w.heap.size):=hide (fun q ⟨e,he,hq⟩=>(hK.own_at he q).1 hq)
 obtain⟨W,hW,hwW,hWs,hx⟩:=Y6 w #[.string nm, .slice Am np Cm, .int .i64 ret, .slice Ad n Cd] 32
 have hon0:Only (ArgB ess) w.heap.size w W:=Only.of_below hwW
 have hNf:¬ArgB ess w.heap.size:=fun h=>by have:=(hSL.out _ h).2;omega
 have z3:∀w',Only (ArgB ess) W.heap.size W w'→w'.cell? ⟨w.heap.size,3,none⟩=some (.slice Ad n Cd):=fun w' h=>(h.cell (p:=⟨w.heap.size,3,none⟩) (by show w.heap.size<_;omega) hNf).trans (hx 3 _ rfl W (Below.refl _ _))
 have hbox:∀(N:Nat) (j:Nat) (u:Value),N<L→N<w.heap.size→w.cell? ⟨N,j,none⟩=some u→∀w',Only (ArgB ess) W.heap.size W w'→w'.cell? ⟨N,j,none⟩=some u:=fun N j u hN hNw hu w' h =>
  ((hon0.trans (h.mono hwW.size)).cell (p:=⟨N,j,none⟩) (by show N<_;omega) (fun e=>by have:L≤N:=(hSL.out _ e).1;omega)).trans hu
 have zR:=hide (hbox NR 0 _ hNR hNRw hR)
 have zV0:=hide (hbox NV 0 _ hNV hNVw hV0)
 have zV1:=hide (hbox NV 1 _ hNV hNVw hV1)
 have zV2:=hide (hbox NV 2 _ hNV hNVw hV2)
 have hKW:Hid (Yq W L (.slice Ad n Cd) (Yat (rsub reg v) 0 0 0 bs) xs ess):=hide (by rw [progA_start];exact hK.kept fun q _ hq=>hwW.block q hq)
 have hlx:xs.length=n:=by rw [hK.lenx,hn]
 have hle:ess.length=n:=by rw [hK.lene,hn]
 have hNRW:Hid (NR<W.heap.size∧NV<W.heap.size):=hide (by omega)
 have hself:=Only.refl (ArgB ess) W.heap.size W
 have hwWh:=hide hwW
 have hnH:=hide hn
 have hcodeH:=hide hcode
 have hv64h:=hide hv64
 replace hWs:=hide hWs
 clear hx hK hbox hon0 hNf hR hV0 hV1 hV2 hwW hn hcode hv64
 go_enter Tryz.func102,Tryz.ntmps102
 go_wp2
 go_loopw [9] (fun u wr=>∃i:Nat,u = .int .i64 i∧i≤n∧Hid (Yq wr L (.slice Ad n Cd) (Yat (rsub reg v) i 0 0 bs) xs ess)∧Only (ArgB ess) W.heap.size W wr) (fun u _=>n - (intOf u).toNat)
 case atStart=>exact⟨0,rfl,Nat.zero_le _,hKW,hself⟩
 case round =>
  clear hKW hself
  obtain⟨i,rfl,hi,hK,hon⟩:=hrel
  by_cases hlt:i<n
  ·have hii : (i : Int) < (n : Int) := by omega
   obtain⟨c,hc⟩:=Yf (l:=bs) (k:=i) (by rw [←hnH.out];exact hlt)
   obtain⟨xi,hxi⟩:=Yf (l:=xs) (k:=i) (by omega)
   obtain⟨es,hes⟩:=Yf (l:=ess) (k:=i) (by omega)
   obtain⟨gB,CB,hAd, -, -⟩:=hK.out.row.form (by rw [Yah,←hnH.out];omega)
   have hAd':Ad=some ⟨gB,0,none⟩:=by cases hAd;rfl
   subst hAd'
   clear hAd CB
   obtain⟨nc,hnc⟩:=Jn (c.length)
   have hszc:=hcodeH.out c (Jm hc.out)
   have hnc8:nc≤2000000:=by rw [hnc.out];exact hszc.1
   have hszi:=hide hszc.2
   have hCd0:=hK.out.inn i xi _ es hxi.out (Qq hc.out) hes.out
   obtain⟨Ac,Cc,hxf⟩:=Yd hCd0.row
   rw [Zm,←hnc.out] at hxf
   subst hxf
   have hrow0:=hK.out.row
   rw [Yah,←hnH.out] at hrow0
   have r0:wr.cell? ⟨gB,i,none⟩=some (.slice Ac nc Cc):=by rw [World.ownsRow.cellAt hrow0 i (by omega)];exact hxi.out
   clear hszc hCd0 hrow0
   go_wp2
   go_loopw [19] (fun u wr=>∃k:Nat,u = .int .i64 k∧k≤nc∧Hid (Yq wr L (.slice (some ⟨gB,0,none⟩) n Cd) (Yat (rsub reg v) i k 0 bs) xs ess)∧Only (ArgB ess) W.heap.size W wr) (fun u _=>nc - (intOf u).toNat)
   case atStart=>exact⟨0,rfl,Nat.zero_le _,hK,hon⟩
   case round =>
    clear hK hon r0
    obtain⟨k,rfl,hk,hK,hon⟩:=hrel
    by_cases hlt2:k<nc
    ·have hki : (k : Int) < (nc : Int) := by omega
     obtain⟨x,hx⟩:=Yf (l:=c) (k:=k) (by rw [←hnc.out];exact hlt2)
     have hCd0:=hK.out.inn i _ _ es hxi.out (Qq hc.out) hes.out
     obtain⟨gc,CC,hAc, -, -⟩:=hCd0.row.form (by rw [Zm,←hnc.out];omega)
     have hAc':Ac=some ⟨gc,0,none⟩:=by cases hAc;rfl
     subst hAc'
     clear hAc CC
     have hrow0:=hK.out.row
     rw [Yah,←hnH.out] at hrow0
     have r0:wr.cell? ⟨gB,i,none⟩=some (.slice (some ⟨gc,0,none⟩) nc Cc):=by rw [World.ownsRow.cellAt hrow0 i (by omega)];exact hxi.out
     have hcall:=hide (repl_any reg v hv64h.out i k L NR NV gc nc Cc _ bs xs ess c x es wr hK.out hc.out hx.out hes.out hxi.out (hszi.out x (Jm hx.out)).1 hNR hNV (Nat.lt_of_lt_of_le hNRW.out.1 hon.size) (Nat.lt_of_lt_of_le hNRW.out.2 hon.size) (zR.out wr hon) (zV0.out wr hon) (zV1.out wr hon) (zV2.out wr hon))
     have hbs:=hon.size
     clear hCd0 hrow0
     go_wp2_with fail
     refine hcall.out.mono ?_
     rintro e w2 ⟨rfl,hK2,hon2⟩
     have hon3:=hon.next (Nat.le_refl _) hon2
     replace hK2:=hide hK2
     clear hcall hK hon hon2 r0
     go_wp2
     go_roundw
     case rel=>exact⟨k+1,by go_num,hlt2,hK2,hon3⟩
     case measure=>simp [intOf];omega
    ·obtain rfl : k = nc := by omega
     have hnext:Hid (Yq wr L (.slice (some ⟨gB,0,none⟩) n Cd) (Yat (rsub reg v) (i+1) 0 0 bs) xs ess):=hide (by rw [←progA_next_block hc.out,←hnc.out];exact hK.out)
     go_wp2
     go_roundw
     case rel=>exact⟨i+1,by go_num,hlt,hnext,hon⟩
     case measure=>simp [intOf];omega
  ·obtain rfl : i = n := by omega
   have hE:Yat (rsub reg v) i 0 0 bs=Yaq (rsub reg v) bs:=by rw [hnH.out];exact progA_end
   rw [hE] at hK
   go_wp2
   go_end0
   exact⟨rfl,hK.out,(Only.of_below hwWh.out).trans (hon.mono hwWh.out.size)⟩
end Go.Proofs.YtamjcafjdioidaaGreat
