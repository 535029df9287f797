/- Texts of the chain, without what is not wanted: TdJ, TdK. No condition but sizes. -/
import Derived.Test.YtamjcafjdioidaaGreatUw11
set_option linter.unusedVariables false
set_option linter.unusedSimpArgs false
set_option maxRecDepth 100000
set_option maxHeartbeats 12800000
namespace Go.Proofs.YtamjcafjdioidaaGreat
open Go.RowKit
def MovPost (V:World) (gc n C i:Nat) (xs:List Value) (p q:Int) (x:Ins) (ca ct:Value) (e:Ending) (w':World):Prop :=
 e = .returned (.tuple #[])∧∃ca' ct',OwnV w' 0 ca' (movI p q x).args∧OwnI w' 0 ct' (movI p q x).to∧ca'.ownBlock=ca.ownBlock∧ct'.ownBlock=ct.ownBlock∧
  w'.ownsRow 0 44 7 (.slice (some ⟨gc,0,none⟩) n C) n ((xs.set (i*7+5) ca').set (i*7+6) ct')∧
  Only (fun k=>k=gc∨ca.ownBlock=some k∨ct.ownBlock=some k) V.heap.size V w'
structure MvSt (X U : World) (ga gt na nt Ca Ct : Nat) (q : Int) (z : Opd) (ai ti : List Value) (iI iV : Option Nat) : Prop where
 only:Only (fun k=>k=gt∨k=ga) X.heap.size X U
 rt:U.ownsRow 0 3 1 (.slice (some ⟨gt,0,none⟩) nt Ct) nt ti
 ra:U.ownsRow 0 62 3 (.slice (some ⟨ga,0,none⟩) na Ca) na ai
 hI:∀k,iI=some k→X.heap.size≤k∧U.heap[k]? = some (.cells #[.int .i64 q] 3 (0,0))
 hV:∀k,iV=some k→X.heap.size≤k∧U.heap[k]? = some (.cells #[.int .i64 z.kind, .int .i64 z.num, .int .u64 z.bits] 62 (0,0))
section
variable {X U U':World} {ga gt na nt Ca Ct:Nat} {q:Int} {z:Opd} {ai ti:List Value} {iI iV:Option Nat}
theorem MvSt.row_alloc {B:Nat} {T:TypeId} {s n:Nat} {v:Value} {ys:List Value} (h:U.ownsRow B T s v n ys) (o:Obj):(U.alloc o).ownsRow B T s v n ys:=Yc h fun k hk=>heap_alloc_old U o (Ya h hk).2.1
theorem MvSt.allocI (h:MvSt X U ga gt na nt Ca Ct q z ai ti none iV):MvSt X (U.alloc (.cells #[.int .i64 q] 3)) ga gt na nt Ca Ct q z ai ti (some U.heap.size) iV:=by
 refine⟨h.only.next (Nat.le_refl _) (Only.of_below ((Below.refl _ _).alloc (Nat.le_refl _) _)),row_alloc h.rt _,row_alloc h.ra _,fun k hk => ?_,fun k hk => ?_⟩
 ·cases hk
  exact⟨h.only.size,heap_alloc_new U _⟩
 ·obtain ⟨h1, h2⟩ := h.hV k hk
  exact⟨h1,(heap_alloc_old U _ (Array.getElem?_eq_some_iff.1 h2).1).trans h2⟩
theorem MvSt.allocV (h:MvSt X U ga gt na nt Ca Ct q z ai ti iI none):MvSt X (U.alloc (.cells #[.int .i64 z.kind, .int .i64 z.num, .int .u64 z.bits] 62)) ga gt na nt Ca Ct q z ai ti iI (some U.heap.size):=by
 refine⟨h.only.next (Nat.le_refl _) (Only.of_below ((Below.refl _ _).alloc (Nat.le_refl _) _)),row_alloc h.rt _,row_alloc h.ra _,fun k hk => ?_,fun k hk => ?_⟩
 ·obtain ⟨h1, h2⟩ := h.hI k hk
  exact⟨h1,(heap_alloc_old U _ (Array.getElem?_eq_some_iff.1 h2).1).trans h2⟩
 ·cases hk
  exact⟨h.only.size,heap_alloc_new U _⟩
theorem MvSt.insI {j:Nat} {e:Ending} {k:Nat} (h:MvSt X U ga gt na nt Ca Ct q z ai ti (some k) iV) (hX:gt<X.heap.size) (hne:ga≠gt) (hp:Ybq 3 1 gt nt Ct j 0 ti [.int .i64 q] U e U'):e = .returned (.slice (some ⟨gt,0,none⟩) (nt+1) Ct)∧MvSt X U' ga gt na (nt+1) Ca Ct q z ai (ti.take (j*1) ++ [.int .i64 q]++ti.drop (j*1)) (some k) iV:=by
 obtain⟨h1,h2,h3⟩:=hp
 have hUs:=h.only.size
 refine⟨h1,h.only.next (Nat.le_refl _) (h3.more fun k _ hk => .inl hk),h2,Yc h.ra fun k hk=>h3.block k (Ya h.ra hk).2.1 (by cases hk;exact hne),fun k hk => ?_,fun k hk => ?_⟩
 ·obtain ⟨g1, g2⟩ := h.hI k hk
  exact⟨g1,(h3.block k (Array.getElem?_eq_some_iff.1 g2).1 (by omega)).trans g2⟩
 ·obtain ⟨g1, g2⟩ := h.hV k hk
  exact⟨g1,(h3.block k (Array.getElem?_eq_some_iff.1 g2).1 (by omega)).trans g2⟩
end
theorem set4 {α:Type} {xs:List α} {i j:Nat} {a b c d:α} (h:i≠j):(((xs.set i a).set j b).set i c).set j d=(xs.set j d).set i c:=by
 rw [List.set_comm _ _ h,List.set_set,List.set_comm _ _ (Ne.symm h),List.set_set]
 exact List.set_comm _ _ h
theorem mov_end {V U : World} {gc n C i ga gt ma mt Ca Ct k j : Nat} {xs ys : List Value} {x : Ins} {p q : Int} {z : Opd} {ca ct : Value} (hca : ca.ownBlock = some ga) (hct : ct.ownBlock = some gt) (hq : I64 q)
  (hpm:p∈x.to) (hk:k=x.to.idxOf p) (hj:j=bsI (x.to.eraseIdx k) q) (hz:x.args[k]? = some z) (hva:OwnV V 0 ca x.args) (hvt:OwnI V 0 ct x.to) (hma:(x.args.eraseIdx k).length=ma) (hmt:(x.to.eraseIdx k).length=mt) (hlen:ma=mt)
  (hr:U.ownsRow 0 44 7 (.slice (some ⟨gc,0,none⟩) n C) n ys) (hys:(ys.set (i*7+6) (.slice (some ⟨gt,0,none⟩) (mt+1) Ct)).set (i*7+5) (.slice (some ⟨ga,0,none⟩) (ma+1) Ca)=(xs.set (i*7+5) (.slice (some ⟨ga,0,none⟩) (ma+1) Ca)).set (i*7+6) (.slice (some ⟨gt,0,none⟩) (mt+1) Ct))
  (hra:U.ownsRow 0 62 3 (.slice (some ⟨ga,0,none⟩) (ma+1) Ca) (ma+1) (((x.args.eraseIdx k).flatMap oc).take (j*3)++oc z++((x.args.eraseIdx k).flatMap oc).drop (j*3)))
  (hrt:U.ownsRow 0 3 1 (.slice (some ⟨gt,0,none⟩) (mt+1) Ct) (mt+1) (((x.to.eraseIdx k).map fun u=>Value.int .i64 u).take (j*1) ++ [.int .i64 q]++((x.to.eraseIdx k).map fun u=>Value.int .i64 u).drop (j*1)))
  (nCA:gc≠ga) (nCT:gc≠gt) (hon:Only (fun k=>k=gc∨ca.ownBlock=some k∨ct.ownBlock=some k) V.heap.size V U) :
  MovPost V gc n C i xs p q x ca ct (.returned (.tuple #[])) ((U.setCell ⟨gc,i*7+6,none⟩ (.slice (some ⟨gt,0,none⟩) (mt+1) Ct)).setCell ⟨gc,i*7+5,none⟩ (.slice (some ⟨ga,0,none⟩) (ma+1) Ca)):=by
 have hjl:j≤(x.to.eraseIdx k).length:=by rw [hj];exact bsI_le _ _
 have hgd:x.args.getD k ⟨0,0,0⟩=z:=by rw [Jq,hz];rfl
 have hmov:movI p q x=⟨x.op,x.reg,x.ty,x.num,x.flags,(x.args.eraseIdx k).insertIdx j z,(x.to.eraseIdx k).insertIdx j q⟩:=by
  unfold movI
  rw [if_pos hpm,←hk,←hj,hgd]
 have hin:∀b,b≠gc→((U.setCell ⟨gc,i*7+6,none⟩ (.slice (some ⟨gt,0,none⟩) (mt+1) Ct)).setCell ⟨gc,i*7+5,none⟩ (.slice (some ⟨ga,0,none⟩) (ma+1) Ca)).heap[b]? = U.heap[b]? := fun b hb =>
  (Below.heap_setCell (U.setCell ⟨gc,i*7+6,none⟩ (.slice (some ⟨gt,0,none⟩) (mt+1) Ct)) ⟨gc,i*7+5,none⟩ (.slice (some ⟨ga,0,none⟩) (ma+1) Ca) b hb).trans (Below.heap_setCell U ⟨gc,i*7+6,none⟩ (.slice (some ⟨gt,0,none⟩) (mt+1) Ct) b hb)
 have hi1:=ins_cells (s:=1) (fun u:Int => [Value.int .i64 u]) (fun _=>rfl) (x.to.eraseIdx k) j q hjl
 have hfm:∀l:List Int,l.flatMap (fun u:Int => [Value.int .i64 u])=l.map fun u=>Value.int .i64 u:=fun l=>by induction l<;>simp_all
 rw [hfm,hfm] at hi1
 have hia:=ins_cells (s:=3) oc (fun _=>rfl) (x.args.eraseIdx k) j z (by rw [hma,hlen,←hmt];exact hjl)
 have hil:((x.to.eraseIdx k).insertIdx j q).length=mt+1:=by rw [List.length_insertIdx_of_le_length hjl,hmt]
 have hal:((x.args.eraseIdx k).insertIdx j z).length=ma+1:=by rw [List.length_insertIdx_of_le_length (by rw [hma,hlen,←hmt];exact hjl),hma]
 refine⟨rfl, .slice (some ⟨ga,0,none⟩) (ma+1) Ca, .slice (some ⟨gt,0,none⟩) (mt+1) Ct,?_,?_,hca.symm,hct.symm,?_,?_⟩
 ·rw [hmov]
  refine⟨?_,fun u hu => ?_⟩
  ·show World.ownsRow _ 0 62 3 _ ((x.args.eraseIdx k).insertIdx j z).length _
   rw [hal,hia]
   exact Yc hra fun b hb=>hin b (by cases hb;exact Ne.symm nCA)
  ·rcases (List.mem_insertIdx (by rw [hma, hlen, ← hmt]; exact hjl)).1 hu with h1 | h1
   ·subst h1;exact hva.ok _ (Jm hz)
   ·exact hva.ok _ (List.mem_of_mem_eraseIdx h1)
 ·rw [hmov]
  refine⟨?_,fun u hu => ?_⟩
  ·show World.ownsRow _ 0 3 1 _ ((x.to.eraseIdx k).insertIdx j q).length _
   rw [hil,hi1]
   exact Yc hrt fun b hb=>hin b (by cases hb;exact Ne.symm nCT)
  ·rcases (List.mem_insertIdx hjl).1 hu with h1 | h1
   ·subst h1;exact hq
   ·exact hvt.ok _ (List.mem_of_mem_eraseIdx h1)
 ·rw [← hys]
  exact(World.ownsRow.stored (World.ownsRow.stored hr (i*7+6) (.slice (some ⟨gt,0,none⟩) (mt+1) Ct)).1 (i*7+5) (.slice (some ⟨ga,0,none⟩) (ma+1) Ca)).1
 ·exact((hon.setCell (p:=⟨gc,i*7+6,none⟩) (.inl (.inl rfl)) _).setCell (p:=⟨gc,i*7+5,none⟩) (.inl (.inl rfl)) _)
theorem moved_any {V : World} {gc n C i : Nat} {xs : List Value} {x : Ins} {ca ct : Value} (p q : Int) (hr : V.ownsRow 0 44 7 (.slice (some ⟨gc, 0, none⟩) n C) n xs) (hi : i < n)
  (e5:xs[i*7+5]? = some ca) (e6:xs[i*7+6]? = some ct) (hva:OwnV V 0 ca x.args) (hvt:OwnI V 0 ct x.to) (hlen:x.args.length=x.to.length) (hq:I64 q) (hbig:x.to.length<4611686018427387904) :
  Calls Tryz.prog 62 #[.pointer (some ⟨gc,i*7,none⟩), .int .i64 p, .int .i64 q] V (MovPost V gc n C i xs p q x ca ct):=by
 obtain⟨Aa,Ca,hcaf⟩:=Yd hva.row
 obtain⟨At,Ct,hctf⟩:=Yd hvt.row
 subst hcaf hctf
 obtain⟨na,hna⟩:=Jn (x.args.length)
 obtain⟨nt,hnt⟩:=Jn (x.to.length)
 rw [←hna.out,←hnt.out] at hlen
 rw [←hnt.out] at hbig
 have hxl:=hr.1
 have c5:V.cell? ⟨gc,i*7+5,none⟩=some (.slice Aa na Ca):=by rw [World.ownsRow.cellAt hr (i*7+5) (by omega),hna.out];exact e5
 have c6:V.cell? ⟨gc,i*7+6,none⟩=some (.slice At nt Ct):=by rw [World.ownsRow.cellAt hr (i*7+6) (by omega),hnt.out];exact e6
 have hgcl:=(Ya hr rfl).2.1
 have cI:Hid (Calls Tryz.prog 99 #[.slice At nt Ct, .int .i64 p] V (fun e w'=>e = .returned (.int .i64 (idxI x.to p))∧Below V.heap.size V w')):=hide (by rw [hnt.out];exact index2_any _ x.to p V V.heap.size (Nat.le_refl _) hvt.rep)
 refine hd7 hr e5 e6 hva hvt hlen hxl ?_;clear hr e5 e6 hva hvt hlen hxl;intro hr e5 e6 hva hvt hlen hxl
 go_enter Tryz.func62,Tryz.ntmps62
 go_wp2_with (fail)
 refine cI.out.mono ?_
 rintro e V1 ⟨rfl,hb1⟩
 by_cases hpm:p∈x.to
 case neg =>
  have hix:idxI x.to p = -1:=by rw [idxI,if_neg hpm]
  rw [hix]
  have hfin:Hid (MovPost V gc n C i xs p q x (.slice Aa x.args.length Ca) (.slice At x.to.length Ct) (.returned (.tuple #[])) V1):=hide (by
   refine⟨rfl,_,_,?_,?_,rfl,rfl,?_,Only.of_below hb1⟩
   ·rw [movI_no hpm];exact hva.out.kept fun k _ h=>hb1.block k h
   ·rw [movI_no hpm];exact hvt.out.kept fun k _ h=>hb1.block k h
   ·rw [Qo e5.out, Qo e6.out]
    exact Yc hr.out fun k h=>hb1.block k (Ya hr.out h).2.1)
  go_wp2
  try simp only [Exit.inBlock,Exit.then]
  refine bodyPost_ret (results_none rfl _ _ _) rfl ?_
  exact hfin.out
 obtain⟨k,hkd⟩:=Jn (x.to.idxOf p)
 have hix:idxI x.to p=(k:Int):=by rw [idxI,if_pos hpm,hkd.out]
 rw [hix]
 have hknt:k<nt:=by rw [hkd.out,hnt.out];exact List.idxOf_lt_length_of_mem hpm
 have hkna:k<na:=by have:=hlen.out;omega
 have hk0:¬((k:Int)<0):=by omega
 have hki:(k:Int)<(na:Int):=by omega
 obtain⟨kj,hkj⟩:=Jn (k+1)
 have hsum:IntKind.i64.wrap ((k:Int)+1)=(kj:Int):=by rw [IntKind.wrap_i64];have:=hkj.out;omega
 have hV1s:=hb1.size
 obtain⟨gt,CT9,htf, -,hgtl⟩:=hvt.out.row.form (by rw [←hnt.out];omega)
 rw [←hnt.out] at htf
 cases htf
 obtain⟨ga,CA9,haf, -,hgal⟩:=hva.out.row.form (by rw [←hna.out];omega)
 rw [←hna.out] at haf
 cases haf
 have tyA:=(Ya hva.out.row rfl).2.2
 have tyT:=(Ya hvt.out.row rfl).2.2
 have tyC:=(Ya hr.out rfl).2.2
 have nAT:ga≠gt:=Z7 tyA tyT (by decide)
 have nCA:gc≠ga:=Z7 tyC tyA (by decide)
 have nCT:gc≠gt:=Z7 tyC tyT (by decide)
 have hna64:na≤9223372036854775807:=by rw [hna.out];exact Yae hva.out.row
 obtain⟨z,hz⟩:=Yf (l:=x.args) (k:=k) (by rw [←hna.out];exact hkna)
 have hra:Hid (V1.ownsRow 0 62 3 (.slice (some ⟨ga,0,none⟩) na Ca) na (x.args.flatMap oc)):=hide (by
  have:=Yc hva.out.row (w':=V1) fun q hq=>hb1.block q (Ya hva.out.row hq).2.1
  rwa [←hna.out] at this)
 have hrt:Hid (V1.ownsRow 0 3 1 (.slice (some ⟨gt,0,none⟩) nt Ct) nt (x.to.map fun z=>Value.int .i64 z)):=hide (by
  have:=Yc hvt.out.row (w':=V1) fun q hq=>hb1.block q (Ya hvt.out.row hq).2.1
  rwa [←hnt.out] at this)
 have hr1:Hid (V1.ownsRow 0 44 7 (.slice (some ⟨gc,0,none⟩) n C) n xs):=hide (Yc hr.out fun q hq=>hb1.block q (Ya hr.out hq).2.1)
 have hrd:∀q,q<3→V1.cell? ⟨ga,k*3+q,none⟩=(oc z)[q]? := fun q hq=>by
  rw [World.ownsRow.cellAt hra.out (k*3+q) (by omega),oc_get,show(k*3+q) / 3=k by omega,show(k*3+q) % 3=q by omega,hz.out]
  rfl
 have d0:V1.cell? ⟨ga,k*3,none⟩=some (.int .i64 z.kind):=hrd 0 (by omega)
 have d1:V1.cell? ⟨ga,k*3+1,none⟩=some (.int .i64 z.num):=hrd 1 (by omega)
 have d2:V1.cell? ⟨ga,k*3+2,none⟩=some (.int .u64 z.bits):=hrd 2 (by omega)
 have c5b:=Yg c5 hgcl V1 hb1
 obtain⟨X,hX,hwX,hXs,hxx⟩:=Y6 V1 #[.int .i64 z.kind, .int .i64 z.num, .int .u64 z.bits] 62
 replace hX:=hide hX
 clear hrd
 refine hd5 hb1 tyA tyT tyC hpm ?_;clear hb1 tyA tyT tyC hpm;intro hb1 tyA tyT tyC hpm
 have hXs1:V1.heap.size≤X.heap.size:=by rw [hXs];exact Nat.le_succ _
 have hNX:V1.heap.size<X.heap.size:=by omega
 have hgcX:gc<X.heap.size:=by omega
 replace hXs:=hide hXs
 have hoX:Hid (Below V.heap.size V X):=hide (hb1.out.trans (hwX.mono hV1s))
 have hraX:Hid (X.ownsRow 0 62 3 (.slice (some ⟨ga,0,none⟩) na Ca) na (x.args.flatMap oc)):=hide (Yc hra.out fun q hq=>hwX.block q (Ya hra.out hq).2.1)
 have hrtX:Hid (X.ownsRow 0 3 1 (.slice (some ⟨gt,0,none⟩) nt Ct) nt (x.to.map fun z=>Value.int .i64 z)):=hide (Yc hrt.out fun q hq=>hwX.block q (Ya hrt.out hq).2.1)
 have hrX:Hid (X.ownsRow 0 44 7 (.slice (some ⟨gc,0,none⟩) n C) n xs):=hide (Yc hr1.out fun q hq=>hwX.block q (Ya hr1.out hq).2.1)
 have hgaX:ga<X.heap.size:=(Ya hraX.out rfl).2.1
 have hgtX:gt<X.heap.size:=(Ya hrtX.out rfl).2.1
 have ngc:¬(gc=gt∨gc=ga):=by omega
 have hga1:ga<V1.heap.size:=by omega
 have hgt1:gt<V1.heap.size:=by omega
 have nNB:¬(V1.heap.size=gt∨V1.heap.size=ga):=by omega
 have s5:∀w',Only (fun q=>q=gt∨q=ga) X.heap.size X w'→w'.cell? ⟨gc,i*7+5,none⟩=some (.slice (some ⟨ga,0,none⟩) na Ca):=Yx (Yg c5 hgcl X hoX.out) hgcX ngc
 have s6:∀w',Only (fun q=>q=gt∨q=ga) X.heap.size X w'→w'.cell? ⟨gc,i*7+6,none⟩=some (.slice (some ⟨gt,0,none⟩) nt Ct):=Yx (Yg c6 hgcl X hoX.out) hgcX ngc
 have z5:∀w',Only (fun q=>q=gt∨q=ga) X.heap.size X w'→w'.frozen? ⟨gc,i*7+5,none⟩=false:=on_free (Zj hrX.out _) hgcX ngc
 have z6:∀w',Only (fun q=>q=gt∨q=ga) X.heap.size X w'→w'.frozen? ⟨gc,i*7+6,none⟩=false:=on_free (Zj hrX.out _) hgcX ngc
 have hx0:Hid (X.cell? ⟨V1.heap.size,0,none⟩=some (.int .i64 z.kind)):=hide (hxx 0 _ rfl X (Below.refl _ _))
 have hx1:Hid (X.cell? ⟨V1.heap.size,1,none⟩=some (.int .i64 z.num)):=hide (hxx 1 _ rfl X (Below.refl _ _))
 have hx2:Hid (X.cell? ⟨V1.heap.size,2,none⟩=some (.int .u64 z.bits)):=hide (hxx 2 _ rfl X (Below.refl _ _))
 replace hwX:=hide hwX
 clear hxx
 go_upto_region 3 with(fail)
 rw [hX.out]
 clear c5 c6 c5b d0 d1 d2
 refine Y8 (S:=fun u=>Only (fun q=>q=gt∨q=ga) X.heap.size X u) (T:=fun j=>decide (j<18)&&decide (j≠1)) (by kernel_rfl) ?_
 obtain⟨U0,hU0⟩:∃U0,Hid (X.drew=U0):=⟨_,hide rfl⟩
 have hS0:Hid (Only (fun q=>q=gt∨q=ga) X.heap.size X U0):=hide (by rw [←hU0.out];exact(Only.refl _ _ _).drew)
 have hrt0:Hid (U0.ownsRow 0 3 1 (.slice (some ⟨gt,0,none⟩) nt Ct) nt (x.to.map fun z=>Value.int .i64 z)):=hide (by rw [←hU0.out];exact hrtX.out)
 have hra0:Hid (U0.ownsRow 0 62 3 (.slice (some ⟨ga,0,none⟩) na Ca) na (x.args.flatMap oc)):=hide (by rw [←hU0.out];exact hraX.out)
 rw [hU0.out]
 refine Jy (i:=1) ?_
 refine Jt (i:=0) hS0.out ?_
 refine Jt (i:=2) hS0.out ?_
 refine Jt (i:=3) hS0.out ?_
 refine Jt (i:=4) hS0.out ?_
 refine Jt (i:=5) hS0.out ?_
 refine Jt (i:=6) hS0.out ?_
 refine Jt (i:=7) hS0.out ?_
 refine Jt (i:=8) hS0.out ?_
 refine Jt (i:=10) hS0.out ?_
 refine Jt (i:=11) hS0.out ?_
 refine Jt (i:=12) hS0.out ?_
 refine Jt (i:=13) hS0.out ?_
 refine Jt (i:=14) hS0.out ?_
 refine Jt (i:=15) hS0.out ?_
 refine Jt (i:=16) hS0.out ?_
 refine Jr (i:=9) fun K hK => ?_
 (try go_simp)
 go_at_call 100
 refine(delete_ints gt nt Ct k 0 _ U0 hrt0.out kj hkj.out hknt int_one).mono ?_
 rintro e U1 ⟨rfl,hr1,ho1⟩
 have hS1:Hid (Only (fun q=>q=gt∨q=ga) X.heap.size X U1):=hide (hS0.out.next (Nat.le_refl _) (ho1.more fun q _ hq=>Or.inl hq))
 have hra1:Hid (U1.ownsRow 0 62 3 (.slice (some ⟨ga,0,none⟩) na Ca) na (x.args.flatMap oc)):=hide (Yc hra0.out fun q hq=>ho1.block q (Ya hra0.out hq).2.1 (by cases hq;exact nAT))
 replace hr1:=hide hr1
 clear ho1
 refine Jo hK (fun _=>hS1.out) ?_;clear hK K
 refine Jr (i:=17) fun K hK => ?_
 (try go_simp)
 go_at_call 101
 refine(delete_opds ga na Ca k 0 _ U1 hra1.out kj hkj.out hkna oc_one9).mono ?_
 rintro e U2 ⟨rfl,hr2,ho2⟩
 have hS2:Hid (Only (fun q=>q=gt∨q=ga) X.heap.size X U2):=hide (hS1.out.next (Nat.le_refl _) (ho2.more fun q _ hq=>Or.inr hq))
 have hrt2:=hide (Yc hr1.out fun q hq=>ho2.block q (Ya hr1.out hq).2.1 (by cases hq;exact fun e=>nAT e.symm))
 replace hr2:=hide hr2
 have y5:=s5 U2 hS2.out
 have y6:=s6 U2 hS2.out
 have yz5:=z5 U2 hS2.out
 have yz6:=z6 U2 hS2.out
 clear ho2
 refine Jo hK (fun _=>hS2.out) ?_;clear hK K
 refine Jy (i:=18) ?_
 refine Jy (i:=19) ?_
 refine Jr (i:=20) fun K hK => ?_
 go_simp
 refine Jo hK (fun h=>absurd h (by decide)) ?_;clear hK K
 refine Jy (i:=21) ?_
 refine Jy (i:=22) ?_
 refine Jr (i:=23) fun K hK => ?_
 go_simp
 refine Jo hK (fun h=>absurd h (by decide)) ?_;clear hK K
 refine Yv (by kernel_rfl) ?_ _
 obtain⟨ma,hma⟩:=Jn (na - 1)
 obtain⟨mt,hmt⟩:=Jn (nt - 1)
 rw [←hma.out,←hmt.out]
 obtain⟨U3,hU3⟩:∃U3,Hid ((U2.setCell ⟨gc,i*7+6,none⟩ (.slice (some ⟨gt,0,none⟩) mt Ct)).setCell ⟨gc,i*7+5,none⟩ (.slice (some ⟨ga,0,none⟩) ma Ca)=U3):=⟨_,hide rfl⟩
 have hin3:∀q,q≠gc→U3.heap[q]? = U2.heap[q]? := fun q h2=>by
  rw [←hU3.out]
  exact(Below.heap_setCell (U2.setCell ⟨gc,i*7+6,none⟩ (.slice (some ⟨gt,0,none⟩) mt Ct)) ⟨gc,i*7+5,none⟩ (.slice (some ⟨ga,0,none⟩) ma Ca) q h2).trans (Below.heap_setCell U2 ⟨gc,i*7+6,none⟩ (.slice (some ⟨gt,0,none⟩) mt Ct) q h2)
 have hal:Hid ((x.args.eraseIdx k).length=ma):=hide (by rw [List.length_eraseIdx,if_pos (by rw [←hna.out];exact hkna),←hna.out,hma.out])
 have htl:Hid ((x.to.eraseIdx k).length=mt):=hide (by rw [List.length_eraseIdx,if_pos (by rw [←hnt.out];exact hknt),←hnt.out,hmt.out])
 have hra3:Hid (U3.ownsRow 0 62 3 (.slice (some ⟨ga,0,none⟩) ma Ca) ma ((x.args.eraseIdx k).flatMap oc)):=hide (by
  have h1:=Yc hr2.out (w':=U3) fun q hq=>hin3 q (by cases hq;exact fun e=>nCA e.symm)
  rw [oc_erase (by rw [←hna.out];exact hkna)]
  refine Yb8 h1 ?_ (by have:=hma.out;omega)
  rw [←oc_erase (by rw [←hna.out];exact hkna),oc_len,hal.out])
 have hrt3:Hid (U3.ownsRow 0 3 1 (.slice (some ⟨gt,0,none⟩) mt Ct) mt ((x.to.eraseIdx k).map fun z=>Value.int .i64 z)):=hide (by
  have h1:=Yc hrt2.out (w':=U3) fun q hq=>hin3 q (by cases hq;exact fun e=>nCT e.symm)
  rw [int_erase]
  refine Yb8 h1 ?_ (by have:=hmt.out;omega)
  rw [←int_erase,List.length_map,htl.out,Nat.mul_one])
 have hr3:Hid (U3.ownsRow 0 44 7 (.slice (some ⟨gc,0,none⟩) n C) n ((xs.set (i*7+6) (.slice (some ⟨gt,0,none⟩) mt Ct)).set (i*7+5) (.slice (some ⟨ga,0,none⟩) ma Ca))):=hide (by
  have h1:=Yc hrX.out (w':=U2) fun q hq=>hS2.out.block q (Ya hrX.out hq).2.1 (by cases hq;exact ngc)
  rw [←hU3.out]
  exact(World.ownsRow.stored (World.ownsRow.stored h1 (i*7+6) (.slice (some ⟨gt,0,none⟩) mt Ct)).1 (i*7+5) (.slice (some ⟨ga,0,none⟩) ma Ca)).1)
 have hS2s:=hS2.out.size
 have hU3s:Hid (U3.heap.size=U2.heap.size):=hide (by rw [←hU3.out];simp)
 have hXU3:Hid (X.heap.size≤U3.heap.size):=hide (by rw [hU3s.out];exact hS2s)
 have hxlen:=hxl.out
 have e53:U3.cell? ⟨gc,i*7+5,none⟩=some (.slice (some ⟨ga,0,none⟩) ma Ca):=by
  rw [World.ownsRow.cellAt hr3.out (i*7+5) (by omega),Jf (by rw [List.length_set];omega)]
 have e63:U3.cell? ⟨gc,i*7+6,none⟩=some (.slice (some ⟨gt,0,none⟩) mt Ct):=by
  rw [World.ownsRow.cellAt hr3.out (i*7+6) (by omega),Je (by omega),Jf (by omega)]
 have hNBc:∀j u,X.cell? ⟨V1.heap.size,j,none⟩=some u→U3.cell? ⟨V1.heap.size,j,none⟩=some u:=fun j u hu=>by
  rw [World.cell?_of_block (w:=U2) (hin3 V1.heap.size (by omega))]
  exact Yx hu hNX nNB U2 hS2.out
 have b03:=hNBc 0 _ hx0.out
 have b13:=hNBc 1 _ hx1.out
 have b23:=hNBc 2 _ hx2.out
 have hon3:Hid (Only (fun b=>b=gc∨(Value.slice (some ⟨ga,0,none⟩) x.args.length Ca).ownBlock=some b∨(Value.slice (some ⟨gt,0,none⟩) x.to.length Ct).ownBlock=some b) V.heap.size V U3):=hide (by
  rw [←hU3.out]
  refine(((Only.of_below hoX.out).next (Nat.le_refl _) (hS2.out.more fun b _ hb => ?_)).setCell (p:=⟨gc,i*7+6,none⟩) (.inl (.inl rfl)) _).setCell (p:=⟨gc,i*7+5,none⟩) (.inl (.inl rfl)) _
  rcases hb with h1|h1
  ·subst h1;exact .inr (.inr rfl)
  ·subst h1;exact .inr (.inl rfl))
 have hgcU3:gc<U3.heap.size:=by have:=hXU3.out;omega
 have hNU3:V1.heap.size<U3.heap.size:=by have:=hXU3.out;omega
 have hgaU3:ga<U3.heap.size:=by have:=hXU3.out;omega
 have hgtU3:gt<U3.heap.size:=by have:=hXU3.out;omega
 obtain⟨j,hj⟩:=Jn (bsI (x.to.eraseIdx k) q)
 have hjm:j≤mt:=by rw [hj.out,←htl.out];exact bsI_le _ _
 have hmam:Hid (ma=mt):=hide (by have:=hlen.out;have:=hma.out;have:=hmt.out;omega)
 have cB:Hid (Calls Tryz.prog 104 #[.slice (some ⟨gt,0,none⟩) mt Ct, .int .i64 q] U3 (fun e w'=>(∃bb,e = .returned (.tuple #[.int .i64 (j:Nat), .bool bb]))∧Below U3.heap.size U3 w')):=hide (by
  rw [hj.out]
  refine bsearch_any _ (x.to.eraseIdx k) q U3 U3.heap.size (Nat.le_refl _) ?_ (by rw [htl.out];have:=hmt.out;omega)
  have h9:OwnI U3 0 (.slice (some ⟨gt,0,none⟩) mt Ct) (x.to.eraseIdx k):=⟨by rw [htl.out];exact hrt3.out,fun u hu=>hvt.out.ok u (List.mem_of_mem_eraseIdx hu)⟩
  exact h9.rep)
 rw [hU3.out]
 clear hin3 hNBc y5 y6 yz5 yz6 s5 s6 z5 z6 hxlen hS2s
 go_wp2_with (fail)
 refine cB.out.mono ?_
 rintro e U4 ⟨⟨bb,rfl⟩,hb4⟩
 have hU4s:=hb4.size
 have hgcU4:gc<U4.heap.size:=by omega
 have hNU4:V1.heap.size<U4.heap.size:=by omega
 have hgaU4:ga<U4.heap.size:=by omega
 have hgtU4:gt<U4.heap.size:=by omega
 have hra4:Hid (U4.ownsRow 0 62 3 (.slice (some ⟨ga,0,none⟩) ma Ca) ma ((x.args.eraseIdx k).flatMap oc)):=hide (Yc hra3.out fun q hq=>hb4.block q (Ya hra3.out hq).2.1)
 have hrt4:Hid (U4.ownsRow 0 3 1 (.slice (some ⟨gt,0,none⟩) mt Ct) mt ((x.to.eraseIdx k).map fun z=>Value.int .i64 z)):=hide (Yc hrt3.out fun q hq=>hb4.block q (Ya hrt3.out hq).2.1)
 have hr4:=hide (Yc hr3.out (w':=U4) fun q hq=>hb4.block q (Ya hr3.out hq).2.1)
 have hon4:=hide (hon3.out.next (Nat.le_refl _) (Only.of_below hb4))
 have e54:∀w',Only (fun q=>q=gt∨q=ga) U4.heap.size U4 w'→w'.cell? ⟨gc,i*7+5,none⟩=some (.slice (some ⟨ga,0,none⟩) ma Ca):=Yx (Yg e53 hgcU3 U4 hb4) hgcU4 ngc
 have e64:∀w',Only (fun q=>q=gt∨q=ga) U4.heap.size U4 w'→w'.cell? ⟨gc,i*7+6,none⟩=some (.slice (some ⟨gt,0,none⟩) mt Ct):=Yx (Yg e63 hgcU3 U4 hb4) hgcU4 ngc
 have z54:∀w',Only (fun q=>q=gt∨q=ga) U4.heap.size U4 w'→w'.frozen? ⟨gc,i*7+5,none⟩=false:=on_free (Zj hr4.out _) hgcU4 ngc
 have z64:∀w',Only (fun q=>q=gt∨q=ga) U4.heap.size U4 w'→w'.frozen? ⟨gc,i*7+6,none⟩=false:=on_free (Zj hr4.out _) hgcU4 ngc
 have b04:∀w',Only (fun q=>q=gt∨q=ga) U4.heap.size U4 w'→w'.cell? ⟨V1.heap.size,0,none⟩=some (.int .i64 z.kind):=Yx (Yg b03 hNU3 U4 hb4) hNU4 nNB
 have b14:∀w',Only (fun q=>q=gt∨q=ga) U4.heap.size U4 w'→w'.cell? ⟨V1.heap.size,1,none⟩=some (.int .i64 z.num):=Yx (Yg b13 hNU3 U4 hb4) hNU4 nNB
 have b24:∀w',Only (fun q=>q=gt∨q=ga) U4.heap.size U4 w'→w'.cell? ⟨V1.heap.size,2,none⟩=some (.int .u64 z.bits):=Yx (Yg b23 hNU3 U4 hb4) hNU4 nNB
 have hCa:ma<Ca:=by
  rcases hra.out.2 with⟨e1, -⟩|⟨g',cap,cur,e1, -, -,h1, -⟩
  ·cases e1
  ·cases e1;have:=hma.out;omega
 have hCt:mt<Ct:=by
  rcases hrt.out.2 with⟨e1, -⟩|⟨g',cap,cur,e1, -, -,h1, -⟩
  ·cases e1
  ·cases e1;have:=hmt.out;omega
 have hend:Hid (∀U,MvSt U4 U ga gt (ma+1) (mt+1) Ca Ct q z (((x.args.eraseIdx k).flatMap oc).take (j*3)++oc z++((x.args.eraseIdx k).flatMap oc).drop (j*3)) (((x.to.eraseIdx k).map fun u=>Value.int .i64 u).take (j*1) ++ [.int .i64 q]++((x.to.eraseIdx k).map fun u=>Value.int .i64 u).drop (j*1)) none none→
   MovPost V gc n C i xs p q x (.slice (some ⟨ga,0,none⟩) x.args.length Ca) (.slice (some ⟨gt,0,none⟩) x.to.length Ct) (.returned (.tuple #[])) ((U.setCell ⟨gc,i*7+6,none⟩ (.slice (some ⟨gt,0,none⟩) (mt+1) Ct)).setCell ⟨gc,i*7+5,none⟩ (.slice (some ⟨ga,0,none⟩) (ma+1) Ca))):=hide (fun U hU=>by
  refine mov_end rfl rfl hq hpm.out hkd.out hj.out hz.out hva.out hvt.out hal.out htl.out hmam.out (Yc hr4.out fun b hb=>hU.only.block b (Ya hr4.out hb).2.1 (by cases hb;exact ngc)) (set4 (by omega)) hU.ra hU.rt nCA nCT (hon4.out.next (Nat.le_refl _) (hU.only.more fun b _ hb => ?_))
  rcases hb with h1|h1
  ·subst h1;exact .inr (.inr rfl)
  ·subst h1;exact .inr (.inl rfl))
 clear e53 e63 b03 b13 b23 hb4
 go_upto_region 5 with(fail)
 refine Y8 (S:=fun u=>Only (fun q=>q=gt∨q=ga) U4.heap.size U4 u) (T:=fun j=>decide (j<18)&&decide (j≠0)&&decide (j≠1)) (by kernel_rfl) ?_
 obtain⟨M0,hM0⟩:∃M0,Hid (U4.drew=M0):=⟨_,hide rfl⟩
 have hM:Hid (MvSt U4 M0 ga gt ma mt Ca Ct q z ((x.args.eraseIdx k).flatMap oc) ((x.to.eraseIdx k).map fun u=>Value.int .i64 u) none none):=hide (by
  rw [←hM0.out]
  exact⟨(Only.refl _ _ _).drew,hrt4.out,hra4.out,fun k hk=>(by cases hk),fun k hk=>(by cases hk)⟩)
 rw [hM0.out]
 refine Jy (i:=0) ?_
 refine Jy (i:=1) ?_
 refine Jt (i:=2) hM.out.only ?_
 refine Jt (i:=3) hM.out.only ?_
 refine Jt (i:=4) hM.out.only ?_
 refine Jt (i:=5) hM.out.only ?_
 refine Jt (i:=6) hM.out.only ?_
 refine Jt (i:=7) hM.out.only ?_
 refine Jt (i:=10) hM.out.only ?_
 refine Jt (i:=11) hM.out.only ?_
 refine Jt (i:=12) hM.out.only ?_
 refine Jt (i:=13) hM.out.only ?_
 refine Jt (i:=14) hM.out.only ?_
 refine Jt (i:=15) hM.out.only ?_
 refine Zp (rs := [8,16]) (by kernel_rfl) (by simp) ?_
 refine Yt.cons (by simp only [List.getElem?_toArray,List.getElem?_cons_succ,List.getElem?_cons_zero];rfl) (fun K hK => ?_) ?_
 ·skip
  go_simp
  replace hM:=hide (hM.out.allocI)
  obtain⟨M1,hM1⟩:∃M1,Hid (M0.alloc (.cells #[.int .i64 q] 3)=M1):=⟨_,hide rfl⟩
  have hM1s:Hid (M0.heap.size=M0.heap.size):=hide rfl
  rw [hM1.out] at hM⊢
  refine Jo hK (fun _=>hM.out.only) ?_;clear hK K
  refine Zp (rs := [9,16]) (by kernel_rfl) (by simp) ?_
  refine Yt.cons (by simp only [List.getElem?_toArray,List.getElem?_cons_succ,List.getElem?_cons_zero];rfl) (fun K hK => ?_) ?_
  ·skip
   (try go_simp)
   go_at_call 105
   have hq1:=hM.out.hI _ rfl
   refine(Ybn gt mt Ct j _ 0 _ [.int .i64 q] _ hM.out.rt hjm hCt (by omega) hq1.2 rfl int_one (by simp [Value.oneCell'])).mono ?_
   intro e M2 hp
   obtain⟨rfl,hM9⟩:=hM.out.insI hgtU4 nAT hp
   replace hM:=hide hM9
   clear hM9 hp hq1
   refine Jo hK (fun _=>hM.out.only) ?_;clear hK K
   refine Jr (i:=16) fun K hK => ?_
   go_simp
   replace hM:=hide (hM.out.allocV)
   obtain⟨M3,hM3⟩:∃M3,Hid (M2.alloc (.cells #[.int .i64 z.kind, .int .i64 z.num, .int .u64 z.bits] 62)=M3):=⟨_,hide rfl⟩
   have hM3s:Hid (M2.heap.size=M2.heap.size):=hide rfl
   rw [hM3.out] at hM⊢
   refine Jo hK (fun _=>hM.out.only) ?_;clear hK K
   refine Jr (i:=17) fun K hK => ?_
   (try go_simp)
   go_at_call 106
   have hq1:=hM.out.hV _ rfl
   refine(Ybm ga ma Ca j _ 0 _ (oc z) _ hM.out.ra (by have:=hmam.out;omega) hCa (by omega) hq1.2 rfl oc_one9 (by simp [oc,Value.oneCell'])).mono ?_
   rintro e M4 ⟨rfl,hra9,ho9⟩
   replace hM:Hid (MvSt U4 M4 ga gt (ma+1) (mt+1) Ca Ct q z (((x.args.eraseIdx k).flatMap oc).take (j*3)++oc z++((x.args.eraseIdx k).flatMap oc).drop (j*3)) (((x.to.eraseIdx k).map fun u=>Value.int .i64 u).take (j*1) ++ [.int .i64 q]++((x.to.eraseIdx k).map fun u=>Value.int .i64 u).drop (j*1)) none none):=hide ⟨hM.out.only.next (Nat.le_refl _) (ho9.more fun b _ hb => .inr hb),Yc hM.out.rt fun b hb=>ho9.block b (Ya hM.out.rt hb).2.1 (by cases hb;exact Ne.symm nAT),hra9,fun k hk=>(by cases hk),fun k hk=>(by cases hk)⟩
   have y5:=e54 _ hM.out.only
   have y6:=e64 _ hM.out.only
   have yz5:=z54 _ hM.out.only
   have yz6:=z64 _ hM.out.only
   clear hra9 ho9 hq1
   refine Jo hK (fun _=>hM.out.only) ?_;clear hK K
   refine Jy (i:=18) ?_
   refine Jy (i:=19) ?_
   refine Jr (i:=20) fun K hK => ?_
   go_simp
   refine Jo hK (fun h=>absurd h (by decide)) ?_;clear hK K
   refine Jy (i:=21) ?_
   refine Jy (i:=22) ?_
   refine Jr (i:=23) fun K hK => ?_
   go_simp
   refine Jo hK (fun h=>absurd h (by decide)) ?_;clear hK K
   refine Yv (by kernel_rfl) ?_ _
   replace hM:=hM.out
   have hfin:=hide (hend.out _ ⟨hM.only,hM.rt,hM.ra,fun k hk=>(by cases hk),fun k hk=>(by cases hk)⟩)
   replace hM:=hide hM
   go_wp2
   try simp only [Exit.inBlock,Exit.then]
   refine bodyPost_ret (results_none rfl _ _ _) rfl ?_
   exact hfin.out
  refine Yt.cons (by simp only [List.getElem?_toArray,List.getElem?_cons_succ,List.getElem?_cons_zero];rfl) (fun K hK => ?_) ?_
  ·skip
   go_simp
   replace hM:=hide (hM.out.allocV)
   obtain⟨M5,hM5⟩:∃M5,Hid (M1.alloc (.cells #[.int .i64 z.kind, .int .i64 z.num, .int .u64 z.bits] 62)=M5):=⟨_,hide rfl⟩
   have hM5s:Hid (M1.heap.size=M1.heap.size):=hide rfl
   rw [hM5.out] at hM⊢
   refine Jo hK (fun _=>hM.out.only) ?_;clear hK K
   refine Jr (i:=9) fun K hK => ?_
   (try go_simp)
   go_at_call 105
   have hq1:=hM.out.hI _ rfl
   refine(Ybn gt mt Ct j _ 0 _ [.int .i64 q] _ hM.out.rt hjm hCt (by omega) hq1.2 rfl int_one (by simp [Value.oneCell'])).mono ?_
   intro e M6 hp
   obtain⟨rfl,hM9⟩:=hM.out.insI hgtU4 nAT hp
   replace hM:=hide hM9
   clear hM9 hp hq1
   refine Jo hK (fun _=>hM.out.only) ?_;clear hK K
   refine Jr (i:=17) fun K hK => ?_
   (try go_simp)
   go_at_call 106
   have hq1:=hM.out.hV _ rfl
   refine(Ybm ga ma Ca j _ 0 _ (oc z) _ hM.out.ra (by have:=hmam.out;omega) hCa (by omega) hq1.2 rfl oc_one9 (by simp [oc,Value.oneCell'])).mono ?_
   rintro e M7 ⟨rfl,hra9,ho9⟩
   replace hM:Hid (MvSt U4 M7 ga gt (ma+1) (mt+1) Ca Ct q z (((x.args.eraseIdx k).flatMap oc).take (j*3)++oc z++((x.args.eraseIdx k).flatMap oc).drop (j*3)) (((x.to.eraseIdx k).map fun u=>Value.int .i64 u).take (j*1) ++ [.int .i64 q]++((x.to.eraseIdx k).map fun u=>Value.int .i64 u).drop (j*1)) none none):=hide ⟨hM.out.only.next (Nat.le_refl _) (ho9.more fun b _ hb => .inr hb),Yc hM.out.rt fun b hb=>ho9.block b (Ya hM.out.rt hb).2.1 (by cases hb;exact Ne.symm nAT),hra9,fun k hk=>(by cases hk),fun k hk=>(by cases hk)⟩
   have y5:=e54 _ hM.out.only
   have y6:=e64 _ hM.out.only
   have yz5:=z54 _ hM.out.only
   have yz6:=z64 _ hM.out.only
   clear hra9 ho9 hq1
   refine Jo hK (fun _=>hM.out.only) ?_;clear hK K
   refine Jy (i:=18) ?_
   refine Jy (i:=19) ?_
   refine Jr (i:=20) fun K hK => ?_
   go_simp
   refine Jo hK (fun h=>absurd h (by decide)) ?_;clear hK K
   refine Jy (i:=21) ?_
   refine Jy (i:=22) ?_
   refine Jr (i:=23) fun K hK => ?_
   go_simp
   refine Jo hK (fun h=>absurd h (by decide)) ?_;clear hK K
   refine Yv (by kernel_rfl) ?_ _
   replace hM:=hM.out
   have hfin:=hide (hend.out _ ⟨hM.only,hM.rt,hM.ra,fun k hk=>(by cases hk),fun k hk=>(by cases hk)⟩)
   replace hM:=hide hM
   go_wp2
   try simp only [Exit.inBlock,Exit.then]
   refine bodyPost_ret (results_none rfl _ _ _) rfl ?_
   exact hfin.out
  exact Yt.nil
 refine Yt.cons (by simp only [List.getElem?_toArray,List.getElem?_cons_succ,List.getElem?_cons_zero];rfl) (fun K hK => ?_) ?_
 ·skip
  go_simp
  replace hM:=hide (hM.out.allocV)
  obtain⟨M8,hM8⟩:∃M8,Hid (M0.alloc (.cells #[.int .i64 z.kind, .int .i64 z.num, .int .u64 z.bits] 62)=M8):=⟨_,hide rfl⟩
  have hM8s:Hid (M0.heap.size=M0.heap.size):=hide rfl
  rw [hM8.out] at hM⊢
  refine Jo hK (fun _=>hM.out.only) ?_;clear hK K
  refine Jr (i:=8) fun K hK => ?_
  go_simp
  replace hM:=hide (hM.out.allocI)
  obtain⟨M9,hM9⟩:∃M9,Hid (M8.alloc (.cells #[.int .i64 q] 3)=M9):=⟨_,hide rfl⟩
  have hM9s:Hid (M8.heap.size=M8.heap.size):=hide rfl
  rw [hM9.out] at hM⊢
  refine Jo hK (fun _=>hM.out.only) ?_;clear hK K
  refine Jr (i:=9) fun K hK => ?_
  (try go_simp)
  go_at_call 105
  have hq1:=hM.out.hI _ rfl
  refine(Ybn gt mt Ct j _ 0 _ [.int .i64 q] _ hM.out.rt hjm hCt (by omega) hq1.2 rfl int_one (by simp [Value.oneCell'])).mono ?_
  intro e M10 hp
  obtain⟨rfl,hM9⟩:=hM.out.insI hgtU4 nAT hp
  replace hM:=hide hM9
  clear hM9 hp hq1
  refine Jo hK (fun _=>hM.out.only) ?_;clear hK K
  refine Jr (i:=17) fun K hK => ?_
  (try go_simp)
  go_at_call 106
  have hq1:=hM.out.hV _ rfl
  refine(Ybm ga ma Ca j _ 0 _ (oc z) _ hM.out.ra (by have:=hmam.out;omega) hCa (by omega) hq1.2 rfl oc_one9 (by simp [oc,Value.oneCell'])).mono ?_
  rintro e M11 ⟨rfl,hra9,ho9⟩
  replace hM:Hid (MvSt U4 M11 ga gt (ma+1) (mt+1) Ca Ct q z (((x.args.eraseIdx k).flatMap oc).take (j*3)++oc z++((x.args.eraseIdx k).flatMap oc).drop (j*3)) (((x.to.eraseIdx k).map fun u=>Value.int .i64 u).take (j*1) ++ [.int .i64 q]++((x.to.eraseIdx k).map fun u=>Value.int .i64 u).drop (j*1)) none none):=hide ⟨hM.out.only.next (Nat.le_refl _) (ho9.more fun b _ hb => .inr hb),Yc hM.out.rt fun b hb=>ho9.block b (Ya hM.out.rt hb).2.1 (by cases hb;exact Ne.symm nAT),hra9,fun k hk=>(by cases hk),fun k hk=>(by cases hk)⟩
  have y5:=e54 _ hM.out.only
  have y6:=e64 _ hM.out.only
  have yz5:=z54 _ hM.out.only
  have yz6:=z64 _ hM.out.only
  clear hra9 ho9 hq1
  refine Jo hK (fun _=>hM.out.only) ?_;clear hK K
  refine Jy (i:=18) ?_
  refine Jy (i:=19) ?_
  refine Jr (i:=20) fun K hK => ?_
  go_simp
  refine Jo hK (fun h=>absurd h (by decide)) ?_;clear hK K
  refine Jy (i:=21) ?_
  refine Jy (i:=22) ?_
  refine Jr (i:=23) fun K hK => ?_
  go_simp
  refine Jo hK (fun h=>absurd h (by decide)) ?_;clear hK K
  refine Yv (by kernel_rfl) ?_ _
  replace hM:=hM.out
  have hfin:=hide (hend.out _ ⟨hM.only,hM.rt,hM.ra,fun k hk=>(by cases hk),fun k hk=>(by cases hk)⟩)
  replace hM:=hide hM
  go_wp2
  try simp only [Exit.inBlock,Exit.then]
  refine bodyPost_ret (results_none rfl _ _ _) rfl ?_
  exact hfin.out
 exact Yt.nil
def Ycm (l:List Ins):Prop:=∀(i j:Nat) x y,l[i]? = some x→l[j]? = some y→i≤j→y.op=25→x.op=25
def mgTo (bs:List (List Ins)) (a:Nat):Nat:=(((endI bs a).map fun x:Ins=>x.to.getD 0 0).getD 0).toNat
def mgB (P:List (List Int)) (bs:List (List Ins)) (a:Nat):Bool :=
 match endI bs a with
 | some x=>decide (x.op=31) && !(decide (mgTo bs a=a))&&decide ((P.getD (mgTo bs a) []).length=1) && !(decide ((((bs.getD (mgTo bs a) [])[0]?).map Ins.op).getD 0=25))
 | none=>false
def Zb (bs:List (List Ins)) (a b:Nat):List (List Ins):=(bs.set a ((bs.getD a []).dropLast++bs.getD b [])).set b []
def mgAt (bs:List (List Ins)) (a b:Nat):List (List Ins):=(Zb bs a b).map fun l=>l.map (movP b a)
def Q5 (P:List (List Int)) (bs:List (List Ins)):Option (List (List Ins)):=((List.range bs.length).find? (mgB P bs)).map fun a=>Yn ((List.replicate bs.length false).set (mgTo bs a) true) (mgAt bs a (mgTo bs a))
def mvL (p q:Int) (l:List Ins) (i:Nat):List Ins:=(l.take i).map (movP p q)++l.drop i
theorem mvL_zero (p q:Int) (l:List Ins):mvL p q l 0=l:=by simp [mvL]
theorem mvL_end (p q:Int) (l:List Ins):mvL p q l l.length=l.map (movP p q):=by simp [mvL]
theorem mvL_at {p q:Int} {l:List Ins} {i:Nat} {x:Ins} (h:l[i]? = some x):(mvL p q l i)[i]? = some x:=by
 have h1:=(Js.1 h).1
 unfold mvL
 rw [List.getElem?_append_right (by simp;omega),List.length_map,List.length_take,Nat.min_eq_left (by omega),Nat.sub_self,List.getElem?_drop]
 exact h
theorem mvL_next {p q:Int} {l:List Ins} {i:Nat} {x:Ins} (h:l[i]? = some x):(mvL p q l i).set i (movP p q x)=mvL p q l (i+1):=by
 have h1:=(Js.1 h).1
 have h2:l.drop i=x :: l.drop (i+1):=by
  rw [Jg h1] at h
  injection h with h
  rw [←h,List.getElem_cons_drop]
 have h3:((l.take i).map (movP p q)).length=i:=by simp;omega
 unfold mvL
 rw [h2,List.set_append_right _ _ (by omega),h3,Nat.sub_self,List.set_cons_zero,List.take_add_one,h]
 simp
theorem mvL_same {p q:Int} {l:List Ins} {i:Nat} {x:Ins} (h:l[i]? = some x) (ho:x.op≠25):mvL p q l i=mvL p q l (i+1):=by
 have h1:=(Js.1 h).1
 rw [←mvL_next h]
 unfold movP
 rw [if_neg ho]
 exact(Qo (mvL_at h)).symm
def mvB (p q:Int) (bs:List (List Ins)) (k:Nat):List (List Ins):=(bs.take k).map (fun l=>l.map (movP p q))++bs.drop k
theorem mvB_zero (p q:Int) (bs:List (List Ins)):mvB p q bs 0=bs:=by simp [mvB]
theorem mvB_end (p q:Int) (bs:List (List Ins)):mvB p q bs bs.length=bs.map fun l=>l.map (movP p q):=by simp [mvB]
theorem mvB_len (p q:Int) (bs:List (List Ins)) (k:Nat):(mvB p q bs k).length=bs.length:=by unfold mvB;simp;omega
theorem mvB_at {p q:Int} {bs:List (List Ins)} {k:Nat} {l:List Ins} (h:bs[k]? = some l):(mvB p q bs k)[k]? = some l:=by
 have h1:=(Js.1 h).1
 unfold mvB
 rw [List.getElem?_append_right (by simp;omega),List.length_map,List.length_take,Nat.min_eq_left (by omega),Nat.sub_self,List.getElem?_drop]
 exact h
theorem mvB_next {p q:Int} {bs:List (List Ins)} {k:Nat} {l:List Ins} (h:bs[k]? = some l):(mvB p q bs k).set k (l.map (movP p q))=mvB p q bs (k+1):=by
 have h1:=(Js.1 h).1
 have h2:bs.drop k=l :: bs.drop (k+1):=by
  rw [Jg h1] at h
  injection h with h
  rw [←h,List.getElem_cons_drop]
 have h3:((bs.take k).map (fun l=>l.map (movP p q))).length=k:=by simp;omega
 unfold mvB
 rw [h2,List.set_append_right _ _ (by omega),h3,Nat.sub_self,List.set_cons_zero,List.take_add_one,h]
 simp
theorem mvB_nil {p q:Int} {bs:List (List Ins)} {k:Nat} (h:bs[k]? = some []):mvB p q bs k=mvB p q bs (k+1):=by
 have h1:=mvB_next (p:=p) (q:=q) h
 rw [←h1,List.map_nil]
 exact(Qo (mvB_at h)).symm
theorem fronts_none {l:List Ins} (h:Ycm l) (h0:((l[0]?).map Ins.op).getD 0≠25):∀x,x∈l→x.op≠25:=by
 intro x hx ho
 obtain⟨j,hj⟩:=List.mem_iff_getElem?.1 hx
 have h1:=(Js.1 hj).1
 have h2:l[0]? = some (l[0]'(by omega)):=Jg _
 have h3:=h 0 j _ x h2 hj (Nat.zero_le _) ho
 rw [h2] at h0
 exact h0 h3
theorem nd2_places {α:Type} {f:α→Value} {ess:List (List α)}:Nd2 f ess↔∀(i j p q:Nat) a b e e' k,ess[i]? = some a→ess[j]? = some b→a[p]? = some e→b[q]? = some e'→(f e).ownBlock=some k→(f e').ownBlock=some k→i=j∧p=q:=by
 constructor
 ·rintro ⟨g1, g2⟩ i j p q a b e e' k hi hj hp hq h1 h2
  by_cases hij:i=j
  ·subst hij
   rw [hi] at hj
   cases hj
   refine⟨rfl,(nd_iff.1 (g1 i a hi)) p q (f e) (f e') k ?_ ?_ h1 h2⟩
   ·rw [List.getElem?_map,hp];rfl
   ·rw [List.getElem?_map,hq];rfl
  ·exact absurd h2 (g2 i j a b e e' k hij hi hj (Jm hp) (Jm hq) h1)
 ·intro h
  refine⟨fun i a hi=>nd_iff.2 fun p q u v k hp hq h1 h2 => ?_,fun i j a b e e' k hij hi hj he he' h1 h2 => ?_⟩
  ·rw [List.getElem?_map] at hp hq
   cases hp':a[p]? with
   | none=>rw [hp'] at hp;cases hp
   | some e =>
    cases hq':a[q]? with
    | none=>rw [hq'] at hq;cases hq
    | some e' =>
     rw [hp'] at hp
     rw [hq'] at hq
     cases hp;cases hq
     exact(h i i p q a a e e' k hi hi hp' hq' h1 h2).2
  ·obtain ⟨p, hp⟩ := List.mem_iff_getElem?.1 he
   obtain⟨q,hq⟩:=List.mem_iff_getElem?.1 he'
   exact hij (h i j p q a b e e' k hi hj hp hq h1 h2).1
theorem join_place {α : Type} {ess : List (List α)} {a b : Nat} {ea eb : List α} (ha : ess[a]? = some ea) (hb : ess[b]? = some eb) (hab : a ≠ b) {i p : Nat} {x : List α} {e : α} (hi : ((ess.set a (ea.dropLast ++ eb)).set b [])[i]? = some x) (hp : x[p]? = some e) :
  ∃(i' p':Nat) (x':List α),ess[i']? = some x'∧x'[p']? = some e∧((i≠a∧i≠b∧i'=i∧p'=p)∨(i=a∧p<ea.dropLast.length∧i'=a∧p'=p)∨(i=a∧i'=b∧p=ea.dropLast.length+p')):=by
 have la:=(Js.1 ha).1
 have lb:=(Js.1 hb).1
 by_cases e1:i=b
 ·subst e1
  rw [Jf (by rw [List.length_set];exact lb)] at hi
  cases hi
  simp at hp
 ·rw [Je (Ne.symm e1)] at hi
  by_cases e2:i=a
  ·subst e2
   rw [Jf la] at hi
   cases hi
   by_cases h3:p<ea.dropLast.length
   ·rw [List.getElem?_append_left h3, List.getElem?_dropLast, if_pos (by rwa [List.length_dropLast] at h3)] at hp
    exact⟨i,p,ea,ha,hp, .inr (.inl ⟨rfl,h3,rfl,rfl⟩)⟩
   ·rw [List.getElem?_append_right (by omega)] at hp
    exact⟨b,p - ea.dropLast.length,eb,hb,hp, .inr (.inr ⟨rfl,rfl,by omega⟩)⟩
  ·rw [Je (Ne.symm e2)] at hi
   exact⟨i,p,x,hi,hp, .inl ⟨e2,e1,rfl,rfl⟩⟩
theorem nd2_join {α:Type} {f:α→Value} {ess:List (List α)} {a b:Nat} {ea eb:List α} (h:Nd2 f ess) (ha:ess[a]? = some ea) (hb:ess[b]? = some eb) (hab:a≠b):Nd2 f ((ess.set a (ea.dropLast++eb)).set b []):=by
 rw [nd2_places] at h⊢
 intro i j p q x y e e' k hi hj hp hq h1 h2
 obtain⟨i',p',x',hi',hp',c1⟩:=join_place ha hb hab hi hp
 obtain⟨j',q',y',hj',hq',c2⟩:=join_place ha hb hab hj hq
 have h3:=h i' j' p' q' x' y' e e' k hi' hj' hp' hq' h1 h2
 omega
theorem Yq.join {w w' : World} {gd n C a b : Nat} {bs : List (List Ins)} {xs : List Value} {ess : List (List (Value × Value))} {la lb : List Ins} {ea eb : List (Value × Value)} {v : Value} (h : Yq w 0 (.slice (some ⟨gd, 0, none⟩) n C) bs xs ess) (ha : bs[a]? = some la) (hb : bs[b]? = some lb) (hea : ess[a]? = some ea) (heb : ess[b]? = some eb) (hab : a ≠ b) (hla : la ≠ [])
  (hrow:w'.ownsRow 0 41 1 (.slice (some ⟨gd,0,none⟩) n C) n ((xs.set a v).set b (.slice none 0 0)))
  (hv:w'.ownsRow 0 44 7 v (la.dropLast++lb).length (cellsOf (la.dropLast++lb) (ea.dropLast++eb))) (hvk:∀k,v.ownBlock=some k→w.heap.size≤k)
  (hk:∀k,k<w.heap.size→k≠gd→w'.heap[k]? = w.heap[k]?):Yq w' 0 (.slice (some ⟨gd,0,none⟩) n C) ((bs.set a (la.dropLast++lb)).set b []) ((xs.set a v).set b (.slice none 0 0)) ((ess.set a (ea.dropLast++eb)).set b []):=by
 have lna:=(Js.1 ha).1
 have lnb:=(Js.1 hb).1
 have hlx:=h.lenx
 have hle:=h.lene
 have hn:n=bs.length:=by
  rcases h.row.2 with⟨e, -⟩|⟨g,cap,cur,e, -⟩
  ·cases e
  ·cases e;rfl
 have tyD:=(Ya h.row rfl).2.2
 obtain⟨xa,ea',hxa,hea',hca⟩:=h.row_at ha
 obtain⟨xb,eb',hxb,heb',hcb⟩:=h.row_at hb
 rw [hea] at hea'
 rw [heb] at heb'
 cases hea'
 cases heb'
 have hkc:∀ {x:Value} {l:List Ins} {es:List (Value×Value)},Z9 w 0 x l es→∀(j:Nat) y e,l[j]? = some y→es[j]? = some e→OwnV w' 0 e.1 y.args∧OwnI w' 0 e.2 y.to∧Ybr y:=fun hc j y e hy hee=>by
  obtain⟨g1,g2,g3⟩:=hc.inn j y e hy hee
  refine⟨⟨Yc g1.row fun k hv=>hk k (Ya g1.row hv).2.1 (Z7 (Ya g1.row hv).2.2 tyD (by decide)),g1.ok⟩,⟨Yc g2.row fun k hv=>hk k (Ya g2.row hv).2.1 (Z7 (Ya g2.row hv).2.2 tyD (by decide)),g2.ok⟩,g3⟩
 refine⟨by rw [List.length_set,List.length_set,←hn];exact hrow,by simp [hle],fun i x l es hx hl he => ?_,?_,Qx.2 (nd2_join (Qx.1 h.nda) hea heb hab),Qx.2 (nd2_join (Qx.1 h.ndt) hea heb hab)⟩
 ·by_cases e1 : i = b
  ·subst e1
   rw [Jf (by simp;omega)] at hx hl he
   cases hx;cases hl;cases he
   exact⟨rfl,⟨rfl, .inl ⟨rfl,rfl⟩⟩,fun j y e hy=>by simp at hy,nd_nil,nd_nil⟩
  ·rw [Je (Ne.symm e1)] at hx hl he
   by_cases e2:i=a
   ·subst e2
    rw [Jf (by omega)] at hx hl he
    cases hx;cases hl;cases he
    have l1:=hca.len
    have l2:=hcb.len
    have nn:=nd2_join (f:=Prod.fst) (Qx.1 h.nda) hea heb hab
    have nt:=nd2_join (f:=Prod.snd) (Qx.1 h.ndt) hea heb hab
    have hat:((ess.set i (ea.dropLast++eb)).set b [])[i]? = some (ea.dropLast++eb):=by
     rw [Je (Ne.symm e1),Jf (by omega)]
    refine⟨by simp [l1,l2],hv,fun j y e hy hee => ?_,nn.1 i _ hat,nt.1 i _ hat⟩
    have hdl:ea.dropLast.length=la.dropLast.length:=by simp [l1]
    by_cases hj:j<la.dropLast.length
    ·rw [List.getElem?_append_left hj, List.getElem?_dropLast, if_pos (by rwa [List.length_dropLast] at hj)] at hy
     rw [List.getElem?_append_left (by omega),List.getElem?_dropLast,if_pos (by rw [l1];rwa [List.length_dropLast] at hj)] at hee
     exact hkc hca j y e hy hee
    ·rw [List.getElem?_append_right (by omega)] at hy
     rw [List.getElem?_append_right (by omega),hdl] at hee
     exact hkc hcb _ y e hy hee
   ·rw [Je (Ne.symm e2)] at hx hl he
    have hc:=h.inn i x l es hx hl he
    refine⟨hc.len,Yc hc.row fun k hv'=>hk k (Ya hc.row hv').2.1 (Z7 (Ya hc.row hv').2.2 tyD (by decide)),hkc hc,hc.nda,hc.ndt⟩
 ·have h1:Nd (xs.set a v):=nd_set h.ndx hxa fun k hk' => .inr fun y hy=>fun e=>by
   obtain⟨j,hj⟩:=List.mem_iff_getElem?.1 hy
   have hjl:=(Js.1 hj).1
   have:=(h.own_x (Jm hj) k e).2
   have:=hvk k hk'
   omega
  refine nd_set h1 (x:=xb) (by rw [Je hab];exact hxb) fun k hk'=>by cases hk'
end Go.Proofs.YtamjcafjdioidaaGreat
