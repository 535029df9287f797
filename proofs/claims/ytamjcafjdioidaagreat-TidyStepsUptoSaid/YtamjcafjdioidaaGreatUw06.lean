/- Texts of the chain, without what is not wanted: TdA, TdB, GrI. No condition but sizes. -/
import Derived.Test.YtamjcafjdioidaaGreatUw05
set_option linter.unusedVariables false
set_option linter.unusedSimpArgs false
set_option maxRecDepth 100000
set_option maxHeartbeats 12800000
namespace Go.Proofs.YtamjcafjdioidaaGreat
open Go.RowKit
theorem oc_one9 {l:List Opd}:∀u,u∈l.flatMap oc→u.oneCell'=true:=by
 intro u hu
 obtain⟨x, -,hx⟩:=List.mem_flatMap.1 hu
 unfold oc at hx
 simp only [List.mem_cons,List.not_mem_nil,or_false] at hx
 rcases hx with rfl|rfl|rfl<;>rfl
theorem int_one {l:List Int}:∀u,u∈l.map (fun z=>Value.int .i64 z)→u.oneCell'=true:=by
 intro u hu
 obtain⟨x, -,rfl⟩:=List.mem_map.1 hu
 rfl
theorem oc_erase {l:List Opd} {k:Nat} (hk:k<l.length):(l.eraseIdx k).flatMap oc=(l.flatMap oc).take (k*3)++(l.flatMap oc).drop ((k+1)*3):=by
 induction l generalizing k with
 | nil=>simp at hk
 | cons a l ih =>
  have h3:(oc a).length=3:=rfl
  cases k with
  | zero => 
   rw [List.eraseIdx_cons_zero,List.flatMap_cons,Nat.zero_mul,List.take_zero,List.nil_append,show(0+1)*3=3 from rfl,List.drop_left' h3]
  | succ k =>
   have h4:(k+1)*3=3+k*3:=by omega
   have h5:(k+1+1)*3=3+(k+1)*3:=by omega
   rw [List.eraseIdx_cons_succ,List.flatMap_cons,List.flatMap_cons,ih (by simpa using hk),h5,h4,←h3,List.take_length_add_append,List.drop_length_add_append,List.append_assoc]
theorem int_erase {l:List Int} {k:Nat}:(l.eraseIdx k).map (fun z=>Value.int .i64 z)=(l.map fun z=>Value.int .i64 z).take (k*1)++(l.map fun z=>Value.int .i64 z).drop ((k+1)*1):=by
 rw [List.eraseIdx_eq_take_drop_succ,List.map_append,List.map_take,List.map_drop,Nat.mul_one,Nat.mul_one]
theorem mem_erase_ok {α:Type} {l:List α} {k:Nat} {x:α} (h:x∈l.eraseIdx k):x∈l:=List.mem_of_mem_eraseIdx h
theorem lose_any {w : World} {T : Nat → Prop} {N : Nat} {f : Fun} {c d : Value} (h : MF w T N f c d) (b : Nat) (p : Int) {l : List Ins} (hb : f.blocks[b]? = some l) (hphi : PhiLen l) :
  Calls Tryz.prog 57 #[.pointer (some ⟨N,0,none⟩), .int .i64 b, .int .i64 p] w fun e w'=>e = .returned (.tuple #[])∧MF w' T N (Ye f (f.blocks.set b (Yaw p l))) c d∧Only T w.heap.size w w':=by
 obtain⟨xs,ess,hk,hT⟩:=h.tree
 have hbn:=(Js.1 hb).1
 obtain⟨gd,C,rfl, -,hgd⟩:=hk.row.form (by omega)
 obtain⟨x,es,hx,he,hcd⟩:=hk.row_at hb
 obtain⟨n,hn⟩:=Jn (f.blocks.length)
 have hbn':b<n:=by rw [hn.out];exact hbn
 have hbi:(b:Int)<(n:Int):=by omega
 obtain⟨Ax,Cx,hxf⟩:=Yd hcd.row
 subst hxf
 obtain⟨m,hm⟩:=Jn (l.length)
 have hbox:=hide h.box
 have c3:=Yb h.box 3 rfl
 have hNlt:=h.lt
 have hout:=h.out
 have hbc:=hk.blk_cell hx
 have hTd:T gd:=hT gd (.inl rfl)
 rw [←hn.out] at c3 hk⊢
 rw [←hm.out] at hbc hx hcd
 have hmb:m≤9223372036854775807:=by rw [hm.out];exact Yae hcd.row
 have c3o:∀w',Only T w.heap.size w w'→w'.cell? ⟨N,3,none⟩=some (.slice (some ⟨gd,0,none⟩) n C):=Yx c3 hNlt hout
 have hP:Hid (∀wr ess',Only T w.heap.size w wr→Yq wr 0 (.slice (some ⟨gd,0,none⟩) n C) (f.blocks.set b (Yaw p l)) xs ess'→(∀k,TB (.slice (some ⟨gd,0,none⟩) n C) xs ess' k→T k)→MF wr T N (Ye f (f.blocks.set b (Yaw p l))) c (.slice (some ⟨gd,0,none⟩) n C)∧Only T w.heap.size w wr):=hide (fun wr ess' h1 h2 h3=>by
  rw [hn.out] at h2 h3⊢
  exact⟨h.with_ h1 h2 h3,h1⟩)
 have hk0:Hid (Yq w 0 (.slice (some ⟨gd,0,none⟩) n C) (f.blocks.set b (mixP p l 0)) xs ess):=hide (by rw [mixP_zero,Qo hb];exact hk)
 have hT0:Hid (∀k,TB (.slice (some ⟨gd,0,none⟩) n C) xs ess k→T k):=hide (by rw [hn.out];exact hT)
 have hp0:Hid (∀(j:Nat) y,j<0→l[j]? = some y→y.op=25):=hide (fun j y hj=>by omega)
 have hon0:Only T w.heap.size w w:=Only.refl _ _ _
 refine hd8 h hk hT hx he hcd hb hphi ?_;clear h hk hT hx he hcd hb hphi;intro h hk hT hx he hcd hb hphi
 go_enter Tryz.func57,Tryz.ntmps57
 go_wp2
 go_loopw [18] (fun s wr=>∃(i:Nat) (ess':List (List (Value×Value))),s = .int .i64 i∧i≤m∧Hid (Yq wr 0 (.slice (some ⟨gd,0,none⟩) n C) (f.blocks.set b (mixP p l i)) xs ess')∧Hid (∀k,TB (.slice (some ⟨gd,0,none⟩) n C) xs ess' k→T k)∧Hid (∀(j:Nat) y,j<i→l[j]? = some y→y.op=25)∧Only T w.heap.size w wr) (fun s _=>m - (intOf s).toNat)
 case atStart=>exact⟨0,ess,rfl,Nat.zero_le _,hk0,hT0,hp0,hon0⟩
 case round =>
  clear hk0 hT0 hp0 hon0 c3 hbc
  rename World=>V
  obtain⟨i,ess',rfl,hi,hkV,hTV,hph,honV⟩:=hrel
  have hVs:=honV.size
  by_cases hlt:i<m
  ·have hii : (i : Int) < (m : Int) := by omega
   obtain⟨ins,hins⟩:=Yf (l:=l) (k:=i) (by rw [←hm.out];exact hlt)
   have hbset:(f.blocks.set b (mixP p l i))[b]? = some (mixP p l i):=by rw [Jf (by rw [←hn.out];exact hbn')]
   obtain⟨x',es',hx',he',hcdV⟩:=hkV.out.row_at hbset
   rw [hx.out] at hx'
   cases hx'
   obtain⟨gc,CX9,hgcf, -,hgcl⟩:=hcdV.row.form (by rw [mixP_len,←hm.out];omega)
   rw [mixP_len,←hm.out] at hgcf
   cases hgcf
   have hmi:(mixP p l i)[i]? = some ins:=mixP_at hins.out
   obtain⟨ca,ct,hei,hva,hvt,hok⟩:=hcdV.ins_at hmi
   obtain⟨Aa,Ca,hca⟩:=Yd hva.row
   obtain⟨At,Ct,hct⟩:=Yd hvt.row
   subst hca hct
   have hgcT:T gc:=hTV.out gc (.inr (.inl ⟨_,Jm hx.out,rfl⟩))
   obtain⟨na,hna⟩:=Jn (ins.args.length)
   obtain⟨nt,hnt⟩:=Jn (ins.to.length)
   rw [←hna.out,←hnt.out] at hei
   rw [←hna.out] at hva
   rw [←hnt.out] at hvt
   have d3:=c3o V honV
   have db:=hkV.out.blk_cell hx.out
   have e0:=hcdV.cell_at hmi hei (j:=0) rfl
   have e5:=hcdV.cell_at hmi hei (j:=5) rfl
   have e6:=hcdV.cell_at hmi hei (j:=6) rfl
   rw [Nat.add_zero] at e0
   have f0:V.frozen? ⟨gc,i*7+5,none⟩=false:=Zj hcdV.row _
   have f1:V.frozen? ⟨gc,i*7+6,none⟩=false:=Zj hcdV.row _
   have hcin:Hid (Z9 V 0 (.slice (some ⟨gc,0,none⟩) m Cx) (mixP p l i) es'):=hide hcdV
   refine hd8 hei he' hbset hmi hva hvt hok hcdV ?_;clear hei he' hbset hmi hva hvt hok hcdV;intro hei he' hbset hmi hva hvt hok hcdV
   by_cases h25:ins.op=25
   ·have g1 : (ins.op != 25) = false := by rw [h25]; rfl
    have hph':Hid (∀(j:Nat) y,j<i+1→l[j]? = some y→y.op=25):=hide (fun j y hj hy=>by
     rcases Nat.lt_succ_iff_lt_or_eq.1 hj with h1|h1
     ·exact hph.out j y h1 hy
     ·subst h1
      rw [hins.out] at hy
      cases hy
      exact h25)
    have hlen:Hid (na=nt):=hide (by rw [hna.out,hnt.out];exact hphi.out ins (Jm hins.out) h25)
    replace h25:=hide h25
    have e6b:=Yg e6 hgcl
    have e5b:=Yg e5 hgcl
    have cI:Hid (Calls Tryz.prog 99 #[.slice At nt Ct, .int .i64 p] V (fun e w'=>e = .returned (.int .i64 (idxI ins.to p))∧Below V.heap.size V w')):=hide (index2_any _ ins.to p V V.heap.size (Nat.le_refl _) hvt.out.rep)
    have hgcl':=hgcl
    go_wp2_with (fail)
    refine cI.out.mono ?_
    rintro e V1 ⟨rfl,hb1⟩
    by_cases hpm:p∈ins.to
    ·obtain ⟨k, hkd⟩ := Jn (ins.to.idxOf p)
     have hix:idxI ins.to p=(k:Int):=by rw [idxI,if_pos hpm,hkd.out]
     rw [hix]
     have hknt:k<nt:=by rw [hkd.out,hnt.out];exact List.idxOf_lt_length_of_mem hpm
     have hkna:k<na:=by have:=hlen.out;omega
     obtain⟨kj,hkj⟩:=Jn (k+1)
     have hnt64:nt≤9223372036854775807:=by
      rcases hvt.out.row.2 with⟨e,h0⟩|⟨g,cap,cur,e, -, -,h1,h2, -⟩
      ·have:=hnt.out;omega
      ·unfold maxLen at h2;have:=hnt.out;omega
     have hsum:IntKind.i64.wrap ((k:Int)+1)=(kj:Int):=by rw [IntKind.wrap_i64];have:=hkj.out;omega
     have hge:decide ((k:Int) ≥ 0)=true:=decide_eq_true (by omega)
     have hV1s:=hb1.size
     obtain⟨gt,CT9,htf, -,hgtl⟩:=hvt.out.row.form (by rw [←hnt.out];omega)
     rw [←hnt.out] at htf
     cases htf
     obtain⟨ga,CA9,haf, -,hgal⟩:=hva.out.row.form (by rw [←hna.out];omega)
     rw [←hna.out] at haf
     cases haf
     have tyA:=(Ya hva.out.row rfl).2.2
     have tyT:=(Ya hvt.out.row rfl).2.2
     have tyC:=(Ya hcin.out.row rfl).2.2
     have nAT:ga≠gt:=Z7 tyA tyT (by decide)
     have nCA:gc≠ga:=Z7 tyC tyA (by decide)
     have nCT:gc≠gt:=Z7 tyC tyT (by decide)
     have ngc:¬(gc=gt∨gc=ga):=by omega
     have hTa:T ga:=hTV.out ga (.inr (.inr ⟨es',_,Jm he'.out,Jm hei.out, .inl rfl⟩))
     have hTt:T gt:=hTV.out gt (.inr (.inr ⟨es',_,Jm he'.out,Jm hei.out, .inr rfl⟩))
     have hra:Hid (V1.ownsRow 0 62 3 (.slice (some ⟨ga,0,none⟩) na Ca) na (ins.args.flatMap oc)):=hide (by
      have:=Yc hva.out.row (w':=V1) fun k hk=>hb1.block k (Ya hva.out.row hk).2.1
      rwa [←hna.out] at this)
     have hrt:Hid (V1.ownsRow 0 3 1 (.slice (some ⟨gt,0,none⟩) nt Ct) nt (ins.to.map fun z=>Value.int .i64 z)):=hide (by
      have:=Yc hvt.out.row (w':=V1) fun k hk=>hb1.block k (Ya hvt.out.row hk).2.1
      rwa [←hnt.out] at this)
     have hcV1:=hide (hcin.out.kept (w':=V1) fun k _ hk=>hb1.block k hk)
     have hkV1:=hide (hkV.out.kept (w':=V1) fun k _ hk=>hb1.block k hk)
     have hgc1:gc<V1.heap.size:=by omega
     have s5:∀w',Only (fun q=>q=gt∨q=ga) V1.heap.size V1 w'→w'.cell? ⟨gc,i*7+5,none⟩=some (.slice (some ⟨ga,0,none⟩) na Ca):=Yx (e5b V1 hb1) hgc1 (by omega)
     have s6:∀w',Only (fun q=>q=gt∨q=ga) V1.heap.size V1 w'→w'.cell? ⟨gc,i*7+6,none⟩=some (.slice (some ⟨gt,0,none⟩) nt Ct):=Yx (e6b V1 hb1) hgc1 (by omega)
     have z5:∀w',Only (fun q=>q=gt∨q=ga) V1.heap.size V1 w'→w'.frozen? ⟨gc,i*7+5,none⟩=false:=on_free (Zj hcV1.out.row _) hgc1 (by omega)
     have z6:∀w',Only (fun q=>q=gt∨q=ga) V1.heap.size V1 w'→w'.frozen? ⟨gc,i*7+6,none⟩=false:=on_free (Zj hcV1.out.row _) hgc1 (by omega)
     have hon1:=hide (honV.next (Nat.le_refl _) (Only.of_below hb1))
     refine hd5 hb1 tyA tyT tyC hpm ?_;clear hb1 tyA tyT tyC hpm;intro hb1 tyA tyT tyC hpm
     clear e0 e5 e6 e5b e6b f0 f1 d3 db
     go_upto_region 7 with(fail)
     refine Y8 (S:=fun u=>Only (fun q=>q=gt∨q=ga) V1.heap.size V1 u) (T:=fun j=>decide (j<18)&&decide (j≠1)) (by kernel_rfl) ?_
     obtain⟨U0,hU0⟩:∃U0,Hid (V1.drew=U0):=⟨_,hide rfl⟩
     have hS0:Hid (Only (fun q=>q=gt∨q=ga) V1.heap.size V1 U0):=hide (by rw [←hU0.out];exact(Only.refl _ _ _).drew)
     have hrt0:Hid (U0.ownsRow 0 3 1 (.slice (some ⟨gt,0,none⟩) nt Ct) nt (ins.to.map fun z=>Value.int .i64 z)):=hide (by rw [←hU0.out];exact hrt.out)
     have hra0:Hid (U0.ownsRow 0 62 3 (.slice (some ⟨ga,0,none⟩) na Ca) na (ins.args.flatMap oc)):=hide (by rw [←hU0.out];exact hra.out)
     rw [hU0.out]
     refine Jy (i:=1) ?_
     refine Jt (i:=0) hS0.out ?_
     refine Jt (i:=2) hS0.out ?_
     refine Jt (i:=3) hS0.out ?_
     refine Jt (i:=4) hS0.out ?_
     refine Jt (i:=5) hS0.out ?_
     refine Jt (i:=6) hS0.out ?_
     refine Jt (i:=7) hS0.out ?_
     refine Jt (i:=8) hS0.out ?_
     refine Jt (i:=10) hS0.out ?_
     refine Jt (i:=11) hS0.out ?_
     refine Jt (i:=12) hS0.out ?_
     refine Jt (i:=13) hS0.out ?_
     refine Jt (i:=14) hS0.out ?_
     refine Jt (i:=15) hS0.out ?_
     refine Jt (i:=16) hS0.out ?_
     refine Jr (i:=9) fun K hK => ?_
     (try go_simp)
     go_at_call 100
     refine(delete_ints gt nt Ct k 0 _ U0 hrt0.out kj hkj.out hknt int_one).mono ?_
     rintro e U1 ⟨rfl,hr1,ho1⟩
     have hS1:Hid (Only (fun q=>q=gt∨q=ga) V1.heap.size V1 U1):=hide (hS0.out.next (Nat.le_refl _) (ho1.more fun q _ hq=>Or.inl hq))
     have hra1:Hid (U1.ownsRow 0 62 3 (.slice (some ⟨ga,0,none⟩) na Ca) na (ins.args.flatMap oc)):=hide (Yc hra0.out fun q hq=>ho1.block q (Ya hra0.out hq).2.1 (by cases hq;exact nAT))
     replace hr1:=hide hr1
     clear ho1
     refine Jo hK (fun _=>hS1.out) ?_;clear hK K
     refine Jr (i:=17) fun K hK => ?_
     (try go_simp)
     go_at_call 101
     refine(delete_opds ga na Ca k 0 _ U1 hra1.out kj hkj.out hkna oc_one9).mono ?_
     rintro e U2 ⟨rfl,hr2,ho2⟩
     have hS2:Hid (Only (fun q=>q=gt∨q=ga) V1.heap.size V1 U2):=hide (hS1.out.next (Nat.le_refl _) (ho2.more fun q _ hq=>Or.inr hq))
     have hrt2:=hide (Yc hr1.out fun q hq=>ho2.block q (Ya hr1.out hq).2.1 (by cases hq;exact fun e=>nAT e.symm))
     replace hr2:=hide hr2
     have y5:=s5 U2 hS2.out
     have y6:=s6 U2 hS2.out
     have yz5:=z5 U2 hS2.out
     have yz6:=z6 U2 hS2.out
     clear ho2
     refine Jo hK (fun _=>hS2.out) ?_;clear hK K
     refine Jy (i:=18) ?_
     refine Jy (i:=19) ?_
     refine Jr (i:=20) fun K hK => ?_
     go_simp
     refine Jo hK (fun h=>absurd h (by decide)) ?_;clear hK K
     refine Jy (i:=21) ?_
     refine Jy (i:=22) ?_
     refine Jr (i:=23) fun K hK => ?_
     go_simp
     refine Jo hK (fun h=>absurd h (by decide)) ?_;clear hK K
     refine Yv (by kernel_rfl) ?_ _
     obtain⟨U3,hU3⟩:∃U3,Hid ((U2.setCell ⟨gc,i*7+6,none⟩ (.slice (some ⟨gt,0,none⟩) (nt - 1) Ct)).setCell ⟨gc,i*7+5,none⟩ (.slice (some ⟨ga,0,none⟩) (na - 1) Ca)=U3):=⟨_,hide rfl⟩
     have hmix:=mixP_next (p:=p) hins.out
     have hdrop:Q0 p ins=⟨ins.op,ins.reg,ins.ty,ins.num,ins.flags,ins.args.eraseIdx k,ins.to.eraseIdx k⟩:=by rw [Q0,if_pos hpm.out,←hkd.out]
     have hrow3:U3.ownsRow 0 44 7 (.slice (some ⟨gc,0,none⟩) m Cx) m (cellsOf ((mixP p l i).set i (Q0 p ins)) (es'.set i (.slice (some ⟨ga,0,none⟩) (na - 1) Ca, .slice (some ⟨gt,0,none⟩) (nt - 1) Ct))):=by
      have h1:U2.ownsRow 0 44 7 (.slice (some ⟨gc,0,none⟩) m Cx) m (cellsOf (mixP p l i) es'):=by
       have h9:=Yc hcV1.out.row (w':=U2) fun q hq=>hS2.out.block q (Ya hcV1.out.row hq).2.1 (by cases hq;exact ngc)
       rwa [mixP_len,←hm.out] at h9
      have h2:=(World.ownsRow.stored (World.ownsRow.stored h1 (i*7+6) (.slice (some ⟨gt,0,none⟩) (nt - 1) Ct)).1 (i*7+5) (.slice (some ⟨ga,0,none⟩) (na - 1) Ca)).1
      rw [hU3.out] at h2
      rw [Q9 (j:=6) (x':=⟨ins.op,ins.reg,ins.ty,ins.num,ins.flags,ins.args,ins.to.eraseIdx k⟩) (e':=(.slice (some ⟨ga,0,none⟩) na Ca, .slice (some ⟨gt,0,none⟩) (nt - 1) Ct)) hmi.out hei.out hcin.out.len (by omega) rfl] at h2
      rw [Q9 (i:=i) (j:=5) (x:=⟨ins.op,ins.reg,ins.ty,ins.num,ins.flags,ins.args,ins.to.eraseIdx k⟩) (e:=(.slice (some ⟨ga,0,none⟩) na Ca, .slice (some ⟨gt,0,none⟩) (nt - 1) Ct)) (x':=Q0 p ins) (e':=(.slice (some ⟨ga,0,none⟩) (na - 1) Ca, .slice (some ⟨gt,0,none⟩) (nt - 1) Ct)) (by rw [Jf (by rw [mixP_len,←hm.out];exact hlt)]) (by rw [Jf (by rw [hcin.out.len,mixP_len,←hm.out];exact hlt)]) (by rw [List.length_set,List.length_set];exact hcin.out.len) (by omega) (by rw [hdrop];rfl),List.set_set,List.set_set] at h2
      exact h2
     have hkeep3:∀q,q<V1.heap.size→q≠gc→q≠ga→q≠gt→U3.heap[q]? = V1.heap[q]? := fun q h1 h2 h3 h4=>by
      rw [←hU3.out]
      have a1:=Below.heap_setCell (U2.setCell ⟨gc,i*7+6,none⟩ (.slice (some ⟨gt,0,none⟩) (nt - 1) Ct)) ⟨gc,i*7+5,none⟩ (.slice (some ⟨ga,0,none⟩) (na - 1) Ca) q h2
      have a2:=Below.heap_setCell U2 ⟨gc,i*7+6,none⟩ (.slice (some ⟨gt,0,none⟩) (nt - 1) Ct) q h2
      exact a1.trans (a2.trans (hS2.out.block q h1 (by omega)))
     have hin3:∀q,q≠gc→U3.heap[q]? = U2.heap[q]? := fun q h2=>by
      rw [←hU3.out]
      exact(Below.heap_setCell (U2.setCell ⟨gc,i*7+6,none⟩ (.slice (some ⟨gt,0,none⟩) (nt - 1) Ct)) ⟨gc,i*7+5,none⟩ (.slice (some ⟨ga,0,none⟩) (na - 1) Ca) q h2).trans (Below.heap_setCell U2 ⟨gc,i*7+6,none⟩ (.slice (some ⟨gt,0,none⟩) (nt - 1) Ct) q h2)
     have hV3:OwnV U3 0 (.slice (some ⟨ga,0,none⟩) (na - 1) Ca) (Q0 p ins).args:=by
      rw [hdrop]
      refine⟨?_,fun z hz=>hva.out.ok z (mem_erase_ok hz)⟩
      have h1:=Yc hr2.out (w':=U3) fun q hq=>hin3 q (by cases hq;exact fun e=>nCA e.symm)
      have hl:(ins.args.eraseIdx k).length=na - 1:=by rw [List.length_eraseIdx,if_pos (by rw [←hna.out];exact hkna),←hna.out]
      show U3.ownsRow 0 62 3 (.slice (some ⟨ga,0,none⟩) (na - 1) Ca) (ins.args.eraseIdx k).length _
      rw [hl,oc_erase (by rw [←hna.out];exact hkna)]
      refine Yb8 h1 ?_ (by omega)
      rw [←oc_erase (by rw [←hna.out];exact hkna),oc_len,hl]
     have hI3:OwnI U3 0 (.slice (some ⟨gt,0,none⟩) (nt - 1) Ct) (Q0 p ins).to:=by
      rw [hdrop]
      refine⟨?_,fun z hz=>hvt.out.ok z (mem_erase_ok hz)⟩
      have h1:=Yc hrt2.out (w':=U3) fun q hq=>hin3 q (by cases hq;exact fun e=>nCT e.symm)
      have hl:(ins.to.eraseIdx k).length=nt - 1:=by rw [List.length_eraseIdx,if_pos (by rw [←hnt.out];exact hknt),←hnt.out]
      show U3.ownsRow 0 3 1 (.slice (some ⟨gt,0,none⟩) (nt - 1) Ct) (ins.to.eraseIdx k).length _
      rw [hl,int_erase]
      refine Yb8 h1 ?_ (by omega)
      rw [←int_erase,List.length_map,hl,Nat.mul_one]
     have hok3:Ybr (Q0 p ins):=by rw [hdrop];exact hok.out
     have hk3:=hkV1.out.put_ins (w':=U3) hbset.out hx.out he'.out hmi.out hei.out hrow3 hV3 hI3 hok3 (fun q hq => .inl hq) (fun q hq => .inl hq) (fun q h1 h2 h3 h4=>hkeep3 q h1 h2 (fun e=>h3 (by rw [e];rfl)) (fun e=>h4 (by rw [e];rfl)))
     rw [List.set_set,hmix] at hk3
     have hT3:Hid (∀q,TB (.slice (some ⟨gd,0,none⟩) n C) xs (ess'.set b (es'.set i (.slice (some ⟨ga,0,none⟩) (na - 1) Ca, .slice (some ⟨gt,0,none⟩) (nt - 1) Ct))) q→T q):=hide (fun q hq=>by
      rcases hq with h1|h1|⟨a,z,h1,h2,h3⟩
      ·exact hTV.out q (.inl h1)
      ·exact hTV.out q (.inr (.inl h1))
      ·rcases List.mem_or_eq_of_mem_set h1 with h4 | h4
       ·exact hTV.out q (.inr (.inr ⟨a,z,h4,h2,h3⟩))
       ·subst h4
        rcases List.mem_or_eq_of_mem_set h2 with h5|h5
        ·exact hTV.out q (.inr (.inr ⟨es',z,Jm he'.out,h5,h3⟩))
        ·subst h5
         rcases h3 with h3|h3
         ·cases h3;exact hTa
         ·cases h3;exact hTt)
     have hon3:Only T w.heap.size w U3:=by
      rw [←hU3.out]
      exact((hon1.out.next (Nat.le_refl _) (hS2.out.more fun q _ hq=>by rcases hq with e|e<;>subst e<;>assumption)).setCell (p:=⟨gc,i*7+6,none⟩) (.inl hgcT) _).setCell (p:=⟨gc,i*7+5,none⟩) (.inl hgcT) _
     rw [hU3.out]
     replace hk3:=hide hk3
     clear hrow3 hkeep3 hin3 hV3 hI3 hok3 s5 s6 z5 z6 y5 y6 yz5 yz6
     go_wp2
     go_roundw
     case rel=>exact⟨i+1,_,by go_num,hlt,hk3,hT3,hph',hon3⟩
     case measure=>simp [intOf];omega
    ·have hix : idxI ins.to p = -1 := by rw [idxI, if_neg hpm]
     rw [hix]
     have hk1:Hid (Yq V1 0 (.slice (some ⟨gd,0,none⟩) n C) (f.blocks.set b (mixP p l (i+1))) xs ess'):=hide (by
      rw [←mixP_same hins.out hpm]
      exact hkV.out.kept fun q _ hq=>hb1.block q hq)
     have hon1:Only T w.heap.size w V1:=honV.next (Nat.le_refl _) (Only.of_below hb1)
     refine hd2 hpm hb1 ?_;clear hpm hb1;intro hpm hb1
     clear e0 e5 e6 e5b e6b f0 f1 d3 db
     go_wp2
     go_roundw
     case rel=>exact⟨i+1,ess',by go_num,hlt,hk1,hTV,hph',hon1⟩
     case measure=>simp [intOf];omega
   ·have g1 : (ins.op != 25) = true := by rw [bne_iff_ne]; exact h25
    have hfin:Hid (MF V T N (Ye f (f.blocks.set b (Yaw p l))) c (.slice (some ⟨gd,0,none⟩) n C)∧Only T w.heap.size w V):=hide (by
     refine hP.out V ess' honV ?_ hTV.out
     rw [←mixP_stop hph.out (.inr ⟨ins,hins.out,h25⟩)]
     exact hkV.out)
    replace h25:=hide h25
    go_wp2
    try simp only [Exit.inBlock,Exit.then]
    refine bodyPost_ret (results_none rfl _ _ _) rfl ?_
    exact⟨rfl,hfin.out⟩
  ·obtain rfl : m = i := by omega
   have hfin:Hid (MF V T N (Ye f (f.blocks.set b (Yaw p l))) c (.slice (some ⟨gd,0,none⟩) n C)∧Only T w.heap.size w V):=hide (by
    refine hP.out V ess' honV ?_ hTV.out
    rw [←mixP_stop hph.out (.inl hm.out)]
    exact hkV.out)
   go_wp2
   go_end0
   exact⟨rfl,hfin.out⟩
def brI (t:Int):Ins:=⟨31, -1,0,0,0, [], [t]⟩
def JumpP (t:Int) (w:World) (e:Ending) (w':World):Prop:=∃g,e = .returned (.agg #[.int .i64 31, .int .i64 (-1), .int .i64 0, .int .i64 0, .int .i64 0, .slice none 0 0, .slice (some ⟨g,0,none⟩) 1 1])∧OwnI w' w.heap.size (.slice (some ⟨g,0,none⟩) 1 1) [t]∧Below w.heap.size w w'
theorem tjump_any (t:Int) (ht:I64 t) (w:World):Calls Tryz.prog 56 #[.int .i64 t] w (JumpP t w):=by
 have hb:Below w.heap.size w ((w.alloc (Obj.cells #[.int .i64 31, .int .i64 (-1), .int .i64 0, .int .i64 0, .int .i64 0, .slice none 0 0, .slice (some ⟨w.heap.size+1,0,none⟩) 1 1] 44)).alloc (Obj.cells #[.int .i64 t] 3)):=((Below.refl _ _).alloc (Nat.le_refl _) _).alloc (by simp) _
 have hq:=Yu (w.alloc (Obj.cells #[.int .i64 31, .int .i64 (-1), .int .i64 0, .int .i64 0, .int .i64 0, .slice none 0 0, .slice (some ⟨w.heap.size+1,0,none⟩) 1 1] 44)) (.cells #[.int .i64 t] 3)
 have hfin:Hid (JumpP t w (.returned (.agg #[.int .i64 31, .int .i64 (-1), .int .i64 0, .int .i64 0, .int .i64 0, .slice none 0 0, .slice (some ⟨w.heap.size+1,0,none⟩) 1 1])) ((w.alloc (Obj.cells #[.int .i64 31, .int .i64 (-1), .int .i64 0, .int .i64 0, .int .i64 0, .slice none 0 0, .slice (some ⟨w.heap.size+1,0,none⟩) 1 1] 44)).alloc (Obj.cells #[.int .i64 t] 3))):=hide ⟨_,rfl,⟨⟨rfl, .inr ⟨_,1,_,rfl,by omega,by simpa using hq,Nat.le_refl _,by unfold maxLen;omega,rfl,rfl⟩⟩,fun x hx=>by rw [List.mem_singleton.1 hx];exact ht⟩,hb⟩
 clear hb hq
 go_enter Tryz.func56,Tryz.ntmps56
 go_wp2
 refine bodyPost_ret (v := .agg #[.int .i64 31, .int .i64 (-1), .int .i64 0, .int .i64 0, .int .i64 0, .slice none 0 0, .slice (some ⟨w.heap.size+1,0,none⟩) 1 1]) (by simp [results,Tryz.results56,go_sem]) rfl ?_
 exact hfin.out
theorem tend_any {w : World} {N b n C gd gc m Cx : Nat} {xs : List Value} {ess : List (List (Value × Value))} {bs : List (List Ins)} (hbox : w.cell? ⟨N, 3, none⟩ = some (.slice (some ⟨gd, 0, none⟩) n C)) (hn : n = bs.length) (hk : Yq w 0 (.slice (some ⟨gd, 0, none⟩) n C) bs xs ess) (hx : xs[b]? = some (.slice (some ⟨gc, 0, none⟩) m Cx)) {q : Nat} (hq : m = q + 1) (hm64 : m ≤ 9223372036854775807) :
  Calls Tryz.prog 55 #[.pointer (some ⟨N,0,none⟩), .int .i64 b] w fun e w'=>e = .returned (.pointer (some ⟨gc,q*7,none⟩))∧w'=w:=by
 subst hq
 have hbc:=hk.blk_cell hx
 have hbn:b<n:=by
  have:=(Js.1 hx).1
  rw [hk.lenx] at this
  omega
 have hbi:(b:Int)<(n:Int):=by omega
 obtain⟨mm,hmm⟩:=Jn (q+1)
 have c9:(mm:Int) - 1=(q:Int):=by have:=hmm.out;omega
 have c8:q<mm:=by have:=hmm.out;omega
 have c7:(q:Int)<(mm:Int):=by omega
 rw [←hmm.out] at hbc
 refine hd3 hk hx hn ?_;clear hk hx hn;intro hk hx hn
 go_enter Tryz.func55,Tryz.ntmps55
 go_wp2
 go_ret
 exact⟨rfl,rfl⟩
def Yab (w:World) (no:Option Nat) (c:Value) (l:List Int):Prop :=
 ∃A cap,c = .slice A l.length cap∧l.length≤cap∧cap≤maxLen∧(0<l.length→∃b off cur,A=some ⟨b,off,none⟩∧no≠some b∧w.heap[b]? = some (.cells cur 3 (0,0))∧∀(i:Nat) x,l[i]? = some x→cur[off+i]? = some (.int .i64 x))
section
variable {w w':World} {no no':Option Nat} {c:Value} {l:List Int} {B:Nat}
theorem Yab.turn (h:Yab w no c l) (hk:∀(k:Nat) cur,w.heap[k]? = some (.cells cur 3 (0,0))→no≠some k→w'.heap[k]? = w.heap[k]? ∧no'≠some k):Yab w' no' c l:=by
 obtain⟨A,cap,h1,h2,h3,h4⟩:=h
 refine⟨A,cap,h1,h2,h3,fun hl => ?_⟩
 obtain⟨b,off,cur,g1,g2,g3,g4⟩:=h4 hl
 exact⟨b,off,cur,g1,(hk b cur g3 g2).2,(hk b cur g3 g2).1.trans g3,g4⟩
theorem Yab.but {T:TypeId} (h:Yab w no c l) (hb:But T w w') (hT : 3 ≠T):Yab w' no c l:=h.turn fun k cur hk hn=>⟨hb k cur _ _ hk hT,hn⟩
theorem Yab.below (h:Yab w no c l) (hb:Below w.heap.size w w'):Yab w' no c l:=h.turn fun k cur hk hn=>⟨hb.block k (Array.getElem?_eq_some_iff.1 hk).1,hn⟩
theorem Yab.of_own {v:Value} (h:OwnI w B v l) (hno:∀k,B≤k→no≠some k):Yab w no v l:=by
 obtain⟨h0,hr⟩:=h.row
 rcases hr with⟨rfl,h1⟩|⟨g,cap,cur,rfl,hb,hg,hn,hc,hs,ht⟩
 ·exact⟨none,0,by rw [h1],by omega,by simp [maxLen],fun hl=>by omega⟩
 ·refine ⟨_, cap, rfl, hn, hc, fun hl => ⟨g, 0, cur, rfl, hno g hb, hg, fun i x hi => ?_⟩⟩
  have hil:=(Js.1 hi).1
  have h2:(l.map fun z=>Value.int .i64 z)[i]? = some (.int .i64 x):=by rw [List.getElem?_map,hi];rfl
  rw [←ht,List.getElem?_take_of_lt (by omega),Array.getElem?_toList] at h2
  rw [Nat.zero_add];exact h2
theorem Yab.tail {t:Int} {A:Option Addr} {n cap:Nat} (h:Yab w no (.slice A n cap) (t :: l)):∃b off,A=some ⟨b,off,none⟩∧n=l.length+1∧l.length+1≤cap∧cap≤maxLen∧w.cell? ⟨b,off,none⟩=some (.int .i64 t)∧∀A',(0<l.length→A'=some ⟨b,off+1,none⟩)→Yab w no (.slice A' l.length (cap - 1)) l:=by
 obtain⟨A',cap',h1,h2,h3,h4⟩:=h
 cases h1
 obtain⟨b,off,cur,g1,g2,g3,g4⟩:=h4 (by simp)
 refine⟨b,off,g1,by simp,by simpa using h2,h3,?_,fun A2 hA2=>⟨A2,cap - 1,rfl,by simp at h2;omega,by omega,fun hl=>⟨b,off+1,cur,hA2 hl,g2,g3,fun i x hi => ?_⟩⟩⟩
 ·have := g4 0 t rfl
  simp [World.cell?,g3]
  simpa using this
 ·have := g4 (i + 1) x (by simpa using hi)
  rw [show off+1+i=off+(i+1) by omega];exact this
end
def stc : List (Int × List Int) → List Value → List Value
 | p :: st,c :: cs=>stc st cs ++ [.int .i64 p.1,c]
 | _,_ => []
theorem stc_len : ∀ (st : List (Int × List Int)) (cs : List Value), cs.length = st.length → (stc st cs).length = st.length * 2
 | [], [],_=>rfl
 | [],c :: cs,h=>by simp at h
 | p :: st, [],h=>by simp at h
 | p :: st,c :: cs,h=>by
  have:=stc_len st cs (by simpa using h)
  simp only [stc,List.length_append,this,List.length_cons,List.length_nil]
  omega
def Zy (w:World) (B:Nat) (no:Option Nat) (v:Value) (st:List (Int×List Int)):Prop :=
 ∃cs:List Value,cs.length=st.length∧w.ownsRow B 152 2 v st.length (stc st cs)∧∀(i:Nat) c p,cs[i]? = some c→st[i]? = some p→Yab w no c p.2
section
variable {w w':World} {no no':Option Nat} {v:Value} {st:List (Int×List Int)} {B:Nat}
theorem Zy.but {T:TypeId} (h:Zy w B no v st) (hb:But T w w') (h1 : 3 ≠T) (h2 : 152 ≠T):Zy w' B no v st:=by
 obtain⟨cs,a1,a2,a3⟩:=h
 exact⟨cs,a1,hb.row h2 a2,fun i c p hc hp=>(a3 i c p hc hp).but hb h1⟩
theorem Zy.below (h:Zy w B no v st) (hb:Below w.heap.size w w'):Zy w' B no v st:=by
 obtain⟨cs,a1,a2,a3⟩:=h
 exact⟨cs,a1,Yc a2 fun k hk=>hb.block k (Ya a2 hk).2.1,fun i c p hc hp=>(a3 i c p hc hp).below hb⟩
theorem Zy.grown (h:Zy w B no v st) (hg:w.grownBy w' no) (hn:∀k,no'=some k→no=some k∨w.heap.size≤k) (hv:∀k cur t f,no=some k→w.heap[k]? = some (.cells cur t f)→t = 3):Zy w' B no' v st:=by
 obtain⟨cs,a1,a2,a3⟩:=h
 refine⟨cs,a1,Yc a2 fun k hk => ?_,fun i c p hc hp=>(a3 i c p hc hp).turn fun k cur hk hno => ?_⟩
 ·obtain ⟨-, h1, c', h2⟩ := Ya a2 hk
  exact hg.block k h1 (fun e=>by have:=hv k _ _ _ e.symm h2;exact absurd this (by decide))
 ·have h1 := (Array.getElem?_eq_some_iff.1 hk).1
  refine⟨hg.block k h1 (fun e=>hno e.symm),fun e => ?_⟩
  rcases hn k e with h2|h2
  ·exact hno h2
  ·omega
theorem Zy.top {b:Int} {l:List Int} (h:Zy w B no v ((b,l) :: st)):∃g cap cs A C,v = .slice (some ⟨g,0,none⟩) (st.length+1) cap∧B≤g∧g<w.heap.size∧st.length+1≤cap∧cap≤maxLen∧cs.length=st.length∧
  w.ownsRow B 152 2 v (st.length+1) (stc st cs ++ [.int .i64 b, .slice A l.length C])∧Yab w no (.slice A l.length C) l∧(∀(i:Nat) c p,cs[i]? = some c→st[i]? = some p→Yab w no c p.2)∧
  w.cell? ⟨g,st.length*2,none⟩=some (.int .i64 b)∧w.cell? ⟨g,st.length*2+1,none⟩=some (.slice A l.length C):=by
 obtain⟨cs,a1,a2,a3⟩:=h
 match cs,a1 with
 | c :: cs,a1 =>
  have a1':cs.length=st.length:=by simpa using a1
  have h0:=a3 0 c _ rfl rfl
  obtain⟨A,C,rfl, -, -, -⟩:=id h0
  obtain⟨g,cap,hv,hb,hlt⟩:=a2.form (by simp)
  subst hv
  have hl:=stc_len st cs a1'
  refine⟨g,cap,cs,A,C,rfl,hb,hlt,?_,?_,a1',a2,h0,fun i c p hc hp=>a3 (i+1) c p (by simpa using hc) (by simpa using hp),?_,?_⟩
  ·rcases a2.2 with ⟨h, _⟩ | ⟨_, _, _, e, _, _, h, _⟩
   ·cases h
   ·cases e;exact h
  ·rcases a2.2 with ⟨h, _⟩ | ⟨_, _, _, e, _, _, _, h, _⟩
   ·cases h
   ·cases e;exact h
  ·rw [World.ownsRow.cellAt a2 _ (by first | (simp; omega) | simp)]
   show(stc st cs ++ [_,_])[_]? = _
   rw [List.getElem?_append_right (by omega),hl,Nat.sub_self];rfl
  ·rw [World.ownsRow.cellAt a2 _ (by first | (simp; omega) | simp)]
   show(stc st cs ++ [_,_])[_]? = _
   rw [List.getElem?_append_right (by omega),hl,show st.length*2+1 - st.length*2=1 by omega];rfl
theorem row_cut {e:TypeId} {size n cap g:Nat} {xs ys:List Value} (h:w.ownsRow B e size (.slice (some ⟨g,0,none⟩) (n+1) cap) (n+1) (xs++ys)) (hx:xs.length=n*size):w.ownsRow B e size (.slice (some ⟨g,0,none⟩) n cap) n xs:=by
 rcases h.2 with⟨h1,_⟩|⟨g',cap',cur,hv,hb,hg,hn,hc,hs,ht⟩
 ·cases h1
 ·cases hv
  refine⟨hx, .inr ⟨g,cap,cur,rfl,hb,hg,by omega,hc,hs,?_⟩⟩
  have h2:cur.toList.take (n*size)=(cur.toList.take ((n+1)*size)).take (n*size):=by rw [List.take_take,Nat.min_eq_left (Nat.mul_le_mul_right _ (by omega))]
  rw [h2,ht,←hx,List.take_left]
theorem Zy.pop {g cap:Nat} {cs:List Value} {ys:List Value} (hc:cs.length=st.length) (h:w.ownsRow B 152 2 (.slice (some ⟨g,0,none⟩) (st.length+1) cap) (st.length+1) (stc st cs++ys)) (hr:∀(i:Nat) c p,cs[i]? = some c→st[i]? = some p→Yab w no c p.2):Zy w B no (.slice (some ⟨g,0,none⟩) st.length cap) st :=
 ⟨cs,hc,row_cut h (stc_len st cs hc),hr⟩
theorem Zy.shrink {g cap : Nat} {b : Int} {l : List Int} {cs : List Value} {c c' : Value} (hc : cs.length = st.length) (h : w.ownsRow B 152 2 (.slice (some ⟨g, 0, none⟩) (st.length + 1) cap) (st.length + 1) (stc st cs ++ [.int .i64 b, c])) (hr : ∀ (i : Nat) c p, cs[i]? = some c → st[i]? = some p → Yab w no c p.2) (h0 : Yab w no c' l) :
  Zy (w.setCell ⟨g,st.length*2+1,none⟩ c') B no (.slice (some ⟨g,0,none⟩) (st.length+1) cap) ((b,l) :: st):=by
 have h1:=(World.ownsRow.stored h (st.length*2+1) c').1
 have hl:=stc_len st cs hc
 rw [List.set_append,if_neg (by omega),hl,show st.length*2+1 - st.length*2=1 by omega] at h1
 have hb:=But.stored (j:=st.length*2+1) (u:=c') h
 refine⟨c' :: cs,by simp [hc],h1,fun i c p h2 h3 => ?_⟩
 cases i with
 | zero=>cases h2;cases h3;exact h0.but hb (by decide)
 | succ i=>exact(hr i c p (by simpa using h2) (by simpa using h3)).but hb (by decide)
theorem Zy.push {b:Int} {l:List Int} {c:Value} (h:Zy w B no v st) (h0:Yab w no c l):∃xs,w.ownsRow B 152 2 v st.length xs∧∀w' v',w'.ownsRow B 152 2 v' (st.length+1) (xs ++ [.int .i64 b,c])→But 152 w w'→Zy w' B no v' ((b,l) :: st):=by
 obtain⟨cs,a1,a2,a3⟩:=h
 refine⟨_,a2,fun w' v' h1 hb=>⟨c :: cs,by simp [a1],h1,fun i c p h2 h3 => ?_⟩⟩
 cases i with
 | zero=>cases h2;cases h3;exact h0.but hb (by decide)
 | succ i=>exact(a3 i c p (by simpa using h2) (by simpa using h3)).but hb (by decide)
end
theorem cinfo_visit:(Tryz.prog.info? 152).map (fun i=>(i.zero,i.size,i.bytes))=some (some (.agg #[.int .i64 0, .slice none 0 0]),2,32):=by kernel_rfl
theorem Ybh:(Tryz.prog.info? 4).map (fun i=>(i.zero,i.size,i.bytes))=some (some (.bool false),1,1):=by kernel_rfl
theorem bmap_set (l:List Bool) (k:Nat) (x:Bool):(l.map Value.bool).set k (.bool x)=(l.set k x).map Value.bool:=by simp [List.map_set]
theorem Ybf {w:World} {B g n:Nat} (h:w.ownsRow B 4 1 (.slice (some ⟨g,0,none⟩) n n) n (madeCells #[Value.bool false] n).toList):w.ownsRow B 4 1 (.slice (some ⟨g,0,none⟩) n n) n ((List.replicate n false).map Value.bool):=by
 rwa [toList_madeCells_one,←List.map_replicate (f:=Value.bool)] at h
theorem Zr {w w':World} (hg:w.grownBy w' none):Below w.heap.size w w':=⟨hg.os,hg.tape,hg.output,hg.size,fun k hk=>hg.block k hk (fun e=>by cases e)⟩
theorem Ybz {n:Int} (h1 : -9223372036854775808≤n) (h2:n≤9223372036854775807):I64 n:=by
 have h3:n≤9223372036854775808 - 1:=by omega
 simp [I64,Lit.wf,IntKind.min,IntKind.max,IntKind.bits,IntKind.signed]
 omega
theorem stack_out {wr w1:World} {B gq n:Nat} {u v:Value} {st:List (Int×List Int)} {xs:List Value} {o:Obj} (hp:Zy wr B u.ownBlock v st) (hu:wr.ownsRow B 3 1 u n xs) (hg:(wr.alloc o).grownBy w1 u.ownBlock) (hq:u.ownBlock=some gq∨gq=wr.heap.size+1):Zy w1 B (some gq) v st:=by
 refine(hp.below ((Below.refl _ _).alloc (Nat.le_refl _) o)).grown (no':=some gq) hg (fun k hk => ?_) (fun k cur t f h1 h2 => ?_)
 ·cases hk
  rcases hq with h|h
  ·exact .inl h
  ·exact .inr (by rw [h];simp)
 ·obtain ⟨-, -, c', h3⟩ := Ya (hu.alloc o) h1
  rw [h3] at h2
  cases h2
  rfl
def OrdPost (l:List Int) (w:World) (e:Ending) (w':World):Prop:=∃v,e = .returned v∧OwnI w' w.heap.size v l∧Below w.heap.size w w'
theorem order_any (f : Fun) (c1 c2 : Value) (w : World) (B : Nat) (hB : B ≤ w.heap.size) (hf : RFun.rep w B [.string f.name, c1, .int .i64 f.ret, c2] f) (hs : Zo f) :
  Calls Tryz.prog 98 #[f.v c1 c2] w (OrdPost (Q4 f.blocks) w):=by
 obtain⟨hp,hb⟩:=Yk (RFun.later hf (Below.refl _ _) hB)
 obtain⟨A1,k1,h1, -, -⟩:=Rp.slice1_open hp
 obtain⟨A2,k2,h2,hm2, -⟩:=Rp.slice1_open hb
 cases h1;cases h2
 clear hp hb
 obtain⟨i0,hi0,hz0,hz1,hz2⟩:=Yh Z5
 obtain⟨j0,hj0,hy0,hy1,hy2⟩:=Yh cinfo_visit
 obtain⟨b0,hb0,hx0,hx1,hx2⟩:=Yh Ybh
 refine hd12 hi0 hz0 hz1 hz2 hj0 hy0 hy1 hy2 hb0 hx0 hx1 hx2 ?_;clear hi0 hz0 hz1 hz2 hj0 hy0 hy1 hy2 hb0 hx0 hx1 hx2;intro hi0 hz0 hz1 hz2 hj0 hy0 hy1 hy2 hb0 hx0 hx1 hx2
 obtain⟨n,hn⟩:=Jn (f.blocks.length)
 have hnle:n≤2000000:=by rw [hn.out];exact hs.blocks
 rw [←hn.out] at hf hm2⊢
 obtain⟨W,hW,hwW,hWs,hx⟩:=Y6 w #[.string f.name, .slice A1 f.params.length k1, .int .i64 f.ret, .slice A2 n k2] 32
 have q0:∀w',Below W.heap.size W w'→w'.cell? ⟨w.heap.size,0,none⟩=some (.string f.name):=hx 0 _ rfl
 have q1:∀w',Below W.heap.size W w'→w'.cell? ⟨w.heap.size,1,none⟩=some (.slice A1 f.params.length k1):=hx 1 _ rfl
 have q2:∀w',Below W.heap.size W w'→w'.cell? ⟨w.heap.size,2,none⟩=some (.int .i64 f.ret):=hx 2 _ rfl
 have q3:∀w',Below W.heap.size W w'→w'.cell? ⟨w.heap.size,3,none⟩=some (.slice A2 n k2):=hx 3 _ rfl
 clear hx
 have hws:w.heap.size≤W.heap.size:=by omega
 replace hWs:=hide hWs
 have hself:=Below.refl W.heap.size W
 obtain⟨sc,hsc⟩:=Jn (Yo f.blocks)
 have hsok:Hid (∀b,Ya1 n (sc b)):=hide (fun b=>by rw [hsc.out,hn.out];exact Yba _ _)
 have cS:Hid (∀(b:Int) w',Below W.heap.size W w'→Calls Tryz.prog 76 #[f.v (.slice A1 f.params.length k1) (.slice A2 n k2), .int .i64 b] w' (SuccPost (sc b) w')):=hide (fun b w' h=>by
  have hh:=hwW.trans (h.mono hws)
  have:=succs_any f b (.slice A1 f.params.length k1) (.slice A2 n k2) w' w'.heap.size (Nat.le_refl _) (RFun.later hf (hh.mono hB) (Nat.le_trans hB hh.size)) hs
  rwa [←hsc.out] at this)
 refine hd2 hs hf ?_;clear hs hf;intro hs hf
 by_cases hn0:n=0
 ·have ho : Hid (Q4 f.blocks = []) := hide (by unfold Q4; rw [← hn.out, if_pos hn0])
  subst hn0
  go_enter Tryz.func98,Tryz.ntmps98
  go_wp2
  go_ret
  exact⟨_,rfl,by rw [ho.out];exact OwnI.nil_,hwW⟩
 obtain⟨R,hR⟩:∃R,Hid (dfs sc [(0,sc 0)] ((List.replicate n false).set 0 true) []=R):=⟨_,hide rfl⟩
 have ho:Hid (Q4 f.blocks=R.reverse):=hide (by unfold Q4;rw [←hn.out,if_neg hn0,←hsc.out,hR.out])
 have hok0:=hide (dfsOk_start (n:=n) (l:=sc 0) (by omega) (hsok.out 0).bound)
 have e0:((n:Int)==0)=false:=by rw [beq_eq_false_iff_ne];omega
 replace hwW:=hide hwW
 go_enter Tryz.func98,Tryz.ntmps98
 go_wp2_with (at_make;refine wpList_make_full _ rfl (.tmp 14) (.tmp 14) _ rfl W.heap.size 4 b0 _ 1 Tryz.underlying55 hb0.out hx0.out hx1.out .i64 .i64 n n n rfl rfl rfl rfl ?c1 ?c2 (Nat.le_refl _) ?_)
 case c1=>rw [hx2.out];omega
 case c2=>unfold maxLen;omega
 intro w1 hown1 hg1
 have hbel1:=Zr hg1
 have hmk1:=Ybf hown1
 clear hg1 hown1
 have fz1:w1.frozen? ⟨W.heap.size,0,none⟩=false:=World.ownsRow.frozenAt hmk1 0
 have rz1:w1.cell? ⟨W.heap.size,0,none⟩=some (.bool false):=by rw [World.ownsRow.cellAt hmk1 0 (by omega),List.getElem?_map,List.getElem?_replicate,if_pos (by omega)];rfl
 have hmk2:=hide (World.ownsRow.stored hmk1 0 (.bool true)).1
 rw [bmap_set] at hmk2
 have hbel2:Below W.heap.size W (w1.setCell ⟨W.heap.size,0,none⟩ (.bool true)):=hbel1.setCell (p:=⟨W.heap.size,0,none⟩) (Nat.le_refl _) (.bool true)
 have hs2:=hbel2.size
 clear hmk1
 go_wp2_with (first|(go_at_call 76;refine(cS.out 0 _ hbel2).mono ?_;rintro e w3 ⟨c,rfl,hO3,hb3⟩;obtain⟨Ac,kc,hcf⟩:=Yd hO3.row;subst hcf))
 have hbel3:=hbel2.trans (hb3.mono hs2)
 have hmk3:=hide (Yc hmk2.out fun k hk=>hb3.block k (Ya hmk2.out hk).2.1)
 have hst4:Hid (Zy (w3.alloc (.cells #[.int .i64 0, .slice Ac (sc 0).length kc] 152)) W.heap.size none (.slice (some ⟨w3.heap.size,0,none⟩) 1 1) [(0,sc 0)]):=hide ⟨[.slice Ac (sc 0).length kc],rfl,⟨rfl, .inr ⟨w3.heap.size,1,_,rfl,hbel3.size,Yu _ _,Nat.le_refl _,by simp [maxLen],rfl,rfl⟩⟩,fun i c' p hc hp=>by
  cases i with
  | zero=>cases hc;cases hp;exact(Yab.of_own hO3 (fun k _ e=>by cases e)).below ((Below.refl _ _).alloc (Nat.le_refl _) _)
  | succ i=>simp at hc⟩
 have hbel4:=hbel3.alloc hbel3.size (.cells #[.int .i64 0, .slice Ac (sc 0).length kc] 152)
 have hmk4:=hide (hmk3.out.alloc (.cells #[.int .i64 0, .slice Ac (sc 0).length kc] 152))
 clear hbel1 hbel2 hbel3 hb3 hmk2 hmk3 hO3 hs2 fz1 rz1
 obtain⟨v4,hv4⟩:∃v4,v4=Value.slice (some ⟨w3.heap.size,0,none⟩) 1 1:=⟨_,rfl⟩
 rw [←hv4] at hst4⊢
 obtain⟨w4,hw4⟩:∃w4,w4=w3.alloc (.cells #[.int .i64 0, .slice Ac (sc 0).length kc] 152):=⟨_,rfl⟩
 rw [←hw4] at hst4 hbel4 hmk4⊢
 clear hw4 hv4
 go_loopg [4,5] (mu n [(0,sc 0)] ((List.replicate n false).set 0 true)) (fun k u4 u5 wr=>∃st marked out,mu n st marked=k∧Hid (dfs sc st marked out=R)∧Hid (DfsOk n st marked out)∧Hid (Zy wr W.heap.size u5.ownBlock u4 st)∧
  Hid (wr.ownsRow W.heap.size 4 1 (.slice (some ⟨W.heap.size,0,none⟩) n n) n (marked.map Value.bool))∧Hid (OwnI wr W.heap.size u5 out)∧Below W.heap.size W wr)
 case atStart=>exact⟨_,_,_,rfl,hR,hok0,hst4,hmk4,hide OwnI.nil_,hbel4⟩
 case round =>
  clear hst4 hmk4 hbel4 hok0 hR
  obtain⟨st,marked,out,hmu,hdf,hok,hst,hmk,hou,hbel⟩:=hrel
  have hbs:=hbel.size
  replace hmu:=hide hmu
  cases st with
  | nil =>
   obtain⟨cs0, -,hrow0, -⟩:=hst.out
   obtain⟨A0,C0,rfl⟩:=Yd hrow0
   have hRo:Hid (R=out):=hide (by rw [←hdf.out,dfs_nil])
   have hol:out.length≤2000000:=by have:=hok.out.room;omega
   have cR:=hide (reverse_any u5 out wr W.heap.size hou.out hol)
   clear hrow0
   go_wp2_with (first|(go_at_call 124;refine cR.out.mono ?_;rintro e w9 ⟨rfl,hO9,hb9⟩))
   have hb10:=hb9.to_below (B':=W.heap.size) (fun k hk=>(Ya hou.out.row hk).1) hbs
   go_ret
   exact⟨_,rfl,by rw [ho.out,hRo.out];exact hO9.mono hws,hwW.out.trans ((hbel.trans hb10).mono hws)⟩
  | cons p st =>
   obtain⟨b,l⟩:=p
   obtain⟨g,cap,cs,A,C,rfl,hg1,hg2,hcap,hcapm,hcs,hrow,hrest,hrests,r0,r1⟩:=hst.out.top
   obtain⟨m,hm⟩:=Jn (st.length)
   have hmle:m+1≤n:=by have:=hok.out.room;rw [hm.out];simp at this;omega
   rw [←hm.out] at r0 r1 hrow hcap hcs⊢
   have e1:((m+1:Nat):Int) > 0:=by omega
   have e2:((m+1:Nat):Int) - 1=(m:Int):=by omega
   have fz:=World.ownsRow.frozenAt hrow (m*2+1)
   refine hd4 hrow hrests hrest hcs ?_;clear hrow hrests hrest hcs;intro hrow hrests hrest hcs
   have hbin:=(hok.out.inn _ (List.mem_cons_self ..)).1
   have hbI:Hid (I64 b):=hide (Ybz (by have:=hbin.1;simp only at this;omega) (by have:=hbin.2;simp only at this;omega))
   clear hbin
   have hol:out.length≤2000000:=by have:=hok.out.room;omega
   cases l with
   | nil =>
    have hpop:=hide (Zy.pop (by rw [hcs.out,hm.out]) (by rw [←hm.out];exact hrow.out) hrests.out)
    have hok2:=hide (dfsOk_pop hok.out)
    have hdf2:Hid (dfs sc st marked (out ++ [b])=R):=hide (by rw [←hdf.out,dfs_pop])
    have hmu2:Hid (mu n st marked<gk):=hide (by rw [←hmu.out];exact mu_pop _ _ _ _)
    go_wp2_with (first
     | (at_builtin
        refine wpList_append_lies _ rfl (.tmp 36) (.tmp 41) _ rfl W.heap.size 3 i0 _ 1 8 Tryz.underlying29 hi0.out hz0.out hz1.out hz2.out rfl (by omega) u5 _ _ rfl (hou.out.row.alloc _) ⟨wr.heap.size,0,none⟩ 1 1 [.int .i64 b] rfl rfl ?c1 ?c2 (by omega) ?c3 ?c4 ?c5 (wr.heap.size+1) ?c6 ?_
        case c1=>exact World.news_of_block (cs := #[.int .i64 b]) (t := 3) (fr:=(0,0)) (heap_alloc_new wr _)
        case c2=>simp [Value.oneCell']
        case c3=>unfold maxLen;omega
        case c4=>omega
        case c5=>first|(simp;omega)|simp|omega
        case c6=>simp
        intro gq cq w1 hown1 hg1 hgq hlt1
        have hbw1:Below W.heap.size W w1:=(hbel.alloc hbs _).grown hg1 (by simp;omega) (fun k hk=>(Ya hou.out.row hk).1)
        have hbut:=But.grown hou.out.row hg1
        have hL:=hide (OwnI.snoc hou.out.ok hbI.out hown1)
        have hM:=hide (hbut.row (by decide) hmk.out)
        have hS:=hide (stack_out hpop.out hou.out.row hg1 hgq)
        refine hd4 hown1 hg1 hbut hgq ?_;clear hown1 hg1 hbut hgq;intro hown1 hg1 hbut hgq
        replace hlt1:=hide hlt1))
    have hS2:Hid (Zy w1 W.heap.size (some gq) (.slice (some ⟨g,0,none⟩) m cap) st):=hide (by rw [hm.out];exact hS.out)
    go_roundg (mu n st marked)
    case measure=>exact hmu2.out
    case rel=>exact⟨_,_,_,rfl,hdf2,hok2,hS2,hM,hL,hbw1⟩
   | cons t ts =>
    have htin:=(hok.out.inn _ (List.mem_cons_self ..)).2 t (List.mem_cons_self ..)
    obtain⟨tn,rfl⟩:=Int.eq_ofNat_of_zero_le htin.1
    have htn:tn<n:=by have:=htin.2;omega
    clear htin
    obtain⟨bb,off,rfl, -,hC,hCm,r2,htl⟩:=hrest.out.tail
    replace htl:=hide htl
    obtain⟨nt,hnt⟩:=Jn (ts.length)
    rw [List.length_cons,←hnt.out] at r1
    rw [←hnt.out] at hC
    have e4:(((nt+1:Nat):Int)==0)=false:=by rw [beq_eq_false_iff_ne];omega
    unfold maxLen at hCm
    go_upto_region 14 with(fail)
    obtain⟨A',hA'⟩:∃A',A'=(if C=1 then some ⟨bb,off,none⟩ else some ⟨bb,off+1,none⟩:Option Addr):=⟨_,rfl⟩
    rw [←hA']
    have hA2:Hid (0<ts.length→A'=some ⟨bb,off+1,none⟩):=hide (fun h=>by rw [hA',if_neg];have:=hnt.out;omega)
    clear hA'
    have hS1:Hid (Zy (wr.setCell ⟨g,m*2+1,none⟩ (.slice A' nt (C - 1))) W.heap.size u5.ownBlock (.slice (some ⟨g,0,none⟩) (m+1) cap) (((b,ts)) :: st)):=hide (by
     rw [hm.out,hnt.out]
     exact Zy.shrink (by rw [hcs.out,hm.out]) (by rw [←hm.out];exact hrow.out) hrests.out (htl.out _ hA2.out))
    have hbut1:=But.stored (j:=m*2+1) (u := .slice A' nt (C - 1)) hrow.out
    have hmk1:=hbut1.row (by decide) hmk.out
    have hou1:Hid (OwnI (wr.setCell ⟨g,m*2+1,none⟩ (.slice A' nt (C - 1))) W.heap.size u5 out):=hide ⟨hbut1.row (by decide) hou.out.row,hou.out.ok⟩
    have hbel1:=hbel.setCell (p:=⟨g,m*2+1,none⟩) hg1 (.slice A' nt (C - 1))
    obtain⟨w1,hw1⟩:∃w1,w1=wr.setCell ⟨g,m*2+1,none⟩ (.slice A' nt (C - 1)):=⟨_,rfl⟩
    rw [←hw1] at hS1 hmk1 hou1 hbel1⊢
    clear hw1 hbut1 r0 r1 r2 fz hbel hbs hst hrow hrest hrests htl hA2 hmk hou hcs
    have hml:=hok.out.len
    obtain⟨bt,hbt⟩:=Yf (l:=marked) (k:=tn) (by omega)
    have r3:w1.cell? ⟨W.heap.size,tn,none⟩=some (.bool bt):=by rw [World.ownsRow.cellAt hmk1 tn (by omega),List.getElem?_map,hbt.out];rfl
    have fz3:w1.frozen? ⟨W.heap.size,tn,none⟩=false:=World.ownsRow.frozenAt hmk1 tn
    cases bt with
    | true =>
     have hno:¬marked[((tn:Nat):Int).toNat]? = some false:=by rw [Int.toNat_natCast,hbt.out];decide
     have hok2:=hide (dfsOk_skip hok.out)
     have hdf2:Hid (dfs sc ((b,ts) :: st) marked out=R):=hide (by rw [←hdf.out,dfs_skip hno])
     have hmu2:Hid (mu n ((b,ts) :: st) marked<gk):=hide (by rw [←hmu.out];exact mu_skip _ _ _ _ _ _)
     replace hmk1:=hide hmk1
     clear hno
     go_wp2
     go_roundg (mu n ((b,ts) :: st) marked)
     case measure=>exact hmu2.out
     case rel=>exact⟨_,_,_,rfl,hdf2,hok2,hS1,hmk1,hou1,hbel1⟩
    | false =>
     have hyes:marked[((tn:Nat):Int).toNat]? = some false:=by rw [Int.toNat_natCast,hbt.out]
     have hok2:=hide (dfsOk_push hok.out hyes (hsok.out tn).bound)
     have hdf2:Hid (dfs sc ((((tn:Nat):Int),sc tn) :: (b,ts) :: st) (marked.set tn true) out=R):=hide (by rw [←hdf.out,dfs_push hyes,Int.toNat_natCast])
     have hmu2:Hid (mu n ((((tn:Nat):Int),sc tn) :: (b,ts) :: st) (marked.set tn true)<gk):=hide (by
      rw [←hmu.out]
      have:=mu_push (n:=n) (b:=b) (ts:=ts) (l:=sc tn) (st:=st) hyes (succ_len (hsok.out tn))
      rwa [Int.toNat_natCast] at this)
     rw [Int.toNat_natCast] at hok2
     have hbut2:=But.stored (j:=tn) (u := .bool true) hmk1
     have hmk2:=(World.ownsRow.stored hmk1 tn (.bool true)).1
     rw [bmap_set] at hmk2
     have hS2:=hide (hS1.out.but hbut2 (by decide) (by decide))
     have hou2:Hid (OwnI (w1.setCell ⟨W.heap.size,tn,none⟩ (.bool true)) W.heap.size u5 out):=hide ⟨hbut2.row (by decide) hou1.out.row,hou1.out.ok⟩
     have hbel2:=hbel1.setCell (p:=⟨W.heap.size,tn,none⟩) (Nat.le_refl _) (.bool true)
     have hbs2:=hbel2.size
     have hlen2:((b,ts) :: st).length≤2000000:=by rw [List.length_cons,←hm.out];omega
     refine hd2 hmk1 hmk2 ?_;clear hmk1 hmk2;intro hmk1 hmk2
     clear hyes hbut2
     go_wp2_with (first
      | (go_at_call 76
         refine(cS.out tn _ hbel2).mono ?_
         rintro e w3 ⟨c3,rfl,hO3,hb3⟩
         obtain⟨A3,k3,hcf⟩:=Yd hO3.row
         subst hcf
         have hbel3:=hbel2.trans (hb3.mono hbs2)
         have hbs3:=hbel3.size
         have hmk3:=hide (Yc hmk2.out fun k hk=>hb3.block k (Ya hmk2.out hk).2.1)
         have hou3:=hide (hou2.out.kept (w':=w3) fun k _ hk=>hb3.block k hk)
         have hS3:=hS2.out.below hb3
         have h03:=Yab.of_own (no:=u5.ownBlock) hO3 (fun k hk e=>by have:=(Ya hou2.out.row e).2.1;omega)
         obtain⟨xs3,hrow3,hpush3⟩:=hS3.push (b:=tn) h03
         refine hd2 hpush3 hrow3 ?_;clear hpush3 hrow3;intro hpush3 hrow3
         clear hS3 h03)
      | (at_builtin
         refine wpList_append_lies _ rfl (.tmp 70) (.tmp 76) _ rfl W.heap.size 152 j0 _ 2 32 Tryz.underlying153 hj0.out hy0.out hy1.out hy2.out rfl (by omega) (.slice (some ⟨g,0,none⟩) (m+1) cap) _ _ rfl (hrow3.out.alloc _) ⟨w3.heap.size,0,none⟩ 1 1 [.int .i64 tn, .slice A3 (sc tn).length k3] rfl rfl ?c1 ?c2 (by omega) ?c3 ?c4 ?c5 (w3.heap.size+1) ?c6 ?_
         case c1=>exact World.news_of_block (cs := #[.int .i64 tn, .slice A3 (sc tn).length k3]) (t := 152) (fr:=(0,0)) (heap_alloc_new w3 _)
         case c2=>simp [Value.oneCell']
         case c3=>unfold maxLen;omega
         case c4=>omega
         case c5=>first|(simp;omega)|simp|omega
         case c6=>simp
         intro gq cq w4 hown4 hg4 hgq hlt4
         have hbw4:Below W.heap.size W w4:=(hbel3.alloc hbs3 _).grown hg4 (by simp;omega) (fun k hk=>(Ya hrow3.out hk).1)
         have hbut4:=But.grown hrow3.out hg4
         have hS4:=hide (hpush3.out w4 _ hown4 hbut4)
         have hM4:=hide (hbut4.row (by decide) hmk3.out)
         have hL4:Hid (OwnI w4 W.heap.size u5 out):=hide ⟨hbut4.row (by decide) hou3.out.row,hou3.out.ok⟩
         refine hd4 hown4 hg4 hbut4 hgq ?_;clear hown4 hg4 hbut4 hgq;intro hown4 hg4 hbut4 hgq
         replace hlt4:=hide hlt4))
     go_roundg (mu n ((((tn:Nat):Int),sc tn) :: (b,ts) :: st) (marked.set tn true))
     case measure=>exact hmu2.out
     case rel=>exact⟨_,_,_,rfl,hdf2,hok2,hS4,hM4,hL4,hbw4⟩
theorem OwnB.cell {w:World} {B g n c:Nat} {l:List Bool} (h:w.ownsRow B 4 1 (.slice (some ⟨g,0,none⟩) n c) n (l.map Value.bool)) {k:Nat} {b:Bool} (hk:l[k]? = some b) (hn:k<n):w.cell? ⟨g,k,none⟩=some (.bool b):=by
 rw [World.ownsRow.cellAt h k (by omega),List.getElem?_map,hk];rfl
def Yay (n:Nat) (l:List Bool) (w:World) (e:Ending) (w':World):Prop:=∃g,e = .returned (.slice (some ⟨g,0,none⟩) n n)∧w'.ownsRow w.heap.size 4 1 (.slice (some ⟨g,0,none⟩) n n) n (l.map Value.bool)∧Below w.heap.size w w'
theorem reach_any (f : Fun) (c1 c2 : Value) (w : World) (B : Nat) (hB : B ≤ w.heap.size) (hf : RFun.rep w B [.string f.name, c1, .int .i64 f.ret, c2] f) (hs : Zo f) :
  Calls Tryz.prog 54 #[f.v c1 c2] w (Yay f.blocks.length (Yw f.blocks) w):=by
 obtain⟨hp,hb⟩:=Yk (RFun.later hf (Below.refl _ _) hB)
 obtain⟨A1,k1,h1, -, -⟩:=Rp.slice1_open hp
 obtain⟨A2,k2,h2,hm2, -⟩:=Rp.slice1_open hb
 cases h1;cases h2
 clear hp hb
 obtain⟨b0,hb0,hx0,hx1,hx2⟩:=Yh Ybh
 refine hd4 hb0 hx0 hx1 hx2 ?_;clear hb0 hx0 hx1 hx2;intro hb0 hx0 hx1 hx2
 obtain⟨n,hn⟩:=Jn (f.blocks.length)
 have hnle:n≤2000000:=by rw [hn.out];exact hs.blocks
 have hrl:=Qj f.blocks
 obtain⟨O,hO⟩:=Jn (Q4 f.blocks)
 have hRe:Hid (Yw f.blocks=O.foldl (fun l b=>l.set b.toNat true) (List.replicate n false)):=hide (by rw [hn.out,hO.out];rfl)
 have hol:O.length≤n:=by rw [hO.out,hn.out];exact order_len _
 have hob:Hid (∀x,x∈O→0≤x∧x<n):=hide (by rw [hO.out,hn.out];exact(Ybe _).bound)
 clear hrl
 rw [←hn.out] at hf hm2⊢
 obtain⟨W,hW,hwW,hWs,hx⟩:=Y6 w #[.string f.name, .slice A1 f.params.length k1, .int .i64 f.ret, .slice A2 n k2] 32
 have q0:∀w',Below W.heap.size W w'→w'.cell? ⟨w.heap.size,0,none⟩=some (.string f.name):=hx 0 _ rfl
 have q1:∀w',Below W.heap.size W w'→w'.cell? ⟨w.heap.size,1,none⟩=some (.slice A1 f.params.length k1):=hx 1 _ rfl
 have q2:∀w',Below W.heap.size W w'→w'.cell? ⟨w.heap.size,2,none⟩=some (.int .i64 f.ret):=hx 2 _ rfl
 have q3:∀w',Below W.heap.size W w'→w'.cell? ⟨w.heap.size,3,none⟩=some (.slice A2 n k2):=hx 3 _ rfl
 clear hx
 have hws:w.heap.size≤W.heap.size:=by omega
 replace hWs:=hide hWs
 have hself:=Below.refl W.heap.size W
 have cO:Hid (∀w',Below W.heap.size W w'→Calls Tryz.prog 98 #[f.v (.slice A1 f.params.length k1) (.slice A2 n k2)] w' (OrdPost O w')):=hide (fun w' h=>by
  have hh:=hwW.trans (h.mono hws)
  have:=order_any f (.slice A1 f.params.length k1) (.slice A2 n k2) w' w'.heap.size (Nat.le_refl _) (RFun.later hf (hh.mono hB) (Nat.le_trans hB hh.size)) hs
  rwa [←hO.out] at this)
 refine hd3 hs hf hwW ?_;clear hs hf hwW;intro hs hf hwW
 go_enter Tryz.func54,Tryz.ntmps54
 go_wp2_with (at_make;refine wpList_make_full _ rfl (.tmp 8) (.tmp 8) _ rfl W.heap.size 4 b0 _ 1 Tryz.underlying55 hb0.out hx0.out hx1.out .i64 .i64 n n n rfl rfl rfl rfl ?c1 ?c2 (Nat.le_refl _) ?_)
 case c1=>rw [hx2.out];omega
 case c2=>unfold maxLen;omega
 intro w1 hown1 hg1
 have hbel1:=Zr hg1
 have hmk1:=hide (Ybf hown1)
 have hs1:=hbel1.size
 clear hg1 hown1
 go_wp2_with (first|(go_at_call 98;refine(cO.out _ hbel1).mono ?_;rintro e w3 ⟨c,rfl,hO3,hb3⟩;obtain⟨Ac,kc,hcf⟩:=Yd hO3.row;subst hcf))
 have hbel3:=hbel1.trans (hb3.mono hs1)
 have hmk3:=hide (Yc hmk1.out fun k hk=>hb3.block k (Ya hmk1.out hk).2.1)
 have hO3':=hide hO3
 clear hbel1 hb3 hmk1 hs1 hO3
 go_loopw [13] (fun j wr=>∃m:Nat,j = .int .i64 m∧m≤O.length∧Hid (wr.ownsRow W.heap.size 4 1 (.slice (some ⟨W.heap.size,0,none⟩) n n) n (((O.take m).foldl (fun l b=>l.set b.toNat true) (List.replicate n false)).map Value.bool))∧Hid (OwnI wr w1.heap.size (.slice Ac O.length kc) O)∧Below W.heap.size W wr) (fun i _=>O.length - (intOf i).toNat)
 case atStart=>exact⟨0,rfl,Nat.zero_le _,by rw [List.take_zero];exact hmk3,hO3',hbel3⟩
 case round =>
  clear hmk3 hO3' hbel3
  obtain⟨m,rfl,hm,hmk,hou,hbel⟩:=hrel
  by_cases hlt:m<O.length
  ·obtain ⟨x, hx⟩ := Yf (l := O) (k := m) hlt
   obtain⟨xn,rfl⟩:=Int.eq_ofNat_of_zero_le (hob.out x (Jm hx.out)).1
   have hxn:xn<n:=by have:=(hob.out _ (Jm hx.out)).2;omega
   obtain⟨g,rfl⟩:∃g,Ac=some ⟨g,0,none⟩:=by
    rcases hou.out.row.2 with⟨h1,h2⟩|⟨gp,cp,cur,h1,h2,_⟩
    ·omega
    ·cases h1;exact⟨gp,rfl⟩
   have r0:wr.cell? ⟨g,m,none⟩=some (.int .i64 xn):=by rw [World.ownsRow.cellAt hou.out.row m (by omega),List.getElem?_map,hx.out];rfl
   have hml:((O.take m).foldl (fun l b=>l.set b.toNat true) (List.replicate n false)).length=n:=by rw [setAll_len []];simp
   obtain⟨b,hb⟩:=Yf (l:=(O.take m).foldl (fun l b=>l.set b.toNat true) (List.replicate n false)) (k:=xn) (by omega)
   have r1:wr.cell? ⟨W.heap.size,xn,none⟩=some (.bool b):=OwnB.cell hmk.out hb.out hxn
   have f1:wr.frozen? ⟨W.heap.size,xn,none⟩=false:=World.ownsRow.frozenAt hmk.out xn
   have st:=(World.ownsRow.stored hmk.out xn (.bool true)).1
   rw [bmap_set] at st
   have hst:Hid (((O.take m).foldl (fun l b=>l.set b.toNat true) (List.replicate n false)).set xn true=(O.take (m+1)).foldl (fun l b=>l.set b.toNat true) (List.replicate n false)):=hide (by
    rw [List.take_add_one,hx.out];simp)
   rw [hst.out] at st
   replace st:=hide st
   have hbut:=But.stored (j:=xn) (u := .bool true) hmk.out
   have hou2:=hide (show OwnI _ _ _ _ from⟨hbut.row (by decide) hou.out.row,hou.out.ok⟩)
   have hb9:=hide (hbel.setCell (p:=⟨W.heap.size,xn,none⟩) (Nat.le_refl _) (.bool true))
   have hmi:(m:Int)<(O.length:Int):=by omega
   refine hd2 hbut hml ?_;clear hbut hml;intro hbut hml
   go_wp2
   go_roundw
   case rel=>exact⟨m+1,by go_num,hlt,st,hou2,hb9.out⟩
   case measure=>simp [intOf];omega
  ·obtain rfl : m = O.length := by omega
   have hmk9:=hmk.out
   rw [List.take_length,←hRe.out] at hmk9
   replace hmk9:=hide hmk9
   go_wp2
   go_ret
   exact⟨W.heap.size,rfl,Zf hmk9.out hws,hwW.out.trans (hbel.mono hws)⟩
end Go.Proofs.YtamjcafjdioidaaGreat
