/- Texts of the chain, without what is not wanted: TdG. No condition but sizes. -/
import Derived.Test.YtamjcafjdioidaaGreatUw13
set_option linter.unusedVariables false
set_option linter.unusedSimpArgs false
set_option maxRecDepth 100000
set_option maxHeartbeats 12800000
namespace Go.Proofs.YtamjcafjdioidaaGreat
open Go.RowKit
theorem loneF_mem (x : Ins) : ∀ k, (Ybt x k).1 = Ybs x ∨ (Ybt x k).1 ∈ x.args
 | 0 => .inl rfl
 | k+1=>by
  cases h:x.args[k]? with
  | none =>
   have e:Ybt x (k+1)=Ybt x k:=by
    unfold Ybt
    rw [List.take_add_one,h]
    simp
   rw [e]
   exact loneF_mem x k
  | some a =>
   rw [loneF_next h]
   unfold Zh
   split
   ·exact loneF_mem x k
   ·split
    ·exact .inr (Jm h)
    ·split
     ·exact loneF_mem x k
     ·exact loneF_mem x k
theorem loneS_mem {x:Ins} {v:Opd} (h:Ya2 x=some v):v∈x.args:=by
 unfold Ya2 at h
 split at h
 ·rename_i h9
  cases h
  exact(loneF_mem x x.args.length).resolve_left h9.2
 ·cases h
theorem Zo.erase {f:Fun} (h:Zo f) {b i:Nat} {l:List Ins} (hb:f.blocks[b]? = some l):Zo (Ye f (f.blocks.set b (l.eraseIdx i))):=by
 refine⟨h.params,by show(f.blocks.set b _).length≤_;rw [List.length_set];exact h.blocks,fun x hx => ?_⟩
 rcases List.mem_or_eq_of_mem_set hx with h1|h1
 ·exact h.code x h1
 ·have h2 := h.code l (Jm hb)
  rw [h1]
  refine⟨Nat.le_trans (List.eraseIdx_sublist l i).length_le h2.1,fun y hy=>h2.2 y (List.mem_of_mem_eraseIdx hy)⟩
theorem MF.whole {w : World} {N L B : Nat} {f : Fun} {c d x0 x1 x2 x3 : Value} (hbox : w.heap[N]? = some (.cells #[x0, x1, x2, x3] 32 (0, 0))) (hN : N < B) (hB : B ≤ L) (hc : OwnI w B c f.params) (hcL : ∀ k, c.ownBlock = some k → k < L) (hd : OwnK2 w L d f.blocks) (hret : I64 f.ret) (hnm : f.name.size ≤ maxLen) :
  MF ((((w.setCell ⟨N,0,none⟩ (.string f.name)).setCell ⟨N,1,none⟩ c).setCell ⟨N,2,none⟩ (.int .i64 f.ret)).setCell ⟨N,3,none⟩ d) (fun k=>L≤k) N f c d:=by
 have hk:∀k,k≠N→((((w.setCell ⟨N,0,none⟩ (.string f.name)).setCell ⟨N,1,none⟩ c).setCell ⟨N,2,none⟩ (.int .i64 f.ret)).setCell ⟨N,3,none⟩ d).heap[k]? = w.heap[k]? := fun k h=>by
  rw [Below.heap_setCell _ ⟨N,3,none⟩ _ _ h,Below.heap_setCell _ ⟨N,2,none⟩ _ _ h,Below.heap_setCell _ ⟨N,1,none⟩ _ _ h,Below.heap_setCell _ ⟨N,0,none⟩ _ _ h]
 obtain⟨xs,ess,h1⟩:=hd
 have hL:∀k,TB d xs ess k→L≤k:=fun k hk'=>by
  rcases hk' with h2|⟨x,hx,h2⟩|⟨a,z,ha,hz,h2⟩
  ·exact(Ya h1.row h2).1
  ·exact(h1.own_x hx k h2).1
  ·have h3 := h1.own_at (List.mem_flatten.2 ⟨a, ha, hz⟩) k
   rcases h2 with h2|h2
   ·exact(h3.1 h2).1
   ·exact(h3.2 h2).1
 refine⟨Yr (j:=3) (Yr (j:=2) (Yr (j:=1) (Yr (j:=0) hbox))),⟨xs,ess,(h1.mono (Nat.zero_le _)).tb_kept fun k _ h2=>hk k (by have:=hL k h2;omega),hL⟩,⟨Zf (Yc hc.row fun k hv=>hk k (by have:=(Ya hc.row hv).1;omega)) (Nat.zero_le _),hc.ok⟩,fun k hv=>⟨by have:=hcL k hv;omega,by have:=(Ya hc.row hv).1;omega⟩,by omega,hret,hnm⟩
theorem opd_eq3 {a b:Opd} (h1:a.kind=b.kind) (h2:a.num=b.num) (h3:a.bits=b.bits):a=b:=by
 cases a;cases b
 simp_all
theorem tsingle_any {w : World} {T : Nat → Prop} {N : Nat} {f : Fun} {c d : Value} {Cp : Nat → Prop} (hCp : ∀ k, c.ownBlock = some k → Cp k) (h : MF w T N f c d) (hs : Zo f) (hwf : Wf f.blocks) :
  Calls Tryz.prog 26 #[.pointer (some ⟨N,0,none⟩)] w (Y7 w T N f Cp (Qw (Yw f.blocks) f.blocks)):=by
 replace hCp:=hide hCp
 obtain⟨xs,ess,hk,hT⟩:=h.tree
 obtain⟨R,hR⟩:=Jn (Yw f.blocks)
 obtain⟨n,hn⟩:=Jn (f.blocks.length)
 have hnb:n≤2000000:=by rw [hn.out];exact hs.blocks
 have hRl:Hid (R.length=n):=hide (by rw [hR.out,hn.out,Qj])
 obtain⟨res,hres⟩:=Jn (Qw (Yw f.blocks) f.blocks)
 rw [←hres.out]
 obtain⟨Ad,Cd,hdf⟩:=Yd hk.row
 subst hdf
 obtain⟨Ac,Cc,hcf⟩:=Yd h.par.row
 subst hcf
 have hNlt:=h.lt
 have hbox:=h.box
 have b0:=Yg (Yb hbox 0 rfl) hNlt
 have b1:=Yg (Yb hbox 1 rfl) hNlt
 have b2:=Yg (Yb hbox 2 rfl) hNlt
 have b3:=Yg (Yb hbox 3 rfl) hNlt
 have hself:=Below.refl w.heap.size w
 obtain⟨np,hnp⟩:=Jn (f.params.length)
 have hh:=h
 have hkk:=hk
 have cR:Hid (Calls Tryz.prog 54 #[f.v (.slice Ac np Cc) (.slice Ad n Cd)] w (Yay n R w)):=hide (by
  have:=reach_any f _ _ w w.heap.size (Nat.le_refl _) h.rep hs
  rw [←hn.out,←hR.out,←hnp.out] at this
  exact this)
 rw [←hnp.out] at b1
 rw [←hn.out] at b3
 refine hd8 h hh hk hkk hT hbox hwf hs ?_;clear h hh hk hkk hT hbox hwf hs;intro h hh hk hkk hT hbox hwf hs
 go_enter Tryz.func26,Tryz.ntmps26
 go_wp2_with (fail)
 refine cR.out.mono ?_
 rintro e w1 ⟨gr,rfl,hrr,hb1⟩
 obtain⟨-,hrd⟩:=Yas hrr
 refine hd2 hrr hrd ?_;clear hrr hrd;intro hrr hrd
 have hw1s:=hb1.size
 have hself1:=Below.refl w1.heap.size w1
 have h1w:Hid (∀w',Below w1.heap.size w1 w'→Below w.heap.size w w'):=hide (fun w' hb=>hb1.trans (hb.mono hw1s))
 have hno0:Hid (∀j,j<0→sgB R f.blocks j=false):=hide (fun j hj=>by omega)
 clear cR
 go_wp2
 go_loopw [17] (fun s wr=>∃i:Nat,s = .int .i64 i∧i≤n∧Hid (∀j,j<i→sgB R f.blocks j=false)∧Below w1.heap.size w1 wr) (fun s _=>n - (intOf s).toNat)
 case atStart=>exact⟨0,rfl,Nat.zero_le _,hno0,hself1⟩
 case round =>
  clear hno0 hself1
  rename World=>V
  obtain⟨i,rfl,hi,hno,hbV⟩:=hrel
  have hbw:=h1w.out V hbV
  have hVs:=hbV.size
  by_cases hlt:i<n
  ·have hii : (i : Int) < (n : Int) := by omega
   obtain⟨l,hl⟩:=Yf (l:=f.blocks) (k:=i) (by rw [←hn.out];exact hlt)
   obtain⟨rb,hrb⟩:=Yf (l:=R) (k:=i) (by rw [hRl.out];exact hlt)
   have rr:=hrd.out i rb hrb.out
   have rr0:=rr V hbV
   have hwl:=hwf.out l (Jm hl.out)
   obtain⟨x,es,hx,he,hcd⟩:=hk.out.row_at hl.out
   have hgetR:Hid (R.getD i false=rb):=hide (by rw [Jq,hrb.out];rfl)
   have hgetL:Hid (f.blocks.getD i []=l):=hide (by rw [Jq,hl.out];rfl)
   have hstep:Hid (sgB R f.blocks i=false→∀j,j<i+1→sgB R f.blocks j=false):=hide (fun h9 j hj=>by
    rcases Nat.lt_succ_iff_lt_or_eq.1 hj with h1|h1
    ·exact hno.out j h1
    ·rw [h1];exact h9)
   cases rb with
   | false =>
    have hnx:=hide (hstep.out (by unfold sgB;rw [hgetR.out];rfl))
    go_wp2
    go_roundw
    case rel=>exact⟨i+1,by go_num,hlt,hnx,hbV⟩
    case measure=>simp [intOf];omega
   | true =>
    obtain⟨gd,CD9,hgdf, -,hgd⟩:=hk.out.row.form (by rw [←hn.out];omega)
    rw [←hn.out] at hgdf
    cases hgdf
    obtain⟨Ax,Cx,hxf⟩:=Yd hcd.row
    subst hxf
    obtain⟨m,hm⟩:=Jn (l.length)
    have hmb:m≤9223372036854775807:=by rw [hm.out];exact Yae hcd.row
    have hxc:∀w',Below w.heap.size w w'→w'.cell? ⟨gd,i,none⟩=some (.slice Ax m Cx):=by
     have h9:=hk.out
     rw [←hn.out] at h9
     have h8:=h9.blk_cell hx
     rw [←hm.out] at h8
     exact Yg h8 hgd
    have hxcV:=hxc V hbw
    rw [←hm.out] at hx
    have hno2:Hid (∀(j:Nat) y,j<0→l[j]? = some y→y.op=25∧Ya2 y=none):=hide (fun j y hj=>by omega)
    refine hd3 hx he hwl ?_;clear hx he hwl;intro hx he hwl
    have hcdh:=hide hcd
    clear hcd
    go_wp2
    go_loopw [33] (fun s wr=>∃j:Nat,s = .int .i64 j∧j≤m∧Hid (∀(j':Nat) y,j'<j→l[j']? = some y→y.op=25∧Ya2 y=none)∧Below w1.heap.size w1 wr) (fun s _=>m - (intOf s).toNat)
    case atStart=>exact⟨0,rfl,Nat.zero_le _,hno2,hbV⟩
    case round =>
     clear hno2 hbV hVs hbw hxcV rr0
     rename World=>V2
     obtain⟨j,rfl,hj,hnj,hbV2⟩:=hrel
     have hbw2:=h1w.out V2 hbV2
     have hV2s:=hbV2.size
     by_cases hltj:j<m
     ·have hji : (j : Int) < (m : Int) := by omega
      obtain⟨ins,hins⟩:=Yf (l:=l) (k:=j) (by rw [←hm.out];exact hltj)
      obtain⟨gc,CX9,hxf, -,hgcl⟩:=hcdh.out.row.form (by rw [←hm.out];omega)
      rw [←hm.out] at hxf
      cases hxf
      obtain⟨ca,ct,hei,hva,hvt,hok⟩:=hcdh.out.ins_at hins.out
      obtain⟨Aa,Ca,hcaf⟩:=Yd hva.row
      obtain⟨At,Ct,hctf⟩:=Yd hvt.row
      subst hcaf hctf
      obtain⟨na,hna⟩:=Jn (ins.args.length)
      obtain⟨nt,hnt⟩:=Jn (ins.to.length)
      have hnab:na≤9223372036854775807:=by rw [hna.out];exact Yae hva.row
      have hcV:Hid (Z9 V2 0 (.slice (some ⟨gc,0,none⟩) m Cx) l es):=hide (by
       have:=hcdh.out.kept (w':=V2) fun k _ hk=>hbw2.block k hk
       rwa [←hm.out] at this)
      have hei':=hei
      rw [←hna.out,←hnt.out] at hei'
      obtain⟨e0,e1,e2,e3,e4,e5,e6⟩:=cell7 hcV.out hins.out hei'
      obtain⟨X,hX,hwX,hXs,hxx⟩:=Y6 V2 #[.int .i64 ins.op, .int .i64 ins.reg, .int .i64 ins.ty, .int .i64 ins.num, .int .i64 ins.flags, .slice Aa na Ca, .slice At nt Ct] 44
      have x0:∀w',Below X.heap.size X w'→w'.cell? ⟨V2.heap.size,0,none⟩=some (.int .i64 ins.op):=hxx 0 _ rfl
      have x1:∀w',Below X.heap.size X w'→w'.cell? ⟨V2.heap.size,1,none⟩=some (.int .i64 ins.reg):=hxx 1 _ rfl
      have x5:∀w',Below X.heap.size X w'→w'.cell? ⟨V2.heap.size,5,none⟩=some (.slice Aa na Ca):=hxx 5 _ rfl
      have hbX:Below w1.heap.size w1 X:=hbV2.trans (hwX.mono hV2s)
      have hXs':=hbX.size
      have hselfX:=Below.refl X.heap.size X
      have hwXX:=h1w.out X hbX
      have hVX:V2.heap.size<X.heap.size:=by omega
      refine hd7 hei hva hvt hok hwX hXs hX ?_;clear hei hva hvt hok hwX hXs hX;intro hei hva hvt hok hwX hXs hX
      have hei'':=hide hei'
      clear hxx hei'
      go_upto_region 8 with(fail)
      rw [hX.out]
      clear hX e0 e1 e2 e3 e4 e5 e6
      by_cases h25:ins.op=25
      case neg =>
       have g1:(ins.op != 25)=true:=by rw [bne_iff_ne];exact h25
       have hnx:=hide (hstep.out (by
        unfold sgB
        rw [hgetL.out,lone_no (fun j' y h1 h2=>(hnj.out j' y h1 h2).1) (.inr ⟨ins,hins.out,h25⟩) (fun j' y h1 h2=>(hnj.out j' y h1 h2).2)]
        simp))
       replace h25:=hide h25
       go_wp2
       go_roundw
       case rel=>exact⟨i+1,by go_num,hlt,hnx,hbX⟩
       case measure=>simp [intOf];omega
      have g1:(ins.op != 25)=false:=by rw [h25];rfl
      replace h25:=hide h25
      obtain⟨Y1,hY1,hwY1,hY1s,hyy⟩:=Y6 X #[.int .i64 1, .int .i64 ins.reg, .int .u64 0] 62
      obtain⟨Y,hY,hwY,hYs,hvv⟩:=Y6 Y1 #[.int .i64 1, .int .i64 ins.reg, .int .u64 0] 62
      have hvb:=Yu Y1 (.cells #[.int .i64 1, .int .i64 ins.reg, .int .u64 0] 62)
      rw [hY] at hvb
      have hbY:Below X.heap.size X Y:=hwY1.trans (hwY.mono (by omega))
      have hbwY:Below w1.heap.size w1 Y:=hbX.trans (hbY.mono hXs')
      have hYsz:Hid (X.heap.size<Y1.heap.size∧Y1.heap.size<Y.heap.size):=hide (by omega)
      have s0:=hyy 0 _ rfl Y hwY
      have s1:=hyy 1 _ rfl Y hwY
      have s2:=hyy 2 _ rfl Y hwY
      have x0Y:=x0 Y hbY
      have x1Y:=x1 Y hbY
      have x5Y:=x5 Y hbY
      have hQ:Hid (∀q,q<Y1.heap.size→¬(q=Y1.heap.size)):=hide (fun q hq=>by omega)
      have s0o:∀w',Only (fun q=>q=Y1.heap.size) Y.heap.size Y w'→w'.cell? ⟨X.heap.size,0,none⟩=some (.int .i64 1):=Yx s0 (by omega) (by omega)
      have s1o:∀w',Only (fun q=>q=Y1.heap.size) Y.heap.size Y w'→w'.cell? ⟨X.heap.size,1,none⟩=some (.int .i64 ins.reg):=Yx s1 (by omega) (by omega)
      have s2o:∀w',Only (fun q=>q=Y1.heap.size) Y.heap.size Y w'→w'.cell? ⟨X.heap.size,2,none⟩=some (.int .u64 0):=Yx s2 (by omega) (by omega)
      have x1o:∀w',Only (fun q=>q=Y1.heap.size) Y.heap.size Y w'→w'.cell? ⟨V2.heap.size,1,none⟩=some (.int .i64 ins.reg):=Yx x1Y (by omega) (by omega)
      have x5o:∀w',Only (fun q=>q=Y1.heap.size) Y.heap.size Y w'→w'.cell? ⟨V2.heap.size,5,none⟩=some (.slice Aa na Ca):=Yx x5Y (by omega) (by omega)
      have hYw:Hid (∀w',Only (fun q=>q=Y1.heap.size) Y.heap.size Y w'→Below w1.heap.size w1 w'):=hide (fun w' h9=>hbwY.trans (h9.to_below (fun k hk=>by subst hk;omega) (by omega)))
      have hvb0:Hid (Y.heap[Y1.heap.size]? = some (.cells #[.int .i64 (Ybs ins).kind, .int .i64 (Ybs ins).num, .int .u64 (Ybs ins).bits] 62 (0,0))):=hide hvb
      have hl0:Hid ((Ybs ins,true)=Ybt ins 0):=hide rfl
      have hon0:Only (fun q=>q=Y1.heap.size) Y.heap.size Y Y:=Only.refl _ _ _
      have x0Yh:=hide x0Y
      obtain⟨Nv,hNv⟩:=Jn (Y1.heap.size)
      rw [←hNv.out] at s0o s1o s2o x1o x5o hYw hvb0 hon0 hQ
      clear hvv s0 s1 s2 x0Y x1Y x5Y hvb
      have hselfY1:=Below.refl Y1.heap.size Y1
      have y0:Y1.cell? ⟨X.heap.size,0,none⟩=some (.int .i64 1):=hyy 0 _ rfl Y1 hselfY1
      have y1:Y1.cell? ⟨X.heap.size,1,none⟩=some (.int .i64 ins.reg):=hyy 1 _ rfl Y1 hselfY1
      have y2:Y1.cell? ⟨X.heap.size,2,none⟩=some (.int .u64 0):=hyy 2 _ rfl Y1 hselfY1
      clear hyy hselfY1
      refine hd6 hwY1 hwY hY1s hYs hY1 hY ?_;clear hwY1 hwY hY1s hYs hY1 hY;intro hwY1 hwY hY1s hYs hY1 hY
      go_upto_region 10 with(fail)
      rw [hY1.out]
      go_upto_region 11 with(fail)
      rw [hY.out,←hNv.out]
      clear hY1 hY x0 x1 x5 y0 y1 y2 hselfX
      go_wp2
      go_loopw [9,48] (fun s9 s wr=>∃(k:Nat) (v:Opd) (sm:Bool),s9 = .bool sm∧s = .int .i64 k∧k≤na∧Hid ((v,sm)=Ybt ins k)∧Hid (wr.heap[Nv]? = some (.cells #[.int .i64 v.kind, .int .i64 v.num, .int .u64 v.bits] 62 (0,0)))∧Only (fun q=>q=Nv) Y.heap.size Y wr) (fun _ s _=>na - (intOf s).toNat)
      case atStart=>exact⟨0,Ybs ins,true,rfl,rfl,Nat.zero_le _,hl0,hvb0,hon0⟩
      case round =>
       clear hl0 hvb0 hon0
       rename World=>V4
       obtain⟨k,v,sm,rfl,rfl,hk4,hlF,hvc,hon4⟩:=hrel
       have hV4s:=hon4.size
       have v0:=Yb hvc.out 0 rfl
       have v1:=Yb hvc.out 1 rfl
       have v2:=Yb hvc.out 2 rfl
       have c0:=s0o V4 hon4
       have c1:=s1o V4 hon4
       have c2:=s2o V4 hon4
       by_cases hltk:k<na
       ·have hki : (k : Int) < (na : Int) := by omega
        obtain⟨a,ha⟩:=Yf (l:=ins.args) (k:=k) (by rw [←hna.out];exact hltk)
        obtain⟨ga,CA9,haf, -,hgal⟩:=hva.out.row.form (by rw [←hna.out];omega)
        rw [←hna.out] at haf
        cases haf
        have hlN:=hide (loneF_next ha.out)
        have hbw4:=h1w.out V4 (hYw.out V4 hon4)
        have harow:=hva.out.row
        have hrow:=Yc harow (w':=V4) fun q hq=>hbw4.block q (Ya harow hq).2.1
        rw [←hna.out] at hrow
        have hcells:∀q u,(oc a)[q]? = some u→V4.cell? ⟨ga,k*3+q,none⟩=some u:=fun q u hu=>by
         have h3:q<3:=(Js.1 hu).1
         rw [World.ownsRow.cellAt hrow (k*3+q) (by omega),oc_get,show(k*3+q) / 3=k by omega,show(k*3+q) % 3=q by omega,ha.out]
         exact hu
        have a0:V4.cell? ⟨ga,k*3,none⟩=some (.int .i64 a.kind):=hcells 0 _ rfl
        have a1:V4.cell? ⟨ga,k*3+1,none⟩=some (.int .i64 a.num):=hcells 1 _ rfl
        have a2:V4.cell? ⟨ga,k*3+2,none⟩=some (.int .u64 a.bits):=hcells 2 _ rfl
        clear hcells
        refine hd2 hrow harow ?_;clear hrow harow;intro hrow harow
        obtain⟨Z,hZ,hwZ,hZs,hzz⟩:=Y6 V4 #[.int .i64 a.kind, .int .i64 a.num, .int .u64 a.bits] 62
        have hselfZ:=Below.refl Z.heap.size Z
        have z0:Z.cell? ⟨V4.heap.size,0,none⟩=some (.int .i64 a.kind):=hzz 0 _ rfl Z hselfZ
        have z1:Z.cell? ⟨V4.heap.size,1,none⟩=some (.int .i64 a.num):=hzz 1 _ rfl Z hselfZ
        have z2:Z.cell? ⟨V4.heap.size,2,none⟩=some (.int .u64 a.bits):=hzz 2 _ rfl Z hselfZ
        have hNlt4:Nv<V4.heap.size:=(Array.getElem?_eq_some_iff.1 hvc.out).1
        have hvZ:Z.heap[Nv]? = some (.cells #[.int .i64 v.kind, .int .i64 v.num, .int .u64 v.bits] 62 (0,0)):=(hwZ.block Nv hNlt4).trans hvc.out
        have u0v:=Yb hvZ 0 rfl
        have u1v:=Yb hvZ 1 rfl
        have u2v:=Yb hvZ 2 rfl
        have onZ:Only (fun q=>q=Nv) Y.heap.size Y Z:=hon4.then_below (Nat.le_refl _) hwZ
        have d0:=s0o Z onZ
        have d1:=s1o Z onZ
        have d2:=s2o Z onZ
        have hvZh:=hide hvZ
        have fz:∀j,Z.frozen? ⟨Nv,j,none⟩=false:=fun j=>by simp [World.frozen?,hvZ]
        have fz0:=fz 0
        have fz1:=fz 1
        have fz2:=fz 2
        refine hd3 hwZ hZs hZ ?_;clear hwZ hZs hZ;intro hwZ hZs hZ
        clear hzz hselfZ hvZ fz
        go_upto_region 14 with(fail)
        rw [hZ.out]
        clear hZ v0 v1 v2 c0 c1 c2 a0 a1 a2
        by_cases hA:a=Ybs ins
        ·have hst : Hid ((v, sm) = Ybt ins (k + 1)) := hide (by rw [hlN.out, ← hlF.out]; unfold Zh; rw [if_pos hA])
         have hak:a.kind=1:=by rw [hA];rfl
         have han:a.num=ins.reg:=by rw [hA];rfl
         have hab:a.bits=0:=by rw [hA];rfl
         rw [hak] at z0
         rw [han] at z1
         rw [hab] at z2
         refine hd4 hA hak han hab ?_;clear hA hak han hab;intro hA hak han hab
         go_cut [52] (fun s wx=>s = .bool true∧wx=Z)
         case first =>
          go_wp2
          go_meet
          exact⟨by simp,rfl⟩
         case rest =>
          obtain⟨rfl,hw9⟩:=hcut
          subst hw9
          go_wp2
          go_roundw
          case rel=>exact⟨k+1,v,sm,rfl,by go_num,hltk,hst,hvZh,onZ⟩
          case measure=>simp [intOf];omega
        ·go_cut [52] (fun s wx => s = .bool false ∧ wx = Z)
         case first =>
          go_wp2
          all_goals go_meet
          all_goals first
           | exact⟨rfl,rfl⟩
           | exact absurd (opd_eq3 (b:=Ybs ins) (by assumption) (by assumption) (by assumption)) hA
         case rest =>
          obtain⟨rfl,hw9⟩:=hcut
          subst hw9
          by_cases hB:v=Ybs ins
          ·have hst : Hid ((a, sm) = Ybt ins (k + 1)) := hide (by rw [hlN.out, ← hlF.out]; unfold Zh; rw [if_neg hA, if_pos hB])
           have hvk:v.kind=1:=by rw [hB];rfl
           have hvn:v.num=ins.reg:=by rw [hB];rfl
           have hvb':v.bits=0:=by rw [hB];rfl
           rw [hvk] at u0v
           rw [hvn] at u1v
           rw [hvb'] at u2v
           refine hd5 hA hB hvk hvn hvb' ?_;clear hA hB hvk hvn hvb';intro hA hB hvk hvn hvb'
           rename World=>Z
           have hZ3:Hid ((((Z.setCell ⟨Nv,0,none⟩ (.int .i64 a.kind)).setCell ⟨Nv,1,none⟩ (.int .i64 a.num)).setCell ⟨Nv,2,none⟩ (.int .u64 a.bits)).heap[Nv]? = some (.cells #[.int .i64 a.kind, .int .i64 a.num, .int .u64 a.bits] 62 (0,0))):=hide (Yr (j:=2) (Yr (j:=1) (Yr (j:=0) hvZh.out)))
           have onZ3:Only (fun q=>q=Nv) Y.heap.size Y (((Z.setCell ⟨Nv,0,none⟩ (.int .i64 a.kind)).setCell ⟨Nv,1,none⟩ (.int .i64 a.num)).setCell ⟨Nv,2,none⟩ (.int .u64 a.bits)):=((onZ.setCell (p:=⟨Nv,0,none⟩) (.inl rfl) _).setCell (p:=⟨Nv,1,none⟩) (.inl rfl) _).setCell (p:=⟨Nv,2,none⟩) (.inl rfl) _
           go_upto_region 15 with(fail)
           go_cut [56] (fun s wx=>s = .bool true∧wx=Z)
           case first =>
            go_wp2
            go_meet
            exact⟨by simp,rfl⟩
           case rest =>
            obtain⟨rfl,hw9⟩:=hcut
            subst hw9
            go_wp2
            go_roundw
            case rel=>exact⟨k+1,a,sm,rfl,by go_num,hltk,hst,hZ3,onZ3⟩
            case measure=>simp [intOf];omega
          ·rename World => Z
           go_upto_region 15 with(fail)
           go_cut [56] (fun s wx=>s = .bool false∧wx=Z)
           case first =>
            go_wp2
            all_goals go_meet
            all_goals first
             | exact⟨rfl,rfl⟩
             | exact absurd (opd_eq3 (b:=Ybs ins) (by assumption) (by assumption) (by assumption)) hB
           case rest =>
            obtain⟨rfl,hw9⟩:=hcut
            subst hw9
            rename World=>Z
            by_cases hC:a=v
            ·have hst : Hid ((v, sm) = Ybt ins (k + 1)) := hide (by rw [hlN.out, ← hlF.out]; unfold Zh; rw [if_neg hA, if_neg hB, if_neg (by simp [hC])])
             refine hd2 hA hB ?_;clear hA hB;intro hA hB
             subst hC
             go_upto_region 17 with(fail)
             go_cut [61] (fun s wx=>s = .bool false∧wx=Z)
             case first =>
              go_wp2
              go_meet
              exact⟨by simp,rfl⟩
             case rest =>
              obtain⟨rfl,hw9⟩:=hcut
              subst hw9
              go_wp2
              go_roundw
              case rel=>exact⟨k+1,a,sm,rfl,by go_num,hltk,hst,hvZh,onZ⟩
              case measure=>simp [intOf];omega
            ·have hst : Hid ((v, false) = Ybt ins (k + 1)) := hide (by rw [hlN.out, ← hlF.out]; unfold Zh; rw [if_neg hA, if_neg hB, if_pos hC])
             go_upto_region 17 with(fail)
             go_cut [61] (fun s wx=>s = .bool true∧wx=Z)
             case first =>
              go_wp2
              all_goals go_meet
              all_goals first
               | exact⟨rfl,rfl⟩
               | exact absurd (opd_eq3 (by assumption) (by assumption) (by assumption)) hC
             case rest =>
              obtain⟨rfl,hw9⟩:=hcut
              subst hw9
              refine hd3 hA hB hC ?_;clear hA hB hC;intro hA hB hC
              go_wp2
              go_roundw
              case rel=>exact⟨k+1,v,false,rfl,by go_num,hltk,hst,hvZh,onZ⟩
              case measure=>simp [intOf];omega
       ·obtain rfl : na = k := by omega
        have hlS:Hid (Ya2 ins=if sm=true∧v≠Ybs ins then some v else none):=hide (by
         unfold Ya2
         rw [←hna.out,←hlF.out])
        have hbj:=hYw.out V4 hon4
        have hnext:Hid (Ya2 ins=none→∀(j':Nat) y,j'<j+1→l[j']? = some y→y.op=25∧Ya2 y=none):=hide (fun h9 j' y h1 h2=>by
         rcases Nat.lt_succ_iff_lt_or_eq.1 h1 with h3|h3
         ·exact hnj.out j' y h3 h2
         ·subst h3
          rw [hins.out] at h2
          cases h2
          exact⟨h25.out,h9⟩)
        by_cases hsm:sm=true
        case neg =>
         obtain rfl:sm=false:=by simpa using hsm
         have hnx:=hide (hnext.out (by rw [hlS.out];simp))
         clear hsm
         go_wp2
         go_roundw
         case rel=>exact⟨j+1,by go_num,hltj,hnx,hbj⟩
         case measure=>simp [intOf];omega
        subst hsm
        by_cases hB:v=Ybs ins
        case pos =>
         have hnx:=hide (hnext.out (by rw [hlS.out];simp [hB]))
         have hvk:v.kind=1:=by rw [hB];rfl
         have hvn:v.num=ins.reg:=by rw [hB];rfl
         have hvb':v.bits=0:=by rw [hB];rfl
         rw [hvk] at v0
         rw [hvn] at v1
         rw [hvb'] at v2
         refine hd4 hB hvk hvn hvb' ?_;clear hB hvk hvn hvb';intro hB hvk hvn hvb'
         go_upto_region 20 with(fail)
         go_cut [71] (fun s wx=>s = .bool false∧wx=V4)
         case first =>
          go_wp2
          go_meet
          exact⟨by simp,rfl⟩
         case rest =>
          obtain⟨rfl,hw9⟩:=hcut
          subst hw9
          go_wp2
          go_roundw
          case rel=>exact⟨j+1,by go_num,hltj,hnx,hbj⟩
          case measure=>simp [intOf];omega
        have hlv:Hid (Ya2 ins=some v):=hide (by rw [hlS.out,if_pos ⟨rfl,hB⟩])
        go_upto_region 20 with(fail)
        go_cut [71] (fun s wx=>s = .bool true∧wx=V4)
        case first =>
         go_wp2
         all_goals go_meet
         all_goals first
          | exact⟨rfl,rfl⟩
          | exact absurd (opd_eq3 (b:=Ybs ins) (by assumption) (by assumption) (by assumption)) hB
        case rest =>
         obtain⟨rfl,hw9⟩:=hcut
         subst hw9
         rename World=>V4
         replace hB:=hide hB
         have hbw4:=h1w.out V4 hbj
         obtain⟨jj,hjj⟩:=Jn (j+1)
         have hjs:IntKind.i64.wrap ((j:Int)+1)=(jj:Int):=by rw [IntKind.wrap_i64];have:=hjj.out;omega
         have hMV:=hide (h.out.below hbw4)
         have hkV:=hide (hk.out.kept (w':=V4) fun k _ hk=>hbw4.block k hk)
         have hcd4:=hide (hcdh.out.kept (w':=V4) fun k _ hk=>hbw4.block k hk)
         have hbox4:V4.heap[N]? = some (.cells #[.string f.name, .slice Ac np Cc, .int .i64 f.ret, .slice (some ⟨gd,0,none⟩) n Cd] 32 (0,0)):=by
          have h9:=(hbw4.block N hNlt).trans hbox.out
          rwa [←hnp.out,←hn.out] at h9
         have tyC:=(Ya hcdh.out.row rfl).2.2
         have tyD:=(Ya hk.out.row rfl).2.2
         have nCD:gc≠gd:=Z7 tyC tyD (by decide)
         have tyN:∃c,w.heap[N]? = some (.cells c 32 (0,0)):=⟨_,hbox.out⟩
         have nNC:N≠gc:=Z7 tyN tyC (by decide)
         have nND:N≠gd:=Z7 tyN tyD (by decide)
         have hN4:N<V4.heap.size:=(Array.getElem?_eq_some_iff.1 hbox4).1
         have hgd4:gd<V4.heap.size:=(Ya hkV.out.row rfl).2.1
         have n3o:∀w',Only (fun q=>q=gc) V4.heap.size V4 w'→w'.cell? ⟨N,3,none⟩=some (.slice (some ⟨gd,0,none⟩) n Cd):=Yx (Yb hbox4 3 rfl) hN4 nNC
         have gio:∀w',Only (fun q=>q=gc) V4.heap.size V4 w'→w'.cell? ⟨gd,i,none⟩=some (.slice (some ⟨gc,0,none⟩) m Cx):=Yx (hxc V4 hbw4) hgd4 (Ne.symm nCD)
         have gfo:∀w',Only (fun q=>q=gc) V4.heap.size V4 w'→w'.frozen? ⟨gd,i,none⟩=false:=on_free (Zj hkV.out.row i) hgd4 (Ne.symm nCD)
         have hVin:V2.heap.size<Y.heap.size:=by have:=hYsz.out;omega
         have in4:=x1o V4 hon4
         have vv0:=v0
         have vv1:=v1
         have vv2:=v2
         have hNv4:Nv<V4.heap.size:=(Array.getElem?_eq_some_iff.1 hvc.out).1
         have hYV4:=hon4.size
         have hgcw:gc<w.heap.size:=hgcl
         have hgdw:gd<w.heap.size:=hgd
         have hNvw:w.heap.size≤Nv:=by have:=hNv.out;have:=hYsz.out;omega
         have hVw:w.heap.size≤V2.heap.size:=by omega
         have hone:Hid (∀u,u∈cellsOf l es→u.oneCell'=true):=hide (cells_one l es fun e he9=>by
          obtain⟨q,hq⟩:=List.mem_iff_getElem?.1 he9
          have hql:=(Js.1 hq).1
          obtain⟨g1,g2, -⟩:=hcdh.out.inn q _ e (Jg (by rw [←hcdh.out.len];exact hql)) hq
          obtain⟨A1,C1,e1⟩:=Yd g1.row
          obtain⟨A2,C2,e2⟩:=Yd g2.row
          rw [e1,e2]
          exact⟨rfl,rfl⟩)
         refine hd4 tyC tyD tyN hbox4 ?_;clear tyC tyD tyN hbox4;intro tyC tyD tyN hbox4
         clear c0 c1 c2
         go_upto_region 21 with(fail)
         refine Y8 (S:=fun u=>Only (fun q=>q=gc) V4.heap.size V4 u) (T:=fun j=>decide (j<17)) (by kernel_rfl) ?_
         obtain⟨U0,hU0⟩:∃U0,Hid (V4.drew=U0):=⟨_,hide rfl⟩
         have hS0:Hid (Only (fun q=>q=gc) V4.heap.size V4 U0):=hide (by rw [←hU0.out];exact(Only.refl _ _ _).drew)
         have hrow0:Hid (U0.ownsRow 0 44 7 (.slice (some ⟨gc,0,none⟩) m Cx) m (cellsOf l es)):=hide (by
          rw [←hU0.out]
          have h9:=hcd4.out.row
          rw [←hm.out] at h9
          exact h9)
         rw [hU0.out]
         refine Jt (i:=0) hS0.out ?_
         refine Jt (i:=1) hS0.out ?_
         refine Jt (i:=2) hS0.out ?_
         refine Jt (i:=3) hS0.out ?_
         refine Jt (i:=4) hS0.out ?_
         refine Jt (i:=5) hS0.out ?_
         refine Jt (i:=6) hS0.out ?_
         refine Jt (i:=7) hS0.out ?_
         refine Jt (i:=8) hS0.out ?_
         refine Jt (i:=9) hS0.out ?_
         refine Jt (i:=10) hS0.out ?_
         refine Jt (i:=11) hS0.out ?_
         refine Jt (i:=12) hS0.out ?_
         refine Jt (i:=13) hS0.out ?_
         refine Jt (i:=14) hS0.out ?_
         refine Jt (i:=15) hS0.out ?_
         refine Jr (i:=16) fun K hK => ?_
         (try go_simp)
         go_at_call 58
         refine(delete_ins gc m Cx j 0 _ U0 hrow0.out jj hjj.out hltj hone.out).mono ?_
         rintro e U1 ⟨rfl,hr1,ho1⟩
         have hS1:Hid (Only (fun q=>q=gc) V4.heap.size V4 U1):=hide (hS0.out.next (Nat.le_refl _) ho1)
         replace hr1:=hide hr1
         have g1c:=gio U1 hS1.out
         have g1f:=gfo U1 hS1.out
         clear ho1
         refine Jo hK (fun _=>hS1.out) ?_;clear hK K
         refine Jy (i:=17) ?_
         refine Jy (i:=18) ?_
         refine Jr (i:=19) fun K hK => ?_
         go_simp
         refine Jo hK (fun h=>absurd h (by decide)) ?_;clear hK K
         refine Yv (by kernel_rfl) ?_ _
         obtain⟨U2,hU2⟩:∃U2,Hid (U1.setCell ⟨gd,i,none⟩ (.slice (some ⟨gc,0,none⟩) (m - 1) Cx)=U2):=⟨_,hide rfl⟩
         have hdel:=MF.del_ins (w0:=V4) (w:=U1) (b:=i) (i:=j) (gc:=gc) (m:=m) (Cx:=Cx) (l:=l) (es:=es) hMV.out hkV.out hT.out rfl hm.out hl.out hx.out he.out hltj hS1.out hr1.out
         rw [←hn.out,←hnp.out,hU2.out] at hdel
         have hkeep:Hid (∀q,q<V4.heap.size→q≠gc→q≠gd→U2.heap[q]? = V4.heap[q]?):=hide (fun q h1 h2 h3=>by
          rw [←hU2.out,Below.heap_setCell U1 ⟨gd,i,none⟩ _ q h3]
          exact hS1.out.block q h1 h2)
         have x1U:U2.cell? ⟨V2.heap.size,1,none⟩=some (.int .i64 ins.reg):=(World.cell?_of_block (w:=V4) (hkeep.out V2.heap.size (by omega) (by omega) (by omega))).trans in4
         have hvU:U2.heap[Nv]? = some (.cells #[.int .i64 v.kind, .int .i64 v.num, .int .u64 v.bits] 62 (0,0)):=(hkeep.out Nv hNv4 (by omega) (by omega)).trans hvc.out
         have hboxU:U2.heap[N]? = some (.cells #[.string f.name, .slice Ac np Cc, .int .i64 f.ret, .slice (some ⟨gd,0,none⟩) n Cd] 32 (0,0)):=(hkeep.out N hN4 nNC nND).trans hbox4.out
         have hNU:N<U2.heap.size:=(Array.getElem?_eq_some_iff.1 hboxU).1
         have hNvU:Nv<U2.heap.size:=(Array.getElem?_eq_some_iff.1 hvU).1
         have hVU2:V2.heap.size<U2.heap.size:=by have:=hdel.2.size;omega
         have m0:=Yg (Yb hboxU 0 rfl) hNU
         have m1:=Yg (Yb hboxU 1 rfl) hNU
         have m2:=Yg (Yb hboxU 2 rfl) hNU
         have m3:=Yg (Yb hboxU 3 rfl) hNU
         have k0:=Yg (Yb hvU 0 rfl) hNvU
         have k1:=Yg (Yb hvU 1 rfl) hNvU
         have k2:=Yg (Yb hvU 2 rfl) hNvU
         have xo:=Yg x1U hVU2
         have hv64:Hid (I64 v.kind∧I64 v.num):=hide (hva.out.ok v (loneS_mem hlv.out))
         obtain⟨R0,hR0⟩:∃R0,Hid (U2.drew=R0):=⟨_,hide rfl⟩
         have hSR:Hid (Below U2.heap.size U2 R0):=hide (by rw [←hR0.out];exact(Below.refl _ _).drew)
         have hR0s:U2.heap.size≤R0.heap.size:=hSR.out.size
         have cRep:Hid (Calls Tryz.prog 59 #[f.v (.slice Ac np Cc) (.slice (some ⟨gd,0,none⟩) n Cd), .int .i64 ins.reg, .agg #[.int .i64 v.kind, .int .i64 v.num, .int .u64 v.bits]] R0 (TreePost (Ye f (f.blocks.set i (l.eraseIdx j))) (Yaq (rsub ins.reg v) (f.blocks.set i (l.eraseIdx j))) R0)):=hide (replace_any (Ye f (f.blocks.set i (l.eraseIdx j))) ins.reg v hv64.out _ _ R0 R0.heap.size (Nat.le_refl _) (hdel.1.below hSR.out).rep (hs.out.erase hl.out))
         have hfound:Hid (res=some (Yaq (rsub ins.reg v) (f.blocks.set i (l.eraseIdx j)))):=hide (by
          have hph:∀(j':Nat) y,j'≤j→l[j']? = some y→y.op=25:=fun j' y h1 h2=>by
           rcases Nat.lt_or_eq_of_le h1 with h3|h3
           ·exact(hnj.out j' y h3 h2).1
           ·subst h3;rw [hins.out] at h2;cases h2;exact h25.out
          have hlf:=lone_found hins.out hph hlv.out (fun j' y h1 h2=>(hnj.out j' y h1 h2).2)
          rw [hres.out]
          unfold Qw
          rw [←hR.out,Qk (i:=i) (by rw [←hn.out];exact hlt) (by unfold sgB;rw [hgetR.out,hgetL.out,hlf];rfl) hno.out]
          simp only [Option.bind_some,hgetL.out,hlf,hins.out,hlv.out,Option.map_some]
          unfold Yai
          rw [hgetL.out])
         have hret:Hid (I64 f.ret∧f.name.size≤maxLen):=hide ⟨h.out.ret,h.out.nm⟩
         have hdon:Hid (Only (fun k=>k=N∨T k) w.heap.size w U2):=hide ((Only.of_below hbw4).trans ((hdel.2.mono hbw4.size).more fun k _ h9=>Or.inr h9))
         have hboxR0:Hid (R0.heap[N]? = some (.cells #[.string f.name, .slice Ac np Cc, .int .i64 f.ret, .slice (some ⟨gd,0,none⟩) n Cd] 32 (0,0))):=hide ((hSR.out.block N hNU).trans hboxU)
         have hNR0:N<R0.heap.size:=by omega
         have hwR0:w.heap.size≤R0.heap.size:=by have:=hdon.out.size;omega
         refine hd4 hdel hvU hboxU hr1 ?_;clear hdel hvU hboxU hr1;intro hdel hvU hboxU hr1
         clear n3o gio gfo g1c g1f x1U in4 vv0 vv1 vv2 v0 v1 v2
         go_upto_region 22 with(fail)
         rw [hU2.out]
         refine Y8 (S:=fun u=>Below U2.heap.size U2 u) (T:=fun j=>decide (j<8)) (by kernel_rfl) ?_
         rw [hR0.out]
         refine Jt (i:=0) hSR.out ?_
         refine Jt (i:=1) hSR.out ?_
         refine Jt (i:=2) hSR.out ?_
         refine Jt (i:=3) hSR.out ?_
         refine Jt (i:=4) hSR.out ?_
         refine Jt (i:=5) hSR.out ?_
         refine Jt (i:=6) hSR.out ?_
         refine Jr (i:=7) fun K hK => ?_
         (try go_simp)
         go_at_call 59
         refine cRep.out.mono ?_
         rintro e R1 ⟨c9,d9,L9,rfl,hc9,hcL9,hd9,hL9,hbR⟩
         obtain⟨A9,C9,hcf9⟩:=Yd hc9.row
         subst hcf9
         have hd9':=hd9
         obtain⟨xs9,ess9,hk9⟩:=hd9'
         obtain⟨B9,D9,hdf9⟩:=Yd hk9.row
         subst hdf9
         obtain⟨n9,hn9⟩:∃n9,Hid (n9=(Ye f (f.blocks.set i (l.eraseIdx j))).params.length):=⟨_,hide rfl⟩
         obtain⟨m9,hm9⟩:∃m9,Hid (m9=(Yaq (rsub ins.reg v) (f.blocks.set i (l.eraseIdx j))).length):=⟨_,hide rfl⟩
         rw [←hn9.out] at hc9 hcL9⊢
         rw [←hm9.out] at hd9⊢
         have hboxR1:=hide ((hbR.block N hNR0).trans hboxR0.out)
         obtain⟨n0,n1,n2,n3⟩:=bx4 hboxR1.out
         have nf:∀q,R1.frozen? ⟨N,q,none⟩=false:=fun q=>by simp [World.frozen?,hboxR1.out]
         have nf0:=nf 0
         have nf1:=nf 1
         have nf2:=nf 2
         have nf3:=nf 3
         refine hd6 hc9 hcL9 hd9 hL9 hbR hk9 ?_;clear hc9 hcL9 hd9 hL9 hbR hk9;intro hc9 hcL9 hd9 hL9 hbR hk9
         clear nf
         refine hK.out _ _ (fun _=>(hSR.out.trans (hbR.out.mono hR0s))) ?_
         clear hK K
         try simp only [Act.put,List.setIfInBounds_toArray,List.set_cons_zero,List.set_cons_succ]
         refine Jy (i:=8) ?_
         refine Jr (i:=9) fun K hK => ?_
         go_simp
         refine Jo hK (fun h=>absurd h (by decide)) ?_;clear hK K
         refine Yv (by kernel_rfl) ?_ _
         have hfin:Hid (Y7 w T N f Cp res (.returned (.bool true)) ((((R1.setCell ⟨N,0,none⟩ (.string f.name)).setCell ⟨N,1,none⟩ (.slice A9 n9 C9)).setCell ⟨N,2,none⟩ (.int .i64 f.ret)).setCell ⟨N,3,none⟩ (.slice B9 m9 D9))):=hide (by
          have h9:=MF.whole (f:=Ye f (Yaq (rsub ins.reg v) (f.blocks.set i (l.eraseIdx j)))) hboxR1.out hNR0 hL9.out hc9.out hcL9.out hd9.out hret.out.1 hret.out.2
          rw [hfound.out]
          refine⟨fun k=>L9≤k,_,_,fun k hk => .inr (by have:=hL9.out;omega),⟨rfl,h9⟩,?_,fun k hk => .inr (by have h7:=(Ya hc9.out.row hk).1;have:=hdon.out.size;have:=hbR.out.size;have:=hSR.out.size;omega)⟩
          exact(((((hdon.out.trans ((Only.of_below hSR.out).mono hdon.out.size)).trans ((Only.of_below hbR.out).mono hwR0)).setCell (p:=⟨N,0,none⟩) (.inl (.inl rfl)) _).setCell (p:=⟨N,1,none⟩) (.inl (.inl rfl)) _).setCell (p:=⟨N,2,none⟩) (.inl (.inl rfl)) _).setCell (p:=⟨N,3,none⟩) (.inl (.inl rfl)) _)
         go_wp2
         go_ret
         exact hfin.out
     ·obtain rfl : m = j := by omega
      have hnx:=hide (hstep.out (by
       unfold sgB
       rw [hgetL.out,lone_no (fun j' y h1 h2=>(hnj.out j' y h1 h2).1) (.inl hm.out) (fun j' y h1 h2=>(hnj.out j' y h1 h2).2)]
       simp))
      go_wp2
      go_roundw
      case rel=>exact⟨i+1,by go_num,hlt,hnx,hbV2⟩
      case measure=>simp [intOf];omega
  ·obtain rfl : n = i := by omega
   have hfin:Hid (Y7 w T N f Cp res (.returned (.bool false)) V):=hide (Y7.none_ (by
    rw [hres.out]
    unfold Qw
    rw [←hR.out,Zd (by rw [←hn.out];exact hno.out)]
    rfl) h.out (h1w.out V hbV) hCp.out)
   go_wp2
   go_ret
   exact hfin.out
end Go.Proofs.YtamjcafjdioidaaGreat
