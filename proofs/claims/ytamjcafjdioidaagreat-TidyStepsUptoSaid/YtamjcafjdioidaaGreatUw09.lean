/- Texts of the chain, without what is not wanted: TdE, TdR, IcA. No condition but sizes. -/
import Derived.Test.YtamjcafjdioidaaGreatUw08
set_option linter.unusedVariables false
set_option linter.unusedSimpArgs false
set_option maxRecDepth 100000
set_option maxHeartbeats 12800000
namespace Go.Proofs.YtamjcafjdioidaaGreat
open Go.RowKit
theorem twithout_any {w : World} {T : Nat → Prop} {N : Nat} {f : Fun} {c d : Value} (h : MF w T N f c d) (hs : f.blocks.length ≤ 2000000) (hwf : ∀ l, l ∈ f.blocks → ∀ x, x ∈ l → ∀ t, t ∈ x.to → 0 ≤ t ∧ t < f.blocks.length) {G : Nat} {gone : List Bool} (hgl : gone.length = f.blocks.length)
  (hG:w.ownsRow 0 4 1 (.slice (some ⟨G,0,none⟩) f.blocks.length f.blocks.length) f.blocks.length (gone.map Value.bool)) (hGT:¬T G) (hGN:G≠N) :
  Calls Tryz.prog 60 #[.pointer (some ⟨N,0,none⟩), .slice (some ⟨G,0,none⟩) f.blocks.length f.blocks.length] w fun e w'=>e = .returned (.tuple #[])∧∃d',MF w' (fun k=>T k∨w.heap.size≤k) N (Ye f (Yn gone f.blocks)) c d'∧Only (fun k=>k=N∨T k) w.heap.size w w':=by
 have hcut:=h.cut
 obtain⟨T0,hT0⟩:∃T0:Nat→Prop,T0=fun k=>T k∧k<w.heap.size:=⟨_,rfl⟩
 rw [←hT0] at hcut
 have hT0T:Hid (∀k,T0 k→T k∧k<w.heap.size):=hide (fun k hk=>by rw [hT0] at hk;exact hk)
 have hGT0:¬T0 G:=fun h9=>hGT (hT0T.out G h9).1
 have hparc:Hid (∀k,c.ownBlock=some k→¬T k∧k<w.heap.size):=hide (fun k hk=>⟨(h.far k hk).1,(Ya h.par.row hk).2.1⟩)
 have houtT:=h.out
 clear hT0
 obtain⟨xs,ess,hk,hT⟩:=hcut.tree
 obtain⟨n,hn⟩:=Jn (f.blocks.length)
 have hnb:n≤2000000:=by rw [hn.out];exact hs
 obtain⟨Ad,Cd,hdf⟩:=Yd hk.row
 subst hdf
 have hNlt:=h.lt
 have hbox:=h.box
 have c3:=Yb hbox 3 rfl
 have hGlt:G<w.heap.size:=(Ya hG rfl).2.1
 have hgr:Hid (∀k g,gone[k]? = some g→w.cell? ⟨G,k,none⟩=some (.bool g)):=hide (fun k g hg=>OwnB.cell hG hg (by have:=(Js.1 hg).1;omega))
 rw [←hn.out] at c3 hk⊢
 rw [←hn.out] at hgl
 have hout:=h.out
 have hself:=Below.refl w.heap.size w
 have c3b:=Yg c3 hNlt
 obtain⟨i0,hi0,hz0,hz1,hz2⟩:=Yh Z5
 refine hd4 hi0 hz0 hz1 hz2 ?_;clear hi0 hz0 hz1 hz2;intro hi0 hz0 hz1 hz2
 obtain⟨p0,hp0,hp1,hp2,hp3⟩:=Yh cinfo_Block
 refine hd12 hp0 hp1 hp2 hp3 h hcut hk hT hbox hwf hs hgl ?_;clear hp0 hp1 hp2 hp3 h hcut hk hT hbox hwf hs hgl;intro hp0 hp1 hp2 hp3 h hcut hk hT hbox hwf hs hgl
 replace hG:=hide hG
 go_enter Tryz.func60,Tryz.ntmps60
 go_wp2_with (at_make;refine wpList_make_full _ rfl (.tmp 17) (.tmp 17) _ rfl w.heap.size 3 i0 _ 1 Tryz.underlying29 hi0.out hz0.out hz1.out .i64 .i64 n n n rfl rfl rfl rfl ?c1 ?c2 (Nat.le_refl _) ?_)
 case c1=>rw [hz2.out];omega
 case c2=>unfold maxLen;omega
 intro w1 hown1 hg1
 have hb1:=Zr hg1
 have hN0:Hid (OwnN w1 w.heap.size w.heap.size n (atL gone n 0)):=hide (by rw [atL_zero];exact made_zeros hown1)
 have hw1s:w.heap.size<w1.heap.size:=hN0.out.lt.2
 refine hd2 hown1 hg1 ?_;clear hown1 hg1;intro hown1 hg1
 obtain⟨gat,hgat⟩:=Jn (w.heap.size)
 rw [←hgat.out]
 have hN0:Hid (OwnN w1 w.heap.size gat n (atL gone n 0)):=hide (by rw [hgat.out];exact hN0.out)
 have hl0:Hid ((Ys gone 0:Nat)=0):=hide (by simp [Ys])
 clear hself c3
 go_wp2
 go_loopw [5,21] (fun s5 s wr=>∃i:Nat,s5 = .int .i64 (Ys gone i:Int)∧s = .int .i64 i∧i≤n∧Hid (OwnN wr w.heap.size gat n (atL gone n i))∧Below w.heap.size w wr) (fun _ s _=>n - (intOf s).toNat)
 case atStart=>exact⟨0,by rw [hl0.out];rfl,rfl,Nat.zero_le _,hN0,hb1⟩
 case round =>
  clear hN0 hb1
  rename World=>V
  obtain⟨i,rfl,rfl,hi,hNV,hbV⟩:=hrel
  have hVs:=hbV.size
  by_cases hlt:i<n
  ·have hii : (i : Int) < (n : Int) := by omega
   obtain⟨gb,hgb⟩:=Yf (l:=gone) (k:=i) (by rw [hgl.out];exact hlt)
   have hgc:=Yg (hgr.out i gb hgb.out) hGlt
   have hz:(atL gone n i)[i]? = some 0:=by
    unfold atL
    rw [List.getElem?_append_right (by simp),List.length_map,List.length_range,Nat.sub_self,List.getElem?_replicate,if_pos (by omega)]
   have r1:=hNV.out.cell hz
   have r2:=hNV.out.free i
   have hN2:=hide (by have h9:=hNV.out.set_ i (Ys gone i:Int);rwa [atL_next hlt] at h9)
   have hgatw:w.heap.size≤gat:=by have:=hgat.out;omega
   have hbV2:Below w.heap.size w (V.setCell ⟨gat,i,none⟩ (.int .i64 (Ys gone i:Int))):=hbV.setCell hgatw _
   have hnx:=hide (Ybg hgb.out)
   have hle:=leftN_le gone i
   have hgcV:=hgc _ hbV2
   replace hgb:=hide hgb
   clear hz hgc
   cases gb with
   | true =>
    have hnx2:Hid (Ys gone (i+1)=Ys gone i):=hide (by rw [hnx.out];rfl)
    go_wp2
    go_roundw
    case rel=>exact⟨i+1,by rw [hnx2.out],by go_num,hlt,hN2,hbV2⟩
    case measure=>simp [intOf];omega
   | false =>
    have hnx2:Hid (Ys gone (i+1)=Ys gone i+1):=hide (by rw [hnx.out];rfl)
    go_wp2
    go_roundw
    case rel=>exact⟨i+1,by rw [hnx2.out];go_num,by go_num,hlt,hN2,hbV2⟩
    case measure=>simp [intOf];omega
  ·obtain rfl : n = i := by omega
   obtain⟨V1,hV1⟩:=Jn (V)
   rw [←hV1.out] at hNV hbV hVs⊢
   clear hV1
   have c3V:=c3b V1 hbV
   have hatlt:gat<V1.heap.size:=hNV.out.lt.2
   have hTat:¬T0 gat:=fun h9=>by have:=(hT0T.out gat h9).2;have:=hgat.out;omega
   have hT0lt:Hid (∀k,T0 k→k<V1.heap.size):=hide (fun k hk=>by have:=(hT0T.out k hk).2;omega)
   have hNlt1:N<V1.heap.size:=by omega
   have hGlt1:G<V1.heap.size:=by omega
   have c3o:∀w',Only T0 V1.heap.size V1 w'→w'.cell? ⟨N,3,none⟩=some (.slice Ad n Cd):=Yx c3V hNlt1 hcut.out.out
   have hgo:Hid (∀k g,gone[k]? = some g→∀w',Only T0 V1.heap.size V1 w'→w'.cell? ⟨G,k,none⟩=some (.bool g)):=hide (fun k g hg=>Yx (Yg (hgr.out k g hg) hGlt V1 hbV) hGlt1 hGT0)
   have hao:Hid (∀k z,(atL gone n n)[k]? = some z→∀w',Only T0 V1.heap.size V1 w'→w'.cell? ⟨gat,k,none⟩=some (.int .i64 z)):=hide (fun k z hz=>Yx (hNV.out.cell hz) hatlt hTat)
   have hk0:Hid (Yq V1 0 (.slice Ad n Cd) (renB gone f.blocks 0) xs ess):=hide (by rw [renB_zero];exact hk.out.kept fun k _ hk=>hbV.block k hk)
   have hr0:Hid (V1.ownsRow V1.heap.size 41 1 (.slice none 0 0) (Ys gone 0) ((Z1 gone 0).map fun k=>xs.getD k (.slice none 0 0))):=hide ⟨by simp [Z1,Ys], .inl ⟨rfl,by simp [Ys]⟩⟩
   have hl1:Hid ((0:Nat)=Ys gone 0):=hide hl0.out.symm
   have hon0:Only T0 V1.heap.size V1 V1:=Only.refl _ _ _
   replace hNV:=hide hNV
   go_wp2
   go_loopw [7,41] (fun s7 s wr=>∃(b:Nat) (A:Option Addr) (C:Nat),s7 = .slice A (Ys gone b) C∧s = .int .i64 b∧b≤n∧Hid (Yq wr 0 (.slice Ad n Cd) (renB gone f.blocks b) xs ess)∧Hid (wr.ownsRow V1.heap.size 41 1 (.slice A (Ys gone b) C) (Ys gone b) ((Z1 gone b).map fun k=>xs.getD k (.slice none 0 0)))∧Only T0 V1.heap.size V1 wr) (fun _ s _=>n - (intOf s).toNat)
   case atStart=>exact⟨0,none,0,by rw [←hl1.out],rfl,Nat.zero_le _,hk0,hr0,hon0⟩
   case round =>
    clear hk0 hr0 hon0
    rename World=>V2
    obtain⟨b,A,C,rfl,rfl,hb,hkb,hrb,hon⟩:=hrel
    have hV2s:=hon.size
    by_cases hltb:b<n
    ·have hbi : (b : Int) < (n : Int) := by omega
     obtain⟨gb,hgb⟩:=Yf (l:=gone) (k:=b) (by rw [hgl.out];exact hltb)
     obtain⟨l,hl⟩:=Yf (l:=f.blocks) (k:=b) (by rw [←hn.out];exact hltb)
     have hwl:=hide (hwf.out l (Jm hl.out))
     obtain⟨x,es,hx,he,hcd⟩:=hkb.out.row_at (renB_at (gone:=gone) hl.out (Nat.le_refl b))
     obtain⟨gd,CD9,hgdf, -,hgd⟩:=hkb.out.row.form (by rw [Yav,←hn.out];omega)
     rw [Yav,←hn.out] at hgdf
     cases hgdf
     have hxc:=hkb.out.blk_cell hx
     obtain⟨Ax,Cx,hxf⟩:=Yd hcd.row
     subst hxf
     obtain⟨m,hm⟩:=Jn (l.length)
     rw [←hm.out] at hx hxc
     have hmb:m≤9223372036854775807:=by rw [hm.out];exact Yae hcd.row
     have hlenb:=leftN_le gone b
     have c3V2:=c3o V2 hon
     obtain⟨X,hX,hwX,hXs,hxx⟩:=Y6 V2 #[.slice Ax m Cx] 41
     have hbx:=hxx 0 _ rfl
     have honX:Only T0 V1.heap.size V1 X:=hon.then_below (Nat.le_refl _) hwX
     have hkX:=hide (hkb.out.kept (w':=X) fun k _ hk=>hwX.block k hk)
     have hrX:=hide (Yc hrb.out (w':=X) fun k hk=>hwX.block k (Ya hrb.out hk).2.1)
     have gcX:=hgo.out b gb hgb.out X honX
     have hXlt:V2.heap.size<X.heap.size:=by omega
     have hTX:¬T0 V2.heap.size:=fun h9=>by have:=hT0lt.out _ h9;omega
     have hbxo:∀w',Only T0 X.heap.size X w'→w'.cell? ⟨V2.heap.size,0,none⟩=some (.slice Ax m Cx):=Yx (hbx X (Below.refl _ _)) hXlt hTX
     have hXV:Hid (∀w',Only T0 X.heap.size X w'→Only T0 V1.heap.size V1 w'):=hide (fun w' h9=>honX.next (Nat.le_refl _) h9)
     have hkn:=hide (keptN_next hgb.out)
     have hln:=hide (Ybg hgb.out)
     refine hd7 hx he hcd hgb hwX hXs hX ?_;clear hx he hcd hgb hwX hXs hX;intro hx he hcd hgb hwX hXs hX
     clear hxx hbx
     go_upto_region 13 with(fail)
     rw [hX.out]
     clear hX hxc c3V2
     cases gb with
     | true =>
      have hk2:Hid (Yq X 0 (.slice (some ⟨gd,0,none⟩) n Cd) (renB gone f.blocks (b+1)) xs ess):=hide (by rw [←renB_gone hgb.out];exact hkX.out)
      have hl2:Hid (Ys gone (b+1)=Ys gone b):=hide (by rw [hln.out];rfl)
      have hr2:Hid (X.ownsRow V1.heap.size 41 1 (.slice A (Ys gone (b+1)) C) (Ys gone (b+1)) ((Z1 gone (b+1)).map fun k=>xs.getD k (.slice none 0 0))):=hide (by
       rw [hl2.out,hkn.out]
       simpa using hrX.out)
      go_wp2
      go_roundw
      case rel=>exact⟨b+1,A,C,by rw [hl2.out],by go_num,hltb,hk2,hr2,honX⟩
      case measure=>simp [intOf];omega
     | false =>
      have hk3:Hid (Yq X 0 (.slice (some ⟨gd,0,none⟩) n Cd) ((renB gone f.blocks b).set b (renL gone l 0)) xs ess):=hide (by
       rw [renL_zero,Qo (renB_at hl.out (Nat.le_refl b))]
       exact hkX.out)
      have honX0:Only T0 X.heap.size X X:=Only.refl _ _ _
      have hbx0:=hbxo X honX0
      go_wp2
      go_loopw [53] (fun s wr=>∃i:Nat,s = .int .i64 i∧i≤m∧Hid (Yq wr 0 (.slice (some ⟨gd,0,none⟩) n Cd) ((renB gone f.blocks b).set b (renL gone l i)) xs ess)∧Only T0 X.heap.size X wr) (fun s _=>m - (intOf s).toNat)
      case atStart=>exact⟨0,rfl,Nat.zero_le _,hk3,honX0⟩
      case round =>
       clear hk3 honX0 hbx0
       rename World=>V3
       obtain⟨i,rfl,hi3,hki,honi⟩:=hrel
       have hV3s:=honi.size
       by_cases hlti:i<m
       ·have hii3 : (i : Int) < (m : Int) := by omega
        obtain⟨ins,hins⟩:=Yf (l:=l) (k:=i) (by rw [←hm.out];exact hlti)
        have hbset:Hid (((renB gone f.blocks b).set b (renL gone l i))[b]? = some (renL gone l i)):=hide (by rw [Jf (by rw [Yav,←hn.out];exact hltb)])
        have hcdi:=hki.out.inn b _ _ es hx.out hbset.out he.out
        obtain⟨gc,CX9,hgcf, -,hgcl⟩:=hcdi.row.form (by rw [renL_len,←hm.out];omega)
        rw [renL_len,←hm.out] at hgcf
        cases hgcf
        have hri:Hid ((renL gone l i)[i]? = some ins):=hide (renL_at hins.out)
        obtain⟨ca,ct,hei,hva,hvt,hok⟩:=hcdi.ins_at hri.out
        obtain⟨At,Ct,hct⟩:=Yd hvt.row
        subst hct
        obtain⟨nt,hnt⟩:=Jn (ins.to.length)
        rw [←hnt.out] at hei
        have hntb:nt≤9223372036854775807:=by rw [hnt.out];exact Yae hvt.row
        have e6:=hcdi.cell_at hri.out hei (j:=6) rfl
        have hbx3:=hbxo V3 honi
        have hTgc:Hid (∀k,T0 k→k=k):=hide (fun _ _=>rfl)
        have e6o:∀(w':World),w'.heap[gc]? = V3.heap[gc]? →w'.cell? ⟨gc,i*7+6,none⟩=some (.slice At nt Ct):=fun w' h9=>(World.cell?_of_block (w:=V3) h9).trans e6
        have hki0:Hid (Yq V3 0 (.slice (some ⟨gd,0,none⟩) n Cd) ((renB gone f.blocks b).set b ((renL gone l i).set i (renX gone ins 0))) xs ess∧V3.heap[gc]? = V3.heap[gc]?):=hide ⟨by
         rw [renX_zero,Qo hri.out]
         exact hki.out,rfl⟩
        refine hd5 hei hva hvt hok hcdi ?_;clear hei hva hvt hok hcdi;intro hei hva hvt hok hcdi
        have e6h:=hide e6o
        clear e6o
        go_wp2
        go_loopw [63] (fun s wr=>∃k:Nat,s = .int .i64 k∧k≤nt∧Hid (Yq wr 0 (.slice (some ⟨gd,0,none⟩) n Cd) ((renB gone f.blocks b).set b ((renL gone l i).set i (renX gone ins k))) xs ess∧wr.heap[gc]? = V3.heap[gc]?)∧Only T0 X.heap.size X wr) (fun s _=>nt - (intOf s).toNat)
        case atStart=>exact⟨0,rfl,Nat.zero_le _,hide ⟨hki0.out.1,rfl⟩,honi⟩
        case round =>
         clear hki0 e6 hbx3
         rename World=>V4
         obtain⟨k,rfl,hk4,hkk,hon4⟩:=hrel
         have hV4s:=hon4.size
         by_cases hltk:k<nt
         ·have hkk3 : (k : Int) < (nt : Int) := by omega
          obtain⟨t,ht⟩:=Yf (l:=ins.to) (k:=k) (by rw [←hnt.out];exact hltk)
          obtain⟨tn,htn,htnn⟩:∃tn:Nat,t=(tn:Int)∧tn<n:=by
           have h9:=hwl.out ins (Jm hins.out) t (Jm ht.out)
           obtain⟨tn,e⟩:=Int.eq_ofNat_of_zero_le h9.1
           exact⟨tn,e,by have:=hn.out;have:=h9.2;omega⟩
          subst htn
          have htni:(tn:Int)<(n:Int):=by omega
          have hbset4:Hid (((renB gone f.blocks b).set b ((renL gone l i).set i (renX gone ins k)))[b]? = some ((renL gone l i).set i (renX gone ins k))):=hide (by rw [Jf (by rw [Yav,←hn.out];exact hltb)])
          have hcd4:=hkk.out.1.inn b _ _ es hx.out hbset4.out he.out
          have hri4:Hid (((renL gone l i).set i (renX gone ins k))[i]? = some (renX gone ins k)):=hide (by rw [Jf (by rw [renL_len,←hm.out];exact hlti)])
          obtain⟨ca4,ct4,hei4,hva4,hvt4,hok4⟩:=hcd4.ins_at hri4.out
          rw [hei.out] at hei4
          cases hei4
          obtain⟨gt,CT9,htf, -,hgtl⟩:=hvt4.row.form (by rw [renX_to,←hnt.out];omega)
          rw [renX_to,←hnt.out] at htf
          cases htf
          have hTgt:T0 gt:=by
           have h9:=hT.out gt (.inr (.inr ⟨es,_,Jm he.out,Jm hei.out, .inr rfl⟩))
           exact h9
          have q1:V4.cell? ⟨gt,k,none⟩=some (.int .i64 (tn:Int)):=by
           have hvr:=hvt4.row
           rw [renX_to,←hnt.out] at hvr
           rw [World.ownsRow.cellAt hvr k (by omega),List.getElem?_map,renX_at ht.out]
           rfl
          have q2:V4.frozen? ⟨gt,k,none⟩=false:=Zj hvt4.row k
          have q6:=e6h.out V4 hkk.out.2
          have qb:=hbxo V4 hon4
          have qa:=hao.out tn _ (atL_end htnn) V4 (hXV.out V4 hon4)
          have hren:Hid (renT gone (tn:Int)=(Ys gone tn:Int)):=hide (by unfold renT;rw [Int.toNat_natCast])
          have hI:Hid (I64 (Ys gone tn:Int)):=hide (by have:=leftN_le gone tn;exact Ybz (by omega) (by omega))
          have hk5:Hid (∀w',w'=V4.drew→Yq (w'.setCell ⟨gt,k,none⟩ (.int .i64 (Ys gone tn:Int))) 0 (.slice (some ⟨gd,0,none⟩) n Cd) ((renB gone f.blocks b).set b ((renL gone l i).set i (renX gone ins (k+1)))) xs ess∧(w'.setCell ⟨gt,k,none⟩ (.int .i64 (Ys gone tn:Int))).heap[gc]? = V3.heap[gc]?):=hide (fun w' hw'=>by
           have hk6:Yq w' 0 (.slice (some ⟨gd,0,none⟩) n Cd) ((renB gone f.blocks b).set b ((renL gone l i).set i (renX gone ins k))) xs ess:=by rw [hw'];exact hkk.out.1.kept fun _ _ _=>rfl
           have h9:=hk6.put_to (z:=(Ys gone tn:Int)) hbset4.out he.out hri4.out hei.out (by rw [renX_to,←hnt.out];exact hltk) hI.out
           rw [List.set_set,List.set_set,←hren.out,renX_next ht.out] at h9
           refine⟨by rw [←hren.out];exact h9,?_⟩
           have hne:gc≠gt:=Z7 (Ya hcd4.row rfl).2.2 (Ya hvt4.row rfl).2.2 (by decide)
           rw [Below.heap_setCell w' ⟨gt,k,none⟩ _ gc hne,hw']
           exact hkk.out.2)
          refine hd4 hva4 hvt4 hok4 hcd4 ?_;clear hva4 hvt4 hok4 hcd4;intro hva4 hvt4 hok4 hcd4
          go_upto_region 20 with(fail)
          refine Y8 (S:=fun u=>u=V4.drew) (T:=fun j=>decide (j<11)) (by kernel_rfl) ?_
          have q1d:V4.drew.cell? ⟨gt,k,none⟩=some (.int .i64 (tn:Int)):=q1
          have q2d:V4.drew.frozen? ⟨gt,k,none⟩=false:=q2
          have q6d:V4.drew.cell? ⟨gc,i*7+6,none⟩=some (.slice (some ⟨gt,0,none⟩) nt Ct):=q6
          have qbd:V4.drew.cell? ⟨V2.heap.size,0,none⟩=some (.slice (some ⟨gc,0,none⟩) m Cx):=qb
          have qad:V4.drew.cell? ⟨gat,tn,none⟩=some (.int .i64 (Ys gone tn:Int)):=qa
          have hon5:Only T0 X.heap.size X (V4.drew.setCell ⟨gt,k,none⟩ (.int .i64 (Ys gone tn:Int))):=hon4.drew.setCell (p:=⟨gt,k,none⟩) (.inl hTgt) _
          clear q1 q2 q6 qb qa
          obtain⟨U0,hU0⟩:∃U0,V4.drew=U0:=⟨_,rfl⟩
          rw [hU0] at q1d q2d q6d qbd qad hon5⊢
          have hS0:Hid (U0=U0):=hide rfl
          have hk7:=hide (hk5.out U0 hU0.symm)
          clear hk5 hU0
          refine Jt (i:=0) rfl ?_
          refine Jt (i:=1) rfl ?_
          refine Jt (i:=2) rfl ?_
          refine Jt (i:=3) rfl ?_
          refine Jt (i:=4) rfl ?_
          refine Jt (i:=5) rfl ?_
          refine Jt (i:=6) rfl ?_
          refine Jt (i:=7) rfl ?_
          refine Jt (i:=8) rfl ?_
          refine Jt (i:=9) rfl ?_
          refine Jt (i:=10) rfl ?_
          refine Jy (i:=11) ?_
          refine Jr (i:=12) fun K hK => ?_
          go_simp
          refine Jo hK (fun h=>absurd h (by decide)) ?_;clear hK K
          refine Yv (by kernel_rfl) ?_ _
          go_wp2
          go_roundw
          case rel=>exact⟨k+1,by go_num,hltk,hk7,hon5⟩
          case measure=>simp [intOf];omega
         ·obtain rfl : nt = k := by omega
          have hk5:Hid (Yq V4 0 (.slice (some ⟨gd,0,none⟩) n Cd) ((renB gone f.blocks b).set b (renL gone l (i+1))) xs ess):=hide (by
           have h9:=hkk.out.1
           rw [hnt.out,renX_end,renL_next hins.out] at h9
           exact h9)
          go_wp2
          go_roundw
          case rel=>exact⟨i+1,by go_num,hlti,hk5,hon4⟩
          case measure=>simp [intOf];omega
       ·obtain rfl : m = i := by omega
        have hk5:Hid (Yq V3 0 (.slice (some ⟨gd,0,none⟩) n Cd) (renB gone f.blocks (b+1)) xs ess):=hide (by
         have h9:=hki.out
         rw [hm.out,renL_end,renB_next hl.out hgb.out] at h9
         exact h9)
        have hrr3:Hid (V3.ownsRow V1.heap.size 41 1 (.slice A (Ys gone b) C) (Ys gone b) ((Z1 gone b).map fun k=>xs.getD k (.slice none 0 0))):=hide (Yc hrX.out fun k hk=>honi.block k (Ya hrX.out hk).2.1 (fun h9=>by have:=hT0lt.out k h9;have:=(Ya hrX.out hk).1;omega))
        have hbx3:=hbxo V3 honi
        have hl2:Hid (Ys gone (b+1)=Ys gone b+1):=hide (by rw [hln.out];rfl)
        have hxg:Hid (xs.getD b (.slice none 0 0) = .slice Ax m Cx):=hide (by rw [Jq,hx.out];rfl)
        have hV13:V1.heap.size≤V3.heap.size:=by omega
        have honV:=hXV.out V3 honi
        go_wp2_with (first
         | (at_builtin
            refine wpList_append_own _ rfl (.tmp 82) (.tmp 84) _ rfl V1.heap.size 41 p0 _ 1 24 Tryz.underlying30 hp0.out hp1.out hp2.out hp3.out rfl (by omega) (.slice A (Ys gone b) C) _ _ rfl (hrr3.out.alloc _) ⟨V3.heap.size,0,none⟩ 1 1 [.slice Ax m Cx] rfl rfl ?c1 ?c2 ?c3 ?c4 ?c5 ?_
            case c1=>exact World.news_of_block (cs := #[.slice Ax m Cx]) (t := 41) (fr:=(0,0)) (heap_alloc_new V3 _)
            case c2=>simp [Value.oneCell']
            case c3=>unfold maxLen;omega
            case c4=>omega
            case c5=>first|(simp;omega)|simp|omega
            intro v9 w9 hown9 hg9 _
            have hon9:Only T0 V1.heap.size V1 w9:=(honV.alloc hV13 _).trans ⟨hg9.os,hg9.tape,hg9.output,hg9.size,fun k hk hs9=>hg9.block k (by simp;omega) (fun e=>by have:=(Ya hrr3.out e.symm).1;omega)⟩
            have hk9:Hid (Yq w9 0 (.slice (some ⟨gd,0,none⟩) n Cd) (renB gone f.blocks (b+1)) xs ess):=hide (hk5.out.tb_kept fun k h1 h2=>(hg9.block k (by simp;omega) (fun e=>by have:=(Ya hrr3.out e.symm).1;have:=hT0lt.out k (hT.out k h2);omega)).trans (Below.heap_alloc _ _ _ h1))
            obtain⟨A8,C8,hv8⟩:=Yd hown9
            subst hv8
            have hr9:Hid (w9.ownsRow V1.heap.size 41 1 (.slice A8 (Ys gone (b+1)) C8) (Ys gone (b+1)) ((Z1 gone (b+1)).map fun k=>xs.getD k (.slice none 0 0))):=hide (by
             rw [hl2.out,hkn.out,List.map_append]
             simp only [Bool.false_eq_true,if_false,List.map_cons,List.map_nil,hxg.out]
             exact hown9)
            replace hown9:=hide hown9
            replace hg9:=hide hg9))
        go_roundw
        case rel=>exact⟨b+1,A8,C8,by rw [hl2.out],by go_num,hltb,hk9,hr9,hon9⟩
        case measure=>simp [intOf];omega
    ·obtain rfl : n = b := by omega
     have hfin:Hid (∀e,e=Ending.returned (.tuple #[])→e = .returned (.tuple #[])∧∃d',MF (V2.setCell ⟨N,3,none⟩ (.slice A (Ys gone n) C)) (fun k=>T k∨w.heap.size≤k) N (Ye f (Yn gone f.blocks)) c d'∧Only (fun k=>k=N∨T k) w.heap.size w (V2.setCell ⟨N,3,none⟩ (.slice A (Ys gone n) C))):=hide (fun e he=>by
      subst he
      refine⟨rfl, .slice A (Ys gone n) C,?_⟩
      have h1:=hrb.out
      have hkl:(Z1 gone n).length=Ys gone n:=keptN_len (by rw [hgl.out];exact Nat.le_refl _)
      rw [←hkl] at h1
      have h2:=hkb.out.pick (v' := .slice A (Z1 gone n).length C) (keptN_nodup gone n) (fun k hk=>by rw [Yav,←hn.out];exact keptN_lt hk) (Zf h1 (Nat.zero_le _))
      have h3:(Z1 gone n).map (fun b=>(renB gone f.blocks n).getD b [])=Yn gone f.blocks:=by rw [hn.out];exact renB_end
      rw [h3,hkl] at h2
      have hon2:Only T0 w.heap.size w V2:=(Only.of_below hbV).trans (hon.mono (by omega))
      have h4:=hcut.out.store_d (T':=fun k=>T0 k∨w.heap.size≤k) hon2 h2 (fun k hk=>by
       rcases hk with h9|⟨y,hy,h9⟩|⟨a,z,ha,hz,h9⟩
       ·right
        have:=(Ya h1 (by rw [hkl];exact h9)).1
        omega
       ·obtain ⟨q, hq, rfl⟩ := List.mem_map.1 hy
        have hq2:q<xs.length:=by rw [hk.out.lenx,←hn.out];exact keptN_lt hq
        exact .inl (hT.out k (.inr (.inl ⟨_,Jm (Zt hq2),h9⟩)))
       ·obtain ⟨q, hq, rfl⟩ := List.mem_map.1 ha
        have hq2:q<ess.length:=by rw [hk.out.lene,←hn.out];exact keptN_lt hq
        exact .inl (hT.out k (.inr (.inr ⟨_,z,Jm (Zt hq2),hz,h9⟩)))) (fun k hk=>hk)
      refine⟨h4.1.mono (fun k hk=>hk.imp_left fun h9=>(hT0T.out k h9).1) (fun h9 => ?_) (fun k hk h9 => ?_),h4.2.more fun k _ hk=>hk.imp_right fun h9=>(hT0T.out k h9).1⟩
      ·rcases h9 with h9 | h9
       ·exact houtT h9
       ·omega
      ·have h8 := hparc.out k hk
       rcases h9 with h9|h9
       ·exact h8.1 h9
       ·omega)
     have n3:=c3o V2 hon
     have n4:V2.frozen? ⟨N,3,none⟩=false:=by
      have hb2:=(hon.block N hNlt1 hcut.out.out).trans ((hbV.block N hNlt).trans hbox.out)
      simp [World.frozen?,hb2]
     go_wp2
     go_end0
     exact hfin.out _ rfl
def loseIf (gone:List Bool) (b:Nat) (bs:List (List Ins)) (p:Nat):List (List Ins):=if (gone.getD p false && !(gone.getD b false))=true then loseB p bs b else bs
def Qr (gone:List Bool) (b:Nat) (bs:List (List Ins)) (k:Nat):List (List Ins):=(List.range k).foldl (loseIf gone b) bs
def loseAll (gone:List Bool) (n:Nat) (bs:List (List Ins)) (k:Nat):List (List Ins):=(List.range k).foldl (fun bs b=>Qr gone b bs n) bs
def Yal (R:List Bool) (bs:List (List Ins)):Option (List (List Ins)):=if R.any (fun r => !r)=true then some (Yn (R.map fun r => !r) (loseAll (R.map fun r => !r) bs.length bs bs.length)) else none
theorem Q6 (gone:List Bool) (b:Nat) (bs:List (List Ins)) (k:Nat):Qr gone b bs (k+1)=loseIf gone b (Qr gone b bs k) k:=by
 unfold Qr
 rw [List.range_succ,List.foldl_append]
 rfl
theorem Yar (gone:List Bool) (n:Nat) (bs:List (List Ins)) (k:Nat):loseAll gone n bs (k+1)=Qr gone k (loseAll gone n bs k) n:=by
 unfold loseAll
 rw [List.range_succ,List.foldl_append]
 rfl
theorem loseB_len (p:Int) (bs:List (List Ins)) (b:Nat):(loseB p bs b).length=bs.length:=by simp [loseB]
theorem dropP_op (p:Int) (x:Ins):(Q0 p x).op=x.op:=by unfold Q0;split<;>rfl
theorem dropP_to {p:Int} {x:Ins} {t:Int} (h:t∈(Q0 p x).to):t∈x.to:=by
 unfold Q0 at h
 split at h
 ·exact List.mem_of_mem_eraseIdx h
 ·exact h
theorem takeWhile_mem {q : Ins → Bool} : ∀ {l : List Ins} {x : Ins}, x ∈ l.takeWhile q → x ∈ l ∧ q x = true
 | y :: l,x,h=>by
  rw [List.takeWhile_cons] at h
  split at h
  ·rename_i hy
   rcases List.mem_cons.1 h with rfl|h
   ·exact⟨List.mem_cons_self ..,hy⟩
   ·exact⟨List.mem_cons_of_mem _ (takeWhile_mem h).1,(takeWhile_mem h).2⟩
  ·cases h
theorem dropWhile_mem {q:Ins→Bool} {l:List Ins} {x:Ins} (h:x∈l.dropWhile q):x∈l:=(List.dropWhile_sublist q).subset h
theorem loseL_mem {p:Int} {l:List Ins} {y:Ins} (h:y∈Yaw p l):∃x,x∈l∧(y=x∨y=Q0 p x∧x.op=25):=by
 unfold Yaw at h
 rcases List.mem_append.1 h with h1|h1
 ·obtain ⟨x, hx, rfl⟩ := List.mem_map.1 h1
  obtain⟨hx1,hx2⟩:=takeWhile_mem hx
  refine⟨x,hx1, .inr ⟨rfl,?_⟩⟩
  simpa [Ybb] using hx2
 ·exact⟨y,dropWhile_mem h1, .inl rfl⟩
theorem phiLen_drop {p:Int} {x:Ins} (h:x.args.length=x.to.length):(Q0 p x).args.length=(Q0 p x).to.length:=by
 unfold Q0
 split
 ·rename_i hp
  have h1:=List.idxOf_lt_length_of_mem hp
  show(x.args.eraseIdx _).length=(x.to.eraseIdx _).length
  rw [List.length_eraseIdx,List.length_eraseIdx,if_pos (by omega),if_pos h1,h]
 ·exact h
theorem WfB.lose {n:Nat} {l:List Ins} (h:WfB n l) (p:Int):WfB n (Yaw p l):=by
 refine⟨fun e => ?_,fun y hy ho => ?_,fun y hy ho => ?_,fun y hy ho => ?_,fun y hy t ht => ?_⟩
 ·apply h.ne
  have h1:(Yaw p l).length=l.length:=by
   unfold Yaw
   rw [List.length_append,List.length_map,←List.length_append,List.takeWhile_append_dropWhile]
  rw [e] at h1
  exact List.eq_nil_of_length_eq_zero h1.symm
 ·obtain ⟨x, hx, h1 | ⟨h1, h2⟩⟩ := loseL_mem hy
  ·subst h1;exact h.brif y hx ho
  ·subst h1;rw [dropP_op] at ho;omega
 ·obtain ⟨x, hx, h1 | ⟨h1, h2⟩⟩ := loseL_mem hy
  ·subst h1;exact h.br y hx ho
  ·subst h1;rw [dropP_op] at ho;omega
 ·obtain ⟨x, hx, h1 | ⟨h1, h2⟩⟩ := loseL_mem hy
  ·subst h1;exact h.phi y hx ho
  ·subst h1;exact phiLen_drop (h.phi x hx h2)
 ·obtain ⟨x, hx, h1 | ⟨h1, h2⟩⟩ := loseL_mem hy
  ·subst h1;exact h.to_ y hx t ht
  ·subst h1;exact h.to_ x hx t (dropP_to ht)
theorem Wf.loseB {bs:List (List Ins)} (h:Wf bs) (p:Int) (b:Nat):Wf (loseB p bs b):=fun l hl=>by
 rw [loseB_len]
 unfold Go.Proofs.YtamjcafjdioidaaGreat.loseB at hl
 rcases Nat.lt_or_ge b bs.length with hb|hb
 ·rcases List.mem_or_eq_of_mem_set hl with h1 | h1
  ·exact h l h1
  ·rw [h1]
   have h2:bs.getD b []∈bs:=Jm (Zt hb)
   exact(h _ h2).lose p
 ·rw [List.set_eq_of_length_le hb] at hl
  exact h l hl
theorem Wf.loseIf {gone:List Bool} {bs:List (List Ins)} (h:Wf bs) (b p:Nat):Wf (loseIf gone b bs p):=by
 unfold Go.Proofs.YtamjcafjdioidaaGreat.loseIf
 split
 ·exact h.loseB p b
 ·exact h
theorem loseIf_len (gone:List Bool) (bs:List (List Ins)) (b p:Nat):(loseIf gone b bs p).length=bs.length:=by
 unfold loseIf
 split
 ·exact loseB_len _ _ _
 ·rfl
theorem loseRow_wf {gone : List Bool} {bs : List (List Ins)} (h : Wf bs) (b : Nat) : ∀ k, Wf (Qr gone b bs k) ∧ (Qr gone b bs k).length = bs.length
 | 0=>⟨h,rfl⟩
 | k+1=>by
  obtain⟨h1,h2⟩:=loseRow_wf h b k
  rw [Q6]
  exact⟨h1.loseIf b k,by rw [loseIf_len,h2]⟩
theorem loseAll_wf {gone : List Bool} {n : Nat} {bs : List (List Ins)} (h : Wf bs) : ∀ k, Wf (loseAll gone n bs k) ∧ (loseAll gone n bs k).length = bs.length
 | 0=>⟨h,rfl⟩
 | k+1=>by
  obtain⟨h1,h2⟩:=loseAll_wf (gone:=gone) (n:=n) h k
  rw [Yar]
  have h3:=loseRow_wf (gone:=gone) h1 k n
  exact⟨h3.1,by rw [h3.2,h2]⟩
theorem any_next {R:List Bool} {i:Nat} {r:Bool} (h:R[i]? = some r):(R.take (i+1)).any (fun r => !r)=((R.take i).any (fun r => !r) || !r):=by
 rw [List.take_add_one,h,List.any_append]
 simp
def goneL (R:List Bool) (i:Nat):List Bool:=(R.take i).map (fun r => !r)++List.replicate (R.length - i) false
theorem goneL_zero (R:List Bool):goneL R 0=List.replicate R.length false:=by simp [goneL]
theorem goneL_end (R:List Bool):goneL R R.length=R.map fun r => !r:=by simp [goneL]
theorem goneL_len {R:List Bool} {i:Nat} (h:i≤R.length):(goneL R i).length=R.length:=by unfold goneL;simp;omega
theorem goneL_next {R:List Bool} {i:Nat} {r:Bool} (h:R[i]? = some r):(goneL R i).set i (!r)=goneL R (i+1):=by
 have h1:=(Js.1 h).1
 have h3:((R.take i).map fun r => !r).length=i:=by simp;omega
 unfold goneL
 rw [List.set_append_right _ _ (by omega),h3,Nat.sub_self,show R.length - i=R.length - (i+1)+1 by omega,List.replicate_succ,List.set_cons_zero,List.take_add_one,h]
 simp
def CloneIPost (l:List Int) (w:World) (e:Ending) (w':World):Prop:=∃v,e = .returned v∧OwnI w' w.heap.size v l∧Below w.heap.size w w'
def CloneVPost (l:List Opd) (w:World) (e:Ending) (w':World):Prop:=∃v,e = .returned v∧OwnV w' w.heap.size v l∧Below w.heap.size w w'
theorem clone_nums (v : Value) (l : List Int) (w : World) (hr : Z4.rep w w.heap.size [v] l) (hl : l.length ≤ 2000000) :
  Calls Tryz.prog 52 #[v] w (CloneIPost l w):=by
 obtain⟨A,cap,hv,hl9, -⟩:=Rp.slice1_open hr
 cases hv
 obtain⟨-,hn,hok,hs⟩:=ints_src hr
 obtain⟨n,hnl⟩:=Jn (l.length)
 rw [←hnl.out] at hl hn⊢
 obtain⟨i0,hi0,hz0,hz1,hz2⟩:=Yh Z5
 refine hd6 hi0 hz0 hz1 hz2 hok hn ?_;clear hi0 hz0 hz1 hz2 hok hn;intro hi0 hz0 hz1 hz2 hok hn
 have hb0:=(Below.refl w.heap.size w).alloc (Nat.le_refl _) (.cells #[] 3)
 have hsrc:=hide (hs _ hb0)
 have hown0:=hide (World.ownsRow_lit (base:=w.heap.size) (e := 3) (size:=1) w #[] 0 (Nat.le_refl _) (Nat.zero_le _) rfl)
 replace hb0:=hide hb0
 clear hs hr
 cases A with
 | none =>
  have hl0:l = []:=List.eq_nil_of_length_eq_zero (by have:=hn.out rfl;have:=hnl.out;omega)
  have hnil:∀w':World,(binOp .eql 29 (.slice none n cap) (.slice none 0 0)).run Tryz.prog w' = .ok (.bool true) w':=fun w'=>Lib.run_eql_slice_nil w' _ _ _ _ _ _ _ Tryz.underlying29
  replace hl0:=hide hl0
  go_enter Tryz.func52,Tryz.ntmps52
  go_wp2
  go_ret
  exact⟨_,rfl,by rw [hl0.out];exact OwnI.nil_,Below.refl _ _⟩
 | some ad =>
  have hnil:∀w':World,(binOp .eql 29 (.slice (some ad) n cap) (.slice none 0 0)).run Tryz.prog w' = .ok (.bool false) w':=fun w'=>Lib.run_eql_slice_nil w' _ _ _ _ _ _ _ Tryz.underlying29
  go_enter Tryz.func52,Tryz.ntmps52
  go_wp2_with (at_builtin;refine Zv _ rfl (.tmp 5) (.tmp 6) _ rfl w.heap.size 3 i0 _ 1 8 Tryz.underlying29 hi0.out hz0.out hz1.out hz2.out rfl (by omega) (.slice (some ⟨w.heap.size,0,none⟩) 0 0) 0 [] rfl hown0.out (some ad) n cap (l.map fun z=>Value.int .i64 z) rfl (by rw [List.length_map,←hnl.out];omega) (fun e=>by cases e) hsrc.out (ints_one _) (by unfold maxLen;omega) (by omega) (by simp) ?_;intro v1 Y hownY hgY;replace hownY:=hide hownY;replace hgY:=hide hgY)
  go_wp2
  go_ret
  refine⟨v1,rfl,⟨?_,hok.out⟩,hb0.out.grown hgY.out (by simp) (fun k hk=>by simp [Value.ownBlock] at hk;omega)⟩
  have:=hownY.out
  rw [Nat.zero_add,List.nil_append,hnl.out] at this
  exact this
theorem clone_vals (v : Value) (l : List Opd) (w : World) (hr : ROpds.rep w w.heap.size [v] l) (hl : l.length ≤ 2000000) :
  Calls Tryz.prog 53 #[v] w (CloneVPost l w):=by
 obtain⟨A,cap,hv,hl9, -⟩:=Rp.slice_open hr
 cases hv
 obtain⟨-,hn,hok,hs⟩:=opds_src hr
 obtain⟨n,hnl⟩:=Jn (l.length)
 rw [←hnl.out] at hl hn⊢
 obtain⟨i0,hi0,hz0,hz1,hz2⟩:=Yh Q8
 refine hd6 hi0 hz0 hz1 hz2 hok hn ?_;clear hi0 hz0 hz1 hz2 hok hn;intro hi0 hz0 hz1 hz2 hok hn
 have hb0:=(Below.refl w.heap.size w).alloc (Nat.le_refl _) (.cells #[] 62)
 have hsrc:=hide (hs _ hb0)
 have hown0:=hide (World.ownsRow_lit (base:=w.heap.size) (e := 62) (size:=3) w #[] 0 (Nat.le_refl _) (Nat.zero_le _) rfl)
 replace hb0:=hide hb0
 clear hs hr
 cases A with
 | none =>
  have hl0:l = []:=List.eq_nil_of_length_eq_zero (by have:=hn.out rfl;have:=hnl.out;omega)
  have hnil:∀w':World,(binOp .eql 42 (.slice none n cap) (.slice none 0 0)).run Tryz.prog w' = .ok (.bool true) w':=fun w'=>Lib.run_eql_slice_nil w' _ _ _ _ _ _ _ Tryz.underlying42
  replace hl0:=hide hl0
  go_enter Tryz.func53,Tryz.ntmps53
  go_wp2
  go_ret
  exact⟨_,rfl,by rw [hl0.out];exact OwnV.nil_,Below.refl _ _⟩
 | some ad =>
  have hnil:∀w':World,(binOp .eql 42 (.slice (some ad) n cap) (.slice none 0 0)).run Tryz.prog w' = .ok (.bool false) w':=fun w'=>Lib.run_eql_slice_nil w' _ _ _ _ _ _ _ Tryz.underlying42
  go_enter Tryz.func53,Tryz.ntmps53
  go_wp2_with (at_builtin;refine Zv _ rfl (.tmp 5) (.tmp 6) _ rfl w.heap.size 62 i0 _ 3 24 Tryz.underlying42 hi0.out hz0.out hz1.out hz2.out rfl (by omega) (.slice (some ⟨w.heap.size,0,none⟩) 0 0) 0 [] rfl hown0.out (some ad) n cap (l.flatMap oc) rfl (by rw [oc_len,←hnl.out]) (fun e=>by cases e) hsrc.out (oc_one _) (by unfold maxLen;omega) (by omega) (by simp) ?_;intro v1 Y hownY hgY;replace hownY:=hide hownY;replace hgY:=hide hgY)
  go_wp2
  go_ret
  refine⟨v1,rfl,⟨?_,hok.out⟩,hb0.out.grown hgY.out (by simp) (fun k hk=>by simp [Value.ownBlock] at hk;omega)⟩
  have:=hownY.out
  rw [Nat.zero_add,List.nil_append,hnl.out] at this
  exact this
end Go.Proofs.YtamjcafjdioidaaGreat
