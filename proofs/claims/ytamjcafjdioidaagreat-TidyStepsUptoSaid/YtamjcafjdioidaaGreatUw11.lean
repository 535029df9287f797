/- Texts of the chain, without what is not wanted: IcF, RfB, TdH, TdI, InP, Ins. No condition but sizes. -/
import Derived.Deep.MidRow
import Derived.Lib.Overlaps
import Derived.Test.YtamjcafjdioidaaGreatUw10
set_option linter.unusedVariables false
set_option linter.unusedSimpArgs false
set_option maxRecDepth 100000
set_option maxHeartbeats 12800000
namespace Go.Proofs.YtamjcafjdioidaaGreat
open Go.RowKit
def TreePost (f:Fun) (bs:List (List Ins)) (w:World) (e:Ending) (w':World):Prop:=∃c d L,e = .returned (f.v c d)∧OwnI w' w.heap.size c f.params∧(∀k,c.ownBlock=some k→k<L)∧OwnK2 w' L d bs∧w.heap.size≤L∧Below w.heap.size w w'
theorem replace_any (f : Fun) (reg : Int) (v : Opd) (hv64 : I64 v.kind ∧ I64 v.num) (c1 c2 : Value) (w : World) (B : Nat) (hB : B ≤ w.heap.size) (hf : RFun.rep w B [.string f.name, c1, .int .i64 f.ret, c2] f) (hs : Zo f) :
  Calls Tryz.prog 59 #[f.v c1 c2, .int .i64 reg, .agg #[.int .i64 v.kind, .int .i64 v.num, .int .u64 v.bits]] w (TreePost f (Yaq (rsub reg v) f.blocks) w):=by
 obtain⟨hp,hb⟩:=Yk (RFun.later hf (Below.refl _ _) hB)
 obtain⟨A1,k1,h1, -, -⟩:=Rp.slice1_open hp
 obtain⟨A2,k2,h2,hm2, -⟩:=Rp.slice1_open hb
 cases h1;cases h2
 clear hp hb
 obtain⟨n,hn⟩:=Jn (f.blocks.length)
 obtain⟨np,hnp⟩:∃n,Hid (n=f.params.length):=⟨_,hide rfl⟩
 have hnle:n≤2000000:=by rw [hn.out];exact hs.blocks
 rw [←hn.out,←hnp.out] at hf
 rw [←hn.out] at hm2
 rw [←hn.out,←hnp.out]
 obtain⟨W3,hW3,hwW3,hW3s,hx1,hx2,hx3⟩:=boxes3 w #[.string f.name, .slice A1 np k1, .int .i64 f.ret, .slice A2 n k2] #[.int .i64 reg] #[.int .i64 v.kind, .int .i64 v.num, .int .u64 v.bits] 32 3 62
 obtain⟨W,hW⟩:∃W,W3.alloc (.cells #[.string ⟨#[]⟩, .slice none 0 0, .int .i64 0, .slice none 0 0] 32)=W:=⟨_,rfl⟩
 have hR0:W.heap[W3.heap.size]? = some (.cells #[.string ⟨#[]⟩, .slice none 0 0, .int .i64 0, .slice none 0 0] 32 (0,0)):=by rw [←hW];exact Yu _ _
 have hb3:Below W3.heap.size W3 W:=by rw [←hW];exact(Below.refl _ _).alloc (Nat.le_refl _) _
 have hWs:W.heap.size=w.heap.size+4:=by rw [←hW];simp;omega
 have hF0:W.heap[w.heap.size]? = some (.cells #[.string f.name, .slice A1 np k1, .int .i64 f.ret, .slice A2 n k2] 32 (0,0)):=by
  rw [hb3.block _ (by omega),←hW3]
  exact one_alloc (one_alloc (Yu _ _) _) _
 obtain⟨N4,hN4⟩:∃N4,N4=W3.heap.size:=⟨_,rfl⟩
 rw [←hN4] at hR0
 have h4a:w.heap.size<N4:=by omega
 have h4b:N4<W.heap.size:=by omega
 have hwW:Below w.heap.size w W:=hwW3.trans (hb3.mono (by omega))
 have hreg:W.cell? ⟨w.heap.size+1,0,none⟩=some (.int .i64 reg):=hx2 0 _ rfl W hb3
 have hv0:W.cell? ⟨w.heap.size+1+1,0,none⟩=some (.int .i64 v.kind):=hx3 0 _ rfl W hb3
 have hv1:W.cell? ⟨w.heap.size+1+1,1,none⟩=some (.int .i64 v.num):=hx3 1 _ rfl W hb3
 have hv2:W.cell? ⟨w.heap.size+1+1,2,none⟩=some (.int .u64 v.bits):=hx3 2 _ rfl W hb3
 have cC:=hide (icopytree_any f (.slice A1 np k1) (.slice A2 n k2) W B (by omega) (RFun.later hf (hwW.mono hB) (Nat.le_refl _)) hs)
 obtain⟨q0,q1,q2,q3⟩:=box4 hF0
 refine hd12 hN4 hF0 hR0 hreg hv0 hv1 hv2 hs hf hwW hWs hW3s ?_;clear hN4 hF0 hR0 hreg hv0 hv1 hv2 hs hf hwW hWs hW3s;intro hN4 hF0 hR0 hreg hv0 hv1 hv2 hs hf hwW hWs hW3s
 clear hx1 hx2 hx3 hwW3 hb3
 go_enter Tryz.func59,Tryz.ntmps59
 go_wp2_with (fail)
 rw [←hN4.out]
 refine cC.out.mono ?_
 rintro e V ⟨c,d,L,rfl,hOI,hPL,hOK,hL0,hbV⟩
 obtain⟨Am,Cm,hcm⟩:=Yd hOI.row
 subst hcm
 obtain⟨Ad,Cd,hdm⟩:=hOK.form
 subst hdm
 rw [←hnp.out] at hOI hPL⊢
 rw [←hn.out] at hOK⊢
 obtain⟨xs,ess,hK⟩:=hOK
 have hWso:=hWs.out
 have hF1:=(hbV.block w.heap.size (by omega)).trans hF0.out
 obtain⟨s0,s1,s2,s3⟩:=box4 hF1
 obtain⟨g0,g1,g2,g3⟩:=bf4 hF1
 have hF2:=hide (Yr (j:=3) (v := .slice Ad n Cd) (Yr (j:=2) (v := .int .i64 f.ret) (Yr (j:=1) (v := .slice Am np Cm) (Yr (j:=0) (v := .string f.name) hF1))))
 have hbVh:=hide hbV
 refine hd2 hF1 hWso ?_;clear hF1 hWso;intro hF1 hWso
 have hOIh:=hide hOI
 have hPLh:=hide hPL
 have hKh:=hide hK
 have hL0h:=hide hL0
 clear hOI hPL hK hbV hL0
 go_upto_region 2 with(fail)
 obtain⟨X,hX⟩:∃X,X=(((V.setCell ⟨w.heap.size,0,none⟩ (.string f.name)).setCell ⟨w.heap.size,1,none⟩ (.slice Am np Cm)).setCell ⟨w.heap.size,2,none⟩ (.int .i64 f.ret)).setCell ⟨w.heap.size,3,none⟩ (.slice Ad n Cd):=⟨_,rfl⟩
 rw [←hX]
 have hXfar:∀k,k≠w.heap.size→X.heap[k]? = V.heap[k]? := fun k hk=>by rw [hX,Below.heap_setCell _ _ _ _ hk,Below.heap_setCell _ _ _ _ hk,Below.heap_setCell _ _ _ _ hk,Below.heap_setCell _ _ _ _ hk]
 have hXs:X.heap.size=V.heap.size:=by rw [hX];simp [World.setCell]
 have hwXb:Below w.heap.size w X:=by
  rw [hX]
  have h0:=hwW.out.trans (hbVh.out.mono (by have:=hWso.out;omega))
  exact(((h0.setCell (p:=⟨w.heap.size,0,none⟩) (Nat.le_refl _) _).setCell (p:=⟨w.heap.size,1,none⟩) (Nat.le_refl _) _).setCell (p:=⟨w.heap.size,2,none⟩) (Nat.le_refl _) _).setCell (p:=⟨w.heap.size,3,none⟩) (Nat.le_refl _) _
 have hF3:X.heap[w.heap.size]? = some (.cells #[.string f.name, .slice Am np Cm, .int .i64 f.ret, .slice Ad n Cd] 32 (0,0)):=by rw [hX];simpa using hF2.out
 clear hX s0 s1 s2 s3 g0 g1 g2 g3 hF2 q0 q1 q2 q3
 have hWso':=hWso.out
 have hLo:=hL0h.out
 have hsV:=hbVh.out.size
 have hKX:=hKh.out.kept (w':=X) fun k h1 _=>hXfar k (by omega)
 have hOIX:=hide (hOIh.out.kept (w':=X) fun k h1 _=>hXfar k (by omega))
 have hold:∀(N j:Nat) (u:Value),N≠w.heap.size→N<W.heap.size→W.cell? ⟨N,j,none⟩=some u→X.cell? ⟨N,j,none⟩=some u:=fun N j u h1 h2 h3=>by
  rw [World.cell?_of_block (a:=⟨N,j,none⟩) (hXfar N h1),hbVh.out.cell (p:=⟨N,j,none⟩) h2];exact h3
 have hcall:=hide (each_repl f.name f.ret Am np Cm reg v hv64 L (w.heap.size+1) (w.heap.size+1+1) Ad n Cd f.blocks xs ess X hn.out hKX hnle hs.out.code (by omega) (by omega) (by omega) (by omega) (hold _ _ _ (by omega) (by omega) hreg.out) (hold _ _ _ (by omega) (by omega) hv0.out) (hold _ _ _ (by omega) (by omega) hv1.out) (hold _ _ _ (by omega) (by omega) hv2.out))
 have hSL:=hide (fun q (h:ArgB ess q)=>(show L≤q from(by obtain⟨e,he,hq⟩:=h;exact((hKX.own_at he q).1 hq).1)))
 have hR3:X.heap[N4]? = some (.cells #[.string ⟨#[]⟩, .slice none 0 0, .int .i64 0, .slice none 0 0] 32 (0,0)):=(hXfar N4 (by omega)).trans ((hbVh.out.block N4 (by omega)).trans hR0.out)
 obtain⟨s0,s1,s2,s3⟩:=box4 hF3
 have hX9:W.heap.size≤X.heap.size:=by omega
 have hF3h:=hide hF3
 have hR3h:=hide hR3
 have hwXh:=hide hwXb
 have hXsh:=hide hXs
 clear hKX hXfar hold hF3 hR3 hwXb hXs
 go_wp2_with (fail)
 refine hcall.out.mono ?_
 rintro e Z ⟨rfl,hKZ,honZ⟩
 have hNo:∀N,N<L→¬ArgB ess N:=fun N h1 h2=>by have:=hSL.out N h2;omega
 have hF4:=(honZ.block w.heap.size (by omega) (hNo _ (by omega))).trans hF3h.out
 have hR4:=(honZ.block N4 (by omega) (hNo _ (by omega))).trans hR3h.out
 have hOIZ:=hide (show OwnI Z W.heap.size (.slice Am np Cm) f.params from⟨Yc hOIX.out.row fun k hk=>honZ.block k (Ya hOIX.out.row hk).2.1 (hNo k (hPLh.out k hk)),hOIX.out.ok⟩)
 have hwZ:=hide (hwXh.out.trans (honZ.to_below (B':=w.heap.size) (fun k hk=>by have:=hSL.out k hk;omega) hwXh.out.size))
 clear s0 s1 s2 s3
 obtain⟨s0,s1,s2,s3⟩:=box4 hF4
 obtain⟨p0,p1,p2,p3⟩:=box4 hR4
 obtain⟨g0,g1,g2,g3⟩:=bf4 hR4
 refine hd3 hKZ hF4 hR4 ?_;clear hKZ hF4 hR4;intro hKZ hF4 hR4
 clear hcall honZ hNo
 go_wp2
 have hkeep:∀(v0 v1 v2 v3:Value) (k:Nat),W.heap.size≤k→((((Z.setCell ⟨N4,0,none⟩ v0).setCell ⟨N4,1,none⟩ v1).setCell ⟨N4,2,none⟩ v2).setCell ⟨N4,3,none⟩ v3).heap[k]? = Z.heap[k]? := fun v0 v1 v2 v3 k hk=>by
  have hne:k≠N4:=by omega
  rw [Below.heap_setCell _ _ _ _ hne,Below.heap_setCell _ _ _ _ hne,Below.heap_setCell _ _ _ _ hne,Below.heap_setCell _ _ _ _ hne]
 refine bodyPost_ret (v:=f.v (.slice Am np Cm) (.slice Ad n Cd)) (by simp [results,Tryz.results59,go_sem,p0,p1,p2,p3,g0,g1,g2,g3]) rfl ⟨_,_,L,rfl,(hOIZ.out.kept fun k h1 _=>hkeep _ _ _ _ k h1).mono (by omega),fun k hk=>hPLh.out k hk,⟨xs,ess,hKZ.out.kept fun k h1 _=>hkeep _ _ _ _ k (by omega)⟩,by omega,?_⟩
 exact(((hwZ.out.setCell (p:=⟨N4,0,none⟩) (by show w.heap.size≤N4;omega) _).setCell (p:=⟨N4,1,none⟩) (by show w.heap.size≤N4;omega) _).setCell (p:=⟨N4,2,none⟩) (by show w.heap.size≤N4;omega) _).setCell (p:=⟨N4,3,none⟩) (by show w.heap.size≤N4;omega) _
def GivesB (B:Nat) (f:Fun) (bs:List (List Ins)) (w:World) (e:Ending) (w':World):Prop:=∃c d,e = .returned (f.v c d)∧OwnI w' B c f.params∧OwnK w' B d bs∧Below w.heap.size w w'
def GivesF (f:Fun) (bs:List (List Ins)) (w:World) (e:Ending) (w':World):Prop:=GivesB w.heap.size f bs w e w'
theorem own_rep {w:World} {B:Nat} {f:Fun} {bs:List (List Ins)} {c d:Value} (h1:OwnI w B c f.params) (h2:OwnK w B d bs) (hr:I64 f.ret) (hn:f.name.size≤maxLen):RFun.rep w w.heap.size [.string f.name,c, .int .i64 f.ret,d] (Ye f bs):=⟨c,d,rfl,h1.rep,h2.rep,hr,hn⟩
theorem Qh {w:World} {b:Nat} {e:TypeId} {size:Nat} {v:Value} {n:Nat} {xs:List Value} (h:w.ownsRow 0 e size v n xs) (hb:∀k,v.ownBlock=some k→b≤k):w.ownsRow b e size v n xs:=by
 refine⟨h.1,?_⟩
 rcases h.2 with hn|⟨g,cap,cur,rfl, -,h1,rest⟩
 ·exact .inl hn
 ·exact .inr ⟨g,cap,cur,rfl,hb g rfl,h1,rest⟩
theorem Yq.raise {w:World} {b:Nat} {d:Value} {bs:List (List Ins)} {xs:List Value} {ess:List (List (Value×Value))} (h:Yq w 0 d bs xs ess) (hb:∀k,TB d xs ess k→b≤k):Yq w b d bs xs ess:=by
 refine⟨Qh h.row fun k hk=>hb k (.inl hk),h.lene,fun i x l es hx hl he => ?_,h.ndx,h.nda,h.ndt⟩
 have hc:=h.inn i x l es hx hl he
 refine⟨hc.len,Qh hc.row fun k hk=>hb k (.inr (.inl ⟨x,Jm hx,hk⟩)),fun j y e hy hee => ?_,hc.nda,hc.ndt⟩
 obtain⟨g1,g2,g3⟩:=hc.inn j y e hy hee
 exact⟨⟨Qh g1.row fun k hk=>hb k (.inr (.inr ⟨es,e,Jm he,Jm hee, .inl hk⟩)),g1.ok⟩,⟨Qh g2.row fun k hk=>hb k (.inr (.inr ⟨es,e,Jm he,Jm hee, .inr hk⟩)),g2.ok⟩,g3⟩
theorem Yq.write {w w' : World} {d : Value} {bs : List (List Ins)} {xs : List Value} {ess : List (List (Value × Value))} (h : Yq w 0 d bs xs ess) {b i gc n C : Nat} {l : List Ins} {es : List (Value × Value)} {ins x : Ins} {ca ct c' t' : Value}
  (hb:bs[b]? = some l) (hx:xs[b]? = some (.slice (some ⟨gc,0,none⟩) n C)) (he:ess[b]? = some es) (hi:l[i]? = some ins) (hei:es[i]? = some (ca,ct)) (hV:OwnV w 0 c' x.args) (hI:OwnI w 0 t' x.to) (hok:Ybr x)
  (hg':w'.heap[gc]? = (Ybc w gc (i*7) x c' t').heap[gc]?) (ho:∀k,k≠gc→(TB d xs ess k∨c'.ownBlock=some k∨t'.ownBlock=some k)→w'.heap[k]? = w.heap[k]?) {b0:Nat} (hb0:∀k,(TB d xs ess k∨c'.ownBlock=some k∨t'.ownBlock=some k)→b0≤k) :
  OwnK w' b0 d (bs.set b (l.set i x)):=by
 have hcd:=h.inn b _ l es hx hb he
 have hlen:=hcd.len
 have hbl:=(Js.1 hb).1
 have hn:n=l.length:=by
  rcases hcd.row.2 with⟨e, -⟩|⟨g,cap,cur,e, -⟩
  ·cases e
  ·cases e;rfl
 have hgc:=(Ya hcd.row rfl).2.2
 have tV:∀ {v:Value} {a:List Opd},OwnV w 0 v a→(∀k,v.ownBlock=some k→TB d xs ess k∨c'.ownBlock=some k∨t'.ownBlock=some k)→OwnV w' b0 v a:=fun {v a} h9 h8=>⟨Qh (Yc h9.row fun k hk=>ho k (Z7 (Ya h9.row hk).2.2 hgc (by decide)) (h8 k hk)) fun k hk=>hb0 k (h8 k hk),h9.ok⟩
 have tI:∀ {v:Value} {a:List Int},OwnI w 0 v a→(∀k,v.ownBlock=some k→TB d xs ess k∨c'.ownBlock=some k∨t'.ownBlock=some k)→OwnI w' b0 v a:=fun {v a} h9 h8=>⟨Qh (Yc h9.row fun k hk=>ho k (Z7 (Ya h9.row hk).2.2 hgc (by decide)) (h8 k hk)) fun k hk=>hb0 k (h8 k hk),h9.ok⟩
 have hrow:w'.ownsRow b0 44 7 (.slice (some ⟨gc,0,none⟩) n C) n (cellsOf (l.set i x) (es.set i (c',t'))):=by
  have h1:w.ownsRow 0 44 7 (.slice (some ⟨gc,0,none⟩) n C) n (cellsOf l es):=by
   have:=hcd.row
   rwa [←hn] at this
  have h2:=(World.ownsRow.stored (World.ownsRow.stored (World.ownsRow.stored (World.ownsRow.stored (World.ownsRow.stored (World.ownsRow.stored (World.ownsRow.stored h1 (i*7) (.int .i64 x.op)).1 (i*7+1) (.int .i64 x.reg)).1 (i*7+2) (.int .i64 x.ty)).1 (i*7+3) (.int .i64 x.num)).1 (i*7+4) (.int .i64 x.flags)).1 (i*7+5) c').1 (i*7+6) t').1
  rw [cells_set7 hi hei hlen] at h2
  have h3:(Ybc w gc (i*7) x c' t').ownsRow 0 44 7 (.slice (some ⟨gc,0,none⟩) n C) n (cellsOf (l.set i x) (es.set i (c',t'))):=h2
  exact Qh (Yc h3 fun k hk=>by cases hk;exact hg') fun k hk=>hb0 k (.inl (.inr (.inl ⟨_,Jm hx,hk⟩)))
 have hlx:=h.lenx
 have hle:=h.lene
 refine⟨xs,by rw [List.length_set,hlx],?_,fun j y m hy hm => ?_⟩
 ·rw [List.length_set]
  exact Qh (Yc h.row fun k hk=>ho k (Z7 (Ya h.row hk).2.2 hgc (by decide)) (.inl (.inl hk))) fun k hk=>hb0 k (.inl (.inl hk))
 ·by_cases e : j = b
  ·subst e
   rw [Jf hbl] at hm
   rw [hx] at hy
   cases hm;cases hy
   have hlen2:(es.set i (c',t')).length=(l.set i x).length:=by simp [hlen]
   refine⟨List.zipWith (fun x e=>insC x e.1 e.2) (l.set i x) (es.set i (c',t')),by rw [List.length_zipWith,hlen2,Nat.min_self],?_,fun q cs z hq hz => ?_⟩
   ·rw [List.length_set, ← hn]
    exact hrow
   ·have hq2 : (es.set i (c', t'))[q]? = some ((es.set i (c', t'))[q]'(by rw [hlen2]; exact (Js.1 hz).1)) := Jg _
    rw [List.getElem?_zipWith,hz,hq2] at hq
    simp only [Option.some.injEq] at hq
    refine⟨_,_,hq.symm,?_⟩
    generalize (es.set i (c',t'))[q]'(by rw [hlen2];exact(Js.1 hz).1)=ee at hq2⊢
    by_cases e2:q=i
    ·subst e2
     rw [Jf (Js.1 hi).1] at hz
     rw [Jf (by rw [hlen];exact(Js.1 hi).1)] at hq2
     cases hz;cases hq2
     exact⟨tV hV fun k hk => .inr (.inl hk),tI hI fun k hk => .inr (.inr hk),hok⟩
    ·rw [Je (Ne.symm e2)] at hz hq2
     obtain⟨g1,g2,g3⟩:=hcd.inn q z ee hz hq2
     exact⟨tV g1 fun k hk => .inl (.inr (.inr ⟨es,ee,Jm he,Jm hq2, .inl hk⟩)),tI g2 fun k hk => .inl (.inr (.inr ⟨es,ee,Jm he,Jm hq2, .inr hk⟩)),g3⟩
  ·rw [Je (Ne.symm e)] at hm
   have hj:ess[j]? = some (ess[j]'(by rw [hle];exact(Js.1 hm).1)):=Jg _
   generalize ess[j]'(by rw [hle];exact(Js.1 hm).1)=ej at hj
   have hcj:=h.inn j y m _ hy hm hj
   refine⟨List.zipWith (fun(x:Ins) (e:Value×Value)=>insC x e.1 e.2) m ej,by rw [List.length_zipWith,hcj.len,Nat.min_self],Qh (Yc hcj.row fun k hk=>ho k (fun e9=>nd_ne h.ndx hx hy (Ne.symm e) rfl (e9▸hk)) (.inl (.inr (.inl ⟨y,Jm hy,hk⟩)))) fun k hk=>hb0 k (.inl (.inr (.inl ⟨y,Jm hy,hk⟩))),fun q cs z hq hz => ?_⟩
   have hq2:ej[q]? = some (ej[q]'(by rw [hcj.len];exact(Js.1 hz).1)):=Jg _
   generalize ej[q]'(by rw [hcj.len];exact(Js.1 hz).1)=ee at hq2
   rw [List.getElem?_zipWith,hz,hq2] at hq
   simp only [Option.some.injEq] at hq
   obtain⟨g1,g2,g3⟩:=hcj.inn q z _ hz hq2
   exact⟨_,_,hq.symm,tV g1 fun k hk => .inl (.inr (.inr ⟨ej,ee,Jm hj,Jm hq2, .inl hk⟩)),tI g2 fun k hk => .inl (.inr (.inr ⟨ej,ee,Jm hj,Jm hq2, .inr hk⟩)),g3⟩
theorem Yci {w X : World} {V : World} {f : Fun} {c d : Value} {L : Nat} (hc : OwnI V w.heap.size c f.params) (hcL : ∀ k, c.ownBlock = some k → k < L) (hd : OwnK2 V L d f.blocks) (hL : w.heap.size ≤ L) (hb : Below w.heap.size w V) (hX : X = V.alloc (.cells #[.string f.name, c, .int .i64 f.ret, d] 32)) (hret : I64 f.ret) (hnm : f.name.size ≤ maxLen) :
  MF X (fun k=>L≤k∧k<V.heap.size) V.heap.size f c d∧Below w.heap.size w X∧V.heap.size<X.heap.size:=by
 have hbX:Below V.heap.size V X:=by rw [hX];exact(Below.refl _ _).alloc (Nat.le_refl _) _
 have hbox:X.heap[V.heap.size]? = some (.cells #[.string f.name,c, .int .i64 f.ret,d] 32 (0,0)):=by rw [hX];exact heap_alloc_new _ _
 obtain⟨xs,ess,h1⟩:=hd
 refine⟨⟨hbox,⟨xs,ess,(h1.kept fun k _ hk=>hbX.block k hk).mono (Nat.zero_le _),fun k hk => ?_⟩,⟨Zf (Yc hc.row fun k hk=>hbX.block k (Ya hc.row hk).2.1) (Nat.zero_le _),hc.ok⟩,fun k hk=>⟨fun h9 => ?_,?_⟩,fun h9 => ?_,hret,hnm⟩,hb.trans (hbX.mono hb.size),(Array.getElem?_eq_some_iff.1 hbox).1⟩
 ·refine ⟨?_, (h1.mono (Nat.zero_le _)).tb_lt hk⟩
  rcases hk with h2|⟨x,hx,h2⟩|⟨es,e,he,hee,h2⟩
  ·exact(Ya h1.row h2).1
  ·exact(h1.own_x hx k h2).1
  ·have h3 := h1.own_at (List.mem_flatten.2 ⟨es, he, hee⟩) k
   rcases h2 with h2|h2
   ·exact(h3.1 h2).1
   ·exact(h3.2 h2).1
 ·have:=hcL k hk;have:=h9.1;omega
 ·have:=(Ya hc.row hk).2.1;omega
 ·have:=h9.2;omega
theorem rhas_step {l:List Int} {i:Nat} {x t:Int} (hx:l[i]? = some x):decide (t∈l.take (i+1))=(decide (t∈l.take i)||(x==t)):=by
 rw [List.take_add_one,hx,Bool.eq_iff_iff]
 simp only [Option.toList_some,decide_eq_true_eq,List.mem_append,List.mem_singleton,Bool.or_eq_true,beq_iff_eq]
 exact⟨fun h=>h.imp id Eq.symm,fun h=>h.imp id Eq.symm⟩
theorem rhas_any (A : Option Addr) (C : Nat) (l : List Int) (t : Int) (w : World) (B : Nat) (hlen : l.length ≤ 4000000) (h : OwnI w B (.slice A l.length C) l) :
  Calls Tryz.prog 83 #[.slice A l.length C, .int .i64 t] w fun e w'=>e = .returned (.bool (decide (t∈l)))∧w'=w:=by
 obtain⟨A',C',he,hx⟩:=int_reads h
 cases he
 obtain⟨m,hm⟩:=Jn (l.length)
 rw [←hm.out] at hlen⊢
 have hself:=hide (Below.refl w.heap.size w)
 have h0:Hid (decide (t∈l.take 0)=false):=hide (by simp)
 refine hd2 hx h ?_;clear hx h;intro hx h
 go_enter Tryz.func83,Tryz.ntmps83
 go_wp2
 go_loopw [5] (fun s wr=>∃i:Nat,s = .int .i64 i∧i≤m∧Hid (decide (t∈l.take i)=false)∧wr=w) (fun s _=>m - (intOf s).toNat)
 case atStart=>exact⟨0,rfl,Nat.zero_le _,h0,rfl⟩
 case round =>
  clear h0
  obtain⟨i,rfl,hi,hno,rfl⟩:=hrel
  by_cases hlt:i<m
  ·have hii : (i : Int) < (m : Int) := by omega
   obtain⟨x,hxi⟩:=Yf (l:=l) (k:=i) (by rw [←hm.out];exact hlt)
   obtain⟨g,rfl,rx⟩:=hx.out (by rw [←hm.out];omega)
   have rx0:=rx i _ hxi.out _ hself.out
   clear rx
   have hst:=rhas_step (t:=t) hxi.out
   rw [hno.out,Bool.false_or] at hst
   by_cases hxt:x=t
   ·have h1 : (x == t) = true := by simp [hxt]
    have hr:Hid (decide (t∈l)=true):=hide (decide_eq_true (hxt▸Jm hxi.out))
    refine hd2 hst hxt ?_;clear hst hxt;intro hst hxt
    go_wp2
    go_ret
    exact⟨by rw [hr.out];rfl,rfl⟩
   ·have h1 : (x == t) = false := by simp [hxt]
    rw [h1] at hst
    refine hd2 hst hxt ?_;clear hst hxt;intro hst hxt
    go_wp2
    go_roundw
    case rel=>exact⟨i+1,by go_num,hlt,hst,by trivial⟩
    case measure=>simp [intOf];omega
  ·obtain rfl : i = m := by omega
   have hr:Hid (decide (t∈l)=false):=hide (by
    have:=hno.out
    rwa [hm.out,List.take_length] at this)
   go_wp2
   go_ret
   exact⟨by rw [hr.out];rfl,rfl⟩
def bsGo (l : List Int) (x : Int) : Nat → Nat → Nat → Nat
 | 0,lo,_=>lo
 | k+1,lo,hi=>if lo<hi then(if l.getD ((lo+hi) / 2) 0<x then bsGo l x k ((lo+hi) / 2+1) hi else bsGo l x k lo ((lo+hi) / 2)) else lo
def bsI (l:List Int) (x:Int):Nat:=bsGo l x l.length 0 l.length
theorem bsGo_le {l : List Int} {x : Int} : ∀ (k lo hi : Nat), lo ≤ hi → lo ≤ bsGo l x k lo hi ∧ bsGo l x k lo hi ≤ hi
 | 0,lo,hi,h=>⟨Nat.le_refl _,h⟩
 | k+1,lo,hi,h=>by
  rw [bsGo]
  split
  ·split
   ·have := bsGo_le (l := l) (x := x) k ((lo + hi) / 2 + 1) hi (by omega)
    omega
   ·have := bsGo_le (l := l) (x := x) k lo ((lo + hi) / 2) (by omega)
    omega
  ·omega
theorem bsI_le (l:List Int) (x:Int):bsI l x≤l.length:=(bsGo_le l.length 0 l.length (Nat.zero_le _)).2
theorem Ych {l : List Int} {x : Int} : ∀ (k j lo hi : Nat), hi - lo ≤ k → hi - lo ≤ j → bsGo l x k lo hi = bsGo l x j lo hi
 | 0,0,lo,hi,h,hj=>rfl
 | 0,j+1,lo,hi,h,hj=>by rw [bsGo,bsGo,if_neg (by omega)]
 | k+1,0,lo,hi,h,hj=>by rw [bsGo,bsGo,if_neg (by omega)]
 | k+1,j+1,lo,hi,h,hj=>by
  rw [bsGo,bsGo]
  by_cases hl:lo<hi
  ·rw [if_pos hl, if_pos hl]
   split
   ·exact Ych k j _ _ (by omega) (by omega)
   ·exact Ych k j _ _ (by omega) (by omega)
  ·rw [if_neg hl,if_neg hl]
theorem bsGo_down {l:List Int} {x:Int} {lo hi:Nat} (h:lo<hi) (hx:l.getD ((lo+hi) / 2) 0<x):bsGo l x (hi - lo) lo hi=bsGo l x (hi - ((lo+hi) / 2+1)) ((lo+hi) / 2+1) hi:=by
 rw [Ych (hi - lo) (hi - lo+1) lo hi (by omega) (by omega),bsGo,if_pos h,if_pos hx]
 exact Ych _ _ _ _ (by omega) (by omega)
theorem bsGo_up {l:List Int} {x:Int} {lo hi:Nat} (h:lo<hi) (hx:¬l.getD ((lo+hi) / 2) 0<x):bsGo l x (hi - lo) lo hi=bsGo l x ((lo+hi) / 2 - lo) lo ((lo+hi) / 2):=by
 rw [Ych (hi - lo) (hi - lo+1) lo hi (by omega) (by omega),bsGo,if_pos h,if_neg hx]
 exact Ych _ _ _ _ (by omega) (by omega)
theorem nan1_any (x:Int) (w:World):Calls Tryz.prog 126 #[.int .i64 x] w (fun e w'=>e = .returned (.bool false)∧w'=w):=by
 go_enter Tryz.func126,Tryz.ntmps126
 go_wp2
 go_ret
 exact⟨by simp,rfl⟩
theorem nan2_any (x:Int) (w:World):Calls Tryz.prog 147 #[.int .i64 x] w (fun e w'=>e = .returned (.bool false)∧w'=w):=by
 go_enter Tryz.func147,Tryz.ntmps147
 go_wp2
 go_ret
 exact⟨by simp,rfl⟩
theorem less_any (x y:Int) (w:World):Calls Tryz.prog 125 #[.int .i64 x, .int .i64 y] w (fun e w'=>e = .returned (.bool (decide (x<y)))∧w'=w):=by
 go_enter Tryz.func125,Tryz.ntmps125
 go_wp2_with (fail)
 refine(nan2_any _ _).mono ?_
 rintro e w' ⟨rfl,rfl⟩
 go_wp2_with (fail)
 go_ret
 exact⟨rfl,rfl⟩
theorem bsearch_any (u : Value) (l : List Int) (x : Int) (w : World) (B : Nat) (hB : B ≤ w.heap.size) (ha : Z4.rep w B [u] l) (hbig : l.length < 4611686018427387904) :
  Calls Tryz.prog 104 #[u, .int .i64 x] w (fun e w'=>(∃bb,e = .returned (.tuple #[.int .i64 (bsI l x:Nat), .bool bb]))∧Below w.heap.size w w'):=by
 obtain⟨A1,c1,h1,hm1,ga⟩:=Rp.slice1_open (Z4.later ha (Below.refl _ _) hB)
 cases h1
 replace ga:=hide ga
 have hself:=Below.refl w.heap.size w
 obtain⟨ix,hix⟩:∃ix:Nat,Hid (ix=bsI l x):=⟨_,hide rfl⟩
 rw [←hix.out]
 obtain⟨n,hn⟩:=Jn (l.length)
 rw [←hn.out] at hbig hm1⊢
 go_enter Tryz.func104,Tryz.ntmps104
 go_wp2
 go_loopw [7,8] (fun s7 s8 wr=>∃lo hi:Nat,s7 = .int .i64 lo∧s8 = .int .i64 hi∧lo≤hi∧hi≤n∧Hid (ix=bsGo l x (hi - lo) lo hi)∧Below w.heap.size w wr) (fun s7 s8 _=>(intOf s8).toNat - (intOf s7).toNat)
 case atStart=>exact⟨0,n,rfl,rfl,Nat.zero_le _,Nat.le_refl _,hide (by rw [hix.out,bsI,←hn.out];rfl),hself⟩
 case round =>
  obtain⟨lo,hi,rfl,rfl,hlh,hin,h1,hbel⟩:=hrel
  by_cases hlt:lo<hi
  ·obtain ⟨b1, o1, rfl, he1⟩ := ga.out (by rw [← hn.out]; omega)
   obtain⟨y,hy⟩:=Yf (l:=l) (k:=(lo+hi) / 2) (by rw [←hn.out];omega)
   obtain⟨_,⟨hr1,_⟩,p0⟩:=he1 _ y hy.out
   cases hr1
   clear he1
   have hyd:Hid (l.getD ((lo+hi) / 2) 0=y):=hide (by rw [Jq,hy.out];rfl)
   have hn1:IntKind.i64.wrap ((lo:Int)+(hi:Int))=(lo:Int)+(hi:Int):=by rw [IntKind.wrap_i64];omega
   by_cases hyx:y<x
   ·have hst : Hid (ix = bsGo l x (hi - ((lo + hi) / 2 + 1)) ((lo + hi) / 2 + 1) hi) := hide (by rw [h1.out]; exact bsGo_down hlt (by rw [hyd.out]; exact hyx))
    go_wp2_with (fail)
    refine(less_any _ _ _).mono ?_
    rintro e w' ⟨rfl,rfl⟩
    go_wp2
    go_roundw
    case rel=>exact⟨(lo+hi) / 2+1,hi,by go_num,rfl,by omega,by omega,hst,hbel⟩
    case measure=>simp [intOf];omega
   ·have hst : Hid (ix = bsGo l x ((lo + hi) / 2 - lo) lo ((lo + hi) / 2)) := hide (by rw [h1.out]; exact bsGo_up hlt (by rw [hyd.out]; exact hyx))
    go_wp2_with (fail)
    refine(less_any _ _ _).mono ?_
    rintro e w' ⟨rfl,rfl⟩
    go_wp2
    go_roundw
    case rel=>exact⟨lo,(lo+hi) / 2,rfl,by go_num,by omega,by omega,hst,hbel⟩
    case measure=>simp [intOf];omega
  ·obtain rfl : hi = lo := by omega
   have hix2:Hid (ix=hi):=hide (by rw [h1.out,Nat.sub_self];rfl)
   have hfin:Hid (∀(bb:Value) w',(∃b,bb = .bool b)→Below w.heap.size w w'→(∃b,Ending.returned (.tuple #[.int .i64 (hi:Nat),bb]) = .returned (.tuple #[.int .i64 (ix:Nat), .bool b]))∧Below w.heap.size w w'):=hide (fun bb w' ⟨b,hb⟩ h=>⟨⟨b,by rw [hb,hix2.out]⟩,h⟩)
   by_cases hlt2:hi<n
   ·obtain ⟨b1, o1, rfl, he1⟩ := ga.out (by rw [← hn.out]; omega)
    obtain⟨y,hy⟩:=Yf (l:=l) (k:=hi) (by rw [←hn.out];omega)
    obtain⟨_,⟨hr1,_⟩,p0⟩:=he1 _ y hy.out
    cases hr1
    clear he1
    by_cases hyx:y=x
    ·go_wp2_with (fail)
     go_ret2
     exact hfin.out _ _ ⟨_,rfl⟩ hbel
    ·go_wp2_with (fail)
     refine(nan1_any _ _).mono ?_
     rintro e w' ⟨rfl,rfl⟩
     go_wp2
     go_ret2
     exact hfin.out _ _ ⟨_,rfl⟩ hbel
   ·go_wp2_with (fail)
    go_ret2
    exact hfin.out _ _ ⟨_,rfl⟩ hbel
def movI (p q:Int) (x:Ins):Ins :=
 if p∈x.to then
  ⟨x.op,x.reg,x.ty,x.num,x.flags,(x.args.eraseIdx (x.to.idxOf p)).insertIdx (bsI (x.to.eraseIdx (x.to.idxOf p)) q) (x.args.getD (x.to.idxOf p) ⟨0,0,0⟩),(x.to.eraseIdx (x.to.idxOf p)).insertIdx (bsI (x.to.eraseIdx (x.to.idxOf p)) q) q⟩
 else x
theorem movI_no {p q:Int} {x:Ins} (h:p∉x.to):movI p q x=x:=by unfold movI;rw [if_neg h]
theorem movI_op (p q:Int) (x:Ins):(movI p q x).op=x.op:=by unfold movI;split<;>rfl
def movP (p q:Int) (x:Ins):Ins:=if x.op=25 then movI p q x else x
theorem movP_op (p q:Int) (x:Ins):(movP p q x).op=x.op:=by
 unfold movP
 split
 ·exact movI_op p q x
 ·rfl
theorem ins_cells {α : Type} {s : Nat} (f : α → List Value) (hf : ∀ a, (f a).length = s) : ∀ (l : List α) (i : Nat) (a : α), i ≤ l.length → (l.insertIdx i a).flatMap f = (l.flatMap f).take (i * s) ++ f a ++ (l.flatMap f).drop (i * s)
 | l,0,a,_=>by simp
 | [],i+1,a,h=>by simp at h
 | b :: l,i+1,a,h=>by
  have e:(i+1)*s=s+i*s:=by rw [Nat.add_mul];omega
  have ih:=ins_cells f hf l i a (by simpa using h)
  rw [List.insertIdx_succ_cons,List.flatMap_cons,ih,List.flatMap_cons,e,List.take_append,List.drop_append,hf,List.take_of_length_le (l:=f b) (by rw [hf];omega),show(f b).drop (s+i*s) = [] from List.drop_eq_nil_of_le (by rw [hf];omega),Nat.add_sub_cancel_left]
  simp
theorem Ybd {P : Program} (w : World) (dT sT ty elem : TypeId) (size b o dLen dCap : Nat) (a : Addr) (sLen sCap : Nat) (cs : List Value)
  (hu:P.underlying dT=some (.slice elem)) (hs:(P.info? elem).map (·.size)=some size) (hn:cs.length=Nat.min sLen dLen*size)
  (hsrc:∀j v,cs[j]? = some v→w.cell? (a.add j)=some v) (ht:w.there b o cs.length) (h1:∀v∈cs,v.oneCell'=true) :
  (Builtin.copy_ #[dT,sT] ty #[.slice (some ⟨b,o,none⟩) dLen dCap, .slice (some a) sLen sCap]).run P w = .ok (goInt (Nat.min sLen dLen:Nat)) (w.setCells b o cs):=by
 have hl:=run_loadCells_list (P:=P) w a cs hsrc
 have hst:=run_storeCells_cells (P:=P) b o cs 0 w (by simpa using fun j hj=>(ht j hj).1) (by simpa using fun j hj=>(ht j hj).2) h1
 cases hq:P.info? elem with
 | none=>simp [hq] at hs
 | some i =>
  have hi:i.size=size:=by simpa [hq] using hs
  simp [Builtin.copy_,run_underlying hu,Builtin.lenOf,Builtin.firstCells,sizeOf,typeInfo,hq,hi,←hn,hl,hst]
theorem step_copy_ {P : Program} {ops : Array Oper} {o : Oper} {a : Act} {w : World} {K : Act → World → Prop} {Q : Exit → Act → World → Prop} {E : Prop}
  (hg:o.guard=none) (d x:Operand) (dT sT:TypeId) (hop:o.op=Op.call { callee:=Callee.builtin Builtin.copy,args := #[d,x],argTypes := #[dT,sT] })
  (v u:Value) (hd:a.eval d=v) (hx:a.eval x=u) {v':Value} {w':World} (hr:(Builtin.copy_ #[dT,sT] o.type #[v,u]).run P w = .ok v' w') (hK:K (a.put o.dst v') w') :
  if Region.wanted o (yielded ops a.tmps)=true then Oper.wp P o a w K Q else E:=by
 have hw:Region.wanted o (yielded ops a.tmps)=true:=by simp [Region.wanted,hg]
 rw [if_pos hw]
 unfold Oper.wp
 simp [execOp,hop,resolve,invoke,builtin,hd,hx,hr,Result.andThen]
 exact hK
theorem wpList_copy_ {P : Program} (w : World) {ops : Array Oper} {rest : List Oper} {o : Oper} {a : Act} {Q : Exit → Act → World → Prop} (hgd : o.guard = none) (d s : Operand) (t t' : TypeId)
  (ho:o.op = .call { callee := .builtin .copy,args := #[d,s],argTypes := #[t,t'] }) (v u:Value) (hd:a.eval d=v) (hs:a.eval s=u) {v':Value} {w':World}
  (hr:(Builtin.copy_ #[t,t'] o.type #[v,u]).run P w = .ok v' w') (h:wpList P ops Q rest (a.put o.dst v') w'):wpList P ops Q (o :: rest) a w:=by
 refine wpList_plain hgd fun K hK => ?_
 unfold Oper.wp
 simp [execOp,ho,resolve,invoke,builtin,hd,hs,hr,Result.andThen]
 exact hK _ _ h
theorem row_more {w : World} {B : Nat} {T : TypeId} {s g n C : Nat} {xs : List Value} (h : w.ownsRow B T s (.slice (some ⟨g, 0, none⟩) n C) n xs) (hC : n < C) :
  ∃ys,ys.length=s∧w.ownsRow B T s (.slice (some ⟨g,0,none⟩) (n+1) C) (n+1) (xs++ys):=by
 rcases h.2 with⟨e1, -⟩|⟨g',cap,cur,e1,hb,hh,h1,h2,h3,h4⟩
 ·cases e1
 ·cases e1
  have e3:(n+1)*s=n*s+s:=by rw [Nat.add_mul];omega
  have h5:(n+1)*s≤C*s:=Nat.mul_le_mul_right s hC
  refine⟨(cur.toList.drop (n*s)).take s,by rw [List.length_take,List.length_drop,Array.length_toList];omega,?_, .inr ⟨g,C,cur,rfl,hb,hh,hC,h2,h3,?_⟩⟩
  ·rw [List.length_append,h.1,List.length_take,List.length_drop,Array.length_toList];omega
  ·rw [←h4,e3,List.take_add]
theorem patch_ins {xs ys vs : List Value} {n s i : Nat} (hx : xs.length = n * s) (hi : i ≤ n) (hy : ys.length = s) (hv : vs.length = s) :
  patch (patch (xs++ys) ((i+1)*s) (xs.drop (i*s))) (i*s) vs=xs.take (i*s)++vs++xs.drop (i*s):=by
 obtain⟨m,rfl⟩:∃m,n=i+m:=⟨n - i,by omega⟩
 have e1:(i+m)*s=i*s+m*s:=Nat.add_mul _ _ _
 have e3:(i+1)*s=i*s+s:=by rw [Nat.add_mul];omega
 rw [e1] at hx
 rw [e3]
 have hd:(xs.drop (i*s)).length=m*s:=by rw [List.length_drop];omega
 have hl:(xs++ys).length=i*s+m*s+s:=by rw [List.length_append];omega
 have hz:(xs++ys).drop (i*s+s+m*s) = []:=List.drop_eq_nil_of_le (by omega)
 rw [patch_eq (xs.drop (i*s)) (xs++ys) (i*s+s) (by omega),hd,hz,List.append_nil]
 have ht:((xs++ys).take (i*s+s)).length=i*s+s:=by rw [List.length_take];omega
 rw [patch_eq vs _ (i*s) (by rw [List.length_append];omega),hv]
 rw [List.drop_left' ht,List.take_append_of_le_length (by omega),List.take_take,Nat.min_eq_left (by omega),List.take_append_of_le_length (by omega)]
def Ybq (T:TypeId) (s g n C i B:Nat) (xs vs:List Value) (w:World) (e:Ending) (w':World):Prop:=e = .returned (.slice (some ⟨g,0,none⟩) (n+1) C)∧w'.ownsRow B T s (.slice (some ⟨g,0,none⟩) (n+1) C) (n+1) (xs.take (i*s)++vs++xs.drop (i*s))∧Only (fun k=>k=g) w.heap.size w w'
theorem Only.grown_ {S:Nat→Prop} {B:Nat} {a w w1:World} {blk:Option Nat} (h:Only S B a w) (hB:B≤w.heap.size) (hg:w.grownBy w1 blk) (hb:∀k,blk=some k→S k):Only S B a w1 :=
 h.trans ⟨hg.os,hg.tape,hg.output,hg.size,fun k hk hs=>hg.block k (by omega) (fun e=>hs (hb k e.symm))⟩
theorem insert_ints (g n C i vb B : Nat) (xs vs : List Value) (w : World) (h : w.ownsRow B 3 1 (.slice (some ⟨g, 0, none⟩) n C) n xs) (hi : i < n) (hC : n < C) (hvb : vb ≠ g) (hv : w.heap[vb]? = some (.cells vs.toArray 3 (0, 0))) (hvl : vs.length = 1) (hone : ∀ u, u ∈ xs → u.oneCell' = true) (hone2 : ∀ u, u ∈ vs → u.oneCell' = true) :
  Calls Tryz.prog 105 #[.slice (some ⟨g,0,none⟩) n C, .int .i64 i, .slice (some ⟨vb,0,none⟩) 1 1] w (Ybq 3 1 g n C i B xs vs w):=by
 obtain⟨i0,hi0,hz0,hz1,hz2⟩:=Yh Z5
 refine hd2 hi0 hz1 ?_;clear hi0 hz1;intro hi0 hz1
 have hCm:C≤9223372036854775807:=by
  rcases h.2 with⟨e, -⟩|⟨g',cap,cur,e, -, -,h1,h2, -⟩
  ·cases e
  ·cases e;exact h2
 obtain⟨j,hj⟩:=Jn (i+1)
 obtain⟨m,hm⟩:=Jn (n+1)
 have hji:(i:Int)+1=(j:Int):=by have:=hj.out;omega
 have hnm:(n:Int)+1=(m:Int):=by have:=hm.out;omega
 have hwj:IntKind.i64.wrap (j:Int)=(j:Int):=by rw [IntKind.wrap_i64];have:=hj.out;omega
 have hjn:j≤n:=by have:=hj.out;omega
 have hmC:m≤C:=by have:=hm.out;omega
 have hjm:j≤m:=by have:=hm.out;omega
 have him:i≤m:=by have:=hm.out;omega
 have hjC:¬(C=j):=by omega
 have hiC:¬(C=i):=by omega
 have hin:¬((i:Int)=(n:Int)):=by omega
 have hmC2:(m:Int)≤(C:Int):=by omega
 have hsa:w.shape? vb=some (3,1):=by simp [World.shape?,hv,hvl]
 have hsb:∃kB,w.shape? g=some (3,kB)∧kB≠0:=by
  rcases h.2 with⟨e, -⟩|⟨g',cap,cur,e, -,hh,h1,h2,h3, -⟩
  ·cases e
  ·cases e
   exact⟨cur.size,by simp [World.shape?,hh],by omega⟩
 obtain⟨kB,hsb,hkB⟩:=hsb
 have hov:∀lb cb,(callFunc 127 #[.slice (some ⟨vb,0,none⟩) 1 1, .slice (some ⟨g,j,none⟩) lb cb]).run Tryz.prog w = .ok (.value (.bool false)) w:=fun lb cb=>by
  rw [run_callFunc_extern Tryz.func127 (by kernel_rfl) (by kernel_rfl) (by kernel_rfl) (e:=Extern.SlicesOverlaps.overlaps #[29,29] #[4]) (by kernel_rfl),
   Lib.run_overlaps_apart w 29 4 3 Tryz.underlying29 1 (fun w=>by kernel_rfl) ⟨vb,0,none⟩ ⟨g,j,none⟩ 1 1 lb cb hvb 3 3 1 kB hsa hsb hkB (by simp [World.frozen?,hv]) (by simp [World.frozen?,hv])]
  rfl
 obtain⟨U,hUe⟩:∃U,Hid (w.drew=U):=⟨_,hide rfl⟩
 have hU:Hid (U=U):=hide rfl
 have hoU:Hid (Only (fun k=>k=g) w.heap.size w U):=hide (by rw [←hUe.out];exact(Only.refl _ _ _).drew)
 have hrU0:U.ownsRow B 3 1 (.slice (some ⟨g,0,none⟩) n C) n xs:=by rw [←hUe.out];exact h
 obtain⟨ys,hys,hrU9⟩:=row_more hrU0 hC
 rw [←hm.out] at hrU9
 have hrU:Hid (U.ownsRow B 3 1 (.slice (some ⟨g,0,none⟩) m C) m (xs++ys)):=hide hrU9
 replace hys:=hide hys
 have hxl:Hid (xs.length=n*1):=hide h.1
 obtain⟨news,hnews⟩:=Jn (xs.drop (i*1))
 have hn:Hid (news.length=(m - j)*1):=hide (by rw [hnews.out,List.length_drop,hxl.out];have:=hm.out;have:=hj.out;omega)
 obtain⟨V,hV⟩:∃V,Hid (U.setCells g (j) news=V):=⟨_,hide rfl⟩
 have hc1:∀ty,(Builtin.copy_ #[29,29] ty #[.slice (some ⟨g,j,none⟩) (m - j) (C - j), .slice (some ⟨g,i,none⟩) (m - i) (C - i)]).run Tryz.prog U = .ok (goInt (Nat.min (m - i) (m - j):Nat)) V:=fun ty=>by
  rw [←hV.out]
  refine Ybd U 29 29 ty 3 1 g (j) (m - j) (C - j) ⟨g,i,none⟩ (m - i) (C - i) news Tryz.underlying29 (by rw [hi0.out];simp [hz1.out]) (by rw [hn.out,show Nat.min (m - i) (m - j)=m - j from Nat.min_eq_right (by have:=hj.out;omega)]) (fun q v hq => ?_) (fun q hq=>Qi hrU.out (by rw [hn.out] at hq;omega)) (fun u hu=>hone u (by rw [hnews.out] at hu;exact List.mem_of_mem_drop hu))
  have h1:=(Js.1 hq).1
  have h2:=hn.out
  have ha:(⟨g,i,none⟩:Addr).add q=⟨g,i+q,none⟩:=by unfold Addr.add;split<;>simp_all
  rw [ha,World.ownsRow.cellAt hrU.out (i+q) (by have:=hj.out;omega),List.getElem?_append_left (by have:=hxl.out;have:=hm.out;have:=hj.out;omega)]
  rw [hnews.out,List.getElem?_drop] at hq
  simpa using hq
 have hrV:Hid (V.ownsRow B 3 1 (.slice (some ⟨g,0,none⟩) m C) m (patch (xs++ys) (j) news)):=hide (by
  have h9:=Zx news (j) _ _ hrU.out
  rw [hV.out] at h9
  exact h9)
 have hoV:Hid (Only (fun k=>k=g) w.heap.size w V):=hide (by rw [←hV.out];exact Zn (S:=fun k=>k=g) rfl _ _ _ hoU.out)
 have hc2:∀ty,(Builtin.copy_ #[29,29] ty #[.slice (some ⟨g,i,none⟩) (m - i) (C - i), .slice (some ⟨vb,0,none⟩) 1 1]).run Tryz.prog V = .ok (goInt (Nat.min 1 (m - i):Nat)) (V.setCells g (i) vs):=fun ty=>by
  refine Ybd V 29 29 ty 3 1 g (i) (m - i) (C - i) ⟨vb,0,none⟩ 1 1 vs Tryz.underlying29 (by rw [hi0.out];simp [hz1.out]) (by rw [hvl,show Nat.min 1 (m - i)=1 from Nat.min_eq_left (by have:=hj.out;omega)]) (fun q v hq => ?_) (fun q hq=>Qi hrV.out (by rw [hvl] at hq;omega)) hone2
  have ha:(⟨vb,0,none⟩:Addr).add q=⟨vb,q,none⟩:=by unfold Addr.add;split<;>simp_all
  have hvw:vb<w.heap.size:=(Array.getElem?_eq_some_iff.1 hv).1
  have hb9:=(hoV.out.block vb hvw hvb).trans hv
  rw [ha]
  simp [World.cell?,hb9,hq]
 have hfin:Hid (Ybq 3 1 g n C i B xs vs w (.returned (.slice (some ⟨g,0,none⟩) m C)) (V.setCells g (i) vs)):=hide (by
  refine⟨by rw [hm.out],?_,Zn (S:=fun k=>k=g) rfl _ _ _ hoV.out⟩
  have h1:=Zx vs (i) _ _ hrV.out
  have h2:=patch_ins (ys:=ys) hxl.out (Nat.le_of_lt hi) hys.out hvl
  rw [hnews.out,hj.out] at h1
  rw [←hm.out,←h2]
  simpa only [Nat.mul_one] using h1)
 clear h hone hone2 hrU9 hrU0 hv hsa hsb hkB
 go_enter Tryz.func105,Tryz.ntmps105
 go_upto_region 14 with(fail)
 go_upto_region 15 with(simp only [hov])
 refine Y8 (S:=fun u=>u=U) (T:=fun j=>decide (j<8)) (by kernel_rfl) ?_
 rw [hUe.out]
 refine Jt (i:=0) hU.out ?_
 refine Jt (i:=1) hU.out ?_
 refine Jt (i:=2) hU.out ?_
 refine Jt (i:=3) hU.out ?_
 refine Jt (i:=4) hU.out ?_
 refine Jt (i:=5) hU.out ?_
 refine Jt (i:=6) hU.out ?_
 refine Jt (i:=7) hU.out ?_
 refine Jr (i:=8) fun K hK => ?_
 refine step_copy_ rfl _ _ 29 29 rfl _ _ (by simp [Act.eval,Act.put]) (by simp [Act.eval,Act.put]) (hc1 _) ?_
 refine Jo hK (fun h=>absurd h (by decide)) ?_;clear hK K
 refine Yv (by kernel_rfl) ?_ _
 go_wp2_with (at_builtin;refine wpList_copy_ _ rfl _ _ 29 29 rfl _ _ rfl rfl (hc2 _) ?_)
 go_ret
 exact hfin.out
theorem insert_ints_end (g n C vb B : Nat) (xs vs : List Value) (w : World) (h : w.ownsRow B 3 1 (.slice (some ⟨g, 0, none⟩) n C) n xs) (hC : n < C) (hvb : vb ≠ g) (hv : w.heap[vb]? = some (.cells vs.toArray 3 (0, 0))) (hvl : vs.length = 1) (hone2 : ∀ u, u ∈ vs → u.oneCell' = true) :
  Calls Tryz.prog 105 #[.slice (some ⟨g,0,none⟩) n C, .int .i64 n, .slice (some ⟨vb,0,none⟩) 1 1] w (Ybq 3 1 g n C n B xs vs w):=by
 obtain⟨i0,hi0,hz0,hz1,hz2⟩:=Yh Z5
 refine hd2 hi0 hz1 ?_;clear hi0 hz1;intro hi0 hz1
 have hCm:C≤9223372036854775807:=by
  rcases h.2 with⟨e, -⟩|⟨g',cap,cur,e, -, -,h1,h2, -⟩
  ·cases e
  ·cases e;exact h2
 have hxl:=h.1
 have hrd:Hid (∀q u,vs[q]? = some u→w.cell? ((⟨vb,0,none⟩:Addr).add q)=some u):=hide (fun q u hq=>by
  have ha:(⟨vb,0,none⟩:Addr).add q=⟨vb,q,none⟩:=by unfold Addr.add;split<;>simp_all
  rw [ha]
  simp [World.cell?,hv,hq])
 have hfin:Hid (∀w',w'.ownsRow B 3 1 (.slice (some ⟨g,0,none⟩) (n+1) C) (n+1) (xs++vs)→w.grownBy w' (some g)→Ybq 3 1 g n C n B xs vs w (.returned (.slice (some ⟨g,0,none⟩) (n+1) C)) w'):=hide (fun w' h1 h2=>by
  refine⟨rfl,?_,Only.grown_ (Only.refl _ _ _) (Nat.le_refl _) h2 fun k hk=>by cases hk;rfl⟩
  rw [List.take_of_length_le (by omega),List.drop_eq_nil_of_le (by omega),List.append_nil]
  exact h1)
 refine hd4 h hv hone2 hvl ?_;clear h hv hone2 hvl;intro h hv hone2 hvl
 go_enter Tryz.func105,Tryz.ntmps105
 go_wp2_with (at_builtin;refine wpList_append_fits _ rfl _ _ 29 rfl B 3 i0 1 Tryz.underlying29 hi0.out hz1.out g n C xs rfl h.out ⟨vb,0,none⟩ 1 1 vs rfl (by rw [hvl.out]) hrd.out hone2.out (by omega) ?_;intro w' h1 h2;replace h1:=hide h1;replace h2:=hide h2)
 go_ret
 exact hfin.out _ h1.out h2.out
theorem Ybn (g n C i vb B : Nat) (xs vs : List Value) (w : World) (h : w.ownsRow B 3 1 (.slice (some ⟨g, 0, none⟩) n C) n xs) (hi : i ≤ n) (hC : n < C) (hvb : vb ≠ g) (hv : w.heap[vb]? = some (.cells vs.toArray 3 (0, 0))) (hvl : vs.length = 1) (hone : ∀ u, u ∈ xs → u.oneCell' = true) (hone2 : ∀ u, u ∈ vs → u.oneCell' = true) :
  Calls Tryz.prog 105 #[.slice (some ⟨g,0,none⟩) n C, .int .i64 i, .slice (some ⟨vb,0,none⟩) 1 1] w (Ybq 3 1 g n C i B xs vs w):=by
 by_cases hin:i=n
 ·subst hin
  exact insert_ints_end g i C vb B xs vs w h hC hvb hv hvl hone2
 ·exact insert_ints g n C i vb B xs vs w h (by omega) hC hvb hv hvl hone hone2
theorem insert_opds (g n C i vb B : Nat) (xs vs : List Value) (w : World) (h : w.ownsRow B 62 3 (.slice (some ⟨g, 0, none⟩) n C) n xs) (hi : i < n) (hC : n < C) (hvb : vb ≠ g) (hv : w.heap[vb]? = some (.cells vs.toArray 62 (0, 0))) (hvl : vs.length = 3) (hone : ∀ u, u ∈ xs → u.oneCell' = true) (hone2 : ∀ u, u ∈ vs → u.oneCell' = true) :
  Calls Tryz.prog 106 #[.slice (some ⟨g,0,none⟩) n C, .int .i64 i, .slice (some ⟨vb,0,none⟩) 1 1] w (Ybq 62 3 g n C i B xs vs w):=by
 obtain⟨i0,hi0,hz0,hz1,hz2⟩:=Yh Q8
 refine hd2 hi0 hz1 ?_;clear hi0 hz1;intro hi0 hz1
 have hCm:C≤9223372036854775807:=by
  rcases h.2 with⟨e, -⟩|⟨g',cap,cur,e, -, -,h1,h2, -⟩
  ·cases e
  ·cases e;exact h2
 obtain⟨j,hj⟩:=Jn (i+1)
 obtain⟨m,hm⟩:=Jn (n+1)
 have hji:(i:Int)+1=(j:Int):=by have:=hj.out;omega
 have hnm:(n:Int)+1=(m:Int):=by have:=hm.out;omega
 have hwj:IntKind.i64.wrap (j:Int)=(j:Int):=by rw [IntKind.wrap_i64];have:=hj.out;omega
 have hjn:j≤n:=by have:=hj.out;omega
 have hmC:m≤C:=by have:=hm.out;omega
 have hjm:j≤m:=by have:=hm.out;omega
 have him:i≤m:=by have:=hm.out;omega
 have hjC:¬(C=j):=by omega
 have hiC:¬(C=i):=by omega
 have hin:¬((i:Int)=(n:Int)):=by omega
 have hmC2:(m:Int)≤(C:Int):=by omega
 have hsa:w.shape? vb=some (62,3):=by simp [World.shape?,hv,hvl]
 have hsb:∃kB,w.shape? g=some (62,kB)∧kB≠0:=by
  rcases h.2 with⟨e, -⟩|⟨g',cap,cur,e, -,hh,h1,h2,h3, -⟩
  ·cases e
  ·cases e
   exact⟨cur.size,by simp [World.shape?,hh],by omega⟩
 obtain⟨kB,hsb,hkB⟩:=hsb
 have hov:∀lb cb,(callFunc 129 #[.slice (some ⟨vb,0,none⟩) 1 1, .slice (some ⟨g,j*3,none⟩) lb cb]).run Tryz.prog w = .ok (.value (.bool false)) w:=fun lb cb=>by
  rw [run_callFunc_extern Tryz.func129 (by kernel_rfl) (by kernel_rfl) (by kernel_rfl) (e:=Extern.SlicesOverlaps.overlaps #[42,42] #[4]) (by kernel_rfl),
   Lib.run_overlaps_apart w 42 4 62 Tryz.underlying42 3 (fun w=>by kernel_rfl) ⟨vb,0,none⟩ ⟨g,j*3,none⟩ 1 1 lb cb hvb 62 62 3 kB hsa hsb hkB (by simp [World.frozen?,hv]) (by simp [World.frozen?,hv])]
  rfl
 obtain⟨U,hUe⟩:∃U,Hid (w.drew=U):=⟨_,hide rfl⟩
 have hU:Hid (U=U):=hide rfl
 have hoU:Hid (Only (fun k=>k=g) w.heap.size w U):=hide (by rw [←hUe.out];exact(Only.refl _ _ _).drew)
 have hrU0:U.ownsRow B 62 3 (.slice (some ⟨g,0,none⟩) n C) n xs:=by rw [←hUe.out];exact h
 obtain⟨ys,hys,hrU9⟩:=row_more hrU0 hC
 rw [←hm.out] at hrU9
 have hrU:Hid (U.ownsRow B 62 3 (.slice (some ⟨g,0,none⟩) m C) m (xs++ys)):=hide hrU9
 replace hys:=hide hys
 have hxl:Hid (xs.length=n*3):=hide h.1
 obtain⟨news,hnews⟩:=Jn (xs.drop (i*3))
 have hn:Hid (news.length=(m - j)*3):=hide (by rw [hnews.out,List.length_drop,hxl.out];have:=hm.out;have:=hj.out;omega)
 obtain⟨V,hV⟩:∃V,Hid (U.setCells g (j*3) news=V):=⟨_,hide rfl⟩
 have hc1:∀ty,(Builtin.copy_ #[42,42] ty #[.slice (some ⟨g,j*3,none⟩) (m - j) (C - j), .slice (some ⟨g,i*3,none⟩) (m - i) (C - i)]).run Tryz.prog U = .ok (goInt (Nat.min (m - i) (m - j):Nat)) V:=fun ty=>by
  rw [←hV.out]
  refine Ybd U 42 42 ty 62 3 g (j*3) (m - j) (C - j) ⟨g,i*3,none⟩ (m - i) (C - i) news Tryz.underlying42 (by rw [hi0.out];simp [hz1.out]) (by rw [hn.out,show Nat.min (m - i) (m - j)=m - j from Nat.min_eq_right (by have:=hj.out;omega)]) (fun q v hq => ?_) (fun q hq=>Qi hrU.out (by rw [hn.out] at hq;omega)) (fun u hu=>hone u (by rw [hnews.out] at hu;exact List.mem_of_mem_drop hu))
  have h1:=(Js.1 hq).1
  have h2:=hn.out
  have ha:(⟨g,i*3,none⟩:Addr).add q=⟨g,i*3+q,none⟩:=by unfold Addr.add;split<;>simp_all
  rw [ha,World.ownsRow.cellAt hrU.out (i*3+q) (by have:=hj.out;omega),List.getElem?_append_left (by have:=hxl.out;have:=hm.out;have:=hj.out;omega)]
  rw [hnews.out,List.getElem?_drop] at hq
  simpa using hq
 have hrV:Hid (V.ownsRow B 62 3 (.slice (some ⟨g,0,none⟩) m C) m (patch (xs++ys) (j*3) news)):=hide (by
  have h9:=Zx news (j*3) _ _ hrU.out
  rw [hV.out] at h9
  exact h9)
 have hoV:Hid (Only (fun k=>k=g) w.heap.size w V):=hide (by rw [←hV.out];exact Zn (S:=fun k=>k=g) rfl _ _ _ hoU.out)
 have hc2:∀ty,(Builtin.copy_ #[42,42] ty #[.slice (some ⟨g,i*3,none⟩) (m - i) (C - i), .slice (some ⟨vb,0,none⟩) 1 1]).run Tryz.prog V = .ok (goInt (Nat.min 1 (m - i):Nat)) (V.setCells g (i*3) vs):=fun ty=>by
  refine Ybd V 42 42 ty 62 3 g (i*3) (m - i) (C - i) ⟨vb,0,none⟩ 1 1 vs Tryz.underlying42 (by rw [hi0.out];simp [hz1.out]) (by rw [hvl,show Nat.min 1 (m - i)=1 from Nat.min_eq_left (by have:=hj.out;omega)]) (fun q v hq => ?_) (fun q hq=>Qi hrV.out (by rw [hvl] at hq;omega)) hone2
  have ha:(⟨vb,0,none⟩:Addr).add q=⟨vb,q,none⟩:=by unfold Addr.add;split<;>simp_all
  have hvw:vb<w.heap.size:=(Array.getElem?_eq_some_iff.1 hv).1
  have hb9:=(hoV.out.block vb hvw hvb).trans hv
  rw [ha]
  simp [World.cell?,hb9,hq]
 have hfin:Hid (Ybq 62 3 g n C i B xs vs w (.returned (.slice (some ⟨g,0,none⟩) m C)) (V.setCells g (i*3) vs)):=hide (by
  refine⟨by rw [hm.out],?_,Zn (S:=fun k=>k=g) rfl _ _ _ hoV.out⟩
  have h1:=Zx vs (i*3) _ _ hrV.out
  have h2:=patch_ins (ys:=ys) hxl.out (Nat.le_of_lt hi) hys.out hvl
  rw [hnews.out,hj.out] at h1
  rw [←hm.out,←h2]
  simpa only [Nat.mul_one] using h1)
 clear h hone hone2 hrU9 hrU0 hv hsa hsb hkB
 go_enter Tryz.func106,Tryz.ntmps106
 go_upto_region 14 with(fail)
 go_upto_region 15 with(simp only [hov])
 refine Y8 (S:=fun u=>u=U) (T:=fun j=>decide (j<8)) (by kernel_rfl) ?_
 rw [hUe.out]
 refine Jt (i:=0) hU.out ?_
 refine Jt (i:=1) hU.out ?_
 refine Jt (i:=2) hU.out ?_
 refine Jt (i:=3) hU.out ?_
 refine Jt (i:=4) hU.out ?_
 refine Jt (i:=5) hU.out ?_
 refine Jt (i:=6) hU.out ?_
 refine Jt (i:=7) hU.out ?_
 refine Jr (i:=8) fun K hK => ?_
 refine step_copy_ rfl _ _ 42 42 rfl _ _ (by simp [Act.eval,Act.put]) (by simp [Act.eval,Act.put]) (hc1 _) ?_
 refine Jo hK (fun h=>absurd h (by decide)) ?_;clear hK K
 refine Yv (by kernel_rfl) ?_ _
 go_wp2_with (at_builtin;refine wpList_copy_ _ rfl _ _ 42 42 rfl _ _ rfl rfl (hc2 _) ?_)
 go_ret
 exact hfin.out
theorem insert_opds_end (g n C vb B : Nat) (xs vs : List Value) (w : World) (h : w.ownsRow B 62 3 (.slice (some ⟨g, 0, none⟩) n C) n xs) (hC : n < C) (hvb : vb ≠ g) (hv : w.heap[vb]? = some (.cells vs.toArray 62 (0, 0))) (hvl : vs.length = 3) (hone2 : ∀ u, u ∈ vs → u.oneCell' = true) :
  Calls Tryz.prog 106 #[.slice (some ⟨g,0,none⟩) n C, .int .i64 n, .slice (some ⟨vb,0,none⟩) 1 1] w (Ybq 62 3 g n C n B xs vs w):=by
 obtain⟨i0,hi0,hz0,hz1,hz2⟩:=Yh Q8
 refine hd2 hi0 hz1 ?_;clear hi0 hz1;intro hi0 hz1
 have hCm:C≤9223372036854775807:=by
  rcases h.2 with⟨e, -⟩|⟨g',cap,cur,e, -, -,h1,h2, -⟩
  ·cases e
  ·cases e;exact h2
 have hxl:=h.1
 have hrd:Hid (∀q u,vs[q]? = some u→w.cell? ((⟨vb,0,none⟩:Addr).add q)=some u):=hide (fun q u hq=>by
  have ha:(⟨vb,0,none⟩:Addr).add q=⟨vb,q,none⟩:=by unfold Addr.add;split<;>simp_all
  rw [ha]
  simp [World.cell?,hv,hq])
 have hfin:Hid (∀w',w'.ownsRow B 62 3 (.slice (some ⟨g,0,none⟩) (n+1) C) (n+1) (xs++vs)→w.grownBy w' (some g)→Ybq 62 3 g n C n B xs vs w (.returned (.slice (some ⟨g,0,none⟩) (n+1) C)) w'):=hide (fun w' h1 h2=>by
  refine⟨rfl,?_,Only.grown_ (Only.refl _ _ _) (Nat.le_refl _) h2 fun k hk=>by cases hk;rfl⟩
  rw [List.take_of_length_le (by omega),List.drop_eq_nil_of_le (by omega),List.append_nil]
  exact h1)
 refine hd4 h hv hone2 hvl ?_;clear h hv hone2 hvl;intro h hv hone2 hvl
 go_enter Tryz.func106,Tryz.ntmps106
 go_wp2_with (at_builtin;refine wpList_append_fits _ rfl _ _ 42 rfl B 62 i0 3 Tryz.underlying42 hi0.out hz1.out g n C xs rfl h.out ⟨vb,0,none⟩ 1 1 vs rfl (by rw [hvl.out]) hrd.out hone2.out (by omega) ?_;intro w' h1 h2;replace h1:=hide h1;replace h2:=hide h2)
 go_ret
 exact hfin.out _ h1.out h2.out
theorem Ybm (g n C i vb B : Nat) (xs vs : List Value) (w : World) (h : w.ownsRow B 62 3 (.slice (some ⟨g, 0, none⟩) n C) n xs) (hi : i ≤ n) (hC : n < C) (hvb : vb ≠ g) (hv : w.heap[vb]? = some (.cells vs.toArray 62 (0, 0))) (hvl : vs.length = 3) (hone : ∀ u, u ∈ xs → u.oneCell' = true) (hone2 : ∀ u, u ∈ vs → u.oneCell' = true) :
  Calls Tryz.prog 106 #[.slice (some ⟨g,0,none⟩) n C, .int .i64 i, .slice (some ⟨vb,0,none⟩) 1 1] w (Ybq 62 3 g n C i B xs vs w):=by
 by_cases hin:i=n
 ·subst hin
  exact insert_opds_end g i C vb B xs vs w h hC hvb hv hvl hone2
 ·exact insert_opds g n C i vb B xs vs w h (by omega) hC hvb hv hvl hone hone2
end Go.Proofs.YtamjcafjdioidaaGreat
