/- Texts of the chain, without what is not wanted: TdV, TdSa, TdSb, RfA, RfC. No condition but sizes. -/
import Derived.Test.YtamjcafjdioidaaGreatUv17
set_option linter.unusedVariables false
set_option linter.unusedSimpArgs false
set_option maxRecDepth 100000
set_option maxHeartbeats 12800000
namespace Go.Proofs.YtamjcafjdioidaaGreat
def dropG (gone:List Bool) (k:Nat) (l:List Ins):List Ins:=(List.range k).foldl (fun l p=>if gone.getD p false=true then Yar p l else l) l
def Qx (gone:List Bool) (k:Nat) (x:Ins):Ins:=(List.range k).foldl (fun x p=>if gone.getD p false=true then Y7 p x else x) x
theorem dropG_next (gone:List Bool) (k:Nat) (l:List Ins):dropG gone (k+1) l=if gone.getD k false=true then Yar k (dropG gone k l) else dropG gone k l:=by
 unfold dropG
 rw [List.range_succ,List.foldl_append]
 rfl
theorem Yaz (gone:List Bool) (k:Nat) (x:Ins):Qx gone (k+1) x=if gone.getD k false=true then Y7 k (Qx gone k x) else Qx gone k x:=by
 unfold Qx
 rw [List.range_succ,List.foldl_append]
 rfl
theorem Ycc (gone : List Bool) (x : Ins) : ∀ k, (Qx gone k x).op = x.op
 | 0=>rfl
 | k+1=>by
  rw [Yaz]
  split
  ·rw [dropPhi_op,Ycc gone x k]
  ·exact Ycc gone x k
theorem dropGI_no (gone : List Bool) {x : Ins} (h : x.op ≠ 25) : ∀ k, Qx gone k x = x
 | 0=>rfl
 | k+1=>by
  rw [Yaz,dropGI_no gone h k]
  split
  ·unfold Y7;rw [if_neg h]
  ·rfl
theorem dropGI_phi (gone : List Bool) {x : Ins} (h : x.op = 25) (hs : x.to.Pairwise (· < ·)) : ∀ k, (Qx gone k x).to.Pairwise (· < ·) ∧ ∀ q : Int, q ∈ (Qx gone k x).to ↔ q ∈ x.to ∧ ¬ (0 ≤ q ∧ q.toNat < k ∧ gone.getD q.toNat false = true)
 | 0=>⟨hs,fun q=>by simp [Qx]⟩
 | k+1=>by
  obtain⟨h1,h2⟩:=dropGI_phi gone h hs k
  rw [Yaz]
  by_cases hg:gone.getD k false=true
  ·have hd : Y7 k (Qx gone k x) = Qy k (Qx gone k x) := by unfold Y7; rw [if_pos (by rw [Ycc]; exact h)]
   rw [if_pos hg,hd]
   refine⟨h1.sublist (dropP_sub _ _),fun q => ?_⟩
   rw [dropP_mem h1,h2 q]
   constructor
   ·rintro ⟨⟨a, b⟩, c⟩
    refine⟨a,fun d => ?_⟩
    by_cases e:q.toNat=k
    ·omega
    ·exact b ⟨d.1,by omega,d.2.2⟩
   ·rintro ⟨a, b⟩
    refine⟨⟨a,fun d=>b ⟨d.1,by omega,d.2.2⟩⟩,fun e => ?_⟩
    subst e
    exact b ⟨by omega,by omega,by rw [Int.toNat_natCast];exact hg⟩
  ·rw [if_neg hg]
   refine⟨h1,fun q => ?_⟩
   rw [h2 q]
   constructor
   ·rintro ⟨a, b⟩
    refine⟨a,fun d => ?_⟩
    by_cases e:q.toNat=k
    ·rw [e] at d;exact hg d.2.2
    ·exact b ⟨d.1,by omega,d.2.2⟩
   ·rintro ⟨a, b⟩
    exact⟨a,fun d=>b ⟨d.1,by omega,d.2.2⟩⟩
theorem dropG_map {n : Nat} {l : List Ins} (gone : List Bool) (h : LInv n l) : ∀ k, dropG gone k l = l.map (Qx gone k) ∧ LInv n (dropG gone k l)
 | 0=>⟨(List.map_id l).symm,h⟩
 | k+1=>by
  obtain⟨h1,h2⟩:=dropG_map gone h k
  rw [dropG_next]
  by_cases hg:gone.getD k false=true
  ·rw [if_pos hg, loseL_map h2.fr]
   refine⟨?_,h2.lose k⟩
   rw [h1,List.map_map]
   refine List.map_congr_left fun x _ => ?_
   rw [Yaz,if_pos hg]
   rfl
  ·rw [if_neg hg]
   refine⟨?_,h2⟩
   rw [h1]
   refine List.map_congr_left fun x _ => ?_
   rw [Yaz,if_neg hg]
theorem loseRow_eq {gone : List Bool} {b : Nat} {bs : List (List Ins)} (hb : b < bs.length) (hg : Kept gone b) : ∀ k, Qp gone b bs k = bs.set b (dropG gone k (bs.getD b []))
 | 0=>by
  have h1:bs[b]? = some (bs.getD b []):=Zq hb
  show bs=bs.set b (bs.getD b [])
  exact(Qm h1).symm
 | k+1=>by
  unfold Kept at hg
  rw [Q4,loseRow_eq hb hg k,dropG_next]
  unfold loseIf
  rw [hg]
  by_cases hk:gone.getD k false=true
  ·rw [hk, if_pos (by rfl), if_pos rfl]
   unfold loseB
   have e:(bs.set b (dropG gone k (bs.getD b []))).getD b []=dropG gone k (bs.getD b []):=by
    rw [Jq (l:=bs.set b _),Jf hb];rfl
   rw [e,List.set_set]
  ·have hk' : gone.getD k false = false := by simpa using hk
   rw [hk',if_neg (by decide),if_neg (by decide)]
theorem loseRow_gone {gone : List Bool} {b : Nat} {bs : List (List Ins)} (hg : ¬ Kept gone b) : ∀ k, Qp gone b bs k = bs
 | 0=>rfl
 | k+1=>by
  have hg':gone.getD b false=true:=by simpa [Kept] using hg
  rw [Q4,loseRow_gone hg k]
  unfold loseIf
  rw [hg']
  simp
theorem Yca {gone : List Bool} {n : Nat} {bs : List (List Ins)} (c : Nat) : ∀ k, k ≤ bs.length → (loseAll gone n bs k).length = bs.length ∧ (loseAll gone n bs k)[c]? = (bs[c]?).map fun l => if c < k ∧ gone.getD c false = false then dropG gone n l else l
 | 0,_=>by
  refine⟨rfl,?_⟩
  show bs[c]? = _
  cases bs[c]? <;> simp
 | k+1,hk=>by
  obtain⟨h1,h2⟩:=Yca (gone:=gone) (n:=n) (bs:=bs) c k (by omega)
  rw [Yam]
  have hkl:k<(loseAll gone n bs k).length:=by omega
  by_cases hg:Kept gone k
  ·rw [loseRow_eq hkl hg]
   refine⟨by rw [List.length_set];exact h1,?_⟩
   by_cases e:c=k
   ·subst e
    rw [Jf hkl,Jq,h2,Jg (show c<bs.length by omega)]
    simp only [Option.map_some,Option.getD_some,Nat.lt_irrefl,false_and,if_false,Option.some.injEq]
    rw [if_pos ⟨Nat.lt_succ_self c,hg⟩]
   ·rw [Je (Ne.symm e), h2]
    have:(c<k∧gone.getD c false=false)↔(c<k+1∧gone.getD c false=false):=by
     constructor
     ·rintro⟨a,b⟩;exact⟨by omega,b⟩
     ·rintro⟨a,b⟩;exact⟨by omega,b⟩
    simp only [this]
  ·rw [loseRow_gone hg]
   refine⟨h1,?_⟩
   rw [h2]
   have:(c<k∧gone.getD c false=false)↔(c<k+1∧gone.getD c false=false):=by
    constructor
    ·rintro⟨a,b⟩;exact⟨by omega,b⟩
    ·rintro ⟨a, b⟩
     refine⟨?_,b⟩
     by_cases e:c=k
     ·subst e;exact absurd b hg
     ·omega
   simp only [this]
theorem reach_zero {bs:List (List Ins)} (h:0<bs.length):(Yv bs)[0]? = some true:=by
 rw [reach_at bs 0 h]
 have:=((Yba bs).mem 0).2 ⟨h, .start⟩
 simp [this]
theorem kept_reach {bs:List (List Ins)} {c:Nat} (hc:c<bs.length):Kept ((Yv bs).map fun r => !r) c↔(Yv bs)[c]? = some true:=by
 unfold Kept
 have hl:c<(Yv bs).length:=by rw [Qi];exact hc
 rw [Jq,List.getElem?_map,Jg hl]
 simp
theorem mz_eq {bs bs':List (List Ins)} (h:∀(c:Nat),(bs'[c]?).map wt=(bs[c]?).map wt):mz bs'=mz bs:=by
 unfold mz
 congr 1
 apply List.ext_getElem?
 intro c
 rw [List.getElem?_map,List.getElem?_map]
 exact h c
theorem TInv.unseen {bs bs':List (List Ins)} (h:TInv bs) (hd:Yah (Yv bs) bs=some bs'):TInv bs'∧mz bs'<mz bs:=by
 unfold Yah at hd
 split at hd
 case isFalse=>cases hd
 rename_i hany
 cases hd
 obtain⟨gone,hgone⟩:∃gone,gone=(Yv bs).map fun r => !r:=⟨_,rfl⟩
 rw [←hgone]
 have hgl:gone.length=bs.length:=by rw [hgone,List.length_map,Qi]
 have hkr:∀c,c<bs.length→(Kept gone c↔(Yv bs)[c]? = some true):=fun c hc=>by rw [hgone];exact kept_reach hc
 have hat:=fun c=>Yca (gone:=gone) (n:=bs.length) (bs:=bs) c bs.length (Nat.le_refl _)
 have hlen:(loseAll gone bs.length bs bs.length).length=bs.length:=(hat 0).1
 have hget:∀(c:Nat) l',(loseAll gone bs.length bs bs.length)[c]? = some l'→∃l,bs[c]? = some l∧((Kept gone c∧l'=l.map (Qx gone bs.length)∧LInv bs.length l')∨(¬Kept gone c∧l'=l)):=fun c l' hl'=>by
  rw [(hat c).2] at hl'
  cases hl:bs[c]? with
  | none=>rw [hl] at hl';cases hl'
  | some l =>
   rw [hl] at hl'
   have hcl:=(Js.1 hl).1
   refine⟨l,rfl,?_⟩
   obtain⟨h1,h2⟩:=dropG_map gone (h.loc c l hl) bs.length
   by_cases hk:Kept gone c
   ·simp only [Option.map_some, Option.some.injEq] at hl'
    rw [if_pos ⟨hcl,hk⟩] at hl'
    subst hl'
    exact .inl ⟨hk,h1,h2⟩
   ·simp only [Option.map_some, Option.some.injEq] at hl'
    rw [if_neg (fun e=>hk e.2)] at hl'
    exact .inr ⟨hk,hl'.symm⟩
 have hendI:∀p,endI (loseAll gone bs.length bs bs.length) p=endI bs p:=fun p=>by
  cases hl:bs[p]? with
  | none =>
   unfold endI
   rw [(hat p).2,hl]
   rfl
  | some l =>
   have hpl:=(Js.1 hl).1
   obtain⟨l',hl'⟩:∃l',(loseAll gone bs.length bs bs.length)[p]? = some l':=⟨_,Jg (by omega)⟩
   obtain⟨l0,h0,h1⟩:=hget p l' hl'
   rw [hl] at h0
   cases h0
   rw [Zg hl',Zg hl]
   rcases h1 with⟨-,h1, -⟩|⟨-,h1⟩
   ·rw [h1, List.getLast?_map]
    cases hq:l.getLast? with
    | none=>rfl
    | some y=>simp only [Option.map_some];rw [dropGI_no gone ((h.loc p l hl).fin y hq).1]
   ·rw [h1]
 have hEnd:∀p c,Qr (loseAll gone bs.length bs bs.length) p c↔Qr bs p c:=fun p c=>by unfold Qr;rw [hendI]
 have hmz:mz (loseAll gone bs.length bs bs.length)=mz bs:=mz_eq fun c=>by
  cases hl:bs[c]? with
  | none=>rw [(hat c).2,hl];rfl
  | some l =>
   have hcl:=(Js.1 hl).1
   obtain⟨l',hl'⟩:∃l',(loseAll gone bs.length bs bs.length)[c]? = some l':=⟨_,Jg (by omega)⟩
   obtain⟨l0,h0,h1⟩:=hget c l' hl'
   rw [hl] at h0
   cases h0
   rw [hl']
   simp only [Option.map_some,Option.some.injEq]
   rcases h1 with⟨-,h1, -⟩|⟨-,h1⟩
   ·rw [h1];exact wt_map (fun x=>Ycc gone x _) l
   ·rw [h1]
 constructor
 ·refine TInv.without (by omega) ((hkr 0 h.pos).2 (reach_zero h.pos)) (by rw [hlen]; exact h.pos) (by rw [hmz]; exact h.size) (fun c l' hl' hk => ?_) (fun c l' hl' hk x hx t ht => ?_) (fun c l' hl' hk x hx ho => ?_)
  ·rw [hlen]
   obtain⟨l,hl,⟨-, -,h1⟩|⟨h1, -⟩⟩:=hget c l' hl'
   ·exact h1
   ·exact absurd hk h1
  ·obtain ⟨l, hl, ⟨-, h1, h2⟩ | ⟨h1, -⟩⟩ := hget c l' hl'
   ·have hcl := (Js.1 hl).1
    have hr:=h2.wf.to_ x hx t ht
    subst h1
    obtain⟨y,hy,rfl⟩:=List.mem_map.1 hx
    by_cases ho:y.op=25
    ·obtain ⟨-, h3⟩ := dropGI_phi gone ho ((h.loc c l hl).srt y hy ho) bs.length
     have h4:=((h3 t).1 ht).2
     unfold Kept
     cases hg:gone.getD t.toNat false with
     | false=>rfl
     | true=>exact absurd ⟨hr.1,by omega,hg⟩ h4
    ·rw [dropGI_no gone ho] at ht
     rcases (h.loc c l hl).kinds hy with h3|h3|⟨h3,h4⟩
     ·exact absurd h3 ho
     ·rw [h3] at ht;cases ht
     ·have h5 : Qr bs c t := ⟨y, by rw [Zg hl]; exact h3, h4, ht⟩
      have h6:=(Yay hr).1 h5
      have h7:=(hkr c hcl).1 hk
      refine(hkr t.toNat (by omega)).2 (reach_step h7 hcl ?_ (by omega))
      rw [show((t.toNat:Nat):Int)=t by omega]
      exact h6
   ·exact absurd hk h1
  ·obtain ⟨l, hl, ⟨-, h1, h2⟩ | ⟨h1, -⟩⟩ := hget c l' hl'
   ·subst h1
    obtain⟨y,hy,rfl⟩:=List.mem_map.1 hx
    rw [Ycc] at ho
    obtain⟨g1,g2⟩:=h.phi c l hl y hy ho
    refine⟨g1,fun p => ?_⟩
    obtain⟨-,h3⟩:=dropGI_phi gone ho ((h.loc c l hl).srt y hy ho) bs.length
    rw [h3 p,g2 p,hEnd]
    constructor
    ·rintro ⟨⟨a, b⟩, d⟩
     refine⟨a,?_,b⟩
     have hpl:=Ybx b
     unfold Kept
     cases hg:gone.getD p.toNat false with
     | false=>rfl
     | true=>exact absurd ⟨a,hpl,hg⟩ d
    ·rintro ⟨a, b, d⟩
     refine⟨⟨a,d⟩,fun e => ?_⟩
     unfold Kept at b
     rw [e.2.2] at b
     cases b
   ·exact absurd hk h1
 ·have h1 := mz_without (bs := loseAll gone bs.length bs bs.length) (gone := gone)
  obtain⟨r,hr,hr2⟩:=List.any_eq_true.1 hany
  obtain⟨c,hc⟩:=List.mem_iff_getElem?.1 hr
  have hcl:=(Js.1 hc).1
  rw [Qi] at hcl
  have hrf:r=false:=by simpa using hr2
  have hg:gone.getD c false=true:=by
   rw [hgone,Jq,List.getElem?_map,hc,hrf]
   rfl
  have h2:c∈(List.range (loseAll gone bs.length bs bs.length).length).filter fun b=>gone.getD b false:=List.mem_filter.2 ⟨List.mem_range.2 (by omega),hg⟩
  have h3:=List.length_pos_of_mem h2
  omega
theorem bsGo_spec {l:List Int} {x:Int} (hs:l.Pairwise (· < ·)):∀(k lo hi:Nat),lo≤hi→hi≤l.length→hi - lo≤k→(∀i v,i<lo→l[i]? = some v→v<x)→(∀(i:Nat) v,hi≤i→l[i]? = some v→x≤v)→
  (∀(i:Nat) v,i<bsGo l x k lo hi→l[i]? = some v→v<x)∧(∀(i:Nat) v,bsGo l x k lo hi≤i→l[i]? = some v→x≤v)
 | 0,lo,hi,h1,h2,h3,h4,h5=>by
  have:lo=hi:=by omega
  subst this
  exact⟨h4,h5⟩
 | k+1,lo,hi,h1,h2,h3,h4,h5=>by
  rw [bsGo]
  by_cases hlt:lo<hi
  ·rw [if_pos hlt]
   have hm:(lo+hi) / 2<l.length:=by omega
   have hmg:l[(lo+hi) / 2]? = some (l.getD ((lo+hi) / 2) 0):=Zq hm
   have hsorted:∀(i j:Nat) u v,i<j→l[i]? = some u→l[j]? = some v→u<v:=fun i j u v hij hu hv=>by
    have hi':=(Js.1 hu).1
    have hj':=(Js.1 hv).1
    rw [Jg hi'] at hu
    rw [Jg hj'] at hv
    cases hu;cases hv
    exact List.pairwise_iff_getElem.1 hs i j hi' hj' hij
   by_cases hx:l.getD ((lo+hi) / 2) 0<x
   ·rw [if_pos hx]
    refine bsGo_spec hs k _ hi (by omega) h2 (by omega) (fun i v hi' hv => ?_) h5
    by_cases e:i=(lo+hi) / 2
    ·subst e;rw [hmg] at hv;cases hv;exact hx
    ·have := hsorted i ((lo + hi) / 2) v _ (by omega) hv hmg
     omega
   ·rw [if_neg hx]
    refine bsGo_spec hs k lo _ (by omega) (by omega) (by omega) h4 (fun i v hi' hv => ?_)
    by_cases e:i=(lo+hi) / 2
    ·subst e;rw [hmg] at hv;cases hv;omega
    ·have := hsorted ((lo + hi) / 2) i _ v (by omega) hmg hv
     omega
  ·rw [if_neg hlt]
   have:lo=hi:=by omega
   subst this
   exact⟨h4,h5⟩
theorem insert_take {α : Type} : ∀ (l : List α) (i : Nat) (a : α), i ≤ l.length → l.insertIdx i a = l.take i ++ a :: l.drop i
 | l,0,a,_=>by simp
 | [],i+1,a,h=>by simp at h
 | b :: l,i+1,a,h=>by
  rw [List.insertIdx_succ_cons,insert_take l i a (by simpa using h)]
  simp
theorem insert_sorted {l:List Int} {q:Int} (hs:l.Pairwise (· < ·)) (hq:q∉l):(l.insertIdx (bsI l q) q).Pairwise (· < ·):=by
 obtain⟨h1,h2⟩:=bsGo_spec (x:=q) hs l.length 0 l.length (Nat.zero_le _) (Nat.le_refl _) (by omega) (fun i v hi=>by omega) (fun i v hi hv=>by have:=(Js.1 hv).1;omega)
 have hle:=bsI_le l q
 rw [insert_take l (bsI l q) q hle,List.pairwise_append,List.pairwise_cons]
 have hk:∀v,v∈l.take (bsI l q)→v<q:=fun v hv=>by
  obtain⟨i,hi⟩:=List.mem_iff_getElem?.1 hv
  have hil:=(Js.1 hi).1
  rw [List.length_take] at hil
  rw [List.getElem?_take_of_lt (by omega)] at hi
  exact h1 i v (by show i<bsI l q;omega) hi
 have hd:∀v,v∈l.drop (bsI l q)→q<v:=fun v hv=>by
  obtain⟨i,hi⟩:=List.mem_iff_getElem?.1 hv
  rw [List.getElem?_drop] at hi
  have h3:=h2 (bsI l q+i) v (by show bsI l q≤_;omega) hi
  have h4:v≠q:=fun e=>hq (e▸Jm hi)
  omega
 refine⟨hs.sublist (List.take_sublist _ _),⟨hd,hs.sublist (List.drop_sublist _ _)⟩,fun a ha b hb => ?_⟩
 rcases List.mem_cons.1 hb with h3|h3
 ·subst h3;exact hk a ha
 ·have := hk a ha
  have:=hd b h3
  omega
theorem movI_mem {p q r:Int} {x:Ins} (hs:x.to.Pairwise (· < ·)):r∈(movI p q x).to↔(r∈x.to∧r≠p)∨(r=q∧p∈x.to):=by
 have hnd:x.to.Nodup:=hs.imp (fun {a b} h=>by omega)
 unfold movI
 by_cases hp:p∈x.to
 ·rw [if_pos hp]
  show r∈(x.to.eraseIdx (x.to.idxOf p)).insertIdx _ q↔_
  rw [List.mem_insertIdx (bsI_le _ _),←List.erase_eq_eraseIdx_of_idxOf rfl,hnd.mem_erase_iff]
  constructor
  ·rintro (h | ⟨h1, h2⟩)
   ·exact .inr ⟨h,hp⟩
   ·exact .inl ⟨h2,h1⟩
  ·rintro (⟨h1, h2⟩ | ⟨h, -⟩)
   ·exact .inr ⟨h2,h1⟩
   ·exact .inl h
 ·rw [if_neg hp]
  constructor
  ·intro h;exact .inl ⟨h,fun e=>hp (e▸h)⟩
  ·rintro (⟨h, -⟩ | ⟨-, h⟩)
   ·exact h
   ·exact absurd h hp
theorem movI_sorted {p q:Int} {x:Ins} (hs:x.to.Pairwise (· < ·)) (hq:q∉x.to):(movI p q x).to.Pairwise (· < ·):=by
 unfold movI
 split
 ·exact insert_sorted (hs.sublist (List.eraseIdx_sublist _ _)) fun h=>hq (List.mem_of_mem_eraseIdx h)
 ·exact hs
theorem movI_lens {p q:Int} {x:Ins} (h:x.args.length=x.to.length):(movI p q x).args.length=(movI p q x).to.length∧(movI p q x).to.length=x.to.length:=by
 unfold movI
 split
 ·rename_i hp
  have hk:=List.idxOf_lt_length_of_mem hp
  have e1:(x.to.eraseIdx (x.to.idxOf p)).length=x.to.length - 1:=by rw [List.length_eraseIdx,if_pos hk]
  have e2:(x.args.eraseIdx (x.to.idxOf p)).length=x.to.length - 1:=by rw [List.length_eraseIdx,if_pos (by omega),h]
  have hb:=bsI_le (x.to.eraseIdx (x.to.idxOf p)) q
  show(List.insertIdx _ _ _).length=(List.insertIdx _ _ _).length∧(List.insertIdx _ _ _).length=_
  rw [List.length_insertIdx_of_le_length (by omega),List.length_insertIdx_of_le_length hb]
  omega
 ·exact⟨h,rfl⟩
theorem LInv.join {n:Nat} {la lb:List Ins} (ha:LInv n la) (hb:LInv n lb) (hno:∀x,x∈lb→x.op≠25):LInv n (la.dropLast++lb):=by
 have hin:∀y,y∈la.dropLast++lb→y∈la∨y∈lb:=fun y hy=>by
  rcases List.mem_append.1 hy with h1|h1
  ·exact .inl ((List.dropLast_sublist la).subset h1)
  ·exact .inr h1
 have hbn:=hb.wf.ne
 have hlast:(la.dropLast++lb).getLast? = lb.getLast? := by
  cases hl:lb.getLast? with
  | none=>exact absurd (List.getLast?_eq_none_iff.1 hl) hbn
  | some x =>
   obtain⟨ys,hys⟩:=List.getLast?_eq_some_iff.1 hl
   rw [hys,←List.append_assoc,List.getLast?_concat]
 have hla:∀i,i<la.dropLast.length→la.dropLast[i]? = la[i]? := fun i hi=>by
  rw [List.getElem?_dropLast,if_pos (by rwa [List.length_dropLast] at hi)]
 refine⟨⟨fun e=>hbn (List.append_eq_nil_iff.1 e).2,fun y hy ho => ?_,fun y hy ho => ?_,fun y hy ho => ?_,fun y hy t ht => ?_⟩,fun i j y z hi hj hij ho => ?_,fun i y hi hl => ?_,fun y hy=>hb.fin y (by rw [←hlast];exact hy),fun y hy ho => ?_,fun y hy => ?_⟩
 ·rcases hin y hy with h1 | h1
  ·exact ha.wf.brif y h1 ho
  ·exact hb.wf.brif y h1 ho
 ·rcases hin y hy with h1 | h1
  ·exact ha.wf.br y h1 ho
  ·exact hb.wf.br y h1 ho
 ·rcases hin y hy with h1 | h1
  ·exact ha.wf.phi y h1 ho
  ·exact hb.wf.phi y h1 ho
 ·rcases hin y hy with h1 | h1
  ·exact ha.wf.to_ y h1 t ht
  ·exact hb.wf.to_ y h1 t ht
 ·have hjl:j<la.dropLast.length:=by
   rcases Nat.lt_or_ge j la.dropLast.length with h1|h1
   ·exact h1
   ·rw [List.getElem?_append_right h1] at hj
    exact absurd ho (hno z (Jm hj))
  rw [List.getElem?_append_left hjl,hla j hjl] at hj
  rw [List.getElem?_append_left (by omega),hla i (by omega)] at hi
  exact ha.fr i j y z hi hj hij ho
 ·rw [List.length_append] at hl
  by_cases h1:i<la.dropLast.length
  ·rw [List.getElem?_append_left h1, hla i h1] at hi
   rw [List.length_dropLast] at h1
   exact ha.mid i y hi (by omega)
  ·rw [List.getElem?_append_right (by omega)] at hi
   exact hb.mid _ y hi (by omega)
 ·rcases hin y hy with h1 | h1
  ·exact ha.srt y h1 ho
  ·exact hb.srt y h1 ho
 ·rcases hin y hy with h1 | h1
  ·exact ha.sz y h1
  ·exact hb.sz y h1
theorem TInv.merged {bs bs':List (List Ins)} (h:TInv bs) (hd:Q3 (Zu (Yo bs) bs.length) bs=some bs'):TInv bs'∧mz bs'<mz bs:=by
 unfold Q3 at hd
 cases hf:(List.range bs.length).find? (mgB (Zu (Yo bs) bs.length) bs) with
 | none=>rw [hf] at hd;cases hd
 | some a =>
  rw [hf] at hd
  cases hd
  show TInv (Yn ((List.replicate bs.length false).set (mgTo bs a) true) (mgAt bs a (mgTo bs a)))∧mz (Yn ((List.replicate bs.length false).set (mgTo bs a) true) (mgAt bs a (mgTo bs a)))<mz bs
  obtain⟨h1,h2, -⟩:=List.find?_range_eq_some.1 hf
  have hal:=List.mem_range.1 h2
  obtain⟨la,hla⟩:∃la,bs[a]? = some la:=⟨_,Jg hal⟩
  unfold mgB at h1
  cases he:endI bs a with
  | none=>rw [he] at h1;cases h1
  | some x =>
   rw [he] at h1
   simp only [Bool.and_eq_true,decide_eq_true_eq,Bool.not_eq_true',decide_eq_false_iff_not] at h1
   obtain⟨⟨⟨h31,hba⟩,hP1⟩,h25⟩:=h1
   have hx:la.getLast? = some x:=by rw [←Zg hla];exact he
   have hxm:=List.mem_of_getLast? hx
   have hLa:=h.loc a la hla
   have hto1:=hLa.wf.br x hxm h31
   obtain⟨tb,hto⟩:∃tb,x.to = [tb]:=by
    match h9:x.to,hto1 with
    | [t],_=>exact⟨t,rfl⟩
   have htb:1≤tb∧tb<bs.length:=⟨(hLa.fin x hx).2.2 tb (by rw [hto];simp),(hLa.wf.to_ x hxm tb (by rw [hto];simp)).2⟩
   obtain⟨b,hb⟩:∃b,b=mgTo bs a:=⟨_,rfl⟩
   rw [←hb] at hba hP1 h25⊢
   have hbt:(b:Int)=tb:=by
    rw [hb]
    unfold mgTo
    rw [he]
    simp only [Option.map_some,hto,Option.getD_some,Jq,List.getElem?_cons_zero]
    omega
   have hbl:b<bs.length:=by omega
   obtain⟨lb,hlb⟩:∃lb,bs[b]? = some lb:=⟨_,Jg hbl⟩
   have hLb:=h.loc b lb hlb
   have hgb:bs.getD b []=lb:=by rw [Jq,hlb];rfl
   have hga:bs.getD a []=la:=by rw [Jq,hla];rfl
   rw [hgb] at h25
   have hno:=fronts_none hLb.fr h25
   have hendA:∀c,Qr bs a c↔c=(b:Int):=fun c=>by
    unfold Qr
    rw [he]
    constructor
    ·rintro ⟨y, hy, -, hc⟩
     cases hy
     rw [hto] at hc
     rw [hbt]
     exact List.mem_singleton.1 hc
    ·intro hc
     exact⟨x,rfl, .inl h31,by rw [hto,hc,hbt];simp⟩
   -- only a comes «to» b
   have honly:∀p,Qr bs p (b:Int)→p=a:=fun p hp=>by
    have hpl:=Ybx hp
    have e1:(Zu (Yo bs) bs.length).getD b []=Q1 (Yo bs) b bs.length:=by
     unfold Zu
     rw [Jq,List.getElem?_map,List.getElem?_range hbl]
     rfl
    rw [e1] at hP1
    unfold Q1 at hP1
    rw [List.length_map] at hP1
    have m1:p∈(List.range bs.length).filter fun(x:Nat)=>decide ((b:Int)∈Yo bs (x:Int)):=List.mem_filter.2 ⟨List.mem_range.2 hpl,by simpa using (Yay ⟨by omega,by omega⟩).1 hp⟩
    have m2:a∈(List.range bs.length).filter fun(x:Nat)=>decide ((b:Int)∈Yo bs (x:Int)):=List.mem_filter.2 ⟨List.mem_range.2 hal,by simpa using (Yay ⟨by omega,by omega⟩).1 ((hendA b).2 rfl)⟩
    obtain⟨z,hz⟩:=List.length_eq_one_iff.1 hP1
    rw [hz] at m1 m2
    rw [List.mem_singleton.1 m1,List.mem_singleton.1 m2]
   obtain⟨gone,hgone⟩:∃gone,gone=(List.replicate bs.length false).set b true:=⟨_,rfl⟩
   rw [←hgone]
   have hgl:gone.length=bs.length:=by rw [hgone];simp
   have hkept:∀c,Kept gone c↔c≠b:=fun c=>by
    unfold Kept
    rw [hgone,Jq]
    by_cases e:c=b
    ·subst e
     rw [Jf (by simpa using hbl)]
     simp
    ·rw [Je (Ne.symm e), List.getElem?_replicate]
     simp only [ne_eq,e,not_false_eq_true,iff_true]
     split<;>rfl
   -- the rows
   have hJ:∀(c:Nat) l',(mgAt bs a b)[c]? = some l'→c≠b→∃l1,l'=l1.map (movP b a)∧LInv bs.length l1∧(∃l0,bs[c]? = some l0∧∀y,y∈l1→y.op=25→y∈l0)∧(c≠a→bs[c]? = some l1)∧(c=a→l1.getLast? = lb.getLast?):=fun c l' hl' hcb=>by
    unfold mgAt Y8 at hl'
    rw [hga,hgb,List.getElem?_map,Je (Ne.symm hcb)] at hl'
    by_cases e:c=a
    ·subst e
     rw [Jf hal] at hl'
     cases hl'
     refine⟨_,rfl,hLa.join hLb hno,⟨la,hla,fun y hy ho => ?_⟩,fun e=>absurd rfl e,fun _ => ?_⟩
     ·rcases List.mem_append.1 hy with h3 | h3
      ·exact(List.dropLast_sublist la).subset h3
      ·exact absurd ho (hno y h3)
     ·cases hl:lb.getLast? with
      | none=>exact absurd (List.getLast?_eq_none_iff.1 hl) hLb.wf.ne
      | some z =>
       obtain⟨ys,hys⟩:=List.getLast?_eq_some_iff.1 hl
       rw [hys,←List.append_assoc,List.getLast?_concat]
    ·rw [Je (Ne.symm e)] at hl'
     cases hq:bs[c]? with
     | none=>rw [hq] at hl';cases hl'
     | some l1 =>
      rw [hq] at hl'
      cases hl'
      exact⟨l1,rfl,h.loc c l1 hq,⟨l1,rfl,fun y hy _=>hy⟩,fun _=>rfl,fun e9=>absurd e9 e⟩
   have hlenM:(mgAt bs a b).length=bs.length:=by unfold mgAt;rw [List.length_map,J_len]
   have hendM:∀p c,p≠b→(Qr (mgAt bs a b) p c↔if p=a then Qr bs b c else Qr bs p c):=fun p c hpb=>by
    by_cases hpl:p<bs.length
    ·obtain ⟨l', hl'⟩ : ∃ l', (mgAt bs a b)[p]? = some l' := ⟨_, Jg (by omega)⟩
     obtain⟨l1,rfl,hi1, -,hne,heq⟩:=hJ p l' hl' hpb
     have key:∀y,l1.getLast? = some y→movP b a y=y:=fun y hy=>by
      unfold movP
      rw [if_neg (hi1.fin y hy).1]
     have e1:endI (mgAt bs a b) p=l1.getLast? := by
      rw [Zg hl',List.getLast?_map]
      cases hq:l1.getLast? with
      | none=>rfl
      | some y=>simp only [Option.map_some];rw [key y hq]
     unfold Qr
     rw [e1]
     by_cases e:p=a
     ·rw [if_pos e,heq e,Zg hlb]
     ·rw [if_neg e,Zg (hne e)]
    ·have e : p ≠ a := by omega
     rw [if_neg e]
     constructor
     ·intro h9;have:=Ybx h9;omega
     ·intro h9;have:=Ybx h9;omega
   have hnoA:∀(c:Nat) l0 y,bs[c]? = some l0→c≠b→y∈l0→y.op=25→(a:Int)∉y.to:=fun c l0 y h0 hcb hy ho hm=>by
    have h9:=(((h.phi c l0 h0 y hy ho).2 a).1 hm).2
    rw [Int.toNat_natCast,hendA] at h9
    omega
   have hmz:mz (mgAt bs a b)+1≤mz bs:=by
    have e1:mz (mgAt bs a b)=mz (Y8 bs a b):=by
     unfold mz mgAt
     rw [List.map_map]
     congr 1
     refine List.map_congr_left fun l1 _ => ?_
     exact wt_map (g:=movP b a) (fun y=>movP_op _ _ y) l1
    have e2:(bs.set a (la.dropLast++lb))[b]? = some lb:=by rw [Je (Ne.symm hba)];exact hlb
    have e3:=mz_set (l':=la.dropLast++lb) hla
    have e4:=mz_set (l' := []) e2
    have e5:Y8 bs a b=(bs.set a (la.dropLast++lb)).set b []:=by unfold Y8;rw [hga,hgb]
    obtain⟨ys,hys⟩:=List.getLast?_eq_some_iff.1 hx
    have e6:la.dropLast=ys:=by rw [hys];simp
    have e7:wt la=wt ys+1:=by
     rw [hys]
     unfold wt
     rw [List.length_append,List.countP_append]
     have:List.countP (fun x=>x.op==32) [x]=0:=by simp [h31]
     rw [this]
     simp only [List.length_singleton]
     omega
    have e8:wt (ys++lb)+1=wt ys+wt lb:=by
     unfold wt
     rw [List.length_append,List.countP_append]
     omega
    have e9:wt ([]:List Ins)=1:=by simp [wt]
    rw [e6] at e3 e4 e5
    rw [e1,e5]
    omega
   refine⟨TInv.without (by omega) ((hkept 0).2 (by omega)) (by rw [hlenM];exact h.pos) (by have:=h.size;omega) (fun c l' hl' hk => ?_) (fun c l' hl' hk y hy t ht => ?_) (fun c l' hl' hk y hy ho => ?_),?_⟩
   ·rw [hlenM]
    have hcb:=(hkept c).1 hk
    obtain⟨l1,rfl,hi1,⟨l0,h0,h01⟩, -, -⟩:=hJ c l' hl' hcb
    have hmo:∀y,y.op≠25→movP b a y=y:=fun y ho=>by unfold movP;rw [if_neg ho]
    have hmp:∀y,y.op=25→movP b a y=movI b a y:=fun y ho=>by unfold movP;rw [if_pos ho]
    refine hi1.map (movP b a) (fun y=>movP_op _ _ y) (fun y _ ho=>by rw [hmo y ho]) (fun y _ ho=>by rw [hmo y ho]) (fun y hy ho => ?_) (fun y hy ho => ?_) (fun y hy t ht => ?_) (fun y hy t ht => ?_) (fun y hy ho => ?_)
    ·rw [hmp y ho];exact(movI_lens (hi1.wf.phi y hy ho)).1
    ·rw [hmp y ho];exact movI_sorted (hi1.srt y hy ho) (hnoA c l0 y h0 hcb (h01 y hy ho) ho)
    ·rcases movP_to ht with h9 | h9
     ·exact hi1.wf.to_ y hy t h9
     ·omega
    ·rw [hmo y (hi1.fin y hy).1] at ht
     exact(hi1.fin y hy).2.2 t ht
    ·rw [hmp y ho,(movI_lens (hi1.wf.phi y hy ho)).2];exact Nat.le_refl _
   ·have hcb := (hkept c).1 hk
    rw [hkept]
    obtain⟨l1,rfl,hi1,⟨l0,h0,h01⟩,hne,heq⟩:=hJ c l' hl' hcb
    obtain⟨z,hz,rfl⟩:=List.mem_map.1 hy
    intro e
    by_cases ho:z.op=25
    ·have hmp : movP b a z = movI b a z := by unfold movP; rw [if_pos ho]
     rw [hmp,movI_mem (hi1.srt z hz ho)] at ht
     rcases ht with⟨h3,h4⟩|⟨h3, -⟩
     ·have := hi1.wf.to_ z hz t h3
      omega
     ·omega
    ·have hmo : movP b a z = z := by unfold movP; rw [if_neg ho]
     rw [hmo] at ht
     rcases hi1.kinds hz with h3|h3|⟨h3,h4⟩
     ·exact ho h3
     ·rw [h3] at ht;cases ht
     ·have hr := hi1.wf.to_ z hz t ht
      by_cases ec:c=a
      ·rw [heq ec] at h3
       have h5:Qr bs b (b:Int):=⟨z,by rw [Zg hlb];exact h3,h4,by rw [←e,show((t.toNat:Nat):Int)=t by omega];exact ht⟩
       exact hba (honly b h5)
      ·have h5 : Qr bs c (b : Int) := ⟨z, by rw [Zg (hne ec)]; exact h3, h4, by rw [← e, show ((t.toNat : Nat) : Int) = t by omega]; exact ht⟩
       exact ec (honly c h5)
   ·have hcb := (hkept c).1 hk
    obtain⟨l1,rfl,hi1,⟨l0,h0,h01⟩,hne,heq⟩:=hJ c l' hl' hcb
    obtain⟨z,hz,rfl⟩:=List.mem_map.1 hy
    rw [movP_op] at ho
    have hmp:movP b a z=movI b a z:=by unfold movP;rw [if_pos ho]
    obtain⟨g1,g2⟩:=h.phi c l0 h0 z (h01 z hz ho) ho
    refine⟨g1,fun p => ?_⟩
    rw [hmp,movI_mem (hi1.srt z hz ho),g2 p,g2 b,hkept]
    have hnA:=hnoA c l0 z h0 hcb (h01 z hz ho) ho
    constructor
    ·rintro (⟨⟨p0, p1⟩, p2⟩ | ⟨p0, p1, p2⟩)
     ·refine ⟨p0, by omega, ?_⟩
      rw [hendM _ _ (by omega)]
      have:p.toNat≠a:=fun e=>hnA ((g2 a).2 ⟨by omega,by rw [Int.toNat_natCast,←e];exact p1⟩)
      rw [if_neg this]
      exact p1
     ·refine ⟨by omega, by omega, ?_⟩
      rw [hendM _ _ (by omega),if_pos (by omega)]
      rw [Int.toNat_natCast] at p2
      exact p2
    ·rintro ⟨p0, p1, p2⟩
     rw [hendM _ _ p1] at p2
     by_cases e:p.toNat=a
     ·rw [if_pos e] at p2
      exact .inr ⟨by omega,by omega,by rw [Int.toNat_natCast];exact p2⟩
     ·rw [if_neg e] at p2
      exact .inl ⟨⟨p0,p2⟩,by omega⟩
   ·have := mz_without (bs := mgAt bs a b) (gone := gone)
    omega
theorem TInv.step {bs bs':List (List Ins)} (h:TInv bs) (hd:Zi bs=some bs'):TInv bs'∧mz bs'<mz bs:=by
 unfold Zi at hd
 cases hf:(List.range 5).find? fun i=>(Qc bs i).isSome with
 | none=>rw [hf] at hd;cases hd
 | some i =>
  rw [hf] at hd
  have hd:Qc bs i=some bs':=hd
  unfold Qc at hd
  split at hd
  ·exact h.decided hd
  ·exact h.twice hd
  ·exact h.single hd
  ·exact h.unseen hd
  ·exact h.merged hd
theorem TInv.inv {f:Fun} (hp:f.params.length≤2000000):InvT TInv f:=by
 refine⟨fun bs h=>⟨hp,?_,fun l hl=>⟨?_,fun x hx => ?_⟩⟩,fun bs h l hl => ?_,fun bs h l hl => ?_,fun bs bs' h hd=>h.step hd⟩
 ·show bs.length ≤ 2000000
  have:=mz_len bs
  have:=h.size
  omega
 ·have hl' : l ∈ bs := hl
  have h1:=mz_mem hl'
  have:=h.size
  unfold wt at h1
  omega
 ·have hl' : l ∈ bs := hl
  obtain⟨c,hc⟩:=List.mem_iff_getElem?.1 hl'
  exact(h.loc c l hc).sz x hx
 ·obtain ⟨c, hc⟩ := List.mem_iff_getElem?.1 hl
  exact(h.loc c l hc).wf
 ·obtain ⟨c, hc⟩ := List.mem_iff_getElem?.1 hl
  exact(h.loc c l hc).fr
def Zy (x:Ins):List (Int×Opd):=x.to.zip x.args
theorem Ybf {x:Ins} {q:Int×Opd} (h:q∈Zy x):q.1∈x.to∧q.2∈x.args:=⟨(List.of_mem_zip h).1,(List.of_mem_zip h).2⟩
theorem zip_erase {α β : Type} : ∀ (l : List α) (m : List β) (i : Nat), l.length = m.length → (l.eraseIdx i).zip (m.eraseIdx i) = (l.zip m).eraseIdx i
 | [], [],_,_=>by simp
 | [],b :: m,_,h=>by simp at h
 | a :: l, [],_,h=>by simp at h
 | a :: l,b :: m,0,_=>by simp
 | a :: l,b :: m,i+1,h=>by
  rw [List.eraseIdx_cons_succ,List.eraseIdx_cons_succ,List.zip_cons_cons,List.zip_cons_cons,List.eraseIdx_cons_succ,zip_erase l m i (by simpa using h)]
theorem args_drop {p:Int} {x:Ins} {a:Opd} (hq:a∈(Qy p x).args):a∈x.args:=by
 unfold Qy at hq
 split at hq
 ·exact List.mem_of_mem_eraseIdx hq
 ·exact hq
theorem zip_insert {α β : Type} : ∀ (l : List α) (m : List β) (i : Nat) (a : α) (b : β), l.length = m.length → i ≤ l.length → ∀ q, q ∈ (l.insertIdx i a).zip (m.insertIdx i b) → q = (a, b) ∨ q ∈ l.zip m
 | l,m,0,a,b,_,_,q,hq=>by
  simp only [List.insertIdx_zero,List.zip_cons_cons,List.mem_cons] at hq
  exact hq
 | [],m,i+1,a,b,_,hi,q,hq=>by simp at hi
 | x :: l, [],i+1,a,b,h,_,q,hq=>by simp at h
 | x :: l,y :: m,i+1,a,b,h,hi,q,hq=>by
  rw [List.insertIdx_succ_cons,List.insertIdx_succ_cons,List.zip_cons_cons,List.mem_cons] at hq
  rcases hq with hq|hq
  ·right;rw [List.zip_cons_cons,hq];exact List.mem_cons_self ..
  ·rcases zip_insert l m i a b (by simpa using h) (by simpa using hi) q hq with h1 | h1
   ·exact .inl h1
   ·right;rw [List.zip_cons_cons];exact List.mem_cons_of_mem _ h1
theorem takes_mov {p q:Int} {x:Ins} (h:x.args.length=x.to.length) (hq:q∉x.to) {r:Int} {a:Opd} (hr:(r,a)∈Zy (movI p q x)):(r=q∧(p,a)∈Zy x)∨(r≠q∧(r,a)∈Zy x):=by
 by_cases hp:p∈x.to
 ·have e:Zy (movI p q x)=((x.to.eraseIdx (x.to.idxOf p)).insertIdx (bsI (x.to.eraseIdx (x.to.idxOf p)) q) q).zip ((x.args.eraseIdx (x.to.idxOf p)).insertIdx (bsI (x.to.eraseIdx (x.to.idxOf p)) q) (x.args.getD (x.to.idxOf p) ⟨0,0,0⟩)):=by
   unfold Zy movI
   rw [if_pos hp]
  rw [e] at hr
  have hk:=List.idxOf_lt_length_of_mem hp
  have hl:(x.to.eraseIdx (x.to.idxOf p)).length=(x.args.eraseIdx (x.to.idxOf p)).length:=by
   rw [List.length_eraseIdx,List.length_eraseIdx,if_pos hk,if_pos (by omega),h]
  rcases zip_insert _ _ _ _ _ hl (bsI_le _ _) _ hr with h1|h1
  ·simp only [Prod.mk.injEq] at h1
   obtain⟨h2,h3⟩:=h1
   left
   refine⟨h2,?_⟩
   have hpk:x.to[x.to.idxOf p]? = some p:=by
    rw [Jg hk,List.getElem_idxOf hk]
   have hak:x.args[x.to.idxOf p]? = some (x.args.getD (x.to.idxOf p) ⟨0,0,0⟩):=Zq (by omega)
   rw [h3]
   exact Jm (i:=x.to.idxOf p) (by unfold Zy;rw [List.getElem?_zip_eq_some];exact⟨hpk,hak⟩)
  ·right
   rw [zip_erase _ _ _ h.symm] at h1
   have h2:(r,a)∈Zy x:=List.mem_of_mem_eraseIdx h1
   exact⟨fun e=>hq (e▸(Ybf h2).1),h2⟩
 ·rw [movI_no hp] at hr
  exact .inr ⟨fun e=>hq (e▸(Ybf hr).1),hr⟩
theorem args_mov {p q:Int} {x:Ins} (h:x.args.length=x.to.length) {a:Opd} (ha:a∈(movI p q x).args):a∈x.args:=by
 by_cases hp:p∈x.to
 ·have hk := List.idxOf_lt_length_of_mem hp
  have e:(movI p q x).args=(x.args.eraseIdx (x.to.idxOf p)).insertIdx (bsI (x.to.eraseIdx (x.to.idxOf p)) q) (x.args.getD (x.to.idxOf p) ⟨0,0,0⟩):=by
   unfold movI
   rw [if_pos hp]
  rw [e] at ha
  have hl:(x.to.eraseIdx (x.to.idxOf p)).length=(x.args.eraseIdx (x.to.idxOf p)).length:=by
   rw [List.length_eraseIdx,List.length_eraseIdx,if_pos hk,if_pos (by omega),h]
  rcases (List.mem_insertIdx (by rw [←hl];exact bsI_le _ _)).1 ha with h1|h1
  ·rw [h1];exact Jm (Zq (by omega))
  ·exact List.mem_of_mem_eraseIdx h1
 ·rw [movI_no hp] at ha;exact ha
def lostP (gone:List Int) (x:Ins):List (Int×Opd):=(Zy x).filter fun q => !(gone.contains q.1)
def Qw (x:Ins) (ps:List (Int×Opd)):Ins:=⟨x.op,x.reg,x.ty,x.num,x.flags,ps.map Prod.snd,ps.map Prod.fst⟩
def Ze (gone:List Int) (x:Ins):Ins:=if x.op=25 then Qw x (lostP gone x) else x
theorem Yb4 {x:Ins} (h:x.args.length=x.to.length):(Zy x).map Prod.fst=x.to:=by
 unfold Zy
 rw [List.map_fst_zip (by omega)]
theorem takes_snd {x:Ins} (h:x.args.length=x.to.length):(Zy x).map Prod.snd=x.args:=by
 unfold Zy
 rw [List.map_snd_zip (by omega)]
theorem setTakes_self {x:Ins} (h:x.args.length=x.to.length):Qw x (Zy x)=x:=by
 unfold Qw
 rw [Yb4 h,takes_snd h]
theorem takes_set (x:Ins) (ps:List (Int×Opd)):Zy (Qw x ps)=ps:=by
 unfold Zy Qw
 induction ps with
 | nil=>rfl
 | cons p ps ih =>
  simp only [List.map_cons,List.zip_cons_cons]
  simp only at ih
  rw [ih]
theorem filter_erase {l:List (Int×Opd)} {p:Int} (h:(l.map Prod.fst).Nodup):l.filter (fun q => !(q.1==p))=l.eraseIdx ((l.map Prod.fst).idxOf p):=by
 induction l with
 | nil=>simp
 | cons a l ih =>
  rw [List.map_cons,List.nodup_cons] at h
  rw [List.filter_cons,List.map_cons]
  by_cases e:a.1=p
  ·rw [if_neg (by simp [e]), show List.idxOf p (a.1 :: l.map Prod.fst) = 0 by rw [e, List.idxOf_cons_self], List.eraseIdx_zero, List.tail_cons]
   refine List.filter_eq_self.2 ?_
   intro q hq
   have:q.1≠p:=fun e2=>h.1 (by rw [e,←e2];exact List.mem_map_of_mem hq)
   simpa using this
  ·rw [if_pos (by simpa using e),ih h.2,show List.idxOf p (a.1 :: l.map Prod.fst)=List.idxOf p (l.map Prod.fst)+1 by rw [List.idxOf_cons,show(a.1==p)=false from beq_eq_false_iff_ne.2 e];rfl,List.eraseIdx_cons_succ]
theorem takes_dropP {p:Int} {x:Ins} (h:x.args.length=x.to.length) (hs:x.to.Pairwise (· < ·)):Zy (Qy p x)=(Zy x).filter fun q => !(q.1==p):=by
 have hnd:x.to.Nodup:=hs.imp (fun {a b} h=>by omega)
 rw [filter_erase (by rw [Yb4 h];exact hnd),Yb4 h]
 unfold Qy
 by_cases hp:p∈x.to
 ·rw [if_pos hp]
  unfold Zy
  exact zip_erase _ _ _ h.symm
 ·rw [if_neg hp, List.eraseIdx_of_length_le]
  have h1:x.to.idxOf p=x.to.length:=List.idxOf_eq_length hp
  rw [h1]
  unfold Zy
  rw [List.length_zip]
  omega
theorem dropPhi_fields (p:Int) (x:Ins):Y7 p x=Qw x (Zy (Y7 p x))∨(Y7 p x).args.length≠(Y7 p x).to.length:=by
 by_cases h:(Y7 p x).args.length=(Y7 p x).to.length
 ·left
  unfold Qw
  rw [Yb4 h,takes_snd h]
  unfold Y7 Qy
  split
  ·split<;>rfl
  ·rfl
 ·exact .inr h
theorem lostI_one {p:Int} {x:Ins} (h:x.op=25→x.args.length=x.to.length∧x.to.Pairwise (· < ·)):Ze [p] x=Y7 p x:=by
 by_cases ho:x.op=25
 ·obtain ⟨h1, h2⟩ := h ho
  have h3:(Y7 p x).args.length=(Y7 p x).to.length:=by unfold Y7;rw [if_pos ho];exact phiLen_drop h1
  rcases dropPhi_fields p x with h4|h4
  ·rw [h4]
   unfold Ze lostP
   rw [if_pos ho]
   congr 1
   have e:Y7 p x=Qy p x:=by unfold Y7;rw [if_pos ho]
   rw [e,takes_dropP h1 h2]
   refine List.filter_congr fun q _ => ?_
   congr 1
   rw [Bool.eq_iff_iff]
   simp
  ·exact absurd h3 h4
 ·unfold Ze Y7
  rw [if_neg ho,if_neg ho]
theorem lostI_all {gone:List Bool} {g:List Int} {x:Ins} {n:Nat} (hg:∀t:Int,0≤t→t<n→(g.contains t=true↔gone.getD t.toNat false=true)) (hx:∀t,t∈x.to→0≤t∧t<n) (h:x.op=25→x.args.length=x.to.length∧x.to.Pairwise (· < ·)):Ze g x=Qx gone n x:=by
 by_cases ho:x.op=25
 ·obtain ⟨h1, h2⟩ := h ho
  have key:∀k,(Qx gone k x).args.length=(Qx gone k x).to.length∧(Qx gone k x).to.Pairwise (· < ·)∧Zy (Qx gone k x)=(Zy x).filter (fun q => !(decide (0≤q.1∧q.1.toNat<k∧gone.getD q.1.toNat false=true)))∧Qx gone k x=Qw x (Zy (Qx gone k x)):=by
   intro k
   induction k with
   | zero =>
    refine⟨h1,h2,?_,(setTakes_self h1).symm⟩
    refine(List.filter_eq_self.2 ?_).symm
    intro q _
    simp
   | succ k ih =>
    obtain⟨i1,i2,i3,i4⟩:=ih
    have e25:(Qx gone k x).op=25:=by rw [Ycc];exact ho
    rw [Yaz]
    by_cases hk:gone.getD k false=true
    ·rw [if_pos hk]
     have ed:Y7 k (Qx gone k x)=Qy k (Qx gone k x):=by unfold Y7;rw [if_pos e25]
     have l1:=phiLen_drop (p:=(k:Int)) i1
     refine⟨by rw [ed];exact l1,by rw [ed];exact i2.sublist (dropP_sub _ _),?_,?_⟩
     ·rw [ed, takes_dropP i1 i2, i3, List.filter_filter]
      refine List.filter_congr fun q hq => ?_
      have hq1:=hx q.1 (Ybf hq).1
      by_cases e:q.1=(k:Int)
      ·have : q.1.toNat = k := by omega
       have hk2:gone[k]?.getD false=true:=by rwa [Jq] at hk
       simp [e,hk2]
      ·have e2 : (q.1 == (k : Int)) = false := by rw [beq_eq_false_iff_ne]; exact e
       rw [e2]
       simp only [Bool.not_false,Bool.true_and]
       congr 1
       rw [decide_eq_decide]
       constructor
       ·rintro⟨a,b,c⟩;exact⟨a,by omega,c⟩
       ·rintro⟨a,b,c⟩;exact⟨a,by omega,c⟩
     ·rcases dropPhi_fields k (Qx gone k x) with h4 | h4
      ·rw [h4, takes_set]
       rw [i4]
       rfl
      ·rw [ed] at h4;exact absurd l1 h4
    ·rw [if_neg hk]
     refine⟨i1,i2,?_,i4⟩
     rw [i3]
     refine List.filter_congr fun q hq => ?_
     congr 1
     rw [decide_eq_decide]
     constructor
     ·rintro⟨a,b,c⟩;exact⟨a,by omega,c⟩
     ·rintro ⟨a, b, c⟩
      refine⟨a,?_,c⟩
      by_cases e:q.1.toNat=k
      ·rw [e] at c;exact absurd c hk
      ·omega
  obtain⟨-, -,k3,k4⟩:=key n
  rw [k4,k3]
  unfold Ze lostP
  rw [if_pos ho]
  congr 1
  refine List.filter_congr fun q hq => ?_
  obtain⟨r1,r2⟩:=hx q.1 (Ybf hq).1
  have h9:=hg q.1 r1 r2
  congr 1
  rw [Bool.eq_iff_iff,h9,decide_eq_true_iff]
  constructor
  ·intro h;exact⟨r1,by omega,h⟩
  ·rintro⟨-, -,h⟩;exact h
 ·rw [dropGI_no gone ho]
  unfold Ze
  rw [if_neg ho]
open Go.RowKit
def InsRead (x:Ins) (w:World) (e:Ending) (w':World):Prop:=∃c t,e = .returned (x.v c t)∧RIns.rep w' w'.heap.size [.int .i64 x.op, .int .i64 x.reg, .int .i64 x.ty, .int .i64 x.num, .int .i64 x.flags,c,t] x∧Below w.heap.size w w'
theorem opd_reads {X:World} {B:Nat} {v:Value} {l:List Opd} (h:OwnV X B v l):∃A C,v = .slice A l.length C∧(0<l.length→∃g,A=some ⟨g,0,none⟩∧∀(i:Nat) x,l[i]? = some x→∀w',Below X.heap.size X w'→w'.cell? ⟨g,i*3,none⟩=some (.int .i64 x.kind)∧w'.cell? ⟨g,i*3+1,none⟩=some (.int .i64 x.num)∧w'.cell? ⟨g,i*3+2,none⟩=some (.int .u64 x.bits)):=by
 obtain⟨A,C,rfl⟩:=Yd h.row
 refine⟨A,C,rfl,fun hl => ?_⟩
 obtain⟨g,cap,hv, -, -⟩:=h.row.form hl
 cases hv
 refine⟨g,rfl,fun i x hi w' hb => ?_⟩
 have hil:=(Js.1 hi).1
 have key:∀j u,j<3→(oc x)[j]? = some u→w'.cell? ⟨g,i*3+j,none⟩=some u:=fun j u hj hu=>by
  rw [hb.cell (p:=⟨g,i*3+j,none⟩) (Ya h.row rfl).2.1,World.ownsRow.cellAt h.row (i*3+j) (by omega),oc_get,show(i*3+j) / 3=i by omega,show(i*3+j) % 3=j by omega,hi]
  exact hu
 exact⟨key 0 _ (by omega) rfl,key 1 _ (by omega) rfl,key 2 _ (by omega) rfl⟩
theorem OwnV.snoc {w':World} {B:Nat} {v':Value} {l:List Opd} {t:Opd} (hl:∀x,x∈l→I64 x.kind∧I64 x.num) (ht:I64 t.kind∧I64 t.num) (h:w'.ownsRow B 62 3 v' (l.length+1) (l.flatMap oc ++ [.int .i64 t.kind, .int .i64 t.num, .int .u64 t.bits])):OwnV w' B v' (l ++ [t]):=by
 refine⟨?_,fun x hx => ?_⟩
 ·rw [List.length_append, List.length_singleton, List.flatMap_append]
  simpa [oc] using h
 ·rcases List.mem_append.1 hx with h1 | h1
  ·exact hl x h1
  ·rw [List.mem_singleton.1 h1];exact ht
theorem rbr_any (t:Int) (ht:I64 t) (w:World):Calls Tryz.prog 66 #[.int .i64 t] w (JumpP t w):=by
 have hb:Below w.heap.size w ((w.alloc (Obj.cells #[.int .i64 31, .int .i64 (-1), .int .i64 0, .int .i64 0, .int .i64 0, .slice none 0 0, .slice (some ⟨w.heap.size+1,0,none⟩) 1 1] 44)).alloc (Obj.cells #[.int .i64 t] 3)):=((Below.refl _ _).alloc (Nat.le_refl _) _).alloc (by simp) _
 have hq:=Yt (w.alloc (Obj.cells #[.int .i64 31, .int .i64 (-1), .int .i64 0, .int .i64 0, .int .i64 0, .slice none 0 0, .slice (some ⟨w.heap.size+1,0,none⟩) 1 1] 44)) (.cells #[.int .i64 t] 3)
 have hfin:Hid (JumpP t w (.returned (.agg #[.int .i64 31, .int .i64 (-1), .int .i64 0, .int .i64 0, .int .i64 0, .slice none 0 0, .slice (some ⟨w.heap.size+1,0,none⟩) 1 1])) ((w.alloc (Obj.cells #[.int .i64 31, .int .i64 (-1), .int .i64 0, .int .i64 0, .int .i64 0, .slice none 0 0, .slice (some ⟨w.heap.size+1,0,none⟩) 1 1] 44)).alloc (Obj.cells #[.int .i64 t] 3))):=hide ⟨_,rfl,⟨⟨rfl, .inr ⟨_,1,_,rfl,by omega,by simpa using hq,Nat.le_refl _,by unfold maxLen;omega,rfl,rfl⟩⟩,fun x hx=>by rw [List.mem_singleton.1 hx];exact ht⟩,hb⟩
 clear hb hq
 go_enter Tryz.func66,Tryz.ntmps66
 go_wp2
 refine bodyPost_ret (v := .agg #[.int .i64 31, .int .i64 (-1), .int .i64 0, .int .i64 0, .int .i64 0, .slice none 0 0, .slice (some ⟨w.heap.size+1,0,none⟩) 1 1]) (by simp [results,Tryz.results66,go_sem]) rfl ?_
 exact hfin.out
theorem rlast_any (f : Fun) (b q : Nat) (l : List Ins) (ins : Ins) (c1 c2 : Value) (w : World) (B : Nat) (hB : B ≤ w.heap.size) (hf : RFun.rep w B [.string f.name, c1, .int .i64 f.ret, c2] f) (hl : f.blocks[b]? = some l) (hq : l.length = q + 1) (hi : l[q]? = some ins) :
  Calls Tryz.prog 64 #[f.v c1 c2, .int .i64 b] w (InsRead ins w):=by
 obtain⟨hp,hb⟩:=Yk (RFun.later hf (Below.refl _ _) hB)
 obtain⟨A1,k1,h1, -, -⟩:=Rp.slice1_open hp
 obtain⟨A2,k2,h2,hm2,gb⟩:=Rp.slice1_open hb
 cases h1;cases h2
 clear hp hb hf
 obtain⟨n2,hn2⟩:∃n,Hid (n=f.blocks.length):=⟨_,hide rfl⟩
 have hbn:b<n2:=by rw [hn2.out];exact(Js.1 hl).1
 have hbi:(b:Int)<(n2:Int):=by omega
 rw [←hn2.out] at hm2⊢
 obtain⟨W,hW,hwW,hWs,hx,hy⟩:=Qb w #[.string f.name, .slice A1 f.params.length k1, .int .i64 f.ret, .slice A2 n2 k2] #[.int .i64 0, .int .i64 0, .int .i64 0, .int .i64 0, .int .i64 0, .slice none 0 0, .slice none 0 0] 32 44
 have hR:W.heap[w.heap.size+1]? = some (.cells #[.int .i64 0, .int .i64 0, .int .i64 0, .int .i64 0, .int .i64 0, .slice none 0 0, .slice none 0 0] 44 (0,0)):=by
  rw [←hW]
  have:=Yt (w.alloc (.cells #[.string f.name, .slice A1 f.params.length k1, .int .i64 f.ret, .slice A2 n2 k2] 32)) (.cells #[.int .i64 0, .int .i64 0, .int .i64 0, .int .i64 0, .int .i64 0, .slice none 0 0, .slice none 0 0] 44)
  simpa using this
 have x3:=hx 3 _ rfl W (Below.refl _ _)
 clear hx hy
 have hws:w.heap.size≤W.heap.size:=by omega
 obtain⟨b1,o1,rfl,he1⟩:=gb (by rw [←hn2.out];omega)
 obtain⟨d1,hr1,hd1⟩:=he1 b l hl
 obtain⟨A3,c3,h3,hm3,ga3⟩:=Rp.slice_open hr1
 cases h3
 obtain⟨m,hm⟩:=Jn (l.length)
 have y3:=hd1 W hwW
 rw [←hm.out] at hm3 y3
 have c9:(m:Int) - 1=(q:Int):=by have:=hm.out;omega
 have c8:(q:Int)<(m:Int):=by omega
 obtain⟨b3,o3,rfl,he3⟩:=ga3 (by omega)
 obtain⟨_,_,⟨a1,a2,rfl,ha,hto,hwf⟩,hc⟩:=he3 q ins hi
 have hrep:Hid (RIns.rep w w.heap.size [.int .i64 ins.op, .int .i64 ins.reg, .int .i64 ins.ty, .int .i64 ins.num, .int .i64 ins.flags,a1,a2] ins):=hide ⟨a1,a2,rfl,ha,hto,hwf⟩
 obtain⟨A5,k5,h5, -, -⟩:=Rp.slice_open ha
 obtain⟨A6,k6,h6, -, -⟩:=Rp.slice1_open hto
 cases h5;cases h6
 obtain⟨q0,q1,q2,q3,q4,q5,q6⟩:=(hc.later hwW hws).seven
 replace q0:=q0 W (Below.refl _ _)
 replace q1:=q1 W (Below.refl _ _)
 replace q2:=q2 W (Below.refl _ _)
 replace q3:=q3 W (Below.refl _ _)
 replace q4:=q4 W (Below.refl _ _)
 replace q5:=q5 W (Below.refl _ _)
 replace q6:=q6 W (Below.refl _ _)
 obtain⟨N,hN⟩:=Jn (w.heap.size+1)
 have hNw:w.heap.size≤N:=by have:=hN.out;omega
 rw [←hN.out] at hR
 obtain⟨n0,n1,n2',n3,n4,n5,n6⟩:=bx7 hR
 obtain⟨g0,g1,g2,g3,g4,g5,g6⟩:=bf7 hR
 obtain⟨na,hna⟩:=Jn (ins.args.length)
 obtain⟨nt,hnt⟩:=Jn (ins.to.length)
 rw [←hna.out] at q5 hrep
 rw [←hnt.out] at q6 hrep
 refine hd7 hWs hwW hW hR hl hq hi ?_;clear hWs hwW hW hR hl hq hi;intro hWs hwW hW hR hl hq hi
 clear he1 hr1 hd1 ga3 gb he3 ha hto hwf hc
 go_enter Tryz.func64,Tryz.ntmps64
 go_upto_region 1 with(fail)
 rw [hW.out,←hN.out]
 go_wp2
 refine bodyPost_ret (v:=ins.v (.slice A5 na k5) (.slice A6 nt k6)) (by simp [results,Tryz.results64,go_sem,n0,n1,n2',n3,n4,n5,n6,g0,g1,g2,g3,g4,g5,g6]) rfl ?_
 have hfin:=((((((hwW.out.setCell (p:=⟨N,0,none⟩) hNw (.int .i64 ins.op)).setCell (p:=⟨N,1,none⟩) hNw (.int .i64 ins.reg)).setCell (p:=⟨N,2,none⟩) hNw (.int .i64 ins.ty)).setCell (p:=⟨N,3,none⟩) hNw (.int .i64 ins.num)).setCell (p:=⟨N,4,none⟩) hNw (.int .i64 ins.flags)).setCell (p:=⟨N,5,none⟩) hNw (.slice A5 na k5)).setCell (p:=⟨N,6,none⟩) hNw (.slice A6 nt k6)
 exact⟨_,_,rfl,RIns.later hrep.out hfin hfin.size,hfin⟩
end Go.Proofs.YtamjcafjdioidaaGreat
