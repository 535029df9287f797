/- Texts of the chain, without what is not wanted: TdSd, RfP, RfQ, IrY. No condition but sizes. -/
import Derived.Test.YtamjcafjdioidaaGreatUw25
set_option linter.unusedVariables false
set_option linter.unusedSimpArgs false
set_option maxRecDepth 100000
set_option maxHeartbeats 12800000
namespace Go.Proofs.YtamjcafjdioidaaGreat
def fl (bs:List (List Ins)):Nat:=(bs.map List.length).sum
theorem fl_flat (bs:List (List Ins)):bs.flatten.length=fl bs:=by
 unfold fl
 rw [List.length_flatten]
theorem fl_cons (l:List Ins) (bs:List (List Ins)):fl (l :: bs)=l.length+fl bs:=by simp [fl]
theorem fl_append (a b:List (List Ins)):fl (a++b)=fl a+fl b:=by simp [fl]
theorem fl_set {bs:List (List Ins)} {b:Nat} {l l':List Ins} (h:bs[b]? = some l):fl (bs.set b l')+l.length=fl bs+l'.length:=by
 induction bs generalizing b with
 | nil=>simp at h
 | cons y bs ih =>
  cases b with
  | zero=>cases h;rw [List.set_cons_zero,fl_cons,fl_cons];omega
  | succ b=>rw [List.set_cons_succ,fl_cons,fl_cons];have:=ih (by simpa using h);omega
theorem fl_kept {bs : List (List Ins)} (gone : List Bool) : ∀ (k : Nat), k ≤ bs.length → fl ((Z1 gone k).map fun b => (bs.getD b []).map (renI gone)) ≤ fl (bs.take k)
 | 0,_=>by simp [Z1,fl]
 | k+1,hk=>by
  have ih:=fl_kept (bs:=bs) gone k (by omega)
  have h1:bs[k]? = some (bs.getD k []):=Zt (l:=bs) (by omega)
  have e1:bs.take (k+1)=bs.take k ++ [bs.getD k []]:=Zl h1
  have e2:Z1 gone (k+1)=Z1 gone k++(if gone.getD k false=true then [] else [k]):=by
   unfold Z1
   rw [List.range_succ,List.filter_append,List.filter_cons]
   cases gone.getD k false<;>simp
  rw [e1,e2,List.map_append,fl_append,fl_append]
  have e3:fl [bs.getD k []]=(bs.getD k []).length:=by simp [fl]
  have a1:fl (List.map (fun b=>(bs.getD b []).map (renI gone)) (if gone.getD k false=true then [] else [k]))≤(bs.getD k []).length:=by
   cases gone.getD k false with
   | true=>rw [if_pos rfl];simp [fl]
   | false =>
    rw [if_neg (by decide)]
    have e6:fl (List.map (fun b=>(bs.getD b []).map (renI gone)) [k])=((bs.getD k []).map (renI gone)).length:=by simp only [fl,List.map_cons,List.map_nil,List.sum_cons,List.sum_nil,Nat.add_zero]
    rw [e6,List.length_map]
    exact Nat.le_refl _
  omega
theorem fl_without (bs:List (List Ins)) (gone:List Bool):fl (Yn gone bs)≤fl bs∧(Yn gone bs).length≤bs.length:=by
 have:=fl_kept (bs:=bs) gone bs.length (Nat.le_refl _)
 rw [List.take_length] at this
 refine⟨this,?_⟩
 rw [without_len]
 unfold Z1
 have h1:=List.length_filter_le (fun b => !(gone.getD b false)) (List.range bs.length)
 rw [List.length_range] at h1
 exact h1
theorem loseL_length (p:Int) (l:List Ins):(Yaw p l).length=l.length:=by
 unfold Yaw
 rw [List.length_append,List.length_map,←List.length_append,List.takeWhile_append_dropWhile]
theorem fl_loseB (p:Int) (bs:List (List Ins)) (b:Nat):fl (loseB p bs b)=fl bs:=by
 unfold loseB
 rcases Nat.lt_or_ge b bs.length with h|h
 ·have h1 : bs[b]? = some (bs.getD b []) := Zt h
  have:=fl_set (l':=Yaw p (bs.getD b [])) h1
  rw [loseL_length] at this
  omega
 ·rw [List.set_eq_of_length_le h]
theorem fl_loseAll (gone : List Bool) (n : Nat) (bs : List (List Ins)) : ∀ k, fl (loseAll gone n bs k) = fl bs
 | 0=>rfl
 | k+1=>by
  rw [Yar]
  have key:∀(bs:List (List Ins)) j,fl (Qr gone k bs j)=fl bs:=fun bs j=>by
   induction j with
   | zero=>rfl
   | succ j ih =>
    rw [Q6]
    unfold loseIf
    split
    ·rw [fl_loseB,ih]
    ·exact ih
  rw [key,fl_loseAll gone n bs k]
theorem len_loseAll (gone : List Bool) (n : Nat) (bs : List (List Ins)) : ∀ k, (loseAll gone n bs k).length = bs.length
 | 0=>rfl
 | k+1=>by
  rw [Yar]
  have key:∀(bs:List (List Ins)) j,(Qr gone k bs j).length=bs.length:=fun bs j=>by
   induction j with
   | zero=>rfl
   | succ j ih=>rw [Q6,loseIf_len,ih]
  rw [key,len_loseAll gone n bs k]
theorem fl_map (g:Ins→Ins) (bs:List (List Ins)):fl (bs.map fun l=>l.map g)=fl bs:=by
 unfold fl
 rw [List.map_map]
 congr 1
 refine List.map_congr_left fun l _ => ?_
 show(l.map g).length=l.length
 rw [List.length_map]
theorem setEnd_length (l:List Ins) (x:Ins):(setEnd l x).length=l.length:=by simp [setEnd]
theorem fl_setEnd (bs:List (List Ins)) (b:Nat) (x:Ins):fl (bs.set b (setEnd (bs.getD b []) x))=fl bs:=by
 rcases Nat.lt_or_ge b bs.length with h|h
 ·have h1 : bs[b]? = some (bs.getD b []) := Zt h
  have:=fl_set (l':=setEnd (bs.getD b []) x) h1
  rw [setEnd_length] at this
  omega
 ·rw [List.set_eq_of_length_le h]
theorem step_le {bs bs':List (List Ins)} (hd:Yam bs=some bs') (hT:TInv bs):bs'.length≤bs.length∧fl bs'≤fl bs:=by
 unfold Yam at hd
 cases hf:(List.range 5).find? fun i=>(Qd bs i).isSome with
 | none=>rw [hf] at hd;cases hd
 | some i =>
  rw [hf] at hd
  have hd:Qd bs i=some bs':=hd
  unfold Qd at hd
  split at hd
  ·unfold Qe at hd
   cases hq:(List.range bs.length).find? (dcB (Yw bs) bs) with
   | none=>rw [hq] at hd;cases hd
   | some b =>
    rw [hq] at hd
    cases hd
    show(decAt bs b (((endI bs b).map Yad).getD (0,0))).length≤bs.length∧fl (decAt bs b (((endI bs b).map Yad).getD (0,0)))≤fl bs
    unfold decAt
    split
    ·exact⟨by rw [List.length_set];exact Nat.le_refl _,by rw [fl_setEnd];exact Nat.le_refl _⟩
    ·exact⟨by rw [loseB_len,List.length_set];exact Nat.le_refl _,by rw [fl_loseB,fl_setEnd];exact Nat.le_refl _⟩
  ·unfold Ya9 at hd
   cases hq:(List.range bs.length).find? (twB (Yw bs) bs) with
   | none=>rw [hq] at hd;cases hd
   | some b =>
    rw [hq] at hd
    cases hd
    exact⟨by rw [List.length_set];exact Nat.le_refl _,by rw [fl_setEnd];exact Nat.le_refl _⟩
  ·unfold Qw at hd
   cases hq:(List.range bs.length).find? (sgB (Yw bs) bs) with
   | none=>rw [hq] at hd;cases hd
   | some b =>
    rw [hq] at hd
    simp only [Option.bind_some] at hd
    cases hp:Q7 (bs.getD b []) with
    | none=>rw [hp] at hd;cases hd
    | some i =>
     rw [hp] at hd
     simp only [Option.bind_some] at hd
     cases hx:(bs.getD b [])[i]? with
     | none=>rw [hx] at hd;cases hd
     | some x =>
      rw [hx] at hd
      simp only [Option.bind_some] at hd
      cases hv:Ya2 x with
      | none=>rw [hv] at hd;cases hd
      | some v =>
       rw [hv] at hd
       cases hd
       unfold Yai Yaq
       rw [fl_map]
       refine⟨by rw [List.length_map,List.length_set];exact Nat.le_refl _,?_⟩
       rcases Nat.lt_or_ge b bs.length with h|h
       ·have h1 : bs[b]? = some (bs.getD b []) := Zt h
        have h2:=fl_set (l':=(bs.getD b []).eraseIdx i) h1
        have h3:=(List.eraseIdx_sublist (bs.getD b []) i).length_le
        omega
       ·rw [List.set_eq_of_length_le h];exact Nat.le_refl _
  ·unfold Yal at hd
   split at hd
   ·cases hd
    have h1:=fl_without (loseAll ((Yw bs).map fun r => !r) bs.length bs bs.length) ((Yw bs).map fun r => !r)
    rw [fl_loseAll,len_loseAll] at h1
    exact⟨h1.2,h1.1⟩
   ·cases hd
  ·unfold Q5 at hd
   cases hq:(List.range bs.length).find? (mgB (Zw (Yo bs) bs.length) bs) with
   | none=>rw [hq] at hd;cases hd
   | some a =>
    rw [hq] at hd
    cases hd
    show(Yn ((List.replicate bs.length false).set (mgTo bs a) true) (mgAt bs a (mgTo bs a))).length≤bs.length∧fl (Yn ((List.replicate bs.length false).set (mgTo bs a) true) (mgAt bs a (mgTo bs a)))≤fl bs
    obtain⟨h1,h2, -⟩:=List.find?_range_eq_some.1 hq
    obtain⟨b,la,lb,hb,hba,hb1,hbl,hla,hlb, -, -, -⟩:=mg_facts hT (List.mem_range.1 h2) h1
    rw [←hb]
    have h3:=fl_without (mgAt bs a b) ((List.replicate bs.length false).set b true)
    have h4:(mgAt bs a b).length=bs.length:=by unfold mgAt;rw [List.length_map,J_len]
    have h5:fl (mgAt bs a b)≤fl bs:=by
     unfold mgAt
     rw [fl_map]
     have hgb:bs.getD b []=lb:=by rw [Jq,hlb];rfl
     have hga:bs.getD a []=la:=by rw [Jq,hla];rfl
     unfold Zb
     rw [hga,hgb]
     have e2:(bs.set a (la.dropLast++lb))[b]? = some lb:=by rw [Je (Ne.symm hba)];exact hlb
     have e3:=fl_set (l':=la.dropLast++lb) hla
     have e4:=fl_set (l' := []) e2
     rw [List.length_append,List.length_dropLast] at e3
     simp only [List.length_nil] at e4
     omega
    omega
def ArgR (P:Opd→Prop) (l:List Ins):Prop:=∀x,x∈l→∀a,a∈x.args→P a
def ArgP (P:Opd→Prop) (bs:List (List Ins)):Prop:=∀l,l∈bs→ArgR P l
section
variable {P:Opd→Prop} {bs bs':List (List Ins)} {l l':List Ins}
theorem ArgP.getD (h:ArgP P bs) (b:Nat):ArgR P (bs.getD b []):=by
 rw [Jq]
 cases hb:bs[b]? with
 | none=>intro x hx;cases hx
 | some l=>exact h l (Jm hb)
theorem ArgP.set (h:ArgP P bs) (hl:ArgR P l) (b:Nat):ArgP P (bs.set b l):=fun m hm=>by
 rcases List.mem_or_eq_of_mem_set hm with h1|h1
 ·exact h m h1
 ·rw [h1];exact hl
theorem ArgR.setEnd (h:ArgR P l) (t:Int):ArgR P (setEnd l (brJ t)):=fun x hx a ha=>by
 rcases List.mem_or_eq_of_mem_set hx with h1|h1
 ·exact h x h1 a ha
 ·subst h1;cases ha
theorem ArgR.drop (h:ArgR P l) (p:Int):ArgR P (Yaw p l):=by
 have key:∀l,ArgR P l→ArgR P (Yaw p l):=fun l h x hx a ha=>by
  unfold Yaw at hx
  rcases List.mem_append.1 hx with h1|h1
  ·obtain ⟨y, hy, rfl⟩ := List.mem_map.1 h1
   exact h y ((List.takeWhile_sublist _).subset hy) a (args_drop ha)
  ·exact h x ((List.dropWhile_sublist _).subset h1) a ha
 exact key l h
theorem ArgP.lose (h:ArgP P bs) (p:Int) (b:Nat):ArgP P (loseB p bs b):=h.set ((h.getD b).drop p) b
theorem ArgP.loseAll (h : ArgP P bs) (gone : List Bool) (n : Nat) : ∀ k, ArgP P (loseAll gone n bs k)
 | 0=>h
 | k+1=>by
  rw [Yar]
  have h1:=ArgP.loseAll h gone n k
  have key:∀j,ArgP P (Qr gone k (Go.Proofs.YtamjcafjdioidaaGreat.loseAll gone n bs k) j):=by
   intro j
   induction j with
   | zero=>exact h1
   | succ j ih =>
    rw [Q6]
    unfold loseIf
    split
    ·exact ih.lose _ _
    ·exact ih
  exact key n
theorem ArgP.without (h:ArgP P bs) (gone:List Bool):ArgP P (Yn gone bs):=fun l hl x hx a ha=>by
 obtain⟨b, -,rfl⟩:=List.mem_map.1 hl
 obtain⟨y,hy,rfl⟩:=List.mem_map.1 hx
 exact h.getD b y hy a ha
theorem ArgP.step (hT:TInv bs) (h:ArgP P bs) (hd:Yam bs=some bs'):ArgP P bs':=by
 unfold Yam at hd
 cases hf:(List.range 5).find? fun i=>(Qd bs i).isSome with
 | none=>rw [hf] at hd;cases hd
 | some i =>
  rw [hf] at hd
  have hd:Qd bs i=some bs':=hd
  unfold Qd at hd
  split at hd
  ·unfold Qe at hd
   cases hq:(List.range bs.length).find? (dcB (Yw bs) bs) with
   | none=>rw [hq] at hd;cases hd
   | some b =>
    rw [hq] at hd
    cases hd
    show ArgP P (decAt bs b (((endI bs b).map Yad).getD (0,0)))
    unfold decAt
    split
    ·exact h.set ((h.getD b).setEnd _) b
    ·exact(h.set ((h.getD b).setEnd _) b).lose _ _
  ·unfold Ya9 at hd
   cases hq:(List.range bs.length).find? (twB (Yw bs) bs) with
   | none=>rw [hq] at hd;cases hd
   | some b =>
    rw [hq] at hd
    cases hd
    exact h.set ((h.getD b).setEnd _) b
  ·unfold Qw at hd
   cases hq:(List.range bs.length).find? (sgB (Yw bs) bs) with
   | none=>rw [hq] at hd;cases hd
   | some b =>
    rw [hq] at hd
    simp only [Option.bind_some] at hd
    cases hp:Q7 (bs.getD b []) with
    | none=>rw [hp] at hd;cases hd
    | some i =>
     rw [hp] at hd
     simp only [Option.bind_some] at hd
     cases hx:(bs.getD b [])[i]? with
     | none=>rw [hx] at hd;cases hd
     | some x =>
      rw [hx] at hd
      simp only [Option.bind_some] at hd
      cases hv:Ya2 x with
      | none=>rw [hv] at hd;cases hd
      | some v =>
       rw [hv] at hd
       cases hd
       have hvP:P v:=by
        have hxm:=Jm hx
        have hva:v∈x.args:=by
         unfold Ya2 at hv
         split at hv
         ·rename_i h9
          cases hv
          have key:∀k,(Ybt x k).1=Ybs x∨(Ybt x k).1∈x.args:=by
           intro k
           induction k with
           | zero=>exact .inl rfl
           | succ k ih =>
            by_cases hk:k<x.args.length
            ·rw [loneF_next (Jg hk)]
             unfold Zh
             have hm:x.args[k]∈x.args:=List.getElem_mem _
             split
             ·exact ih
             ·split
              ·exact .inr hm
              ·split
               ·exact ih
               ·exact ih
            ·unfold Ybt at ih ⊢
             rw [List.take_of_length_le (by omega)] at ih⊢
             exact ih
          rcases key x.args.length with h8|h8
          ·exact absurd h8 h9.2
          ·exact h8
         ·cases hv
        exact h.getD b x hxm v hva
       intro l hl y hy a ha
       unfold Yai Yaq at hl
       obtain⟨m,hm,rfl⟩:=List.mem_map.1 hl
       obtain⟨z,hz,rfl⟩:=List.mem_map.1 hy
       obtain⟨c,hc,rfl⟩:=List.mem_map.1 (show a∈z.args.map _ from ha)
       have hcP:P c:=(h.set (b:=b) (l:=(bs.getD b []).eraseIdx i) (fun y hy=>h.getD b y ((List.eraseIdx_sublist _ _).subset hy))) m hm z hz c hc
       unfold rsub
       split
       ·exact hvP
       ·exact hcP
  ·unfold Yal at hd
   split at hd
   ·cases hd
    exact(h.loseAll _ _ _).without _
   ·cases hd
  ·unfold Q5 at hd
   cases hq:(List.range bs.length).find? (mgB (Zw (Yo bs) bs.length) bs) with
   | none=>rw [hq] at hd;cases hd
   | some a =>
    rw [hq] at hd
    cases hd
    obtain⟨h1,h2, -⟩:=List.find?_range_eq_some.1 hq
    obtain⟨b,la,lb,hb,hba,hb1,hbl,hla,hlb, -, -, -⟩:=mg_facts hT (List.mem_range.1 h2) h1
    show ArgP P (Yn _ (mgAt bs a (mgTo bs a)))
    rw [←hb]
    refine ArgP.without ?_ _
    intro l' hl' y hy e he
    unfold mgAt at hl'
    obtain⟨m,hm,rfl⟩:=List.mem_map.1 hl'
    obtain⟨z,hz,rfl⟩:=List.mem_map.1 hy
    have hzl:∃l0,l0∈bs∧z∈l0:=by
     unfold Zb at hm
     rw [Jq,hla,Jq,hlb] at hm
     rcases List.mem_or_eq_of_mem_set hm with h3|h3
     ·rcases List.mem_or_eq_of_mem_set h3 with h4 | h4
      ·exact⟨m,h4,hz⟩
      ·subst h4
       rcases List.mem_append.1 hz with h5|h5
       ·exact⟨la,Jm hla,(List.dropLast_sublist la).subset h5⟩
       ·exact⟨lb,Jm hlb,h5⟩
     ·subst h3;cases hz
    obtain⟨l0,hl0,hz0⟩:=hzl
    obtain⟨c,hc⟩:=List.mem_iff_getElem?.1 hl0
    unfold movP at he
    split at he
    ·rename_i h25
     exact h l0 hl0 z hz0 e (args_mov ((hT.loc c l0 hc).wf.phi z hz0 h25) he)
    ·exact h l0 hl0 z hz0 e he
end
def KOk (a:Opd):Prop:=a.kind≠0∧(a.kind=1→a.bits=0)
theorem lone_false {self : Opd} : ∀ (l : List Opd) (s : Opd × Bool), s.2 = false → (l.foldl (Zh self) s).2 = false
 | [],s,h=>h
 | a :: l,s,h=>by
  refine lone_false l (Zh self s a) ?_
  unfold Zh
  split
  ·exact h
  ·split
   ·exact h
   ·split
    ·rfl
    ·exact h
theorem rlo_lone {reg:Int} {self:Opd} (hself:self=⟨1,reg,0⟩):∀(l:List Opd) (s:Opd×Bool) (v:Opd),(∀a,a∈l→KOk a)→s.2=true→((s.1=self∧v.kind=0)∨(s.1=v∧v≠self∧v.kind≠0))→
  ((l.foldl (Zh self) s).2=true∧(l.foldl (Zh self) s).1≠self→rlo reg v l=((l.foldl (Zh self) s).1,true))∧(¬((l.foldl (Zh self) s).2=true∧(l.foldl (Zh self) s).1≠self)→(rlo reg v l).2=false)
 | [],s,v,_,hs,hv=>by
  simp only [List.foldl_nil]
  unfold rlo
  rcases hv with⟨h1,h2⟩|⟨h1,h2,h3⟩
  ·exact⟨fun h=>absurd h1 h.2,fun _=>by simp [h2]⟩
  ·refine ⟨fun _ => by rw [h1]; simp [h3], fun h => absurd ⟨hs, ?_⟩ h⟩
   rw [h1];exact h2
 | a :: l,s,v,hk,hs,hv=>by
  have hka:=hk a (.head _)
  have ea:(a.kind=1∧a.num=reg)↔a=self:=by
   rw [hself]
   constructor
   ·rintro ⟨h1, h2⟩
    have h3:=hka.2 h1
    cases a
    simp only at h1 h2 h3
    rw [h1,h2,h3]
   ·intro h
    rw [h]
    exact⟨rfl,rfl⟩
  rw [List.foldl_cons]
  unfold rlo
  by_cases h1:a=self
  ·rw [if_pos (ea.2 h1)]
   have e1:Zh self s a=s:=by unfold Zh;rw [if_pos h1]
   rw [e1]
   exact rlo_lone hself l s v (fun b hb=>hk b (.tail _ hb)) hs hv
  ·rw [if_neg (fun h => h1 (ea.1 h))]
   rcases hv with⟨h2,h3⟩|⟨h2,h3,h4⟩
   ·have e1 : Zh self s a = (a, s.2) := by unfold Zh; rw [if_neg h1, if_pos h2]
    rw [e1,if_neg (fun h=>h.1 h3)]
    exact rlo_lone hself l _ a (fun b hb=>hk b (.tail _ hb)) hs (.inr ⟨rfl,h1,hka.1⟩)
   ·by_cases h5 : v = a
    ·have e1:Zh self s a=s:=by
      unfold Zh
      rw [if_neg h1,if_neg (by rw [h2];exact h3),if_neg (by rw [h2];exact fun h=>h h5.symm)]
     rw [e1,if_neg (fun h=>h.2 h5)]
     subst h5
     exact rlo_lone hself l s v (fun b hb=>hk b (.tail _ hb)) hs (.inr ⟨h2,h3,h4⟩)
    ·have e1:(Zh self s a).2=false:=by
      unfold Zh
      rw [if_neg h1,if_neg (by rw [h2];exact h3),if_pos (by rw [h2];exact fun h=>h5 h.symm)]
     have e2:=lone_false (self:=self) l (Zh self s a) e1
     rw [if_pos ⟨h4,h5⟩]
     exact⟨fun h=>by rw [e2] at h;exact absurd h.1 (by simp),fun _=>rfl⟩
theorem lone_some {x:Ins} {v:Opd} (hk:∀a,a∈x.args→KOk a) (h:Ya2 x=some v):rlo x.reg ⟨0,0,0⟩ x.args=(v,true):=by
 have h1:=rlo_lone (reg:=x.reg) (self:=Ybs x) rfl x.args (Ybs x,true) ⟨0,0,0⟩ hk rfl (.inl ⟨rfl,rfl⟩)
 unfold Ya2 Ybt at h
 rw [List.take_length] at h
 split at h
 ·rename_i h2
  cases h
  exact h1.1 h2
 ·cases h
theorem lone_none {x:Ins} (hk:∀a,a∈x.args→KOk a) (h:Ya2 x=none):(rlo x.reg ⟨0,0,0⟩ x.args).2=false:=by
 have h1:=rlo_lone (reg:=x.reg) (self:=Ybs x) rfl x.args (Ybs x,true) ⟨0,0,0⟩ hk rfl (.inl ⟨rfl,rfl⟩)
 unfold Ya2 Ybt at h
 rw [List.take_length] at h
 split at h
 ·cases h
 ·rename_i h2
  exact h1.2 h2
theorem flat_at {bs:List (List Ins)}:∀ {b k:Nat} {l:List Ins} {x:Ins},bs[b]? = some l→l[k]? = some x→bs.flatten[((bs.take b).flatten).length+k]? = some x:=by
 intro b k l x hb hk
 have h1:bs=bs.take b++l :: bs.drop (b+1):=by
  have hbl:=(Js.1 hb).1
  have h2:bs.drop b=l :: bs.drop (b+1):=by
   rw [Jg hbl] at hb
   injection hb with hb
   rw [←hb,List.getElem_cons_drop]
  rw [←h2,List.take_append_drop]
 have hkl:=(Js.1 hk).1
 have e:bs.flatten=(bs.take b).flatten++(l++(bs.drop (b+1)).flatten):=by
  conv=>lhs;rw [h1]
  rw [List.flatten_append,List.flatten_cons]
 rw [e,List.getElem?_append_right (by omega),Nat.add_sub_cancel_left,List.getElem?_append_left hkl]
 exact hk
theorem place_at {bs:List (List Ins)} {b k:Nat} {l:List Ins} {x:Ins} (hb:bs[b]? = some l) (hk:l[k]? = some x):(Yl bs bs.length 0)[((bs.take b).flatten).length+k]? = some ⟨0,b,k⟩:=by
 have hkl:=(Js.1 hk).1
 have hbl:=(Js.1 hb).1
 obtain⟨r,hr⟩:=beforeP_all hb (Nat.succ_le_of_lt hkl)
 have h1:=(flat_place bs b (by omega)).1
 rw [←hr,beforeP_step,List.append_assoc]
 have h2:(Yl bs b k).length=((bs.take b).flatten).length+k:=by
  have h3:Yl bs b k=Yl bs b 0++rowP b k:=by unfold Yl;simp [rowP]
  rw [h3,List.length_append,h1]
  simp [rowP]
 rw [List.getElem?_append_right (by omega),h2,Nat.sub_self]
 rfl
theorem flat_index (bs : List (List Ins)) : ∀ n, n ≤ bs.length → ∀ (i : Nat) x, ((bs.take n).flatten)[i]? = some x → ∃ (b k : Nat) (l : List Ins), b < n ∧ i = ((bs.take b).flatten).length + k ∧ bs[b]? = some l ∧ l[k]? = some x
 | 0,_=>fun i x h=>by simp at h
 | n+1,hn=>fun i x hx=>by
  obtain⟨l,hl⟩:∃l,bs[n]? = some l:=⟨_,Jg (by omega)⟩
  have ht:(bs.take (n+1)).flatten=(bs.take n).flatten++l:=by
   rw [List.take_add_one,hl,List.flatten_append]
   simp
  rw [ht] at hx
  by_cases hi:i<((bs.take n).flatten).length
  ·rw [List.getElem?_append_left hi] at hx
   obtain⟨b,k,l',g1,g2,g3,g4⟩:=flat_index bs n (by omega) i x hx
   exact⟨b,k,l',by omega,g2,g3,g4⟩
  ·rw [List.getElem?_append_right (by omega)] at hx
   exact⟨n,i - ((bs.take n).flatten).length,l,by omega,by omega,hl,hx⟩
theorem flat_ahead {bs:List (List Ins)} {b k:Nat} {l:List Ins} (hb:bs[b]? = some l) {i:Nat} (hi:i<((bs.take b).flatten).length+k) (hk:k≤l.length):∃(b' k':Nat) (l':List Ins) (x:Ins),(b'<b∨b'=b∧k'<k)∧bs.flatten[i]? = some x∧(Yl bs bs.length 0)[i]? = some ⟨0,b',k'⟩∧bs[b']? = some l'∧l'[k']? = some x:=by
 have hbl:=(Js.1 hb).1
 by_cases h:i<((bs.take b).flatten).length
 ·obtain ⟨b', k', l', h1, h2, h3, h4⟩ := flat_index bs b (by omega) i _ (Jg h)
  refine⟨b',k',l',_, .inl h1,?_,?_,h3,h4⟩
  ·have h5 := flat_at h3 h4
   rw [←h2] at h5
   exact h5
  ·have h5 := place_at h3 h4
   rw [←h2] at h5
   exact h5
 ·obtain ⟨k', hk'⟩ : ∃ k', i = ((bs.take b).flatten).length + k' := ⟨i - ((bs.take b).flatten).length, by omega⟩
  have h4:l[k']? = some (l[k']'(by omega)):=Jg _
  exact⟨b,k',l,_, .inr ⟨rfl,by omega⟩,(by have h5:=flat_at hb h4;rw [←hk'] at h5;exact h5),(by have h5:=place_at hb h4;rw [←hk'] at h5;exact h5),hb,h4⟩
theorem phI_at {R:List Bool} {bs:List (List Ins)} {b k i:Nat} {x:Ins} (hx:bs.flatten[i]? = some x) (hp:(Yl bs bs.length 0)[i]? = some ⟨0,b,k⟩):phI R (Yl bs bs.length 0) bs.flatten i=(R.getD b false&&(decide (x.op=25)&&(rlo x.reg ⟨0,0,0⟩ x.args).2)):=by
 unfold phI
 rw [hx,hp]
 rfl
theorem phis_single {R:List Bool} {bs:List (List Ins)} (hfr:∀l,l∈bs→Ycm l) (hk:ArgP KOk bs):phisS R bs=Qw R bs:=by
 cases hq:(List.range bs.length).find? (sgB R bs) with
 | none =>
  have hno:∀b,b<bs.length→sgB R bs b=false:=fun b hb=>by
   have:=List.find?_eq_none.1 hq b (List.mem_range.2 hb)
   simpa using this
  have e1:Qw R bs=none:=by unfold Qw;rw [hq];rfl
  rw [e1]
  refine phis_none fun j hj => ?_
  obtain⟨b,k,l,g1,g2,g3⟩:=flat_place_all (Jg hj)
  rw [phI_at (Jg hj) g1]
  have hb:=hno b (Js.1 g2).1
  unfold sgB at hb
  have hgb:bs.getD b []=l:=by rw [Jq,g2];rfl
  rw [hgb] at hb
  cases hR:R.getD b false with
  | false=>rfl
  | true =>
   rw [hR] at hb
   have hl:Q7 l=none:=by
    cases hl:Q7 l with
    | none=>rfl
    | some i=>rw [hl] at hb;cases hb
   by_cases h25:(bs.flatten[j]).op=25
   ·have h9 := noPhi_lone (hfr l (Jm g2)) g3 h25 hl
    have h8:=lone_none (fun a ha=>hk l (Jm g2) _ (Jm g3) a ha) h9
    rw [h8]
    simp
   ·simp [h25]
 | some b =>
  obtain⟨h1,h2,h3⟩:=List.find?_range_eq_some.1 hq
  have hbl:=List.mem_range.1 h2
  obtain⟨l,hl⟩:∃l,bs[b]? = some l:=⟨_,Jg hbl⟩
  have hlm:=Jm hl
  have hgb:bs.getD b []=l:=by rw [Jq,hl];rfl
  have hs:=h1
  unfold sgB at hs
  rw [hgb,Bool.and_eq_true] at hs
  obtain⟨hR,hp⟩:=hs
  obtain⟨i,hi⟩:=Option.isSome_iff_exists.1 hp
  have hi':=hi
  unfold Q7 at hi'
  obtain⟨j1,j2,j3⟩:=List.find?_range_eq_some.1 hi'
  have hit:=List.mem_range.1 j2
  cases hx:l[i]? with
  | none=>rw [hx] at j1;cases j1
  | some x =>
   rw [hx] at j1
   obtain⟨v,hv⟩:=Option.isSome_iff_exists.1 (show(Ya2 x).isSome=true from j1)
   have h25:=phi_front hit hx
   have e1:Qw R bs=some (Yai bs b i x v):=by
    unfold Qw
    rw [hq,Option.bind_some,hgb,hi,Option.bind_some,hx,Option.bind_some,hv]
    rfl
   rw [e1]
   have hka:∀a,a∈x.args→KOk a:=fun a ha=>hk l hlm x (Jm hx) a ha
   have hrl:=lone_some hka hv
   refine phis_found (flat_at hl hx) (place_at hl hx) ?_ (fun j hj => ?_) (by rw [hrl])
   ·rw [phI_at (flat_at hl hx) (place_at hl hx), hR, hrl, h25]
    rfl
   ·obtain ⟨b', k', l', y, hlt, g1, g2, g3, g4⟩ := flat_ahead hl hj (Nat.le_of_lt (Js.1 hx).1)
    rw [phI_at g1 g2]
    by_cases hy:y.op=25
    ·cases hRb:R.getD b' false with
     | false=>rfl
     | true =>
      have hlone:Ya2 y=none:=by
       rcases hlt with h5|⟨h5,h6⟩
       ·have h7 := h3 b' h5
        unfold sgB at h7
        have hgb':bs.getD b' []=l':=by rw [Jq,g3];rfl
        rw [hgb',hRb] at h7
        have hl9:Q7 l'=none:=by
         cases hl9:Q7 l' with
         | none=>rfl
         | some q=>rw [hl9] at h7;simp at h7
        exact noPhi_lone (hfr l' (Jm g3)) g4 hy hl9
       ·subst h5
        rw [hl] at g3
        cases g3
        have h7:=j3 k' h6
        rw [g4] at h7
        cases hl9:Ya2 y with
        | none=>rfl
        | some q =>
         rw [Option.bind_some,hl9] at h7
         simp at h7
      have h8:=lone_none (fun a ha=>hk l' (Jm g3) y (Jm g4) a ha) hlone
      rw [h8]
      simp
    ·simp [hy]
theorem lose_lost {n:Nat} {l:List Ins} (h:LInv n l) (p:Int):Yaw p l=l.map (Zg [p]):=by
 rw [loseL_map h.fr]
 refine List.map_congr_left fun x hx => ?_
 exact(lostI_one fun h25=>⟨h.wf.phi x hx h25,h.srt x hx h25⟩).symm
theorem goes_mem {x:Ins} (h:x.to.length=2):(Yad x).1∈x.to∧(Yad x).2∈x.to:=by
 obtain⟨a,b,e⟩:∃a b,x.to = [a,b]:=by
  match h9:x.to,h with
  | [a,b],_=>exact⟨a,b,rfl⟩
 unfold Yad
 rw [e]
 split<;>simp
theorem ends_decided {R:List Bool} {bs:List (List Ins)} (hT:TInv bs):endsS R bs=(Qe R bs).or (Ya9 R bs):=by
 unfold endsS Qe
 cases hq:(List.range bs.length).find? (dcB R bs) with
 | none=>rfl
 | some b =>
  obtain⟨h1,h2, -⟩:=List.find?_range_eq_some.1 hq
  have hbl:=List.mem_range.1 h2
  obtain⟨l,hl⟩:∃l,bs[b]? = some l:=⟨_,Jg hbl⟩
  have hL:=hT.loc b l hl
  unfold dcB at h1
  cases he:endI bs b with
  | none=>rw [he] at h1;simp at h1
  | some x =>
   rw [he] at h1
   simp only [Bool.and_eq_true,decide_eq_true_eq] at h1
   have hx:l.getLast? = some x:=by rw [←Zi hl];exact he
   have hxm:=List.mem_of_getLast? hx
   have hto:=(hL.wf.brif x hxm h1.2.1).1
   obtain⟨m1,m2⟩:=goes_mem hto
   have r1:=(hL.fin x hx).2.2 _ m1
   have r2:=hL.wf.to_ x hxm _ m1
   have r3:=hL.wf.to_ x hxm _ m2
   have hgb:bs.getD b []=l:=by rw [Jq,hl];rfl
   simp only [Option.map_some,Option.or_some,he,Option.getD_some]
   congr 1
   unfold decAt17 decAt
   split
   ·rfl
   ·unfold loseIB loseB
    rw [hgb]
    refine congrArg (fun z=>some ((bs.set b (setEnd l (brJ (Yad x).1))).set (Yad x).2.toNat z)) ((lose_lost (n:=bs.length) ?_ _).symm)
    have hLe:=hL.setEnd (t:=(Yad x).1) ⟨r1,r2.2⟩
    have ho:(Yad x).2.toNat<bs.length:=by omega
    by_cases e:(Yad x).2.toNat=b
    ·rw [e, Jq, Jf hbl]
     exact hLe
    ·rw [Jq, Je (Ne.symm e), Jg ho]
     exact hT.loc _ _ (Jg ho)
theorem gl17_any {R:List Bool} {n:Nat} (hn:R.length=n):0<(gl17 R n).length↔R.any (fun r => !r)=true:=by
 constructor
 ·intro h
  obtain⟨t,ht⟩:=List.exists_mem_of_length_pos h
  unfold gl17 at ht
  obtain⟨b,hb, -⟩:=List.mem_map.1 ht
  obtain⟨h1,h2⟩:=List.mem_filter.1 hb
  have hbl:b<R.length:=by have:=List.mem_range.1 h1;omega
  rw [List.any_eq_true]
  refine⟨R[b],List.getElem_mem _,?_⟩
  rw [Jq,Jg hbl] at h2
  exact h2
 ·intro h
  rw [List.any_eq_true] at h
  obtain⟨r,hr,h1⟩:=h
  obtain⟨b,hb⟩:=List.mem_iff_getElem?.1 hr
  have hbl:=(Js.1 hb).1
  have:(b:Int)∈gl17 R n:=gl17_mem.2 ⟨by omega,by rw [Jq,hb];simpa using h1⟩
  exact List.length_pos_of_mem this
theorem without_congr {gone:List Bool} {cs bs:List (List Ins)} (hl:cs.length=bs.length) (h:∀c,c<bs.length→Kept gone c→cs.getD c []=bs.getD c []):Yn gone cs=Yn gone bs:=by
 unfold Yn
 rw [hl]
 refine List.map_congr_left fun b hb => ?_
 obtain⟨h1,h2⟩:=keptN_kept hb
 rw [h b h1 h2]
theorem unseen_lost {R:List Bool} {bs:List (List Ins)} (hT:TInv bs) (hn:R.length=bs.length):Yn (R.map fun r => !r) (bs.map fun l=>l.map (Zg (gl17 R bs.length)))=Yn (R.map fun r => !r) (loseAll (R.map fun r => !r) bs.length bs bs.length):=by
 obtain⟨gone,hg⟩:∃gone,gone=R.map fun r => !r:=⟨_,rfl⟩
 rw [←hg]
 have hgd:∀c,c<bs.length→gone.getD c false = !(R.getD c false):=fun c hc=>by
  rw [hg,Jq,List.getElem?_map,Jq,Jg (by omega)]
  rfl
 refine without_congr (by rw [List.length_map,(Ycd (gone:=gone) (n:=bs.length) (bs:=bs) 0 bs.length (Nat.le_refl _)).1]) fun c hc hk => ?_
 rw [(Ycd (gone:=gone) (n:=bs.length) (bs:=bs) 0 bs.length (Nat.le_refl _)).1] at hc
 obtain⟨l,hl⟩:∃l,bs[c]? = some l:=⟨_,Jg hc⟩
 have h1:=(Ycd (gone:=gone) (n:=bs.length) (bs:=bs) c bs.length (Nat.le_refl _)).2
 rw [hl] at h1
 unfold Kept at hk
 simp only [Option.map_some] at h1
 rw [if_pos ⟨hc,hk⟩] at h1
 rw [Jq,Jq,h1,List.getElem?_map,hl]
 have hL:=hT.loc c l hl
 show l.map (Zg (gl17 R bs.length))=dropG gone bs.length l
 rw [(dropG_map gone hL bs.length).1]
 refine List.map_congr_left fun x hx => ?_
 refine lostI_all (n:=bs.length) (fun t h2 h3 => ?_) (fun t ht=>hL.wf.to_ x hx t ht) fun h25=>⟨hL.wf.phi x hx h25,hL.srt x hx h25⟩
 obtain⟨k,rfl⟩:=Int.eq_ofNat_of_zero_le h2
 have hk2:k<bs.length:=by omega
 rw [List.contains_iff_mem,gl17_mem,Int.toNat_natCast,hgd k hk2]
 simp [hk2]
theorem sorted_ext : ∀ {l m : List (Int × Opd)}, l.Pairwise (fun a b => a.1 < b.1) → m.Pairwise (fun a b => a.1 < b.1) → (∀ z, z ∈ l ↔ z ∈ m) → l = m
 | [], [],_,_,_=>rfl
 | [],b :: m,_,_,h=>absurd ((h b).2 (.head _)) (by simp)
 | a :: l, [],_,_,h=>absurd ((h a).1 (.head _)) (by simp)
 | a :: l,b :: m,hl,hm,h=>by
  rw [List.pairwise_cons] at hl hm
  have e:a=b:=by
   rcases List.mem_cons.1 ((h a).1 (.head _)) with h1|h1
   ·exact h1
   ·rcases List.mem_cons.1 ((h b).2 (.head _)) with h2 | h2
    ·exact h2.symm
    ·have := hm.1 a h1
     have:=hl.1 b h2
     omega
  subst e
  congr 1
  refine sorted_ext hl.2 hm.2 fun z=>⟨fun hz => ?_,fun hz => ?_⟩
  ·rcases List.mem_cons.1 ((h z).1 (.tail _ hz)) with h1 | h1
   ·subst h1;exact absurd (hl.1 z hz) (by omega)
   ·exact h1
  ·rcases List.mem_cons.1 ((h z).2 (.tail _ hz)) with h1 | h1
   ·subst h1;exact absurd (hm.1 z hz) (by omega)
   ·exact h1
theorem mvQ_mem {l:List (Int×Opd)} {b:Nat} {z:Int×Opd}:z∈mvQ l b↔z∈l∧0≤z.1∧z.1<b:=by
 unfold mvQ
 rw [List.mem_flatMap]
 constructor
 ·rintro ⟨j, hj, hz⟩
  obtain⟨h1,h2⟩:=List.mem_filter.1 hz
  have h3:z.1=(j:Int):=of_decide_eq_true h2
  have:=List.mem_range.1 hj
  exact⟨h1,by omega,by omega⟩
 ·rintro ⟨h1, h2, h3⟩
  exact⟨z.1.toNat,List.mem_range.2 (by omega),List.mem_filter.2 ⟨h1,decide_eq_true (by omega)⟩⟩
theorem mvQ_sorted {l : List (Int × Opd)} (h : (l.map Prod.fst).Nodup) : ∀ b, (mvQ l b).Pairwise fun a b => a.1 < b.1
 | 0=>List.Pairwise.nil
 | b+1=>by
  have e:mvQ l (b+1)=mvQ l b++l.filter fun z=>decide (z.1=(b:Int)):=by
   unfold mvQ
   rw [List.range_succ,List.flatMap_append]
   simp
  rw [e,List.pairwise_append]
  refine⟨mvQ_sorted h b,?_,fun z hz y hy => ?_⟩
  ·have h1 : l.Pairwise fun a b => a.1 ≠ b.1 := by rw [List.nodup_iff_pairwise_ne, List.pairwise_map] at h; exact h
   refine(h1.filter _).imp_of_mem fun {x y} hx hy hxy => ?_
   have e1:x.1=(b:Int):=of_decide_eq_true (List.mem_filter.1 hx).2
   have e2:y.1=(b:Int):=of_decide_eq_true (List.mem_filter.1 hy).2
   exact absurd (e1.trans e2.symm) hxy
  ·have h1 := (mvQ_mem.1 hz).2.2
   have e2:y.1=(b:Int):=of_decide_eq_true (List.mem_filter.1 hy).2
   omega
theorem zip_insert_eq {α β : Type} : ∀ (l : List α) (m : List β) (i : Nat) (a : α) (b : β), l.length = m.length → (l.insertIdx i a).zip (m.insertIdx i b) = (l.zip m).insertIdx i (a, b)
 | l,m,0,a,b,_=>by simp
 | [], [],i+1,a,b,_=>by simp
 | x :: l,y :: m,i+1,a,b,h=>by
  simp only [List.insertIdx_succ_cons,List.zip_cons_cons]
  rw [zip_insert_eq l m i a b (by simpa using h)]
theorem movR_movI {p q:Int} {x:Ins} (h:x.args.length=x.to.length) (hs:x.to.Pairwise (· < ·)) (hr:∀t,t∈x.to→0≤t∧t<1000) (hq:0≤q∧q<1000) (hpq:p∈x.to→q∉x.to):mvQ (rens p q x) 1000=Z0 (movI p q x):=by
 have hlen:=Yb7 h
 have hmv:=movI_lens (p:=p) (q:=q) h
 have hnd:x.to.Nodup:=hs.imp (fun {a b} h=>by omega)
 by_cases hp:p∈x.to
 ·have hqn := hpq hp
  have hk:=List.idxOf_lt_length_of_mem hp
  have hz:x.args[x.to.idxOf p]? = some (x.args.getD (x.to.idxOf p) ⟨0,0,0⟩):=Zt (by omega)
  have hpt:x.to[x.to.idxOf p]? = some p:=by rw [Jg hk,List.getElem_idxOf]
  have hpair:=takes_at hpt hz
  have hts:(movI p q x).to.Pairwise (· < ·):=movI_sorted hs hqn
  have htk:Z0 (movI p q x)=((Z0 x).eraseIdx (x.to.idxOf p)).insertIdx (bsI (x.to.eraseIdx (x.to.idxOf p)) q) (q,x.args.getD (x.to.idxOf p) ⟨0,0,0⟩):=by
   unfold Z0 movI
   rw [if_pos hp]
   show((x.to.eraseIdx _).insertIdx _ q).zip ((x.args.eraseIdx _).insertIdx _ _)=_
   have hel:(x.to.eraseIdx (x.to.idxOf p)).length=(x.args.eraseIdx (x.to.idxOf p)).length:=by rw [List.length_eraseIdx,List.length_eraseIdx,h]
   rw [zip_insert_eq _ _ _ _ _ hel,zip_erase _ _ _ h.symm]
  have hfe:(Z0 x).eraseIdx (x.to.idxOf p)=(Z0 x).filter fun z => !(z.1==p):=by
   have h9:=filter_erase (l:=Z0 x) (p:=p) (by rw [hlen];exact hnd)
   rw [hlen] at h9
   exact h9.symm
  refine sorted_ext (mvQ_sorted ?_ _) ?_ fun z => ?_
  ·-- the renamed targets are apart
   have e1:(rens p q x).map Prod.fst=x.to.map (renP p q):=by
    unfold rens
    rw [List.map_map,←hlen,List.map_map]
    rfl
   rw [e1,List.nodup_iff_pairwise_ne,List.pairwise_map]
   refine hs.imp_of_mem fun {a b} ha hb hab => ?_
   unfold renP
   split<;>split
   ·omega
   ·intro e;exact hqn (e▸hb)
   ·intro e;exact hqn (e▸ha)
   ·omega
  ·have h9 : ((Z0 (movI p q x)).map Prod.fst).Pairwise (· < ·) := by rw [Yb7 hmv.1]; exact hts
   rw [List.pairwise_map] at h9
   exact h9
  ·rw [mvQ_mem, htk, hfe]
   have hbs:bsI (x.to.eraseIdx (x.to.idxOf p)) q≤((Z0 x).filter fun z => !(z.1==p)).length:=by
    rw [←hfe]
    have h1:=bsI_le (x.to.eraseIdx (x.to.idxOf p)) q
    have h2:((Z0 x).eraseIdx (x.to.idxOf p)).length=(x.to.eraseIdx (x.to.idxOf p)).length:=by
     rw [List.length_eraseIdx,List.length_eraseIdx]
     have:(Z0 x).length=x.to.length:=by rw [←hlen,List.length_map]
     rw [this]
    omega
   rw [List.mem_insertIdx hbs,List.mem_filter]
   constructor
   ·rintro ⟨hz1, hz2, hz3⟩
    obtain⟨y,hy,rfl⟩:=List.mem_map.1 hz1
    by_cases e:y.1=p
    ·left
     obtain⟨i,hi⟩:=List.mem_iff_getElem?.1 hy
     have hi1:x.to[i]? = some y.1:=by rw [←hlen,List.getElem?_map,hi];rfl
     have hii:i=x.to.idxOf p:=by
      have l1:=(Js.1 hi1).1
      rw [e] at hi1
      rw [←hpt] at hi1
      rw [Jg l1,Jg hk] at hi1
      exact(List.getElem_inj hnd).1 (Option.some.inj hi1)
     rw [hii,hpair] at hi
     cases hi
     unfold renP
     rw [if_pos rfl]
    ·right
     have e1:renP p q y.1=y.1:=by unfold renP;rw [if_neg e]
     rw [e1]
     exact⟨hy,by simpa using e⟩
   ·rintro (hz1 | ⟨hz1, hz2⟩)
    ·subst hz1
     refine⟨List.mem_map.2 ⟨_,Jm hpair,?_⟩,hq.1,by have:=hq.2;omega⟩
     unfold renP
     rw [if_pos rfl]
    ·have hzp : z.1 ≠ p := by simpa using hz2
     have hzr:=hr z.1 (Ybi hz1).1
     refine⟨List.mem_map.2 ⟨z,hz1,?_⟩,hzr.1,by have:=hzr.2;omega⟩
     have e1:renP p q z.1=z.1:=by unfold renP;rw [if_neg hzp]
     rw [e1]
 ·rw [movI_no hp]
  have er:rens p q x=Z0 x:=by
   unfold rens
   conv=>rhs;rw [←List.map_id (Z0 x)]
   refine List.map_congr_left fun z hz => ?_
   have hz1:=(Ybi hz).1
   have e1:renP p q z.1=z.1:=by unfold renP;rw [if_neg (fun e=>hp (by rw [←e];exact hz1))]
   rw [e1]
   rfl
  rw [er]
  have hsx:(Z0 x).Pairwise fun a b=>a.1<b.1:=by
   have h9:((Z0 x).map Prod.fst).Pairwise (· < ·):=by rw [hlen];exact hs
   rw [List.pairwise_map] at h9
   exact h9
  refine sorted_ext (mvQ_sorted (by rw [hlen];exact hnd) _) hsx fun z => ?_
  rw [mvQ_mem]
  constructor
  ·exact fun h=>h.1
  ·intro hz
   have hzr:=hr z.1 (Ybi hz).1
   exact⟨hz,hzr.1,by have:=hzr.2;omega⟩
theorem movR_movP {p q:Int} {x:Ins} (h:x.op=25→x.args.length=x.to.length∧x.to.Pairwise (· < ·)∧(∀t,t∈x.to→0≤t∧t<1000)∧(p∈x.to→q∉x.to)) (hq:0≤q∧q<1000):movR p q x=movP p q x:=by
 unfold movR movP
 split
 ·rename_i h25
  obtain⟨h1,h2,h3,h4⟩:=h h25
  have e:Qy (movI p q x) (Z0 (movI p q x))=movI p q x:=setTakes_self (movI_lens h1).1
  rw [movR_movI h1 h2 h3 hq h4]
  conv=>rhs;rw [←e]
  obtain⟨s1,s2,s3,s4,s5⟩:=movI_scalars p q x
  unfold Qy
  rw [s1,s2,s3,s4,s5]
 ·rfl
theorem join_rows {bs : List (List Ins)} {a b : Nat} {la lb : List Ins} (hT : TInv bs) (hla : bs[a]? = some la) (hlb : bs[b]? = some lb) (hba : b ≠ a) (hA : ∀ c, Qt bs a c ↔ c = (b : Int)) (hno : ∀ y, y ∈ lb → y.op ≠ 25) {l : List Ins} (hl : l ∈ Zb bs a b) :
  ∀x,x∈l→(∃l0,l0∈bs∧x∈l0)∧(x.op=25→x.args.length=x.to.length∧x.to.Pairwise (· < ·)∧((b:Int)∈x.to→(a:Int)∉x.to)):=by
 have hgb:bs.getD b []=lb:=by rw [Jq,hlb];rfl
 have hga:bs.getD a []=la:=by rw [Jq,hla];rfl
 obtain⟨c,hc⟩:=List.mem_iff_getElem?.1 hl
 have hal:=(Js.1 hla).1
 have hbl:=(Js.1 hlb).1
 have key:∀(c:Nat) l0 x,c≠b→bs[c]? = some l0→x∈l0→x.op=25→x.args.length=x.to.length∧x.to.Pairwise (· < ·)∧((b:Int)∈x.to→(a:Int)∉x.to):=fun c l0 x hcb h0 hx h25=>by
  have hL:=hT.loc c l0 h0
  refine⟨hL.wf.phi x hx h25,hL.srt x hx h25,fun _ ha => ?_⟩
  have h1:=((hT.phi c l0 h0 x hx h25).2 (a:Int)).1 ha
  rw [Int.toNat_natCast] at h1
  have h2:=(hA (c:Int)).1 h1.2
  exact hcb (by omega)
 intro x hx
 unfold Zb at hc
 rw [hga,hgb] at hc
 by_cases e1:c=b
 ·subst e1
  rw [Jf (by simpa using hbl)] at hc
  cases hc
  cases hx
 ·rw [Je (Ne.symm e1)] at hc
  by_cases e2:c=a
  ·subst e2
   rw [Jf hal] at hc
   cases hc
   rcases List.mem_append.1 hx with h|h
   ·have hxa := (List.dropLast_sublist la).subset h
    exact⟨⟨la,Jm hla,hxa⟩,key c la x e1 hla hxa⟩
   ·exact⟨⟨lb,Jm hlb,h⟩,fun h25=>absurd h25 (hno x h)⟩
  ·rw [Je (Ne.symm e2)] at hc
   exact⟨⟨l,Jm hc,hx⟩,key c l x e1 hc hx⟩
theorem join_same {bs : List (List Ins)} {a b : Nat} {la lb : List Ins} (hT : TInv bs) (hn : bs.length ≤ 1000) (hla : bs[a]? = some la) (hlb : bs[b]? = some lb) (hba : b ≠ a) (hA : ∀ c, Qt bs a c ↔ c = (b : Int)) (hno : ∀ y, y ∈ lb → y.op ≠ 25) :
  ((Zb bs a b).map fun l=>l.map (movR b a))=mgAt bs a b:=by
 unfold mgAt
 refine List.map_congr_left fun l hl=>List.map_congr_left fun x hx => ?_
 obtain⟨⟨l0,h0,hx0⟩,h25⟩:=join_rows hT hla hlb hba hA hno hl x hx
 have hal:=(Js.1 hla).1
 obtain⟨c,hc⟩:=List.mem_iff_getElem?.1 h0
 refine movR_movP (fun h => ?_) ⟨by omega,by omega⟩
 obtain⟨h1,h2,h3⟩:=h25 h
 exact⟨h1,h2,fun t ht=>by have:=(hT.loc c l0 hc).wf.to_ x hx0 t ht;omega,h3⟩
theorem blocks_tidy {bs:List (List Ins)} (hT:TInv bs) (hn:bs.length≤1000):Yb4 (Yw bs) bs=(Yal (Yw bs) bs).or (Q5 (Zw (Yo bs) bs.length) bs):=by
 have hRl:=Qj bs
 unfold Yb4 Yal
 by_cases h:(Yw bs).any (fun r => !r)=true
 ·rw [if_pos ((gl17_any hRl).2 h),if_pos h,Option.some_or,unseen_lost hT hRl]
 ·rw [if_neg (fun h9 => h ((gl17_any hRl).1 h9)), if_neg h, Option.none_or]
  unfold Q5
  cases hq:(List.range bs.length).find? (mgB (Zw (Yo bs) bs.length) bs) with
  | none=>rfl
  | some a =>
   obtain⟨h1,h2, -⟩:=List.find?_range_eq_some.1 hq
   obtain⟨b,la,lb,hb,hba,hb1,hbl,hla,hlb,hA, -,hno⟩:=mg_facts hT (List.mem_range.1 h2) h1
   rw [Option.map_some,Option.map_some,←hb,join_same hT hn hla hlb hba hA hno]
theorem step_rules (bs:List (List Ins)):Yam bs=((((Qd bs 0).or (Qd bs 1)).or (Qd bs 2)).or ((Qd bs 3).or (Qd bs 4))):=by
 cases h0:Qd bs 0 with
 | some x=>rw [Qu (i:=0) (by omega) h0 (fun j hj=>absurd hj (Nat.not_lt_zero _))];rfl
 | none =>
 cases h1:Qd bs 1 with
 | some x=>rw [Qu (i:=1) (by omega) h1 (fun j hj=>by(have h9:j=0:=(by omega));(rcases h9 with rfl<;>assumption))];rfl
 | none =>
 cases h2:Qd bs 2 with
 | some x=>rw [Qu (i:=2) (by omega) h2 (fun j hj=>by(have h9:j=0∨j=1:=(by omega));(rcases h9 with rfl|rfl<;>assumption))];rfl
 | none =>
 cases h3:Qd bs 3 with
 | some x=>rw [Qu (i:=3) (by omega) h3 (fun j hj=>by(have h9:j=0∨j=1∨j=2:=(by omega));(rcases h9 with rfl|rfl|rfl<;>assumption))];rfl
 | none =>
 cases h4:Qd bs 4 with
 | some x=>rw [Qu (i:=4) (by omega) h4 (fun j hj=>by(have h9:j=0∨j=1∨j=2∨j=3:=(by omega));(rcases h9 with rfl|rfl|rfl|rfl<;>assumption))];rfl
 | none =>
 rw [step_none (fun j hj=>by(have h9:j=0∨j=1∨j=2∨j=3∨j=4:=(by omega));(rcases h9 with rfl|rfl|rfl|rfl|rfl<;>assumption))]
 rfl
theorem tinv_fr {bs:List (List Ins)} (hT:TInv bs):∀l,l∈bs→Ycm l:=fun l hl=>by
 obtain⟨c,hc⟩:=List.mem_iff_getElem?.1 hl
 exact(hT.loc c l hc).fr
theorem step17_eq {bs:List (List Ins)} (hT:TInv bs) (hk:ArgP KOk bs) (hn:bs.length≤1000):step17S bs=Yam bs:=by
 rw [step_rules]
 unfold step17S
 rw [ends_decided hT,phis_single (tinv_fr hT) hk,blocks_tidy hT hn]
 rfl
theorem fl_le_mz : ∀ bs : List (List Ins), fl bs ≤ mz bs
 | []=>Nat.le_refl _
 | l :: bs=>by
  rw [fl_cons,mz_cons]
  have:=fl_le_mz bs
  unfold wt
  omega
structure KInv (bs : List (List Ins)) : Prop where
 t:TInv bs
 k:ArgP KOk bs
 n:bs.length≤1000
theorem KInv.inv {f:Fun} (hp:f.params.length≤2000000):InvT KInv f:=by
 have h:=TInv.inv (f:=f) hp
 exact⟨fun bs hb=>h.small bs hb.t,fun bs hb=>h.wf bs hb.t,fun bs hb=>h.fr bs hb.t,fun bs bs' hb hd=>⟨⟨(h.step bs bs' hb.t hd).1,hb.k.step hb.t hd,Nat.le_trans (step_le hd hb.t).1 hb.n⟩,(h.step bs bs' hb.t hd).2⟩⟩
theorem KInv.pre {f:Fun} (hp:f.params.length≤2000000) {bs:List (List Ins)} (h:KInv bs):Pre17 f bs:=by
 have hi:=TInv.inv (f:=f) hp
 have hfm:=fl_le_mz bs
 have hsz:=h.t.size
 refine⟨hi.small bs h.t,hi.wf bs h.t,by rw [fl_flat];omega,fun a b hal h1 hb => ?_⟩
 obtain⟨b',la,lb,hb',hba,hb1,hbl,hla,hlb,hA, -,hno⟩:=mg_facts h.t hal h1
 rw [←hb] at hb'
 subst hb'
 have hJ:=join_same h.t h.n hla hlb hba hA hno
 have hgb:bs.getD b' []=lb:=by rw [Jq,hlb];rfl
 have hga:bs.getD a []=la:=by rw [Jq,hla];rfl
 have hrow:∀l,l∈Zb bs a b'→l.length≤2000000:=fun l hl=>by
  have e2:(bs.set a (la.dropLast++lb))[b']? = some lb:=by rw [Je (Ne.symm hba)];exact hlb
  have e3:=fl_set (l':=la.dropLast++lb) hla
  have e4:=fl_set (l' := []) e2
  rw [List.length_append,List.length_dropLast] at e3
  simp only [List.length_nil] at e4
  have e5:l.length≤fl (Zb bs a b'):=by
   obtain⟨s,t,hst⟩:=List.append_of_mem hl
   rw [hst,fl_append,fl_cons]
   omega
  have e6:fl (Zb bs a b')=fl ((bs.set a (la.dropLast++lb)).set b' []):=by unfold Zb;rw [hga,hgb]
  omega
 rw [hJ]
 refine⟨⟨hp,?_,fun l hl => ?_⟩,fun l hl x hx t ht => ?_⟩
 ·show (mgAt bs a b').length ≤ 2000000
  unfold mgAt
  rw [List.length_map,J_len]
  have:=h.n
  omega
 ·obtain ⟨m, hm, rfl⟩ := List.mem_map.1 (show l ∈ (Zb bs a b').map fun l => l.map (movP b' a) from hl)
  refine⟨by rw [List.length_map];exact hrow m hm,fun x hx => ?_⟩
  obtain⟨y,hy,rfl⟩:=List.mem_map.1 hx
  obtain⟨⟨l0,h0,hx0⟩,h25⟩:=join_rows h.t hla hlb hba hA hno hm y hy
  obtain⟨c,hc⟩:=List.mem_iff_getElem?.1 h0
  have hsy:=(h.t.loc c l0 hc).sz y hx0
  unfold movP
  split
  ·rename_i h9
   have h8:=movI_lens (p:=(b':Int)) (q:=(a:Int)) (h25 h9).1
   omega
  ·exact hsy
 ·obtain ⟨m, hm, rfl⟩ := List.mem_map.1 (show l ∈ (Zb bs a b').map fun l => l.map (movP b' a) from hl)
  obtain⟨y,hy,rfl⟩:=List.mem_map.1 hx
  obtain⟨⟨l0,h0,hx0⟩,h25⟩:=join_rows h.t hla hlb hba hA hno hm y hy
  obtain⟨c,hc⟩:=List.mem_iff_getElem?.1 h0
  have hr:=(h.t.loc c l0 hc).wf.to_ y hx0
  have hal2:(mgAt bs a b').length=bs.length:=by unfold mgAt;rw [List.length_map,J_len]
  rw [hal2]
  unfold movP at ht
  split at ht
  ·rcases movI_to ht with h9 | h9
   ·exact hr t h9
   ·omega
  ·exact hr t ht
open Go.RowKit Go.ChangeShapes Go.WideShapes Go.Deep
abbrev Mod.v (x:Mod) (c d e:Value):Value := .agg #[c,d,e]
def RMod : Rp Mod where
 rep w B cs x:=∃c d e,cs = [c,d,e]∧RVrs.rep w B [c] x.vars∧RExts.rep w B [d] x.exts∧RFuns.rep w B [e] x.funcs
 keep:=by
  rintro w w' B B' cs x ⟨c,d,e,h,h1,h2,h3⟩ hk hB
  exact⟨c,d,e,h,RVrs.keep h1 hk hB,RExts.keep h2 hk hB,RFuns.keep h3 hk hB⟩
theorem Yby {w:World} {B:Nat} {x:Mod} {c d e:Value} (h:RMod.rep w B [c,d,e] x):RVrs.rep w B [c] x.vars∧RExts.rep w B [d] x.exts∧RFuns.rep w B [e] x.funcs:=by
 obtain⟨c',d',e',h,h1,h2,h3⟩:=h
 cases h
 exact⟨h1,h2,h3⟩
theorem exts_at {w:World} {B:Nat} {d:Value} {l:List Ext} (h:RExts.rep w B [d] l):∃A cap,d = .slice A l.length cap∧l.length≤9223372036854775807∧(0<l.length→∃b off,A=some ⟨b,off,none⟩∧∀i x,l[i]? = some x→
  ∃c,Z4.rep w B [c] x.params∧(I64 x.ret∧x.name.size≤maxLen)∧Yb6 w B b (off+i*3) [.string x.name,c, .int .i64 x.ret]):=by
 obtain⟨A,cap,h1,h2,h3⟩:=Rp.slice_open h
 cases h1
 refine⟨A,cap,rfl,h2,fun hp => ?_⟩
 obtain⟨b,off,hA,he⟩:=h3 hp
 refine⟨b,off,hA,fun i x hx => ?_⟩
 obtain⟨es,hl,⟨c,e,h4,h5,h6⟩,hcs⟩:=he i x hx
 subst e
 exact⟨c,h4,⟨h5,h6⟩,hcs⟩
theorem funs_at {w:World} {B:Nat} {d:Value} {l:List Fun} (h:RFuns.rep w B [d] l):∃A cap,d = .slice A l.length cap∧l.length≤9223372036854775807∧(0<l.length→∃b off,A=some ⟨b,off,none⟩∧∀i x,l[i]? = some x→
  ∃c e,RFun.rep w B [.string x.name,c, .int .i64 x.ret,e] x∧Yb6 w B b (off+i*4) [.string x.name,c, .int .i64 x.ret,e]):=by
 obtain⟨A,cap,h1,h2,h3⟩:=Rp.slice_open h
 cases h1
 refine⟨A,cap,rfl,h2,fun hp => ?_⟩
 obtain⟨b,off,hA,he⟩:=h3 hp
 refine⟨b,off,hA,fun i x hx => ?_⟩
 obtain⟨es,hl,hr,hcs⟩:=he i x hx
 obtain⟨c,e,h4,_⟩:=id hr
 subst h4
 exact⟨c,e,hr,hcs⟩
end Go.Proofs.YtamjcafjdioidaaGreat
