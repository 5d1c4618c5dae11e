/- Part K of the proof: plain lemmas, rules. No condition beyond those that each theorem names. -/
import Derived.Test.YtlhkfkecoekoeaaGreatDoorGJ
import Derived.Test.YtlhkfkecoekoeaaGreatDoorRows
set_option linter.unusedVariables false
set_option linter.unusedSimpArgs false
namespace Go.Vc
def AO:Nat->List Val->List (List Val)
 |0,_=>[[]]
 |n+1,l=>l.flatMap fun v=>(AO n l).map (v::·)
theorem UZ{α β:Type}{l:List α}{f:α->List β}{k:Nat}(h:∀x∈l,(f x).length=k):(l.flatMap f).length=l.length* k:=by
 induction l with
 |nil=>simp
 |cons a l ih=>rw[List.flatMap_cons,List.length_append,ih fun x hx=>h x (List.mem_cons_of_mem _ hx),h a (by simp),List.length_cons,Nat.add_mul];omega
theorem Ct(l:List Val):∀n,(AO n l).length=l.length^n
 |0=>rfl
 |n+1=>by
  show(l.flatMap _).length=_
  rw[UZ (k:=l.length^n) fun x _=>by rw[List.length_map,Ct l n],Nat.pow_succ,Nat.mul_comm]
theorem Da{l:List Val}:∀{n:Nat}{t:List Val},t∈AO n l->t.length=n/\∀x∈t,x∈l
 |0,t,h=>by rw[List.mem_singleton.1 h];simp
 |n+1,t,h=>by
  obtain⟨v,hv,h⟩:=List.mem_flatMap.1 h
  obtain⟨s,hs,rfl⟩:=List.mem_map.1 h
  have ih:=Da hs
  refine⟨by simp[ih.1],fun x hx=>?_⟩
  rcases List.mem_cons.1 hx with rfl|hx
  ·exact hv
  ·exact ih.2 x hx
theorem Hw{l:List Val}(hl:l.Nodup):∀n,(AO n l).Nodup
 |0=>by simp[AO]
 |n+1=>by
  have ih:=Hw hl n
  show(l.flatMap _).Nodup
  unfold List.Nodup at*
  rw[List.pairwise_flatMap]
  refine⟨fun v _=>List.pairwise_map.2 (ih.imp fun hne e=>hne (List.cons.inj e).2),hl.imp fun hne x hx y hy e=>?_⟩
  obtain⟨_,_,rfl⟩:=List.mem_map.1 hx
  obtain⟨_,_,rfl⟩:=List.mem_map.1 hy
  exact hne (List.cons.inj e).1
theorem HW(l:List Val):∀n,AO (n+1) l=(AO n l).flatMap fun t=>l.map fun v=>t++[v]
 |0=>by
  simp only[AO,List.flatMap_cons,List.flatMap_nil,List.append_nil,List.map_cons,List.map_nil,List.nil_append]
  induction l with
  |nil=>rfl
  |cons a l ih=>simp[ih]
 |n+1=>by
  show l.flatMap (fun v=>(AO (n+1) l).map (v::·))=(l.flatMap fun v=>(AO n l).map (v::·)).flatMap _
  rw[List.flatMap_assoc]
  congr 1;funext v
  rw[HW l n,List.map_flatMap,List.flatMap_map]
  congr 1;funext t
  rw[List.map_map];rfl
section
variable{n:Nat}{of:List Val}{F:List Val->Val}
theorem take_set{c:List Val}{i:Int}{v:Val}(h0:0<=i)(h1:i<c.length):(c.set i.toNat v).take (i+1).toNat=c.take i.toNat++[v]:=by
 rw[show(i+1).toNat=i.toNat+1 by omega,List.take_add_one,List.take_set_of_le (Nat.le_refl _),List.getElem?_set_self (by omega)];rfl
theorem Vn{D:List Val->List Val->(List Val->List Val->Prop)->Prop}{W:Nat->Int->List Val->List Val->(List Val->List Val->Prop)->Prop}
  (hW:∀m i out c Q,((i=(n:Int)->D c out fun c' o=>Q o c')/\(¬(i=(n:Int))->(Len of->Ay (σ:=List Val×List Val×Int) (c,out,(0:Int)) fun(c1,o1,x)next=>
   (x<(of.length:Int)->In x of/\In i c1/\I64 (i+(1:Int))/\W m (i+(1:Int)) o1 (c1.set i.toNat (ix of x)) fun o2 c2=>I64 (x+(1:Int))/\next (c2,o2,(x+(1:Int))))/\(¬(x<(of.length:Int))->Q o1 c1))))->W (m+1) i out c Q)
  (hD:∀c out Q,c.length=n->(∀x∈c,G x)->out.length<=100000->Q c (out++[F c])->D c out Q)(ho:∀x∈of,G x)(hof:of.length<=1000000)(hn:n<=1000000):
  ∀(k m:Nat){i:Int}{out c:List Val}{Q:List Val->List Val->Prop},k<m->0<=i->i+k=n->c.length=n->(∀x∈c.take i.toNat,G x)->out.length+of.length^k<=100000->
   (∀c',c'.length=n->c'.take i.toNat=c.take i.toNat->Q (out++(AO k of).map fun t=>F (c.take i.toNat++t)) c')->W m i out c Q:=by
 intro k
 induction k with
 |zero=>
  intro m i out c Q hm h0 hi hc hg hl hQ
  obtain⟨m,rfl⟩:∃m',m=m'+1:=⟨m-1,by omega⟩
  have et:c.take i.toNat=c:=List.take_of_length_le (by omega)
  rw[et] at hg hQ
  refine hW _ _ _ _ _ ⟨fun _=>hD _ _ _ hc hg (by simp at hl;omega) ?_,fun hne=>absurd (by omega) hne⟩
  have:=hQ c hc et
  simpa[AO] using this
 |succ k ih=>
  intro m i out c Q hm h0 hi hc hg hl hQ
  obtain⟨m,rfl⟩:∃m',m=m'+1:=⟨m-1,by omega⟩
  refine hW _ _ _ _ _ ⟨fun e=>by omega,fun _ _=>?_⟩
  let P (x:Nat):List Val:=((of.take x).flatMap fun v=>(AO k of).map (v::·)).map fun t=>F (c.take i.toNat++t)
  have pl:∀x:Nat,x<=of.length->(P x).length=x* of.length^k:=fun x hx=>by
   show(List.map _ _).length=_
   rw[List.length_map,UZ (k:=of.length^k) fun v _=>by rw[List.length_map,Ct],List.length_take,Nat.min_eq_left hx]
  refine⟨fun s=>0<=s.2.2/\s.2.2<=of.length/\s.1.length=n/\s.1.take i.toNat=c.take i.toNat/\s.2.1=out++P s.2.2.toNat,fun s=>(of.length-s.2.2).toNat,⟨by simp,by simp,hc,rfl,by simp[P]⟩,?_⟩
  rintro⟨c1,o1,x⟩⟨x0,x1,hc1,ht,e⟩
  simp only at x0 x1 hc1 ht e
  subst e
  refine⟨fun hx=>⟨⟨x0,hx⟩,⟨h0,by omega⟩,by unfold I64;omega,?_⟩,fun hx=>?_⟩
  ·have hpow:of.length^(k+1)=of.length* of.length^k:=by rw[Nat.pow_succ,Nat.mul_comm]
   have hmul:(x.toNat+1)* of.length^k<=of.length* of.length^k:=Nat.mul_le_mul_right _ (by omega)
   rw[Nat.add_mul] at hmul
   have ets:=take_set (v:=ix of x) h0 (show i<c1.length by omega)
   refine ih m (by omega) (by omega) (by omega) (by simpa using hc1) ?_ ?_ fun c2 hc2 ht2=>⟨by unfold I64;omega,⟨by show 0<=x+1;omega,by show x+1<=_;omega,hc2,?_,?_⟩,by show((of.length:Int)-(x+1)).toNat<((of.length:Int)-x).toNat;omega⟩
   ·rw[ets,ht]
    intro y hy
    rcases List.mem_append.1 hy with hy|hy
    ·exact hg y hy
    ·rw[List.mem_singleton.1 hy];exact ho _ (Az x0 hx)
   ·rw[List.length_append,pl _ (by omega)];omega
   ·have:c2.take i.toNat=(c2.take (i+1).toNat).take i.toNat:=by rw[List.take_take,Nat.min_eq_left (by omega)]
    show c2.take i.toNat=_
    rw[this,ht2,ets,ht,List.take_left' (by rw[List.length_take];omega)]
   ·show(out++P x.toNat)++_=out++P (x+1).toNat
    rw[List.append_assoc];congr 1
    show _=List.map _ (List.flatMap _ (of.take (x+1).toNat))
    rw[AV x0 hx,List.flatMap_append,List.map_append]
    show P x.toNat++_=P x.toNat++_
    congr 1
    rw[ets,ht]
    simp[List.map_map,Function.comp_def]
  ·have hx:x=of.length:=by omega
   subst hx
   have:=hQ c1 hc1 ht
   have e:P (of.length:Int).toNat=(AO (k+1) of).map fun t=>F (c.take i.toNat++t):=by
    show List.map _ (List.flatMap _ (of.take _))=_
    rw[Int.toNat_natCast,List.take_length];rfl
   rw[<-e] at this;exact this
end
section
variable{of out fr:List Val}
theorem TY{c:List Val}{Q:List Val->List Val->Prop}(hf:∀x∈fr,G x)(hc:∀x∈c,G x)(hl:c.length=fr.length)(hn:fr.length<=1000000)(ho:out.length<=100000)(h:Q c (out++[CC fr c])):IP c out fr Q:=
 Eo (by omega) (DE (GL.fit hf) (GL.fit hc) hl.symm hn ⟨BY (by simp;omega),h⟩)
theorem OO{c:List Val}{Q:List Val->List Val->Prop}(hc:∀x∈c,G x)(hn:c.length<=1000000)(ho:out.length<=100000)(h:Q c (out++[Cr c])):Fp c out Q:=
 Eo hn (Gp (GL.fit hc) hn ⟨BY (by simp;omega),h⟩)
theorem YW{n:Int}{Q:List Val->Prop}(hof:∀x∈of,G x)(hf:∀x∈fr,G x)(hn:n=fr.length)(h1:fr.length<=1000000)(h2:of.length<=1000000)(hl:out.length+of.length^fr.length<=100000)
  (h:Q (out++(AO fr.length of).map (CC fr))):RF n of out fr Q:=by
 subst hn
 refine⟨⟨by omega,by omega,by omega⟩,fr.length+1,?_⟩
 refine Vn (n:=fr.length) (of:=of) (F:=CC fr) (D:=fun c o Q=>IP c o fr Q) (W:=fun m i o c Q=>JZ m i (fr.length:Int) o fr c of Q) (fun m i o c Q h=>h)
  (fun c o Q hc hg ho h=>TY hf hg hc h1 ho h) hof h2 h1 fr.length _ (by omega) (by omega) (by omega) (by simp) (by simp) hl fun c' _ _=>?_
 simpa using h
theorem Yh{n:Int}{Q:List Val->Prop}(hof:∀x∈of,G x)(h0:0<=n)(h1:n<=1000000)(h2:of.length<=1000000)(hl:out.length+of.length^n.toNat<=100000)
  (h:Q (out++(AO n.toNat of).map Cr)):QB n of out Q:=by
 obtain⟨k,rfl⟩:∃k:Nat,n=k:=⟨n.toNat,by omega⟩
 rw[Int.toNat_natCast] at hl h
 refine⟨⟨by omega,by omega,by omega⟩,k+1,?_⟩
 refine Vn (n:=k) (of:=of) (F:=Cr) (D:=fun c o Q=>Fp c o Q) (W:=fun m i o c Q=>Kz m i (k:Int) o c of Q) (fun m i o c Q h=>h)
  (fun c o Q hc hg ho h=>OO hg (by omega) ho h) hof h2 (by omega) k _ (by omega) (by omega) (by omega) (by simp) (by simp) hl fun c' _ _=>?_
 simpa using h
end
theorem Tc{n k:Nat}{Q:Int->Prop}(hn:n<=1024)(hk:k<=1000000000)(h1:n^k<=1024->Q ((n^k:Nat):Int))(h2:1024<n^k->∀p:Int,1024<p->p<=2000000->Q p):Mv (n:Int) (k:Int) 1024 Q:=by
 refine⟨fun s=>0<=s.1/\s.1<=k/\1<=s.2/\s.2<=1048576/\(n<=1->s.1=k/\s.2=1)/\s.2=((n^(k-s.1.toNat):Nat):Int),fun s=>s.1.toNat,⟨by simp,by simp,by simp,by simp,by simp,by simp⟩,?_⟩
 rintro⟨j,p⟩⟨j0,j1,p1,p2,e1,e⟩
 simp only at j0 j1 p1 p2 e1 e
 refine⟨fun hc=>?_,fun hc=>?_⟩
 ·obtain⟨⟨c1,c2⟩,c3⟩:=hc
  have hm:p* n<=1024* 1024:=by
   have:p* n<=1024* n:=Int.mul_le_mul_of_nonneg_right c3 (by omega)
   omega
  have hp:1<=p* n:=by
   have:1* 1<=p* n:=Int.mul_le_mul p1 (by omega) (by omega) (by omega)
   omega
  refine⟨by unfold I64;omega,by unfold I64;omega,⟨by show 0<=j-1;omega,by show j-1<=_;omega,hp,by omega,fun h=>by omega,?_⟩,by show(j-1).toNat<j.toNat;omega⟩
  show p* n=_
  rw[show k-(j-1).toNat=(k-j.toNat)+1 by omega,Nat.pow_succ,e];simp
 ·refine⟨fun hz=>?_,fun hz=>?_⟩
  ·have hn0:n=0:=by omega
   subst hn0
   have:0^k=0:=Nat.zero_pow (by omega)
   rw[this] at h1;exact h1 (by decide)
  ·by_cases hj:j=0
   ·subst hj
    rw[show k-(0:Int).toNat=k by simp] at e
    subst e
    by_cases hb:n^k<=1024
    ·exact h1 hb
    ·exact h2 (by omega) _ (by omega) (by omega)
   ·by_cases hn1:n<=1
    ·have hn2:n=1:=by omega
     subst hn2
     have:=(e1 (by decide)).2
     subst this
     simpa using h1 (by simp)
    ·have hp:1024<p:=by
      apply Int.not_le.1
      intro hle;exact hc ⟨⟨by omega,by omega⟩,hle⟩
     refine h2 ?_ p hp (by omega)
     have h3:n^(k-j.toNat)<=n^k:=Nat.pow_le_pow_right (by omega) (by omega)
     rw[e] at hp
     exact Nat.lt_of_lt_of_le (Int.ofNat_lt.1 hp) h3
def Hh(l:List Val):Val:=if l.any Val.isNil then .nil else EJ l
theorem TC{l:List Val}{Q:Val->Prop}(hl:∀x∈l,G x)(hn:l.length<=1000000)(h:Q (Hh l)):MF l Q:=by
 intro _
 refine⟨fun s=>0<=s/\s<=l.length/\∀x∈l.take s.toNat,x.isNil=false,fun s=>(l.length-s).toNat,⟨by simp,by simp,by simp⟩,?_⟩
 rintro x⟨x0,x1,hx⟩
 refine⟨fun hlt=>⟨⟨x0,hlt⟩,fun hn=>?_,fun hn=>⟨by unfold I64;omega,⟨by omega,by omega,?_⟩,by show((l.length:Int)-(x+1)).toNat<((l.length:Int)-x).toNat;omega⟩⟩,fun hge=>?_⟩
 ·have:l.any Val.isNil=true:=List.any_eq_true.2 ⟨_,Az x0 hlt,hn⟩
  rw[Hh,this] at h;exact h
 ·rw[AV x0 hlt]
  intro y hy
  rcases List.mem_append.1 hy with hy|hy
  ·exact hx y hy
  ·rw[List.mem_singleton.1 hy];exact hn
 ·have:l.any Val.isNil=false:=by
   rw[List.any_eq_false]
   intro y hy
   rw[List.take_of_length_le (by omega)] at hx
   rw[hx y hy];simp
  rw[Hh,this] at h
  exact FE (GL.fit hl) hn h
theorem TD{l:List Val}(hl:∀x∈l,G x):G (Hh l):=by
 unfold Hh;split
 ·exact G.nil
 ·exact Ej hl
def Gd(f t:List Val):Val:=if 1024<t.length^f.length then .nil else Hh ((AO f.length t).map (CC f))
theorem KJ{f t:List Val}(hf:∀x∈f,G x)(ht:∀x∈t,G x):∀x∈(AO f.length t).map (CC f),G x:=fun x hx=>by
 obtain⟨c,hc,rfl⟩:=List.mem_map.1 hx
 exact IZ hf fun y hy=>ht y ((Da hc).2 y hy)
theorem WJ{f t:List Val}(hf:∀x∈f,G x)(ht:∀x∈t,G x)(h1:f.length<=1023)(h2:t.length<=1023):G (Gd f t)/\∀Q,Q (Gd f t)->KH f t Q:=by
 unfold Gd
 refine⟨?_,fun Q h _ _=>Tc (by omega) (by omega) (fun hp=>?_) fun hp p hb hc=>?_⟩
 ·split
  ·exact G.nil
  ·exact TD (KJ hf ht)
 ·rw[if_neg (by omega)] at h
  refine⟨fun hn=>by omega,fun _ _=>YW ht hf rfl (by omega) (by omega) (by simp;omega) ?_⟩
  exact TC (by simpa using KJ hf ht) (by simp[Ct];omega) (by simpa using h)
 ·rw[if_pos hp] at h
  exact⟨fun _=>h,fun hn=>absurd hb hn⟩
def AI(of:List Val):Nat->List Val
 |0=>[]
 |k+1=>AI of k++(AO k of).map Cr
def DN(of:List Val)(n:Int):Nat:=if of=[] then 0 else n.toNat
def IB(of:List Val)(n:Int):Val:=if 1024<(AI of (DN of n+1)).length\/(AI of (DN of n+1)).any Val.isNil=true then .nil else EJ (AI of (DN of n+1))
theorem MU(of:List Val):∀{j k:Nat},j<=k->∃r,AI of k=AI of j++r
 |j,0,h=>⟨[],by simp[show j=0 by omega]⟩
 |j,k+1,h=>by
  by_cases e:j=k+1
  ·exact⟨[],by simp[e]⟩
  ·obtain⟨r,hr⟩:=MU of (show j<=k by omega)
   exact⟨r++(AO k of).map Cr,by rw[AI,hr,List.append_assoc]⟩
theorem EK{of:List Val}(h:∀x∈of,G x):∀k,∀x∈AI of k,G x
 |0,x,hx=>by cases hx
 |k+1,x,hx=>by
  rcases List.mem_append.1 hx with hx|hx
  ·exact EK h k x hx
  ·obtain⟨c,hc,rfl⟩:=List.mem_map.1 hx
   exact GO fun y hy=>h y ((Da hc).2 y hy)
theorem GS{of:List Val}{n:Int}{j:Nat}(hj:j<=DN of n+1)(h:1024<(AI of j).length\/(AI of j).any Val.isNil=true):IB of n=.nil:=by
 obtain⟨r,hr⟩:=MU of hj
 unfold IB
 rw[if_pos]
 rw[hr,List.any_append,List.length_append]
 rcases h with h|h
 ·exact .inl (by omega)
 ·exact .inr (by rw[h];rfl)
theorem Qi{of:List Val}{n:Int}(ho:∀x∈of,G x)(h1:of.length<=1023)(hn:0<=n)(hn2:I64 n):G (IB of n)/\∀Q,Q (IB of n)->ID of n Q:=by
 refine⟨?_,fun Q h=>?_⟩
 ·unfold IB;split
  ·exact G.nil
  ·exact Ej (EK ho _)
 ·refine⟨fun s=>0<=s.2/\s.2<=n+1/\s.2.toNat<=DN of n+1/\s.1=AI of s.2.toNat/\s.2<=s.1.length/\s.1.length<=1024,fun s=>1025-s.1.length,⟨by simp,by simp;omega,by simp,by simp[AI],by simp,by simp⟩,?_⟩
  rintro⟨o,k⟩⟨k0,k1,k2,e,k3,k4⟩
  simp only at k0 k1 k2 e k3 k4
  subst e
  intro _
  refine⟨fun hc _ _=>?_,fun hc=>?_⟩
  ·have hk:k.toNat+1<=DN of n+1:=by
    unfold DN at k2 ⊢;split
    ·rename_i he;subst he;simp at hc;omega
    ·omega
   have hnext:AI of (k.toNat+1)=AI of k.toNat++(AO k.toNat of).map Cr:=rfl
   have hlen:(AI of (k.toNat+1)).length=(AI of k.toNat).length+of.length^k.toNat:=by rw[hnext,List.length_append,List.length_map,Ct]
   have hpos:1<=of.length^k.toNat:=by
    by_cases hz:k=0
    ·subst hz;simp
    ·have:0<of.length:=by have:=hc.2.resolve_left hz;omega
     exact Nat.pow_pos this
   have big:1024<(AI of k.toNat).length+of.length^k.toNat->Q .nil:=fun hb=>by
    rw[GS hk (.inl (by rw[hlen];exact hb))] at h;exact h
   have ek:k=(k.toNat:Int):=by omega
   conv=>arg 2;rw[ek]
   refine Tc (by omega) (by omega) (fun hp=>⟨by unfold I64;omega,fun hb=>big (by omega),fun hb=>?_⟩) fun hp p hb hc2=>⟨by unfold I64;omega,fun _=>big (by omega),fun hn=>absurd (by omega) hn⟩
   refine Yh ho (by omega) (by omega) (by omega) (by omega) fun _=>?_
   rw[<-hnext]
   have hl2:1<=(AI of (k.toNat+1)).length:=by omega
   have hlst:In ((AI of (k.toNat+1)).length-1:Int) (AI of (k.toNat+1)):=⟨by omega,by omega⟩
   have ek1:(k+1).toNat=k.toNat+1:=by omega
   refine⟨by unfold I64;omega,hlst,fun hnil=>?_,fun _=>⟨by unfold I64;omega,⟨by show(0:Int)<=k+1;omega,by show k+1<=_;omega,by show(k+1).toNat<=_;omega,?_,?_,?_⟩,?_⟩⟩
   ·rw[GS hk (.inr (List.any_eq_true.2 ⟨_,Az hlst.1 hlst.2,hnil⟩))] at h;exact h
   ·show AI of (k.toNat+1)=AI of (k+1).toNat
    rw[ek1]
   ·show k+1<=((AI of (k.toNat+1)).length:Int);omega
   ·show(AI of (k.toNat+1)).length<=1024;omega
   ·show 1025-(AI of (k.toNat+1)).length<1025-(AI of k.toNat).length;omega
  ·have hk:k.toNat=DN of n+1:=by
    unfold DN at k2 ⊢
    by_cases he:of=[]
    ·rw[if_pos he] at k2 ⊢
     subst he
     simp at hc
     omega
    ·rw[if_neg he] at k2 ⊢
     have:0<of.length:=List.length_pos_iff.2 he
     have:¬k<=n:=fun hle=>hc ⟨hle,.inr (by omega)⟩
     omega
   rw[hk] at k4 ⊢
   refine TC (EK ho _) (by omega) ?_
   unfold IB at h;unfold Hh
   by_cases ha:(AI of (DN of n+1)).any Val.isNil=true
   ·rw[if_pos (.inr ha)] at h;rw[if_pos ha];exact h
   ·rw[if_neg (fun hh=>hh.elim (fun hh=>by omega) ha)] at h;rw[if_neg ha];exact h
end Go.Vc
namespace Go.Vc
section
variable{l:List Val}{f:Fg Val Bool}{p:Val->Bool}
theorem XP{Q:Int->Prop}(hl:l.length<=1000000)(hf:∀x∈l,∀Q,Q (p x)->f x Q)(h1:l.any p=true->∀i:Int,0<=i->Q i)(h2:l.any p=false->Q (-1)):Na l f Q:=by
 intro _
 refine⟨fun s=>0<=s/\s<=l.length/\∀x∈l.take s.toNat,p x=false,fun s=>(l.length-s).toNat,⟨by simp,by simp,by simp⟩,?_⟩
 rintro x⟨x0,x1,hx⟩
 refine⟨fun hlt=>⟨⟨x0,hlt⟩,hf _ (Az x0 hlt) _ ⟨fun e=>h1 (List.any_eq_true.2 ⟨_,Az x0 hlt,e⟩) _ x0,fun e=>⟨by unfold I64;omega,⟨by omega,by omega,?_⟩,by show((l.length:Int)-(x+1)).toNat<((l.length:Int)-x).toNat;omega⟩⟩⟩,fun hge=>h2 ?_⟩
 ·rw[AV x0 hlt]
  intro y hy
  rcases List.mem_append.1 hy with hy|hy
  ·exact hx y hy
  ·rw[List.mem_singleton.1 hy];exact e
 ·rw[List.take_of_length_le (by omega)] at hx
  rw[List.any_eq_false];intro y hy;rw[hx y hy];simp
theorem Rf{Q:Bool->Prop}(hl:l.length<=1000000)(hf:∀x∈l,∀Q,Q (p x)->f x Q)(h:Q (l.any p)):Iv l f Q:=by
 refine XP hl hf (fun e i hi=>?_) fun e=>?_
 ·rw[e] at h;rw[decide_eq_true hi];exact h
 ·rw[e] at h;exact h
theorem VN{Q:Val->Prop}(hg:∀x∈l,G x)(hl:l.length<=1000000)(hf:∀x∈l,∀Q,Q (p x)->f x Q)(h:Q (DM (l.filter p))):RC l f Q:=by
 intro _
 refine⟨fun s=>0<=s.2/\s.2<=l.length/\s.1=(l.take s.2.toNat).filter p,fun s=>(l.length-s.2).toNat,⟨by simp,by simp,by simp⟩,?_⟩
 rintro⟨o,x⟩⟨x0,x1,e⟩
 simp only at x0 x1 e
 subst e
 refine⟨fun hx=>Ae ⟨⟨x0,hx⟩,hf _ (Az x0 hx) _ ?_⟩,fun hx=>?_⟩
 ·have step:∀o,o=(l.take (x+1).toNat).filter p->I64 (x+1)/\((0<=x+1/\x+1<=l.length/\o=(l.take (x+1).toNat).filter p)/\((l.length:Int)-(x+1)).toNat<((l.length:Int)-x).toNat):=fun o e=>⟨by unfold I64;omega,⟨by omega,by omega,e⟩,by omega⟩
  have hl2:=List.length_filter_le p (l.take x.toNat)
  rw[List.length_take] at hl2
  refine⟨fun e=>⟨BY (by simp;omega),step _ ?_⟩,fun e=>step _ ?_⟩
  ·rw[AV x0 hx,List.filter_append];simp[e]
  ·rw[AV x0 hx,List.filter_append];simp[e]
 ·have:x=l.length:=by omega
  subst this
  rw[Int.toNat_natCast,List.take_length]
  exact GM (GL.fit fun y hy=>hg y (List.mem_filter.1 hy).1) h
end
theorem LU{l:List Val}{p:Val->Bool}(hg:∀x∈l,G x)(ha:Ih l):G (DM (l.filter p)):=GF (fun y hy=>hg y (List.mem_filter.1 hy).1) (ha.filter p)
def s2(f:List Val->List Val->Val)(a:List Val):Val:=if(ix a 0).isSet&&(ix a 1).isSet then f (ix a 0).setL (ix a 1).setL else .nil
def s1(f:List Val->Val)(a:List Val):Val:=if(ix a 0).isSet then f (ix a 0).setL else .nil
structure SL(l:List Val):Prop where
 good:∀x∈l,G x
 asc:Ih l
 wt:CZ l<=1023
 len:l.length<=1023
theorem G.sl{v:Val}(g:G v):SL v.setL:=⟨g.setL,g.setAsc,g.setW,g.setN⟩
theorem Mm{g:Fg (List Val×List Val) Val}{f:List Val->List Val->Val}(hf:∀x y,SL x->SL y->G (f x y)/\∀Q,Q (f x y)->g (x,y) Q):Does (fun x Q=>HL x g Q) 2 (s2 f):=
 .mk (by decide) fun a ha hl hk=>by
  have i0:=BT hk (show(0:Int)<=0 by decide) (by decide);have i1:=BT hk (show(0:Int)<=1 by decide) (by decide)
  have hh:=hf _ _ (G.at ha i0).sl (G.at ha i1).sl
  unfold s2
  cases e:(ix a 0).isSet<;>cases e2:(ix a 1).isSet
  ·exact⟨G.nil,fun Q h=>⟨i0,Bc ⟨i1,Bc ⟨fun _=>h,fun hn=>absurd (.inl (by rw[e];rfl)) hn⟩⟩⟩⟩
  ·exact⟨G.nil,fun Q h=>⟨i0,Bc ⟨i1,Bc ⟨fun _=>h,fun hn=>absurd (.inl (by rw[e];rfl)) hn⟩⟩⟩⟩
  ·exact⟨G.nil,fun Q h=>⟨i0,Bc ⟨i1,Bc ⟨fun _=>h,fun hn=>absurd (.inr (by rw[e2];rfl)) hn⟩⟩⟩⟩
  ·exact⟨hh.1,fun Q h=>⟨i0,Bc ⟨i1,Bc ⟨fun hn=>by rw[e,e2] at hn;simp at hn,fun _=>hh.2 _ h⟩⟩⟩⟩
theorem RQ{g:Fg (List Val) Val}{f:List Val->Val}(hf:∀x,SL x->G (f x)/\∀Q,Q (f x)->g x Q):Does (fun x Q=>HZ x g Q) 1 (s1 f):=
 .mk (by decide) fun a ha hl hk=>by
  have i0:=BT hk (show(0:Int)<=0 by decide) (by decide)
  have hh:=hf _ (G.at ha i0).sl
  unfold s1
  cases e:(ix a 0).isSet
  ·exact⟨G.nil,fun Q h=>⟨i0,Bc ⟨fun e2=>by(rw[e] at e2;cases e2),fun _=>h⟩⟩⟩
  ·exact⟨hh.1,fun Q h=>⟨i0,Bc ⟨fun _=>hh.2 _ h,fun e2=>by(rw[e] at e2;cases e2)⟩⟩⟩
def Jt(l:List Val):Val:=if l.all Val.isSet then EJ (l.flatMap Val.setL) else .nil
theorem Sr{l:List Val}(h:∀x∈l,G x):(((l.flatMap Val.setL).length:Nat):Int)<=CZ l:=by
 induction l with
 |nil=>simp[CZ]
 |cons a l ih=>
  have h1:=ih fun x hx=>h x (List.mem_cons_of_mem _ hx)
  have ga:=h a (by simp)
  have h2:((a.setL.length:Nat):Int)<=a.weightOf:=by
   cases a with
   |set m k=>have:=GL.len ga.setL;have:=ga.1.1;simp only[Val.setL,Val.weightOf] at*;omega
   |fn m q k=>have:=ga.1.pos;simp only[Val.setL,List.length_nil];omega
   |_=>simp[Val.setL,Val.weightOf]
  rw[List.flatMap_cons,List.length_append];simp only[CZ];omega
theorem LD{l:List Val}(h:∀x∈l,G x):∀x∈l.flatMap Val.setL,G x:=fun x hx=>by
 obtain⟨v,hv,hx⟩:=List.mem_flatMap.1 hx
 exact(h v hv).setL x hx
theorem UT{l:List Val}(hs:SL l):G (Jt l)/\∀Q,Q (Jt l)->Jj l Q:=by
 have fl:=Sr hs.good
 have hw:=hs.wt
 have hln:=hs.len
 refine⟨?_,fun Q h _=>?_⟩
 ·unfold Jt;split
  ·exact Ej (LD hs.good)
  ·exact G.nil
 ·refine⟨fun s=>0<=s.2/\s.2<=l.length/\s.1=(l.take s.2.toNat).flatMap Val.setL/\(l.take s.2.toNat).all Val.isSet=true,fun s=>(l.length-s.2).toNat,⟨by simp,by simp,by simp,by simp⟩,?_⟩
  rintro⟨o,x⟩⟨x0,x1,e,ea⟩
  simp only at x0 x1 e ea
  subst e
  have hlen:((l.take x.toNat).flatMap Val.setL).length<=(l.flatMap Val.setL).length:=by
   conv=>rhs;rw[<-List.take_append_drop x.toNat l,List.flatMap_append,List.length_append]
   omega
  refine⟨fun hx=>⟨⟨x0,hx⟩,Bc ⟨fun hn=>?_,fun hn=>?_⟩⟩,fun hx=>?_⟩
  ·have:l.all Val.isSet=false:=by
    cases e2:l.all Val.isSet with
    |false=>rfl
    |true=>rw[List.all_eq_true.1 e2 _ (Az x0 hx)] at hn;cases hn
   rw[Jt,this] at h;exact h
  ·have hset:(ix l x).isSet=true:=by cases e2:(ix l x).isSet<;>simp[e2] at hn ⊢
   have h3:=(hs.good _ (Az x0 hx)).setN
   refine⟨BY (by omega),by unfold I64;omega,⟨by show 0<=x+1;omega,by show x+1<=_;omega,?_,?_⟩,by show((l.length:Int)-(x+1)).toNat<((l.length:Int)-x).toNat;omega⟩
   ·show _=(l.take (x+1).toNat).flatMap Val.setL
    rw[AV x0 hx,List.flatMap_append];simp
   ·show(l.take (x+1).toNat).all Val.isSet=true
    rw[AV x0 hx,List.all_append,ea];simp[hset]
  ·have:x=l.length:=by omega
   subst this
   rw[Int.toNat_natCast,List.take_length] at ea ⊢
   rw[Jt,if_pos ea] at h
   exact FE (GL.fit (LD hs.good)) (by omega) h
def Cj:Nat->List Val->List Val
 |_,[]=>[]
 |b,a::l=>if b%2=1 then a::Cj (b/2) l else Cj (b/2) l
theorem pickL_sub:∀{b:Nat}{l:List Val},(Cj b l).Sublist l
 |b,[]=>List.Sublist.refl _
 |b,a::l=>by
  unfold Cj;split
  ·exact pickL_sub.cons_cons a
  ·exact pickL_sub.cons a
theorem Xh{b:Nat}{l:List Val}:(Cj b l).length<=l.length:=pickL_sub.length_le
theorem Acj{m l:List Val}(h:m.Sublist l)(hl:HvL l):CZ m<=CZ l:=by
 induction h with
 |slnil=>exact Int.le_refl _
 |cons a h ih=>have:=ih hl.2;have:=Hv.pos hl.1;simp only[CZ];omega
 |cons_cons a h ih=>have:=ih hl.2;simp only[CZ];omega
def Ds(l:List Val):List (List Val):=(List.range (2^l.length)).map fun b=>Cj b l
def TS(l:List Val):Val:=if 10<l.length then .nil else EJ ((Ds l).map DM)
theorem XK{l:List Val}(hs:SL l){b:Nat}:G (DM (Cj b l)):=GF (fun x hx=>hs.good x (pickL_sub.subset hx)) (hs.asc.sublist pickL_sub)
theorem Oj{l:List Val}(hs:SL l):∀x∈(Ds l).map DM,G x:=fun x hx=>by
 obtain⟨c,hc,rfl⟩:=List.mem_map.1 hx
 obtain⟨b,_,rfl⟩:=List.mem_map.1 hc
 exact XK hs
theorem XT{l:List Val}(hs:SL l):G (TS l):=by
 unfold TS;split
 ·exact G.nil
 ·exact Ej (Oj hs)
theorem Vf{l:List Val}(h:l.length<=10):2^l.length<=1024:=Nat.pow_le_pow_right (n:=2) (by decide) h
theorem TU{l:List Val}(hs:SL l):∀Q,Q (TS l)->Hk l Q:=by
 intro Q h _
 unfold TS Ds at h
 have gd:=Oj hs
 unfold Ds at gd
 refine⟨fun hb=>?_,fun hb _=>?_⟩
 ·rw[if_pos (by omega)] at h;exact h
 ·rw[if_neg (by omega)] at h
  have p1:=Vf (l:=l) (by omega)
  have e1:((1:Int):Int)* 2^(l.length:Int).toNat=((2^l.length:Nat):Int):=by rw[Int.toNat_natCast];simp
  rw[e1]
  clear e1
  generalize 2^l.length=N at*
  refine⟨⟨by omega,by omega,by unfold I64;omega⟩,?_⟩
  refine⟨fun s=>0<=s.2/\s.2<=(N:Int)/\s.1=((List.range s.2.toNat).map fun b=>Cj b l).map DM,fun s=>((N:Int)-s.2).toNat,⟨by simp,by simp,by simp⟩,?_⟩
  rintro⟨o,b⟩⟨b0,b1,e⟩
  simp only at b0 b1 e
  subst e
  refine⟨fun hlt _=>?_,fun hge=>?_⟩
  ·refine⟨fun s=>0<=s.2/\s.2<=l.length/\s.1.length<=s.2/\s.1++Cj (b.toNat/2^s.2.toNat) (l.drop s.2.toNat)=Cj b.toNat l,fun s=>(l.length-s.2).toNat,⟨by simp,by simp,by simp,by simp⟩,?_⟩
   rintro⟨pt,i⟩⟨i0,i1,pl,pe⟩
   simp only at i0 i1 pl pe
   refine⟨fun hi=>Ae ⟨⟨i0,hi⟩,⟨i0,by omega⟩,?_⟩,fun hi=>?_⟩
   ·have ed:b.fdiv (2^i.toNat)=((b.toNat/2^i.toNat:Nat):Int):=by
     rw[Int.fdiv_eq_ediv_of_nonneg _ (by exact Int.le_of_lt (Int.pow_pos (by decide)))]
     conv=>lhs;rw[show b=(b.toNat:Int) by omega]
     simp
    rw[ed]
    have en:AbX (·&&&·) ((b.toNat/2^i.toNat:Nat):Int) (1:Int)=((b.toNat/2^i.toNat%2:Nat):Int):=by
     show((((b.toNat/2^i.toNat:Nat):Int).toNat&&&1:Nat):Int)=_
     rw[Int.toNat_natCast,Nat.and_one_is_mod]
    rw[en]
    rw[Cm i0 hi] at pe
    have step:∀pt':List Val,pt'.length<=i+1->pt'++Cj (b.toNat/2^i.toNat/2) (l.drop (i+1).toNat)=Cj b.toNat l->I64 (i+1)/\((0<=i+1/\i+1<=l.length/\pt'.length<=i+1/\pt'++Cj (b.toNat/2^(i+1).toNat) (l.drop (i+1).toNat)=Cj b.toNat l)/\((l.length:Int)-(i+1)).toNat<((l.length:Int)-i).toNat):=fun pt' h1 h2=>
     ⟨by unfold I64;omega,⟨by omega,by omega,h1,by rw[show(i+1).toNat=i.toNat+1 by omega] at h2 ⊢;rw[Nat.pow_succ,<-Nat.div_div_eq_div_mul];exact h2⟩,by omega⟩
    refine⟨⟨Int.natCast_nonneg _,by decide⟩,fun e=>⟨BY (by simp;omega),step (pt++[ix l i]) (by simp;omega) ?_⟩,fun e=>step pt (by omega) ?_⟩
    ·rw[<-pe];simp only[Cj];rw[if_pos (by omega)];simp
    ·rw[<-pe];simp only[Cj];rw[if_neg (by omega)]
   ·have hi2:i=l.length:=by omega
    subst hi2
    rw[Int.toNat_natCast,List.drop_length] at pe
    simp only[Cj,List.append_nil] at pe
    subst pe
    refine GM (GL.fit fun x hx=>hs.good x (pickL_sub.subset hx)) ⟨BY (by simp;omega),by unfold I64;omega,⟨by show 0<=b+1;omega,by show b+1<=_;omega,?_⟩,by show((N:Int)-(b+1)).toNat<((N:Int)-b).toNat;omega⟩
    show _=((List.range (b+1).toNat).map fun b=>Cj b l).map DM
    rw[show(b+1).toNat=b.toNat+1 by omega,List.range_succ];simp
  ·have hb2:b=(N:Int):=by omega
   subst hb2
   rw[Int.toNat_natCast]
   exact FE (GL.fit gd) (by simp;omega) h
def Zb(a:List Val):Val:=if(ix a 0).isSet&&(ix a 1).isNum&&decide (0<=(ix a 1).numD) then IB (ix a 0).setL (ix a 1).numD else .nil
def Vp(a:List Val):Val:=.truth ((ix a 0).isSet&&(ix a 1).isSet&&(ix a 0).setL.all (EF (ix a 1).setL))
def HJ(op:Aa):Option (Int×(List Val->Val)):=
 if op=[115,101,116] then some (-1,EJ) else if op=[105,110] then some (2,fun a=>.truth ((ix a 1).isSet&&EF (ix a 1).setL (ix a 0))) else if op=[115,117,98,115,101,116] then some (2,Vp) else
 if op=[117,110,105,111,110] then some (2,s2 fun x y=>EJ (x++y)) else if op=[105,110,116,101,114] then some (2,s2 fun x y=>DM (x.filter (EF y))) else
 if op=[109,105,110,117,115] then some (2,s2 fun x y=>DM (x.filter fun v=> !EF y v)) else if op=[115,105,122,101] then some (1,s1 fun x=>.num x.length) else
 if op=[102,108,97,116,116,101,110] then some (1,s1 Jt) else if op=[112,111,119,101,114,115,101,116] then some (1,s1 TS) else if op=[45,62] then some (2,s2 Gd) else
 if op=[115,101,113,115] then some (2,Zb) else none
theorem SL.has{l:List Val}(hs:SL l){v:Val}(g:G v){Q:Bool->Prop}(h:Q (EF l v)):Of l v Q:=AdB hs.asc (GL.hv hs.good) g.1.hv (by have:=hs.len;omega) h
theorem Ws{n:Nat}(h:n<=1000000):G (.num (n:Int)):=G.num (by unfold I64;omega)
theorem FO{x y:List Val}(hx:∀v∈x,G v)(hy:∀v∈y,G v):∀v∈x++y,G v:=fun v hv=>(List.mem_append.1 hv).elim (hx v) (hy v)
theorem Vs{l:List Val}{p:Val->Bool}:l.all p= !l.any fun x=> !p x:=by simp[List.all_eq_not_any_not]
theorem AaZ{op:Aa}{Q:Int->Option EA->Prop}(h:∀n o,OpIs (HJ op) n o->Q n o):EY op Q:=by
 refine⟨fun e=>?_,fun e1=>⟨fun e=>?_,fun e2=>⟨fun e=>?_,fun e3=>⟨fun e=>?_,fun e4=>⟨fun e=>?_,fun e5=>⟨fun e=>?_,fun e6=>⟨fun e=>?_,fun e7=>⟨fun e=>?_,fun e8=>⟨fun e=>?_,fun e9=>⟨fun e=>?_,fun e10=>⟨fun e=>?_,fun e11=>?_⟩⟩⟩⟩⟩⟩⟩⟩⟩⟩⟩
 ·subst e;exact h _ _ (.of fun a ha hl _=>⟨Ej ha,fun Q h=>Eo (by omega) (FE (GL.fit ha) (by omega) h)⟩)
 ·subst e
  refine h _ _ (.of (.mk (by decide) fun a ha hl hk=>⟨G.truth,fun Q h=>?_⟩))
  have i0:=BT hk (show(0:Int)<=0 by decide) (by decide);have i1:=BT hk (show(0:Int)<=1 by decide) (by decide)
  refine⟨i1,Bc (Ae ⟨fun e=>⟨i0,(G.at ha i1).sl.has (G.at ha i0) ?_⟩,fun e=>?_⟩)⟩
  ·rw[e] at h;exact h
  ·rw[e] at h;exact h
 ·subst e
  refine h _ _ (.of (.mk (by decide) fun a ha hl hk=>⟨G.truth,fun Q h=>?_⟩))
  have i0:=BT hk (show(0:Int)<=0 by decide) (by decide);have i1:=BT hk (show(0:Int)<=1 by decide) (by decide)
  unfold Vp at h
  refine⟨i0,Bc ⟨i1,Bc (Ae ⟨fun e=>⟨fun e2=>?_,fun e2=>?_⟩,fun e=>?_⟩)⟩⟩
  ·rw[e,e2,Vs] at h
   exact Rf (p:=fun x=> !EF (ix a 1).setL x) (by have:=(G.at ha i0).setN;omega) (fun x hx Q hq=>(G.at ha i1).sl.has ((G.at ha i0).setL x hx) hq) h
  ·rw[e,e2] at h;exact h
  ·rw[e] at h;exact h
 ·subst e;exact h _ _ (.of (Mm fun x y hx hy=>⟨Ej (FO hx.good hy.good),fun Q h=>Ju (by have:=hx.len;have:=hy.len;show x.length+y.length<=_;omega) (FE (GL.fit (FO hx.good hy.good)) (by have:=hx.len;have:=hy.len;simp;omega) h)⟩))
 ·subst e;exact h _ _ (.of (Mm fun x y hx hy=>⟨LU hx.good hx.asc,fun Q h=>VN hx.good (by have:=hx.len;show x.length<=_;omega) (fun v hv Q hq=>hy.has (hx.good v hv) hq) h⟩))
 ·subst e;exact h _ _ (.of (Mm fun x y hx hy=>⟨LU hx.good hx.asc,fun Q h=>VN (p:=fun v=> !EF y v) hx.good (by have:=hx.len;show x.length<=_;omega) (fun v hv Q hq=>hy.has (hx.good v hv) hq) h⟩))
 ·subst e;exact h _ _ (.of (RQ fun x hx=>⟨Ws (by have:=hx.len;omega),fun Q h _=>h⟩))
 ·subst e;exact h _ _ (.of (RQ fun x hx=>UT hx))
 ·subst e;exact h _ _ (.of (RQ fun x hx=>⟨XT hx,TU hx⟩))
 ·subst e;exact h _ _ (.of (Mm fun x y hx hy=>WJ hx.good hy.good hx.len hy.len))
 ·subst e
  refine h _ _ (.of (.mk (by decide) fun a ha hl hk=>?_))
  have i0:=BT hk (show(0:Int)<=0 by decide) (by decide);have i1:=BT hk (show(0:Int)<=1 by decide) (by decide)
  by_cases hc:((ix a 0).isSet&&(ix a 1).isNum&&decide (0<=(ix a 1).numD))=true
  ·have hq:=hc
   simp only[Bool.and_eq_true,decide_eq_true_eq] at hq
   have hh:=Qi (G.at ha i0).setL (G.at ha i0).setN hq.2 (G.at ha i1).numI
   unfold Zb;rw[if_pos hc]
   refine⟨hh.1,fun Q h=>⟨i0,Bc ⟨i1,fun hn=>?_,fun _=>hh.2 _ h⟩⟩⟩
   rw[hq.1.1,hq.1.2] at hn;simp at hn;omega
  ·unfold Zb;rw[if_neg hc]
   refine⟨G.nil,fun Q h=>⟨i0,Bc ⟨i1,fun _=>h,fun hn=>absurd ?_ hc⟩⟩⟩
   cases e1:(ix a 0).isSet<;>cases e2:(ix a 1).isNum<;>simp[e1,e2] at hn ⊢
   exact hn
 ·have:HJ op=none:=by unfold HJ;rw[if_neg e1,if_neg e2,if_neg e3,if_neg e4,if_neg e5,if_neg e6,if_neg e7,if_neg e8,if_neg e9,if_neg e10,if_neg e11]
  rw[this] at h;exact h _ _ ⟨rfl,rfl⟩
end Go.Vc
namespace Go.Vc
def RS:List Val->List Val
 |a::_::l=>a::RS l
 |_=>[]
def RR:List Val->List Val
 |_::b::l=>b::RR l
 |_=>[]
theorem QQ:∀{l:List Val}{x:Val},x∈RS l->x∈l
 |[],x,h=>by cases h
 |[_],x,h=>by cases h
 |a::b::l,x,h=>by
  rcases List.mem_cons.1 h with rfl|h
  ·simp
  ·exact List.mem_cons_of_mem _ (List.mem_cons_of_mem _ (QQ h))
theorem QE:∀{l:List Val}{x:Val},x∈RR l->x∈l
 |[],x,h=>by cases h
 |[_],x,h=>by cases h
 |a::b::l,x,h=>by
  rcases List.mem_cons.1 h with rfl|h
  ·simp
  ·exact List.mem_cons_of_mem _ (List.mem_cons_of_mem _ (QE h))
theorem Jb:∀{l:List Val},(RS l).length=l.length/2
 |[]=>rfl
 |[_]=>by simp[RS]
 |a::b::l=>by simp[RS,Jb];omega
theorem MO:∀{l:List Val},(RR l).length=l.length/2
 |[]=>rfl
 |[_]=>by simp[RR]
 |a::b::l=>by simp[RR,MO];omega
theorem Vx{l:List Val}(h:l.length<=1):RS l=[]:=List.length_eq_zero_iff.1 (by rw[Jb];omega)
theorem Vu{l:List Val}(h:l.length<=1):RR l=[]:=List.length_eq_zero_iff.1 (by rw[MO];omega)
theorem Acw{l:List Val}{i:Int}(h0:0<=i)(h1:i+1<l.length):l.drop i.toNat=ix l i::ix l (i+1)::l.drop (i+2).toNat:=by
 rw[Cm h0 (by omega),Cm (i:=i+1) (by omega) h1,show i+1+1=i+2 by omega]
def HN(a:List Val):Val:=if a.length%2=1 then .nil else CC (RS a) (RR a)
theorem tmod2{n:Nat}:((n:Int).tmod 2=1)↔n%2=1:=by
 rw[Int.tmod_eq_emod_of_nonneg (by omega)];omega
theorem Adz{a:List Val}(ha:∀x∈a,G x)(hl:a.length<=300000):G (HN a)/\∀Q,Q (HN a)->DA a Q:=by
 have ge:∀x∈RS a,G x:=fun x hx=>ha x (QQ hx)
 have go:∀x∈RR a,G x:=fun x hx=>ha x (QE hx)
 refine⟨?_,fun Q h=>?_⟩
 ·unfold HN;split
  ·exact G.nil
  ·exact IZ ge go
 ·refine⟨fun s=>0<=s.2.2/\s.2.2<=a.length+1/\s.1.length<=s.2.2/\s.2.1.length<=s.2.2/\s.1++RS (a.drop s.2.2.toNat)=RS a/\s.2.1++RR (a.drop s.2.2.toNat)=RR a,fun s=>(a.length+1-s.2.2).toNat,⟨by simp,by simp;omega,by simp,by simp,by simp,by simp⟩,?_⟩
  rintro⟨ks,vs,i⟩⟨i0,i1,l1,l2,e1,e2⟩
  simp only at i0 i1 l1 l2 e1 e2
  refine⟨by unfold I64;omega,fun _=>⟨fun hi=>?_,fun hi _=>⟨by decide,fun ho=>?_,fun ho=>?_⟩⟩⟩
  ·have hin:In i a:=⟨i0,by omega⟩
   have hin1:In (i+1) a:=⟨by omega,hi⟩
   rw[Acw i0 hi] at e1 e2
   have r1:AY (ks.length+[ix a i].length) 16:=BY (by simp;omega)
   have r2:AY (vs.length+[ix a (i+1)].length) 16:=BY (by simp;omega)
   have ii:I64 (i+1):=by unfold I64;omega
   have fin:I64 (i+2)/\((0<=i+2/\i+2<=(a.length:Int)+1/\((ks++[ix a i]).length:Int)<=i+2/\((vs++[ix a (i+1)]).length:Int)<=i+2/\(ks++[ix a i])++RS (a.drop (i+2).toNat)=RS a/\(vs++[ix a (i+1)])++RR (a.drop (i+2).toNat)=RR a)/\((a.length:Int)+1-(i+2)).toNat<((a.length:Int)+1-i).toNat):=by
    refine⟨by unfold I64;omega,⟨by omega,by omega,by simp;omega,by simp;omega,?_,?_⟩,by omega⟩
    ·rw[<-e1];simp[RS]
    ·rw[<-e2];simp[RR]
   exact Ae ⟨⟨hin,ii,hin1,r1,r2,fin⟩,⟨hin,ii,hin1,r1,r2,fin⟩,hin,ii,hin1,r1,r2,fin⟩
  ·unfold HN at h;rw[if_pos (tmod2.1 ho)] at h;exact h
  ·unfold HN at h;rw[if_neg fun hh=>ho (tmod2.2 hh)] at h
   rw[Vx (by rw[List.length_drop];omega),List.append_nil] at e1
   rw[Vu (by rw[List.length_drop];omega),List.append_nil] at e2
   subst e1 e2
   exact DE (GL.fit ge) (GL.fit go) (by rw[Jb,MO]) (by rw[Jb];omega) h
def Js:List Val->List Val->Val->Option Val
 |k::ks,v::vs,x=>if AK k x=0 then some v else Js ks vs x
 |_,_,_=>none
def Sn:List Val->List Val->Val->Val->List Val
 |k::ks,v::vs,x,y=>if AK k x=0 then y::vs else v::Sn ks vs x y
 |_,vs,_,_=>vs
theorem Ka:∀{ks vs:List Val}{x:Val}{i:Nat},Ih ks->ks.length=vs.length->ks[i]? =some x->Js ks vs x=vs[i]? /\∀y,Sn ks vs x y=vs.set i y
 |k::ks,v::vs,x,0,ha,hl,h=>by
  simp at h;subst h
  simp[Js,Sn,En]
 |k::ks,v::vs,x,i+1,ha,hl,h=>by
  simp at h
  have hne:¬AK k x=0:=by
   have:=(List.pairwise_cons.1 ha).1 x (List.mem_of_getElem? h)
   omega
  have ih:=Ka (ks:=ks) (vs:=vs) (List.pairwise_cons.1 ha).2 (by simpa using hl) h
  exact⟨by simp[Js,hne,ih.1],fun y=>by simp[Sn,hne,ih.2 y]⟩
 |[],_,x,i,_,_,h=>by simp at h
 |k::ks,[],x,i,_,hl,h=>by simp at hl
theorem Gw:∀{ks vs:List Val}{x:Val},HvL ks->Hv x->x∉ks->Js ks vs x=none
 |[],vs,x,_,_,_=>by cases vs<;>rfl
 |k::ks,[],x,_,_,_=>rfl
 |k::ks,v::vs,x,hk,hx,h=>by
  have hne:¬AK k x=0:=fun e=>h (by rw[Gf hk.1 hx e];simp)
  simp only[Js,if_neg hne]
  exact Gw hk.2 hx fun hm=>h (List.mem_cons_of_mem _ hm)
def atV(f k:Val):Val:=(Js f.fnK f.fnV k).getD .nil
def OE(f k v:Val):Val:=if f.isFn then(if(Js f.fnK f.fnV k).isSome then CC f.fnK (Sn f.fnK f.fnV k v) else f) else .nil
theorem MP{l:List Val}{i:Int}{x:Val}(h0:0<=i)(h1:i<l.length)(e:ix l i=x):l[i.toNat]? =some x:=by rw[CJ h0 h1,e]
theorem XV{f k:Val}(g:G f):G (atV f k):=by
 unfold atV
 have:∀(ks vs:List Val),(∀x∈vs,G x)->G ((Js ks vs k).getD .nil):=by
  intro ks
  induction ks with
  |nil=>intro vs _;cases vs<;>exact G.nil
  |cons a ks ih=>
   intro vs hv
   cases vs with
   |nil=>exact G.nil
   |cons b vs=>
    simp only[Js];split
    ·exact hv b (by simp)
    ·exact ih vs fun x hx=>hv x (List.mem_cons_of_mem _ hx)
 exact this _ _ g.fnV
theorem IY:∀{ks vs:List Val}{x y:Val},(∀v∈vs,G v)->G y->(∀v∈Sn ks vs x y,G v)/\(Sn ks vs x y).length=vs.length
 |[],vs,x,y,hv,_=>by cases vs<;>exact⟨hv,rfl⟩
 |k::ks,[],x,y,hv,_=>⟨hv,rfl⟩
 |k::ks,v::vs,x,y,hv,hy=>by
  simp only[Sn];split
  ·exact⟨fun w hw=>(List.mem_cons.1 hw).elim (fun e=>e▸hy) fun hw=>hv w (List.mem_cons_of_mem _ hw),rfl⟩
  ·have ih:=IY (ks:=ks) (x:=x) (fun w hw=>hv w (List.mem_cons_of_mem _ hw)) hy
   exact⟨fun w hw=>(List.mem_cons.1 hw).elim (fun e=>e▸hv v (by simp)) (ih.1 w),by simp[ih.2]⟩
theorem Aeh{f k:Val}{Q:Val->Prop}(gf:G f)(gk:G k)(h:Q (atV f k)):Adc f k Q:=by
 have hn:=gf.fnN
 have hl:=gf.fnLen
 refine Gx (QV gf.fnAsc (GL.hv gf.fnK) gk.1.hv (by omega) (fun p p0 p1 e=>⟨fun _=>?_,fun hh=>(by cases hh)⟩) fun hm p=>⟨fun hh=>(by cases hh),fun _=>?_⟩)
 ·have l1:=(Ka gf.fnAsc hl (MP p0 p1 e)).1
  rw[CJ p0 (by omega)] at l1
  rw[atV,l1] at h
  exact⟨⟨p0,by omega⟩,h⟩
 ·rw[atV,Gw (GL.hv gf.fnK) gk.1.hv hm] at h;exact h
theorem Yx{f k v:Val}(gf:G f)(gv:G v):G (OE f k v):=by
 unfold OE;split
 ·split
  ·exact IZ gf.fnK (IY gf.fnV gv).1
  ·exact gf
 ·exact G.nil
theorem Abb{f k v:Val}{Q:Val->Prop}(gf:G f)(gk:G k)(gv:G v)(h:Q (OE f k v)):UY f k v Q:=by
 have hn:=gf.fnN
 have hl:=gf.fnLen
 refine Gx ⟨fun e=>?_,fun e=>QV gf.fnAsc (GL.hv gf.fnK) gk.1.hv (by omega) (fun p p0 p1 e2=>⟨fun hh=>(by cases hh),fun _=>?_⟩) fun hm p=>⟨fun _=>?_,fun hh=>(by cases hh)⟩⟩
 ·have:f.isFn=false:=by cases e2:f.isFn<;>simp[e2] at e ⊢
  rw[OE,this] at h;exact h
 ·have e1:f.isFn=true:=by cases e2:f.isFn<;>simp[e2] at e ⊢
  have l1:=Ka gf.fnAsc hl (MP p0 p1 e2)
  have l2:=l1.1
  rw[CJ p0 (by omega)] at l2
  rw[OE,e1,if_pos rfl,l2,if_pos (show(some (ix f.fnV p)).isSome=true from rfl),l1.2] at h
  have sg:=IY (ks:=f.fnK) (x:=k) gf.fnV gv
  rw[l1.2] at sg
  exact Eo (by omega) ⟨⟨p0,by omega⟩,DE (GL.fit gf.fnK) (GL.fit sg.1) (by rw[sg.2];exact hl) (by omega) h⟩
 ·have e1:f.isFn=true:=by cases e2:f.isFn<;>simp[e2] at e ⊢
  rw[OE,e1,if_pos rfl,Gw (GL.hv gf.fnK) gk.1.hv hm] at h
  exact h
def q1(f:List Val->List Val->Val)(a:List Val):Val:=if Cw (ix a 0) then f (ix a 0).fnV a else .nil
theorem Zc{v:Val}(h:Cw v=true):v.isFn=true:=by unfold Cw at h;simp at h;exact h.1
theorem Kx{g:Fg (List Val×List Val) Val}{f:List Val->List Val->Val}{n:Int}(hn:1<=n)(hf:∀l a,(∀x∈l,G x)->l.length<=1023->(∀x∈a,G x)->(a.length:Int)=n->a.length<=300000->G (f l a)/\∀Q,Q (f l a)->g (l,a) Q):Does (fun x Q=>DD x g Q) n (q1 f):=
 .mk (by omega) fun a ha hl hk=>by
  have i0:In 0 a:=⟨by omega,by omega⟩
  have hh:=hf _ _ (G.at ha i0).fnV (G.at ha i0).fnN.2 ha hk hl
  unfold q1
  cases e:Cw (ix a 0)
  ·exact⟨G.nil,fun Q h=>⟨i0,Gk (fun e2=>by(rw[e] at e2;cases e2)) fun _=>⟨fun h=>(by cases h),fun _=>h⟩⟩⟩
  ·exact⟨hh.1,fun Q h=>⟨i0,Gk (fun _=>⟨fun _=>hh.2 _ h,fun h=>(by cases h)⟩) fun e2=>by(rw[e] at e2;cases e2)⟩⟩
def TV(l:List Val):Val:=if l=[] then .nil else Cr (l.drop 1)
def Sd(l:List Val):Val:=if l=[] then .nil else ix l 0
def Abp(l a:List Val):Val:=if Cw (ix a 1) then Cr (l++(ix a 1).fnV) else .nil
def AbO(v:Val):Val:=if v.isFn then DM v.fnK else .nil
def Wo(v:Val):Val:=if v.isFn then EJ v.fnV else .nil
def BM(op:Aa):Option (Int×(List Val->Val)):=
 if op=[102,117,110] then some (-1,HN) else if op=[115,101,113] then some (-1,Cr) else if op=[97,116] then some (2,fun a=>atV (ix a 0) (ix a 1)) else
 if op=[112,117,116] then some (3,fun a=>OE (ix a 0) (ix a 1) (ix a 2)) else if op=[100,111,109,97,105,110] then some (1,fun a=>AbO (ix a 0)) else
 if op=[118,97,108,117,101,115] then some (1,fun a=>Wo (ix a 0)) else if op=[108,101,110] then some (1,q1 fun l _=>.num l.length) else
 if op=[104,101,97,100] then some (1,q1 fun l _=>Sd l) else if op=[116,97,105,108] then some (1,q1 fun l _=>TV l) else
 if op=[97,112,112,101,110,100] then some (2,q1 fun l a=>Cr (l++a.drop 1)) else if op=[43,43] then some (2,q1 Abp) else none
theorem RE{l:List Val}{Q:Val->Prop}(hl:∀x∈l,G x)(hn:l.length<=1000000)(h:Q (Cr l)):BQ l Q:=Gp (GL.fit hl) hn h
theorem QK{op:Aa}{Q:Int->Option EA->Prop}(h:∀n o,OpIs (BM op) n o->Q n o):BC op Q:=by
 refine⟨fun e=>?_,fun e1=>⟨fun e=>?_,fun e2=>⟨fun e=>?_,fun e3=>⟨fun e=>?_,fun e4=>⟨fun e=>?_,fun e5=>⟨fun e=>?_,fun e6=>⟨fun e=>?_,fun e7=>⟨fun e=>?_,fun e8=>⟨fun e=>?_,fun e9=>⟨fun e=>?_,fun e10=>⟨fun e=>?_,fun e11=>?_⟩⟩⟩⟩⟩⟩⟩⟩⟩⟩⟩
 ·subst e;exact h _ _ (.of fun a ha hl _=>Adz ha hl)
 ·subst e;exact h _ _ (.of fun a ha hl _=>⟨GO ha,fun Q h=>Eo (by omega) (RE ha (by omega) h)⟩)
 ·subst e
  refine h _ _ (.of (.mk (by decide) fun a ha hl hk=>?_))
  have i0:=BT hk (show(0:Int)<=0 by decide) (by decide);have i1:=BT hk (show(0:Int)<=1 by decide) (by decide)
  exact⟨XV (G.at ha i0),fun Q h=>⟨i0,i1,Aeh (G.at ha i0) (G.at ha i1) h⟩⟩
 ·subst e
  refine h _ _ (.of (.mk (by decide) fun a ha hl hk=>?_))
  have i0:=BT hk (show(0:Int)<=0 by decide) (by decide);have i1:=BT hk (show(0:Int)<=1 by decide) (by decide);have i2:=BT hk (show(0:Int)<=2 by decide) (by decide)
  exact⟨Yx (G.at ha i0) (G.at ha i2),fun Q h=>⟨i0,i1,i2,Abb (G.at ha i0) (G.at ha i1) (G.at ha i2) h⟩⟩
 ·subst e
  refine h _ _ (.of (.mk (by decide) fun a ha hl hk=>?_))
  have i0:=BT hk (show(0:Int)<=0 by decide) (by decide)
  have g0:=G.at ha i0
  unfold AbO
  cases e:(ix a 0).isFn
  ·exact⟨G.nil,fun Q h=>⟨i0,Gx ⟨fun e2=>by(rw[e] at e2;cases e2),fun _=>h⟩⟩⟩
  ·exact⟨GF g0.fnK g0.fnAsc,fun Q h=>⟨i0,Gx ⟨fun _=>GM (GL.fit g0.fnK) h,fun e2=>by(rw[e] at e2;cases e2)⟩⟩⟩
 ·subst e
  refine h _ _ (.of (.mk (by decide) fun a ha hl hk=>?_))
  have i0:=BT hk (show(0:Int)<=0 by decide) (by decide)
  have g0:=G.at ha i0
  have hn:=g0.fnN
  unfold Wo
  cases e:(ix a 0).isFn
  ·exact⟨G.nil,fun Q h=>⟨i0,Gx ⟨fun e2=>by(rw[e] at e2;cases e2),fun _=>h⟩⟩⟩
  ·exact⟨Ej g0.fnV,fun Q h=>⟨i0,Gx ⟨fun _=>Eo (by omega) (FE (GL.fit g0.fnV) (by omega) h),fun e2=>by(rw[e] at e2;cases e2)⟩⟩⟩
 ·subst e;exact h _ _ (.of (Kx (by decide) fun l a hl h1 ha hk h3=>⟨Ws (by omega),fun Q h _=>h⟩))
 ·subst e
  refine h _ _ (.of (Kx (by decide) fun l a hl h1 ha hk h3=>?_))
  unfold Sd
  by_cases hz:l=[]
  ·rw[if_pos hz];exact⟨G.nil,fun Q h _=>⟨fun _=>h,fun hn=>absurd (by rw[hz];rfl) hn⟩⟩
  ·have hp:=List.length_pos_iff.2 hz
   have hin:In 0 l:=⟨by omega,by omega⟩
   rw[if_neg hz];exact⟨hl _ (Az hin.1 hin.2),fun Q h _=>⟨fun e=>by(have e:(l.length:Int)=0:=e;omega),fun _=>⟨hin,h⟩⟩⟩
 ·subst e
  refine h _ _ (.of (Kx (by decide) fun l a hl h1 ha hk h3=>?_))
  have gd:∀x∈l.drop 1,G x:=fun x hx=>hl x (List.mem_of_mem_drop hx)
  unfold TV
  by_cases hz:l=[]
  ·rw[if_pos hz];exact⟨G.nil,fun Q h _=>⟨fun _=>h,fun hn=>absurd (by rw[hz];rfl) hn⟩⟩
  ·have hp:=List.length_pos_iff.2 hz
   rw[if_neg hz];exact⟨GO gd,fun Q h _=>⟨fun e=>by(have e:(l.length:Int)=0:=e;omega),fun _=>⟨⟨by decide,by show(1:Int)<=l.length;omega⟩,Eo (by show(l.drop 1).length<=_;rw[List.length_drop];omega) (RE gd (by show(l.drop 1).length<=_;rw[List.length_drop];omega) h)⟩⟩⟩
 ·subst e
  refine h _ _ (.of (Kx (by decide) fun l a hl h1 ha hk h3=>?_))
  have gd:∀x∈l++a.drop 1,G x:=FO hl fun x hx=>ha x (List.mem_of_mem_drop hx)
  exact⟨GO gd,fun Q h=>⟨⟨by decide,by show(1:Int)<=a.length;omega⟩,Ju (by show l.length+(a.drop 1).length<=_;rw[List.length_drop];omega) (RE gd (by show(l++a.drop 1).length<=_;rw[List.length_append,List.length_drop];omega) h)⟩⟩
 ·subst e
  refine h _ _ (.of (Kx (by decide) fun l a hl h1 ha hk h3=>?_))
  have i1:In 1 a:=⟨by decide,by omega⟩
  have g1:=G.at ha i1
  have hn:=g1.fnN
  have gd:=FO hl g1.fnV
  unfold Abp
  cases e:Cw (ix a 1)
  ·exact⟨G.nil,fun Q h=>⟨i1,Gk (fun e2=>by(rw[e] at e2;cases e2)) fun _=>⟨fun h=>(by cases h),fun _=>h⟩⟩⟩
  ·exact⟨GO gd,fun Q h=>⟨i1,Gk (fun _=>⟨fun _=>Ju (by show l.length+(ix a 1).fnV.length<=_;omega) (RE gd (by show(l++(ix a 1).fnV).length<=_;rw[List.length_append];omega) h),fun h=>(by cases h)⟩) fun e2=>by(rw[e] at e2;cases e2)⟩⟩
 ·have:BM op=none:=by unfold BM;rw[if_neg e1,if_neg e2,if_neg e3,if_neg e4,if_neg e5,if_neg e6,if_neg e7,if_neg e8,if_neg e9,if_neg e10,if_neg e11]
  rw[this] at h;exact h _ _ ⟨rfl,rfl⟩
def opF(op:Aa):Option (Int×(List Val->Val)):=(Fa op).or ((CO op).or ((HJ op).or (BM op)))
theorem Mc{s:Option (Int×(List Val->Val))}{n:Int}{o:Option EA}(h:OpIs s n o):o.isSome=s.isSome:=by
 cases s with
 |none=>rw[h.2];rfl
 |some p=>obtain⟨g,hg,_⟩:=h.2;rw[hg];rfl
theorem OM{op:Aa}{Q:Int->Option EA->Prop}(h:∀n o,OpIs (opF op) n o->Q n o):Hj op Q:=by
 intro _
 have fam:∀x:Int,0<=x->x<4->∀R:Int->Option EA->Prop,(∀n o,OpIs (ix [Fa op,CO op,HJ op,BM op] x) n o->R n o)->FgS (ix [Hd DH,Hd Cc,Hd EY,Hd BC] x) op R:=by
  intro x x0 x1 R hR
  have:x=0\/x=1\/x=2\/x=3:=by omega
  rcases this with rfl|rfl|rfl|rfl
  ·exact Zd hR
  ·exact Uu hR
  ·exact AaZ hR
  ·exact QK hR
 refine⟨fun x=>0<=x/\x<=4/\opF op=([Fa op,CO op,HJ op,BM op].drop x.toNat).foldr Option.or none,fun x=>(4-x).toNat,⟨by decide,by decide,by simp[opF]⟩,?_⟩
 rintro x⟨x0,x1,e⟩
 have key:∀x:Int,0<=x->x<4->([Fa op,CO op,HJ op,BM op].drop x.toNat).foldr Option.or none=(ix [Fa op,CO op,HJ op,BM op] x).or (([Fa op,CO op,HJ op,BM op].drop (x+1).toNat).foldr Option.or none):=by
  intro x x0 x1
  have:x=0\/x=1\/x=2\/x=3:=by omega
  rcases this with rfl|rfl|rfl|rfl<;>rfl
 refine⟨fun hx=>⟨⟨x0,hx⟩,fam x x0 hx _ fun n o hop=>⟨fun hs=>?_,fun hs=>⟨by unfold I64;omega,⟨by omega,by(have hx:x<4:=hx;omega),?_⟩,by show(4-(x+1)).toNat<(4-x).toNat;have hx:x<4:=hx;omega⟩⟩⟩,fun hx=>?_⟩
 ·rw[key x x0 hx] at e
  rw[Mc hop] at hs
  rw[e] at h
  obtain⟨p,hp⟩:=Option.isSome_iff_exists.1 hs
  rw[hp] at h hop
  exact h n o hop
 ·rw[key x x0 hx] at e
  rw[Mc hop] at hs
  have:ix [Fa op,CO op,HJ op,BM op] x=none:=by
   cases e2:ix [Fa op,CO op,HJ op,BM op] x with
   |none=>rfl
   |some p=>rw[e2] at hs;cases hs
  rw[this] at e;exact e
 ·have:x=4:=by have:¬x<4:=hx;omega
  subst this
  have e:opF op=none:=e
  rw[e] at h;exact h _ _ ⟨rfl,rfl⟩
def Jz(op:Aa)(a:List Val):Val:=
 match opF op with
 |none=>.nil
 |some (n,f)=>if 0<=n/\n≠(a.length:Int) then .nil else f a
theorem Aam{op:Aa}{a:List Val}{Q:Val->Prop}(ha:∀x∈a,G x)(hl:a.length<=300000)(h:G (Jz op a)->Q (Jz op a)):Ry op a Q:=by
 refine OM fun n o ho=>Ae ?_
 unfold Jz at h
 cases e:opF op with
 |none=>
  rw[e] at ho h
  obtain⟨rfl,rfl⟩:=ho
  exact⟨fun _=>⟨fun _=>h G.nil,fun hh=>(by cases hh)⟩,fun hh=>(by cases hh)⟩
 |some p=>
  obtain⟨k,f⟩:=p
  rw[e] at ho h
  obtain⟨rfl,g,rfl,hd⟩:=ho
  simp only at h
  refine⟨fun hh=>(by cases hh),fun _=>⟨fun hn _=>?_,fun hn=>?_⟩⟩
  ·by_cases hc:n=(a.length:Int)
   ·rw[if_neg fun hh=>hh.2 hc] at h
    have hda:=hd a ha hl (.inr hc.symm)
    exact⟨fun hh=>absurd hc (of_decide_eq_true hh),fun _=>⟨g,rfl,hda.2 _ (h hda.1)⟩⟩
   ·rw[if_pos ⟨hn,hc⟩] at h
    exact⟨fun _=>h G.nil,fun hh=>absurd hc (of_decide_eq_false hh)⟩
  ·rw[if_neg fun hh=>hn hh.1] at h
   have hda:=hd a ha hl (.inl (by omega))
   exact⟨fun hh=>(by cases hh),fun _=>⟨g,rfl,hda.2 _ (h hda.1)⟩⟩
end Go.Vc
namespace Go.Vc
theorem DX{v:Val}{Q:Bool->Prop}(h:Q v.isTrue):Gc (AB v) Q:=by
 refine Ae ⟨fun e=>?_,fun e=>?_⟩
 ·cases v with
  |truth b=>cases b<;>exact h
  |_=>cases e
 ·cases v with
  |truth b=>exact absurd rfl e
  |_=>exact h
theorem Bw{b:Bool}{Q:RV->Prop}(h:Q (AB (.truth b))):AQ b Q:=⟨fun e=>by subst e;exact h,fun e=>by subst e;exact h⟩
theorem ZR{l:List Val}(hl:HvL l):EX (.mk 5 0 [] (Ak l) [])=AB (DM l):=by
 unfold DM EX
 have e:FZ (.mk 5 0 [] (Ak l) [])=1+CZ l:=by simp[FZ,Bb,Gi hl]
 rw[e];split<;>rfl
theorem PE{l:List Val}(h:∀x∈l,G x):Bb (Ak l)<=1024* l.length:=IN (GL.fit h)
theorem VI{l:List Val}(hl:HvL l)(ha:Ih l):Jm (Ak l):=by
 unfold Jm
 rw[Cg,List.pairwise_map]
 refine List.Pairwise.imp_of_mem (fun hx hy h=>?_) ha
 rw[IA (HvL_iff.1 hl _ hx) (HvL_iff.1 hl _ hy)];exact h
theorem VA{a b:Val}(ha:Hv a)(hb:Hv b)(h:AB a=AB b):a=b:=Gf ha hb (by rw[<-IA ha hb,h,GC])
theorem JI{l:List Val}{v:Val}{Q:Int->Bool->Prop}(ha:Ih l)(hl:HvL l)(hv:Hv v)(hn:l.length<=1000000)(hf:∀p:Int,0<=p->p<l.length->ix l p=v->Q p true)(hm:v∉l->∀p,Q p false):DC (Ak l) (AB v) Q:=by
 refine LK (VI hl ha) (by rw[Ah];exact hn) (fun p h0 h1 e=>?_) fun A B e hA hB=>hm (fun hmem=>?_) _
 ·rw[Ah] at h1
  rw[Bz h0 h1] at e
  exact hf p h0 h1 (VA (HvL_iff.1 hl _ (Az h0 h1)) hv e)
 ·have:AB v∈Ak l:=by rw[Cg];exact List.mem_map_of_mem hmem
  rw[e] at this
  have hr:=GC (AB v)
  rcases List.mem_append.1 this with hx|hx
  ·have:=hA _ hx;omega
  ·have:=hB _ hx;omega
theorem VV{l:List Val}{v:Val}{Q:Bool->Prop}(hs:SL l)(g:G v)(h:Q (EF l v)):QA (Ak l) (AB v) Q:=by
 have hl:=GL.hv hs.good
 refine JI hs.asc hl g.1.hv (by have:=hs.len;omega) (fun p h0 h1 e=>?_) fun hm p=>?_
 ·rw[(KN hl g.1.hv).2 (e▸Az h0 h1)] at h;exact h
 ·have:EF l v=false:=by
   cases e:EF l v with
   |false=>rfl
   |true=>exact absurd ((KN hl g.1.hv).1 e) hm
  rw[this] at h;exact h
theorem EV{l:List Val}{Q:RV->Prop}(hl:∀x∈l,G x)(hn:l.length<=1000000)(h:Q (AB (EJ l))):CR (Ak l) Q:=by
 have:=PE hl
 exact LH (by rw[Ah];exact hn) (by omega) (by rw[SO (GL.hv hl)];exact h)
theorem Ot{k v:List Val}{Q:RV->Prop}(hk:∀x∈k,G x)(hv:∀x∈v,G x)(hl:k.length=v.length)(hn:k.length<=1000000)(h:Q (AB (CC k v))):FU (Ak k) (Ak v) Q:=by
 have:=PE hk;have:=PE hv
 exact Ph (by rw[Ah];exact hn) (by rw[Ah,Ah];exact hl) (by omega) (by rw[TR (GL.hv hk) (GL.hv hv)];exact h)
theorem Is{l:List Val}{Q:RV->Prop}(hl:∀x∈l,G x)(hn:l.length<=1000000)(h:Q (AB (Cr l))):Ea (Ak l) Q:=by
 have:=PE hl
 exact Lm (by rw[Ah];exact hn) (by omega) (by rw[Ts (GL.hv hl)];exact h)
theorem US(v:Val):(AB v).ks=Ak (if v.isSet then v.setL else v.fnK):=by cases v<;>rfl
theorem Jx(v:Val):(AB v).vs=Ak v.fnV:=by cases v<;>rfl
theorem toR_set{v:Val}:(AB v).k=5↔v.isSet=true:=by cases v<;>simp[AB,RV.k,Val.isSet]
theorem toR_fn{v:Val}:(AB v).k=6↔v.isFn=true:=by cases v<;>simp[AB,RV.k,Val.isFn]
theorem toR_num{v:Val}:(AB v).k=2↔v.isNum=true:=by cases v<;>simp[AB,RV.k,Val.isNum]
theorem Nh{v:Val}(h:v.isNum=true):(AB v).i=v.numD:=by
 cases v with
 |num n=>rfl
 |_=>cases h
theorem JF{v:Val}(h:v.isSet=true):(AB v).ks=Ak v.setL:=by rw[US,h];rfl
theorem Qo{v:Val}(h:v.isFn=true):(AB v).ks=Ak v.fnK:=by
 cases v with
 |fn a b k=>rfl
 |_=>cases h
theorem DI{v:Val}{Q:Bool->Prop}(g:G v)(h:Q (Cw v)):Ic (AB v) Q:=by
 refine Tv (US v) ?_ ?_
 ·have:=g.setN;have:=g.fnN;split<;>omega
 ·have e:(EE 1 (if v.isSet then v.setL else v.fnK)&&decide ((AB v).k=6))=Cw v:=by
   unfold Cw
   cases v<;>simp[AB,RV.k,Val.isFn,Val.isSet,Val.fnK]
  rw[e];exact h
theorem AaM{a:List Val}{Q:RV->Prop}(ha:∀x∈a,G x)(hl:a.length<=300000)(h:Q (AB (HN a))):Nd (Ak a) Q:=by
 intro _
 have ge:∀x∈RS a,G x:=fun x hx=>ha x (QQ hx)
 have go:∀x∈RR a,G x:=fun x hx=>ha x (QE hx)
 rw[Ah]
 unfold HN at h
 refine⟨by decide,fun ho=>?_,fun ho=>?_⟩
 ·rw[if_pos (tmod2.1 ho)] at h;exact h
 ·rw[if_neg fun hh=>ho (tmod2.2 hh)] at h
  have hev:a.length%2=0:=by have:¬a.length%2=1:=fun hh=>ho (tmod2.2 hh);omega
  refine⟨fun s=>0<=s.2.2/\s.2.2<=a.length/\s.2.2%2=0/\s.1.length<=s.2.2/\s.2.1.length<=s.2.2/\s.1++Ak (RS (a.drop s.2.2.toNat))=Ak (RS a)/\s.2.1++Ak (RR (a.drop s.2.2.toNat))=Ak (RR a),fun s=>(a.length-s.2.2).toNat,⟨by simp,by simp,by simp,by simp,by simp,by simp,by simp⟩,?_⟩
  rintro⟨ks,vs,i⟩⟨i0,i1,i2,l1,l2,e1,e2⟩_
  simp only at i0 i1 i2 l1 l2 e1 e2
  refine⟨fun hi=>?_,fun hi=>?_⟩
  ·have hi1:i+1<a.length:=by omega
   have n0:In i (Ak a):=⟨i0,by rw[Ah];exact hi⟩
   have n1:In (i+1) (Ak a):=⟨by omega,by rw[Ah];exact hi1⟩
   rw[Bz i0 hi,Bz (by omega) hi1]
   rw[Acw i0 hi1] at e1 e2
   refine⟨n0,fun _ _=>⟨BI (by simp;omega),by unfold I64;omega,n1,fun _ _=>⟨BI (by simp;omega),by unfold I64;omega,⟨by show 0<=i+2;omega,by show i+2<=_;omega,by show(i+2)%2=0;omega,by simp;omega,by simp;omega,?_,?_⟩,by show((a.length:Int)-(i+2)).toNat<((a.length:Int)-i).toNat;omega⟩⟩⟩
   ·show(ks++[AB (ix a i)])++Ak (RS (a.drop (i+2).toNat))=_
    rw[<-e1];simp[RS,Ak]
   ·show(vs++[AB (ix a (i+1))])++Ak (RR (a.drop (i+2).toNat))=_
    rw[<-e2];simp[RR,Ak]
  ·rw[Vx (by rw[List.length_drop];omega)] at e1
   rw[Vu (by rw[List.length_drop];omega)] at e2
   simp only[Ak,List.append_nil] at e1 e2
   subst e1 e2
   exact Ot ge go (by rw[Jb,MO]) (by rw[Jb];omega) h
theorem AcK{f k:Val}{Q:RV->Prop}(gf:G f)(gk:G k)(h:Q (AB (atV f k))):VT (AB f) (AB k) Q:=by
 have hn:=gf.fnN
 have hl:=gf.fnLen
 refine⟨fun e=>?_,fun e=>?_⟩
 ·have:atV f k=.nil:=by
   cases f with
   |fn a b w=>exact absurd rfl e
   |_=>rfl
  rw[this] at h;exact h
 ·have hf:f.isFn=true:=toR_fn.1 (by omega)
  rw[Qo hf,Jx]
  refine JI gf.fnAsc (GL.hv gf.fnK) gk.1.hv (by omega) (fun p p0 p1 e2=>⟨fun hh=>(by cases hh),fun _=>?_⟩) fun hm p=>⟨fun _=>?_,fun hh=>(by cases hh)⟩
  ·have l1:=(Ka gf.fnAsc hl (MP p0 p1 e2)).1
   rw[CJ p0 (by omega)] at l1
   rw[atV,l1] at h
   rw[Bz p0 (by omega)]
   exact⟨⟨p0,by rw[Ah];omega⟩,fun _ _=>h⟩
  ·rw[atV,Gw (GL.hv gf.fnK) gk.1.hv hm] at h;exact h
theorem XO{f k v:Val}{Q:RV->Prop}(gf:G f)(gk:G k)(gv:G v)(h:Q (AB (OE f k v))):KA (AB f) (AB k) (AB v) Q:=by
 have hn:=gf.fnN
 have hl:=gf.fnLen
 refine⟨fun e=>?_,fun e=>?_⟩
 ·have:f.isFn=false:=by
   cases e2:f.isFn with
   |false=>rfl
   |true=>exact absurd (toR_fn.2 e2) e
  rw[OE,this] at h;exact h
 ·have hf:f.isFn=true:=toR_fn.1 (by omega)
  rw[Qo hf,Jx]
  rw[OE,hf,if_pos rfl] at h
  refine JI gf.fnAsc (GL.hv gf.fnK) gk.1.hv (by omega) (fun p p0 p1 e2=>⟨fun hh=>(by cases hh),fun _=>?_⟩) fun hm p=>⟨fun _=>?_,fun hh=>(by cases hh)⟩
  ·have l1:=Ka gf.fnAsc hl (MP p0 p1 e2)
   have l2:=l1.1
   rw[CJ p0 (by omega)] at l2
   rw[l2,if_pos (show(some (ix f.fnV p)).isSome=true from rfl),l1.2] at h
   have sg:=IY (ks:=f.fnK) (x:=k) gf.fnV gv
   rw[l1.2] at sg
   refine⟨fun s=>0<=s.2/\s.2<=f.fnV.length/\s.1=Ak ((f.fnV.set p.toNat v).take s.2.toNat),fun s=>(f.fnV.length-s.2).toNat,⟨by simp,by simp,by simp[Ak]⟩,?_⟩
   rintro⟨l,j⟩⟨j0,j1,e⟩_
   simp only at j0 j1 e
   subst e
   rw[Ah]
   refine⟨fun hj=>Ae ?_,fun hj=>?_⟩
   ·have hj2:j<(f.fnV.set p.toNat v).length:=by rw[List.length_set];exact hj
    have tl:(Ak ((f.fnV.set p.toNat v).take j.toNat)).length<=1023:=by rw[Ah,List.length_take,List.length_set];omega
    have step:∀o,o=Ak ((f.fnV.set p.toNat v).take (j+1).toNat)->I64 (j+1)/\((0<=j+1/\j+1<=(f.fnV.length:Int)/\o=Ak ((f.fnV.set p.toNat v).take (j+1).toNat))/\((f.fnV.length:Int)-(j+1)).toNat<((f.fnV.length:Int)-j).toNat):=fun o e=>⟨by unfold I64;omega,⟨by omega,by omega,e⟩,by omega⟩
    have tk:=AV j0 hj2
    have ei:ix (f.fnV.set p.toNat v) j=if j=p then v else ix f.fnV j:=by
     have h3:(f.fnV.set p.toNat v)[j.toNat]? =some (ix (f.fnV.set p.toNat v) j):=CJ j0 hj2
     by_cases hjp:j=p
     ·subst hjp
      rw[if_pos rfl]
      rw[List.getElem?_set_self (by omega)] at h3
      exact(Option.some.inj h3).symm
     ·rw[if_neg hjp]
      rw[List.getElem?_set_ne (by omega),CJ j0 hj] at h3
      exact(Option.some.inj h3).symm
    rw[ei] at tk
    refine⟨fun hjp=>⟨BI (by simp;omega),step _ ?_⟩,fun hjp=>⟨⟨j0,by rw[Ah];omega⟩,fun _ _=>⟨BI (by simp;omega),step _ ?_⟩⟩⟩
    ·rw[tk,if_pos hjp,BH];rfl
    ·rw[tk,if_neg hjp,BH,Bz j0 hj];rfl
   ·have:j=f.fnV.length:=by omega
    subst this
    rw[Int.toNat_natCast,List.take_of_length_le (by rw[List.length_set];exact Nat.le_refl _)]
    exact Ot gf.fnK sg.1 (by rw[sg.2];exact hl) (by omega) h
  ·rw[Gw (GL.hv gf.fnK) gk.1.hv hm] at h;exact h
theorem Zz{l:List Val}{r:RV}{Q:RV->Prop}(hs:SL l)(hr:r.ks=Ak l)(h:Q (AB (Jt l))):MA r Q:=by
 have fl:=Sr hs.good
 have hw:=hs.wt
 have hln:=hs.len
 unfold MA
 rw[hr]
 refine⟨fun s=>0<=s.2/\s.2<=l.length/\s.1=Ak ((l.take s.2.toNat).flatMap Val.setL)/\(l.take s.2.toNat).all Val.isSet=true,fun s=>(l.length-s.2).toNat,⟨by simp,by simp,by simp[Ak],by simp⟩,?_⟩
 rintro⟨o,x⟩⟨x0,x1,e,ea⟩_
 simp only at x0 x1 e ea
 subst e
 rw[Ah]
 have hlen:((l.take x.toNat).flatMap Val.setL).length<=(l.flatMap Val.setL).length:=by
  conv=>rhs;rw[<-List.take_append_drop x.toNat l,List.flatMap_append,List.length_append]
  omega
 refine⟨fun hx=>⟨⟨x0,by rw[Ah];exact hx⟩,fun _=>⟨fun hn=>?_,fun hn=>⟨⟨x0,by rw[Ah];exact hx⟩,?_⟩⟩⟩,fun hx=>?_⟩
 ·rw[Bz x0 hx] at hn
  have:l.all Val.isSet=false:=by
   cases e2:l.all Val.isSet with
   |false=>rfl
   |true=>exact absurd (toR_set.2 (List.all_eq_true.1 e2 _ (Az x0 hx))) hn
  rw[Jt,this] at h;exact h
 ·rw[Bz x0 hx] at hn ⊢
  have hset:(ix l x).isSet=true:=toR_set.1 (by omega)
  have h3:=(hs.good _ (Az x0 hx)).setN
  rw[JF hset]
  refine⟨BI (by rw[Ah,Ah];omega),by unfold I64;omega,⟨by show 0<=x+1;omega,by show x+1<=_;omega,?_,?_⟩,by show((l.length:Int)-(x+1)).toNat<((l.length:Int)-x).toNat;omega⟩
  ·show _=Ak ((l.take (x+1).toNat).flatMap Val.setL)
   rw[AV x0 hx,List.flatMap_append,BH];simp
  ·show(l.take (x+1).toNat).all Val.isSet=true
   rw[AV x0 hx,List.all_append,ea];simp[hset]
 ·have:x=l.length:=by omega
  subst this
  rw[Int.toNat_natCast,List.take_length] at ea ⊢
  rw[Jt,if_pos ea] at h
  exact EV (LD hs.good) (by omega) h
theorem Pf:∀{l:List Val}{b c:Nat},b%2^l.length=c%2^l.length->Cj b l=Cj c l
 |[],b,c,_=>by simp[Cj]
 |a::l,b,c,h=>by
  rw[List.length_cons,Nat.pow_succ,Nat.mul_comm] at h
  have h2:b%2=c%2:=by
   have:=congrArg (·%2) h
   simpa[Nat.mod_mul_right_mod] using this
  have h3:b/2%2^l.length=c/2%2^l.length:=by
   have:=congrArg (·/2) h
   simpa[Nat.mod_mul_right_div_self] using this
  have ih:=Pf h3
  simp only[Cj,h2,ih]
theorem JD:∀{l:List Val}{a:Val}{b:Nat},Cj b (l++[a])=Cj b l++if b/2^l.length%2=1 then[a] else[]
 |[],a,b=>by simp[Cj]
 |x::l,a,b=>by
  have ih:=JD (l:=l) (a:=a) (b:=b/2)
  have e:b/2^(x::l).length=b/2/2^l.length:=by rw[List.length_cons,Nat.pow_succ,Nat.mul_comm,Nat.div_div_eq_div_mul]
  rw[e]
  simp only[List.cons_append,Cj,ih]
  split<;>simp
theorem Xm(l:List Val)(a:Val):Ds (l++[a])=Ds l++(Ds l).map (·++[a]):=by
 unfold Ds
 rw[List.length_append,List.length_singleton,Nat.pow_succ,show 2^l.length* 2=2^l.length+2^l.length by omega,List.range_add,List.map_append,List.map_map,List.map_map]
 have hp:0<2^l.length:=Nat.pow_pos (by decide)
 congr 1
 ·refine List.map_congr_left fun b hb=>?_
  have hb:=List.mem_range.1 hb
  rw[JD,Nat.div_eq_of_lt hb];simp
 ·refine List.map_congr_left fun b hb=>?_
  have hb:=List.mem_range.1 hb
  show Cj (2^l.length+b) (l++[a])=Cj b l++[a]
  rw[JD,Nat.add_div_left _ hp,Nat.div_eq_of_lt hb,Pf (c:=b) (by simp)];simp
def VB(c:List Val):RV:=.mk 5 0 [] (Ak c) []
theorem Acp{c:List Val}(h:1+CZ c<=1024):VB c=AB (DM c):=by unfold DM;rw[if_pos h];rfl
theorem RY(l:List Val):(Ds l).length=2^l.length:=by simp[Ds]
theorem Xs{l:List Val}{r:RV}{Q:RV->Prop}(hs:SL l)(hr:r.ks=Ak l)(h:Q (AB (TS l))):KM r Q:=by
 unfold KM
 rw[hr]
 intro _
 rw[Ah]
 unfold TS at h
 refine⟨fun hb=>?_,fun hb=>?_⟩
 ·rw[if_pos (by omega)] at h;exact h
 ·rw[if_neg (by omega)] at h
  refine⟨fun s=>0<=s.2/\s.2<=l.length/\s.1=(Ds (l.take s.2.toNat)).map VB,fun s=>(l.length-s.2).toNat,⟨by simp,by simp,by simp[Ds,Cj,VB,Ak,List.range_succ]⟩,?_⟩
  rintro⟨o,i⟩⟨i0,i1,e⟩_
  simp only at i0 i1 e
  subst e
  have pl:(Ds (l.take i.toNat)).length<=1024:=by rw[RY];exact Vf (by rw[List.length_take];omega)
  refine⟨fun hi _=>?_,fun hi=>?_⟩
  ·rw[List.length_map]
   refine⟨fun s=>0<=s.2/\s.2<=(Ds (l.take i.toNat)).length/\s.1=(Ds (l.take i.toNat)).map VB++(((Ds (l.take i.toNat)).take s.2.toNat).map (·++[ix l i])).map VB,fun s=>((Ds (l.take i.toNat)).length-s.2).toNat,⟨by simp,by simp,by simp⟩,?_⟩
   rintro⟨q,k⟩⟨k0,k1,e⟩
   simp only at k0 k1 e
   subst e
   refine⟨fun hk=>?_,fun hk=>⟨by unfold I64;omega,⟨by show 0<=i+1;omega,by show i+1<=_;omega,?_⟩,by show((l.length:Int)-(i+1)).toNat<((l.length:Int)-i).toNat;omega⟩⟩
   ·have ek:ix ((Ds (l.take i.toNat)).map VB++(((Ds (l.take i.toNat)).take k.toNat).map (·++[ix l i])).map VB) k=VB (ix (Ds (l.take i.toNat)) k):=by
     have h1:k.toNat<(Ds (l.take i.toNat)).length:=by omega
     unfold ix
     rw[List.getD_eq_getElem?_getD,List.getD_eq_getElem?_getD,List.getElem?_append_left (by rw[List.length_map];exact h1),List.getElem?_map]
     simp[h1]
    have hmem:ix (Ds (l.take i.toNat)) k∈Ds (l.take i.toNat):=Az k0 hk
    have hsz:(ix (Ds (l.take i.toNat)) k).length<=1023:=by
     obtain⟨b,_,hb2⟩:=List.mem_map.1 hmem
     rw[<-hb2]
     have:=Xh (b:=b) (l:=l.take i.toNat)
     rw[List.length_take] at this
     have:=hs.len;omega
    rw[ek]
    have ekk:(VB (ix (Ds (l.take i.toNat)) k)).ks=Ak (ix (Ds (l.take i.toNat)) k):=rfl
    rw[ekk,Bz i0 hi]
    refine⟨⟨k0,by simp;omega⟩,BI (by simp[Ah];omega),⟨i0,by rw[Ah];exact hi⟩,fun _ _=>⟨BI (by simp[Ah];omega),BI (by simp;omega),by unfold I64;omega,⟨by show 0<=k+1;omega,by show k+1<=_;omega,?_⟩,by show(((Ds (l.take i.toNat)).length:Int)-(k+1)).toNat<(((Ds (l.take i.toNat)).length:Int)-k).toNat;omega⟩⟩
    show _=(Ds (l.take i.toNat)).map VB++(((Ds (l.take i.toNat)).take (k+1).toNat).map (·++[ix l i])).map VB
    rw[AV k0 hk]
    simp[VB,BH,Ak]
   ·have hk2:k=(Ds (l.take i.toNat)).length:=by omega
    subst hk2
    show _=(Ds (l.take (i+1).toNat)).map VB
    rw[Int.toNat_natCast,List.take_length,AV i0 hi,Xm,List.map_append]
  ·have:i=l.length:=by omega
   subst this
   rw[Int.toNat_natCast,List.take_length]
   have hm:(Ds l).map VB=Ak ((Ds l).map DM):=by
    rw[Cg,List.map_map]
    refine List.map_congr_left fun c hc=>?_
    obtain⟨b,_,rfl⟩:=List.mem_map.1 hc
    have:=Acj (pickL_sub (b:=b) (l:=l)) (GL.hv hs.good)
    have:=hs.wt
    exact Acp (by omega)
   rw[hm]
   have:=Vf (l:=l) (by omega)
   exact EV (Oj hs) (by rw[List.length_map,RY];omega) h
theorem Aag{a b:Int}{Q:RV->Prop}(ha:I64 a)(hb:I64 b)(h:Q (AB (NH a b))):Qk a b Q:=by
 unfold NH at h
 refine⟨fun h0=>?_,fun h0=>?_⟩
 ·rw[if_pos h0] at h;exact h
 ·rw[if_neg h0] at h
  rw[ZE ha hb (by omega)]
  refine⟨fun h1=>?_,fun h1=>?_⟩
  ·rw[if_pos (by omega)] at h;exact h
  ·have fin:Q (AB (DM (Dv a (b-a+1).toNat))):=by
    by_cases h2:1024<=b-a
    ·rw[if_pos h2] at h
     have gd:∀x∈Dv a (b-a+1).toNat,G x:=JP ha (by unfold I64 at hb;omega)
     have:=GL.len gd
     rw[Jg] at this
     rw[DM,if_neg (by omega)];exact h
    ·rw[if_neg h2] at h;exact h
   refine⟨fun s=>a<=s.2/\s.2<=b/\s.1=Ak (Dv a (s.2-a).toNat),fun s=>(b-s.2).toNat,⟨by simp,by simp;omega,by simp[Dv,Ak]⟩,?_⟩
   rintro⟨c,n⟩⟨n0,n1,e⟩
   simp only at n0 n1 e
   subst e
   have e1:Ak (Dv a (n-a).toNat)++[RV.mk 2 n [] [] []]=Ak (Dv a (n-a+1).toNat):=by
    rw[show(n-a+1).toNat=(n-a).toNat+1 by omega,MT,BH,show a+(((n-a).toNat:Nat):Int)=n by omega];rfl
   refine⟨BI (by simp[Ah,Jg];omega),fun hn=>?_,fun hn=>⟨by unfold I64 at*;omega,⟨by show a<=n+1;omega,by show n+1<=b;omega,?_⟩,by show(b-(n+1)).toNat<(b-n).toNat;omega⟩⟩
   ·subst hn
    rw[e1]
    have gd:∀x∈Dv a (n-a+1).toNat,G x:=JP ha (by unfold I64 at hb;omega)
    have gw:=PE gd
    rw[Jg] at gw
    refine GR (by simp only[FZ,Bb];omega) ?_
    rw[ZR (GL.hv gd)];exact fin
   ·show _=Ak (Dv a (n+1-a).toNat)
    rw[show n+1-a=n-a+1 by omega];exact e1
end Go.Vc
namespace Go.Vc
theorem YZ{k:Nat}(h:k<=1000001):AY k 24:=⟨by omega,by unfold maxLen;omega⟩
def Cv(L:List (List Val))(t:List Val):List (List Val):=L.flatMap fun c=>t.map fun v=>c++[v]
theorem WT(L:List (List Val))(t:List Val):(Cv L t).length=L.length* t.length:=UZ fun _ _=>by rw[List.length_map]
theorem Od(L:List (List Val))(t:List Val)(k:Nat):(Cv (L.take k) t).length<=L.length* t.length:=by
 rw[WT,List.length_take];exact Nat.mul_le_mul_right _ (Nat.min_le_right _ _)
theorem Sl{L:List (List Val)}{t:List Val}{k:Int}(h0:0<=k)(h1:k<L.length):Cv (L.take (k+1).toNat) t=Cv (L.take k.toNat) t++t.map fun v=>ix L k++[v]:=by
 unfold Cv
 rw[AV h0 h1,List.flatMap_append];simp
theorem Lg{l:List Val}(ha:Ih l):l.Nodup:=ha.imp fun h e=>by subst e;exact Dr h
theorem funA_six{k v:List Val}:(AB (ER k v)).k=6↔(ER k v).isNil=false:=by unfold ER;split<;>simp[AB,RV.k,Val.isNil]
theorem funV_six{k v:List Val}:(AB (CC k v)).k=6↔(CC k v).isNil=false:=funA_six
theorem RW{k v:List Val}(h:(ER k v).isNil=false):(ER k v).fnV=v:=by
 unfold ER at*;split at h
 ·rename_i hh;rw[if_pos hh];rfl
 ·cases h
theorem Tp{k v:List Val}(hk:HvL k)(ha:Ih k)(hl:k.length=v.length)(h:(CC k v).isNil=false):(CC k v).fnV=v:=by
 have hz:On (k.zip v):=fun p hp=>HvL_iff.1 hk _ (List.of_mem_zip hp).1
 have e0:Ih ((k.zip v).map (·.1)):=by rw[List.map_fst_zip (by omega)];exact ha
 have e:BO (k.zip v)=k.zip v:=Jp hz (List.pairwise_map.1 e0)
 have:=RW h
 rw[e,List.map_snd_zip (by omega)] at this
 unfold CC;rw[e,List.map_snd_zip (by omega)];exact this
theorem Ul(l:List Val)(a:Val):CP (l++[a])=Gn a (CP l):=by unfold CP;rw[List.foldl_append];rfl
theorem NY:∀{l m:List Val},l.Nodup->(∀x∈l,x∈m)->l.length<=m.length
 |[],_,_,_=>Nat.zero_le _
 |a::l,m,hd,hs=>by
  have hd:=List.nodup_cons.1 hd
  obtain⟨A,B,rfl⟩:=List.append_of_mem (hs a (by simp))
  have:=NY (l:=l) (m:=A++B) hd.2 fun x hx=>by
   have hne:x≠a:=fun e=>hd.1 (e▸hx)
   have:=hs x (by simp[hx])
   simp at this ⊢
   rcases this with h|h|h
   ·exact .inl h
   ·exact absurd h hne
   ·exact .inr h
  simp at this ⊢;omega
theorem XS{l:List Val}(hl:HvL l):(CP l).length<=l.length:=NY (Lg (Fy hl)) fun x hx=>(BV hl x).1 hx
theorem ZW{l:List Val}(hl:∀x∈l,G x)(hd:l.Nodup)(hb:1024<l.length):EJ l=.nil:=by
 have h1:=NY hd fun x hx=>(BV (GL.hv hl) x).2 hx
 have h2:=GL.len (l:=CP l) fun x hx=>hl x ((BV (GL.hv hl) x).1 hx)
 unfold EJ DM
 rw[if_neg (by omega)]
theorem Up{f t:List Val}{Q:RV->Prop}(hf:SL f)(ht:SL t)(h:Q (AB (Gd f t))):Ly (Ak f) (Ak t) Q:=by
 have hfl:=hf.len;have htl:=ht.len
 refine⟨fun s=>0<=s.2/\s.2<=f.length/\s.1=(AO s.2.toNat t).map Ak/\s.1.length<=1024,fun s=>(f.length-s.2).toNat,⟨by simp,by simp,by simp[AO,Ak],by simp⟩,?_⟩
 rintro⟨l,i⟩⟨i0,i1,e,lb⟩_
 simp only at i0 i1 e lb
 subst e
 rw[List.length_map] at lb
 have ll:=Ct t i.toNat
 rw[Ah]
 refine⟨fun hi _ _=>?_,fun hi=>?_⟩
 ·rw[Ah,List.length_map]
  have hm:=Nat.mul_le_mul lb htl
  have hc:((AO i.toNat t).length:Int)* t.length=(((AO i.toNat t).length* t.length:Nat):Int):=by simp
  rw[hc]
  have hp:(AO i.toNat t).length* t.length=t.length^(i.toNat+1):=by rw[ll,Nat.pow_succ]
  refine⟨by unfold I64;omega,fun hb=>?_,fun hb=>?_⟩
  ·have hb2:1024<t.length^(i.toNat+1):=by omega
   have t1:0<t.length:=by
    rcases Nat.eq_zero_or_pos t.length with hz|hz
    ·rw[hz] at hb2;simp at hb2
    ·exact hz
   rw[Gd,if_pos (Nat.lt_of_lt_of_le hb2 (Nat.pow_le_pow_right t1 (by omega)))] at h;exact h
  ·have tl:=fun x hx=>(Da (n:=i.toNat) (l:=t) (t:=x) hx).1
   have ts:Cv (AO i.toNat t) t=AO (i.toNat+1) t:=(HW t i.toNat).symm
   generalize AO i.toNat t=L at*
   refine⟨fun s=>0<=s.2/\s.2<=L.length/\s.1=(Cv (L.take s.2.toNat) t).map Ak,fun s=>(L.length-s.2).toNat,⟨by simp,by simp,by simp[Cv]⟩,?_⟩
   rintro⟨more,k⟩⟨k0,k1,e⟩_
   simp only at k0 k1 e
   subst e
   have sl:=Od L t k.toNat
   refine⟨fun hk=>?_,fun hk=>⟨by unfold I64;omega,⟨by show 0<=i+1;omega,by show i+1<=_;omega,?_,?_⟩,by show((f.length:Int)-(i+1)).toNat<((f.length:Int)-i).toNat;omega⟩⟩
   ·have tk:=tl _ (Az k0 hk)
    rw[EW k0 hk]
    refine⟨fun s=>0<=s.2/\s.2<=t.length/\s.1=(Cv (L.take k.toNat) t++(t.take s.2.toNat).map fun v=>ix L k++[v]).map Ak,fun s=>(t.length-s.2).toNat,⟨by simp,by simp,by simp⟩,?_⟩
    rintro⟨m2,j⟩⟨j0,j1,e⟩_
    simp only at j0 j1 e
    subst e
    refine⟨fun hj=>?_,fun hj=>⟨by unfold I64;omega,⟨by show 0<=k+1;omega,by show k+1<=_;omega,?_⟩,by show((L.length:Int)-(k+1)).toNat<((L.length:Int)-k).toNat;omega⟩⟩
    ·rw[Bz j0 hj]
     refine⟨⟨k0,by rw[List.length_map];exact hk⟩,BI (by simp[Ah];omega),⟨j0,by rw[Ah];exact hj⟩,fun _ _=>⟨BI (by simp[Ah];omega),YZ (by simp;omega),by unfold I64;omega,⟨by show 0<=j+1;omega,by show j+1<=_;omega,?_⟩,by show((t.length:Int)-(j+1)).toNat<((t.length:Int)-j).toNat;omega⟩⟩
     show _=(Cv (L.take k.toNat) t++(t.take (j+1).toNat).map fun v=>ix L k++[v]).map Ak
     rw[AV j0 hj]
     simp[BH,Ak]
    ·have:j=t.length:=by omega
     subst this
     show _=(Cv (L.take (k+1).toNat) t).map Ak
     rw[Int.toNat_natCast,List.take_length,Sl k0 hk]
   ·have hk2:k=L.length:=by omega
    subst hk2
    show _=(AO (i+1).toNat t).map Ak
    rw[Int.toNat_natCast,List.take_length,ts,show(i+1).toNat=i.toNat+1 by omega]
   ·show((Cv (L.take k.toNat) t).map Ak).length<=1024
    rw[List.length_map];omega
 ·have:i=f.length:=by omega
  subst this
  rw[Int.toNat_natCast] at*
  rw[Gd,if_neg (by omega)] at h
  have tm:=fun x hx=>(Da (n:=f.length) (l:=t) (t:=x) hx)
  have td:=Hw (Lg ht.asc) f.length
  generalize AO f.length t=T at*
  have gT:∀c∈T,∀x∈c,G x:=fun c hc x hx=>ht.good x ((tm c hc).2 x hx)
  have fg:∀c∈T,G (CC f c):=fun c hc=>IZ hf.good (gT c hc)
  have fgL:∀x∈T.map (CC f),G x:=fun x hx=>by obtain⟨c,hc,rfl⟩:=List.mem_map.1 hx;exact fg c hc
  have fgk:∀k:Nat,∀x∈(T.take k).map (CC f),G x:=fun k x hx=>by
   obtain⟨c,hc,rfl⟩:=List.mem_map.1 hx;exact fg c (List.mem_of_mem_take hc)
  refine⟨fun s=>0<=s.2/\s.2<=T.length/\s.1=Ak (CP ((T.take s.2.toNat).map (CC f)))/\∀x∈(T.take s.2.toNat).map (CC f),x.isNil=false,fun s=>(T.length-s.2).toNat,⟨by simp,by simp,by simp[CP,Ak],by simp⟩,?_⟩
  rintro⟨c,k⟩⟨k0,k1,e,hn⟩_
  simp only at k0 k1 e hn
  have hv:=GL.hv (fgk k.toNat)
  have hvc:HvL (CP ((T.take k.toNat).map (CC f))):=HvL_iff.2 fun x hx=>HvL_iff.1 hv x ((BV hv x).1 hx)
  have cl:=XS hv
  rw[List.length_map,List.length_take] at cl
  rw[List.length_map]
  refine⟨fun hk=>⟨⟨k0,by rw[List.length_map];exact hk⟩,?_⟩,fun hk=>?_⟩
  ·rw[EW k0 hk]
   have hmem:=Az k0 hk
   have hm:=tm _ hmem
   refine Ot hf.good (gT _ hmem) hm.1.symm (by omega) ⟨fun hne=>?_,fun he=>?_⟩
   ·have:(T.map (CC f)).any Val.isNil=true:=List.any_eq_true.2 ⟨_,List.mem_map_of_mem hmem,by
     cases e2:(CC f (ix T k)).isNil with
     |true=>rfl
     |false=>exact absurd (funV_six.2 e2) hne⟩
    rw[Hh,this] at h;exact h
   ·have hnn:(CC f (ix T k)).isNil=false:=funV_six.1 (by omega)
    have hgk:=(fg _ hmem).1.hv
    subst e
    refine LK (VI hvc (Fy hv)) (by rw[Ah];omega) (fun p p0 p1 ep=>?_) fun A B eAB hA hB=>?_
    ·exfalso
     rw[Ah] at p1
     rw[Bz p0 p1] at ep
     have e3:=VA (HvL_iff.1 hvc _ (Az p0 p1)) hgk ep
     have h4:=(BV hv _).1 (Az p0 p1)
     rw[e3] at h4
     obtain⟨s,hs,es⟩:=List.mem_map.1 h4
     have hsT:=List.mem_of_mem_take hs
     have f1:=Tp (GL.hv hf.good) hf.asc hm.1.symm hnn
     have f2:=Tp (GL.hv hf.good) hf.asc (tm s hsT).1.symm (by rw[es];exact hnn)
     rw[es,f1] at f2
     have hd:T=T.take k.toNat++(ix T k::T.drop (k+1).toNat):=by rw[<-Cm k0 hk,List.take_append_drop]
     rw[hd] at td
     exact(List.nodup_append.1 td).2.2 s hs (ix T k) (by simp) f2.symm
    ·rw[eAB]
     have lAB:(A++B).length=(CP ((T.take k.toNat).map (CC f))).length:=by rw[<-eAB,Ah]
     refine MK (by omega) ⟨by unfold I64;omega,⟨by show 0<=k+1;omega,by show k+1<=_;omega,?_,?_⟩,by show((T.length:Int)-(k+1)).toNat<((T.length:Int)-k).toNat;omega⟩
     ·show _=Ak (CP ((T.take (k+1).toNat).map (CC f)))
      rw[AV k0 hk,List.map_append]
      show _=Ak (CP (_++[_]))
      rw[Ul,<-Nv hgk hvc,eAB,Ou hA hB]
     ·show∀x∈(T.take (k+1).toNat).map (CC f),x.isNil=false
      rw[AV k0 hk,List.map_append]
      intro x hx
      rcases List.mem_append.1 hx with hx|hx
      ·exact hn x hx
      ·rw[List.mem_singleton.1 hx];exact hnn
  ·have:k=T.length:=by omega
   subst this
   rw[Int.toNat_natCast,List.take_length] at*
   have ha:(T.map (CC f)).any Val.isNil=false:=by
    rw[List.any_eq_false]
    intro y hy;rw[hn y hy];simp
   rw[Hh,ha] at h
   subst e
   have gw:=PE (l:=CP (T.map (CC f))) fun x hx=>fgL x ((BV hv x).1 hx)
   refine GR (by simp only[FZ,Bb];omega) ?_
   rw[ZR hvc];exact h
theorem HC:∀k,AI [] (k+1)=AI [] 1
 |0=>rfl
 |k+1=>by rw[AI,HC k];simp[AO]
theorem Pl{l:List Val}(h:0<l.length):∀k,k<=(AI l k).length
 |0=>Nat.zero_le _
 |k+1=>by
  have:=Pl h k
  have h2:0<l.length^k:=Nat.pow_pos h
  rw[AI,List.length_append,List.length_map,Ct];omega
theorem Kw{l:List Val}(hd:l.Nodup):∀k,(∀x∈AI l k,x.isNil=false)->(AI l k).Nodup/\∀x∈AI l k,x.fnV.length<k
 |0,_=>⟨List.Pairwise.nil,fun _ h=>by cases h⟩
 |k+1,hn=>by
  rw[AI] at*
  have ih:=Kw hd k fun x hx=>hn x (List.mem_append_left _ hx)
  have fv:∀c∈AO k l,(Cr c).fnV=c:=fun c hc=>RW (hn _ (List.mem_append_right _ (List.mem_map_of_mem hc)))
  refine⟨List.nodup_append.2 ⟨ih.1,?_,fun a ha b hb e=>?_⟩,fun x hx=>?_⟩
  ·unfold List.Nodup
   rw[List.pairwise_map]
   refine List.Pairwise.imp_of_mem (fun ha hb hne e=>hne ?_) (Hw hd k)
   rw[<-fv _ ha,e,fv _ hb]
  ·subst e
   obtain⟨c,hc,rfl⟩:=List.mem_map.1 hb
   have:=ih.2 _ ha
   rw[fv c hc,(Da hc).1] at this;omega
  ·rcases List.mem_append.1 hx with hx|hx
   ·have:=ih.2 x hx;omega
   ·obtain⟨c,hc,rfl⟩:=List.mem_map.1 hx
    rw[fv c hc,(Da hc).1];omega
theorem OT{s n:Val}{Q:RV->Prop}(gs:G s)(gn:G n)(h:Q (AB (if s.isSet&&n.isNum&&decide (0<=n.numD) then IB s.setL n.numD else .nil))):Fk (AB s) (AB n) Q:=by
 have en:∀b:Bool,b=false->(if b then IB s.setL n.numD else Val.nil)=.nil:=fun b hb=>by rw[hb];rfl
 refine Ae ⟨fun hk=>⟨fun _=>?_,fun hh=>by cases hh⟩,fun hk=>⟨fun hk2=>⟨fun _=>?_,fun hh=>by cases hh⟩,fun hk2=>⟨fun hd=>?_,fun hd=>?_⟩⟩⟩
 ·have:s.isSet=false:=by
   cases e:s.isSet with
   |false=>rfl
   |true=>exact absurd (toR_set.2 e) hk
  rw[en _ (by rw[this];rfl)] at h;exact h
 ·have:n.isNum=false:=by
   cases e:n.isNum with
   |false=>rfl
   |true=>exact absurd (toR_num.2 e) hk2
  rw[en _ (by rw[this];simp)] at h;exact h
 ·have hn:n.isNum=true:=toR_num.1 (by omega)
  rw[Nh hn] at hd
  have:=of_decide_eq_true hd
  rw[en _ (by rw[decide_eq_false (by omega)];simp)] at h;exact h
 ·have hs:s.isSet=true:=toR_set.1 (by omega)
  have hn:n.isNum=true:=toR_num.1 (by omega)
  rw[Nh hn] at hd ⊢
  have h0:0<=n.numD:=by have:=of_decide_eq_false hd;omega
  rw[hs,hn,decide_eq_true h0] at h
  have h:Q (AB (IB s.setL n.numD)):=h
  have hI:I64 n.numD:=by
   cases n with
   |num x=>exact gn.1
   |_=>cases hn
  rw[JF hs]
  have sl:=gs.sl
  generalize s.setL=of at*
  generalize n.numD=N at*
  have ofl:=sl.len
  unfold I64 at hI
  have one:Ak (AI of 1)=[RV.mk 6 0 [] [] []]:=by
   simp[AI,AO,Cr,FT,ER,CZ,Ak,AB]
  refine⟨fun st=>0<=st.2.2/\st.2.2<=N/\st.1=(AO st.2.2.toNat of).map Ak/\st.2.1=Ak (AI of (st.2.2.toNat+1))/\st.1.length<=1024/\st.2.1.length<=3000/\∀x∈AI of (st.2.2.toNat+1),x.isNil=false,fun st=>(N-st.2.2).toNat,⟨by simp,h0,by simp[AO,Ak],one.symm,by simp,by simp,?_⟩,?_⟩
  ·intro x hx
   have hx:x∈AI of 1:=hx
   simp[AI,AO,Cr,FT,ER,CZ] at hx
   rw[hx];rfl
  rintro⟨l,al,i⟩⟨i0,i1,e1,e2,b1,b2,hnn⟩
  simp only at i0 i1 e1 e2 b1 b2 hnn
  subst e1 e2
  rw[List.length_map] at b1
  rw[Ah] at b2
  have ll:=Ct of i.toNat
  have fin:(of=[]\/i=N)->CR (Ak (AI of (i.toNat+1))) fun r=>Q r:=fun hh=>by
   have e:AI of (i.toNat+1)=AI of (DN of N+1):=by
    by_cases hz:of=[]
    ·subst hz;exact(HC _).trans (HC _).symm
    ·have:i=N:=hh.resolve_left hz
     subst this;rw[DN,if_neg hz]
   have gd:=EK sl.good (i.toNat+1)
   refine EV gd (by omega) ?_
   have ha:(AI of (i.toNat+1)).any Val.isNil=false:=by
    rw[List.any_eq_false]
    intro y hy;rw[hnn y hy];simp
   rw[IB,<-e,ha] at h
   by_cases hb:1024<(AI of (i.toNat+1)).length
   ·rw[if_pos (.inl hb)] at h
    rw[ZW gd (Kw (Lg sl.asc) _ hnn).1 hb];exact h
   ·rw[if_neg (fun hh=>hh.elim hb fun h=>by cases h)] at h;exact h
  refine Ae ⟨fun hi _=>⟨fun hp=>?_,fun hp=>fin (.inl ?_)⟩,fun hi=>⟨fun hh=>(by cases hh),fun _=>fin (.inr (by omega))⟩⟩
  ·have mx:of≠[]->i.toNat+2<=DN of N+1:=fun hz=>by rw[DN,if_neg hz];omega
   have mx1:i.toNat+1<=DN of N+1\/of=[]:=by
    by_cases hz:of=[]
    ·exact .inr hz
    ·have:=mx hz;exact .inl (by omega)
   refine Ae fun _ _=>?_
   rw[List.length_map,Ah]
   have hm:=Nat.mul_le_mul b1 ofl
   have hc:((AO i.toNat of).length:Int)* of.length=(((AO i.toNat of).length* of.length:Nat):Int):=by simp
   rw[hc]
   have hpw:(AO i.toNat of).length* of.length=of.length^(i.toNat+1):=by rw[ll,Nat.pow_succ]
   have l2:(AI of (i.toNat+2)).length=(AI of (i.toNat+1)).length+of.length^(i.toNat+1):=by
    rw[AI,List.length_append,List.length_map,Ct]
   refine⟨by unfold I64;omega,fun hb=>⟨fun _=>?_,fun hh=>by cases hh⟩,fun hb _=>⟨fun hd=>?_,fun hd=>?_⟩⟩
   ·have hz:of≠[]:=fun hz=>by subst hz;simp at hb
    rw[GS (mx hz) (.inl (by omega))] at h;exact h
   ·have hd:=of_decide_eq_true hd
    rw[Ah] at hd
    rcases mx1 with hm1|hz
    ·rw[GS hm1 (.inl (by omega))] at h;exact h
    ·subst hz
     rw[HC] at hd
     simp[AI,AO] at hd
   ·have hd:=of_decide_eq_false hd
    rw[Ah] at hd
    have tm:=fun x hx=>(Da (n:=i.toNat) (l:=of) (t:=x) hx)
    have ts:Cv (AO i.toNat of) of=AO (i.toNat+1) of:=(HW of i.toNat).symm
    have sq:AI of (i.toNat+2)=AI of (i.toNat+1)++(AO (i.toNat+1) of).map Cr:=rfl
    have ge:=fun hz=>Pl (l:=of) hz (i.toNat+1)
    have gA:=EK sl.good (i.toNat+1)
    generalize AO i.toNat of=L at*
    generalize AI of (i.toNat+1)=A at*
    refine⟨fun st=>0<=st.2.2/\st.2.2<=L.length/\st.1=Ak (A++(Cv (L.take st.2.2.toNat) of).map Cr)/\st.2.1=(Cv (L.take st.2.2.toNat) of).map Ak/\∀x∈(Cv (L.take st.2.2.toNat) of).map Cr,x.isNil=false,fun st=>(L.length-st.2.2).toNat,⟨by simp,by simp,by simp[Cv],by simp[Cv],by simp[Cv]⟩,?_⟩
    rintro⟨al,more,k⟩⟨k0,k1,e1,e2,hn1⟩_
    simp only at k0 k1 e1 e2 hn1
    subst e1 e2
    have sln:=Od L of k.toNat
    refine⟨fun hk=>?_,fun hk=>⟨by unfold I64;omega,?_,by show(N-(i+1)).toNat<(N-i).toNat;omega⟩⟩
    ·have tk:=tm _ (Az k0 hk)
     rw[EW k0 hk]
     refine⟨fun st=>0<=st.2.2/\st.2.2<=of.length/\st.1=Ak (A++(Cv (L.take k.toNat) of++(of.take st.2.2.toNat).map fun v=>ix L k++[v]).map Cr)/\st.2.1=(Cv (L.take k.toNat) of++(of.take st.2.2.toNat).map fun v=>ix L k++[v]).map Ak/\∀x∈(Cv (L.take k.toNat) of++(of.take st.2.2.toNat).map fun v=>ix L k++[v]).map Cr,x.isNil=false,fun st=>(of.length-st.2.2).toNat,⟨by simp,by simp,by simp,by simp,by simpa using hn1⟩,?_⟩
     rintro⟨a2,m2,j⟩⟨j0,j1,e1,e2,hn2⟩_
     simp only at j0 j1 e1 e2 hn2
     subst e1 e2
     refine⟨fun hj=>?_,fun hj=>⟨by unfold I64;omega,⟨by show 0<=k+1;omega,by show k+1<=_;omega,?_⟩,by show((L.length:Int)-(k+1)).toNat<((L.length:Int)-k).toNat;omega⟩⟩
     ·have ge:=ge (by omega)
      rw[Bz j0 hj]
      have e3:Ak (ix L k)++[AB (ix of j)]=Ak (ix L k++[ix of j]):=by rw[BH];rfl
      rw[e3]
      refine⟨⟨k0,by rw[List.length_map];exact hk⟩,BI (by simp[Ah];omega),⟨j0,by rw[Ah];exact hj⟩,fun _ _=>⟨BI (by simp[Ah];omega),YZ (by simp;omega),?_⟩⟩
      have gx:∀x∈ix L k++[ix of j],G x:=fun x hx=>by
       rcases List.mem_append.1 hx with hx|hx
       ·exact sl.good x (tk.2 x hx)
       ·rw[List.mem_singleton.1 hx];exact sl.good _ (Az j0 hj)
      have hmm:ix L k++[ix of j]∈AO (i.toNat+1) of:=by
       rw[<-ts]
       exact List.mem_flatMap.2 ⟨_,Az k0 hk,List.mem_map.2 ⟨_,Az j0 hj,rfl⟩⟩
      refine Is gx (by simp;omega) ⟨fun hne=>?_,fun he=>⟨BI (by simp[Ah];omega),by unfold I64;omega,⟨by show 0<=j+1;omega,by show j+1<=_;omega,?_⟩,by show((of.length:Int)-(j+1)).toNat<((of.length:Int)-j).toNat;omega⟩⟩
      ·have hz:of≠[]:=fun hz=>by subst hz;simp at hj;omega
       rw[GS (mx hz) (.inr (List.any_eq_true.2 ⟨Cr (ix L k++[ix of j]),by rw[sq];exact List.mem_append_right _ (List.mem_map_of_mem hmm),by
        cases e4:(Cr (ix L k++[ix of j])).isNil with
        |true=>rfl
        |false=>exact absurd (funA_six.2 e4) hne⟩))] at h;exact h
      ·have hnn:(Cr (ix L k++[ix of j])).isNil=false:=funA_six.1 (by unfold Cr at he;omega)
       show _=Ak (A++(Cv (L.take k.toNat) of++(of.take (j+1).toNat).map fun v=>ix L k++[v]).map Cr)/\_=(Cv (L.take k.toNat) of++(of.take (j+1).toNat).map fun v=>ix L k++[v]).map Ak/\∀x∈(Cv (L.take k.toNat) of++(of.take (j+1).toNat).map fun v=>ix L k++[v]).map Cr,x.isNil=false
       rw[AV j0 hj]
       simp only[List.map_append,<-List.append_assoc]
       refine⟨by simp[BH,Ak],by simp,fun x hx=>?_⟩
       rcases List.mem_append.1 hx with hx|hx
       ·exact hn2 x (by simpa using hx)
       ·simp at hx;rw[hx];exact hnn
     ·have:j=of.length:=by omega
      subst this
      show _=Ak (A++(Cv (L.take (k+1).toNat) of).map Cr)/\_=(Cv (L.take (k+1).toNat) of).map Ak/\∀x∈(Cv (L.take (k+1).toNat) of).map Cr,x.isNil=false
      rw[Int.toNat_natCast,List.take_length] at*
      rw[Sl k0 hk]
      exact⟨rfl,rfl,hn2⟩
    ·have hk2:k=L.length:=by omega
     subst hk2
     rw[Int.toNat_natCast,List.take_length] at*
     rw[ts] at*
     refine⟨by show 0<=i+1;omega,by show i+1<=N;omega,?_⟩
     show _=(AO (i+1).toNat of).map Ak/\_=Ak (AI of ((i+1).toNat+1))/\((AO (i.toNat+1) of).map Ak).length<=1024/\(Ak (A++(AO (i.toNat+1) of).map Cr)).length<=3000/\∀x∈AI of ((i+1).toNat+1),x.isNil=false
     rw[show(i+1).toNat=i.toNat+1 by omega,sq]
     refine⟨rfl,rfl,by rw[List.length_map,Ct];omega,by rw[Ah,List.length_append,List.length_map,Ct];omega,fun x hx=>?_⟩
     rcases List.mem_append.1 hx with hx|hx
     ·exact hnn x hx
     ·exact hn1 x hx
  ·have hp:=of_decide_eq_false hp
   rw[List.length_map,ll] at hp
   rcases Nat.eq_zero_or_pos of.length with hz|hz
   ·exact List.length_eq_zero_iff.1 hz
   ·have:0<of.length^i.toNat:=Nat.pow_pos hz
    omega
end Go.Vc
namespace Go.Vc
section
variable{P A B:Prop}{b:Bool}
theorem gN(h:¬P)(x:B):(P->A)/\(¬P->B):=⟨fun e=>absurd e h,fun _=>x⟩
theorem gY(h:P)(x:A):(P->A)/\(¬P->B):=⟨fun _=>x,fun e=>absurd h e⟩
theorem gT(h:b=true)(x:A):(b=true->A)/\(b=false->B):=⟨fun _=>x,fun e=>by rw[h] at e;cases e⟩
theorem gF(h:b=false)(x:B):(b=true->A)/\(b=false->B):=⟨fun e=>by(rw[h] at e;cases e),fun _=>x⟩
end
structure Wl(A:Prop):Prop where
 v:A
theorem lt{A G:Prop}(k:A)(h:Wl A->G:=by
 intro k
 repeat (first|refine gN (by decide) ?_|refine gY (by decide) ?_|refine gT (by decide) ?_|refine gF (by decide) ?_|refine Ae ?_)
 exact k.v):G:=h ⟨k⟩
theorem Vq{v:Val}:decide ((AB v).k=5)=v.isSet:=by cases v<;>rfl
theorem Aef{v:Val}:decide ((AB v).k=6)=v.isFn:=by cases v<;>rfl
theorem AcG{v:Val}:decide ((AB v).k=2)=v.isNum:=by cases v<;>rfl
section
variable{x y:Val}{Q:RV->Prop}
theorem G.slk(g:G x):SL (if x.isSet then x.setL else x.fnK):=by
 split
 ·exact g.sl
 ·have:=g.fnW;have h2:=GL.len g.fnV;exact⟨g.fnK,g.fnAsc,by omega,g.fnN.1⟩
theorem DT(h:Gc (AB x) fun _=>True){F:Bool->Bool->Int->Prop}(hF:F x.isTrue y.isTrue (AK x y))(gx:G x)(gy:G y):Gc (AB x) fun a=>Gc (AB y) fun b=>∃m,BX m (AB x) (AB y) fun c=>F a b c:=
 DX (DX ⟨_,Gb _ (Nat.lt_succ_self _) (by rw[IA gx.1.hv gy.1.hv];exact hF)⟩)
theorem UH(gx:G x)(gy:G y)(h:Q (AB (.truth (x.isTrue&&y.isTrue)))):Ci [97,110,100] (AB x) (AB y) Q:=by
 refine DT (DX trivial) ?_ gx gy
 refine lt ?_
 cases e:x.isTrue<;>rw[e] at h
 ·refine gF rfl (Bw ?_)
  exact h
 ·refine gT rfl (Bw ?_)
  exact h
theorem Wx(gx:G x)(gy:G y)(h:Q (AB (.truth (x.isTrue||y.isTrue)))):Ci [111,114] (AB x) (AB y) Q:=by
 refine DT (DX trivial) ?_ gx gy
 refine lt ?_
 cases e:x.isTrue<;>rw[e] at h
 ·refine gF rfl (Bw ?_)
  exact h
 ·refine gT rfl (Bw ?_)
  exact h
theorem UI(gx:G x)(gy:G y)(h:Q (AB (.truth (!x.isTrue||y.isTrue)))):Ci [105,109,112,108,105,101,115] (AB x) (AB y) Q:=by
 refine DT (DX trivial) ?_ gx gy
 refine lt ?_
 cases e:x.isTrue<;>rw[e] at h
 ·refine gT rfl (Bw ?_)
  exact h
 ·refine gF rfl (Bw ?_)
  exact h
theorem Ut(gx:G x)(gy:G y)(h:Q (AB (.truth (x.isTrue==y.isTrue)))):Ci [105,102,102] (AB x) (AB y) Q:=by
 refine DT (DX trivial) ?_ gx gy
 refine lt ?_
 exact Bw h
theorem WH(gx:G x)(gy:G y)(h:Q (AB (.truth (decide (AK x y=0))))):Ci [61] (AB x) (AB y) Q:=by
 refine DT (DX trivial) ?_ gx gy
 refine lt ?_
 exact Bw h
theorem Wv(gx:G x)(gy:G y)(h:Q (AB (.truth (!decide (AK x y=0))))):Ci [47,61] (AB x) (AB y) Q:=by
 refine DT (DX trivial) ?_ gx gy
 refine lt ?_
 exact Bw h
theorem Cs{A:Bool->Prop}(h:A (x.isNum&&y.isNum)):Am A fun J=>((AB x).k=2->J (decide ((AB y).k=2)))/\(¬((AB x).k=2)->J false):=by
 refine Ae ⟨fun e=>?_,fun e=>?_⟩
 ·rw[AcG];rw[toR_num.1 e] at h;exact h
 ·have:x.isNum=false:=by
   cases e2:x.isNum with
   |false=>rfl
   |true=>exact absurd (toR_num.2 e2) e
  rw[this] at h;exact h
theorem Um{A:Bool->Prop}(h:A (x.isSet&&y.isSet)):Am A fun J=>((AB x).k=5->J (decide ((AB y).k=5)))/\(¬((AB x).k=5)->J false):=by
 refine Ae ⟨fun e=>?_,fun e=>?_⟩
 ·rw[Vq];rw[toR_set.1 e] at h;exact h
 ·have:x.isSet=false:=by
   cases e2:x.isSet with
   |false=>rfl
   |true=>exact absurd (toR_set.2 e2) e
  rw[this] at h;exact h
theorem MQ{f:Int->Int->Bool}(h:Q (AB (.truth (x.isNum&&y.isNum&&f x.numD y.numD)))):((x.isNum&&y.isNum)=true->AQ (f (AB x).i (AB y).i) fun r=>Q (RV.mk r.k r.i r.t r.ks r.vs))/\((x.isNum&&y.isNum)=false->AQ false fun r=>Q (RV.mk r.k r.i r.t r.ks r.vs)):=by
 refine⟨fun e=>Bw ?_,fun e=>Bw ?_⟩
 ·have e2:=(Bool.and_eq_true _ _).mp e
  rw[e] at h;rw[Nh e2.1,Nh e2.2];exact h
 ·rw[e] at h;exact h
theorem Je{v:Val}{B:Prop}(h:Q (AB (if x.isNum&&y.isNum then v else .nil)))(hB:(AB x).i=x.numD->(AB y).i=y.numD->Q (AB v)->B):((!(x.isNum&&y.isNum))=true->Q (RV.mk 0 0 [] [] []))/\((!(x.isNum&&y.isNum))=false->B):=by
 cases e:(x.isNum&&y.isNum)<;>rw[e] at h
 ·exact⟨fun _=>h,fun hh=>by cases hh⟩
 ·have e2:=(Bool.and_eq_true _ _).mp e
  exact⟨fun hh=>(by cases hh),fun _=>hB (Nh e2.1) (Nh e2.2) h⟩
theorem AbD(h:Q (AB (.truth (x.isNum&&y.isNum&&decide (x.numD<y.numD))))):AU [60] (AB x) (AB y) Q:=by
 refine Cs (lt ?_)
 exact MQ (f:=fun x y=>decide (x<y)) h
theorem AaP(h:Q (AB (.truth (x.isNum&&y.isNum&&decide (x.numD<=y.numD))))):AU [60,61] (AB x) (AB y) Q:=by
 refine Cs (lt ?_)
 exact MQ (f:=fun x y=>decide (x<=y)) h
theorem AbJ(h:Q (AB (.truth (x.isNum&&y.isNum&&decide (y.numD<x.numD))))):AU [62] (AB x) (AB y) Q:=by
 refine Cs (lt ?_)
 exact MQ (f:=fun x y=>decide (y<x)) h
theorem Abv(h:Q (AB (.truth (x.isNum&&y.isNum&&decide (y.numD<=x.numD))))):AU [62,61] (AB x) (AB y) Q:=by
 refine Cs (lt ?_)
 exact MQ (f:=fun x y=>decide (y<=x)) h
theorem XY(gx:G x)(gy:G y)(h:Q (AB (if x.isNum&&y.isNum then(fun x y=>Val.num (wr (x+y))) x.numD y.numD else .nil))):AU [43] (AB x) (AB y) Q:=by
 refine Cs ?_
 have ix:=gx.numI;have iy:=gy.numI
 refine lt ?_
 refine Je h fun ex ey h=>?_
 rw[ex,ey]
 refine lt ?_
 exact h
theorem AaE(gx:G x)(gy:G y)(h:Q (AB (if x.isNum&&y.isNum then(fun x y=>Val.num (wr (x-y))) x.numD y.numD else .nil))):AU [45] (AB x) (AB y) Q:=by
 refine Cs ?_
 have ix:=gx.numI;have iy:=gy.numI
 refine lt ?_
 refine Je h fun ex ey h=>?_
 rw[ex,ey]
 refine lt ?_
 exact h
theorem YA(gx:G x)(gy:G y)(h:Q (AB (if x.isNum&&y.isNum then(fun x y=>Val.num (wr (x* y))) x.numD y.numD else .nil))):AU [42] (AB x) (AB y) Q:=by
 refine Cs ?_
 have ix:=gx.numI;have iy:=gy.numI
 refine lt ?_
 refine Je h fun ex ey h=>?_
 rw[ex,ey]
 refine lt ?_
 exact h
theorem WY(gx:G x)(gy:G y)(h:Q (AB (if x.isNum&&y.isNum then NH x.numD y.numD else .nil))):AU [46,46] (AB x) (AB y) Q:=by
 refine Cs ?_
 have ix:=gx.numI;have iy:=gy.numI
 refine lt ?_
 refine Je h fun ex ey h=>?_
 rw[ex,ey]
 refine lt ?_
 exact Aag ix iy h
theorem XA(gx:G x)(gy:G y)(h:Q (AB (if x.isNum&&y.isNum then LX x.numD y.numD else .nil))):AU [47] (AB x) (AB y) Q:=by
 refine Cs ?_
 have ix:=gx.numI;have iy:=gy.numI
 refine lt ?_
 refine Je h fun ex ey h=>?_
 rw[ex,ey]
 refine lt ?_
 unfold LX at h
 refine⟨fun e=>?_,fun e=>?_⟩
 ·rw[if_pos e] at h;exact h
 ·rw[if_neg e] at h
  refine Ae ⟨fun e1=>⟨⟨e,Qz ix e e1⟩,?_⟩,fun e1=>?_⟩
  ·refine gY (by decide) ?_
   rw[if_neg e1] at h;exact h
  ·have e1:y.numD=-1:=Decidable.of_not_not e1
   refine gY (by decide) ?_
   rw[if_pos e1] at h;exact h
theorem XZ(gx:G x)(gy:G y)(h:Q (AB (if x.isNum&&y.isNum then Xx x.numD y.numD else .nil))):AU [37] (AB x) (AB y) Q:=by
 refine Cs ?_
 have ix:=gx.numI;have iy:=gy.numI
 refine lt ?_
 refine Je h fun ex ey h=>?_
 rw[ex,ey]
 refine lt ?_
 unfold Xx at h
 refine⟨fun e=>?_,fun e=>?_⟩
 ·rw[if_pos e] at h;exact h
 ·rw[if_neg e] at h
  refine Ae ⟨fun e1=>⟨⟨e,Qz ix e e1⟩,?_⟩,fun e1=>?_⟩
  ·refine gN (by decide) ?_
   rw[if_neg e1,Int.mul_comm] at h;exact h
  ·have e1:y.numD=-1:=Decidable.of_not_not e1
   refine gN (by decide) ?_
   rw[if_pos e1,Int.mul_comm] at h;exact h
theorem Ps{op:Aa}(gx:G x)(gy:G y)(h1:Cw x=true->op=[97,112,112,101,110,100]->Q (AB (Cr (x.fnV++[y]))))(h2:Cw x=true->Cw y=true->op≠[97,112,112,101,110,100]->op=[43,43]->Q (AB (Cr (x.fnV++y.fnV))))
  (h3:(Cw x=true->op≠[97,112,112,101,110,100]/\(Cw y=true->op≠[43,43]))->Q (AB .nil)):GQ op (AB x) (AB y) Q:=by
 have nx:=gx.fnN;have ny:=gy.fnN
 have t1:∀v∈x.fnV++[y],G v:=FO gx.fnV fun v hv=>by rw[List.mem_singleton.1 hv];exact gy
 have e1:Ak x.fnV++[AB y]=Ak (x.fnV++[y]):=by rw[BH];rfl
 refine DI gx (DI gy ?_)
 rw[Jx,Jx,e1,<-BH]
 refine⟨BI (by simp[Ah];omega),Ae ⟨fun ex=>⟨fun ho=>⟨BI (by simp[Ah];omega),Is t1 (by simp;omega) (h1 ex (of_decide_eq_true ho))⟩,fun ho=>Ae ⟨fun _=>⟨fun ey=>⟨fun h=>⟨BI (by simp[Ah];omega),Is (FO gx.fnV gy.fnV) (by simp;omega) (h2 ex ey (of_decide_eq_false ho) (of_decide_eq_true h))⟩,fun h=>h3 fun _=>⟨of_decide_eq_false ho,fun _=>of_decide_eq_false h⟩⟩,fun ey=>⟨fun hh=>(by cases hh),fun _=>h3 fun _=>⟨of_decide_eq_false ho,fun h=>by rw[ey] at h;cases h⟩⟩⟩,fun ex2=>by rw[ex] at ex2;cases ex2⟩⟩,fun ex=>⟨fun hh=>(by cases hh),fun _=>Ae ⟨fun ex2=>by(rw[ex] at ex2;cases ex2),fun _=>⟨fun hh=>(by cases hh),fun _=>h3 fun h=>by rw[ex] at h;cases h⟩⟩⟩⟩⟩
theorem Yu(gx:G x)(gy:G y)(h:Q (AB (.truth (y.isSet&&EF y.setL x)))):Eu [105,110] (AB x) (AB y) Q:=by
 refine gY (by decide) ?_
 rw[US]
 refine VV gy.slk gx (Ae ⟨fun e=>Bw ?_,fun e=>Bw ?_⟩)
 ·have e:=toR_set.1 e
  rw[e] at h ⊢;exact h
 ·have:y.isSet=false:=by
   cases e2:y.isSet with
   |false=>rfl
   |true=>exact absurd (toR_set.2 e2) e
  rw[this] at h;exact h
theorem Ia{op:Aa}{keep:Bool->Bool}(gx:G x)(gy:G y)(hne:op≠[105,110])(hK:∀r:Bool,∀F:Bool->Prop,F (keep r)->Am F fun J=>
   (op=([117,110,105,111,110]:Aa)->J true)/\(¬(op=([117,110,105,111,110]:Aa))->(op=([105,110,116,101,114]:Aa)->(r=true->J true)/\(r=false->(op=([109,105,110,117,115]:Aa)->J (!r))/\(¬(op=([109,105,110,117,115]:Aa))->J false)))/\
    (¬(op=([105,110,116,101,114]:Aa))->(op=([109,105,110,117,115]:Aa)->J (!r))/\(¬(op=([109,105,110,117,115]:Aa))->J false))))
  (hN:(x.isSet&&y.isSet)=false->Q (AB (if op=[115,117,98,115,101,116] then .truth false else .nil)))
  (hS:(x.isSet&&y.isSet)=true->op=[115,117,98,115,101,116]->Q (AB (.truth (x.setL.all (EF y.setL)))))
  (hA:(x.isSet&&y.isSet)=true->op=[45,62]->Q (AB (Gd x.setL y.setL)))
  (hU:(x.isSet&&y.isSet)=true->op≠[115,117,98,115,101,116]->op≠[45,62]->op=[117,110,105,111,110]->Q (AB (EJ (x.setL.filter (fun v=>keep (EF y.setL v))++y.setL))))
  (hO:(x.isSet&&y.isSet)=true->op≠[115,117,98,115,101,116]->op≠[45,62]->op≠[117,110,105,111,110]->Q (AB (EJ (x.setL.filter fun v=>keep (EF y.setL v))))):Eu op (AB x) (AB y) Q:=by
 refine⟨fun e=>absurd e hne,fun _=>Um ?_⟩
 cases e:(x.isSet&&y.isSet)
 ·refine⟨fun s=>s=([],false,0),fun _=>0,rfl,?_⟩
  rintro⟨l,ms,i⟩es
  obtain⟨rfl,rfl,rfl⟩:=Prod.mk.inj es|>.imp id Prod.mk.inj
  have hN:=hN e
  have fin:∀{A:Prop},(false=true->A)/\(false=false->
    (op=([115,117,98,115,101,116]:Aa)->Am (σ:=Int×Int×Aa×(List RV)×(List RV)) (fun(a,b,c,d,e)=>Q (RV.mk a b c d e)) fun J=>(false=true->AQ (!false) fun r=>J (r.k,r.i,r.t,r.ks,r.vs))/\(false=false->AQ false fun r=>J (r.k,r.i,r.t,r.ks,r.vs)))/\
    (¬(op=([115,117,98,115,101,116]:Aa))->((!false)=true->Q (RV.mk 0 0 [] [] []))/\((!false)=false->A))):=fun{A}=>⟨fun hh=>(by cases hh),fun _=>⟨fun ho=>Ae ⟨fun hh=>(by cases hh),fun _=>Bw (by rw[if_pos ho] at hN;exact hN)⟩,fun ho=>⟨fun _=>(by rw[if_neg ho] at hN;exact hN),fun hh=>(by cases hh)⟩⟩⟩
  refine Ae fun _=>⟨fun _=>⟨fun hh=>(by cases hh),fun _=>?_⟩,fun _=>⟨fun hh=>(by cases hh),fun _=>?_⟩⟩
  all_goals
   refine⟨fun ho=>Ae ⟨fun hh=>(by cases hh),fun _=>Bw (by rw[if_pos ho] at hN;exact hN)⟩,fun ho=>⟨fun _=>(by rw[if_neg ho] at hN;exact hN),fun hh=>(by cases hh)⟩⟩
 ·have e2:=(Bool.and_eq_true _ _).mp e
  have hS:=hS e;have hA:=hA e;have hU:=hU e;have hO:=hO e
  rw[JF e2.1,JF e2.2]
  have sx:=gx.sl;have sy:=gy.sl
  generalize x.setL=A at*
  generalize y.setL=B at*
  have lx:=sx.len;have ly:=sy.len
  refine⟨fun s=>0<=s.2.2/\s.2.2<=A.length/\s.1=Ak ((A.take s.2.2.toNat).filter fun v=>keep (EF B v))/\s.2.1=(A.take s.2.2.toNat).any fun v=> !EF B v,fun s=>(A.length-s.2.2).toNat,⟨by simp,by simp,by simp[Ak],by simp⟩,?_⟩
  rintro⟨l,ms,i⟩⟨i0,i1,el,em⟩
  simp only at i0 i1 el em
  subst el em
  have fl:((A.take i.toNat).filter fun v=>keep (EF B v)).length<=1023:=by
   have:=List.length_filter_le (fun v=>keep (EF B v)) (A.take i.toNat)
   rw[List.length_take] at this;omega
  have gf:∀v∈(A.take i.toNat).filter (fun v=>keep (EF B v)),G v:=fun v hv=>sx.good v (List.mem_of_mem_take (List.mem_filter.1 hv).1)
  refine Ae fun _=>⟨fun hi=>⟨fun _=>?_,fun hh=>by cases hh⟩,fun hi=>⟨fun hh=>(by cases hh),fun _=>?_⟩⟩
  ·rw[Ah] at hi
   have mi:=Az i0 hi
   rw[Bz i0 hi]
   have nI:In i (Ak A):=⟨i0,by rw[Ah];exact hi⟩
   refine Ae ⟨nI,fun _ _=>VV sy (sx.good _ mi) ?_⟩
   have nxt:∀l ms,l=Ak ((A.take (i+1).toNat).filter fun v=>keep (EF B v))->ms=((A.take (i+1).toNat).any fun v=> !EF B v)->I64 (i+1)/\((0<=i+1/\i+1<=(A.length:Int)/\l=Ak ((A.take (i+1).toNat).filter fun v=>keep (EF B v))/\ms=(A.take (i+1).toNat).any fun v=> !EF B v)/\((A.length:Int)-(i+1)).toNat<((A.length:Int)-i).toNat):=fun l ms h1 h2=>⟨by unfold I64;omega,⟨by omega,by omega,h1,h2⟩,by omega⟩
   have ef:Ak ((A.take (i+1).toNat).filter fun v=>keep (EF B v))=Ak ((A.take i.toNat).filter fun v=>keep (EF B v))++if keep (EF B (ix A i)) then[AB (ix A i)] else[]:=by
    rw[AV i0 hi,List.filter_append,BH,List.filter_cons];split<;>rfl
   have em:((A.take (i+1).toNat).any fun v=> !EF B v)=(((A.take i.toNat).any fun v=> !EF B v)|| !EF B (ix A i)):=by
    rw[AV i0 hi,List.any_append];simp
   refine Ae ⟨fun hh=>?_,fun hh=>?_⟩
   all_goals
    rw[hh] at em
    refine hK _ _ ?_
    refine⟨fun ek=>⟨nI,fun _ _=>⟨BI (by simp[Ah];omega),?_⟩⟩,fun ek=>?_⟩
    all_goals
     rw[ek] at ef
     refine nxt _ _ ?_ ?_
     ·rw[ef];simp
     ·rw[em];simp
  ·rw[Ah] at hi
   have:i=A.length:=by omega
   subst this
   rw[Int.toNat_natCast,List.take_length] at*
   refine⟨fun ho=>Ae ⟨fun _=>Bw ?_,fun hh=>by cases hh⟩,fun ho=>⟨fun hh=>(by cases hh),fun _=>⟨fun ha=>Up sx sy (hA ha),fun ha=>Ae ⟨fun hu=>⟨BI (by rw[Ah,Ah];omega),?_⟩,fun hu=>EV gf (by omega) (hO ho ha hu)⟩⟩⟩⟩
   ·have h:=hS ho
    rw[Vs] at h;exact h
   ·rw[<-BH]
    exact EV (FO gf sy.good) (by rw[List.length_append];omega) (hU ho ha hu)
end
end Go.Vc
namespace Go.Vc
section
variable{x y:Val}{Q:RV->Prop}
theorem Yd(gx:G x)(h:Q (AB (.truth !x.isTrue))):Ca [110,111,116] (AB x) Q:=by
 refine DI gx (gY (by decide) (DX ?_))
 exact Bw h
theorem YO(gx:G x)(h:Q (AB (if x.isNum then .num (Hx x.numD) else .nil))):Ca [110,101,103] (AB x) Q:=by
 refine DI gx (lt ?_)
 rw[AcG]
 cases e:x.isNum<;>rw[e] at h
 ·refine gF rfl ?_
  refine lt ?_
  exact h
 ·refine gT rfl ?_
  rw[Nh e];exact h
theorem Xp(gx:G x)(h:Q (AB (if x.isSet then .num x.setL.length else .nil))):Ca [115,105,122,101] (AB x) Q:=by
 refine DI gx (lt ?_)
 rw[Vq]
 cases e:x.isSet<;>rw[e] at h
 ·refine gF rfl ?_
  refine lt ?_
  exact h
 ·refine gT rfl ?_
  rw[JF e,Ah];exact fun _=>h
theorem Sw(gx:G x)(h:Q (AB (AbO x))):Ca [100,111,109,97,105,110] (AB x) Q:=by
 refine DI gx (lt ?_)
 unfold AbO at h
 rw[Aef]
 cases e:x.isFn<;>rw[e] at h
 ·refine gF rfl ?_
  refine lt ?_
  exact h
 ·refine gT rfl ?_
  rw[Qo e]
  have:=gx.fnN
  exact EV gx.fnK (by omega) (by rw[EJ,JY (GL.hv gx.fnK) gx.fnAsc];exact h)
theorem Sa(gx:G x)(h:Q (AB (Wo x))):Ca [118,97,108,117,101,115] (AB x) Q:=by
 refine DI gx (lt ?_)
 unfold Wo at h
 rw[Aef]
 cases e:x.isFn<;>rw[e] at h
 ·refine gF rfl ?_
  refine lt ?_
  exact h
 ·refine gT rfl ?_
  rw[Jx]
  have:=gx.fnN
  exact EV gx.fnV (by omega) h
theorem RD(gx:G x)(h:Q (AB (if x.isSet then Jt x.setL else .nil))):Ca [102,108,97,116,116,101,110] (AB x) Q:=by
 refine DI gx (lt ?_)
 rw[Vq]
 cases e:x.isSet<;>rw[e] at h
 ·refine gF rfl ?_
  refine lt ?_
  exact h
 ·refine gT rfl ?_
  exact Zz gx.sl (JF e) h
theorem OR(gx:G x)(h:Q (AB (if x.isSet then TS x.setL else .nil))):Ca [112,111,119,101,114,115,101,116] (AB x) Q:=by
 refine DI gx (lt ?_)
 rw[Vq]
 cases e:x.isSet<;>rw[e] at h
 ·refine gF rfl ?_
  refine lt ?_
  exact h
 ·refine gT rfl ?_
  exact Xs gx.sl (JF e) h
theorem Yp(gx:G x)(h:Q (AB (if Cw x then .num x.fnV.length else .nil))):Ca [108,101,110] (AB x) Q:=by
 refine DI gx (lt ?_)
 cases e:Cw x<;>rw[e] at h
 ·refine gF rfl ?_
  refine lt ?_
  exact h
 ·refine gT rfl ?_
  rw[Qo (Zc e),Ah,gx.fnLen]
  exact fun _=>h
theorem XF(gx:G x)(h:Q (AB (if Cw x then Sd x.fnV else .nil))):Ca [104,101,97,100] (AB x) Q:=by
 refine DI gx (lt ?_)
 cases e:Cw x<;>rw[e] at h
 ·refine gF rfl ?_
  refine lt ?_
  exact h
 ·refine gT rfl fun _=>?_
  rw[Jx,Ah]
  have gv:=gx.fnV;have nv:=gx.fnN.2
  generalize x.fnV=l at*
  by_cases hz:l=[]
  ·subst hz
   refine gF (by decide) (lt ?_)
   exact h
  ·have h:Q (AB (Sd l)):=h
   rw[Sd,if_neg hz] at h
   have hp:(0:Int)<l.length:=by have:=List.length_pos_iff.2 hz;omega
   refine gT (decide_eq_true hp) ?_
   rw[Bz (by decide) hp];exact⟨⟨by decide,by rw[Ah];exact hp⟩,fun _ _=>h⟩
theorem Xk(gx:G x)(h:Q (AB (if Cw x then TV x.fnV else .nil))):Ca [116,97,105,108] (AB x) Q:=by
 refine DI gx (lt ?_)
 cases e:Cw x<;>rw[e] at h
 ·refine gF rfl ?_
  refine lt ?_
  exact h
 ·refine gT rfl fun _=>?_
  rw[Jx,Ah]
  have gv:=gx.fnV;have nv:=gx.fnN.2
  generalize x.fnV=l at*
  by_cases hz:l=[]
  ·subst hz
   refine gF (by decide) (lt ?_)
   exact h
  ·have h:Q (AB (TV l)):=h
   rw[TV,if_neg hz] at h
   have hp:(0:Int)<l.length:=by have:=List.length_pos_iff.2 hz;omega
   refine gT (decide_eq_true hp) ?_
   rw[Cg,<-List.map_drop,<-Cg]
   exact⟨⟨by decide,by omega⟩,Is (fun v hv=>gv v (List.mem_of_mem_drop hv)) (by rw[List.length_drop];omega) h⟩
end
section
variable{a:List Val}{Q:RV->Prop}
theorem By{op:Aa}{n:Int}{F:List Val->Val}{B:Prop}(e:opF op=some (n,F))(hn:n≠-2)(h:Q (AB (Jz op a)))(hB:(0<=n->(a.length:Int)=n)->Q (AB (F a))->B):Len (Ak a)->((n=(-2))\/(((0:Int)<=n)/\(n≠((Ak a).length:Int)))->Q (RV.mk 0 0 [] [] []))/\(¬((n=(-2))\/(((0:Int)<=n)/\(n≠((Ak a).length:Int))))->B):=fun _=>by
 rw[Ah]
 unfold Jz at h
 rw[e] at h
 simp only at h
 by_cases hc:0<=n/\n≠(a.length:Int)
 ·rw[if_pos hc] at h;exact gY (.inr hc) h
 ·rw[if_neg hc] at h
  exact gN (fun hh=>hh.elim hn hc) (hB (fun h0=>Decidable.byContradiction fun hne=>hc ⟨h0,fun e=>hne e.symm⟩) h)
theorem Jo{P:RV->Prop}(hc:(a.length:Int)=1)(h:P (AB (ix a 0))):In 0 (Ak a)/\(I64 (ix (Ak a) 0).k->I64 (ix (Ak a) 0).i->P (ix (Ak a) 0)):=by
 rw[Bz (by decide) (by omega)]
 exact⟨⟨by decide,by rw[Ah];omega⟩,fun _ _=>h⟩
theorem CH{P:RV->RV->Prop}(hc:(a.length:Int)=2)(h:P (AB (ix a 0)) (AB (ix a 1))):In 0 (Ak a)/\(I64 (ix (Ak a) 0).k->I64 (ix (Ak a) 0).i->In 1 (Ak a)/\(I64 (ix (Ak a) 1).k->I64 (ix (Ak a) 1).i->P (ix (Ak a) 0) (ix (Ak a) 1))):=by
 rw[Bz (by decide) (by omega),Bz (by decide) (by omega)]
 exact⟨⟨by decide,by rw[Ah];omega⟩,fun _ _=>⟨⟨by decide,by rw[Ah];omega⟩,fun _ _=>h⟩⟩
theorem AdQ{P:RV->RV->RV->Prop}(hc:(a.length:Int)=3)(h:P (AB (ix a 0)) (AB (ix a 1)) (AB (ix a 2))):In 0 (Ak a)/\(I64 (ix (Ak a) 0).k->I64 (ix (Ak a) 0).i->In 1 (Ak a)/\(I64 (ix (Ak a) 1).k->I64 (ix (Ak a) 1).i->In 2 (Ak a)/\(I64 (ix (Ak a) 2).k->I64 (ix (Ak a) 2).i->P (ix (Ak a) 0) (ix (Ak a) 1) (ix (Ak a) 2)))):=by
 rw[Bz (by decide) (by omega),Bz (by decide) (by omega),Bz (by decide) (by omega)]
 exact⟨⟨by decide,by rw[Ah];omega⟩,fun _ _=>⟨⟨by decide,by rw[Ah];omega⟩,fun _ _=>⟨⟨by decide,by rw[Ah];omega⟩,fun _ _=>h⟩⟩⟩
theorem AdS{x:Val}{p:Val->Bool}(g:G x)(h:Q (AB (DM (x.setL.filter p)))):Q (AB (EJ (x.setL.filter p))):=by
 rw[EJ,JY (GL.hv fun v hv=>g.setL v (List.mem_filter.1 hv).1) (g.setAsc.filter p)];exact h
theorem Xv{op:Aa}(ha:∀x∈a,G x)(hl:a.length<=300000)(h:Q (AB (Jz op a))):Nu op (Ak a) Q:=by
 by_cases e0:op=[110,111,116]
 ·subst e0
  refine lt ?_
  refine By rfl (by decide) h fun hc h=>?_
  refine lt (Jo (P:=fun x=>Ca _ x fun r=>Q r) (hc (by decide)) ?_)
  exact Yd (G.at ha (BT (hc (by decide)) (by decide) (by decide))) h
 by_cases e1:op=[110,101,103]
 ·subst e1
  refine lt ?_
  refine By rfl (by decide) h fun hc h=>?_
  refine lt (Jo (P:=fun x=>Ca _ x fun r=>Q r) (hc (by decide)) ?_)
  exact YO (G.at ha (BT (hc (by decide)) (by decide) (by decide))) h
 by_cases e2:op=[115,105,122,101]
 ·subst e2
  refine lt ?_
  refine By rfl (by decide) h fun hc h=>?_
  refine lt (Jo (P:=fun x=>Ca _ x fun r=>Q r) (hc (by decide)) ?_)
  exact Xp (G.at ha (BT (hc (by decide)) (by decide) (by decide))) h
 by_cases e3:op=[100,111,109,97,105,110]
 ·subst e3
  refine lt ?_
  refine By rfl (by decide) h fun hc h=>?_
  refine lt (Jo (P:=fun x=>Ca _ x fun r=>Q r) (hc (by decide)) ?_)
  exact Sw (G.at ha (BT (hc (by decide)) (by decide) (by decide))) h
 by_cases e4:op=[118,97,108,117,101,115]
 ·subst e4
  refine lt ?_
  refine By rfl (by decide) h fun hc h=>?_
  refine lt (Jo (P:=fun x=>Ca _ x fun r=>Q r) (hc (by decide)) ?_)
  exact Sa (G.at ha (BT (hc (by decide)) (by decide) (by decide))) h
 by_cases e5:op=[108,101,110]
 ·subst e5
  refine lt ?_
  refine By rfl (by decide) h fun hc h=>?_
  refine lt (Jo (P:=fun x=>Ca _ x fun r=>Q r) (hc (by decide)) ?_)
  exact Yp (G.at ha (BT (hc (by decide)) (by decide) (by decide))) h
 by_cases e6:op=[104,101,97,100]
 ·subst e6
  refine lt ?_
  refine By rfl (by decide) h fun hc h=>?_
  refine lt (Jo (P:=fun x=>Ca _ x fun r=>Q r) (hc (by decide)) ?_)
  exact XF (G.at ha (BT (hc (by decide)) (by decide) (by decide))) h
 by_cases e7:op=[116,97,105,108]
 ·subst e7
  refine lt ?_
  refine By rfl (by decide) h fun hc h=>?_
  refine lt (Jo (P:=fun x=>Ca _ x fun r=>Q r) (hc (by decide)) ?_)
  exact Xk (G.at ha (BT (hc (by decide)) (by decide) (by decide))) h
 by_cases e8:op=[102,108,97,116,116,101,110]
 ·subst e8
  refine lt ?_
  refine By rfl (by decide) h fun hc h=>?_
  refine lt (Jo (P:=fun x=>Ca _ x fun r=>Q r) (hc (by decide)) ?_)
  exact RD (G.at ha (BT (hc (by decide)) (by decide) (by decide))) h
 by_cases e9:op=[112,111,119,101,114,115,101,116]
 ·subst e9
  refine lt ?_
  refine By rfl (by decide) h fun hc h=>?_
  refine lt (Jo (P:=fun x=>Ca _ x fun r=>Q r) (hc (by decide)) ?_)
  exact OR (G.at ha (BT (hc (by decide)) (by decide) (by decide))) h
 by_cases e10:op=[97,110,100]
 ·subst e10
  refine lt ?_
  refine By rfl (by decide) h fun hc h=>?_
  refine lt ?_
  have g0:=G.at ha (BT (hc (by decide)) (i:=0) (by decide) (by decide));have g1:=G.at ha (BT (hc (by decide)) (i:=1) (by decide) (by decide))
  refine CH (P:=fun x y=>Ci _ x y fun r=>Q r) (hc (by decide)) ?_
  exact UH g0 g1 h
 by_cases e11:op=[111,114]
 ·subst e11
  refine lt ?_
  refine By rfl (by decide) h fun hc h=>?_
  refine lt ?_
  have g0:=G.at ha (BT (hc (by decide)) (i:=0) (by decide) (by decide));have g1:=G.at ha (BT (hc (by decide)) (i:=1) (by decide) (by decide))
  refine CH (P:=fun x y=>Ci _ x y fun r=>Q r) (hc (by decide)) ?_
  exact Wx g0 g1 h
 by_cases e12:op=[105,109,112,108,105,101,115]
 ·subst e12
  refine lt ?_
  refine By rfl (by decide) h fun hc h=>?_
  refine lt ?_
  have g0:=G.at ha (BT (hc (by decide)) (i:=0) (by decide) (by decide));have g1:=G.at ha (BT (hc (by decide)) (i:=1) (by decide) (by decide))
  refine CH (P:=fun x y=>Ci _ x y fun r=>Q r) (hc (by decide)) ?_
  exact UI g0 g1 h
 by_cases e13:op=[105,102,102]
 ·subst e13
  refine lt ?_
  refine By rfl (by decide) h fun hc h=>?_
  refine lt ?_
  have g0:=G.at ha (BT (hc (by decide)) (i:=0) (by decide) (by decide));have g1:=G.at ha (BT (hc (by decide)) (i:=1) (by decide) (by decide))
  refine CH (P:=fun x y=>Ci _ x y fun r=>Q r) (hc (by decide)) ?_
  exact Ut g0 g1 h
 by_cases e14:op=[61]
 ·subst e14
  refine lt ?_
  refine By rfl (by decide) h fun hc h=>?_
  refine lt ?_
  have g0:=G.at ha (BT (hc (by decide)) (i:=0) (by decide) (by decide));have g1:=G.at ha (BT (hc (by decide)) (i:=1) (by decide) (by decide))
  refine CH (P:=fun x y=>Ci _ x y fun r=>Q r) (hc (by decide)) ?_
  exact WH g0 g1 h
 by_cases e15:op=[47,61]
 ·subst e15
  refine lt ?_
  refine By rfl (by decide) h fun hc h=>?_
  refine lt ?_
  have g0:=G.at ha (BT (hc (by decide)) (i:=0) (by decide) (by decide));have g1:=G.at ha (BT (hc (by decide)) (i:=1) (by decide) (by decide))
  refine CH (P:=fun x y=>Ci _ x y fun r=>Q r) (hc (by decide)) ?_
  exact Wv g0 g1 h
 by_cases e16:op=[60]
 ·subst e16
  refine lt ?_
  refine By rfl (by decide) h fun hc h=>?_
  refine lt ?_
  have g0:=G.at ha (BT (hc (by decide)) (i:=0) (by decide) (by decide));have g1:=G.at ha (BT (hc (by decide)) (i:=1) (by decide) (by decide))
  refine CH (P:=fun x y=>AU _ x y fun r=>Q r) (hc (by decide)) ?_
  exact AbD h
 by_cases e17:op=[60,61]
 ·subst e17
  refine lt ?_
  refine By rfl (by decide) h fun hc h=>?_
  refine lt ?_
  have g0:=G.at ha (BT (hc (by decide)) (i:=0) (by decide) (by decide));have g1:=G.at ha (BT (hc (by decide)) (i:=1) (by decide) (by decide))
  refine CH (P:=fun x y=>AU _ x y fun r=>Q r) (hc (by decide)) ?_
  exact AaP h
 by_cases e18:op=[62]
 ·subst e18
  refine lt ?_
  refine By rfl (by decide) h fun hc h=>?_
  refine lt ?_
  have g0:=G.at ha (BT (hc (by decide)) (i:=0) (by decide) (by decide));have g1:=G.at ha (BT (hc (by decide)) (i:=1) (by decide) (by decide))
  refine CH (P:=fun x y=>AU _ x y fun r=>Q r) (hc (by decide)) ?_
  exact AbJ h
 by_cases e19:op=[62,61]
 ·subst e19
  refine lt ?_
  refine By rfl (by decide) h fun hc h=>?_
  refine lt ?_
  have g0:=G.at ha (BT (hc (by decide)) (i:=0) (by decide) (by decide));have g1:=G.at ha (BT (hc (by decide)) (i:=1) (by decide) (by decide))
  refine CH (P:=fun x y=>AU _ x y fun r=>Q r) (hc (by decide)) ?_
  exact Abv h
 by_cases e20:op=[43]
 ·subst e20
  refine lt ?_
  refine By rfl (by decide) h fun hc h=>?_
  refine lt ?_
  have g0:=G.at ha (BT (hc (by decide)) (i:=0) (by decide) (by decide));have g1:=G.at ha (BT (hc (by decide)) (i:=1) (by decide) (by decide))
  refine CH (P:=fun x y=>AU _ x y fun r=>Q r) (hc (by decide)) ?_
  exact XY g0 g1 h
 by_cases e21:op=[45]
 ·subst e21
  refine lt ?_
  refine By rfl (by decide) h fun hc h=>?_
  refine lt ?_
  have g0:=G.at ha (BT (hc (by decide)) (i:=0) (by decide) (by decide));have g1:=G.at ha (BT (hc (by decide)) (i:=1) (by decide) (by decide))
  refine CH (P:=fun x y=>AU _ x y fun r=>Q r) (hc (by decide)) ?_
  exact AaE g0 g1 h
 by_cases e22:op=[42]
 ·subst e22
  refine lt ?_
  refine By rfl (by decide) h fun hc h=>?_
  refine lt ?_
  have g0:=G.at ha (BT (hc (by decide)) (i:=0) (by decide) (by decide));have g1:=G.at ha (BT (hc (by decide)) (i:=1) (by decide) (by decide))
  refine CH (P:=fun x y=>AU _ x y fun r=>Q r) (hc (by decide)) ?_
  exact YA g0 g1 h
 by_cases e23:op=[47]
 ·subst e23
  refine lt ?_
  refine By rfl (by decide) h fun hc h=>?_
  refine lt ?_
  have g0:=G.at ha (BT (hc (by decide)) (i:=0) (by decide) (by decide));have g1:=G.at ha (BT (hc (by decide)) (i:=1) (by decide) (by decide))
  refine CH (P:=fun x y=>AU _ x y fun r=>Q r) (hc (by decide)) ?_
  exact XA g0 g1 h
 by_cases e24:op=[37]
 ·subst e24
  refine lt ?_
  refine By rfl (by decide) h fun hc h=>?_
  refine lt ?_
  have g0:=G.at ha (BT (hc (by decide)) (i:=0) (by decide) (by decide));have g1:=G.at ha (BT (hc (by decide)) (i:=1) (by decide) (by decide))
  refine CH (P:=fun x y=>AU _ x y fun r=>Q r) (hc (by decide)) ?_
  exact XZ g0 g1 h
 by_cases e25:op=[46,46]
 ·subst e25
  refine lt ?_
  refine By rfl (by decide) h fun hc h=>?_
  refine lt ?_
  have g0:=G.at ha (BT (hc (by decide)) (i:=0) (by decide) (by decide));have g1:=G.at ha (BT (hc (by decide)) (i:=1) (by decide) (by decide))
  refine CH (P:=fun x y=>AU _ x y fun r=>Q r) (hc (by decide)) ?_
  exact WY g0 g1 h
 by_cases e26:op=[105,110]
 ·subst e26
  refine lt ?_
  refine By rfl (by decide) h fun hc h=>?_
  refine lt ?_
  have g0:=G.at ha (BT (hc (by decide)) (i:=0) (by decide) (by decide));have g1:=G.at ha (BT (hc (by decide)) (i:=1) (by decide) (by decide))
  refine CH (P:=fun x y=>Eu _ x y fun r=>Q r) (hc (by decide)) ?_
  exact Yu g0 g1 h
 by_cases e27:op=[115,117,98,115,101,116]
 ·subst e27
  refine lt ?_
  refine By rfl (by decide) h fun hc h=>?_
  refine lt ?_
  have g0:=G.at ha (BT (hc (by decide)) (i:=0) (by decide) (by decide));have g1:=G.at ha (BT (hc (by decide)) (i:=1) (by decide) (by decide))
  refine CH (P:=fun x y=>Eu _ x y fun r=>Q r) (hc (by decide)) ?_
  refine Ia (keep:=fun _=>false) g0 g1 (by decide) (fun r F h=>?_) (fun e=>?_) (fun e _=>by unfold Vp at h;rw[e] at h;exact h) (fun _ hh=>absurd hh (by decide)) (fun _ hh=>absurd rfl hh) (fun _ hh=>absurd rfl hh)
  ·refine lt ?_
   first|exact h|(cases r<;>exact h)|exact⟨fun hr=>by(subst hr;exact h),fun hr=>by(subst hr;refine lt ?_;exact h)⟩
  ·unfold Vp at h;rw[e] at h;exact h
 by_cases e28:op=[117,110,105,111,110]
 ·subst e28
  refine lt ?_
  refine By rfl (by decide) h fun hc h=>?_
  refine lt ?_
  have g0:=G.at ha (BT (hc (by decide)) (i:=0) (by decide) (by decide));have g1:=G.at ha (BT (hc (by decide)) (i:=1) (by decide) (by decide))
  refine CH (P:=fun x y=>Eu _ x y fun r=>Q r) (hc (by decide)) ?_
  refine Ia (keep:=fun _=>true) g0 g1 (by decide) (fun r F h=>?_) (fun e=>?_) (fun _ hh=>absurd hh (by decide)) (fun _ hh=>absurd hh (by decide)) (fun e _ _ _=>by simp only[s2,e] at h;rw[if_pos trivial] at h;rw[List.filter_eq_self.2 fun _ _=>rfl];exact h) (fun _ _ _ hh=>absurd rfl hh)
  ·refine lt ?_
   first|exact h|(cases r<;>exact h)|exact⟨fun hr=>by(subst hr;exact h),fun hr=>by(subst hr;refine lt ?_;exact h)⟩
  ·simp only[s2,e] at h;exact h
 by_cases e29:op=[105,110,116,101,114]
 ·subst e29
  refine lt ?_
  refine By rfl (by decide) h fun hc h=>?_
  refine lt ?_
  have g0:=G.at ha (BT (hc (by decide)) (i:=0) (by decide) (by decide));have g1:=G.at ha (BT (hc (by decide)) (i:=1) (by decide) (by decide))
  refine CH (P:=fun x y=>Eu _ x y fun r=>Q r) (hc (by decide)) ?_
  refine Ia (keep:=fun r=>r) g0 g1 (by decide) (fun r F h=>?_) (fun e=>?_) (fun _ hh=>absurd hh (by decide)) (fun _ hh=>absurd hh (by decide)) (fun _ _ _ hh=>absurd hh (by decide)) (fun e _ _ _=>by simp only[s2,e] at h;exact AdS g0 h)
  ·refine lt ?_
   first|exact h|(cases r<;>exact h)|exact⟨fun hr=>by(subst hr;exact h),fun hr=>by(subst hr;refine lt ?_;exact h)⟩
  ·simp only[s2,e] at h;exact h
 by_cases e30:op=[109,105,110,117,115]
 ·subst e30
  refine lt ?_
  refine By rfl (by decide) h fun hc h=>?_
  refine lt ?_
  have g0:=G.at ha (BT (hc (by decide)) (i:=0) (by decide) (by decide));have g1:=G.at ha (BT (hc (by decide)) (i:=1) (by decide) (by decide))
  refine CH (P:=fun x y=>Eu _ x y fun r=>Q r) (hc (by decide)) ?_
  refine Ia (keep:=fun r=> !r) g0 g1 (by decide) (fun r F h=>?_) (fun e=>?_) (fun _ hh=>absurd hh (by decide)) (fun _ hh=>absurd hh (by decide)) (fun _ _ _ hh=>absurd hh (by decide)) (fun e _ _ _=>by simp only[s2,e] at h;exact AdS g0 h)
  ·refine lt ?_
   first|exact h|(cases r<;>exact h)|exact⟨fun hr=>by(subst hr;exact h),fun hr=>by(subst hr;refine lt ?_;exact h)⟩
  ·simp only[s2,e] at h;exact h
 by_cases e31:op=[45,62]
 ·subst e31
  refine lt ?_
  refine By rfl (by decide) h fun hc h=>?_
  refine lt ?_
  have g0:=G.at ha (BT (hc (by decide)) (i:=0) (by decide) (by decide));have g1:=G.at ha (BT (hc (by decide)) (i:=1) (by decide) (by decide))
  refine CH (P:=fun x y=>Eu _ x y fun r=>Q r) (hc (by decide)) ?_
  refine Ia (keep:=fun _=>false) g0 g1 (by decide) (fun r F h=>?_) (fun e=>?_) (fun _ hh=>absurd hh (by decide)) (fun e _=>by simp only[s2,e] at h;exact h) (fun _ _ hh=>absurd rfl hh) (fun _ _ hh=>absurd rfl hh)
  ·refine lt ?_
   first|exact h|(cases r<;>exact h)|exact⟨fun hr=>by(subst hr;exact h),fun hr=>by(subst hr;refine lt ?_;exact h)⟩
  ·simp only[s2,e] at h;exact h
 by_cases e32:op=[115,101,113,115]
 ·subst e32
  refine lt ?_
  refine By rfl (by decide) h fun hc h=>?_
  refine lt ?_
  have g0:=G.at ha (BT (hc (by decide)) (i:=0) (by decide) (by decide));have g1:=G.at ha (BT (hc (by decide)) (i:=1) (by decide) (by decide))
  refine CH (P:=fun x y=>Fk x y fun r=>Q r) (hc (by decide)) ?_
  exact OT g0 g1 h
 by_cases e33:op=[97,116]
 ·subst e33
  refine lt ?_
  refine By rfl (by decide) h fun hc h=>?_
  refine lt ?_
  have g0:=G.at ha (BT (hc (by decide)) (i:=0) (by decide) (by decide));have g1:=G.at ha (BT (hc (by decide)) (i:=1) (by decide) (by decide))
  refine CH (P:=fun x y=>VT x y fun r=>Q r) (hc (by decide)) ?_
  exact AcK g0 g1 h
 by_cases e34:op=[97,112,112,101,110,100]
 ·subst e34
  refine lt ?_
  refine By rfl (by decide) h fun hc h=>?_
  refine lt ?_
  have g0:=G.at ha (BT (hc (by decide)) (i:=0) (by decide) (by decide));have g1:=G.at ha (BT (hc (by decide)) (i:=1) (by decide) (by decide))
  refine CH (P:=fun x y=>GQ _ x y fun r=>Q r) (hc (by decide)) ?_
  refine Ps g0 g1 (fun e _=>?_) (fun _ _ hh=>absurd rfl hh) (fun hh=>?_)
  ·simp only[q1,e] at h
   have:a.drop 1=[ix a 1]:=by
    have hc:=hc (by decide)
    match a,hc with
    |[_,_],_=>rfl
   rw[this] at h;exact h
  ·cases e:Cw (ix a 0)
   ·simp only[q1,e] at h;exact h
   ·exact absurd rfl (hh e).1
 by_cases e35:op=[43,43]
 ·subst e35
  refine lt ?_
  refine By rfl (by decide) h fun hc h=>?_
  refine lt ?_
  have g0:=G.at ha (BT (hc (by decide)) (i:=0) (by decide) (by decide));have g1:=G.at ha (BT (hc (by decide)) (i:=1) (by decide) (by decide))
  refine CH (P:=fun x y=>GQ _ x y fun r=>Q r) (hc (by decide)) ?_
  refine Ps g0 g1 (fun _ hh=>absurd hh (by decide)) (fun e e2 _ _=>?_) (fun hh=>?_)
  ·simp only[q1,Abp,e,e2] at h;exact h
  ·cases e:Cw (ix a 0)
   ·simp only[q1,e] at h;exact h
   ·cases e2:Cw (ix a 1)
    ·simp only[q1,Abp,e,e2] at h;exact h
    ·exact absurd rfl ((hh e).2 e2)
 by_cases e36:op=[112,117,116]
 ·subst e36
  refine lt ?_
  refine By rfl (by decide) h fun hc h=>?_
  refine lt ?_
  have g0:=G.at ha (BT (hc (by decide)) (i:=0) (by decide) (by decide));have g1:=G.at ha (BT (hc (by decide)) (i:=1) (by decide) (by decide));have g2:=G.at ha (BT (hc (by decide)) (i:=2) (by decide) (by decide))
  refine AdQ (P:=fun x y z=>KA x y z fun r=>Q r) (hc (by decide)) ?_
  exact XO g0 g1 g2 h
 by_cases e37:op=[115,101,116]
 ·subst e37
  refine lt ?_
  refine By rfl (by decide) h fun hc h=>?_
  refine lt ?_
  exact EV ha (by omega) h
 by_cases e38:op=[115,101,113]
 ·subst e38
  refine lt ?_
  refine By rfl (by decide) h fun hc h=>?_
  refine lt ?_
  exact Is ha (by omega) h
 by_cases e39:op=[102,117,110]
 ·subst e39
  refine lt ?_
  refine By rfl (by decide) h fun hc h=>?_
  refine lt ?_
  exact AaM ha hl h
 have e:opF op=none:=by simp[opF,Fa,CO,HJ,BM,e0,e1,e2,e3,e4,e5,e6,e7,e8,e9,e10,e11,e12,e13,e14,e15,e16,e17,e18,e19,e20,e21,e22,e23,e24,e25,e26,e27,e28,e29,e30,e31,e32,e33,e34,e35,e36,e37,e38,e39]
 have h:Q (AB .nil):=by unfold Jz at h;rw[e] at h;exact h
 repeat (first|refine gN (by assumption) ?_|refine Ae ?_|refine gF (decide_eq_false (by assumption)) ?_)
 exact fun _=>gY (.inl rfl) h
end
end Go.Vc
namespace Go.Vc
theorem VX(v:Val):RV.mk (AB v).k (AB v).i (AB v).t (AB v).ks (AB v).vs=AB v:=by cases v<;>rfl
theorem Abm{c n:Int}{Q:Int->Prop}(hc:I64 c)(hn:1<=n)(h:∀r,0<=r->r<n->Q r):Va c n Q:=by
 unfold I64 at hc
 have t:∀d:Int,0<=d->(n:Int)≠0/\Q (d.tmod n):=fun d hd=>by
  rw[Int.tmod_eq_emod_of_nonneg hd]
  exact⟨by omega,h _ (Int.emod_nonneg _ (by omega)) (Int.emod_lt_of_pos _ (by omega))⟩
 exact Ae ⟨fun h0=>⟨by unfold I64;omega,by unfold I64;omega,t _ (by omega)⟩,fun h0=>t _ (by omega)⟩
theorem Nx{script:List (Aa×Int×Aa)}{Q:Bool->Prop}(hb:script.length<=262143/\∀s∈script,s.2.2.length<=1048576)(h:Q true):Kb script Q:=by
 have hlen:=hb.1
 refine⟨fun s=>0<=s.2.2.2/\s.2.2.2<=script.length/\(∀x∈s.1,G x)/\s.2.1=Ak s.1/\s.2.2.1=s.1.map AM/\s.1.length<=s.2.2.2,fun s=>(script.length-s.2.2.2).toNat,⟨by simp,by simp,by simp,rfl,rfl,by simp⟩,?_⟩
 rintro⟨l,m,sh,i⟩⟨i0,i1,gl,em,es,li⟩_
 simp only at i0 i1 gl em es li
 subst em es
 refine⟨fun hi=>⟨⟨i0,hi⟩,fun hI=>Zi (by have:=hb.2 _ (Az i0 hi);unfold Len;omega) ?_⟩,fun hi=>?_⟩
 ·have gr:=Ux (ix script i).2.2
  refine⟨fun c=>G c.1/\RV.mk c.2.1 c.2.2.1 c.2.2.2.1 c.2.2.2.2.1 c.2.2.2.2.2=AB c.1,?_,?_⟩
  ·rintro⟨v,c1,c2,c3,c4,c5⟩⟨gv,ev⟩
   have ev:RV.mk c1 c2 c3 c4 c5=AB v:=ev
   have gv:G v:=gv
   show NN v _
   rw[ev]
   have hs:=gv.show
   refine Vj gv.1.ev hs ⟨_,Iz _ (Nat.lt_succ_self _) gv.1.ev hs (Jh ⟨_,Hy _ (Nat.lt_succ_self _) (by have:=Uv gv.1;omega) (Ae ?_)⟩)⟩
   rw[UE gv.1.hv]
   refine⟨fun hn=>absurd rfl hn,fun _=>⟨fun hd=>absurd rfl (of_decide_eq_true hd),fun _=>⟨BY (by simp;omega),BI (by simp[Ah];omega),BY (by simp;omega),by unfold I64;omega,⟨by show 0<=i+1;omega,by show i+1<=_;omega,fun x hx=>?_,?_,?_,by show(((l++[v]).length:Nat):Int)<=i+1;simp;omega⟩,by show((script.length:Int)-(i+1)).toNat<((script.length:Int)-i).toNat;omega⟩⟩⟩
   ·rcases List.mem_append.1 hx with hx|hx
    ·exact gl x hx
    ·rw[List.mem_singleton.1 hx];exact gv
   ·show Ak l++[AB v]=Ak (l++[v]);rw[BH];rfl
   ·show l.map AM++[AM v]=(l++[v]).map AM;simp
  ·refine⟨fun hop _=>⟨by unfold I64;omega,Abm hI (by omega) fun r r0 r1 _=>?_⟩,fun _=>⟨gr,VX _⟩⟩
   have hdl:(l.drop ((l.length:Int)-r).toNat).length<=262143:=by rw[List.length_drop];omega
   have gd:∀x∈l.drop ((l.length:Int)-r).toNat,G x:=fun x hx=>gl x (List.mem_of_mem_drop hx)
   rw[Ah]
   have ed:(Ak l).drop ((l.length:Int)-r).toNat=Ak (l.drop ((l.length:Int)-r).toNat):=by rw[Cg,Cg,List.map_drop]
   rw[ed]
   generalize l.drop ((l.length:Int)-r).toNat=a at*
   refine⟨by unfold I64;omega,⟨by omega,by omega⟩,BY (by simp;omega),Aam gd (by omega) fun ga _=>⟨by unfold I64;omega,⟨by omega,by omega⟩,Xv gd (by omega) ?_⟩⟩
   refine⟨fun s=>0<=s.2/\s.2<=a.length/\s.1.length=a.length,fun s=>(a.length-s.2).toNat,⟨by simp,by simp,rfl⟩,?_⟩
   rintro⟨b,k⟩⟨k0,k1,kl⟩_
   simp only at k0 k1 kl
   exact⟨fun hk=>⟨⟨k0,hk⟩,by unfold I64;omega,⟨by show 0<=k+1;omega,by show k+1<=_;omega,by show(b.set _ _).length=_;rw[List.length_set];exact kl⟩,by show((a.length:Int)-(k+1)).toNat<((a.length:Int)-k).toNat;omega⟩,fun _=>⟨ga,VX _⟩⟩
 ·refine⟨fun k=>0<=k/\k<=l.length,fun k=>(l.length-k).toNat,⟨by simp,by simp⟩,?_⟩
  rintro k⟨k0,k1⟩_
  refine⟨fun hk=>⟨⟨k0,hk⟩,?_⟩,fun _=>h⟩
  have gv:=gl _ (Az k0 hk)
  refine Vj gv.1.ev gv.show ⟨⟨k0,by rw[List.length_map];exact hk⟩,fun hn=>absurd ?_ hn,fun _=>⟨by unfold I64;omega,⟨by omega,by omega⟩,by show((l.length:Int)-(k+1)).toNat<((l.length:Int)-k).toNat;omega⟩⟩
  rw[EW k0 hk]
end Go.Vc
namespace Go.Vc
open Go Go.ChangeShapes
section
variable{D:Type}{enc:TypeId×Value->D}{P:Program}{W:World}{base:Nat}{spare:Nat->Bool}{held:Bool}
theorem PV{t:TypeId}(ht:P.underlying t=some .string)(hs:P.cellsOf t=1):LY enc P W base spare held cStr t (fun d y=>d=.lit (.string y)):=
 ⟨hs,fun n cs x h=>by obtain⟨s,rfl,rfl,_⟩:=DataW.trod_string ht h;exact⟨s.data.toList,by show _=[sv _];simp[sv],rfl⟩⟩
end
end Go.Vc
namespace Go.Proofs.YtlhkfkecoekoeaaGreatDoor
open Go Go.Vc
theorem Aal{H:Type}:∀d:DataW H,1<=Rows.uptoBulk d
 |.lit l=>by cases l<;>simp[Rows.uptoBulk]
 |.nil=>by simp[Rows.uptoBulk]
 |.ptr d=>by simp[Rows.uptoBulk]
 |.slice a b=>by simp[Rows.uptoBulk]
 |.agg a=>by simp[Rows.uptoBulk]
 |.iface _ d=>by simp[Rows.uptoBulk]
 |.map a=>by simp[Rows.uptoBulk]
 |.held _=>by simp[Rows.uptoBulk]
theorem TM{H:Type}:∀{l:List (DataW H)}{i:Nat}{d:DataW H},l[i]? =some d->Rows.uptoBulk d<=Rows.uptoBulkAll l
 |a::l,0,d,h=>by
  simp at h;subst h
  show _<=Rows.uptoBulk a+Rows.uptoBulkAll l;omega
 |a::l,i+1,d,h=>by
  have:=TM (l:=l) (i:=i) (by simpa using h)
  show _<=Rows.uptoBulk a+Rows.uptoBulkAll l;omega
theorem Tb{H:Type}{b:Nat}:∀{l:List (DataW H)},(∀d∈l,b<=Rows.uptoBulk d)->l.length* b<=Rows.uptoBulkAll l
 |[],_=>by simp[Rows.uptoBulkAll]
 |a::l,h=>by
  have h1:=h a (by simp)
  have h2:=Tb (l:=l) fun d hd=>h d (List.mem_cons_of_mem _ hd)
  show _<=Rows.uptoBulk a+Rows.uptoBulkAll l
  rw[List.length_cons,Nat.add_mul];omega
theorem SE{H:Type}{d:DataW H}{ys:List (Aa×Int×Aa)}
  (h:AcD (AcE fun ds y=>∃d1 t1,ds=d1::t1/\d1=.lit (.string y.1)/\∃d2 t2,t1=d2::t2/\True/\∃d3,t2=[d3]/\d3=.lit (.string y.2.2)) d ys)
  (hb:Rows.uptoBulk d<=1048576):ys.length<=262143/\∀y∈ys,y.2.2.length<=1048576:=by
 rcases h with⟨rfl,rfl⟩|⟨elems,sp,rfl,hl,hel⟩
 ·simp
 ·have hs:Rows.uptoBulkAll elems+Rows.uptoBulkAll sp+1<=1048576:=hb
  have key:∀(i:Nat)e(y:Aa×Int×Aa),elems[i]? =some e->ys[i]? =some y->4<=Rows.uptoBulk e/\y.2.2.length<=Rows.uptoBulk e:=by
   intro i e y he hy
   obtain⟨ds,rfl,d1,t1,rfl,rfl,d2,t2,rfl,_,d3,rfl,rfl⟩:=hel i e y he hy
   have p2:=Aal d2
   have e:Rows.uptoBulk (H:=H) (.agg [.lit (.string y.1),d2,.lit (.string y.2.2)])=(y.1.length+1)+(Rows.uptoBulk d2+((y.2.2.length+1)+0))+1:=rfl
   rw[e];omega
  constructor
  ·have:=Tb (b:=4) (l:=elems) fun d hd=>by
    obtain⟨i,hi,rfl⟩:=List.getElem_of_mem hd
    exact(key i _ _ (List.getElem?_eq_getElem hi) (List.getElem?_eq_getElem (by omega))).1
   omega
  ·intro y hy
   obtain⟨i,hi,rfl⟩:=List.getElem_of_mem hy
   have hie:i<elems.length:=by omega
   have a:=(key i _ _ (List.getElem?_eq_getElem hie) (List.getElem?_eq_getElem hi)).2
   have b:=TM (List.getElem?_eq_getElem hie)
   omega
end Go.Proofs.YtlhkfkecoekoeaaGreatDoor
