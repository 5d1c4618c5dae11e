/- Part J of the proof: plain lemmas, rules. No condition beyond those that each theorem names. -/
import Derived.Test.YtlhkfkecoekoeaaGreatDoorGI
import Derived.ProofKit
import Derived.SizedLaws
set_option linter.unusedVariables false
set_option linter.unusedSimpArgs false
namespace Go.Vc
open Go Go.ChangeShapes
abbrev hv(W:World):View:=fun k=>W.heap[k]?
section
variable{D:Type}{enc:TypeId×Value->D}{P:Program}{W:World}{base:Nat}{spare:Nat->Bool}{held:Bool}
def LY{α:Type}(enc:TypeId×Value->D)(P:Program)(W:World)(base:Nat)(spare:Nat->Bool)(held:Bool)(c:Codec α)(t:TypeId)(rel:DataW D->α->Prop):Prop:=
 P.cellsOf t=c.size/\∀n cs x,DataW.trod enc P W base spare held n t cs=some x->∃y,c.rep (hv W) cs y/\rel x.1 y
theorem WA{t:TypeId}{k:IntKind}(ht:P.underlying t=some (.int k))(hs:P.cellsOf t=1)(hk:∀n,(Lit.int k n).wf=true->k.has n):LY enc P W base spare held (CV k) t (fun _ _=>True):=
 ⟨hs,fun n cs x h=>by obtain⟨m,rfl,rfl,hw⟩:=DataW.trod_int ht h;exact⟨m,Du (hk m hw),trivial⟩⟩
theorem AcW{n:Int}(h:(Lit.int .i64 n).wf=true):IntKind.i64.has n:=by
 exact I64.has (by unfold I64;simp only[Lit.wf,IntKind.min,IntKind.max,IntKind.bits,IntKind.signed] at h;simp at h;omega)
def AcD{α:Type}(rel:DataW D->α->Prop):DataW D->List α->Prop:=fun d ys=>
 (d=.nil/\ys=[])\/∃elems sp,d=.slice elems sp/\elems.length=ys.length/\∀(i:Nat)(e:DataW D)(y:α),elems[i]? =some e->ys[i]? =some y->rel e y
theorem Ti{α:Type}{c:Codec α}{t e:TypeId}{rel:DataW D->α->Prop}(hr:LY enc P W base spare held c e rel)(hpos:0<c.size)(ht:P.underlying t=some (.slice e))(hs:P.cellsOf t=1):
  LY enc P W base spare held (JR c) t (AcD rel):=by
 refine⟨hs,fun n cs x h=>?_⟩
 rcases DataW.trod_slice ht h with⟨rfl,rfl⟩|⟨a,len,cap,elems,rest,m,_,rfl,rfl,hb,hl,hm,hlen,hel,hsp,hns⟩
 ·exact⟨[],HE IsSl.nil,.inl ⟨rfl,rfl⟩⟩
 ·by_cases h0:len=0
  ·subst h0
   have hel0:elems=[]:=List.length_eq_zero_iff.1 hlen
   subst hel0
   exact⟨[],⟨_,rfl,⟨_,cap,rfl,Nat.zero_le _,hm,fun h=>(by cases h),.inl rfl⟩⟩,.inr ⟨[],_,rfl,rfl,fun i e y h=>by simp at h⟩⟩
  ·
   obtain⟨b,off,spot⟩:=a
   have hcell:∀i,i<len->∃ms y ex,elems[i]? =some ex/\ms.length=c.size/\(∀j,j<c.size->W.cell? ((⟨b,off,spot⟩:Addr).add (i* c.size)|>.add j)=ms[j]?)/\c.rep (hv W) ms y/\rel ex.1 y:=by
    intro i hi
    have h1:=hel i hi
    have h2:i<elems.length:=by omega
    rw[List.getElem?_eq_getElem h2,Option.bind_eq_some_iff] at h1
    obtain⟨ms,h3,h4⟩:=h1
    obtain⟨_,h5,h6⟩:=World.cells?_some h3
    obtain⟨y,h7,h8⟩:=hr.2 _ _ _ h4
    rw[hr.1] at h5 h6
    exact⟨ms,y,_,List.getElem?_eq_getElem h2,h5,h6,h7,h8⟩
   have hspot:spot=none:=by
    obtain⟨ms,y,ex,_,h5,h6,_⟩:=hcell 0 (by omega)
    have:=h6 0 hpos
    rw[List.getElem?_eq_getElem (by omega)] at this
    have:=World.cell?_spot this
    simpa[Addr.add] using this
   subst hspot
   have hblock:∃arr T fz,W.heap[b]? =some (.cells arr T fz):=by
    obtain⟨ms,y,ex,_,h5,h6,_⟩:=hcell 0 (by omega)
    have:=h6 0 hpos
    rw[List.getElem?_eq_getElem (by omega)] at this
    simp only[Nat.zero_mul,Addr.add,if_true] at this
    unfold World.cell? at this
    split at this
    ·rename_i arr T fz hh;exact⟨arr,T,fz,hh⟩
    ·cases this
   obtain⟨arr,T,fz,hblk⟩:=hblock
   have key:∀k,k<=len->∃ms ys,ms.length=k* c.size/\(∀j,j<k* c.size->arr[off+j]? =ms[j]?)/\c.reps (hv W) ms ys/\ys.length=k/\∀i e y,i<k->(elems.map (·.1))[i]? =some e->ys[i]? =some y->rel e y:=by
    intro k
    induction k with
    |zero=>intro _;exact⟨[],[],by simp,fun j hj=>by omega,rfl,rfl,fun i e y hi=>by omega⟩
    |succ k ih=>
     intro hk
     obtain⟨ms,ys,h1,h2,h3,h4,h5⟩:=ih (by omega)
     obtain⟨m1,y1,ex,g0,g1,g2,g3,g4⟩:=hcell k (by omega)
     refine⟨ms++m1,ys++[y1],by rw[List.length_append,h1,g1,Nat.succ_mul],fun j hj=>?_,Codec.reps_append h3 (Codec.reps_single.2 g3),by simp[h4],fun i e y hi he hy=>?_⟩
     ·by_cases hjk:j<k* c.size
      ·rw[List.getElem?_append_left (by omega)];exact h2 j hjk
      ·rw[List.getElem?_append_right (by omega),h1]
       rw[Nat.succ_mul] at hj
       have:=g2 (j-k* c.size) (by omega)
       rw[Addr.add_lit,Addr.add_lit,cell_of_row W b _ arr T fz hblk] at this
       rw[<-this];congr 1;omega
     ·by_cases hik:i=k
      ·subst hik
       rw[List.getElem?_append_right (by omega),h4] at hy
       simp at hy
       subst hy
       rw[List.getElem?_map,g0] at he
       simp at he
       subst he
       exact g4
      ·rw[List.getElem?_append_left (by omega)] at hy
       exact h5 i e y (by omega) he hy
   obtain⟨ms,ys,h1,h2,h3,h4,h5⟩:=key len (Nat.le_refl _)
   refine⟨ys,⟨_,rfl,some ⟨b,off,none⟩,cap,by rw[h4],by omega,hm,fun h=>(by cases h),.inr ⟨b,off,arr,T,fz,arr.toList.take off,ms,arr.toList.drop (off+ms.length),rfl,hblk,?_,?_,h3⟩⟩,.inr ⟨elems.map (·.1),_,rfl,by simp[hlen,h4],fun i e y he hy=>h5 i e y (by have:=(List.getElem?_eq_some_iff.1 hy).1;omega) he hy⟩⟩
   ·have hms:ms=(arr.toList.drop off).take ms.length:=by
     apply List.ext_getElem?
     intro j
     by_cases hj:j<ms.length
     ·rw[List.getElem?_take,if_pos hj,List.getElem?_drop,<-h2 j (by omega),Array.getElem?_toList]
     ·rw[List.getElem?_eq_none (by omega),List.getElem?_eq_none (by rw[List.length_take];omega)]
    conv=>lhs;rw[<-List.take_append_drop off arr.toList,<-List.take_append_drop ms.length (arr.toList.drop off),<-hms,List.drop_drop]
   ·rw[List.length_take,Array.length_toList]
    have h6:0<ms.length:=by rw[h1];exact Nat.mul_pos (by omega) hpos
    have:=h2 0 (by omega)
    rw[List.getElem?_eq_getElem h6,Nat.add_zero] at this
    have:=(Array.getElem?_eq_some_iff.1 this).1
    omega
def QO{σ:Type}(enc:TypeId×Value->D)(P:Program)(W:World)(base:Nat)(spare:Nat->Bool)(held:Bool)(fs:List Field)(off:Nat)(c:Codec σ)(rel:List (DataW D)->σ->Prop):Prop:=
 ∀(n:Nat)(cs:List Value)(xs:List (DataW D×List MemPlace)),xs.length=fs.length->(∀(i:Nat)(f:Field),fs[i]? =some f->DataW.trod enc P W base spare held n f.type ((cs.drop f.offset).take (P.cellsOf f.type))=xs[i]?)->
  ∃y,c.rep (hv W) ((cs.drop off).take c.size) y/\rel (xs.map (·.1)) y
theorem Us{α:Type}{c:Codec α}{f:Field}{off:Nat}{rel:DataW D->α->Prop}(hr:LY enc P W base spare held c f.type rel)(ho:f.offset=off):
  QO enc P W base spare held [f] off c (fun ds y=>∃d,ds=[d]/\rel d y):=fun n cs xs hl h=>by
 match xs,hl with
 |[x],_=>
  have h0:=h 0 f rfl
  simp only[List.getElem?_cons_zero] at h0
  obtain⟨y,h1,h2⟩:=hr.2 _ _ _ h0
  rw[hr.1,ho] at h1
  exact⟨y,h1,_,rfl,h2⟩
theorem Mi{α β:Type}{c:Codec α}{d:Codec β}{f:Field}{fs:List Field}{off:Nat}{rel:DataW D->α->Prop}{rel':List (DataW D)->β->Prop}(hr:LY enc P W base spare held c f.type rel)(ho:f.offset=off)
  (hs:QO enc P W base spare held fs (off+c.size) d rel'):QO enc P W base spare held (f::fs) off (Aaa c d) (fun ds y=>∃d ds',ds=d::ds'/\rel d y.1/\rel' ds' y.2):=fun n cs xs hl h=>by
 match xs,hl with
 |x::xs,hl=>
  have h0:=h 0 f rfl
  simp only[List.getElem?_cons_zero] at h0
  obtain⟨y,h1,h2⟩:=hr.2 _ _ _ h0
  rw[hr.1,ho] at h1
  obtain⟨z,h3,h4⟩:=hs n cs xs (by simpa using hl) (fun i g hg=>by simpa using h (i+1) g (by simpa using hg))
  refine⟨(y,z),⟨_,_,?_,h1,h3⟩,_,_,rfl,h2,h4⟩
  show List.take (c.size+d.size) _=_
  rw[List.take_add,List.drop_drop]
def AcE{σ:Type}(rel:List (DataW D)->σ->Prop):DataW D->σ->Prop:=fun d y=>∃ds,d=.agg ds/\rel ds y
theorem Rz{σ:Type}{c:Codec σ}{t:TypeId}{fs:Array Field}{rel:List (DataW D)->σ->Prop}(ht:P.underlying t=some (.struct fs))(hf:QO enc P W base spare held fs.toList 0 c rel)(hs:P.cellsOf t=c.size):
  LY enc P W base spare held c t (AcE rel):=⟨hs,fun n cs x h=>by
 obtain⟨xs,m,_,rfl,hl,hlen,hf'⟩:=DataW.trod_struct ht h
 obtain⟨y,h1,h2⟩:=hf m cs xs (by simpa using hlen) (fun i f hf0=>hf' i f (by simpa using hf0))
 rw[List.drop_zero,List.take_of_length_le (by omega)] at h1
 exact⟨y,h1,_,rfl,h2⟩⟩
theorem QU{α:Type}{c:Codec α}{t:TypeId}{rel:DataW D->α->Prop}(hr:LY enc P W base spare held c t rel){v:Value}{d:DataW D}{ps:List MemPlace}(h:DataW.Trod enc P W base spare held t v d ps):
  ∃y,c.rep (hv W) v.cells.toList y/\rel d y:=by
 obtain⟨n,h⟩:=h
 exact hr.2 _ _ _ h
theorem XR{α:Type}{c:Codec α}{a:Option Addr}{len cap:Nat}{ys:List α}(h:(JR c).rep (hv W) (Value.cells (.slice a len cap)).toList ys):IsSl (hv W) c (.slice a len cap) ys:=Bq h
end
end Go.Vc
namespace Go.Vc
theorem Ae{σ:Type}{rest:σ->Prop}{body:(σ->Prop)->Prop}(h:body rest):Am rest body:=⟨rest,fun _ h=>h,h⟩
def lc:List Int->List Int->Int
 |[],[]=>0
 |[],_::_=>-1
 |_::_,[]=>1
 |x::xs,y::ys=>if x<y then-1 else if y<x then 1 else lc xs ys
theorem JU:∀x,lc x x=0
 |[]=>rfl
 |x::xs=>by simp[lc,JU xs]
theorem SD:∀x y,lc x y=-1\/lc x y=0\/lc x y=1
 |[],[]=>by simp[lc]
 |[],_::_=>by simp[lc]
 |_::_,[]=>by simp[lc]
 |x::xs,y::ys=>by
  simp only[lc];have:=SD xs ys
  split
  ·simp
  ·split
   ·simp
   ·exact this
theorem UB:∀x y,lc y x=-lc x y
 |[],[]=>by simp[lc]
 |[],_::_=>by simp[lc]
 |_::_,[]=>by simp[lc]
 |x::xs,y::ys=>by
  simp only[lc];have:=UB xs ys
  by_cases h1:x<y
  ·rw[if_neg (by omega:¬y<x),if_pos h1,if_pos h1];rfl
  ·by_cases h2:y<x
   ·rw[if_pos h2,if_neg h1,if_pos h2]
   ·rw[if_neg h2,if_neg h1,if_neg h1,if_neg h2];exact this
theorem Tn:∀{x y},lc x y=0->x=y
 |[],[],_=>rfl
 |[],_::_,h=>by simp[lc] at h
 |_::_,[],h=>by simp[lc] at h
 |x::xs,y::ys,h=>by
  simp only[lc] at h
  split at h
  ·simp at h
  ·split at h
   ·simp at h
   ·rw[Tn h,show x=y by omega]
theorem JT:∀{x y z},lc x y<0->lc y z<0->lc x z<0
 |[],_,[],_,h2=>by
  rename_i y h1
  cases y<;>simp[lc] at*
 |[],_,_::_,_,_=>by simp[lc]
 |x::xs,[],z,h1,_=>by simp[lc] at h1
 |x::xs,y::ys,[],_,h2=>by simp[lc] at h2
 |x::xs,y::ys,z::zs,h1,h2=>by
  simp only[lc] at*
  split at h1
  ·split at h2
   ·rw[if_pos (by omega)];simp
   ·split at h2
    ·simp at h2
    ·rw[if_pos (by omega)];simp
  ·split at h1
   ·simp at h1
   ·split at h2
    ·rw[if_pos (by omega)];simp
    ·split at h2
     ·simp at h2
     ·rw[if_neg (by omega),if_neg (by omega)];exact JT h1 h2
theorem Tm{x y z:List Int}(h1:lc x y<=0)(h2:lc y z<=0):lc x z<=0:=by
 by_cases e1:lc x y=0
 ·rw[Tn e1];exact h2
 ·by_cases e2:lc y z=0
  ·rw[<-Tn e2];exact h1
  ·exact Int.le_of_lt (JT (y:=y) (by omega) (by omega))
def XI(x y:List Int):Prop:=∀s t,x++s=y++t->x=y
theorem He:∀{x y:List Int},XI x y->∀s t,lc (x++s) (y++t)=if lc x y=0 then lc s t else lc x y
 |[],[],_,s,t=>by simp[lc]
 |[],y::ys,h,s,t=>by exact absurd (h (y::ys) [] (by simp)) (by simp)
 |x::xs,[],h,s,t=>by exact absurd (h [] (x::xs) (by simp)) (by simp)
 |x::xs,y::ys,h,s,t=>by
  simp only[List.cons_append,lc]
  by_cases h1:x<y
  ·simp[h1]
  ·by_cases h2:y<x
   ·simp[h1,h2]
   ·simp only[if_neg h1,if_neg h2]
    refine He (fun s' t' e=>?_) s t
    have hx:x=y:=by omega
    subst hx
    have:=h s' t' (by simp[e])
    simpa using this
def FR(s:Aa):List Int:=s.map (fun c=>(c.toNat:Int)+1)++[0]
mutual
def enc:Val->List Int
 |.nil=>[0]
 |.truth b=>[1,if b then 1 else 0]
 |.num n=>[2,n]
 |.text s=>3::FR s
 |.atom s=>4::FR s
 |.set l _=>5::(l.length:Int)::Ek l
 |.fn k v _=>6::(k.length:Int)::(Ek k++((v.length:Int)::Ek v))
def Ek:List Val->List Int
 |[]=>[]
 |a::l=>enc a++Ek l
end
mutual
def Hv:Val->Prop
 |.set l h=>h=1+CZ l/\HvL l
 |.fn k v h=>h=1+CZ k+CZ v/\HvL k/\HvL v
 |_=>True
def HvL:List Val->Prop
 |[]=>True
 |a::l=>Hv a/\HvL l
def CZ:List Val->Int
 |[]=>0
 |a::l=>a.weightOf+CZ l
end
theorem HvL_iff:∀{l:List Val},HvL l↔∀a∈l,Hv a
 |[]=>by simp[HvL]
 |a::l=>by simp[HvL,HvL_iff]
theorem HO:∀{x y:Aa}{s t:List Int},FR x++s=FR y++t->x=y/\s=t
 |[],[],s,t,h=>by simpa[FR] using h
 |[],c::y,s,t,h=>by simp[FR] at h;omega
 |c::x,[],s,t,h=>by simp[FR] at h;omega
 |c::x,d::y,s,t,h=>by
  have h':(c.toNat:Int)+1=d.toNat+1/\FR x++s=FR y++t:=by simpa[FR] using h
  obtain⟨rfl,h2⟩:=HO h'.2
  have:c=d:=UInt8.toNat_inj.1 (by omega)
  exact⟨by rw[this],h2⟩
mutual
theorem Rk:∀{a b:Val}{s t:List Int},Hv a->Hv b->enc a++s=enc b++t->a=b/\s=t
 |.nil,b,s,t,ha,hb,h=>by cases b<;>simp[enc] at h ⊢;exact h
 |.truth x,b,s,t,ha,hb,h=>by
  cases b<;>simp[enc] at h ⊢
  rename_i y;cases x<;>cases y<;>simp at h ⊢<;>exact h
 |.num x,b,s,t,ha,hb,h=>by cases b<;>simp[enc] at h ⊢;exact h
 |.text x,b,s,t,ha,hb,h=>by cases b<;>simp only[enc,List.cons_append,List.cons.injEq] at h ⊢<;>first|(exfalso;omega)|(obtain⟨rfl,h2⟩:=HO h.2;exact⟨rfl,h2⟩)
 |.atom x,b,s,t,ha,hb,h=>by cases b<;>simp only[enc,List.cons_append,List.cons.injEq] at h ⊢<;>first|(exfalso;omega)|(obtain⟨rfl,h2⟩:=HO h.2;exact⟨rfl,h2⟩)
 |.set l w,b,s,t,ha,hb,h=>by
  cases b<;>simp only[enc,List.cons_append,List.cons.injEq] at h<;>first|(exfalso;omega)|skip
  rename_i l' w'
  obtain⟨_,h1,h2⟩:=h
  obtain⟨e,h3⟩:=HY (by omega) ha.2 hb.2 h2
  subst e
  exact⟨by rw[show w=w' by rw[ha.1,hb.1]],h3⟩
 |.fn k v w,b,s,t,ha,hb,h=>by
  cases b<;>simp only[enc,List.cons_append,List.cons.injEq,List.append_assoc] at h<;>first|(exfalso;omega)|skip
  rename_i k' v' w'
  obtain⟨_,h1,h2⟩:=h
  obtain⟨e,h3⟩:=HY (by omega) ha.2.1 hb.2.1 h2
  subst e
  simp only[List.cons_append,List.cons.injEq] at h3
  obtain⟨e,h4⟩:=HY (by omega) ha.2.2 hb.2.2 h3.2
  subst e
  exact⟨by rw[show w=w' by rw[ha.1,hb.1]],h4⟩
theorem HY:∀{a b:List Val}{s t:List Int},a.length=b.length->HvL a->HvL b->Ek a++s=Ek b++t->a=b/\s=t
 |[],b,s,t,hl,ha,hb,h=>by
  cases b with
  |nil=>exact⟨rfl,by simpa[Ek] using h⟩
  |cons=>simp at hl
 |x::a,b,s,t,hl,ha,hb,h=>by
  cases b with
  |nil=>simp at hl
  |cons y b=>
   simp only[Ek,List.append_assoc] at h
   obtain⟨e,h2⟩:=Rk ha.1 hb.1 h
   obtain⟨e2,h3⟩:=HY (by simpa using hl) ha.2 hb.2 h2
   exact⟨by rw[e,e2],h3⟩
end
end Go.Vc
namespace Go.Vc
theorem Tz{a b:Val}(ha:Hv a)(hb:Hv b):XI (enc a) (enc b):=fun s t h=>by rw[(Rk ha hb h).1]
theorem WU{x y:Aa}:XI (FR x) (FR y):=fun s t h=>by rw[(HO h).1]
def AK(a b:Val):Int:=lc (enc a) (enc b)
theorem En(a:Val):AK a a=0:=JU _
theorem BK(a b:Val):AK b a=-AK a b:=UB _ _
theorem NM(a b:Val):AK a b=-1\/AK a b=0\/AK a b=1:=SD _ _
theorem Gf{a b:Val}(ha:Hv a)(hb:Hv b)(h:AK a b=0):a=b:=(Rk (s:=[]) (t:=[]) ha hb (by rw[Tn h])).1
theorem DL{a b c:Val}(h1:AK a b<0)(h2:AK b c<0):AK a c<0:=JT h1 h2
theorem Cp{a b c:Val}(h1:AK a b<=0)(h2:AK b c<=0):AK a c<=0:=Tm h1 h2
def cI(x y:Int):Int:=if x<y then-1 else if y<x then 1 else 0
def cS(x y:Aa):Int:=if MJ x y then-1 else if x=y then 0 else 1
theorem Hz(x y:Int)(s t:List Int):lc (x::s) (y::t)=if cI x y=0 then lc s t else cI x y:=by
 simp only[lc,cI];split
 ·simp
 ·split<;>simp
theorem KX:∀x y:Aa,lc (FR x) (FR y)=cS x y
 |[],[]=>by simp[FR,lc,cS,MJ,Op.bytesLess]
 |[],c::y=>by
  have:(0:Int)<(c.toNat:Int)+1:=by omega
  simp[FR,lc,cS,MJ,Op.bytesLess,this]
 |c::x,[]=>by
  have:(0:Int)<(c.toNat:Int)+1:=by omega
  have h2:¬(c.toNat:Int)+1<0:=by omega
  simp[FR,lc,cS,MJ,Op.bytesLess,this,h2]
 |c::x,d::y=>by
  have ih:=KX x y
  have e:lc (FR (c::x)) (FR (d::y))=if(c.toNat:Int)+1<d.toNat+1 then-1 else if(d.toNat:Int)+1<c.toNat+1 then 1 else lc (FR x) (FR y):=by simp[FR,lc]
  rw[e,ih]
  simp only[cS,MJ,Op.bytesLess]
  by_cases h1:c<d
  ·have:c.toNat<d.toNat:=h1
   rw[if_pos (by omega)];simp[h1]
  ·by_cases h2:d<c
   ·have:d.toNat<c.toNat:=h2
    have hne:c≠d:=by rintro rfl;omega
    rw[if_neg (by omega),if_pos (by omega)];simp[h1,hne]
   ·have h3:¬c.toNat<d.toNat:=h1
    have h4:¬d.toNat<c.toNat:=h2
    have:c=d:=UInt8.toNat_inj.1 (by omega)
    subst this
    simp only[h1,if_neg h3,Nat.lt_irrefl,Int.lt_irrefl,if_false,beq_self_eq_true,Bool.true_and,decide_false,Bool.false_or,List.cons.injEq,true_and]
    by_cases hx:x=y<;>simp[hx]
theorem Mt{x y:Int}(h:cI x y=0):x=y:=by
 unfold cI at h;split at h
 ·simp at h
 ·split at h
  ·simp at h
  ·omega
theorem VC{v:Val}{Q:Int->Prop}(h:Q v.rankOf):Nr v Q:=by
 cases v<;>simpa[Nr,Rj,Rr,Rs,Rg,RA,Qy,QF,Val.isNil,Val.rankOf] using h
theorem Jh{v:Val}{Q:Int->Prop}(h:Q v.weightOf):Eb v Q:=by
 cases v<;>simp[Eb,LB,KZ,LC,Lq,Lk,LM,LF,Val.isNil,Val.weightOf,Val.isSet,Val.isFn,Val.setH,Val.fnH] at h ⊢<;>first|exact h|exact fun _=>h
theorem Vr{x y:Int}{Q:Int->Prop}(h:Q (cI x y)):Oe x y Q:=by
 unfold cI at h;simp only[Oe,Mw,ne_eq,not_true_eq_false,decide_false];simp
 refine⟨fun h1=>by simpa[h1] using h,fun h1=>⟨fun h2=>?_,fun h2=>?_⟩⟩
 ·simpa[show¬x<y by omega,h2] using h
 ·simpa[show¬x<y by omega,show¬y<x by omega] using h
theorem Abi{x y:Int}{Q:Int->Prop}(h:Q (cI x y)):Qm x y Q:=by
 unfold cI at h;simp only[Qm,JX,ne_eq,not_true_eq_false,decide_false];simp
 refine⟨fun h1=>by simpa[h1] using h,fun h1=>⟨fun h2=>?_,fun h2=>?_⟩⟩
 ·simpa[show¬x<y by omega,h2] using h
 ·simpa[show¬x<y by omega,show¬y<x by omega] using h
theorem Abe{x y:Aa}{Q:Int->Prop}(h:Q (cS x y)):RM x y Q:=by
 unfold cS at h;simp only[RM,Kn,ne_eq,not_true_eq_false,decide_false]
 cases h1:MJ x y<;>by_cases h2:x=y<;>simp_all
theorem AbA{x y:Aa}{Q:Int->Prop}(h:Q (cS x y)):Qq x y Q:=by
 unfold cS at h;simp only[Qq,Kp,ne_eq,not_true_eq_false,decide_false]
 cases h1:MJ x y<;>by_cases h2:x=y<;>simp_all
theorem Yz{x y:Int}{Q:Int->Prop}(h:Q (if x=0 then y else x)):Qv [x,y] Q:=by
 intro _
 refine⟨fun k=>k=0\/(k=1/\x=0)\/(k=2/\x=0/\y=0),fun k=>(2-k).toNat,Or.inl rfl,?_⟩
 rintro k(rfl|⟨rfl,hx⟩|⟨rfl,hx,hy⟩)
 ·refine⟨fun _=>⟨⟨by simp,by simp⟩,fun _=>⟨fun hn=>?_,fun hn=>⟨by simp[I64],?_⟩⟩⟩,fun hn=>absurd hn (by simp)⟩
  ·simp[ix] at hn ⊢;simpa[hn] using h
  ·simp[ix] at hn;exact⟨Or.inr (Or.inl ⟨by simp,hn⟩),by simp⟩
 ·refine⟨fun _=>⟨⟨by simp,by simp⟩,fun _=>⟨fun hn=>?_,fun hn=>⟨by simp[I64],?_⟩⟩⟩,fun hn=>absurd hn (by simp)⟩
  ·simp[ix] at hn ⊢;simpa[hx] using h
  ·simp[ix] at hn;exact⟨Or.inr (Or.inr ⟨by simp,hx,hn⟩),by simp⟩
 ·exact⟨fun hn=>absurd hn (by simp),fun _=>by simpa[hx,hy] using h⟩
theorem Az{α:Type}[Inhabited α]{l:List α}{i:Int}(h0:0<=i)(h1:i<l.length):ix l i∈l:=by
 have:=CJ h0 h1;exact List.mem_of_getElem? this
theorem Cm{α:Type}[Inhabited α]{l:List α}{i:Int}(h0:0<=i)(h1:i<l.length):l.drop i.toNat=ix l i::l.drop (i+1).toNat:=by
 have h2:i.toNat<l.length:=by omega
 have:(i+1).toNat=i.toNat+1:=by omega
 rw[List.drop_eq_getElem_cons h2,this]
 simp[ix,h2]
theorem NV{G:Val->Val->(Int->Prop)->Prop}{a b:List Val}{Q:Int->Prop}(hl:a.length=b.length)(ha:HvL a)(hb:HvL b)
  (hG:∀x∈a,∀y∈b,∀Q,Q (AK x y)->G x y Q)(h:Q (lc (Ek a) (Ek b))):Gq G a b Q:=by
 intro hL
 refine⟨fun k=>0<=k/\k<=a.length/\lc (Ek (a.drop k.toNat)) (Ek (b.drop k.toNat))=lc (Ek a) (Ek b),fun k=>(a.length-k).toNat,⟨by simp,by simp,by simp⟩,?_⟩
 show∀k:Int,_->_
 rintro k⟨k0,k1,k2⟩
 refine⟨fun hk=>⟨⟨k0,hk⟩,fun _=>⟨fun hn=>absurd hn (by omega),fun _=>⟨⟨k0,by omega⟩,?_⟩⟩⟩,fun hn _ _=>⟨fun hn=>absurd hn (by omega),fun _=>?_⟩⟩
 ·have ma:=Az k0 hk;have mb:=Az (l:=b) k0 (by omega)
  refine hG _ ma _ mb _ ?_
  rw[Cm k0 hk,Cm (l:=b) k0 (by omega)] at k2
  simp only[Ek] at k2
  rw[He (Tz (HvL_iff.1 ha _ ma) (HvL_iff.1 hb _ mb))] at k2
  refine⟨fun hn=>?_,fun hn=>⟨by unfold I64;unfold Len at hL;omega,⟨by omega,by omega,?_⟩,by show(_:Int).toNat<(_:Int).toNat;omega⟩⟩
  ·unfold AK at hn ⊢;rw[if_neg hn] at k2;rw[k2];exact h
  ·have hn:lc (enc (ix a k)) (enc (ix b k))=0:=by simpa[AK] using hn
   rw[if_pos hn] at k2;exact k2
 ·have:k=a.length:=by omega
  subst this
  rw[List.drop_of_length_le (by simp),List.drop_of_length_le (by simp;omega)] at k2
  rw[<-k2] at h;simpa[Ek,lc] using h
def HH(a b:List Val):Int:=lc ((a.length:Int)::Ek a) ((b.length:Int)::Ek b)
theorem Ie{G:Val->Val->(Int->Prop)->Prop}{a b:List Val}{Q:Int->Prop}(ha:HvL a)(hb:HvL b)
  (hG:∀x∈a,∀y∈b,∀Q,Q (AK x y)->G x y Q)(h:Q (HH a b)):FV G a b Q:=by
 intro _ _
 unfold HH at h;rw[Hz] at h
 refine Vr ⟨fun hn=>by simpa[hn] using h,fun hn=>?_⟩
 have hn:cI a.length b.length=0:=by simpa using hn
 rw[if_pos hn] at h
 have hl:a.length=b.length:=by have:=Mt hn;omega
 exact NV hl ha hb hG h
theorem ZS{a b:List Val}(ha:HvL a)(hb:HvL b):XI ((a.length:Int)::Ek a) ((b.length:Int)::Ek b):=fun s t h=>by
 simp only[List.cons_append,List.cons.injEq] at h
 rw[(HY (by omega) ha hb h.2).1]
mutual
def Val.sz:Val->Nat
 |.set l _=>szL l+1
 |.fn k v _=>szL k+szL v+1
 |_=>1
def szL:List Val->Nat
 |[]=>0
 |a::l=>a.sz+szL l+1
end
theorem MD:∀{l:List Val}{a:Val},a∈l->a.sz<szL l
 |b::l,a,h=>by
  rcases List.mem_cons.1 h with rfl|h
  ·simp[szL];omega
  ·have:=MD h;simp[szL];omega
theorem FK{a:Val}{l:List Val}{w:Int}(h:a∈l):a.sz<(Val.set l w).sz:=by
 have:=MD h;simp[Val.sz];omega
theorem Iy{a:Val}{k v:List Val}{w:Int}(h:a∈k):a.sz<(Val.fn k v w).sz:=by
 have:=MD h;simp[Val.sz];omega
theorem EP{a:Val}{k v:List Val}{w:Int}(h:a∈v):a.sz<(Val.fn k v w).sz:=by
 have:=MD h;simp[Val.sz];omega
theorem CM:∀(m:Nat){a b:Val}{Q:Int->Prop},a.sz<m->Hv a->Hv b->Q (AK a b)->BF m a b Q
 |0,_,_,_,h,_,_,_=>absurd h (by omega)
 |m+1,a,b,Q,hm,ha,hb,h=>by
  unfold BF
  refine VC (VC (Vr (Ae ?_)))
  by_cases hr:cI a.rankOf b.rankOf=0
  ·refine⟨fun hn=>absurd hr hn,fun hq=>?_⟩
   have hr2:a.rankOf=b.rankOf:=Mt hr
   cases a<;>cases b<;>simp[Val.rankOf] at hr2<;>simp only[Val.isNil,Val.isTruth,Val.isNum,Val.isText,Val.isAtom,Val.isSet,Val.isFn,Val.truthD,Val.numD,Val.textD,Val.atomD,Val.setL,Val.fnK,Val.fnV,true_implies,false_implies,reduceCtorEq,and_true,true_and,hr]
   ·simpa[AK,JU] using h
   ·rename_i x y;cases x<;>cases y<;>simpa[AK,enc,lc] using h
   ·refine Abi ?_;rename_i x y;simpa[AK,enc,lc,cI] using h
   ·refine Abe ?_;rename_i x y;rw[<-KX];simpa[AK,enc,lc] using h
   ·refine AbA ?_;rename_i x y;rw[<-KX];simpa[AK,enc,lc] using h
   ·rename_i l w l' w'
    refine Ie ha.2 hb.2 (fun x hx y hy Q hQ=>CM m ?_ (HvL_iff.1 ha.2 _ hx) (HvL_iff.1 hb.2 _ hy) hQ) ?_
    ·have:=FK (w:=w) hx;omega
    ·unfold HH;simpa[AK,enc,lc] using h
   ·rename_i k v w k' v' w'
    refine Ie ha.2.1 hb.2.1 (fun x hx y hy Q hQ=>CM m ?_ (HvL_iff.1 ha.2.1 _ hx) (HvL_iff.1 hb.2.1 _ hy) hQ) (Ie ha.2.2 hb.2.2 (fun x hx y hy Q hQ=>CM m ?_ (HvL_iff.1 ha.2.2 _ hx) (HvL_iff.1 hb.2.2 _ hy) hQ) (Yz ?_))
    ·have:=Iy (v:=v) (w:=w) hx;omega
    ·have:=EP (k:=k) (w:=w) hx;omega
    ·have e:AK (.fn k v w) (.fn k' v' w')=if HH k k'=0 then HH v v' else HH k k':=by
      unfold AK HH;simp only[enc]
      have:=He (ZS ha.2.1 hb.2.1) ((v.length:Int)::Ek v) ((v'.length:Int)::Ek v')
      rw[<-this];simp[lc]
     rw[e] at h;exact h
  ·refine⟨fun _=>⟨fun _=>?_,fun hn=>absurd hn (by simp)⟩,fun hn=>absurd hr hn⟩
   have e:AK a b=cI a.rankOf b.rankOf:=by
    unfold AK
    cases a<;>cases b<;>simp only[enc,Hz,Val.rankOf] at hr ⊢<;>first|(rw[if_neg hr])|(exact absurd rfl hr)
   rw[e] at h;exact h
end Go.Vc
namespace Go.Vc
def Sq:Nat->Nat->Aa
 |0,_=>[]
 |f+1,n=>if n<10 then[UInt8.ofNat (48+n)] else Sq f (n/10)++[UInt8.ofNat (48+n%10)]
def Hf(n:Int):Aa:=if n<0 then 45::Sq 20 n.natAbs else Sq 20 n.natAbs
def Df:List Aa->Aa
 |[]=>[]
 |a::l=>44::32::(a++Df l)
def Bo:List Aa->Aa
 |[]=>[]
 |a::l=>a++Df l
def CE(k v:List Aa):List Aa:=List.zipWith (fun a b=>a++58::32::b) k v
def EE:Int->List Val->Bool
 |_,[]=>true
 |i,.num n::l=>decide (n=i)&&EE (i+1) l
 |_,_::_=>false
mutual
def AM:Val->Aa
 |.nil=>[110,105,108]
 |.truth b=>if b then[116,114,117,101] else[102,97,108,115,101]
 |.num n=>Hf n
 |.text s=>34::(s++[34])
 |.atom s=>s
 |.set l _=>123::(Bo (AG l)++[125])
 |.fn k v _=>if EE 1 k then 60::60::(Bo (AG v)++[62,62]) else 91::(Bo (CE (AG k) (AG v))++[93])
def AG:List Val->List Aa
 |[]=>[]
 |a::l=>AM a::AG l
end
theorem Bv:∀l,AG l=l.map AM
 |[]=>rfl
 |a::l=>by simp[AG,Bv l]
theorem Bm(l:List Val):(AG l).length=l.length:=by simp[Bv]
theorem Lx:∀a b,Df (a++b)=Df a++Df b
 |[],b=>by simp[Df]
 |x::a,b=>by simp[Df,Lx a b]
theorem Nt(l:List Aa)(a:Aa):Bo (l++[a])=if l=[] then a else Bo l++44::32::a:=by
 cases l with
 |nil=>simp[Bo,Df]
 |cons x l=>simp[Bo,Lx,Df]
theorem Ew(l:List Aa)(k:Nat):(Bo (l.take k)).length<=(Bo l).length:=by
 cases l with
 |nil=>simp[Bo]
 |cons x l=>
  cases k with
  |zero=>simp[Bo]
  |succ k=>
   have:Df l=Df (l.take k)++Df (l.drop k):=by rw[<-Lx,List.take_append_drop]
   simp only[List.take_succ_cons,Bo,this,List.length_append];omega
theorem Fe{k:Nat}(h:k<=1000000000):AY k 1:=⟨by omega,by unfold maxLen;omega⟩
theorem AV{α:Type}[Inhabited α]{l:List α}{i:Int}(h0:0<=i)(h1:i<l.length):l.take (i+1).toNat=l.take i.toNat++[ix l i]:=by
 have h2:i.toNat<l.length:=by omega
 have:(i+1).toNat=i.toNat+1:=by omega
 rw[this,List.take_add_one];simp[ix,h2]
theorem JO{A:Aa->Int->(Aa->Prop)->Prop}{strs:List Aa}{b0:Aa}{n:Int}{Q:Aa->Prop}(hn:n=strs.length)(hlen:n<=1000000000)
  (hA:∀i b Q,0<=i->i<n->b.length+(ix strs i).length<=900000000->Q (b++ix strs i)->A b i Q)(hb:b0.length+(Bo strs).length<=900000000)(hQ:Q (b0++Bo strs)):
  Ay (σ:=Aa×Int) (b0,(0:Int)) fun(b_48,x_52)xnext_87=>
   (x_52<n->
   Am (σ:=Aa) (fun b_97=>
    A b_97 x_52 fun r_110=>
    I64 (x_52+(1:Int))/\
    xnext_87 (r_110,(x_52+(1:Int)))) fun J_101=>
    ((0:Int)<x_52->
    AY (b_48.length+([44,32]:Aa).length) 1/\
    J_101 (b_48++([44,32]:Aa)))/\
    (¬((0:Int)<x_52)->
    J_101 b_48))/\
   (¬(x_52<n)->
   Q b_48):=by
 refine⟨fun s=>0<=s.2/\s.2<=n/\s.1=b0++Bo (strs.take s.2.toNat),fun s=>(n-s.2).toNat,⟨by simp,by simp;omega,by simp[Bo]⟩,?_⟩
 rintro⟨b,k⟩⟨k0,k1,e⟩
 simp only at k0 k1 e
 subst e
 refine⟨fun hk=>Ae ?_,fun hk=>?_⟩
 ·have hk2:k<(strs.length:Int):=by omega
  have e1:=AV k0 hk2
  have e2:=Nt (strs.take k.toNat) (ix strs k)
  have e3:=Ew strs (k+1).toNat
  have e4:=Ew strs k.toNat
  rw[e1,e2] at e3
  have hz:strs.take k.toNat=[]↔¬0<k:=by
   rw[List.take_eq_nil_iff];constructor
   ·rintro(h|h)
    ·omega
    ·subst h;simp at hk2;omega
   ·intro h;left;omega
  refine⟨fun h0=>⟨Fe (by simp;omega),?_⟩,fun h0=>?_⟩
  ·have hne:¬strs.take k.toNat=[]:=fun h=>(hz.1 h) h0
   rw[if_neg hne] at e2 e3
   simp at e3
   refine hA k _ _ k0 hk (by simp;omega) ⟨by unfold I64;omega,⟨by omega,by show k+1<=n;omega,?_⟩,by show(_:Int).toNat<(_:Int).toNat;omega⟩
   show _=b0++Bo (strs.take (k+1).toNat)
   rw[e1,e2];simp
  ·have hne:=hz.2 h0
   rw[if_pos hne] at e2 e3
   refine hA k _ _ k0 hk (by rw[hne];simp[Bo];omega) ⟨by unfold I64;omega,⟨by omega,by show k+1<=n;omega,?_⟩,by show(_:Int).toNat<(_:Int).toNat;omega⟩
   show _=b0++Bo (strs.take (k+1).toNat)
   rw[e1,e2,hne];simp[Bo]
 ·have:k=n:=by omega
  subst this
  rw[hn,List.take_of_length_le (by simp)] at*;exact hQ
theorem Pj{l:List Val}{i:Int}(h0:0<=i)(h1:i<l.length){j:Int}:EE j (l.drop i.toNat)=((ix l i).isNum&&decide ((ix l i).numD=j)&&EE (j+1) (l.drop (i+1).toNat)):=by
 rw[Cm h0 h1]
 cases ix l i<;>first|rfl|simp[EE,Val.isNum,Val.numD]
theorem Jn{k:List Val}{Q:Bool->Prop}(h:Q (EE 1 k)):Fo k Q:=by
 intro hL
 refine⟨fun i=>0<=i/\i<=k.length/\EE (i+1) (k.drop i.toNat)=EE 1 k,fun i=>(k.length-i).toNat,⟨by simp,by simp,by simp⟩,?_⟩
 show∀i:Int,_->_
 rintro i⟨i0,i1,e⟩
 unfold Len at hL
 refine⟨fun hi=>⟨⟨i0,hi⟩,Ae ?_⟩,fun hi=>?_⟩
 ·rw[Pj i0 hi] at e
  refine⟨fun hn=>⟨fun _=>?_,fun hn=>by simp at hn⟩,fun hn=>⟨by unfold I64;omega,fun hd=>?_,fun hd=>⟨by unfold I64;omega,⟨by omega,by omega,?_⟩,by show(_:Int).toNat<(_:Int).toNat;omega⟩⟩⟩
  ·simp at hn;rw[<-e] at h;simpa[hn] using h
  ·simp at hd;rw[<-e] at h;simpa[hd] using h
  ·simp at hd hn;rw[<-e];simp[hd,hn]
 ·rw[List.drop_of_length_le (by omega)] at e
  rw[<-e] at h;simpa[EE] using h
mutual
def Ev:Val->Prop
 |.set l _=>EvL l
 |.fn k v _=>k.length=v.length/\EvL k/\EvL v
 |.num n=>I64 n
 |_=>True
def EvL:List Val->Prop
 |[]=>True
 |a::l=>Ev a/\EvL l
end
theorem EvL_iff:∀{l:List Val},EvL l↔∀a∈l,Ev a
 |[]=>by simp[EvL]
 |a::l=>by simp[EvL,EvL_iff]
theorem EW{α β:Type}[Inhabited α][Inhabited β]{l:List α}{f:α->β}{i:Int}(h0:0<=i)(h1:i<l.length):ix (l.map f) i=f (ix l i):=by
 have h2:i.toNat<l.length:=by omega
 simp[ix,h2]
theorem Ss{k v:List Aa}{i:Int}(h0:0<=i)(h1:i<k.length)(h2:i<v.length):ix (CE k v) i=ix k i++58::32::ix v i:=by
 have h3:i.toNat<k.length:=by omega
 have h4:i.toNat<v.length:=by omega
 simp[ix,CE,List.getElem?_zipWith,h3,h4]
theorem GY:∀{l:List Aa}{a:Aa},a∈l->a.length<=(Bo l).length
 |x::l,a,h=>by
  simp only[Bo,List.length_append]
  rcases List.mem_cons.1 h with rfl|h
  ·omega
  ·have:∀{l:List Aa},a∈l->a.length<=(Df l).length:=by
    intro l;induction l with
    |nil=>simp
    |cons y l ih=>
     intro h;simp only[Df,List.length_cons,List.length_append]
     rcases List.mem_cons.1 h with rfl|h
     ·omega
     ·have:=ih h;omega
   have:=this h;omega
theorem PJ:∀(l:List Aa),2* l.length<=(Df l).length
 |[]=>by simp
 |a::l=>by have:=PJ l;simp[Df];omega
theorem Fz(l:List Aa):2* l.length<=(Bo l).length+2:=by
 cases l with
 |nil=>simp
 |cons a l=>have:=PJ l;simp[Bo];omega
theorem NT:∀f n,(Sq f n).length<=f
 |0,n=>by simp[Sq]
 |f+1,n=>by
  have:=NT f (n/10)
  simp only[Sq];split<;>simp<;>omega
theorem Ow:∀(f n:Nat),n<10^f->0<f->Sq f n=Lib.decDigits n
 |0,n,h,h0=>absurd h0 (by omega)
 |f+1,n,h,_=>by
  unfold Sq
  rw[Lib.decDigits]
  split
  ·rfl
  ·have h2:n/10<10^f:=by rw[Nat.pow_succ] at h;omega
   have hf:0<f:=by
    cases f with
    |zero=>simp at h2;omega
    |succ f=>omega
   rw[Ow f _ h2 hf]
theorem Tf{n:Int}(h0:n<0)(h1:-9223372036854775808<=n):IntKind.u64.wrap (-(IntKind.u64.wrap n))=-n:=by
 simp only[IntKind.wrap,IntKind.bits,IntKind.signed];simp;omega
theorem XG{b:Aa}{n:Int}{Q:Aa->Prop}(hn:I64 n)(hb:b.length<=900000000)(h:Q (b++Hf n)):Ng b n 10 Q:=by
 unfold I64 at hn
 unfold Hf at h
 have hd:=Ow 20 n.natAbs (by omega) (by omega)
 refine Ae ⟨fun hneg=>⟨Fe (by simp;omega),rfl,by simp;omega,?_⟩,fun hneg=>⟨rfl,by simp;omega,?_⟩⟩
 ·rw[if_pos hneg,hd] at h
  rw[Tf hneg (by omega),show(-n).toNat=n.natAbs by omega]
  simpa[u8] using h
 ·rw[if_neg hneg,hd] at h
  rw[IntWalk.u64_in _ ⟨by omega,by omega⟩,show n.toNat=n.natAbs by omega]
  exact h
theorem NC:∀(m:Nat){v:Val}{b:Aa}{Q:Aa->Prop},v.sz<m->Ev v->b.length+(AM v).length<=900000000->Q (b++AM v)->Ko m v b Q
 |0,_,_,_,h,_,_,_=>absurd h (by omega)
 |m+1,v,b,Q,hm,he,hb,h=>by
  unfold Ko
  cases v with
  |nil=>exact⟨fun _=>⟨Fe (by simp[AM] at hb ⊢;omega),by simpa[AM] using h⟩,fun hn=>by simp[Val.isNil] at hn⟩
  |truth t=>
   refine⟨fun hn=>by simp[Val.isNil] at hn,fun _=>?_⟩
   cases t
   ·exact⟨fun hn=>by simp at hn,fun _=>⟨Fe (by simp[AM] at hb ⊢;omega),by simpa[AM] using h⟩⟩
   ·exact⟨fun _=>⟨Fe (by simp[AM] at hb ⊢;omega),by simpa[AM] using h⟩,fun hn=>by simp at hn⟩
  |num n=>exact⟨fun hn=>by simp[Val.isNil] at hn,fun _=>XG he (by omega) (by simpa[AM] using h)⟩
  |text s=>
   simp[AM] at hb
   exact⟨fun hn=>by simp[Val.isNil] at hn,fun _=>⟨Fe (by simp;omega),Fe (by simp;omega),Fe (by simp;omega),by simpa[AM,u8] using h⟩⟩
  |atom s=>simp[AM] at hb;exact⟨fun hn=>by simp[Val.isNil] at hn,fun _=>⟨Fe (by omega),by simpa[AM] using h⟩⟩
  |set l w=>
   simp[AM] at hb
   refine⟨fun hn=>by simp[Val.isNil] at hn,fun _=>⟨Fe (by simp;omega),rfl,fun hL=>?_⟩⟩
   have hl:=Fz (AG l);rw[Bm] at hl
   unfold KW
   refine JO (A:=fun b i Q=>Nl (Ko m) b i (.set l w) Q) (n:=(l.length:Int)) (b0:=b++[123]) (Q:=fun r=>AY (r.length+1) 1/\Q (r++[125])) (strs:=AG l) (by simp[Bm]) (by omega) (fun i b Q i0 i1 hi hQ=>?_) (by simp;omega) ⟨Fe (by simp;omega),?_⟩
   ·have i2:i<(l.length:Int):=i1
    have me:=Az i0 i2
    refine⟨rfl,⟨i0,i1⟩,?_⟩
    rw[Bv,EW i0 i2] at hi hQ
    exact NC m (by have:=FK (w:=w) me;show(ix l i).sz<m;omega) (EvL_iff.1 he _ me) hi hQ
   ·simpa[AM,u8] using h
  |fn k v w=>
   simp only[AM] at hb h
   obtain⟨he1,he2,he3⟩:=he
   refine⟨fun hn=>by simp[Val.isNil] at hn,fun _=>⟨rfl,Jn ⟨fun hs=>?_,fun hs=>?_⟩⟩⟩
   ·have hs:EE 1 k=true:=hs
    rw[if_pos hs] at hb h
    simp at hb
    refine⟨Fe (by simp;omega),rfl,fun hL=>?_⟩
    have hl:=Fz (AG v);rw[Bm] at hl
    unfold Jw
    refine JO (A:=fun b i Q=>Nz (Ko m) b i (.fn k v w) Q) (n:=(v.length:Int)) (b0:=b++[60,60]) (Q:=fun r=>AY (r.length+2) 1/\Q (r++[62,62])) (strs:=AG v) (by simp[Bm]) (by omega) (fun i b Q i0 i1 hi hQ=>?_) (by simp;omega) ⟨Fe (by simp;omega),?_⟩
    ·have i2:i<(v.length:Int):=i1
     have me:=Az i0 i2
     refine⟨rfl,⟨i0,i1⟩,?_⟩
     rw[Bv,EW i0 i2] at hi hQ
     exact NC m (by have:=EP (k:=k) (w:=w) me;show(ix v i).sz<m;omega) (EvL_iff.1 he3 _ me) hi hQ
    ·simpa using h
   ·have hs:EE 1 k=false:=hs
    rw[if_neg (by simp[hs])] at hb h
    simp at hb
    refine⟨Fe (by simp;omega),rfl,fun hL=>?_⟩
    have hl:=Fz (CE (AG k) (AG v))
    have hpl:(CE (AG k) (AG v)).length=k.length:=by simp[CE,Bm,he1]
    unfold Jy
    refine JO (A:=fun b i Q=>Nj (Ko m) b i (.fn k v w) Q) (n:=(k.length:Int)) (b0:=b++[91]) (Q:=fun r=>AY (r.length+1) 1/\Q (r++[93])) (strs:=CE (AG k) (AG v)) (by simp[hpl]) (by omega) (fun i b Q i0 i1 hi hQ=>?_) (by simp;omega) ⟨Fe (by simp;omega),?_⟩
    ·have i2:i<(k.length:Int):=i1
     have i3:i<(v.length:Int):=by omega
     have mk:=Az i0 i2;have mv:=Az i0 i3
     refine⟨rfl,⟨i0,i3⟩,rfl,⟨i0,i2⟩,?_⟩
     rw[Ss i0 (by simp[Bm];omega) (by simp[Bm];omega),Bv,Bv,EW i0 i2,EW i0 i3] at hi hQ
     simp at hi
     refine NC m (by have:=Iy (v:=v) (w:=w) mk;show(ix k i).sz<m;omega) (EvL_iff.1 he2 _ mk) (by simp[Val.fnK];omega) ⟨Fe (by simp[Val.fnK];omega),?_⟩
     refine NC m (by have:=EP (k:=k) (w:=w) mv;show(ix v i).sz<m;omega) (EvL_iff.1 he3 _ mv) (by simp[Val.fnK,Val.fnV];omega) ?_
     simpa[Val.fnK,Val.fnV] using hQ
    ·simpa[u8] using h
theorem Vj{v:Val}{Q:Aa->Prop}(he:Ev v)(hl:(AM v).length<=900000000)(h:Q (AM v)):NN v Q:=⟨v.sz+1,NC _ (by omega) he (by simpa using hl) (by simpa using h)⟩
end Go.Vc
namespace Go.Vc
def BD(c:UInt8):Bool:=(97<=c&&c<=122)||(65<=c&&c<=90)||(48<=c&&c<=57)||c==95
def words:List Aa:=[[109,111,100,117,108,101],[99,111,110,115,116,97,110,116],[97,116,111,109,115],[115,121,109,109,101,116,114,105,99],[118,97,114,105,97,98,108,101],[100,101,102,105,110,101],[105,110,105,116],[97,99,116,105,111,110],[102,97,105,114],[119,101,97,107],[115,116,114,111,110,103],[105,110,118,97,114,105,97,110,116],[112,114,111,112,101,114,116,121],[97,110,100],[111,114],[110,111,116],[105,109,112,108,105,101,115],[105,102,102],[105,110],[117,110,105,111,110],[105,110,116,101,114],[109,105,110,117,115],[115,117,98,115,101,116],[112,111,119,101,114,115,101,116],[102,108,97,116,116,101,110],[100,111,109,97,105,110],[117,110,99,104,97,110,103,101,100],[101,110,97,98,108,101,100],[97,108,119,97,121,115],[101,118,101,110,116,117,97,108,108,121],[117,110,116,105,108],[108,101,97,100,115,116,111],[99,104,111,111,115,101],[97,108,108],[115,111,109,101],[101,97,99,104],[116,104,111,115,101],[102,117,110],[105,102],[116,104,101,110],[101,108,115,101],[108,101,116],[110,105,108],[116,114,117,101],[102,97,108,115,101],[115,105,122,101],[108,101,110],[104,101,97,100],[116,97,105,108],[97,112,112,101,110,100],[118,97,108,117,101,115],[115,101,113,115]]
def AcI(s:Aa):Prop:=(∃c r,s=c::r/\¬(48<=c/\c<=57)/\c≠95)/\(∀c∈s,BD c=true)/\s.length<=16/\s∉words
def Aad(s:Aa):Prop:=∀c∈s,32<=c/\c<=126/\c≠92/\c≠34
def Ih(l:List Val):Prop:=l.Pairwise fun a b=>AK a b<0
mutual
def Fit:Val->Prop
 |.nil=>True
 |.truth _=>True
 |.num n=>I64 n
 |.text s=>Aad s
 |.atom s=>AcI s
 |.set l h=>h=1+CZ l/\h<=1024/\Ih l/\FitL l
 |.fn k v h=>h=1+CZ k+CZ v/\h<=1024/\k.length=v.length/\Ih k/\FitL k/\FitL v
def FitL:List Val->Prop
 |[]=>True
 |a::l=>Fit a/\FitL l
end
theorem FitL_iff:∀{l:List Val},FitL l↔∀a∈l,Fit a
 |[]=>by simp[FitL]
 |a::l=>by simp[FitL,FitL_iff]
mutual
theorem Fit.hv:∀{v:Val},Fit v->Hv v
 |.nil,_=>trivial
 |.truth _,_=>trivial
 |.num _,_=>trivial
 |.text _,_=>trivial
 |.atom _,_=>trivial
 |.set l h,g=>⟨g.1,g.2.2.2.hv⟩
 |.fn k v h,g=>⟨g.1,g.2.2.2.2.1.hv,g.2.2.2.2.2.hv⟩
theorem FitL.hv:∀{l:List Val},FitL l->HvL l
 |[],_=>trivial
 |a::l,g=>⟨g.1.hv,g.2.hv⟩
end
mutual
theorem Fit.ev:∀{v:Val},Fit v->Ev v
 |.nil,_=>trivial
 |.truth _,_=>trivial
 |.num _,g=>g
 |.text _,_=>trivial
 |.atom _,_=>trivial
 |.set l h,g=>g.2.2.2.ev
 |.fn k v h,g=>⟨g.2.2.1,g.2.2.2.2.1.ev,g.2.2.2.2.2.ev⟩
theorem FitL.ev:∀{l:List Val},FitL l->EvL l
 |[],_=>trivial
 |a::l,g=>⟨g.1.ev,g.2.ev⟩
end
mutual
theorem Hv.pos:∀{v:Val},Hv v->1<=v.weightOf
 |.nil,_=>by simp[Val.weightOf]
 |.truth _,_=>by simp[Val.weightOf]
 |.num _,_=>by simp[Val.weightOf]
 |.text _,_=>by simp[Val.weightOf]
 |.atom _,_=>by simp[Val.weightOf]
 |.set l h,g=>by have:=HvL.nn g.2;have:=g.1;simp[Val.weightOf];omega
 |.fn k v h,g=>by have:=HvL.nn g.2.1;have:=HvL.nn g.2.2;have:=g.1;simp[Val.weightOf];omega
theorem HvL.nn:∀{l:List Val},HvL l->(l.length:Int)<=CZ l
 |[],_=>by simp[CZ]
 |a::l,g=>by have:=Hv.pos g.1;have:=HvL.nn g.2;simp[CZ];omega
end
theorem Fit.pos{v:Val}(g:Fit v):1<=v.weightOf:=g.hv.pos
theorem Fit.le{v:Val}(g:Fit v):v.weightOf<=1024:=by
 cases v<;>simp[Val.weightOf]
 ·exact g.2.1
 ·exact g.2.1
theorem Km:∀a b,CZ (a++b)=CZ a+CZ b
 |[],b=>by simp[CZ]
 |x::a,b=>by simp[CZ,Km a b];omega
def Gn(a:Val):List Val->List Val
 |[]=>[a]
 |b::l=>if AK a b<0 then a::b::l else if AK a b=0 then b::l else b::Gn a l
def CP(l:List Val):List Val:=l.foldl (fun s a=>Gn a s) []
def DM(s:List Val):Val:=if 1+CZ s<=1024 then .set s (1+CZ s) else .nil
def EJ(l:List Val):Val:=DM (CP l)
theorem Kg{a:Val}(ha:Hv a):∀{l:List Val},HvL l->∀x,x∈Gn a l↔x=a\/x∈l
 |[],_,x=>by simp[Gn]
 |b::l,h,x=>by
  simp only[Gn];split
  ·simp
  ·split
   ·rename_i h0;have:=Gf ha h.1 h0;subst this;simp
   ·simp[Kg ha h.2];constructor
    ·rintro(h|h|h)<;>simp[h]
    ·rintro(h|h|h)<;>simp[h]
theorem Wu{a:Val}(ha:Hv a){l:List Val}(h:HvL l):HvL (Gn a l):=
 HvL_iff.2 fun x hx=>by
  rcases(Kg ha h x).1 hx with rfl|hx
  ·exact ha
  ·exact HvL_iff.1 h _ hx
theorem Tq{a:Val}(ha:Hv a):∀{l:List Val},HvL l->Ih l->Ih (Gn a l)
 |[],_,_=>by simp[Gn,Ih]
 |b::l,h,hs=>by
  have hs':=List.pairwise_cons.1 hs
  simp only[Gn];split
  ·rename_i h1
   exact List.pairwise_cons.2 ⟨fun x hx=>by
    rcases List.mem_cons.1 hx with rfl|hx
    ·exact h1
    ·exact DL h1 (hs'.1 x hx),hs⟩
  ·rename_i h1
   split
   ·exact hs
   ·rename_i h2
    have h3:AK b a<0:=by rw[BK a b];omega
    refine List.pairwise_cons.2 ⟨fun x hx=>?_,Tq ha h.2 hs'.2⟩
    rcases(Kg ha h.2 x).1 hx with rfl|hx
    ·exact h3
    ·exact hs'.1 x hx
theorem Oi{l:List Val}(hl:HvL l):∀{s:List Val},HvL s->Ih s->HvL (l.foldl (fun s a=>Gn a s) s)/\Ih (l.foldl (fun s a=>Gn a s) s)/\∀x,x∈l.foldl (fun s a=>Gn a s) s↔x∈s\/x∈l:=by
 induction l with
 |nil=>intro s h1 h2;exact⟨h1,h2,by simp⟩
 |cons a l ih=>
  intro s h1 h2
  obtain⟨h3,h4,h5⟩:=ih hl.2 (Wu hl.1 h1) (Tq hl.1 h1 h2)
  refine⟨h3,h4,fun x=>(h5 x).trans ?_⟩
  rw[Kg hl.1 h1];simp;constructor
  ·rintro((h|h)|h)<;>simp[h]
  ·rintro(h|h|h)<;>simp[h]
theorem Fy{l:List Val}(hl:HvL l):Ih (CP l):=(Oi hl (s:=[]) trivial List.Pairwise.nil).2.1
theorem BV{l:List Val}(hl:HvL l)(x:Val):x∈CP l↔x∈l:=((Oi hl (s:=[]) trivial List.Pairwise.nil).2.2 x).trans (by simp)
theorem Dr{a:Val}:¬AK a a<0:=by rw[En];omega
theorem Tg{a b:Val}(h:AK a b<0):¬AK b a<0:=by rw[BK a b];omega
theorem Ri:∀{x y:List Val},Ih x->Ih y->(∀a,a∈x↔a∈y)->x=y
 |[],[],_,_,_=>rfl
 |[],b::y,_,_,h=>absurd ((h b).2 (by simp)) (by simp)
 |a::x,[],_,_,h=>absurd ((h a).1 (by simp)) (by simp)
 |a::x,b::y,hx,hy,h=>by
  have hx':=List.pairwise_cons.1 hx
  have hy':=List.pairwise_cons.1 hy
  have hab:a=b:=by
   rcases List.mem_cons.1 ((h a).1 (by simp)) with e|m1
   ·exact e
   ·rcases List.mem_cons.1 ((h b).2 (by simp)) with e|m2
    ·exact e.symm
    ·exact absurd (hx'.1 b m2) (Tg (hy'.1 a m1))
  subst hab
  rw[Ri hx'.2 hy'.2 fun c=>⟨fun hc=>?_,fun hc=>?_⟩]
  ·rcases List.mem_cons.1 ((h c).1 (by simp[hc])) with e|m
   ·subst e;exact absurd (hx'.1 c hc) Dr
   ·exact m
  ·rcases List.mem_cons.1 ((h c).2 (by simp[hc])) with e|m
   ·subst e;exact absurd (hy'.1 c hc) Dr
   ·exact m
theorem JY{l:List Val}(hl:HvL l)(h:Ih l):CP l=l:=Ri (Fy hl) h (BV hl)
theorem PI{a b:Val}{Q:Bool->Prop}(ha:Hv a)(hb:Hv b)(h:Q (decide (AK a b=0))):KF a b Q:=⟨a.sz+1,CM _ (by omega) ha hb h⟩
theorem GM{l:List Val}{Q:Val->Prop}(hl:FitL l)(h:Q (DM l)):FP l Q:=by
 intro hL
 unfold Len at hL
 have pos:∀k:Nat,0<=CZ (l.drop k):=fun k=>by
  have:=HvL.nn (l:=l.drop k) (HvL_iff.2 fun a ha=>(FitL_iff.1 hl a (List.mem_of_mem_drop ha)).hv);omega
 have tot:∀k:Nat,CZ l=CZ (l.take k)+CZ (l.drop k):=fun k=>by rw[<-Km,List.take_append_drop]
 refine⟨fun s=>0<=s.2/\s.2<=l.length/\s.1=1+CZ (l.take s.2.toNat)/\s.1<=1024/\1<=s.1,fun s=>(l.length-s.2).toNat,⟨by simp,by simp,by simp[CZ],by simp,by simp⟩,?_⟩
 rintro⟨w,k⟩⟨k0,k1,e,w1,w2⟩
 simp only at k0 k1 e w1 w2
 refine⟨fun hk=>⟨⟨k0,hk⟩,Jh ?_⟩,fun hk=>?_⟩
 ·have g:=FitL_iff.1 hl _ (Az k0 hk)
  have g1:=g.pos;have g2:=g.le
  have e2:=tot (k+1).toNat
  have e3:=pos (k+1).toNat
  have e4:CZ (l.take (k+1).toNat)=CZ (l.take k.toNat)+(ix l k).weightOf:=by rw[AV k0 hk,Km];simp[CZ]
  refine⟨by unfold I64;omega,fun hn=>?_,fun hn=>⟨by unfold I64;omega,⟨by omega,by show k+1<=_;omega,by show _=1+CZ (l.take (k+1).toNat);rw[e4];omega,by show _<=(1024:Int);omega,by show(1:Int)<=_;omega⟩,by show(_:Int).toNat<(_:Int).toNat;omega⟩⟩
  unfold DM at h;rw[if_neg (by omega)] at h;exact h
 ·have:k=l.length:=by omega
  subst this
  rw[List.take_of_length_le (by simp)] at e
  unfold DM at h;rw[if_pos (by omega)] at h;rw[e];exact h
structure Cmp(y z:List Val)(p:Nat):Prop where
 asc:Ih z
 mem:∀a,a∈z↔a∈y.take p
 pos:1<=p
 le:p<=y.length
theorem mem_take{α:Type}{l:List α}{p:Nat}{a:α}:a∈l.take p↔∃i:Nat,i<p/\l[i]? =some a:=by
 rw[List.mem_iff_getElem?];constructor
 ·rintro⟨i,hi⟩
  by_cases h:i<p
  ·exact⟨i,h,by rw[List.getElem?_take_of_lt h] at hi;exact hi⟩
  ·rw[List.getElem?_take,if_neg h] at hi;cases hi
 ·rintro⟨i,h,hi⟩;exact⟨i,by rw[List.getElem?_take_of_lt h];exact hi⟩
theorem Cmp.le_last{y z:List Val}{p:Nat}(hv:HvL y)(hy:y.Pairwise fun a b=>¬AK b a<0)(h:Cmp y z p){a:Val}(ha:a∈z):AK a (ix y ((p:Int)-1))<=0:=by
 obtain⟨i,hi,e⟩:=mem_take.1 ((h.mem a).1 ha)
 have hp:=h.pos;have hle:=h.le
 have e2:=CJ (xs:=y) (i:=(p:Int)-1) (by omega) (by omega)
 have:((p:Int)-1).toNat=p-1:=by omega
 rw[this] at e2
 obtain⟨i1,rfl⟩:=List.getElem?_eq_some_iff.1 e
 obtain⟨p1,e3⟩:=List.getElem?_eq_some_iff.1 e2
 rw[<-e3]
 by_cases hip:i=p-1
 ·subst hip;rw[En];omega
 ·have:=List.pairwise_iff_getElem.1 hy i (p-1) i1 p1 (by omega)
  rw[BK y[i] y[p-1]] at this;omega
theorem Cmp.step{y z:List Val}{p:Nat}(hv:HvL y)(hy:y.Pairwise fun a b=>¬AK b a<0)(h:Cmp y z p)(hp:p<y.length):
  (AK (ix y p) (ix y ((p:Int)-1))=0->Cmp y z (p+1))/\(AK (ix y p) (ix y ((p:Int)-1))≠0->Cmp y (z++[ix y p]) (p+1)):=by
 have h1:=h.pos
 have e:y.take (p+1)=y.take p++[ix y p]:=by have:=AV (l:=y) (i:=(p:Int)) (by omega) (by omega);simpa using this
 have m1:ix y ((p:Int)-1)∈y.take p:=mem_take.2 ⟨p-1,by omega,by have:=CJ (xs:=y) (i:=(p:Int)-1) (by omega) (by omega);rw[show((p:Int)-1).toNat=p-1 by omega] at this;exact this⟩
 have v1:=HvL_iff.1 hv _ (Az (l:=y) (i:=(p:Int)) (by omega) (by omega))
 have v2:=HvL_iff.1 hv _ (Az (l:=y) (i:=(p:Int)-1) (by omega) (by omega))
 have g1:=CJ (xs:=y) (i:=(p:Int)-1) (by omega) (by omega)
 have g2:=CJ (xs:=y) (i:=(p:Int)) (by omega) (by omega)
 rw[show((p:Int)-1).toNat=p-1 by omega] at g1
 rw[show((p:Int)).toNat=p by omega] at g2
 obtain⟨p1,g1⟩:=List.getElem?_eq_some_iff.1 g1
 obtain⟨p2,g2⟩:=List.getElem?_eq_some_iff.1 g2
 have hle:=List.pairwise_iff_getElem.1 hy (p-1) p p1 p2 (by omega)
 rw[g1,g2] at hle
 constructor
 ·intro h0
  have h0:=Gf v1 v2 h0
  refine⟨h.asc,fun a=>?_,by omega,by omega⟩
  rw[h.mem,e];simp only[List.mem_append,List.mem_singleton]
  constructor
  ·exact Or.inl
  ·rintro(h|rfl)
   ·exact h
   ·rw[h0];exact m1
 ·intro h0
  refine⟨List.pairwise_append.2 ⟨h.asc,by simp,fun a ha b hb=>?_⟩,fun a=>?_,by omega,by omega⟩
  ·rw[List.mem_singleton.1 hb]
   have h2:=h.le_last hv hy ha
   have h3:AK (ix y ((p:Int)-1)) (ix y p)<0:=by
    have:=BK (ix y p) (ix y ((p:Int)-1));omega
   have h5:=Cp h2 (Int.le_of_lt h3)
   by_cases h4:AK a (ix y p)=0
   ·exfalso
    have:=BK a (ix y p)
    have h6:AK (ix y p) (ix y ((p:Int)-1))<=0:=Cp (b:=a) (by omega) h2
    have:=BK (ix y ((p:Int)-1)) (ix y p)
    omega
   ·omega
  ·rw[e];simp[h.mem]
theorem Cmp.start{y:List Val}(h:1<=y.length):Cmp y (y.take 1) 1:=by
 refine⟨?_,fun a=>Iff.rfl,by omega,h⟩
 cases y with
 |nil=>simp at h
 |cons a y=>simp[Ih]
theorem TE{y:List Val}{Q:List Val->Prop}(hv:HvL y)(hy:y.Pairwise fun a b=>¬AK b a<0)(h:∀z,Ih z->(∀a,a∈z↔a∈y)->Q z):JH y Q:=by
 intro hL
 unfold Len at hL
 refine⟨fun h2=>h y ?_ (fun a=>Iff.rfl),fun h2=>?_⟩
 ·rcases y with _|⟨a,_|⟨b,l⟩⟩
  ·exact List.Pairwise.nil
  ·exact List.pairwise_singleton _ _
  ·exact absurd h2 (by simp;omega)
 refine⟨fun k=>1<=k/\k<=y.length/\Cmp y (y.take k.toNat) k.toNat,fun k=>(y.length-k).toNat,⟨by simp,by omega,Cmp.start (by omega)⟩,?_⟩
 show∀k:Int,_->_
 rintro k⟨k0,k1,hc⟩_
 refine⟨fun hk=>⟨⟨by omega,hk⟩,by unfold I64;omega,⟨by omega,by omega⟩,?_⟩,fun hk=>?_⟩
 ·refine PI (HvL_iff.1 hv _ (Az (by omega) (by omega))) (HvL_iff.1 hv _ (Az (by omega) (by omega))) ?_
  have hst:=hc.step hv hy (by omega)
  rw[show((k.toNat:Nat):Int)=k by omega] at hst
  refine⟨fun he=>⟨⟨by omega,hk⟩,?_⟩,fun he=>⟨by unfold I64;omega,⟨by omega,by omega,?_⟩,by show(_:Int).toNat<(_:Int).toNat;omega⟩⟩
  ·have he:AK (ix y k) (ix y (k-1))=0:=by simpa using he
   refine⟨fun s=>s.1.length=y.length/\1<=s.2.1/\s.2.1<=k+s.2.2-1/\1<=s.2.2/\k+s.2.2<=y.length/\(∀i:Nat,k+s.2.2-1<=i->s.1[i]? =y[i]?)/\Cmp y (s.1.take s.2.1.toNat) (k+s.2.2).toNat,fun s=>(y.length-s.2.2).toNat,⟨rfl,by simp;omega,by simp,by simp,by simp;omega,fun i _=>rfl,?_⟩,?_⟩
   ·have:=hst.1 he
    rw[show(k+(1:Int)).toNat=k.toNat+1 by omega];exact this
   rintro⟨s,k',k2⟩⟨s1,s2,s3,s4,s5,s6,s7⟩
   simp only at s1 s2 s3 s4 s5 s6 s7
   refine⟨by unfold I64;omega,fun hk2=>Ae ⟨⟨by omega,by omega,by omega⟩,by unfold I64;omega,⟨by omega,by omega,by omega⟩,?_⟩,fun hk2=>⟨?_,⟨by omega,by simp;omega⟩,?_⟩⟩
   ·have ea:ix s (k+k2)=ix y (k+k2):=by unfold ix;rw[List.getD_eq_getElem?_getD,List.getD_eq_getElem?_getD,s6 _ (by omega)]
    have eb:ix s (k+(k2-1))=ix y (k+k2-1):=by unfold ix;rw[List.getD_eq_getElem?_getD,List.getD_eq_getElem?_getD,s6 _ (by omega),show k+(k2-1)=k+k2-1 by omega]
    rw[ea,eb]
    have hst:=s7.step hv hy (by omega)
    rw[show(((k+k2).toNat:Nat):Int)=k+k2 by omega] at hst
    refine PI (HvL_iff.1 hv _ (Az (by omega) (by omega))) (HvL_iff.1 hv _ (Az (by omega) (by omega))) ⟨fun hn=>⟨⟨by omega,by omega,by omega⟩,⟨by omega,by omega⟩,by unfold I64;omega,by unfold I64;omega,⟨by simpa using s1,by show(1:Int)<=k'+1;omega,by show k'+1<=k+(k2+1)-1;omega,by show(1:Int)<=k2+1;omega,by show k+(k2+1)<=_;omega,?_,?_⟩,by show((y.length:Int)-(k2+1)).toNat<((y.length:Int)-k2).toNat;omega⟩,fun hn=>⟨by unfold I64;omega,⟨s1,s2,by show k'<=k+(k2+1)-1;omega,by show(1:Int)<=k2+1;omega,by show k+(k2+1)<=_;omega,?_,?_⟩,by show((y.length:Int)-(k2+1)).toNat<((y.length:Int)-k2).toNat;omega⟩⟩
    ·intro i hi
     have hi:k+(k2+1)-1<=(i:Int):=hi
     show(s.set k'.toNat _)[i]? =_
     rw[List.getElem?_set_ne (by omega)];exact s6 i (by omega)
    ·have:=hst.2 (by simpa using hn)
     show Cmp y ((s.set k'.toNat _).take (k'+1).toNat) (k+(k2+1)).toNat
     rw[show(k+(k2+1)).toNat=(k+k2).toNat+1 by omega,show(k'+1).toNat=k'.toNat+1 by omega]
     have e:(s.set k'.toNat (ix y (k+k2))).take (k'.toNat+1)=s.take k'.toNat++[ix y (k+k2)]:=by
      rw[List.take_add_one,List.take_set_of_le (by omega),List.getElem?_set_self (by omega)];rfl
     rw[e];exact this
    ·intro i hi
     have hi:k+(k2+1)-1<=(i:Int):=hi
     exact s6 i (by omega)
    ·have:=hst.1 (by simpa using hn)
     show Cmp y (s.take k'.toNat) (k+(k2+1)).toNat
     rw[show(k+(k2+1)).toNat=(k+k2).toNat+1 by omega];exact this
   ·exact⟨by omega,by omega⟩
   ·have hz:(k+k2).toNat=y.length:=by omega
    rw[hz] at s7
    rw[List.take_append_of_le_length (by simp;omega),List.take_take,Nat.min_self]
    exact h _ s7.asc fun a=>by rw[s7.mem];simp
  ·have:=hst.2 (by simpa using he)
   rw[show(k+(1:Int)).toNat=k.toNat+1 by omega]
   have e:y.take (k.toNat+1)=y.take k.toNat++[ix y k]:=by have:=AV (l:=y) (i:=k) (by omega) hk;rwa [show(k+(1:Int)).toNat=k.toNat+1 by omega] at this
   rw[e];exact this
 ·have:k.toNat=y.length:=by omega
  rw[this] at hc
  have:=hc.asc;rw[List.take_length] at this
  exact h y this fun a=>Iff.rfl
theorem FE{l:List Val}{Q:Val->Prop}(hl:FitL l)(hn:l.length<=1000000)(h:Q (EJ l)):Fl l Q:=by
 have hv:=hl.hv
 refine⟨by omega,AK,fun a ha b hb=>⟨a.sz+1,CM _ (by omega) (HvL_iff.1 hv _ ha) (HvL_iff.1 hv _ hb) rfl⟩,fun a _=>Dr,fun a _ b _ d _ h1 h2=>DL h1 h2,fun a _ b _ d _ h1 h2=>?_,fun y hp hs=>?_⟩
 ·have:=BK b a;have:=BK d b;have:=BK d a
  have:=Cp (a:=d) (b:=b) (c:=a) (by omega) (by omega)
  omega
 ·have hy:HvL y:=HvL_iff.2 fun a ha=>HvL_iff.1 hv _ (hp.mem_iff.1 ha)
  refine TE hy hs fun z hz hm=>?_
  have e:z=CP l:=Ri hz (Fy hv) fun a=>by rw[hm,BV hv,hp.mem_iff]
  subst e
  exact GM (FitL_iff.2 fun a ha=>FitL_iff.1 hl _ ((BV hv a).1 ha)) h
end Go.Vc
namespace Go.Vc
theorem Dz{α:Type}[Inhabited α]{A B:List α}{x:α}{i:Int}(h:i=A.length):ix (A++x::B) i=x:=by
 subst h;simp[ix]
theorem DJ{α:Type}{A B:List α}{x y:α}{i:Int}(h:i=A.length):(A++x::B).set i.toNat y=A++y::B:=by
 subst h;simp[List.set_append]
theorem Jd{α:Type}{l:List α}{i:Int}(h0:0<=i)(h1:i<l.length):∃A x B,l=A++x::B/\i=A.length:=by
 refine⟨l.take i.toNat,l[i.toNat]'(by omega),l.drop (i.toNat+1),?_,by simp;omega⟩
 rw[<-List.drop_eq_getElem_cons,List.take_append_drop]
theorem Dg{α:Type}{l:List α}(h:l≠[]):∃A x,l=A++[x]:=⟨l.dropLast,l.getLast h,(List.dropLast_concat_getLast h).symm⟩
section
variable{c:List Val}
def ltI(c:List Val)(i k:Int):Prop:=AK (ix c i) (ix c k)<0\/(AK (ix c i) (ix c k)=0/\i<k)
theorem ltI.trans{i j k:Int}(h1:ltI c i j)(h2:ltI c j k):ltI c i k:=by
 have a1:AK (ix c i) (ix c j)<=0:=by rcases h1 with h|h<;>omega
 have a2:AK (ix c j) (ix c k)<=0:=by rcases h2 with h|h<;>omega
 have a3:=Cp a1 a2
 by_cases h0:AK (ix c i) (ix c k)=0
 ·right;refine⟨h0,?_⟩
  have e1:=BK (ix c i) (ix c k)
  have e2:AK (ix c j) (ix c i)<=0:=Cp a2 (by omega)
  have e3:AK (ix c k) (ix c j)<=0:=Cp (b:=ix c i) (by omega) a1
  have e4:=BK (ix c i) (ix c j)
  have e5:=BK (ix c j) (ix c k)
  rcases h1 with h|h
  ·omega
  ·rcases h2 with h'|h'
   ·omega
   ·omega
 ·left;omega
theorem Hs{i k:Int}(h:¬AK (ix c k) (ix c i)<0)(hi:i<k):ltI c i k:=by
 have:=BK (ix c k) (ix c i)
 by_cases h0:AK (ix c i) (ix c k)=0
 ·exact Or.inr ⟨h0,hi⟩
 ·exact Or.inl (by omega)
def Acm(c:List Val)(d:List Int):Prop:=∀i∈d,In i c
theorem Jc{i k:Int}{Q:Int->Prop}(hv:HvL c)(hi:In i c)(hk:In k c)(h:Q (AK (ix c i) (ix c k))):FD i k c Q:=
 ⟨hi,hk,(ix c i).sz+1,CM _ (by omega) (HvL_iff.1 hv _ (Az hi.1 hi.2)) (HvL_iff.1 hv _ (Az hk.1 hk.2)) h⟩
theorem SY(a b:Val):I64 (AK a b):=by unfold I64;rcases NM a b with h|h|h<;>omega
theorem RU{P X S:List Int}{a b:Int}{Q:List Int->Prop}(hv:HvL c)(hb:(P++X++S).length<=1000000)(ha:a=P.length)(hb2:b=a+X.length)(hi:Acm c X)(hx:X.Pairwise (·<·))
  (h:∀Y,Y.Perm X->Y.Pairwise (ltI c)->Q (P++Y++S)):Mq (P++X++S) a b c Q:=by
 simp at hb
 refine⟨by unfold I64;omega,?_⟩
 by_cases hX:X=[]
 ·subst hX
  refine⟨fun s=>s=(P++[]++S,a+1),fun _=>0,rfl,?_⟩
  rintro _ rfl
  exact⟨fun hn=>absurd hn (by simp at hb2;omega),fun _=>h [] (List.Perm.refl _) List.Pairwise.nil⟩
 refine⟨fun s=>∃Z W,s.1=P++Z++W++S/\s.2=a+Z.length/\Z.length+W.length=X.length/\Z.Perm (X.take Z.length)/\W=X.drop Z.length/\Z.Pairwise (ltI c),fun s=>(b-s.2).toNat,?_,?_⟩
 ·cases X with
  |nil=>exact absurd rfl hX
  |cons x X=>exact⟨[x],X,by simp,by simp,by simp;omega,by simp,by simp,by simp⟩
 rintro⟨d,i⟩⟨Z,W,e1,e2,e3,e4,e5,e6⟩
 simp only at e1 e2
 subst e1
 refine⟨fun hk=>?_,fun hk=>?_⟩
 ·cases W with
  |nil=>simp at e3;omega
  |cons w W=>
  simp only[List.length_cons] at e3
  have hw:∀z∈Z,z<w:=fun z hz=>by
   have hz:=e4.mem_iff.1 hz
   have:X.take Z.length++(w::W)=X:=by rw[e5,List.take_append_drop]
   rw[<-this] at hx
   exact(List.pairwise_append.1 hx).2.2 z hz w (by simp)
  have hwi:In w c:=hi w (by have:w∈X.drop Z.length:=(by rw[<-e5];simp);exact List.mem_of_mem_drop this)
  have hzi:∀z∈Z,In z c:=fun z hz=>hi z (List.mem_of_mem_take (e4.mem_iff.1 hz))
  refine⟨fun s=>∃Z1 Z2,s.1=P++Z1++w::(Z2++W++S)/\s.2=a+Z1.length/\Z=Z1++Z2/\(∀z∈Z2,ltI c w z),fun s=>(s.2-a).toNat,⟨Z,[],by simp,by simpa using e2,by simp,by simp⟩,?_⟩
  rintro⟨d,j⟩⟨Z1,Z2,f1,f2,f3,f4⟩
  simp only at f1 f2
  subst f1
  have hzl:Z.length=Z1.length+Z2.length:=by rw[f3];simp
  have hin:In j (P++Z1++w::(Z2++W++S)):=⟨by omega,by simp;omega⟩
  have ej:ix (P++Z1++w::(Z2++W++S)) j=w:=Dz (by simp;omega)
  have done:(Z1=[]\/∃A z,Z1=A++[z]/\ltI c z w)->∃Z' W',P++Z1++w::(Z2++W++S)=P++Z'++W'++S/\i+1=a+Z'.length/\Z'.length+W'.length=X.length/\Z'.Perm (X.take Z'.length)/\W'=X.drop Z'.length/\Z'.Pairwise (ltI c):=fun hz=>by
   refine⟨Z1++w::Z2,W,by simp,by simp;omega,by simp;omega,?_,?_,?_⟩
   ·have l1:(Z1++w::Z2).length=Z.length+1:=by simp;omega
    rw[l1]
    have:X.take (Z.length+1)=X.take Z.length++[w]:=by
     have e:X=X.take Z.length++w::W:=by rw[e5,List.take_append_drop]
     have hl:(X.take Z.length).length=Z.length:=by simp;omega
     conv=>lhs;rw[e]
     rw[List.take_append,hl,List.take_of_length_le (by omega)];simp
    rw[this]
    have p1:(Z1++w::Z2).Perm (w::Z):=by rw[f3];exact List.perm_middle
    exact p1.trans ((List.Perm.cons w e4).trans (List.perm_append_singleton w _).symm)
   ·have l1:(Z1++w::Z2).length=Z.length+1:=by simp;omega
    rw[l1,<-List.drop_drop,<-e5];simp
   ·rw[f3] at e6
    obtain⟨q1,q2,q3⟩:=List.pairwise_append.1 e6
    refine List.pairwise_append.2 ⟨q1,List.pairwise_cons.2 ⟨f4,q2⟩,fun x hx y hy=>?_⟩
    have hxw:ltI c x w:=by
     rcases hz with rfl|⟨A,z,rfl,hzw⟩
     ·cases hx
     ·rcases List.mem_append.1 hx with hx|hx
      ·exact((List.pairwise_append.1 q1).2.2 x hx z (by simp)).trans hzw
      ·rw[List.mem_singleton.1 hx];exact hzw
    rcases List.mem_cons.1 hy with rfl|hy
    ·exact hxw
    ·exact q3 x hx y hy
  refine Ae ⟨fun hj=>⟨hin,fun _=>⟨by unfold I64;omega,?_⟩⟩,fun hj=>⟨fun hn=>by simp at hn,fun _=>⟨by unfold I64;omega,?_,?_⟩⟩⟩
  ·have hne:Z1≠[]:=by rintro rfl;simp at f2;omega
   obtain⟨A,z,rfl⟩:=Dg hne
   simp only[List.length_append,List.length_singleton] at f2 hzl
   have el:P++(A++[z])++w::(Z2++W++S)=(P++A)++z::(w::(Z2++W++S)):=by simp
   have ez:ix (P++(A++[z])++w::(Z2++W++S)) (j-1)=z:=by rw[el];exact Dz (by simp;omega)
   have hin2:In (j-1) (P++(A++[z])++w::(Z2++W++S)):=⟨by omega,by simp;omega⟩
   have hzi':In z c:=hzi z (by rw[f3];simp)
   refine⟨hin2,fun _=>⟨AK (ix c w) (ix c z),by rw[ej,ez];exact Jc hv hwi hzi' rfl,SY _ _,fun hd=>?_,fun hd=>⟨by unfold I64;omega,done (Or.inr ⟨A,z,rfl,Hs (by simpa using hd) (hw z (by rw[f3];simp))⟩),by show(b-(i+1)).toNat<(b-i).toNat;omega⟩⟩⟩
   refine⟨by unfold I64;omega,by unfold I64;omega,hin2,fun _=>⟨hin,fun _=>⟨hin,⟨by omega,by simp;omega⟩,by unfold I64;omega,?_,by show(j-1-a).toNat<(j-a).toNat;omega⟩⟩⟩
   refine⟨A,z::Z2,?_,by show j-1=_;omega,by rw[f3];simp,fun y hy=>?_⟩
   ·show((P++(A++[z])++w::(Z2++W++S)).set j.toNat (ix (P++(A++[z])++w::(Z2++W++S)) (j-1))).set (j-1).toNat (ix (P++(A++[z])++w::(Z2++W++S)) j)=_
    rw[ej,ez,DJ (by simp;omega)]
    have el2:P++(A++[z])++z::(Z2++W++S)=(P++A)++z::(z::(Z2++W++S)):=by simp
    rw[el2,DJ (by simp;omega)];simp
   ·rcases List.mem_cons.1 hy with rfl|hy
    ·exact Or.inl (by simpa using hd)
    ·exact f4 y hy
  ·have:Z1=[]:=by cases Z1 with
    |nil=>rfl
    |cons=>simp at f2;omega
   exact done (Or.inl this)
  ·show(b-(i+1)).toNat<(b-i).toNat;omega
 ·have hW:W=[]:=by cases W with
   |nil=>rfl
   |cons w W=>simp at e3;omega
  subst hW
  simp at e3
  rw[e3,List.take_length] at e4
  simpa using h Z e4 e6
theorem Lu{P M S:List Int}{b n:Int}{Q:List Int->Prop}:∀{X Y:List Int}{d:List Int}{a:Int},d=P++X++M++Y++S->d.length<=1000000->a=P.length->b=a+X.length+M.length->n=X.length->n=Y.length->
  Q (P++Y++M++X++S)->HP d a b n c Q:=by
 intro X Y d a hd hb ha hb2 hn hn2 h
 subst hd
 simp at hb
 refine⟨fun s=>∃X1 X2 Y1 Y2,X=X1++X2/\Y=Y1++Y2/\s.2=X1.length/\s.2=Y1.length/\s.1=P++Y1++X2++M++X1++Y2++S,fun s=>(n-s.2).toNat,⟨[],X,[],Y,by simp,by simp,by simp,by simp,by simp⟩,?_⟩
 rintro⟨d,i⟩⟨X1,X2,Y1,Y2,f1,f2,f3,f4,f5⟩
 simp only at f3 f4 f5
 subst f1 f2 f5
 simp only[List.length_append] at hb hb2 hn hn2
 refine⟨fun hk=>?_,fun hk=>?_⟩
 ·cases X2 with
  |nil=>simp at hn;omega
  |cons x X2=>
  cases Y2 with
  |nil=>simp at hn2;omega
  |cons y Y2=>
  simp only[List.length_cons] at hb hb2 hn hn2
  have l1:P++Y1++x::X2++M++X1++y::Y2++S=(P++Y1)++x::(X2++M++X1++y::(Y2++S)):=by simp
  have l2:P++Y1++x::X2++M++X1++y::Y2++S=(P++Y1++x::X2++M++X1)++y::(Y2++S):=by simp
  have i1:In (b+i) (P++Y1++x::X2++M++X1++y::Y2++S):=⟨by omega,by simp;omega⟩
  have i2:In (a+i) (P++Y1++x::X2++M++X1++y::Y2++S):=⟨by omega,by simp;omega⟩
  have e1:ix (P++Y1++x::X2++M++X1++y::Y2++S) (a+i)=x:=by rw[l1];exact Dz (by simp;omega)
  have e2:ix (P++Y1++x::X2++M++X1++y::Y2++S) (b+i)=y:=by rw[l2];exact Dz (by simp;omega)
  refine⟨by unfold I64;omega,by unfold I64;omega,by unfold I64;omega,i1,fun _=>⟨by unfold I64;omega,i2,fun _=>⟨i2,⟨by omega,by simp;omega⟩,by unfold I64;omega,?_,by show(n-(i+1)).toNat<(n-i).toNat;omega⟩⟩⟩
  refine⟨X1++[x],X2,Y1++[y],Y2,by simp,by simp,by simp;omega,by simp;omega,?_⟩
  show((P++Y1++x::X2++M++X1++y::Y2++S).set (a+i).toNat (ix (P++Y1++x::X2++M++X1++y::Y2++S) (b+i))).set (b+i).toNat (ix (P++Y1++x::X2++M++X1++y::Y2++S) (a+i))=_
  rw[e1,e2,l1,DJ (by simp;omega)]
  have l3:(P++Y1)++y::(X2++M++X1++y::(Y2++S))=(P++Y1++y::(X2++M++X1))++y::(Y2++S):=by simp
  rw[l3,DJ (by simp;omega)];simp
 ·have hX:X2=[]:=by cases X2 with
   |nil=>rfl
   |cons=>simp at hn;omega
  have hY:Y2=[]:=by cases Y2 with
   |nil=>rfl
   |cons=>simp at hn2;omega
  subst hX hY
  simpa using h
theorem ZQ{P X Y S:List Int}{a m b:Int}{Q:List Int->Prop}(hb:(P++X++Y++S).length<=1000000)(ha:a=P.length)(hm:m=a+X.length)(hb2:b=m+Y.length)(hX:X≠[])(hY:Y≠[])
  (h:Q (P++Y++X++S)):MC (P++X++Y++S) a m b c Q:=by
 have pX:1<=X.length:=List.length_pos_iff.2 hX
 have pY:1<=Y.length:=List.length_pos_iff.2 hY
 simp at hb
 refine⟨by unfold I64;omega,by unfold I64;omega,?_⟩
 refine⟨fun s=>∃P' X' Y' S',s.1=P'++X'++Y'++S'/\s.2.1=X'.length/\s.2.2=Y'.length/\1<=X'.length/\1<=Y'.length/\m=P'.length+X'.length/\P'++Y'++X'++S'=P++Y++X++S,fun s=>(s.2.1+s.2.2).toNat,⟨P,X,Y,S,rfl,by simp;omega,by simp;omega,pX,pY,by omega,rfl⟩,?_⟩
 rintro⟨d,i,j⟩⟨P',X',Y',S',f1,f2,f3,f4,f5,f6,f7⟩
 simp only at f1 f2 f3
 subst f1
 have hl:=congrArg List.length f7
 simp at hl
 refine⟨fun hne=>⟨fun hlt=>⟨by unfold I64;omega,?_⟩,fun hlt=>⟨by unfold I64;omega,by unfold I64;omega,by unfold I64;omega,?_⟩⟩,fun heq=>⟨by unfold I64;omega,?_⟩⟩
 ·have e:X'=X'.take Y'.length++X'.drop Y'.length:=by rw[List.take_append_drop]
  have l1:(X'.take Y'.length).length=Y'.length:=by simp;omega
  have l2:(X'.drop Y'.length).length=X'.length-Y'.length:=by simp
  revert e l1 l2
  generalize X'.take Y'.length=A;generalize X'.drop Y'.length=B
  intro e l1 l2
  refine Lu (P:=P') (X:=A) (M:=B) (Y:=Y') (S:=S') (by rw[e];simp) (by simp;omega) (by omega) (by omega) (by omega) (by omega) ⟨by unfold I64;omega,⟨P'++Y',B,A,S',by simp,by show i-j=_;omega,by show j=_;omega,by omega,by omega,by simp;omega,?_⟩,by show(i-j+j).toNat<(i+j).toNat;omega⟩
  rw[<-f7,e];simp
 ·have e:Y'=Y'.take (Y'.length-X'.length)++Y'.drop (Y'.length-X'.length):=by rw[List.take_append_drop]
  have l1:(Y'.take (Y'.length-X'.length)).length=Y'.length-X'.length:=by simp
  have l2:(Y'.drop (Y'.length-X'.length)).length=X'.length:=by simp;omega
  revert e l1 l2
  generalize Y'.take (Y'.length-X'.length)=A;generalize Y'.drop (Y'.length-X'.length)=B
  intro e l1 l2
  refine Lu (P:=P') (X:=X') (M:=A) (Y:=B) (S:=S') (by rw[e];simp) (by simp;omega) (by omega) (by omega) (by omega) (by omega) ⟨by unfold I64;omega,⟨P',B,A,X'++S',by simp,by show i=_;omega,by show j-i=_;omega,by omega,by omega,by omega,?_⟩,by show(i+(j-i)).toNat<(i+j).toNat;omega⟩
  rw[<-f7,e];simp
 ·refine Lu (P:=P') (X:=X') (M:=[]) (Y:=Y') (S:=S') (by simp) (by simp;omega) (by omega) (by simp;omega) (by omega) (by omega) ?_
  rw[List.append_nil,f7];exact h
end
end Go.Vc
namespace Go.Vc
theorem Jk{x:Int}(h0:0<=x)(h1:x<=1000000000):IntKind.i64.wrap ((IntKind.u64.wrap x)/2)=x/2:=by
 rw[IntWalk.u64_in _ ⟨by omega,by omega⟩,IntWalk.i64_in _ ⟨by omega,by omega⟩]
section
variable{c:List Val}
theorem EN{A B:List Int}(hA:A.Pairwise (ltI c))(hB:B.Pairwise (ltI c))(h:A=[]\/B=[]\/∃A' x y B',A=A'++[x]/\B=y::B'/\ltI c x y):(A++B).Pairwise (ltI c):=by
 rcases h with rfl|rfl|⟨A',x,y,B',rfl,rfl,h⟩
 ·simpa using hB
 ·simpa using hA
 ·refine List.pairwise_append.2 ⟨hA,hB,fun u hu v hv=>?_⟩
  have h1:ltI c u y:=by
   rcases List.mem_append.1 hu with hu|hu
   ·exact((List.pairwise_append.1 hA).2.2 u hu x (by simp)).trans h
   ·rw[List.mem_singleton.1 hu];exact h
  rcases List.mem_cons.1 hv with rfl|hv
  ·exact h1
  ·exact h1.trans ((List.pairwise_cons.1 hB).1 v hv)
theorem Ki(hv:HvL c):∀(f:Nat){P X Y S:List Int}{a m b:Int}{Q:List Int->Prop},X.length+Y.length<f->(P++X++Y++S).length<=1000000->a=P.length->m=a+X.length->b=m+Y.length->X≠[]->Y≠[]->
  Acm c X->Acm c Y->X.Pairwise (ltI c)->Y.Pairwise (ltI c)->(∀x∈X,∀y∈Y,x<y)->(∀Z,Z.Perm (X++Y)->Z.Pairwise (ltI c)->Q (P++Z++S))->CX f (P++X++Y++S) a m b c Q
 |0,_,_,_,_,_,_,_,_,h,_,_,_,_,_,_,_,_,_,_,_,_=>absurd h (by omega)
 |f+1,P,X,Y,S,a,m,b,Q,hf,hb,ha,hm,hb2,hX,hY,iX,iY,sX,sY,hxy,h=>by
  have pX:1<=X.length:=List.length_pos_iff.2 hX
  have pY:1<=Y.length:=List.length_pos_iff.2 hY
  simp at hb
  unfold CX
  refine⟨by unfold I64;omega,fun h1=>?_,fun h1=>⟨by unfold I64;omega,fun h2=>?_,fun h2=>?_⟩⟩
  ·
   obtain⟨x,rfl⟩:∃x,X=[x]:=by
    match X,pX,(by omega:X.length=1) with
    |[x],_,_=>exact⟨x,rfl⟩
   have ex:ix (P++[x]++Y++S) a=x:=by rw[show P++[x]++Y++S=P++x::(Y++S) by simp];exact Dz (by omega)
   have ia:In a (P++[x]++Y++S):=⟨by omega,by simp;omega⟩
   have gY:∀k:Int,m<=k->k<b->∃A y B,Y=A++y::B/\k=m+A.length/\ix (P++[x]++Y++S) k=y/\In k (P++[x]++Y++S):=fun k k0 k1=>by
    obtain⟨A,y,B,e,hl⟩:=Jd (l:=Y) (i:=k-m) (by omega) (by omega)
    refine⟨A,y,B,e,by omega,?_,⟨by omega,by simp;omega⟩⟩
    rw[e,show P++[x]++(A++y::B)++S=(P++[x]++A)++y::(B++S) by simp];exact Dz (by simp;simp at hm;omega)
   refine⟨fun s=>m<=s.1/\s.1<=s.2/\s.2<=b/\(s.1=m\/∃A y B,Y=A++y::B/\s.1=m+A.length+1/\ltI c y x)/\(s.2=b\/∃A y B,Y=A++y::B/\s.2=m+A.length/\ltI c x y),fun s=>(s.2-s.1).toNat,⟨by simp,by simp;omega,by simp,Or.inl rfl,Or.inl rfl⟩,?_⟩
   rintro⟨i,j⟩⟨g1,g2,g3,g4,g5⟩
   simp only at g1 g2 g3 g4 g5
   refine⟨fun hij=>?_,fun hij=>?_⟩
   ·rw[Jk (by omega) (by omega)]
    obtain⟨A,y,B,e,hk,ey,hin⟩:=gY ((i+j)/2) (by omega) (by omega)
    have my:y∈Y:=by rw[e];simp
    refine⟨by unfold I64;omega,hin,fun _=>⟨ia,fun _=>?_⟩⟩
    rw[ey,ex]
    refine Jc hv (iY y my) (iX x (by simp)) ⟨fun hl=>⟨by unfold I64;omega,⟨by show m<=_;omega,by show(i+j)/2+1<=j;omega,g3,Or.inr ⟨A,y,B,e,by show(i+j)/2+1=_;omega,Or.inl hl⟩,g5⟩,by show(j-((i+j)/2+1)).toNat<(j-i).toNat;omega⟩,fun hl=>⟨⟨g1,by show i<=(i+j)/2;omega,by show(i+j)/2<=b;omega,g4,Or.inr ⟨A,y,B,e,hk,Hs hl (hxy x (by simp) y my)⟩⟩,by show((i+j)/2-i).toNat<(j-i).toNat;omega⟩⟩
   ·have hij:i=j:=by omega
    subst hij
    obtain⟨A,B,e,hl⟩:∃A B,Y=A++B/\i=m+A.length:=⟨Y.take (i-m).toNat,Y.drop (i-m).toNat,by rw[List.take_append_drop],by simp;omega⟩
    subst e
    simp only[List.length_append] at hb hb2 hf pY
    have done:Q (P++(A++[x]++B)++S):=by
     refine h _ (by simp) ?_
     obtain⟨qA,qB,qAB⟩:=List.pairwise_append.1 sY
     have qx:(A++[x]).Pairwise (ltI c):=EN qA (by simp) (by
      by_cases hA:A=[]
      ·exact Or.inl hA
      ·obtain⟨A',y,rfl⟩:=Dg hA
       rcases g4 with g4|⟨A2,y2,B2,e2,g4,g6⟩
       ·simp at hl;omega
       ·refine Or.inr (Or.inr ⟨A',y,x,[],rfl,rfl,?_⟩)
        simp at hl
        have:A'++y::B=A2++y2::B2:=by rw[<-e2];simp
        have:=List.append_inj this (by omega)
        simp at this;rw[this.2.1];exact g6)
     refine EN qx qB ?_
     by_cases hB:B=[]
     ·exact Or.inr (Or.inl hB)
     ·obtain⟨y,B',rfl⟩:∃y B',B=y::B':=List.exists_cons_of_ne_nil hB
      rcases g5 with g5|⟨A2,y2,B2,e2,g5,g6⟩
      ·simp at hb2;omega
      ·refine Or.inr (Or.inr ⟨A,x,y,B',rfl,rfl,?_⟩)
       have:=List.append_inj e2 (by omega)
       simp at this;rw[this.2.1];exact g6
    refine⟨fun s=>∃A1 A2,A=A1++A2/\s.1=P++A1++x::(A2++B++S)/\s.2=a+A1.length,fun s=>(i-s.2).toNat,⟨[],A,by simp,by simp,by simp⟩,?_⟩
    rintro⟨d,k⟩⟨A1,A2,f1,f2,f3⟩
    simp only at f2 f3
    subst f1 f2
    simp at hm
    simp only[List.length_append] at hl hb hb2
    refine⟨by unfold I64;omega,fun hk=>?_,fun hk=>?_⟩
    ·cases A2 with
     |nil=>simp at hl;omega
     |cons y A2=>
     simp only[List.length_cons] at hl hb hb2
     have e1:ix (P++A1++x::(y::A2++B++S)) k=x:=Dz (by simp;omega)
     have l2:P++A1++x::(y::A2++B++S)=(P++A1++[x])++y::(A2++B++S):=by simp
     have e2:ix (P++A1++x::(y::A2++B++S)) (k+1)=y:=by rw[l2];exact Dz (by simp;omega)
     have i1:In k (P++A1++x::(y::A2++B++S)):=⟨by omega,by simp;omega⟩
     have i2:In (k+1) (P++A1++x::(y::A2++B++S)):=⟨by omega,by simp;omega⟩
     refine⟨by unfold I64;omega,by unfold I64;omega,i2,fun _=>⟨i1,fun _=>⟨i1,⟨by omega,by simp;omega⟩,by unfold I64;omega,⟨A1++[y],A2,by simp,?_,by simp;omega⟩,by show(i-(k+1)).toNat<(i-k).toNat;omega⟩⟩⟩
     show((P++A1++x::(y::A2++B++S)).set k.toNat (ix (P++A1++x::(y::A2++B++S)) (k+1))).set (k+1).toNat (ix (P++A1++x::(y::A2++B++S)) k)=_
     rw[e1,e2,DJ (by simp;omega)]
     have l3:P++A1++y::(y::A2++B++S)=(P++A1++[y])++y::(A2++B++S):=by simp
     rw[l3,DJ (by simp;omega)];simp
    ·have:A2=[]:=by cases A2 with
      |nil=>rfl
      |cons=>simp at hl;omega
     subst this
     simpa using done
  ·
   obtain⟨y,rfl⟩:∃y,Y=[y]:=by
    match Y,pY,(by omega:Y.length=1) with
    |[y],_,_=>exact⟨y,rfl⟩
   have ey:ix (P++X++[y]++S) m=y:=by rw[show P++X++[y]++S=(P++X)++y::S by simp];exact Dz (by simp;omega)
   have im:In m (P++X++[y]++S):=⟨by omega,by simp;omega⟩
   have gX:∀k:Int,a<=k->k<m->∃A x B,X=A++x::B/\k=a+A.length/\ix (P++X++[y]++S) k=x/\In k (P++X++[y]++S):=fun k k0 k1=>by
    obtain⟨A,x,B,e,hl⟩:=Jd (l:=X) (i:=k-a) (by omega) (by omega)
    refine⟨A,x,B,e,by omega,?_,⟨by omega,by simp;omega⟩⟩
    rw[e,show P++(A++x::B)++[y]++S=(P++A)++x::(B++[y]++S) by simp];exact Dz (by simp;omega)
   refine⟨fun s=>a<=s.1/\s.1<=s.2/\s.2<=m/\(s.1=a\/∃A x B,X=A++x::B/\s.1=a+A.length+1/\ltI c x y)/\(s.2=m\/∃A x B,X=A++x::B/\s.2=a+A.length/\ltI c y x),fun s=>(s.2-s.1).toNat,⟨by simp,by simp;omega,by simp,Or.inl rfl,Or.inl rfl⟩,?_⟩
   rintro⟨i,j⟩⟨g1,g2,g3,g4,g5⟩
   simp only at g1 g2 g3 g4 g5
   refine⟨fun hij=>?_,fun hij=>?_⟩
   ·rw[Jk (by omega) (by omega)]
    obtain⟨A,x,B,e,hk,ex,hin⟩:=gX ((i+j)/2) (by omega) (by omega)
    have mx:x∈X:=by rw[e];simp
    refine⟨by unfold I64;omega,im,fun _=>⟨hin,fun _=>?_⟩⟩
    rw[ex,ey]
    refine Jc hv (iY y (by simp)) (iX x mx) ⟨fun hl=>⟨by unfold I64;omega,⟨by show a<=_;omega,by show(i+j)/2+1<=j;omega,g3,Or.inr ⟨A,x,B,e,by show(i+j)/2+1=_;omega,Hs hl (hxy x mx y (by simp))⟩,g5⟩,by show(j-((i+j)/2+1)).toNat<(j-i).toNat;omega⟩,fun hl=>⟨⟨g1,by show i<=(i+j)/2;omega,by show(i+j)/2<=m;omega,g4,Or.inr ⟨A,x,B,e,hk,Or.inl hl⟩⟩,by show((i+j)/2-i).toNat<(j-i).toNat;omega⟩⟩
   ·have hij:i=j:=by omega
    subst hij
    obtain⟨A,B,e,hl⟩:∃A B,X=A++B/\i=a+A.length:=⟨X.take (i-a).toNat,X.drop (i-a).toNat,by rw[List.take_append_drop],by simp;omega⟩
    subst e
    simp only[List.length_append] at hb hm hf pX
    have done:Q (P++(A++[y]++B)++S):=by
     refine h _ ?_ ?_
     ·have:(A++[y]++B).Perm (A++(B++[y])):=by
       rw[List.append_assoc];exact List.Perm.append_left A List.perm_append_comm
      simpa using this
     obtain⟨qA,qB,qAB⟩:=List.pairwise_append.1 sX
     have qx:(A++[y]).Pairwise (ltI c):=EN qA (by simp) (by
      by_cases hA:A=[]
      ·exact Or.inl hA
      ·obtain⟨A',x,rfl⟩:=Dg hA
       rcases g4 with g4|⟨A2,x2,B2,e2,g4,g6⟩
       ·simp at hl;omega
       ·refine Or.inr (Or.inr ⟨A',x,y,[],rfl,rfl,?_⟩)
        simp at hl
        have:A'++x::B=A2++x2::B2:=by rw[<-e2];simp
        have:=List.append_inj this (by omega)
        simp at this;rw[this.2.1];exact g6)
     refine EN qx qB ?_
     by_cases hB:B=[]
     ·exact Or.inr (Or.inl hB)
     ·obtain⟨x,B',rfl⟩:∃x B',B=x::B':=List.exists_cons_of_ne_nil hB
      rcases g5 with g5|⟨A2,x2,B2,e2,g5,g6⟩
      ·simp at hm;omega
      ·refine Or.inr (Or.inr ⟨A,y,x,B',rfl,rfl,?_⟩)
       have:=List.append_inj e2 (by omega)
       simp at this;rw[this.2.1];exact g6
    refine⟨fun s=>∃B1 B2,B=B1++B2/\s.1=P++A++B1++y::(B2++S)/\s.2=i+B1.length,fun s=>(s.2-i).toNat,⟨B,[],by simp,by simp,by simp;omega⟩,?_⟩
    rintro⟨d,k⟩⟨B1,B2,f1,f2,f3⟩
    simp only at f2 f3
    subst f1 f2
    simp only[List.length_append] at hm hb
    refine⟨fun hk=>?_,fun hk=>?_⟩
    ·have hne:B1≠[]:=by rintro rfl;simp at f3;omega
     obtain⟨B1,x,rfl⟩:=Dg hne
     simp only[List.length_append,List.length_singleton] at f3 hb hm
     have l1:P++A++(B1++[x])++y::(B2++S)=(P++A++B1)++x::(y::(B2++S)):=by simp
     have e1:ix (P++A++(B1++[x])++y::(B2++S)) k=y:=Dz (by simp;omega)
     have e2:ix (P++A++(B1++[x])++y::(B2++S)) (k-1)=x:=by rw[l1];exact Dz (by simp;omega)
     have i1:In k (P++A++(B1++[x])++y::(B2++S)):=⟨by omega,by simp;omega⟩
     have i2:In (k-1) (P++A++(B1++[x])++y::(B2++S)):=⟨by omega,by simp;omega⟩
     refine⟨by unfold I64;omega,by unfold I64;omega,i2,fun _=>⟨i1,fun _=>⟨i1,⟨by omega,by simp;omega⟩,by unfold I64;omega,⟨B1,x::B2,by simp,?_,by show k-1=_;omega⟩,by show(k-1-i).toNat<(k-i).toNat;omega⟩⟩⟩
     show((P++A++(B1++[x])++y::(B2++S)).set k.toNat (ix (P++A++(B1++[x])++y::(B2++S)) (k-1))).set (k-1).toNat (ix (P++A++(B1++[x])++y::(B2++S)) k)=_
     rw[e1,e2,DJ (by simp;omega)]
     have l3:P++A++(B1++[x])++x::(B2++S)=(P++A++B1)++x::(x::(B2++S)):=by simp
     rw[l3,DJ (by simp;omega)];simp
    ·have:B1=[]:=by cases B1 with
      |nil=>rfl
      |cons=>simp at f3;omega
     subst this
     simpa using done
  ·
   rw[Jk (by omega) (by omega)]
   obtain⟨mid,hmid⟩:∃mid,(a+b)/2=mid:=⟨_,rfl⟩
   rw[hmid]
   have gX:∀k:Int,a<=k->k<m->∃A x B,X=A++x::B/\k=a+A.length/\ix (P++X++Y++S) k=x/\In k (P++X++Y++S):=fun k k0 k1=>by
    obtain⟨A,x,B,e,hl⟩:=Jd (l:=X) (i:=k-a) (by omega) (by omega)
    refine⟨A,x,B,e,by omega,?_,⟨by omega,by simp;omega⟩⟩
    rw[e,show P++(A++x::B)++Y++S=(P++A)++x::(B++Y++S) by simp];exact Dz (by simp;omega)
   have gY:∀k:Int,m<=k->k<b->∃A y B,Y=A++y::B/\k=m+A.length/\ix (P++X++Y++S) k=y/\In k (P++X++Y++S):=fun k k0 k1=>by
    obtain⟨A,y,B,e,hl⟩:=Jd (l:=Y) (i:=k-m) (by omega) (by omega)
    refine⟨A,y,B,e,by omega,?_,⟨by omega,by simp;omega⟩⟩
    rw[e,show P++X++(A++y::B)++S=(P++X++A)++y::(B++S) by simp];exact Dz (by simp;omega)
   have main:∀s0 r0:Int,(s0=a\/mid+m-s0=b)->(r0=m\/mid+m-r0=m)->a<=s0->s0<=r0->r0<=m->r0<=mid->mid+m-s0<=b->
     Ay (σ:=Int×Int) (s0,r0) fun(start_824,r_826)xnext_885=>
      (start_824<r_826->
      I64 (start_824+r_826)/\
      I64 (((mid+m)-(1:Int))-(IntKind.i64.wrap ((IntKind.u64.wrap (start_824+r_826))/2)))/\
      In (((mid+m)-(1:Int))-(IntKind.i64.wrap ((IntKind.u64.wrap (start_824+r_826))/2))) (P++X++Y++S)/\
      (I64 (ix (P++X++Y++S) (((mid+m)-(1:Int))-(IntKind.i64.wrap ((IntKind.u64.wrap (start_824+r_826))/2))))->
      In (IntKind.i64.wrap ((IntKind.u64.wrap (start_824+r_826))/2)) (P++X++Y++S)/\
      (I64 (ix (P++X++Y++S) (IntKind.i64.wrap ((IntKind.u64.wrap (start_824+r_826))/2)))->
      FD (ix (P++X++Y++S) (((mid+m)-(1:Int))-(IntKind.i64.wrap ((IntKind.u64.wrap (start_824+r_826))/2)))) (ix (P++X++Y++S) (IntKind.i64.wrap ((IntKind.u64.wrap (start_824+r_826))/2))) c fun r_929=>
      (¬(r_929<(0:Int))->
      I64 ((IntKind.i64.wrap ((IntKind.u64.wrap (start_824+r_826))/2))+(1:Int))/\
      xnext_885 (((IntKind.i64.wrap ((IntKind.u64.wrap (start_824+r_826))/2))+(1:Int)),r_826))/\
      (r_929<(0:Int)->
      xnext_885 (start_824,(IntKind.i64.wrap ((IntKind.u64.wrap (start_824+r_826))/2)))))))/\
      (¬(start_824<r_826)->
      I64 ((mid+m)-start_824)/\
      Am (σ:=LI) (fun data_952=>
      Am (σ:=LI) (fun data_977=>
      ((mid<((mid+m)-start_824))/\(((mid+m)-start_824)<b)->
      CX f data_977 mid ((mid+m)-start_824) b c fun c_997=>
      Q c_997)/\
      (¬((mid<((mid+m)-start_824))/\(((mid+m)-start_824)<b))->
      Q data_977)) fun J_980=>
      ((a<start_824)/\(start_824<mid)->
      CX f data_952 a start_824 mid c fun c_987=>
      J_980 c_987)/\
      (¬((a<start_824)/\(start_824<mid))->
      J_980 data_952)) fun J_955=>
      ((start_824<m)/\(m<((mid+m)-start_824))->
      MC (P++X++Y++S) start_824 m ((mid+m)-start_824) c fun c_962=>
      J_955 c_962)/\
      (¬((start_824<m)/\(m<((mid+m)-start_824)))->
      J_955 (P++X++Y++S))):=by
    intro s0 r0 h0 h1' z1 z2 z3 z4 z5
    refine⟨fun s=>s0<=s.1/\s.1<=s.2/\s.2<=r0/\(s.1=s0\/∃A x B A' y B',X=A++x::B/\s.1=a+A.length+1/\Y=A'++y::B'/\mid+m-s.1=m+A'.length/\ltI c x y)/\(s.2=r0\/∃A x B A' y B',X=A++x::B/\s.2=a+A.length/\Y=A'++y::B'/\mid+m-s.2=m+A'.length+1/\ltI c y x),fun s=>(s.2-s.1).toNat,⟨by simp,by simpa using z2,by simp,Or.inl rfl,Or.inl rfl⟩,?_⟩
    rintro⟨i,j⟩⟨g1,g2,g3,g4,g5⟩
    simp only at g1 g2 g3 g4 g5
    refine⟨fun hij=>?_,fun hij=>?_⟩
    ·rw[Jk (by omega) (by omega)]
     obtain⟨A,x,B,e,hk,ex,hin⟩:=gX ((i+j)/2) (by omega) (by omega)
     obtain⟨A',y,B',e',hk',ey,hin'⟩:=gY (mid+m-1-(i+j)/2) (by omega) (by omega)
     have mx:x∈X:=by rw[e];simp
     have my:y∈Y:=by rw[e'];simp
     refine⟨by unfold I64;omega,by unfold I64;omega,hin',fun _=>⟨hin,fun _=>?_⟩⟩
     rw[ex,ey]
     refine Jc hv (iY y my) (iX x mx) ⟨fun hl=>⟨by unfold I64;omega,⟨by show s0<=_;omega,by show(i+j)/2+1<=j;omega,g3,Or.inr ⟨A,x,B,A',y,B',e,by show(i+j)/2+1=_;omega,e',by show mid+m-((i+j)/2+1)=_;omega,Hs hl (hxy x mx y my)⟩,g5⟩,by show(j-((i+j)/2+1)).toNat<(j-i).toNat;omega⟩,fun hl=>⟨⟨g1,by show i<=(i+j)/2;omega,by show(i+j)/2<=r0;omega,g4,Or.inr ⟨A,x,B,A',y,B',e,hk,e',by show mid+m-(i+j)/2=_;omega,Or.inl hl⟩⟩,by show((i+j)/2-i).toNat<(j-i).toNat;omega⟩⟩
    ·have hij:i=j:=by omega
     subst hij
     refine⟨by unfold I64;omega,?_⟩
     obtain⟨A1,A2,eX,lA⟩:∃A B,X=A++B/\i=a+A.length:=⟨X.take (i-a).toNat,X.drop (i-a).toNat,by rw[List.take_append_drop],by simp;omega⟩
     obtain⟨B1,B2,eY,lB⟩:∃A B,Y=A++B/\mid+m-i=m+A.length:=⟨Y.take (mid-i).toNat,Y.drop (mid-i).toNat,by rw[List.take_append_drop],by simp;omega⟩
     subst eX eY
     simp only[List.length_append] at hb hm hb2 hf pX pY
     obtain⟨qA1,qA2,qA⟩:=List.pairwise_append.1 sX
     obtain⟨qB1,qB2,qB⟩:=List.pairwise_append.1 sY
     have c1:(A1++B2).Pairwise (ltI c):=EN qA1 qB2 (by
      by_cases hA:A1=[]
      ·exact Or.inl hA
      by_cases hB:B2=[]
      ·exact Or.inr (Or.inl hB)
      obtain⟨A',x,rfl⟩:=Dg hA
      obtain⟨y,B',rfl⟩:∃y B',B2=y::B':=List.exists_cons_of_ne_nil hB
      simp at lA hb2
      rcases g4 with g4|⟨A3,x3,A4,B3,y3,B4,e3,g6,e4,g7,g8⟩
      ·omega
      ·refine Or.inr (Or.inr ⟨A',x,y,B',rfl,rfl,?_⟩)
       have t1:A'++x::A2=A3++x3::A4:=by rw[<-e3];simp
       have t1:=List.append_inj t1 (by omega)
       have t2:=List.append_inj e4 (by omega)
       simp at t1 t2;rw[t1.2.1,t2.2.1];exact g8)
     have c2:(B1++A2).Pairwise (ltI c):=EN qB1 qA2 (by
      by_cases hA:B1=[]
      ·exact Or.inl hA
      by_cases hB:A2=[]
      ·exact Or.inr (Or.inl hB)
      obtain⟨B',y,rfl⟩:=Dg hA
      obtain⟨x,A',rfl⟩:∃x A',A2=x::A':=List.exists_cons_of_ne_nil hB
      simp at lB hm
      rcases g5 with g5|⟨A3,x3,A4,B3,y3,B4,e3,g6,e4,g7,g8⟩
      ·omega
      ·refine Or.inr (Or.inr ⟨B',y,x,A',rfl,rfl,?_⟩)
       have t2:B'++y::B2=B3++y3::B4:=by rw[<-e4];simp
       have t2:=List.append_inj t2 (by omega)
       have t1:=List.append_inj e3 (by omega)
       simp at t1 t2;rw[t1.2.1,t2.2.1];exact g8)
     clear g4 g5
     have fin:∀Z1 Z2,Z1.Perm (A1++B1)->Z1.Pairwise (ltI c)->Z2.Perm (A2++B2)->Z2.Pairwise (ltI c)->Q (P++(Z1++Z2)++S):=fun Z1 Z2 p1 s1 p2 s2=>by
      refine h _ ?_ (List.pairwise_append.2 ⟨s1,s2,fun u hu w hw=>?_⟩)
      ·refine(List.Perm.append p1 p2).trans ?_
       have:(A1++B1++(A2++B2)).Perm (A1++(A2++(B1++B2))):=by
        rw[List.append_assoc];refine List.Perm.append_left A1 ?_
        rw[<-List.append_assoc,<-List.append_assoc];exact List.Perm.append_right B2 List.perm_append_comm
       simpa using this
      ·rcases List.mem_append.1 (p1.mem_iff.1 hu) with hu|hu<;>rcases List.mem_append.1 (p2.mem_iff.1 hw) with hw|hw
       ·exact qA u hu w hw
       ·exact(List.pairwise_append.1 c1).2.2 u hu w hw
       ·exact(List.pairwise_append.1 c2).2.2 u hu w hw
       ·exact qB u hu w hw
     have stage2:∀Z1,Z1.Perm (A1++B1)->Z1.Pairwise (ltI c)->
       ((mid<((mid+m)-i))/\(((mid+m)-i)<b)->CX f (P++Z1++A2++B2++S) mid ((mid+m)-i) b c fun c_997=>Q c_997)/\(¬((mid<((mid+m)-i))/\(((mid+m)-i)<b))->Q (P++Z1++A2++B2++S)):=fun Z1 p1 s1=>by
      have l1:Z1.length=A1.length+B1.length:=by rw[p1.length_eq];simp
      refine⟨fun hc=>?_,fun hc=>?_⟩
      ·refine Ki hv f (P:=P++Z1) (X:=A2) (Y:=B2) (S:=S) (by omega) (by simp;omega) (by simp;omega) (by omega) (by omega) (by rintro rfl;simp at hm;omega) (by rintro rfl;simp at hb2;omega) (fun x hx=>iX x (by simp[hx])) (fun x hx=>iY x (by simp[hx])) qA2 qB2 (fun x hx y hy=>hxy x (by simp[hx]) y (by simp[hy])) (fun Z2 p2 s2=>?_)
       simpa using fin Z1 Z2 p1 s1 p2 s2
      ·have:A2=[]\/B2=[]:=by
        by_cases hA:A2=[]
        ·exact Or.inl hA
        ·right;have:=List.length_pos_iff.2 hA
         cases B2 with
         |nil=>rfl
         |cons=>simp at hb2;omega
       have:=fin Z1 (A2++B2) p1 s1 (List.Perm.refl _) (EN qA2 qB2 (this.elim Or.inl fun h=>Or.inr (Or.inl h)))
       simpa using this
     have stage1:((a<i)/\(i<mid)->CX f (P++A1++B1++(A2++B2++S)) a i mid c fun c_987=>((mid<((mid+m)-i))/\(((mid+m)-i)<b)->CX f c_987 mid ((mid+m)-i) b c fun c_997=>Q c_997)/\(¬((mid<((mid+m)-i))/\(((mid+m)-i)<b))->Q c_987))/\(¬((a<i)/\(i<mid))->((mid<((mid+m)-i))/\(((mid+m)-i)<b)->CX f (P++A1++B1++(A2++B2++S)) mid ((mid+m)-i) b c fun c_997=>Q c_997)/\(¬((mid<((mid+m)-i))/\(((mid+m)-i)<b))->Q (P++A1++B1++(A2++B2++S)))):=by
      refine⟨fun hc=>?_,fun hc=>?_⟩
      ·refine Ki hv f (P:=P) (X:=A1) (Y:=B1) (S:=A2++B2++S) (by omega) (by simp;omega) (by omega) (by omega) (by omega) (by rintro rfl;simp at lA;omega) (by rintro rfl;simp at lB;omega) (fun x hx=>iX x (by simp[hx])) (fun x hx=>iY x (by simp[hx])) qA1 qB1 (fun x hx y hy=>hxy x (by simp[hx]) y (by simp[hy])) (fun Z1 p1 s1=>?_)
       have:=stage2 Z1 p1 s1
       have e:P++Z1++(A2++B2++S)=P++Z1++A2++B2++S:=by simp
       rw[e];exact this
      ·have:A1=[]\/B1=[]:=by
        by_cases hA:A1=[]
        ·exact Or.inl hA
        ·right;have:=List.length_pos_iff.2 hA
         cases B1 with
         |nil=>rfl
         |cons=>simp at lB;omega
       have:=stage2 (A1++B1) (List.Perm.refl _) (EN qA1 qB1 (this.elim Or.inl fun h=>Or.inr (Or.inl h)))
       have e:P++A1++B1++(A2++B2++S)=P++(A1++B1)++A2++B2++S:=by simp
       rw[e];exact this
     refine Ae ⟨fun hc=>?_,fun hc=>Ae ?_⟩
     ·have e:P++(A1++A2)++(B1++B2)++S=(P++A1)++A2++B1++(B2++S):=by simp
      rw[e]
      refine ZQ (P:=P++A1) (X:=A2) (Y:=B1) (S:=B2++S) (by simp;omega) (by simp;omega) (by omega) (by omega) (by rintro rfl;simp at hm;omega) (by rintro rfl;simp at lB;omega) (Ae ?_)
      have e2:P++A1++B1++A2++(B2++S)=P++A1++B1++(A2++B2++S):=by simp
      rw[e2];exact stage1
     ·have:A2=[]\/B1=[]:=by
       by_cases hA:A2=[]
       ·exact Or.inl hA
       ·right;have:=List.length_pos_iff.2 hA
        cases B1 with
        |nil=>rfl
        |cons=>simp at lB;omega
      have e2:P++(A1++A2)++(B1++B2)++S=P++A1++B1++(A2++B2++S):=by
       rcases this with rfl|rfl<;>simp
      rw[e2];exact stage1
   refine⟨by unfold I64;omega,by unfold I64;omega,Ae ⟨fun hc=>⟨by unfold I64;omega,by unfold I64;omega,?_⟩,fun hc=>⟨by unfold I64;omega,?_⟩⟩⟩
   ·exact main _ _ (Or.inr (by omega)) (Or.inr (by omega)) (by omega) (by omega) (by omega) (by omega) (by omega)
   ·exact main _ _ (Or.inl rfl) (Or.inl rfl) (by omega) (by omega) (by omega) (by omega) (by omega)
end
end Go.Vc
namespace Go.Vc
def Jq(lo hi:Int):List Int:=(List.range (hi-lo).toNat).map fun k:Nat=>lo+(k:Int)
theorem Dk{lo hi:Int}:(Jq lo hi).length=(hi-lo).toNat:=by simp[Jq]
theorem rgI_mem{lo hi x:Int}:x∈Jq lo hi↔lo<=x/\x<hi:=by
 simp only[Jq,List.mem_map,List.mem_range];constructor
 ·rintro⟨k,hk,rfl⟩;omega
 ·rintro⟨h1,h2⟩;exact⟨(x-lo).toNat,by omega,by omega⟩
theorem MM{lo m hi:Int}(h1:lo<=m)(h2:m<=hi):Jq lo hi=Jq lo m++Jq m hi:=by
 have e:(hi-lo).toNat=(m-lo).toNat+(hi-m).toNat:=by omega
 simp only[Jq,e,List.range_add,List.map_append,List.map_map]
 congr 1
 refine List.map_congr_left fun k _=>?_
 simp;omega
theorem Aak{lo hi:Int}:(Jq lo hi).Pairwise (·<·):=by
 refine List.Pairwise.map _ (fun a b h=>?_) (List.pairwise_lt_range)
 omega
section
variable{c:List Val}
inductive Ch (c:List Val) (bs n:Int):Int->List Int->Prop
 |nil:Ch c bs n n []
 |cons {lo:Int} {X W:List Int}:lo<n->X.Perm (Jq lo (min (lo+bs) n))->X.Pairwise (ltI c)->Ch c bs n (min (lo+bs) n) W->Ch c bs n lo (X++W)
theorem Ch.len{bs n lo:Int}{W:List Int}(hbs:0<bs)(h:Ch c bs n lo W):(W.length:Int)=n-lo:=by
 induction h with
 |nil=>simp
 |cons h1 h2 h3 h4 ih=>have:=h2.length_eq;rw[Dk] at this;simp;omega
theorem Ch.end'{bs n:Int}{W:List Int}(h:Ch c bs n n W):W=[]:=by
 cases h with
 |nil=>rfl
 |cons h1=>omega
theorem XH(hv:HvL c){n:Int}{Q:List Int->Prop}(hn:n=c.length)(hn2:n<=1000000)(h:∀d,d.Perm (Jq 0 n)->d.Pairwise (ltI c)->Q d):Oa (Jq 0 n) n c Q:=by
 have inR:∀lo hi:Int,0<=lo->hi<=n->Acm c (Jq lo hi):=fun lo hi h0 h1 i hi=>by have:=rgI_mem.1 hi;exact⟨by omega,by omega⟩
 refine⟨fun s=>∃Z,s.1=Z++Jq s.2.1 n/\s.2.2=s.2.1+20/\0<=s.2.1/\s.2.1<=n/\s.2.1=Z.length/\∀W,Ch c 20 n s.2.1 W->Ch c 20 n 0 (Z++W),fun s=>(n-s.2.1).toNat,⟨[],by simp,by simp,by simp,by simp;omega,by simp,fun W hW=>by simpa using hW⟩,?_⟩
 rintro⟨d,a,b⟩⟨Z,e1,e2,e3,e4,e5,e6⟩
 simp only at e1 e2 e3 e4 e5 e6
 subst e1
 refine⟨fun hb=>?_,fun hb=>?_⟩
 ·have er:Z++Jq a n=Z++Jq a b++Jq b n:=by rw[MM (m:=b) (by omega) hb];simp
  rw[er]
  refine RU hv (by simp[Dk];omega) e5 (by rw[Dk];omega) (inR _ _ e3 hb) Aak (fun Y hY sY=>⟨by unfold I64;omega,⟨Z++Y,by simp,rfl,by show 0<=b;omega,hb,?_,fun W hW=>?_⟩,by show(n-b).toNat<(n-a).toNat;omega⟩)
  ·have:=hY.length_eq;rw[Dk] at this;show b=_;simp;omega
  ·have eb:min (a+20) n=b:=by omega
   have:=e6 (Y++W) (Ch.cons (by omega) (by rw[eb];exact hY) sY (by rw[eb];exact hW))
   simpa using this
 ·have er:Z++Jq a n=Z++Jq a n++[]:=by simp
  rw[er]
  refine RU hv (by simp[Dk];omega) e5 (by rw[Dk];omega) (inR _ _ e3 (by omega)) Aak (fun Y hY sY=>?_)
  have hch:Ch c 20 n 0 (Z++Y++[]):=by
   rw[List.append_nil]
   by_cases ha:a<n
   ·have eb:min (a+20) n=n:=by omega
    have:=e6 (Y++[]) (Ch.cons ha (by rw[eb];exact hY) sY (by rw[eb];exact Ch.nil))
    simpa using this
   ·have ha:a=n:=by omega
    subst ha
    have:Y=[]:=List.length_eq_zero_iff.1 (by have:=hY.length_eq;rw[Dk] at this;omega)
    subst this
    exact e6 [] Ch.nil
  clear e6 er hb
  refine⟨fun s=>Ch c s.2 n 0 s.1/\20<=s.2/\s.2<=4000000,fun s=>(n-s.2).toNat,⟨hch,by simp,by simp⟩,?_⟩
  rintro⟨d,bs⟩⟨g1,g2,g3⟩
  simp only at g1 g2 g3
  refine⟨fun hbs=>⟨by unfold I64;omega,?_⟩,fun hbs=>?_⟩
  ·refine⟨fun s=>∃Z W,s.1=Z++W/\s.2.2=s.2.1+2* bs/\0<=s.2.1/\s.2.1<=n/\s.2.1=Z.length/\Ch c bs n s.2.1 W/\∀W,Ch c (bs* 2) n s.2.1 W->Ch c (bs* 2) n 0 (Z++W),fun s=>(n-s.2.1).toNat,⟨[],d,by simp,by simp,by simp,by simp;omega,by simp,g1,fun W hW=>by simpa using hW⟩,?_⟩
   rintro⟨d,a,b⟩⟨Z,W,f1,f2,f3,f4,f5,f6,f7⟩
   simp only at f1 f2 f3 f4 f5 f6 f7
   subst f1
   refine⟨fun hb=>⟨by unfold I64;omega,?_⟩,fun hb=>Ae ⟨by unfold I64;omega,fun hab=>?_,fun hab=>?_⟩⟩
   ·cases f6 with
    |nil=>omega
    |cons h1 h2 h3 h4=>
     rename_i X W1
     rw[show min (a+bs) n=a+bs by omega] at h2 h4
     cases h4 with
     |nil=>omega
     |cons k1 k2 k3 k4=>
      rename_i Y W2
      rw[show min (a+bs+bs) n=b by omega] at k2 k4
      have lX:=h2.length_eq;have lY:=k2.length_eq;have lW:=k4.len (by omega)
      rw[Dk] at lX lY
      rw[show Z++(X++(Y++W2))=Z++X++Y++W2 by simp]
      refine⟨_,Ki hv _ (Nat.lt_succ_self _) (by simp;omega) f5 (by omega) (by omega) (by rintro rfl;simp at lX;omega) (by rintro rfl;simp at lY;omega)
       (fun i hi=>inR _ _ f3 (by omega:a+bs<=n) i (h2.mem_iff.1 hi)) (fun i hi=>inR _ _ (by omega:0<=a+bs) hb i (k2.mem_iff.1 hi)) h3 k3
       (fun x hx y hy=>by have:=rgI_mem.1 (h2.mem_iff.1 hx);have:=rgI_mem.1 (k2.mem_iff.1 hy);omega) (fun V pV sV=>⟨by unfold I64;omega,by unfold I64;omega,⟨Z++V,W2,by simp,rfl,by show 0<=b;omega,hb,?_,k4,fun W' hW'=>?_⟩,by show(n-b).toNat<(n-a).toNat;omega⟩)⟩
      ·have:=pV.length_eq;simp at this;show b=_;simp;omega
      ·have eb:min (a+bs* 2) n=b:=by omega
       have pr:V.Perm (Jq a b):=by
        rw[MM (m:=a+bs) (by omega) (by omega)];exact pV.trans (h2.append k2)
       have:=f7 (V++W') (Ch.cons (by omega) (by rw[eb];exact pr) sV (by rw[eb];exact hW'))
       simpa using this
   ·cases f6 with
    |nil=>omega
    |cons h1 h2 h3 h4=>
     rename_i X W1
     rw[show min (a+bs) n=a+bs by omega] at h2 h4
     cases h4 with
     |nil=>omega
     |cons k1 k2 k3 k4=>
      rename_i Y W2
      rw[show min (a+bs+bs) n=n by omega] at k2 k4
      have:=k4.end';subst this
      have lX:=h2.length_eq;have lY:=k2.length_eq
      rw[Dk] at lX lY
      rw[show Z++(X++(Y++[]))=Z++X++Y++[] by simp]
      refine⟨_,Ki hv _ (Nat.lt_succ_self _) (by simp;omega) f5 (by omega) (by omega) (by rintro rfl;simp at lX;omega) (by rintro rfl;simp at lY;omega)
       (fun i hi=>inR _ _ f3 (by omega:a+bs<=n) i (h2.mem_iff.1 hi)) (fun i hi=>inR _ _ (by omega:0<=a+bs) (by omega:n<=n) i (k2.mem_iff.1 hi)) h3 k3
       (fun x hx y hy=>by have:=rgI_mem.1 (h2.mem_iff.1 hx);have:=rgI_mem.1 (k2.mem_iff.1 hy);omega) (fun V pV sV=>⟨by unfold I64;omega,⟨?_,by show 20<=bs* 2;omega,by show bs* 2<=4000000;omega⟩,by show(n-bs* 2).toNat<(n-bs).toNat;omega⟩)⟩
      have eb:min (a+bs* 2) n=n:=by omega
      have pr:V.Perm (Jq a n):=by
       rw[MM (m:=a+bs) (by omega) (by omega)];exact pV.trans (h2.append k2)
      have:=f7 (V++[]) (Ch.cons (by omega) (by rw[eb];exact pr) sV (by rw[eb];exact Ch.nil))
      simpa using this
   ·refine⟨by unfold I64;omega,⟨f7 W ?_,by show 20<=bs* 2;omega,by show bs* 2<=4000000;omega⟩,by show(n-bs* 2).toNat<(n-bs).toNat;omega⟩
    cases f6 with
    |nil=>exact Ch.nil
    |cons h1 h2 h3 h4=>
     rw[show min (a+bs) n=n by omega] at h2 h4
     exact Ch.cons h1 (by rw[show min (a+bs* 2) n=n by omega];exact h2) h3 (by rw[show min (a+bs* 2) n=n by omega,h4.end'];exact Ch.nil)
  ·generalize hz:(0:Int)=z at g1
   cases g1 with
   |nil=>subst hz;exact h [] (by simp[Jq]) List.Pairwise.nil
   |cons h1 h2 h3 h4=>
    subst hz
    rw[show min (0+bs) n=n by omega] at h2 h4
    rw[h4.end',List.append_nil];exact h _ h2 h3
theorem Xo(hv:HvL c){Q:List Int->Prop}(hn2:(c.length:Int)<=1000000)(h:∀d,d.Perm (Jq 0 c.length)->d.Pairwise (ltI c)->Q d):Ob (Jq 0 c.length) c Q:=by
 intro _
 rw[show(((Jq 0 (c.length:Int)).length:Nat):Int)=c.length by rw[Dk];omega]
 exact XH hv rfl hn2 h
end
end Go.Vc
namespace Go.Vc
abbrev VP:=Val×Val
def FY(k v:Val):List VP->List VP
 |[]=>[(k,v)]
 |b::l=>if AK k b.1<0 then(k,v)::b::l else if AK k b.1=0 then b::l else b::FY k v l
def BO(ps:List VP):List VP:=ps.foldl (fun s p=>FY p.1 p.2 s) []
def ER(k v:List Val):Val:=if 1+CZ k+CZ v<=1024 then .fn k v (1+CZ k+CZ v) else .nil
def CC(k v:List Val):Val:=ER ((BO (k.zip v)).map (·.1)) ((BO (k.zip v)).map (·.2))
def JA(l:List VP):Prop:=l.Pairwise fun a b=>AK a.1 b.1<0
def On(l:List VP):Prop:=∀p∈l,Hv p.1
def FirstIn(ps:List VP)(p:VP):Prop:=∃A B,ps=A++p::B/\∀q∈A,q.1≠p.1
theorem FirstIn.snoc{ps:List VP}{q p:VP}:FirstIn (ps++[q]) p↔FirstIn ps p\/(p=q/\∀r∈ps,r.1≠q.1):=by
 constructor
 ·rintro⟨A,B,e,h⟩
  by_cases hB:B=[]
  ·subst hB
   have:=List.append_inj' (s₁:=ps) (t₁:=[q]) (s₂:=A) (t₂:=[p]) e rfl
   simp at this
   obtain⟨rfl,rfl⟩:=this
   exact Or.inr ⟨rfl,h⟩
  ·obtain⟨B',b,rfl⟩:=Dg hB
   have e':ps++[q]=(A++p::B')++[b]:=by rw[e];simp
   have:=(List.append_inj' e' rfl).1
   exact Or.inl ⟨A,B',this,h⟩
 ·rintro(⟨A,B,rfl,h⟩|⟨rfl,h⟩)
  ·exact⟨A,B++[q],by simp,h⟩
  ·exact⟨ps,[],rfl,h⟩
theorem Ik{k v:Val}(hk:Hv k):∀{l:List VP},On l->JA l->∀p,p∈FY k v l↔p∈l\/(p=(k,v)/\∀q∈l,q.1≠k)
 |[],_,_,p=>by simp[FY]
 |b::l,h,ha,p=>by
  have ha':=List.pairwise_cons.1 ha
  simp only[FY];split
  ·rename_i h1
   have hne:∀q∈b::l,q.1≠k:=fun q hq e=>by
    rcases List.mem_cons.1 hq with rfl|hq
    ·rw[e] at h1;exact Dr h1
    ·have:=DL h1 (ha'.1 q hq);rw[e] at this;exact Dr this
   constructor
   ·intro hp
    rcases List.mem_cons.1 hp with rfl|hp
    ·exact Or.inr ⟨rfl,hne⟩
    ·exact Or.inl hp
   ·rintro(hp|⟨rfl,_⟩)
    ·exact List.mem_cons_of_mem _ hp
    ·exact List.mem_cons_self ..
  ·split
   ·rename_i h1 h0
    have:=Gf hk (h b (by simp)) h0
    constructor
    ·exact Or.inl
    ·rintro(hp|⟨_,hq⟩)
     ·exact hp
     ·exact absurd this.symm (hq b (by simp))
   ·rename_i h1 h0
    have hb:b.1≠k:=fun e=>h0 (by rw[e];exact En k)
    have ih:=Ik (v:=v) hk (fun q hq=>h q (List.mem_cons_of_mem _ hq)) ha'.2 p
    constructor
    ·intro hp
     rcases List.mem_cons.1 hp with rfl|hp
     ·exact Or.inl (List.mem_cons_self ..)
     ·rcases ih.1 hp with hp|⟨rfl,hq⟩
      ·exact Or.inl (List.mem_cons_of_mem _ hp)
      ·refine Or.inr ⟨rfl,fun q hm=>?_⟩
       rcases List.mem_cons.1 hm with rfl|hm
       ·exact hb
       ·exact hq q hm
    ·rintro(hp|⟨rfl,hq⟩)
     ·rcases List.mem_cons.1 hp with rfl|hp
      ·exact List.mem_cons_self ..
      ·exact List.mem_cons_of_mem _ (ih.2 (Or.inl hp))
     ·exact List.mem_cons_of_mem _ (ih.2 (Or.inr ⟨rfl,fun q hm=>hq q (List.mem_cons_of_mem _ hm)⟩))
theorem RB{k v:Val}(hk:Hv k):∀{l:List VP},On l->On (FY k v l)
 |[],_=>by intro p hp;simp[FY] at hp;subst hp;exact hk
 |b::l,h=>by
  intro p hp
  simp only[FY] at hp
  split at hp
  ·rcases List.mem_cons.1 hp with rfl|hp
   ·exact hk
   ·exact h p hp
  ·split at hp
   ·exact h p hp
   ·rcases List.mem_cons.1 hp with rfl|hp
    ·exact h _ (by simp)
    ·exact RB hk (fun q hq=>h q (List.mem_cons_of_mem _ hq)) p hp
theorem Sc{k v:Val}(hk:Hv k):∀{l:List VP},On l->JA l->JA (FY k v l)
 |[],_,_=>by simp[FY,JA]
 |b::l,h,hs=>by
  have hs':=List.pairwise_cons.1 hs
  have h':On l:=fun q hq=>h q (List.mem_cons_of_mem _ hq)
  simp only[FY];split
  ·rename_i h1
   exact List.pairwise_cons.2 ⟨fun x hx=>by
    rcases List.mem_cons.1 hx with rfl|hx
    ·exact h1
    ·exact DL h1 (hs'.1 x hx),hs⟩
  ·rename_i h1
   split
   ·exact hs
   ·rename_i h2
    have h3:AK b.1 k<0:=by rw[BK k b.1];omega
    refine List.pairwise_cons.2 ⟨fun x hx=>?_,Sc hk h' hs'.2⟩
    rcases(Ik hk h' hs'.2 x).1 hx with hx|⟨rfl,_⟩
    ·exact hs'.1 x hx
    ·exact h3
theorem HV:∀(r:List VP),On r->∀{ps s:List VP},On ps->On s->JA s->(∀p,p∈s↔FirstIn ps p)->(∀q∈ps,∃p∈s,p.1=q.1)->
  JA (r.foldl (fun s p=>FY p.1 p.2 s) s)/\∀p,p∈r.foldl (fun s p=>FY p.1 p.2 s) s↔FirstIn (ps++r) p
 |[],_,ps,s,_,_,h2,h3,_=>by rw[List.append_nil];exact⟨h2,h3⟩
 |q::r,hr,ps,s,h0,h1,h2,h3,h4=>by
  have hq:=hr q (by simp)
  have e:ps++q::r=(ps++[q])++r:=by simp
  rw[e]
  have sq:∀x∈s,∃p∈ps,p.1=x.1:=fun x hx=>by
   obtain⟨A,B,rfl,_⟩:=(h3 x).1 hx;exact⟨x,by simp,rfl⟩
  refine HV r (fun p hp=>hr p (List.mem_cons_of_mem _ hp)) (ps:=ps++[q]) ?_ (RB hq h1) (Sc hq h1 h2) (fun p=>?_) (fun p hp=>?_)
  ·intro p hp
   rcases List.mem_append.1 hp with hp|hp
   ·exact h0 p hp
   ·rw[List.mem_singleton.1 hp];exact hq
  ·rw[Ik hq h1 h2,FirstIn.snoc,h3]
   constructor
   ·rintro(h|⟨rfl,h⟩)
    ·exact Or.inl h
    ·exact Or.inr ⟨rfl,fun r hr e=>by obtain⟨p,hp,e2⟩:=h4 r hr;exact h p hp (e2.trans e)⟩
   ·rintro(h|⟨rfl,h⟩)
    ·exact Or.inl h
    ·exact Or.inr ⟨rfl,fun r hr e=>by obtain⟨p,hp,e2⟩:=sq r hr;exact h p hp (e2.trans e)⟩
  ·by_cases hx:∃x∈s,x.1=p.1
   ·obtain⟨x,hx,e⟩:=hx
    exact⟨x,(Ik hq h1 h2 x).2 (Or.inl hx),e⟩
   ·rcases List.mem_append.1 hp with hp|hp
    ·exact absurd (h4 p hp) hx
    ·obtain rfl:=List.mem_singleton.1 hp
     exact⟨(p.1,p.2),(Ik hq h1 h2 _).2 (Or.inr ⟨rfl,fun x hm e=>hx ⟨x,hm,e⟩⟩),rfl⟩
theorem Hl{ps:List VP}(h:On ps):JA (BO ps):=(HV ps h (ps:=[]) (s:=[]) (fun _ h=>by cases h) (fun _ h=>by cases h) List.Pairwise.nil (fun p=>by simp[FirstIn]) (fun _ h=>by cases h)).1
theorem JK{ps:List VP}(h:On ps)(p:VP):p∈BO ps↔FirstIn ps p:=by
 have:=(HV ps h (ps:=[]) (s:=[]) (fun _ h=>by cases h) (fun _ h=>by cases h) List.Pairwise.nil (fun p=>by simp[FirstIn]) (fun _ h=>by cases h)).2 p
 rw[List.nil_append] at this;exact this
theorem Ni:∀{x y:List VP},JA x->JA y->(∀a,a∈x↔a∈y)->x=y
 |[],[],_,_,_=>rfl
 |[],b::y,_,_,h=>absurd ((h b).2 (by simp)) (by simp)
 |a::x,[],_,_,h=>absurd ((h a).1 (by simp)) (by simp)
 |a::x,b::y,hx,hy,h=>by
  have hx':=List.pairwise_cons.1 hx
  have hy':=List.pairwise_cons.1 hy
  have hab:a=b:=by
   rcases List.mem_cons.1 ((h a).1 (by simp)) with e|m1
   ·exact e
   ·rcases List.mem_cons.1 ((h b).2 (by simp)) with e|m2
    ·exact e.symm
    ·exact absurd (hx'.1 b m2) (Tg (hy'.1 a m1))
  subst hab
  rw[Ni hx'.2 hy'.2 fun c=>⟨fun hc=>?_,fun hc=>?_⟩]
  ·rcases List.mem_cons.1 ((h c).1 (by simp[hc])) with e|m
   ·subst e;exact absurd (hx'.1 c hc) Dr
   ·exact m
  ·rcases List.mem_cons.1 ((h c).2 (by simp[hc])) with e|m
   ·subst e;exact absurd (hy'.1 c hc) Dr
   ·exact m
theorem Jp{ps:List VP}(h:On ps)(ha:JA ps):BO ps=ps:=by
 refine Ni (Hl h) ha fun p=>(JK h p).trans ⟨?_,fun hp=>?_⟩
 ·rintro⟨A,B,rfl,_⟩;simp
 ·obtain⟨A,B,rfl⟩:=List.append_of_mem hp
  refine⟨A,B,rfl,fun q hq e=>?_⟩
  have:=(List.pairwise_append.1 ha).2.2 q hq p (by simp)
  rw[e] at this;exact Dr this
section
variable{c vs:List Val}
def kp(c vs:List Val):Option Int->List Int->List VP
 |_,[]=>[]
 |p,i::r=>if∃q,p=some q/\AK (ix c q) (ix c i)=0 then kp c vs (some i) r else(ix c i,ix vs i)::kp c vs (some i) r
theorem ME{q i:Int}{r:List Int}:kp c vs (some q) (i::r)=if AK (ix c q) (ix c i)=0 then kp c vs (some i) r else(ix c i,ix vs i)::kp c vs (some i) r:=by simp[kp]
theorem Qj{i:Int}{r:List Int}:kp c vs none (i::r)=(ix c i,ix vs i)::kp c vs (some i) r:=by simp[kp]
theorem UM{i j:Int}(h:ltI c i j):AK (ix c i) (ix c j)<=0:=by rcases h with h|h<;>omega
theorem Acx:∀{r:List Int}{q:Int},(q::r).Pairwise (ltI c)->(∀p∈kp c vs (some q) r,AK (ix c q) p.1<0)/\JA (kp c vs (some q) r)
 |[],q,_=>by simp[kp,JA]
 |i::r,q,h=>by
  have h':=List.pairwise_cons.1 h
  have h2:=Acx h'.2
  have hq:=h'.1 i (by simp)
  rw[ME];split
  ·rename_i h0
   refine⟨fun p hp=>?_,h2.2⟩
   have:=h2.1 p hp
   by_cases h5:AK (ix c q) p.1<0
   ·exact h5
   ·have e1:=BK (ix c q) p.1
    have e2:=BK (ix c i) p.1
    have e3:=Cp (a:=p.1) (b:=ix c q) (c:=ix c i) (by omega) (by omega)
    omega
  ·rename_i h0
   have h6:AK (ix c q) (ix c i)<0:=by have:=UM hq;omega
   refine⟨fun p hp=>?_,List.pairwise_cons.2 ⟨h2.1,h2.2⟩⟩
   rcases List.mem_cons.1 hp with rfl|hp
   ·exact h6
   ·exact DL h6 (h2.1 p hp)
theorem Adi:∀{d:List Int},d.Pairwise (ltI c)->JA (kp c vs none d)
 |[],_=>by simp[kp,JA]
 |i::r,h=>by rw[Qj];have:=Acx (vs:=vs) h;exact List.pairwise_cons.2 this
theorem Aas:∀{r:List Int}{q:Int},(q::r).Pairwise (ltI c)->HvL c->(∀i∈q::r,In i c)->∀p,p∈kp c vs (some q) r↔∃i∈r,p=(ix c i,ix vs i)/\ix c q≠ix c i/\∀j∈r,j<i->ix c j≠ix c i
 |[],q,_,_,_,p=>by simp[kp]
 |i::r,q,h,hv,hin,p=>by
  have h':=List.pairwise_cons.1 h
  have h'':=List.pairwise_cons.1 h'.2
  have ih:=Aas h'.2 hv (fun j hj=>hin j (List.mem_cons_of_mem _ hj)) p
  have hq:=h'.1 i (by simp)
  have hvi:∀j∈q::i::r,Hv (ix c j):=fun j hj=>HvL_iff.1 hv _ (Az (hin j hj).1 (hin j hj).2)
  have key:∀j∈r,ix c i=ix c j->i<j:=fun j hj e=>by
   rcases h''.1 j hj with hl|hl
   ·rw[e] at hl;exact absurd hl Dr
   ·exact hl.2
  rw[ME];split
  ·rename_i h0
   have e0:=Gf (hvi q (by simp)) (hvi i (by simp)) h0
   rw[ih,e0];constructor
   ·rintro⟨k,hk,e,hne,hj⟩
    refine⟨k,by simp[hk],e,hne,fun j hj2 hlt=>?_⟩
    rcases List.mem_cons.1 hj2 with rfl|hj2
    ·exact hne
    ·exact hj j hj2 hlt
   ·rintro⟨k,hk,e,hne,hj⟩
    rcases List.mem_cons.1 hk with rfl|hk
    ·exact absurd rfl hne
    ·exact⟨k,hk,e,hne,fun j hj2 hlt=>hj j (by simp[hj2]) hlt⟩
  ·rename_i h0
   have hne0:ix c q≠ix c i:=fun e=>h0 (by rw[e];exact En _)
   have hqr:∀k∈r,ix c q≠ix c k:=fun k hk e=>by
    have e1:=UM hq
    have e2:=UM (h''.1 k hk)
    rw[<-e] at e2
    have:=BK (ix c q) (ix c i);omega
   rw[List.mem_cons,ih];constructor
   ·rintro(e|⟨k,hk,e,hne,hj⟩)
    ·refine⟨i,by simp,e,hne0,fun j hj hlt e2=>?_⟩
     rcases List.mem_cons.1 hj with rfl|hj
     ·omega
     ·have:=key j hj e2.symm;omega
    ·refine⟨k,by simp[hk],e,hqr k hk,fun j hj2 hlt=>?_⟩
     rcases List.mem_cons.1 hj2 with rfl|hj2
     ·exact hne
     ·exact hj j hj2 hlt
   ·rintro⟨k,hk,e,hne,hj⟩
    rcases List.mem_cons.1 hk with rfl|hk
    ·exact Or.inl e
    ·exact Or.inr ⟨k,hk,e,fun e2=>hj i (by simp) (key k hk e2) e2,fun j hj2 hlt=>hj j (by simp[hj2]) hlt⟩
theorem Sf{d:List Int}(h:d.Pairwise (ltI c))(hv:HvL c)(hin:∀i∈d,In i c)(p:VP):p∈kp c vs none d↔∃i∈d,p=(ix c i,ix vs i)/\∀j∈d,j<i->ix c j≠ix c i:=by
 cases d with
 |nil=>simp[kp]
 |cons i r=>
  have h':=List.pairwise_cons.1 h
  rw[Qj,List.mem_cons,Aas h hv hin]
  have key:∀j∈r,ix c i=ix c j->i<j:=fun j hj e=>by
   rcases h'.1 j hj with hl|hl
   ·rw[e] at hl;exact absurd hl Dr
   ·exact hl.2
  constructor
  ·rintro(e|⟨k,hk,e,hne,hj⟩)
   ·refine⟨i,by simp,e,fun j hj hlt e2=>?_⟩
    rcases List.mem_cons.1 hj with rfl|hj
    ·omega
    ·have:=key j hj e2.symm;omega
   ·refine⟨k,by simp[hk],e,fun j hj2 hlt=>?_⟩
    rcases List.mem_cons.1 hj2 with rfl|hj2
    ·exact hne
    ·exact hj j hj2 hlt
  ·rintro⟨k,hk,e,hj⟩
   rcases List.mem_cons.1 hk with rfl|hk
   ·exact Or.inl e
   ·exact Or.inr ⟨k,hk,e,fun e2=>hj i (by simp) (key k hk e2) e2,fun j hj2 hlt=>hj j (by simp[hj2]) hlt⟩
theorem RN{i:Int}(h0:0<=i)(h1:i<c.length)(hl:c.length=vs.length):(c.zip vs)[i.toNat]? =some (ix c i,ix vs i):=by
 have h2:i.toNat<c.length:=by omega
 have h3:i.toNat<vs.length:=by omega
 rw[List.getElem?_eq_getElem (by simp;omega)];simp[ix,h2,h3]
theorem Zh{d:List Int}(hp:d.Perm (Jq 0 c.length))(h:d.Pairwise (ltI c))(hv:HvL c)(hl:c.length=vs.length):kp c vs none d=BO (c.zip vs):=by
 have hz:On (c.zip vs):=fun p hp=>HvL_iff.1 hv _ (List.of_mem_zip hp).1
 have hin:∀i∈d,In i c:=fun i hi=>by have:=rgI_mem.1 (hp.mem_iff.1 hi);exact⟨this.1,this.2⟩
 refine Ni (Adi h) (Hl hz) fun p=>(Sf h hv hin p).trans ((JK hz p).trans ?_).symm
 constructor
 ·rintro⟨A,B,e,hA⟩
  have hlen:=congrArg List.length e
  simp at hlen
  have hi1:((A.length:Nat):Int)<c.length:=by omega
  have e1:=RN (c:=c) (vs:=vs) (i:=(A.length:Int)) (by omega) hi1 hl
  rw[e] at e1
  simp at e1
  refine⟨A.length,hp.mem_iff.2 (rgI_mem.2 ⟨by omega,hi1⟩),e1,fun j hj hlt e2=>?_⟩
  have hj':=rgI_mem.1 (hp.mem_iff.1 hj)
  have e3:=RN (c:=c) (vs:=vs) hj'.1 hj'.2 hl
  rw[e,List.getElem?_append_left (by omega)] at e3
  have:=hA _ (List.mem_of_getElem? e3)
  rw[e1] at this;exact this e2
 ·rintro⟨i,hi,rfl,hj⟩
  have hi':=rgI_mem.1 (hp.mem_iff.1 hi)
  have e1:=RN (c:=c) (vs:=vs) hi'.1 hi'.2 hl
  obtain⟨hlt,e2⟩:=List.getElem?_eq_some_iff.1 e1
  refine⟨(c.zip vs).take i.toNat,(c.zip vs).drop (i.toNat+1),?_,fun q hq e=>?_⟩
  ·rw[<-e2,<-List.drop_eq_getElem_cons,List.take_append_drop]
  ·obtain⟨j,hjl,ej⟩:=mem_take.1 hq
   have e3:=RN (c:=c) (vs:=vs) (i:=(j:Int)) (by omega) (by omega) hl
   rw[Int.toNat_natCast,ej] at e3
   obtain rfl:=Option.some.inj e3
   exact hj j (hp.mem_iff.2 (rgI_mem.2 ⟨by omega,by omega⟩)) (by omega) e
theorem BY{k:Nat}(h:k<=1000001):AY k 16:=⟨by omega,by unfold maxLen;omega⟩
theorem Pq{d:List Int}{o:Option Int}{p:VP}(h:p∈kp c vs o d):∃i∈d,p=(ix c i,ix vs i):=by
 induction d generalizing o with
 |nil=>simp[kp] at h
 |cons i r ih=>
  simp only[kp] at h;split at h
  ·obtain⟨j,hj,e⟩:=ih h;exact⟨j,by simp[hj],e⟩
  ·rcases List.mem_cons.1 h with rfl|h
   ·exact⟨i,by simp,rfl⟩
   ·obtain⟨j,hj,e⟩:=ih h;exact⟨j,by simp[hj],e⟩
theorem DE{Q:Val->Prop}(hc:FitL c)(hvs:FitL vs)(hl:c.length=vs.length)(hn:c.length<=1000000)(h:Q (CC c vs)):CL c vs Q:=by
 have hv:=hc.hv
 have hvv:=hvs.hv
 intro _
 refine⟨⟨by omega,by omega,by omega⟩,fun _=>?_⟩
 have en:((c.length:Nat):Int).toNat=c.length:=by omega
 have el:((List.replicate ((c.length:Nat):Int).toNat (0:Int)).length:Int)=c.length:=by simp
 rw[el]
 refine⟨fun s=>0<=s.2/\s.2<=c.length/\s.1=Jq 0 s.2++List.replicate (c.length-s.2.toNat) 0,fun s=>(c.length-s.2).toNat,⟨by simp,by simp,by simp[Jq]⟩,?_⟩
 rintro⟨o,x⟩⟨x0,x1,e⟩
 simp only at x0 x1 e
 subst e
 refine⟨fun hx=>⟨⟨x0,by simp[Dk];omega⟩,by unfold I64;omega,⟨by show 0<=x+1;omega,by show x+1<=_;omega,?_⟩,by show((c.length:Int)-(x+1)).toNat<((c.length:Int)-x).toNat;omega⟩,fun hx=>?_⟩
 ·show(Jq 0 x++List.replicate (c.length-x.toNat) 0).set x.toNat x=Jq 0 (x+1)++List.replicate (c.length-(x+1).toNat) 0
  have e1:c.length-x.toNat=(c.length-(x+1).toNat)+1:=by omega
  rw[e1,List.replicate_succ,DJ (by rw[Dk];omega),MM (lo:=0) (m:=x) (hi:=x+1) (by omega) (by omega)]
  have:Jq x (x+1)=[x]:=by
   have:(x+1-x).toNat=1:=by omega
   simp[Jq,this]
  rw[this];simp
 have hx:x=c.length:=by omega
 subst hx
 simp only[en,Nat.sub_self,List.replicate_zero,List.append_nil]
 refine Xo hv (by omega) fun d hp hs=>?_
 have hdl:d.length=c.length:=by rw[hp.length_eq,Dk];omega
 have hin:∀i∈d,In i c:=fun i hi=>by have:=rgI_mem.1 (hp.mem_iff.1 hi);exact⟨this.1,this.2⟩
 have hin2:∀i∈d,In i vs:=fun i hi=>by have:=hin i hi;exact⟨this.1,by rw[<-hl];exact this.2⟩
 have hk:=Zh hp hs hv hl
 have hvP:∀{o:Option Int}{e:List Int},(∀i∈e,i∈d)->0<=CZ ((kp c vs o e).map (·.1))/\0<=CZ ((kp c vs o e).map (·.2)):=fun{o e}he=>by
  constructor
  ·have:=HvL.nn (l:=(kp c vs o e).map (·.1)) (HvL_iff.2 fun a ha=>by
    obtain⟨p,hp,rfl⟩:=List.mem_map.1 ha
    obtain⟨i,hi,rfl⟩:=Pq hp
    exact HvL_iff.1 hv _ (Az (hin i (he i hi)).1 (hin i (he i hi)).2))
   omega
  ·have:=HvL.nn (l:=(kp c vs o e).map (·.2)) (HvL_iff.2 fun a ha=>by
    obtain⟨p,hp,rfl⟩:=List.mem_map.1 ha
    obtain⟨i,hi,rfl⟩:=Pq hp
    exact HvL_iff.1 hvv _ (Az (hin2 i (he i hi)).1 (hin2 i (he i hi)).2))
   omega
 intro _
 refine⟨fun s=>0<=s.2.2.2/\s.2.2.2<=d.length/\s.1.length<=s.2.2.2/\s.2.1.length=s.1.length/\s.2.2.1=1+CZ s.1+CZ s.2.1/\1<=s.2.2.1/\s.2.2.1<=1024/\∃o,(s.2.2.2=0->o=none)/\(0<s.2.2.2->o=some (ix d (s.2.2.2-1)))/\(BO (c.zip vs)).map (·.1)=s.1++(kp c vs o (d.drop s.2.2.2.toNat)).map (·.1)/\(BO (c.zip vs)).map (·.2)=s.2.1++(kp c vs o (d.drop s.2.2.2.toNat)).map (·.2),fun s=>(d.length-s.2.2.2).toNat,⟨by simp,by simp,by simp,by simp,by simp[CZ],by simp,by simp,none,by simp,by simp,by simp[hk],by simp[hk]⟩,?_⟩
 rintro⟨ks,us,w,x⟩⟨x0,x1,x2,x3,x4,x5,x6,o,o1,o2,o3,o4⟩
 simp only at x0 x1 x2 x3 x4 x5 x6 o1 o2 o3 o4
 refine⟨fun hx=>Ae ?_,fun hx=>?_⟩
 ·have hx:x<(d.length:Int):=hx
  have md:=Az x0 hx
  obtain⟨i0,i1⟩:=hin _ md
  have i2:=(hin2 _ md).2
  have g1:=FitL_iff.1 hc _ (Az i0 i1)
  have g2:=FitL_iff.1 hvs _ (Az (l:=vs) i0 i2)
  have dd:=Cm x0 hx
  have wf:0<=CZ ((kp c vs (some (ix d x)) (d.drop (x+1).toNat)).map (·.1))/\0<=CZ ((kp c vs (some (ix d x)) (d.drop (x+1).toNat)).map (·.2)):=hvP fun i hi=>List.mem_of_mem_drop hi
  have keep:(0<x->AK (ix c (ix d (x-1))) (ix c (ix d x))≠0)->kp c vs o (d.drop x.toNat)=(ix c (ix d x),ix vs (ix d x))::kp c vs (some (ix d x)) (d.drop (x+1).toNat):=fun hne=>by
   rw[dd]
   by_cases hz:0<x
   ·rw[o2 hz,ME,if_neg (hne hz)]
   ·rw[o1 (by omega),Qj]
  refine⟨⟨x0,hx⟩,fun _=>Ae ?_⟩
  have rest:(0<x->AK (ix c (ix d (x-1))) (ix c (ix d x))≠0)->Eb (ix c (ix d x)) fun r_1358=>Eb (ix vs (ix d x)) fun r_1361=>I64 (r_1358+r_1361)/\I64 (w+(r_1358+r_1361))/\((1024:Int)<(w+(r_1358+r_1361))->Q Val.nil)/\(¬((1024:Int)<(w+(r_1358+r_1361)))->I64 (x+1)/\((fun s:List Val×List Val×Int×Int=>0<=s.2.2.2/\s.2.2.2<=d.length/\s.1.length<=s.2.2.2/\s.2.1.length=s.1.length/\s.2.2.1=1+CZ s.1+CZ s.2.1/\1<=s.2.2.1/\s.2.2.1<=1024/\∃o,(s.2.2.2=0->o=none)/\(0<s.2.2.2->o=some (ix d (s.2.2.2-1)))/\(BO (c.zip vs)).map (·.1)=s.1++(kp c vs o (d.drop s.2.2.2.toNat)).map (·.1)/\(BO (c.zip vs)).map (·.2)=s.2.1++(kp c vs o (d.drop s.2.2.2.toNat)).map (·.2)) (ks++[ix c (ix d x)],us++[ix vs (ix d x)],w+(r_1358+r_1361),x+1)/\((d.length:Int)-(x+1)).toNat<((d.length:Int)-x).toNat)):=fun hne=>by
   have hkp:=keep hne
   refine Jh (Jh ?_)
   have a1:=g1.pos;have a2:=g1.le;have a3:=g2.pos;have a4:=g2.le
   rw[hkp] at o3 o4
   simp only[List.map_cons] at o3 o4
   refine⟨by unfold I64;omega,by unfold I64;omega,fun hw=>?_,fun hw=>⟨by unfold I64;omega,⟨by show 0<=x+1;omega,by show x+1<=_;omega,by simp;omega,by simp[x3],by simp[Km,CZ];omega,by show(1:Int)<=w+_;omega,by show w+_<=(1024:Int);omega,some (ix d x),fun hz=>absurd hz (by show¬x+1=0;omega),fun _=>by show _=some (ix d (x+1-1));rw[show x+1-1=x by omega],?_,?_⟩,by omega⟩⟩
   ·unfold CC ER at h
    rw[o3,o4,if_neg (by simp only[Km,CZ];omega)] at h;exact h
   ·rw[o3];simp
   ·rw[o4];simp
  refine⟨fun hx0=>⟨by have:0<x:=hx0;unfold I64;omega,⟨by have:0<x:=hx0;show 0<=x-1;omega,by show x-1<(d.length:Int);omega⟩,fun _=>?_⟩,fun hx0=>⟨fun hn=>by simp at hn,fun _=>⟨⟨i0,i1⟩,BY (by simp;omega),⟨i0,i2⟩,BY (by simp;omega),⟨i0,i1⟩,⟨i0,i2⟩,rest (fun hz=>absurd hz hx0)⟩⟩⟩
  have hx0:0<x:=hx0
  have mp:=Az (l:=d) (i:=x-1) (by omega) (by omega)
  obtain⟨p0,p1⟩:=hin _ mp
  refine⟨⟨p0,p1⟩,⟨i0,i1⟩,_,AK (ix c (ix d (x-1))) (ix c (ix d x)),CM _ (Nat.lt_succ_self _) (HvL_iff.1 hv _ (Az p0 p1)) g1.hv rfl,SY _ _,fun hd=>?_,fun hd=>⟨⟨i0,i1⟩,BY (by simp;omega),⟨i0,i2⟩,BY (by simp;omega),⟨i0,i1⟩,⟨i0,i2⟩,rest (fun _=>by simpa using hd)⟩⟩
  have hd:AK (ix c (ix d (x-1))) (ix c (ix d x))=0:=by simpa using hd
  have hkp:kp c vs o (d.drop x.toNat)=kp c vs (some (ix d x)) (d.drop (x+1).toNat):=by
   rw[dd,o2 hx0,ME,if_pos hd]
  rw[hkp] at o3 o4
  exact⟨by unfold I64;omega,⟨by show 0<=x+1;omega,by show x+1<=_;omega,by show(ks.length:Int)<=x+1;omega,x3,x4,x5,x6,some (ix d x),fun hz=>absurd hz (by show¬x+1=0;omega),fun _=>by show _=some (ix d (x+1-1));rw[show x+1-1=x by omega],o3,o4⟩,by show((d.length:Int)-(x+1)).toNat<((d.length:Int)-x).toNat;omega⟩
 ·have hx:¬x<(d.length:Int):=hx
  have hx:x=d.length:=by omega
  subst hx
  rw[List.drop_of_length_le (by omega)] at o3 o4
  simp[kp] at o3 o4
  unfold CC ER at h
  rw[o3,o4,if_pos (by omega),<-x4] at h;exact h
end
def FT(n:Nat):List Val:=(List.range n).map fun k:Nat=>Val.num ((k:Int)+1)
def Cr(l:List Val):Val:=ER (FT l.length) l
theorem GH{n:Nat}:(FT n).length=n:=by simp[FT]
theorem QH{a b:Int}:AK (.num a) (.num b)=cI a b:=by simp[AK,enc,lc,cI]
theorem Tw{n:Nat}:Ih (FT n):=by
 refine List.Pairwise.map _ (fun a b h=>?_) (List.pairwise_lt_range)
 rw[QH];unfold cI;rw[if_pos (by omega)];omega
theorem MZ{n:Nat}(hn:n<=1000000):FitL (FT n):=FitL_iff.2 fun a ha=>by
 obtain⟨k,hk,rfl⟩:=List.mem_map.1 ha
 have:=List.mem_range.1 hk
 show I64 _;unfold I64;omega
theorem Wn{a b:List Val}(h:a.length=b.length):(a.zip b).map (·.1)=a:=by
 rw[List.map_fst_zip];omega
theorem AbT{a b:List Val}(h:a.length=b.length):(a.zip b).map (·.2)=b:=by
 rw[List.map_snd_zip];omega
theorem Aaf{k v:List Val}(hk:HvL k)(ha:Ih k)(hl:k.length=v.length):CC k v=ER k v:=by
 have hz:On (k.zip v):=fun p hp=>HvL_iff.1 hk _ (List.of_mem_zip hp).1
 have:JA (k.zip v):=by
  have:((k.zip v).map (·.1)).Pairwise fun a b=>AK a b<0:=by rw[Wn hl];exact ha
  exact List.pairwise_map.1 this
 unfold CC;rw[Jp hz this,Wn hl,AbT hl]
theorem Gp{l:List Val}{Q:Val->Prop}(hl:FitL l)(hn:l.length<=1000000)(h:Q (Cr l)):BQ l Q:=by
 intro _
 refine⟨⟨by omega,by omega,by omega⟩,fun _=>?_⟩
 have el:((List.replicate ((l.length:Nat):Int).toNat Val.nil).length:Int)=l.length:=by simp
 rw[el]
 refine⟨fun s=>0<=s.2/\s.2<=l.length/\s.1=FT s.2.toNat++List.replicate (l.length-s.2.toNat) Val.nil,fun s=>(l.length-s.2).toNat,⟨by simp,by simp,by simp[FT]⟩,?_⟩
 rintro⟨o,x⟩⟨x0,x1,e⟩
 simp only at x0 x1 e
 subst e
 refine⟨fun hx=>⟨by unfold I64;omega,⟨x0,by simp[GH];omega⟩,by unfold I64;omega,⟨by show 0<=x+1;omega,by show x+1<=_;omega,?_⟩,by show((l.length:Int)-(x+1)).toNat<((l.length:Int)-x).toNat;omega⟩,fun hx=>?_⟩
 ·show(FT x.toNat++List.replicate (l.length-x.toNat) Val.nil).set x.toNat (Val.num (x+1))=FT (x+1).toNat++List.replicate (l.length-(x+1).toNat) Val.nil
  have e1:l.length-x.toNat=(l.length-(x+1).toNat)+1:=by omega
  rw[e1,List.replicate_succ,DJ (by rw[GH];omega),show(x+1).toNat=x.toNat+1 by omega]
  have:FT (x.toNat+1)=FT x.toNat++[.num (x+1)]:=by simp[FT,List.range_succ];omega
  rw[this];simp
 ·have hx:x=l.length:=by omega
  subst hx
  simp only[Int.toNat_natCast,Nat.sub_self,List.replicate_zero,List.append_nil]
  refine DE (MZ hn) hl GH (by rw[GH];exact hn) ?_
  rw[Aaf (MZ hn).hv Tw GH];exact h
end Go.Vc
namespace Go.Vc
inductive RO (α:Type) where
 |ok (a:α) (r:Aa) (h:Bool)
 |err (e:Int) (r:Aa)
def Fc(c:UInt8):Bool:=c==32||c==9||c==10
def Bd(r:Aa):Aa:=r.dropWhile Fc
def CF(sign:Aa)(r:Aa):Bool×Aa:=if(Bd r).take sign.length=sign then(true,(Bd r).drop sign.length) else(false,Bd r)
def Dw(c:UInt8):Bool:=48<=c&&c<=57
def Cx:Nat->Aa->Nat
 |acc,[]=>acc
 |acc,c::r=>Cx (acc* 10+(c.toNat-48)) r
def LO(c:UInt8):Bool:=32<=c&&c<=126&&c !=92
def BL:Aa->Option (Aa×Aa)
 |[]=>none
 |c::t=>if LO c then(if c=34 then some ([],t) else match BL t with|some (s,r)=>some (c::s,r)|none=>none) else none
def JS(r w rest:Aa)(minus:Bool)(h:Bool):RO Val:=
 if w.all Dw&& !(w.take 1==[48]&&(decide (1<w.length)||minus)) then
  (if Cx 0 w<=9223372036854775807\/(minus=true/\Cx 0 w=9223372036854775808) then .ok (.num (if minus then-(Cx 0 w:Int) else Cx 0 w)) rest h else .err 5 r)
 else .err 1 r
def EZ(r w rest:Aa)(minus:Bool)(h:Bool):RO Val:=
 match w with
 |[]=>.err 1 r
 |c::_=>
  if Dw c then JS r w rest minus h
  else if minus||c==95 then .err 1 r
  else if w=[110,105,108] then .ok .nil rest h
  else if w=[116,114,117,101] then .ok (.truth true) rest h
  else if w=[102,97,108,115,101] then .ok (.truth false) rest h
  else if w∈words then .err 1 r
  else if 16<w.length then .err 5 r
  else .ok (.atom w) rest h
def BJ(r:Aa)(h:Bool):RO Val:=
 if r.take 1=[34] then(match BL (r.drop 1) with|some (s,t)=>.ok (.text s) t h|none=>.err 1 r)
 else if r.take 1=[45] then EZ r ((r.drop 1).takeWhile BD) ((r.drop 1).dropWhile BD) true h
 else EZ r (r.takeWhile BD) (r.dropWhile BD) false h
section
variable{α:Type}
def Ep(one:Aa->Bool->RO α)(last:Aa):Nat->List α->Aa->Bool->RO (List α)
 |0,_,r,_=>.err 0 r
 |n+1,l,r,h=>
  match CF [44] r with
  |(true,r2)=>(match one r2 h with|.err e r'=>.err e r'|.ok v r3 h3=>Ep one last n (l++[v]) r3 h3)
  |(false,r2)=>(match CF last r2 with|(true,r3)=>.ok l r3 h|(false,r3)=>.err 1 r3)
def Ga(one:Aa->Bool->RO α)(last:Aa)(r:Aa)(h:Bool):RO (List α):=
 match one r h with|.err e r'=>.err e r'|.ok v r3 h3=>Ep one last (r3.length+1) [v] r3 h3
def CB(one:Aa->Bool->RO α)(last:Aa)(r:Aa)(deep:Int)(h:Bool):RO (List α):=
 if 24<deep+1 then .err 6 r else
 match CF last (r.drop last.length) with
 |(true,r2)=>.ok [] r2 h
 |(false,r2)=>Ga one last r2 h
end
def BE(val:Aa->Bool->RO Val)(r:Aa)(h:Bool):RO VP:=
 match val r h with
 |.err e r'=>.err e r'
 |.ok k r1 h1=>(match CF [58] r1 with
  |(false,r2)=>.err 1 r2
  |(true,r2)=>(match val r2 h1 with|.err e r'=>.err e r'|.ok v r3 h3=>.ok (k,v) r3 h3))
def CW(val:Aa->Bool->RO Val)(r:Aa)(deep:Int)(h:Bool):RO (List VP):=
 if 24<deep+1 then .err 6 r else Ga (BE val) [93] (r.drop 1) h
def PS(v:Val)(r:Aa)(h:Bool):RO Val:=.ok v r (h||v.isNil)
def HB:Nat->Aa->Int->Bool->RO Val
 |0,r,_,_=>.err 0 r
 |f+1,r0,deep,h=>
  let r:=Bd r0
  if r.take 1=[123] then(match CB (fun r h=>HB f r (deep+1) h) [125] r deep h with|.err e r'=>.err e r'|.ok l r' h'=>PS (EJ l) r' h')
  else if r.take 2=[60,60] then(match CB (fun r h=>HB f r (deep+1) h) [62,62] r deep h with|.err e r'=>.err e r'|.ok l r' h'=>PS (Cr l) r' h')
  else if r.take 1=[91] then(match CW (fun r h=>HB f r (deep+1) h) r deep h with|.err e r'=>.err e r'|.ok l r' h'=>PS (CC (l.map (·.1)) (l.map (·.2))) r' h')
  else BJ r h
def DB(t:Aa):Val×Int×Option Int:=
 if 4000<t.length then(.nil,0,some 6) else
 match HB 26 t 0 false with
 |.err e r=>(.nil,(t.length:Int)-r.length,some e)
 |.ok v r h=>
  if Bd r≠[] then(.nil,(t.length:Int)-(Bd r).length,some 1)
  else if h then(.nil,0,some 6) else(v,0,none)
mutual
def IM:Val->Nat
 |.set l _=>dpL l+1
 |.fn k v _=>max (dpL k) (dpL v)+1
 |_=>0
def dpL:List Val->Nat
 |[]=>0
 |a::l=>max (IM a) (dpL l)
end
theorem dpL_le{d:Nat}:∀{l:List Val},dpL l<=d↔∀a∈l,IM a<=d
 |[]=>by simp[dpL]
 |a::l=>by simp[dpL,dpL_le,Nat.max_le]
def shl(v:Val):Nat:=(AM v).length
def TL:List Val->Nat
 |[]=>0
 |a::l=>shl a+2+TL l
theorem VF(a:Val):∀l,TL (Gn a l)<=TL l+shl a+2
 |[]=>by simp[Gn,TL]
 |b::l=>by
  have:=VF a l
  simp only[Gn];split
  ·simp[TL];omega
  ·split<;>simp[TL]<;>omega
theorem YK(l:List Val):TL (CP l)<=TL l:=by
 have:∀(l s:List Val),TL (l.foldl (fun s a=>Gn a s) s)<=TL s+TL l:=by
  intro l;induction l with
  |nil=>intro s;simp[TL]
  |cons a l ih=>intro s;have:=ih (Gn a s);have:=VF a s;simp only[List.foldl_cons,TL];omega
 have:=this l [];simpa[TL,CP] using this
def TP:List VP->Nat
 |[]=>0
 |p::l=>shl p.1+shl p.2+4+TP l
theorem Acy:∀l:List VP,TP l=TL (l.map (·.1))+TL (l.map (·.2))
 |[]=>by simp[TP,TL]
 |p::l=>by simp[TP,TL,Acy l];omega
theorem VH(k v:Val):∀l,TP (FY k v l)<=TP l+shl k+shl v+4
 |[]=>by simp[FY,TP]
 |b::l=>by
  have:=VH k v l
  simp only[FY];split
  ·simp[TP];omega
  ·split<;>simp[TP]<;>omega
theorem WI(l:List VP):TP (BO l)<=TP l:=by
 have:∀(l s:List VP),TP (l.foldl (fun s p=>FY p.1 p.2 s) s)<=TP s+TP l:=by
  intro l;induction l with
  |nil=>intro s;simp[TP]
  |cons a l ih=>intro s;have:=ih (FY a.1 a.2 s);have:=VH a.1 a.2 s;simp only[List.foldl_cons,TP];omega
 have:=this l [];simpa[TP,BO] using this
theorem SC:∀l:List Val,(Df (AG l)).length<=TL l
 |[]=>by simp[AG,Df,TL]
 |a::l=>by have:=SC l;simp[AG,Df,TL,shl];omega
theorem HM(l:List Val):(Bo (AG l)).length<=TL l:=by
 cases l with
 |nil=>simp[AG,Bo]
 |cons a l=>have:=SC l;simp[AG,Bo,TL,shl];omega
theorem Se:∀k v:List Val,(Df (CE (AG k) (AG v))).length<=TL k+TL v
 |[],v=>by simp[AG,CE,Df]
 |a::k,[]=>by simp[AG,CE,Df]
 |a::k,b::v=>by have:=Se k v;simp[AG,CE,Df,TL,shl] at this ⊢;omega
theorem TX(k v:List Val):(Bo (CE (AG k) (AG v))).length<=TL k+TL v:=by
 cases k with
 |nil=>simp[AG,CE,Bo]
 |cons a k=>
  cases v with
  |nil=>simp[AG,CE,Bo]
  |cons b v=>have:=Se k v;simp[AG,CE,Bo,TL,shl] at this ⊢;omega
theorem ZM(l:List Val):shl (DM l)<=TL l+3:=by
 have:=HM l
 unfold DM shl;split
 ·simp[AM];omega
 ·simp[AM]
theorem Aac(k v:List Val):shl (ER k v)<=TL k+TL v+4:=by
 have h1:=HM v
 have h2:=TX k v
 unfold ER shl;split
 ·simp only[AM];split
  ·simp;omega
  ·simp;omega
 ·simp[AM]
structure Rd(deep:Int)(r:Aa)(v:Val)(r':Aa):Prop where
 fit:Fit v
 deep:(IM v:Int)+deep<=24
 took:∃p,r=p++r'/\1<=p.length/\shl v<=25* p.length
theorem Jf(r:Aa):∃p,r=p++Bd r:=⟨r.takeWhile Fc,(List.takeWhile_append_dropWhile ..).symm⟩
theorem Cq{sign r r':Aa}(h:CF sign r=(true,r')):∃p,r=p++(sign++r')/\Bd r=sign++r':=by
 obtain⟨p,hp⟩:=Jf r
 unfold CF at h;split at h
 ·rename_i h1
  have h2:=(Prod.mk.inj h).2
  have:Bd r=sign++r':=by
   rw[<-h2]
   conv=>rhs;lhs;rw[<-h1]
   exact(List.take_append_drop ..).symm
  exact⟨p,by rw[<-this];exact hp,this⟩
 ·cases h
theorem LZ{sign r r':Aa}(h:CF sign r=(false,r')):r'=Bd r:=by
 unfold CF at h;split at h
 ·cases h
 ·exact(Prod.mk.inj h).2.symm
section
variable{α:Type}{one:Aa->Bool->RO α}{Pr:α->Prop}{W:α->Nat}{last:Aa}
def WS(W:α->Nat):List α->Nat
 |[]=>0
 |a::l=>W a+4+WS W l
theorem LW(h1:∀r h v r' h',one r h=.ok v r' h'->Pr v/\∃p,r=p++r'/\W v<=25* p.length):
  ∀{n:Nat}{l:List α}{r:Aa}{h:Bool}{l':List α}{r':Aa}{h':Bool},Ep one last n l r h=.ok l' r' h'->∃m p,l'=l++m/\r=p++r'/\(∀x∈m,Pr x)/\WS W m+25* last.length<=25* p.length
 |0,l,r,h,l',r',h',e=>by simp[Ep] at e
 |n+1,l,r,h,l',r',h',e=>by
  unfold Ep at e
  split at e
  ·rename_i r2 e2
   obtain⟨p2,hp2,_⟩:=Cq e2
   split at e
   ·cases e
   ·rename_i v r3 h3 e3
    obtain⟨hv,p3,rfl,hw⟩:=h1 _ _ _ _ _ e3
    obtain⟨m,p,hm,rfl,hall,hlen⟩:=LW h1 e
    refine⟨v::m,p2++([44]++(p3++p)),by rw[hm];simp,by rw[hp2];simp,fun x hx=>?_,by simp[WS];omega⟩
    rcases List.mem_cons.1 hx with rfl|hx
    ·exact hv
    ·exact hall x hx
  ·rename_i r2 e2
   have:=LZ e2
   subst this
   obtain⟨p,hp⟩:=Jf r
   split at e
   ·rename_i r3 e3
    obtain⟨p3,hp3,_⟩:=Cq e3
    injection e with e4 e5 e6
    subst e4 e5
    exact⟨[],p++(p3++last),by simp,by rw[hp,hp3];simp,by simp,by simp[WS];omega⟩
   ·cases e
theorem Fs(h1:∀r h v r' h',one r h=.ok v r' h'->Pr v/\∃p,r=p++r'/\W v<=25* p.length)
  {r:Aa}{h:Bool}{l':List α}{r':Aa}{h':Bool}(e:Ga one last r h=.ok l' r' h'):∃p,r=p++r'/\(∀x∈l',Pr x)/\WS W l'+25* last.length<=25* p.length+4:=by
 unfold Ga at e
 split at e
 ·cases e
 ·rename_i v r3 h3 e3
  obtain⟨hv,p3,rfl,hw⟩:=h1 _ _ _ _ _ e3
  obtain⟨m,p,rfl,rfl,hall,hlen⟩:=LW h1 e
  refine⟨p3++p,by simp,fun x hx=>?_,by simp[WS];omega⟩
  rcases List.mem_cons.1 hx with rfl|hx
  ·exact hv
  ·exact hall x hx
theorem Gl(h1:∀r h v r' h',one r h=.ok v r' h'->Pr v/\∃p,r=p++r'/\W v<=25* p.length)
  {r:Aa}{deep:Int}{h:Bool}{l':List α}{r':Aa}{h':Bool}(hl:1<=last.length)(e:CB one last r deep h=.ok l' r' h')(hr:last.length<=r.length):deep+1<=24/\∃p,r=p++r'/\(∀x∈l',Pr x)/\WS W l'+46<=25* p.length:=by
 unfold CB at e
 split at e
 ·cases e
 refine⟨by omega,?_⟩
 have er:r=r.take last.length++r.drop last.length:=(List.take_append_drop ..).symm
 have el:(r.take last.length).length=last.length:=by simp;omega
 split at e
 ·rename_i r2 e2
  obtain⟨p,hp,_⟩:=Cq e2
  injection e with e4 e5 e6
  subst e4 e5
  have er2:r=r.take last.length++(p++(last++r2)):=by rw[<-hp];exact er
  exact⟨r.take last.length++(p++last),er2.trans (by simp),by simp,by simp only[WS,List.length_append,el];omega⟩
 ·rename_i r2 e2
  have:=LZ e2
  subst this
  obtain⟨p,hp⟩:=Jf (r.drop last.length)
  obtain⟨p3,hp3,hall,hlen⟩:=Fs h1 e
  have er2:r=r.take last.length++(p++(p3++r')):=by rw[<-hp3,<-hp];exact er
  exact⟨r.take last.length++(p++p3),er2.trans (by simp),hall,by simp only[List.length_append,el];omega⟩
end
theorem AcB(l:List Val):TL l<=WS shl l:=by
 induction l with
 |nil=>simp[TL,WS]
 |cons a l ih=>simp only[TL,WS];omega
theorem Aeg(l:List VP):TP l<=WS (fun p=>shl p.1+shl p.2) l:=by
 induction l with
 |nil=>simp[TP,WS]
 |cons a l ih=>simp only[TP,WS];omega
theorem ZI{l:List Val}(h:∀x∈l,Fit x):Fit (EJ l):=by
 have hl:=FitL_iff.2 h
 unfold EJ DM;split
 ·refine⟨rfl,by omega,Fy hl.hv,FitL_iff.2 fun a ha=>h a ((BV hl.hv a).1 ha)⟩
 ·trivial
theorem MX{k v:List Val}(hk:∀x∈k,Fit x)(hv:∀x∈v,Fit x)(hl:k.length=v.length)(ha:Ih k):Fit (ER k v):=by
 unfold ER;split
 ·exact⟨rfl,by omega,hl,ha,FitL_iff.2 hk,FitL_iff.2 hv⟩
 ·trivial
theorem Di{ps:List VP}(h:On ps){p:VP}(hp:p∈BO ps):p∈ps:=by
 obtain⟨A,B,rfl,_⟩:=(JK h p).1 hp;simp
theorem Aaw{k v:List Val}(hk:∀x∈k,Fit x)(hv:∀x∈v,Fit x):Fit (CC k v):=by
 have hz:On (k.zip v):=fun p hp=>(hk _ (List.of_mem_zip hp).1).hv
 refine MX (fun x hx=>?_) (fun x hx=>?_) (by simp) ?_
 ·obtain⟨p,hp,rfl⟩:=List.mem_map.1 hx
  exact hk _ (List.of_mem_zip (Di hz hp)).1
 ·obtain⟨p,hp,rfl⟩:=List.mem_map.1 hx
  exact hv _ (List.of_mem_zip (Di hz hp)).2
 ·exact List.pairwise_map.2 (Hl hz)
theorem TI{l:List Val}(h:∀x∈l,Fit x):Fit (Cr l):=by
 unfold Cr
 by_cases hw:1+CZ (FT l.length)+CZ l<=1024
 ·have h1:=HvL.nn (FitL_iff.2 h).hv
  have h2:0<=CZ (FT l.length):=by
   have:HvL (FT l.length):=HvL_iff.2 fun a ha=>by obtain⟨k,_,rfl⟩:=List.mem_map.1 ha;trivial
   have:=HvL.nn this;omega
  exact MX (FitL_iff.1 (MZ (by omega))) h GH Tw
 ·unfold ER;rw[if_neg hw];trivial
theorem AbE{l:List Val}{d:Nat}(h:∀x∈l,IM x<=d):IM (Cr l)<=d+1:=by
 unfold Cr ER;split
 ·simp only[IM]
  have h1:dpL (FT l.length)<=d:=dpL_le.2 fun a ha=>by obtain⟨k,_,rfl⟩:=List.mem_map.1 ha;simp[IM]
  have h2:=dpL_le.2 h
  omega
 ·simp[IM]
theorem AbR{l:List Val}(hv:HvL l){d:Nat}(h:∀x∈l,IM x<=d):IM (EJ l)<=d+1:=by
 unfold EJ DM;split
 ·simp only[IM]
  have h2:=(dpL_le (l:=CP l)).2 fun a ha=>h a ((BV hv a).1 ha)
  omega
 ·simp[IM]
theorem Acq{k v:List Val}(hk:∀x∈k,Hv x){d:Nat}(h1:∀x∈k,IM x<=d)(h2:∀x∈v,IM x<=d):IM (CC k v)<=d+1:=by
 have hz:On (k.zip v):=fun p hp=>hk _ (List.of_mem_zip hp).1
 unfold CC ER;split
 ·simp only[IM]
  have h3:=(dpL_le (l:=(BO (k.zip v)).map (·.1)) (d:=d)).2 fun a ha=>by
   obtain⟨p,hp,rfl⟩:=List.mem_map.1 ha;exact h1 _ (List.of_mem_zip (Di hz hp)).1
  have h4:=(dpL_le (l:=(BO (k.zip v)).map (·.2)) (d:=d)).2 fun a ha=>by
   obtain⟨p,hp,rfl⟩:=List.mem_map.1 ha;exact h2 _ (List.of_mem_zip (Di hz hp)).2
  omega
 ·simp[IM]
theorem Yg(l:List Val):shl (Cr l)<=WS shl l+4:=by
 have h1:=HM l;have h2:=AcB l
 unfold Cr ER;split
 ·show(AM (.fn _ _ _)).length<=_
  simp only[AM]
  have:EE 1 (FT l.length)=true:=by
   have:∀n(j:Nat),EE ((j:Int)+1) ((List.range n).map fun k:Nat=>Val.num (((k+j:Nat):Int)+1))=true:=by
    intro n;induction n with
    |zero=>intro j;simp[EE]
    |succ n ih=>
     intro j
     rw[List.range_succ_eq_map]
     simp only[List.map_cons,List.map_map,EE]
     have:=ih (j+1)
     simp only[Nat.zero_add,decide_true,Bool.true_and]
     have e:((fun k:Nat=>Val.num (((k+j:Nat):Int)+1))∘Nat.succ)=fun k:Nat=>Val.num (((k+(j+1):Nat):Int)+1):=by
      funext k;simp;omega
     rw[e];simpa using this
   simpa[FT] using this l.length 0
  rw[if_pos this];simp;omega
 ·simp[shl,AM]
theorem ZT(l:List Val):shl (EJ l)<=WS shl l+3:=by
 have:=ZM (CP l);have:=YK l;have:=AcB l
 unfold EJ;omega
theorem Acg(l:List VP):(l.map (·.1)).zip (l.map (·.2))=l:=by
 induction l with
 |nil=>rfl
 |cons a l ih=>simp[ih]
theorem ZC(l:List VP):shl (CC (l.map (·.1)) (l.map (·.2)))<=WS (fun p=>shl p.1+shl p.2) l+4:=by
 unfold CC;rw[Acg]
 have h1:=Aac ((BO l).map (·.1)) ((BO l).map (·.2))
 have h2:=Acy (BO l);have h3:=WI l;have h4:=Aeg l
 omega
theorem Ir:∀{t s r:Aa},BL t=some (s,r)->t=s++34::r/\Aad s
 |[],s,r,h=>by simp[BL] at h
 |c::t,s,r,h=>by
  simp only[BL] at h
  split at h
  ·rename_i hc
   split at h
   ·rename_i h0;subst h0;simp at h;obtain⟨rfl,rfl⟩:=h;exact⟨by simp,fun c hc=>by cases hc⟩
   ·rename_i h0
    split at h
    ·rename_i s' r' e
     simp at h;obtain⟨rfl,rfl⟩:=h
     obtain⟨e1,e2⟩:=Ir e
     refine⟨by rw[e1];simp,fun x hx=>?_⟩
     rcases List.mem_cons.1 hx with rfl|hx
     ·unfold LO at hc;simp at hc;exact⟨hc.1.1,hc.1.2,hc.2,h0⟩
     ·exact e2 x hx
    ·cases h
  ·cases h
theorem Mf(n:Int):(Hf n).length<=21:=by
 unfold Hf;have:=NT 20 n.natAbs;split<;>simp<;>omega
theorem LN{r w rest:Aa}{minus h:Bool}{v:Val}{r':Aa}{h':Bool}{q:Aa}{deep:Int}(hd:deep<=24)(hr:r=q++(w++rest))(hw:∀c∈w,BD c=true)(e:EZ r w rest minus h=.ok v r' h'):Rd deep r v r':=by
 unfold EZ at e
 split at e
 ·cases e
 ·rename_i c w'
  have tk:∀v:Val,shl v<=25->∃p,r=p++rest/\1<=p.length/\shl v<=25* p.length:=fun v hv=>⟨q++(c::w'),by rw[hr];simp,by simp;omega,by simp;omega⟩
  split at e
  ·unfold JS at e
   split at e
   ·split at e
    ·rename_i hn
     injection e with e1 e2 e3
     subst e1 e2
     refine⟨?_,by simp[IM];omega,tk _ ?_⟩
     ·show I64 _
      unfold I64
      split<;>rcases hn with hn|hn<;>simp_all<;>omega
     ·unfold shl;simp only[AM];have:=Mf (if minus=true then-(Cx 0 (c::w'):Int) else Cx 0 (c::w'));omega
    ·cases e
   ·cases e
  ·rename_i hdg
   split at e
   ·cases e
   ·rename_i hm
    split at e
    ·injection e with e1 e2 e3;subst e1 e2;exact⟨trivial,by simp[IM];omega,tk _ (by simp[shl,AM])⟩
    ·split at e
     ·injection e with e1 e2 e3;subst e1 e2;exact⟨trivial,by simp[IM];omega,tk _ (by simp[shl,AM])⟩
     ·split at e
      ·injection e with e1 e2 e3;subst e1 e2;exact⟨trivial,by simp[IM];omega,tk _ (by simp[shl,AM])⟩
      ·split at e
       ·cases e
       ·rename_i hwd
        split at e
        ·cases e
        ·rename_i hl
         injection e with e1 e2 e3;subst e1 e2
         refine⟨⟨⟨c,w',rfl,fun h2=>hdg (by simp[Dw,h2.1,h2.2]),fun h2=>hm (by simp[h2])⟩,hw,by omega,hwd⟩,by simp[IM];omega,tk _ ?_⟩
         simp only[shl,AM];omega
theorem OS{r:Aa}{h:Bool}{v:Val}{r':Aa}{h':Bool}{deep:Int}(hd:deep<=24)(e:BJ r h=.ok v r' h'):Rd deep r v r':=by
 unfold BJ at e
 split at e
 ·rename_i h1
  split at e
  ·rename_i s t e2
   injection e with e3 e4 e5;subst e3 e4
   obtain⟨e6,e7⟩:=Ir e2
   have er:r=[34]++(s++[34]++t):=by
    conv=>lhs;rw[<-List.take_append_drop 1 r,h1,e6]
    simp
   refine⟨e7,by simp[IM];omega,[34]++(s++[34]),by rw[er];simp,by simp,by simp[shl,AM];omega⟩
  ·cases e
 ·have hw:∀l:Aa,∀c∈l.takeWhile BD,BD c=true:=fun l c hc=>by
   have:=List.all_takeWhile (p:=BD) (l:=l)
   exact List.all_eq_true.1 this c hc
  split at e
  ·rename_i h1
   refine LN hd (q:=[45]) ?_ (hw _) e
   rw[List.takeWhile_append_dropWhile]
   conv=>lhs;rw[<-List.take_append_drop 1 r,h1]
  ·exact LN hd (q:=[]) (by rw[List.takeWhile_append_dropWhile,List.nil_append]) (hw _) e
theorem HR{r:Aa}{n:Nat}{l:Aa}(h:r.take n=l):l.length<=r.length:=by
 rw[<-h];simp;omega
theorem DF:∀{f:Nat}{r:Aa}{deep:Int}{h:Bool}{v:Val}{r':Aa}{h':Bool},deep<=24->HB f r deep h=.ok v r' h'->Rd deep r v r'
 |0,r,deep,h,v,r',h',hd,e=>by simp[HB] at e
 |f+1,r0,deep,h,v,r',h',hd,e=>by
  obtain⟨p0,hp0⟩:=Jf r0
  unfold HB at e
  simp only at e
  revert hp0 e
  generalize Bd r0=r
  intro hp0 e
  subst hp0
  have one:deep+1<=24->∀r h v r' h',HB f r (deep+1) h=.ok v r' h'->(Fit v/\(IM v:Int)+(deep+1)<=24)/\∃p,r=p++r'/\shl v<=25* p.length:=fun hd r h v r' h' e=>by
   have:=DF hd e
   obtain⟨p,h1,h2,h3⟩:=this.took
   exact⟨⟨this.fit,this.deep⟩,p,h1,h3⟩
  have dn:∀{l:List Val},deep+1<=24->(∀x∈l,Fit x/\(IM x:Int)+(deep+1)<=24)->∀x∈l,IM x<=(24-(deep+1)).toNat:=fun hd2 hx x hm=>by have:=(hx x hm).2;omega
  split at e
  ·rename_i h1
   split at e
   ·cases e
   ·rename_i l r1 h1' e1
    have hd2:deep+1<=24:=by unfold CB at e1;split at e1<;>first|(cases e1;done)|omega
    obtain⟨_,p,rfl,hall,hlen⟩:=Gl (one hd2) (by simp) e1 (by have:=HR h1;simpa using this)
    unfold PS at e;injection e with e3 e4 e5;subst e3 e4
    have hF:=fun x hx=>(hall x hx).1
    have d1:=AbR (FitL_iff.2 hF).hv (dn hd2 hall)
    have s1:=ZT l
    exact⟨ZI hF,by omega,p0++p,by simp,by simp;omega,by simp;omega⟩
  ·split at e
   ·rename_i h1
    split at e
    ·cases e
    ·rename_i l r1 h1' e1
     have hd2:deep+1<=24:=by unfold CB at e1;split at e1<;>first|(cases e1;done)|omega
     obtain⟨_,p,rfl,hall,hlen⟩:=Gl (one hd2) (by simp) e1 (by have:=HR h1;simpa using this)
     unfold PS at e;injection e with e3 e4 e5;subst e3 e4
     have hF:=fun x hx=>(hall x hx).1
     have d1:=AbE (dn hd2 hall)
     have s1:=Yg l
     exact⟨TI hF,by omega,p0++p,by simp,by simp;omega,by simp;omega⟩
   ·split at e
    ·rename_i h1
     split at e
     ·cases e
     ·rename_i l r1 h1' e1
      unfold CW at e1
      split at e1
      ·cases e1
      rename_i hd2
      have pr:∀r h v r' h',BE (fun r h=>HB f r (deep+1) h) r h=.ok v r' h'->((Fit v.1/\(IM v.1:Int)+(deep+1)<=24)/\(Fit v.2/\(IM v.2:Int)+(deep+1)<=24))/\∃p,r=p++r'/\shl v.1+shl v.2<=25* p.length:=fun r h v r' h' e=>by
       unfold BE at e
       split at e
       ·cases e
       ·rename_i k r1 h1 e1
        split at e
        ·cases e
        ·rename_i r2 e2
         split at e
         ·cases e
         ·rename_i w r3 h3 e3
          injection e with e4 e5 e6;subst e4 e5
          obtain⟨a1,p1,rfl,b1⟩:=one (by omega) _ _ _ _ _ e1
          obtain⟨p2,rfl,_⟩:=Cq e2
          obtain⟨a3,p3,rfl,b3⟩:=one (by omega) _ _ _ _ _ e3
          exact⟨⟨a1,a3⟩,p1++(p2++([58]++p3)),by simp,by simp;omega⟩
      obtain⟨p,hp,hall,hlen⟩:=Fs (W:=fun p:VP=>shl p.1+shl p.2) pr e1
      unfold PS at e;injection e with e3 e4 e5;subst e3 e4
      have er:r=[91]++(p++r1):=by conv=>lhs;rw[<-List.take_append_drop 1 r,h1,hp]
      have k1:∀x∈l.map (·.1),Fit x/\(IM x:Int)+(deep+1)<=24:=fun x hx=>by obtain⟨q,hq,rfl⟩:=List.mem_map.1 hx;exact(hall q hq).1
      have k2:∀x∈l.map (·.2),Fit x/\(IM x:Int)+(deep+1)<=24:=fun x hx=>by obtain⟨q,hq,rfl⟩:=List.mem_map.1 hx;exact(hall q hq).2
      have d1:=Acq (fun x hx=>(k1 x hx).1.hv) (dn (by omega) k1) (dn (by omega) k2)
      have s1:=ZC l
      simp at hlen
      exact⟨Aaw (fun x hx=>(k1 x hx).1) (fun x hx=>(k2 x hx).1),by omega,p0++([91]++p),by rw[er];simp,by simp;omega,by simp;omega⟩
    ·have:=OS hd e
     obtain⟨p,rfl,h2,h3⟩:=this.took
     exact⟨this.fit,this.deep,p0++p,by simp,by simp;omega,by simp;omega⟩
end Go.Vc
namespace Go.Vc
def AtT(text:Aa)(a:Int)(r:Aa):Prop:=∃p,text=p++r/\a=p.length
section
variable{text r:Aa}{a:Int}
theorem AtT.drop(h:AtT text a r):text.drop a.toNat=r:=by obtain⟨p,rfl,rfl⟩:=h;simp
theorem AtT.pos(h:AtT text a r):0<=a:=by obtain⟨p,rfl,rfl⟩:=h;omega
theorem AtT.len(h:AtT text a r):a=(text.length:Int)-r.length:=by obtain⟨p,rfl,rfl⟩:=h;simp
theorem AtT.le(h:AtT text a r):a<=text.length:=by have:=h.len;omega
theorem AtT.app{p s:Aa}(h:AtT text a (p++s)):AtT text (a+p.length) s:=by
 obtain⟨q,rfl,rfl⟩:=h;exact⟨q++p,by simp,by simp⟩
theorem AtT.cons{c:UInt8}{s:Aa}(h:AtT text a (c::s)):ix text a=c/\a<text.length/\AtT text (a+1) s:=by
 obtain⟨q,rfl,rfl⟩:=h
 exact⟨Dz rfl,by simp;omega,⟨q++[c],by simp,by simp⟩⟩
theorem AtT.mid{p s:Aa}(h:AtT text a (p++s)):(text.take (a+p.length).toNat).drop a.toNat=p:=by
 obtain⟨q,rfl,rfl⟩:=h
 have:((q.length:Int)+p.length).toNat=q.length+p.length:=by omega
 rw[this];simp[List.take_append]
theorem AtT.start(text:Aa):AtT text 0 text:=⟨[],rfl,rfl⟩
def Out{α:Type}(text:Aa)(E:Int->Int->Prop)(Q:α->Int->Bool->Prop):RO α->Prop
 |.ok v r h=>∀a,AtT text a r->Q v a h
 |.err e r=>∀a,AtT text a r->E e a
theorem Pa(c:UInt8):(0<=Lib.indexByte [32,9,10] c)↔Fc c=true:=by
 simp only[Lib.indexByte,Fc]
 by_cases h1:c=32
 ·subst h1;simp
 ·by_cases h2:c=9
  ·subst h2;decide
  ·by_cases h3:c=10
   ·subst h3;decide
   ·have e1:((32:UInt8)==c)=false:=by simpa using fun h=>h1 h.symm
    have e2:((9:UInt8)==c)=false:=by simpa using fun h=>h2 h.symm
    have e3:((10:UInt8)==c)=false:=by simpa using fun h=>h3 h.symm
    simp[e1,e2,e3,h1,h2,h3]
theorem Abd(c:UInt8):I64 (Lib.indexByte [32,9,10] c):=by
 simp only[Lib.indexByte,I64];repeat' split
 all_goals(first|decide|omega)
theorem Pm{x:Aa}{i:Int}:(AS x i).toNat.toUInt8=ix x i:=by
 unfold AS;rw[Int.toNat_natCast];exact UInt8.ofNat_toNat ..
theorem PZ{deep:Int}{heavy:Bool}{Q:Int->Prop}(ht:text.length<=1000000)(h:AtT text a r)(hQ:∀a',AtT text a' (Bd r)->Q a'):MW text a deep heavy Q:=by
 refine⟨fun c=>∃s,AtT text c s/\Bd s=Bd r,fun c=>(text.length-c).toNat,⟨r,h,rfl⟩,?_⟩
 show∀c:Int,_->_
 rintro c⟨s,hs,e⟩
 refine Ae ⟨by unfold Len;omega,fun hc=>?_,fun hc=>⟨fun hn=>by simp at hn,fun _=>?_⟩⟩
 ·cases s with
  |nil=>have:=hs.len;simp at this;omega
  |cons x s=>
   obtain⟨e1,e2,h2⟩:=hs.cons
   refine⟨⟨hs.pos,hc⟩,_,⟨by simp,rfl⟩,by rw[Pm];exact Abd _,?_⟩
   rw[Pm,e1]
   refine⟨fun hn=>⟨by unfold I64;have:=hs.pos;omega,⟨s,h2,?_⟩,by show(_:Int).toNat<(_:Int).toNat;have:=hs.pos;omega⟩,fun hn=>hQ c ?_⟩
   ·have:=(Pa x).1 (by simpa using hn)
    rw[<-e];simp[Bd,this]
   ·have:¬Fc x=true:=fun h3=>by have:=(Pa x).2 h3;simp at hn;omega
    rw[<-e];simpa[Bd,this] using hs
 ·cases s with
  |nil=>exact hQ c (by rw[<-e];exact hs)
  |cons x s=>have:=hs.cons;omega
theorem Fw{s sign:Aa}{Q:Bool->Prop}(hs:s.length<=1000000)(hg:sign.length<=1000000)(h:Q (decide (s.take sign.length=sign))):EL s sign Q:=by
 refine Ae ⟨by unfold Len;omega,by unfold Len;omega,fun hl=>⟨by unfold Len;omega,⟨by omega,by omega⟩,?_⟩,fun hl=>?_⟩
 ·simpa using h
 ·have:¬s.take sign.length=sign:=fun e=>by have:=congrArg List.length e;simp at this;omega
  simpa[this] using h
theorem MI{deep:Int}{heavy:Bool}{sign:Aa}{Q:Bool->Int->Prop}(ht:text.length<=1000000)(hg:sign.length<=1000)(h:AtT text a r)(hQ:∀b r' a',CF sign r=(b,r')->AtT text a' r'->Q b a'):Lz text a deep heavy sign Q:=by
 refine PZ ht h fun a' h'=>⟨⟨h'.pos,h'.le⟩,?_⟩
 rw[h'.drop]
 have hl:(Bd r).length<=1000000:=by have:=h'.len;have:=h'.pos;omega
 refine Fw hl (by omega) ⟨fun hp=>?_,fun hp=>?_⟩
 ·have hp:(Bd r).take sign.length=sign:=by simpa using hp
  have e:Bd r=sign++(Bd r).drop sign.length:=by conv=>lhs;rw[<-List.take_append_drop sign.length (Bd r),hp]
  have h2:=h'
  rw[e] at h2
  have h3:=h2.app
  have:=h3.le;have:=h'.pos
  exact⟨by unfold Len;omega,by unfold I64;omega,hQ true _ _ (by unfold CF;rw[if_pos hp]) h3⟩
 ·have hp:¬(Bd r).take sign.length=sign:=by simpa using hp
  exact hQ false _ _ (by unfold CF;rw[if_neg hp]) h'
theorem Qa{deep:Int}{heavy:Bool}{sign:Aa}{E:Int->Int->Prop}{Q:Int->Prop}(ht:text.length<=1000000)(hg:sign.length<=1000)(h:AtT text a r)
  (hQ:∀r' a',CF sign r=(true,r')->AtT text a' r'->Q a')(hE:∀r' a',CF sign r=(false,r')->AtT text a' r'->E 1 a'):ND text a deep heavy sign E Q:=by
 refine MI ht hg h fun b r' a' e h'=>⟨fun hb=>?_,fun hb=>?_⟩
 ·have:b=false:=by simpa using hb
  subst this;exact hE r' a' e h'
 ·have:b=true:=by simpa using hb
  subst this;exact hQ r' a' e h'
theorem MR(c:UInt8):(((((97:Int)<=((c.toNat:Nat):Int))/\(((c.toNat:Nat):Int)<=(122:Int)))\/(((65:Int)<=((c.toNat:Nat):Int))/\(((c.toNat:Nat):Int)<=(90:Int))))\/(((48:Int)<=((c.toNat:Nat):Int))/\(((c.toNat:Nat):Int)<=(57:Int))))\/(((c.toNat:Nat):Int)=(95:Int))↔BD c=true:=by
 have e:c=95↔c.toNat=95:=⟨fun h=>by rw[h];rfl,fun h=>UInt8.toNat_inj.1 h⟩
 simp only[BD,Bool.or_eq_true,Bool.and_eq_true,decide_eq_true_eq,beq_iff_eq,UInt8.le_iff_toNat_le,e,UInt8.toNat_ofNat]
 omega
theorem Ge(c:UInt8):Dw c=true↔(48:Int)<=((c.toNat:Nat):Int)/\((c.toNat:Nat):Int)<=57:=by
 simp only[Dw,Bool.and_eq_true,decide_eq_true_eq,UInt8.le_iff_toNat_le,UInt8.toNat_ofNat]
 omega
theorem Wj{deep:Int}{heavy:Bool}{Q:Aa->Prop}(ht:text.length<=1000000)(h:AtT text a r)(hQ:Q (r.takeWhile BD)):Vb text a deep heavy Q:=by
 refine⟨fun k=>∃p s,r=p++s/\k=a+p.length/\r.takeWhile BD=p++s.takeWhile BD,fun k=>(text.length-k).toNat,⟨[],r,by simp,by simp,by simp⟩,?_⟩
 show∀c:Int,_->_
 rintro k⟨p,s,e,e2,e3⟩
 have hs:AtT text k s:=by rw[e2];subst e;exact h.app
 have h0:=h.pos;have h1:=hs.pos;have h2:=hs.le
 have fin:s.takeWhile BD=[]->((0:Int)<=a/\a<=k/\k<=(text.length:Int))/\Q ((text.take k.toNat).drop a.toNat):=fun hn=>by
  refine⟨⟨h0,by omega,h2⟩,?_⟩
  rw[hn,List.append_nil] at e3
  subst e
  rw[e2,h.mid,<-e3];exact hQ
 refine Ae ⟨by unfold Len;omega,fun hk=>?_,fun hk=>⟨fun hn=>by simp at hn,fun _=>?_⟩⟩
 ·cases s with
  |nil=>have:=hs.len;simp at this;omega
  |cons x s=>
   obtain⟨e5,e6,h3⟩:=hs.cons
   refine⟨⟨h1,hk⟩,?_⟩
   show(_->_)/\(_->_)
   have eb:AS text k=((x.toNat:Nat):Int):=by unfold AS;rw[e5]
   rw[eb]
   refine⟨fun hn=>⟨by unfold I64;omega,⟨p++[x],s,by rw[e];simp,by simp;omega,?_⟩,by show(_:Int).toNat<(_:Int).toNat;omega⟩,fun hn=>fin ?_⟩
   ·have:=(MR x).1 (by simpa using hn)
    rw[e3];simp[this]
   ·have:¬BD x=true:=fun h4=>by have:=(MR x).2 h4;simp at hn;omega
    simp[this]
 ·cases s with
  |nil=>exact fin rfl
  |cons x s=>have:=hs.cons;omega
theorem Tr{s:Aa}{Q:Bool->Prop}(h:Q (decide (s∈words))):FC s Q:=by
 unfold FC
 refine Ae ?_
 by_cases hm:s∈words
 ·have kt:Q true:=by simpa[hm] using h
  simp only[words,List.mem_cons,List.not_mem_nil,or_false] at hm
  iterate 51 (refine⟨fun e=>⟨fun _=>kt,fun hn=>absurd (decide_eq_true e) (by rw[hn];simp)⟩,fun hne=>?_⟩;replace hm:=hm.resolve_left hne;clear hne)
  exact⟨fun _=>kt,fun hn=>absurd (decide_eq_true hm) (by rw[hn];simp)⟩
 ·have kf:Q false:=by simpa[hm] using h
  simp only[words,List.mem_cons,List.not_mem_nil,or_false,not_or] at hm
  iterate 51 (refine⟨fun e=>absurd e hm.1,fun _=>?_⟩;replace hm:=hm.2)
  refine⟨fun hd=>?_,fun _=>kf⟩
  have e:s=([115,101,113,115]:Aa):=by simpa using hd
  exact absurd e hm
theorem QG(w:Aa):∀(acc:Nat),acc<=Cx acc w:=by
 induction w with
 |nil=>intro acc;exact Nat.le_refl _
 |cons c w ih=>
  intro acc
  have:=ih (acc* 10+(c.toNat-48))
  show acc<=Cx (acc* 10+(c.toNat-48)) w
  omega
theorem Adk{M:Nat}(h1:M<1844674407370955162* 10)(w:Aa):∀(acc:Nat),acc<=M->(∀c∈w,Dw c=true)->Lib.parseUintM M acc w=if Cx acc w<=M then .ok (Cx acc w) else .range:=by
 induction w with
 |nil=>
  intro acc h _
  have e:Cx acc []=acc:=rfl
  rw[e,if_pos h];rfl
 |cons c w ih=>
  intro acc h hd
  have e0:Lib.parseUintM M acc (c::w)=if 48<=c.toNat/\c.toNat<=57 then(if 1844674407370955162<=acc then .range else if M<acc* 10+(c.toNat-48) then .range else Lib.parseUintM M (acc* 10+(c.toNat-48)) w) else _:=rfl
  have hc:=(Ge c).1 (hd c (by simp))
  have hg:=QG w (acc* 10+(c.toNat-48))
  have e:Cx acc (c::w)=Cx (acc* 10+(c.toNat-48)) w:=rfl
  rw[e,e0]
  rw[if_pos ⟨by omega,by omega⟩]
  by_cases h2:1844674407370955162<=acc
  ·rw[if_pos h2,if_neg (by omega)]
  ·rw[if_neg h2]
   by_cases h3:M<acc* 10+(c.toNat-48)
   ·rw[if_pos h3,if_neg (by omega)]
   ·rw[if_neg h3];exact ih _ (by omega) fun x hx=>hd x (List.mem_cons_of_mem _ hx)
theorem Xj{rest q:Aa}{c:UInt8}{w:Aa}{deep:Int}{heavy minus:Bool}{E:Int->Int->Prop}{Q:Val->Int->Prop}(ht:text.length<=1000000)(h:AtT text a r)(hr:r=q++((c::w)++rest))(hq:q.length=if minus then 1 else 0)
  (hO:Out text E (fun v a h=>Q v a) (JS r (c::w) rest minus heavy)):Ku text a deep heavy (c::w) minus E Q:=by
 have hp:AtT text (a+q.length+(c::w).length) rest:=by subst hr;exact h.app.app
 have h0:=h.pos;have h1:=hp.le
 have bad:¬(((c::w).all Dw&& !((c::w).take 1==[48]&&(decide (1<(c::w).length)||minus)))=true)->E 1 a:=fun hn=>by
  unfold JS at hO;rw[if_neg hn] at hO;exact hO a h
 have hlen:((c::w).length:Int)<=1000000:=by omega
 refine⟨by unfold Len;omega,?_⟩
 refine⟨fun x=>0<=x/\x<=(c::w).length/\(∀d∈(c::w).take x.toNat,Dw d=true)/\(0<x->c=48->x<=1/\minus=false),fun x=>(((c::w).length:Int)-x).toNat,⟨by simp,by simp;omega,by simp,by simp⟩,?_⟩
 show∀x:Int,_->_
 rintro x⟨x0,x1,x2,x3⟩
 refine⟨fun hx=>Ae (Ae ⟨⟨x0,hx⟩,?_⟩),fun hx=>?_⟩
 ·have mem:=Az x0 hx
  have eb:AS (c::w) x=(((ix (c::w) x).toNat:Nat):Int):=rfl
  have e0:AS (c::w) 0=((c.toNat:Nat):Int):=by simp[AS,ix]
  have nd:¬Dw (ix (c::w) x)=true->E 1 a:=fun hn=>bad fun hg=>hn (List.all_eq_true.1 (Bool.and_eq_true_iff.1 hg).1 _ mem)
  have nz:c=48->(1<(c::w).length\/minus=true)->E 1 a:=fun hc hm=>bad fun hg=>by
   have:=(Bool.and_eq_true_iff.1 hg).2
   subst hc
   rcases hm with hm|hm<;>simp_all
  have go:Dw (ix (c::w) x)=true->(c=48->¬0<x/\minus=false)->(0<=IntKind.i64.wrap (x+1)/\IntKind.i64.wrap (x+1)<=(c::w).length/\(∀d∈(c::w).take (IntKind.i64.wrap (x+1)).toNat,Dw d=true)/\(0<IntKind.i64.wrap (x+1)->c=48->IntKind.i64.wrap (x+1)<=1/\minus=false))/\(((c::w).length:Int)-IntKind.i64.wrap (x+1)).toNat<(((c::w).length:Int)-x).toNat:=fun hd hz=>by
   rw[IntWalk.i64_in _ ⟨by omega,by omega⟩]
   refine⟨⟨by omega,by omega,fun d hm=>?_,fun _ hc=>⟨by have:=(hz hc).1;omega,(hz hc).2⟩⟩,by omega⟩
   rw[AV x0 hx] at hm
   rcases List.mem_append.1 hm with hm|hm
   ·exact x2 d hm
   ·rw[List.mem_singleton.1 hm];exact hd
  rw[eb,e0]
  have id:=Ge (ix (c::w) x)
  have c48:c=48↔((c.toNat:Nat):Int)=48:=⟨fun h=>by rw[h];rfl,fun h=>UInt8.toNat_inj.1 (by show c.toNat=48;omega)⟩
  refine⟨fun hl=>⟨fun _=>nd fun hd=>by have:=id.1 hd;omega,fun hn=>by simp at hn⟩,fun hl=>⟨⟨x0,hx⟩,fun hl2=>⟨fun _=>nd fun hd=>by have:=id.1 hd;omega,fun hn=>by simp at hn⟩,fun hl2=>⟨⟨by omega,by simp⟩,fun h48=>⟨fun hx0=>⟨fun _=>nz (c48.2 h48) (Or.inl (by omega)),fun hn=>by simp at hn⟩,fun hx0=>⟨fun hm=>nz (c48.2 h48) (Or.inr hm),fun hm=>go (id.2 ⟨by omega,by omega⟩) fun _=>⟨hx0,hm⟩⟩⟩,fun h48=>⟨fun hn=>by simp at hn,fun _=>go (id.2 ⟨by omega,by omega⟩) fun hc=>absurd (c48.1 hc) h48⟩⟩⟩⟩
 ·have hx:x=(c::w).length:=by omega
  subst hx
  simp only[Int.toNat_natCast,List.take_length] at x2
  have good:((c::w).all Dw&& !((c::w).take 1==[48]&&(decide (1<(c::w).length)||minus)))=true:=by
   rw[Bool.and_eq_true_iff]
   refine⟨List.all_eq_true.2 x2,?_⟩
   by_cases hc:c=48
   ·have:=x3 (by simp) hc
    have h2:¬1<(c::w).length:=by omega
    simp only[this.2,h2];simp
   ·simp[hc]
  unfold JS at hO
  rw[if_pos good] at hO
  refine⟨rfl,rfl,by omega,?_⟩
  have hpm:Lib.parseUintB 64 (c::w)=if Cx 0 (c::w)<=18446744073709551615 then .ok (Cx 0 (c::w)) else .range:=by
   unfold Lib.parseUintB;rw[if_neg (by simp)]
   exact Adk (by decide) _ 0 (by omega) x2
  have okk:∀n:Nat,n=Cx 0 (c::w)->n<=18446744073709551615->(n<=9223372036854775807\/(minus=true/\n=9223372036854775808))->Len (c::w)/\(minus=true->BN (Hx (IntKind.i64.wrap (n:Int))) fun r_228=>Q r_228 (IntKind.i64.wrap ((IntKind.i64.wrap (a+((c::w).length:Int)))+(1:Int))))/\(minus=false->BN (IntKind.i64.wrap (n:Int)) fun r_234=>Q r_234 (IntKind.i64.wrap (a+((c::w).length:Int)))):=fun n hn hM hb=>by
   rw[if_pos (by rw[<-hn];exact hb)] at hO
   refine⟨by unfold Len;omega,fun hm=>?_,fun hm=>?_⟩
   ·have:=hO _ hp
    rw[if_pos hm,<-hn] at this
    rw[hq,if_pos hm] at hp this
    rw[IntWalk.i64_in (a+((c::w).length:Int)) ⟨by omega,by omega⟩,IntWalk.i64_in (a+((c::w).length:Int)+1) ⟨by omega,by omega⟩]
    show Q (.num _) _
    have e:Hx (IntKind.i64.wrap (n:Int))=-(n:Int):=by
     unfold Hx
     by_cases hz:n=9223372036854775808
     ·subst hz;decide
     ·rw[IntWalk.i64_in (n:Int) ⟨by omega,by omega⟩,if_neg (by omega)]
    rw[e,show a+((c::w).length:Int)+1=a+((1:Nat):Int)+((c::w).length:Int) by omega];exact this
   ·have:=hO _ hp
    rw[if_neg (by simp[hm]),<-hn] at this
    rw[hq,if_neg (by simp[hm])] at hp this
    rw[IntWalk.i64_in (a+((c::w).length:Int)) ⟨by omega,by omega⟩]
    have hn2:n<=9223372036854775807:=by rcases hb with hb|hb<;>simp_all
    show Q (.num _) _
    rw[IntWalk.i64_in (n:Int) ⟨by omega,by omega⟩,show a+((c::w).length:Int)=a+((0:Nat):Int)+((c::w).length:Int) by omega];exact this
  have bad5:¬(Cx 0 (c::w)<=9223372036854775807\/(minus=true/\Cx 0 (c::w)=9223372036854775808))->E 5 a:=fun hn=>by rw[if_neg hn] at hO;exact hO a h
  rw[hpm]
  by_cases hM:Cx 0 (c::w)<=18446744073709551615
  ·rw[if_pos hM]
   refine Ae (Ae ⟨fun hn=>by simp at hn,fun _=>⟨fun hl=>⟨fun hm=>?_,fun hm=>?_⟩,fun hl=>⟨fun hn=>by simp at hn,fun _=>okk _ rfl hM (Or.inl (by omega))⟩⟩⟩)
   ·refine⟨fun hn=>bad5 ?_,fun hn=>okk _ rfl hM (Or.inr ⟨hm,?_⟩)⟩
    ·simp at hn;omega
    ·simp at hn;omega
   ·exact⟨fun _=>bad5 (by simp[hm];omega),fun hn=>by simp at hn⟩
  ·rw[if_neg hM]
   exact Ae (Ae ⟨fun _=>⟨fun _=>bad5 (by omega),fun hn=>by simp at hn⟩,fun hn=>by simp at hn⟩)
end
end Go.Vc
namespace Go.Vc
section
variable{text r:Aa}{a:Int}
theorem Me{rest q w:Aa}{deep:Int}{heavy minus:Bool}{E:Int->Int->Prop}{Q:Val->Int->Prop}(ht:text.length<=1000000)(h:AtT text a r)(hr:r=q++(w++rest))(hq:q.length=if minus then 1 else 0)
  (hO:Out text E (fun v a h=>Q v a) (EZ r w rest minus heavy)):
  Am (σ:=Bool) (fun x_282=>
   (x_282=true->
   Ku text a deep heavy w minus E fun r_289 r_292=>
   Q r_289 r_292)/\
   (x_282=false->
   Am (σ:=Unit) (fun _=>
   (w=([110,105,108]:Aa)->
   Len w/\
   I64 (a+(w.length:Int))/\
   Q Val.nil (a+(w.length:Int)))/\
   (¬(w=([110,105,108]:Aa))->
   Am (σ:=Bool) (fun x_341=>
   (x_341=true->
   Len w/\
   I64 (a+(w.length:Int))/\
   CK (decide (w=([116,114,117,101]:Aa))) fun r_348=>
   Q r_348 (a+(w.length:Int)))/\
   (x_341=false->
   Am (σ:=Unit) (fun _=>
   Len w/\
   I64 (a+(w.length:Int))/\
   UA w fun r_395=>
   Q r_395 (a+(w.length:Int))) fun J_372=>
   FC w fun r_374=>
   (r_374=true->
   Ef text a deep heavy (1:Int) E (
   J_372 ()))/\
   (r_374=false->
   Len w/\
   ((16:Int)<(w.length:Int)->
   Ef text a deep heavy (5:Int) E (
   J_372 ()))/\
   (¬((16:Int)<(w.length:Int))->
   J_372 ())))) fun J_342=>
   (w=([116,114,117,101]:Aa)->
   J_342 (decide (w=([116,114,117,101]:Aa))))/\
   (¬(w=([116,114,117,101]:Aa))->
   J_342 (decide (w=([102,97,108,115,101]:Aa)))))) fun J_318=>
   Am (σ:=Bool) (fun x_323=>
   (x_323=true->
   Ef text a deep heavy (1:Int) E (
   J_318 ()))/\
   (x_323=false->
   J_318 ())) fun J_324=>
   (w=([]:Aa)->
   J_324 true)/\
   (¬(w=([]:Aa))->
   (minus=true->
   J_324 true)/\
   (minus=false->
   In (0:Int) w/\
   J_324 (decide ((AS w (0:Int))=(95:Int))))))) fun J_283=>
   (w≠([]:Aa)->
   In (0:Int) w/\
   ((48:Int)<=(AS w (0:Int))->
   In (0:Int) w/\
   J_283 (decide ((AS w (0:Int))<=(57:Int))))/\
   (¬((48:Int)<=(AS w (0:Int)))->
   J_283 false))/\
   (¬(w≠([]:Aa))->
   J_283 false):=by
 have h0:=h.pos
 cases w with
 |nil=>
  refine Ae ⟨fun hn=>absurd rfl hn,fun _=>⟨fun hn=>by simp at hn,fun _=>Ae (Ae ⟨fun _=>⟨fun _=>hO a h,fun hn=>by simp at hn⟩,fun hn=>absurd rfl hn⟩)⟩⟩
 |cons c w=>
  have hp:AtT text (a+q.length+(c::w).length) rest:=by subst hr;exact h.app.app
  have h1:=hp.le
  have e0:AS (c::w) 0=((c.toNat:Nat):Int):=by simp[AS,ix]
  have i0:In (0:Int) (c::w):=⟨by omega,by simp⟩
  have id:=Ge c
  unfold EZ at hO
  simp only at hO
  rw[e0]
  by_cases hd:Dw c=true
  ·rw[if_pos hd] at hO
   have hd2:=id.1 hd
   exact Ae ⟨fun _=>⟨i0,fun _=>⟨i0,fun _=>Xj ht h hr hq hO,fun hn=>by simp at hn;omega⟩,fun hn=>absurd hd2.1 hn⟩,fun hn=>by simp at hn⟩
  rw[if_neg hd] at hO
  refine Ae ⟨fun _=>⟨i0,fun h48=>⟨i0,fun hn=>absurd (id.2 ⟨h48,by simpa using hn⟩) hd,fun _=>?_⟩,fun _=>⟨fun hn=>by simp at hn,fun _=>?_⟩⟩,fun hn=>by simp at hn⟩
  all_goals
   refine Ae (Ae ⟨fun hn=>by simp at hn,fun _=>?_⟩)
   have c95:c=95↔((c.toNat:Nat):Int)=95:=⟨fun h=>by rw[h];rfl,fun h=>UInt8.toNat_inj.1 (by show c.toNat=95;omega)⟩
   refine⟨fun hm=>⟨fun _=>?_,fun hn=>by simp at hn⟩,fun hm=>⟨i0,fun hn=>?_,fun hn=>?_⟩⟩
   ·rw[if_pos (by simp[hm])] at hO;exact hO a h
   ·have:=c95.2 (by simpa using hn)
    rw[if_pos (by simp[this])] at hO;exact hO a h
   ·have hc:¬c=95:=fun h=>by have:=c95.1 h;simp at hn;omega
    rw[if_neg (by simp[hm,hc])] at hO
    rw[hq,if_neg (by simp[hm])] at hp
    have hp':AtT text (a+((c::w).length:Int)) rest:=by
     rw[show a+((0:Nat):Int)+((c::w).length:Int)=a+((c::w).length:Int) by omega] at hp;exact hp
    have hle:=hp'.le
    have L1:Len (c::w):=by unfold Len;omega
    have L2:I64 (a+((c::w).length:Int)):=by unfold I64;omega
    refine⟨fun e=>⟨L1,L2,?_⟩,fun e=>Ae ⟨fun e2=>⟨fun _=>⟨L1,L2,?_⟩,fun hn=>absurd (decide_eq_true e2) (by rw[hn];simp)⟩,fun e2=>⟨fun e3=>⟨L1,L2,?_⟩,fun e3=>Ae (Tr ⟨fun hw=>?_,fun hw=>⟨L1,fun hl=>?_,fun hl=>⟨L1,L2,?_⟩⟩⟩)⟩⟩⟩
    ·rw[if_pos e] at hO;exact hO _ hp'
    ·rw[if_neg e,if_pos e2] at hO
     show Q (.truth _) _
     rw[decide_eq_true e2];exact hO _ hp'
    ·have e3:c::w=[102,97,108,115,101]:=of_decide_eq_true e3
     rw[if_neg e,if_neg e2,if_pos e3] at hO
     show Q (.truth _) _
     rw[decide_eq_false e2];exact hO _ hp'
    ·have e3:¬c::w=[102,97,108,115,101]:=of_decide_eq_false e3
     rw[if_neg e,if_neg e2,if_neg e3,if_pos (by simpa using hw)] at hO;exact hO a h
    ·have e3:¬c::w=[102,97,108,115,101]:=of_decide_eq_false e3
     rw[if_neg e,if_neg e2,if_neg e3,if_neg (by simpa using hw),if_pos (by omega)] at hO;exact hO a h
    ·have e3:¬c::w=[102,97,108,115,101]:=of_decide_eq_false e3
     rw[if_neg e,if_neg e2,if_neg e3,if_neg (by simpa using hw),if_neg (by omega)] at hO;exact hO _ hp'
theorem Xy{deep:Int}{heavy:Bool}{E:Int->Int->Prop}{Q:Val->Int->Prop}(ht:text.length<=1000000)(h:AtT text a r)(hO:Out text E (fun v a h=>Q v a) (BJ r heavy)):KI text a deep heavy E Q:=by
 have h0:=h.pos;have h1:=h.le
 have hl:r.length<=1000000:=by have:=h.len;omega
 unfold KI
 refine⟨⟨h0,h1⟩,Ae ?_⟩
 rw[h.drop]
 refine Fw hl (by simp) ⟨fun hq=>?_,fun hq=>?_⟩
 ·have hq:r.take 1=[34]:=by simpa using hq
  unfold BJ at hO
  rw[if_pos hq] at hO
  obtain⟨t,rfl⟩:∃t,r=34::t:=⟨r.drop 1,((List.take_append_drop 1 r).symm.trans (by rw[hq];rfl))⟩
  simp only[List.drop_succ_cons,List.drop_zero] at hO
  obtain⟨_,hlt,h2⟩:=h.cons
  refine⟨by unfold I64;omega,?_⟩
  refine⟨fun k=>∃s u,t=s++u/\k=a+1+s.length/\BL t=(match BL u with|some (x,y)=>some (s++x,y)|none=>none),fun k=>(text.length-k).toNat,⟨[],t,by simp,by simp,by cases BL t<;>simp⟩,?_⟩
  show∀c:Int,_->_
  rintro k⟨s,u,e1,e2,e3⟩
  have hu:AtT text k u:=by rw[e2];subst e1;exact h2.app
  have hk0:=hu.pos;have hk1:=hu.le
  have fail:BL u=none->E 1 a:=fun hn=>by rw[e3,hn] at hO;exact hO a h
  refine Ae ⟨by unfold Len;omega,fun hk=>?_,fun hk=>⟨fun hn=>by simp at hn,fun _=>fail ?_⟩⟩
  ·cases u with
   |nil=>have:=hu.len;simp at this;omega
   |cons x u=>
    obtain⟨e5,e6,h3⟩:=hu.cons
    have eb:AS text k=((x.toNat:Nat):Int):=by unfold AS;rw[e5]
    have ik:In k text:=⟨hk0,hk⟩
    have tb:LO x=true↔(32:Int)<=((x.toNat:Nat):Int)/\((x.toNat:Nat):Int)<=126/\((x.toNat:Nat):Int)≠92:=by
     have e:x=92↔x.toNat=92:=⟨fun h=>by rw[h];rfl,fun h=>UInt8.toNat_inj.1 h⟩
     simp only[LO,Bool.and_eq_true,decide_eq_true_eq,UInt8.le_iff_toNat_le,UInt8.toNat_ofNat,bne_iff_ne,ne_eq,e]
     omega
    have c34:x=34↔((x.toNat:Nat):Int)=34:=⟨fun h=>by rw[h];rfl,fun h=>UInt8.toNat_inj.1 (by show x.toNat=34;omega)⟩
    have no:¬LO x=true->E 1 a:=fun hn=>fail (by simp[BL,hn])
    rw[eb]
    refine⟨ik,fun h32=>⟨ik,fun h126=>⟨ik,fun h92=>⟨ik,fun h34=>?_,fun h34=>?_⟩,fun h92=>no fun hn=>by have:=tb.1 hn;simp at h92;omega⟩,fun h126=>⟨fun hn=>by simp at hn,fun _=>no fun hn=>by have:=tb.1 hn;omega⟩⟩,fun h32=>⟨fun hn=>by simp at hn,fun _=>no fun hn=>by have:=tb.1 hn;omega⟩⟩
    ·have hx:=c34.2 h34
     have ht2:=tb.2 ⟨h32,h126,by simpa using h92⟩
     have hqu:BL t=some (s,u):=by rw[e3];simp only[BL];rw[if_pos ht2,if_pos hx];simp
     rw[hqu] at hO
     refine⟨by unfold I64;omega,⟨by omega,by omega,hk1⟩,by unfold I64;omega,?_⟩
     show Q (.text _) _
     have hm:(text.take k.toNat).drop (a+1).toNat=s:=by rw[e2];subst e1;exact h2.mid
     rw[hm];exact hO _ h3
    ·have hx:¬x=34:=fun hn=>h34 (c34.1 hn)
     have ht2:=tb.2 ⟨h32,h126,by simpa using h92⟩
     refine⟨by unfold I64;omega,⟨s++[x],u,by rw[e1];simp,by simp;omega,?_⟩,by show(_:Int).toNat<(_:Int).toNat;omega⟩
     rw[e3];simp only[BL];rw[if_pos ht2,if_neg hx]
     cases BL u<;>simp
  ·cases u with
   |nil=>rfl
   |cons x u=>have:=hu.cons;omega
 ·have hq:¬r.take 1=[34]:=by simpa using hq
  unfold BJ at hO
  rw[if_neg hq] at hO
  refine Fw hl (by simp) (Ae ⟨fun hm=>?_,fun hm=>?_⟩)
  ·have hm':r.take 1=[45]:=by simpa using hm
   rw[if_pos hm'] at hO
   obtain⟨t,rfl⟩:∃t,r=45::t:=⟨r.drop 1,((List.take_append_drop 1 r).symm.trans (by rw[hm'];rfl))⟩
   simp only[List.drop_succ_cons,List.drop_zero] at hO
   obtain⟨_,hlt,h2⟩:=h.cons
   refine⟨by unfold I64;omega,Wj ht h2 (Ae ⟨fun _=>⟨by unfold I64;omega,?_⟩,fun hn=>absurd (hm.symm.trans hn) (by simp)⟩)⟩
   rw[show a+1-1=a by omega,hm]
   exact Me (q:=[45]) ht h (by rw[List.takeWhile_append_dropWhile];rfl) (by simp) hO
  ·have hm':¬r.take 1=[45]:=by simpa using hm
   rw[if_neg hm'] at hO
   refine Wj ht h (Ae ⟨fun hn=>absurd (hm.symm.trans hn) (by simp),fun _=>?_⟩)
   rw[hm]
   exact Me (q:=[]) ht h (by rw[List.takeWhile_append_dropWhile,List.nil_append]) (by simp) hO
theorem MY{v:Val}{deep:Int}{heavy:Bool}{Q:Val->Bool->Prop}(h:Q v (heavy||v.isNil)):GP text a deep heavy v Q:=by
 refine Ae ⟨fun hh=>?_,fun hh=>?_⟩
 ·simpa[hh] using h
 ·simpa[hh] using h
def PY(text:Aa)(deep:Int)(one:Aa->Bool->RO Val)(G:Aa->Int->Int->Bool->(Int->Int->Prop)->(Val->Int->Int->Bool->Prop)->Prop):Prop:=
 ∀{r:Aa}{a:Int}{heavy:Bool}{E:Int->Int->Prop}{Q:Val->Int->Int->Bool->Prop},AtT text a r->Out text E (fun v a h=>Q v a deep h) (one r heavy)->G text a deep heavy E Q
theorem Wk{deep:Int}{heavy:Bool}{last:Aa}{one:Aa->Bool->RO Val}{G:Aa->Int->Int->Bool->(Int->Int->Prop)->(Val->Int->Int->Bool->Prop)->Prop}{E:Int->Int->Prop}{Q:Int->Int->Bool->List Val->Prop}
  (ht:text.length<=1000000)(hd0:0<=deep)(hg:last.length<=1000)(hG:deep+1<=24->PY text (deep+1) one G)(h1:deep+1<=24->∀r h v r' h',one r h=.ok v r' h'->∃p,r=p++r'/\1<=p.length)(h:AtT text a r)(hr:last.length<=r.length)(hd:deep<=24)
  (hO:Out text E (fun l a h=>l.length<=1000000->Q a deep h l) (CB one last r deep heavy)):Qc G text a deep heavy last [] E Q:=by
 have h0:=h.pos
 refine Ae ⟨by unfold I64;omega,fun hf=>?_,fun hf=>?_⟩
 ·unfold CB at hO;rw[if_pos hf] at hO;exact hO a h
 unfold CB at hO;rw[if_neg hf] at hO
 have er:r=r.take last.length++r.drop last.length:=(List.take_append_drop ..).symm
 have el:(r.take last.length).length=last.length:=by simp;omega
 have h2:AtT text (a+(last.length:Int)) (r.drop last.length):=by
  have:=h;rw[er] at this;have:=this.app;rwa [el] at this
 have h2l:=h2.le
 have hle:∀{r:Aa}{a:Int},AtT text a r->r.length<=1000000:=fun h=>by have:=h.len;have:=h.pos;omega
 refine⟨by unfold Len;omega,by unfold I64;omega,Ae (MI ht hg h2 fun b r2 a2 e2 h3=>?_)⟩
 rw[e2] at hO
 refine⟨fun hb=>?_,fun hb=>?_⟩
 ·have:b=false:=by simpa using hb
  subst this
  simp only at hO
  unfold Ga at hO
  refine hG (by omega) h3 ?_
  have post:=h1 (by omega) r2 heavy
  revert hO post
  cases one r2 heavy with
  |err e r'=>exact fun hO _=>hO
  |ok v r3 h3'=>
   intro hO post a3 at3
   refine⟨BY (by simp),?_⟩
   simp only[List.nil_append]
   refine⟨fun s=>s.2.1=deep+1/\∃n r,AtT text s.1 r/\r.length<n/\s.2.2.2.length+r.length<=1000000/\Out text E (fun l a h=>l.length<=1000000->Q a deep h l) (Ep one last n s.2.2.2 r s.2.2.1),fun s=>(text.length-s.1).toNat,⟨rfl,r3.length+1,r3,at3,by omega,?_,hO⟩,?_⟩
   ·obtain⟨p,hp,hp2⟩:=post v r3 h3' rfl
    have:=hle h3
    rw[hp] at this;simp at this ⊢;omega
   rintro⟨x,d,hv,l⟩⟨g1,n,r,g2,g3,g4,g5⟩
   simp only at g1 g2 g3 g4 g5
   subst g1
   refine MI ht (by simp) g2 fun b r4 a4 e4 at4=>?_
   obtain⟨n,rfl⟩:∃m,n=m+1:=⟨n-1,by omega⟩
   unfold Ep at g5
   rw[e4] at g5
   refine⟨fun hb=>?_,fun hb=>?_⟩
   ·subst hb
    simp only at g5
    have post:=h1 (by omega) r4 hv
    obtain⟨p4,hp4,_⟩:=Cq e4
    refine hG (by omega) at4 ?_
    revert g5 post
    cases one r4 hv with
    |err e r'=>exact fun hO _=>hO
    |ok v r5 h5=>
     intro g5 post a5 at5
     obtain⟨p5,hp5,hp6⟩:=post v r5 h5 rfl
     have ll:r.length=p4.length+(1+(p5.length+r5.length)):=by rw[hp4,hp5];simp;omega
     have la:=at5.len;have lb:=g2.len;have lc:=at5.le
     refine⟨BY (by simp;omega),⟨rfl,n,r5,at5,by omega,by simp;omega,g5⟩,by show(_:Int).toNat<(_:Int).toNat;omega⟩
   ·subst hb
    simp only at g5
    refine Qa ht hg at4 (fun r' a' e5 at5=>?_) (fun r' a' e5 at5=>?_)
    ·rw[e5] at g5
     refine⟨by show I64 (deep+1-1);unfold I64;omega,?_⟩
     show Q a' (deep+1-1) hv l
     rw[show deep+1-1=deep by omega]
     exact g5 a' at5 (by omega)
    ·rw[e5] at g5;exact g5 a' at5
 ·have:b=true:=by simpa using hb
  subst this
  simp only at hO
  refine⟨by unfold I64;omega,?_⟩
  rw[show deep+1-1=deep by omega]
  exact hO a2 h3 (by simp)
theorem VJ{deep:Int}{heavy:Bool}{one:Aa->Bool->RO Val}{G:Aa->Int->Int->Bool->(Int->Int->Prop)->(Val->Int->Int->Bool->Prop)->Prop}{E:Int->Int->Prop}{Q:List Val->Int->Int->Bool->List Val->Prop}{k v:List Val}
  (ht:text.length<=1000000)(hG:PY text deep one G)(h:AtT text a r)(hk:k.length<=1000000)(hv:v.length<=1000000)
  (hO:Out text E (fun p a h=>Q (k++[p.1]) a deep h (v++[p.2])) (BE one r heavy)):KL G k text a deep heavy v E Q:=by
 refine hG h ?_
 unfold BE at hO
 revert hO
 cases one r heavy with
 |err e r'=>exact fun hO=>hO
 |ok x r1 h1=>
  intro hO a1 at1
  simp only at hO
  refine⟨BY (by simp;omega),Qa ht (by simp) at1 (fun r' a' e5 at5=>?_) (fun r' a' e5 at5=>?_)⟩
  ·rw[e5] at hO
   simp only at hO
   refine hG at5 ?_
   revert hO
   cases one r' h1 with
   |err e r'=>exact fun hO=>hO
   |ok y r3 h3=>
    intro hO a3 at3
    exact⟨BY (by simp;omega),hO a3 at3⟩
  ·rw[e5] at hO;exact hO a' at5
theorem YT{deep:Int}{heavy:Bool}{one:Aa->Bool->RO Val}{G:Aa->Int->Int->Bool->(Int->Int->Prop)->(Val->Int->Int->Bool->Prop)->Prop}{E:Int->Int->Prop}{Q:Int->Int->Bool->List Val->List Val->Prop}
  (ht:text.length<=1000000)(hd0:0<=deep)(hG:deep+1<=24->PY text (deep+1) one G)(h1:deep+1<=24->∀r h v r' h',one r h=.ok v r' h'->∃p,r=p++r'/\1<=p.length)(h:AtT text a r)(hr:1<=r.length)(hd:deep<=24)
  (hO:Out text E (fun l a h=>l.length<=1000000->Q a deep h (l.map (·.1)) (l.map (·.2))) (CW one r deep heavy)):Qg G text a deep heavy [] [] E Q:=by
 have h0:=h.pos
 refine Ae ⟨by unfold I64;omega,fun hf=>?_,fun hf=>?_⟩
 ·unfold CW at hO;rw[if_pos hf] at hO;exact hO a h
 unfold CW at hO;rw[if_neg hf] at hO
 have h2:AtT text (a+1) (r.drop 1):=by
  cases r with
  |nil=>simp at hr
  |cons c r=>exact h.cons.2.2
 have h2l:=h2.le
 have hle:∀{r:Aa}{a:Int},AtT text a r->r.length<=1000000:=fun h=>by have:=h.len;have:=h.pos;omega
 have hp:∀r h v r' h',BE one r h=.ok v r' h'->∃p,r=p++r'/\1<=p.length:=fun r h v r' h' e=>by
  unfold BE at e
  split at e
  ·cases e
  ·rename_i k r1 h1' e1
   split at e
   ·cases e
   ·rename_i r2 e2
    split at e
    ·cases e
    ·rename_i w r3 h3 e3
     injection e with e4 e5 e6;subst e4 e5
     obtain⟨p1,rfl,b1⟩:=h1 (by omega) _ _ _ _ _ e1
     obtain⟨p2,rfl,_⟩:=Cq e2
     obtain⟨p3,rfl,b3⟩:=h1 (by omega) _ _ _ _ _ e3
     exact⟨p1++(p2++([58]++p3)),by simp,by simp;omega⟩
 refine⟨by unfold I64;omega,VJ ht (hG (by omega)) h2 (by simp) (by simp) ?_⟩
 unfold Ga at hO
 have post:=hp (r.drop 1) heavy
 revert hO post
 cases BE one (r.drop 1) heavy with
 |err e r'=>exact fun hO _=>hO
 |ok v r3 h3'=>
  intro hO post a3 at3
  simp only[List.nil_append] at hO ⊢
  refine⟨fun s=>s.2.1=deep+1/\∃n r l,AtT text s.1 r/\r.length<n/\s.2.2.2.2=l.map (·.1)/\s.2.2.2.1=l.map (·.2)/\l.length+r.length<=1000000/\Out text E (fun l a h=>l.length<=1000000->Q a deep h (l.map (·.1)) (l.map (·.2))) (Ep (BE one) [93] n l r s.2.2.1),fun s=>(text.length-s.1).toNat,⟨rfl,r3.length+1,r3,[v],at3,by omega,rfl,rfl,?_,hO⟩,?_⟩
  ·obtain⟨p,hp,hp2⟩:=post v r3 h3' rfl
   have:=hle h2
   rw[hp] at this;simp at this ⊢;omega
  rintro⟨x,d,hv,vs,ks⟩⟨g1,n,r,l,g2,g3,gk,gv,g4,g5⟩
  simp only at g1 g2 g3 gk gv g4 g5
  subst g1 gk gv
  refine MI ht (by simp) g2 fun b r4 a4 e4 at4=>?_
  obtain⟨n,rfl⟩:∃m,n=m+1:=⟨n-1,by omega⟩
  unfold Ep at g5
  rw[e4] at g5
  refine⟨fun hb=>?_,fun hb=>?_⟩
  ·subst hb
   simp only at g5
   have post:=hp r4 hv
   obtain⟨p4,hp4,_⟩:=Cq e4
   refine VJ ht (hG (by omega)) at4 (by simp;omega) (by simp;omega) ?_
   revert g5 post
   cases BE one r4 hv with
   |err e r'=>exact fun hO _=>hO
   |ok v r5 h5=>
    intro g5 post a5 at5
    obtain⟨p5,hp5,hp6⟩:=post v r5 h5 rfl
    have ll:r.length=p4.length+(1+(p5.length+r5.length)):=by rw[hp4,hp5];simp;omega
    have la:=at5.len;have lb:=g2.len;have lc:=at5.le
    refine⟨⟨rfl,n,r5,l++[v],at5,by omega,by simp,by simp,by simp;omega,g5⟩,by show(_:Int).toNat<(_:Int).toNat;omega⟩
  ·subst hb
   simp only at g5
   refine Qa ht (by simp) at4 (fun r' a' e5 at5=>?_) (fun r' a' e5 at5=>?_)
   ·rw[e5] at g5
    refine⟨by show I64 (deep+1-1);unfold I64;omega,?_⟩
    show Q a' (deep+1-1) hv (l.map (·.1)) (l.map (·.2))
    rw[show deep+1-1=deep by omega]
    exact g5 a' at5 (by omega)
   ·rw[e5] at g5;exact g5 a' at5
theorem SR(ht:text.length<=1000000):∀(f:Nat){deep:Int}{r:Aa}{a:Int}{heavy:Bool}{E:Int->Int->Prop}{Q:Val->Int->Int->Bool->Prop},0<=deep->deep<=24->26<=f+deep->AtT text a r->Out text E (fun v a h=>Q v a deep h) (HB f r deep heavy)->Fq f text a deep heavy E Q
 |0,deep,r,a,heavy,E,Q,hd,hd2,hf,h,hO=>absurd hf (by omega)
 |f+1,deep,r0,a,heavy,E,Q,hd,hd2,hf,h,hO=>by
  unfold Fq
  refine PZ ht h fun a' h'=>⟨⟨h'.pos,h'.le⟩,?_⟩
  rw[h'.drop]
  unfold HB at hO
  simp only at hO
  revert h' hO
  generalize Bd r0=r
  intro h' hO
  have hl:r.length<=1000000:=by have:=h'.len;have:=h'.pos;omega
  have hG:deep+1<=24->PY text (deep+1) (fun r h=>HB f r (deep+1) h) (Fq f):=fun hd3=>fun hat hOut=>SR ht f (by omega) hd3 (by omega) hat hOut
  have h1:deep+1<=24->∀r h v r' h',HB f r (deep+1) h=.ok v r' h'->∃p,r=p++r'/\1<=p.length:=fun hd3 r h v r' h' e=>by
   obtain⟨p,a,b,c⟩:=(DF hd3 e).took;exact⟨p,a,b⟩
  have fitL:∀{last:Aa}{l:List Val}{r':Aa}{h'':Bool},1<=last.length->last.length<=r.length->CB (fun r h=>HB f r (deep+1) h) last r deep heavy=.ok l r' h''->FitL l:=fun{last l r' h''}hl1 hl2 e=>by
   have hd3:deep+1<=24:=by unfold CB at e;split at e<;>first|(cases e;done)|omega
   obtain⟨_,p,_,hall,_⟩:=Gl (Pr:=Fit) (W:=shl) (fun r h v r' h' e=>by
    have:=DF hd3 e;obtain⟨p,a,b,c⟩:=this.took;exact⟨this.fit,p,a,c⟩) hl1 e hl2
   exact FitL_iff.2 hall
  refine Fw hl (by simp) ⟨fun hp=>?_,fun hp=>Fw hl (by simp) ⟨fun hp2=>?_,fun hp2=>Fw hl (by simp) ⟨fun hp3=>?_,fun hp3=>?_⟩⟩⟩
  ·have hp:r.take 1=[123]:=by simpa using hp
   rw[if_pos hp] at hO
   have hr:=HR hp
   refine Wk (one:=fun r h=>HB f r (deep+1) h) ht hd (by simp) hG h1 h' (by simpa using hr) hd2 ?_
   have fl:=@fitL [125]
   revert hO fl
   cases CB (fun r h=>HB f r (deep+1) h) [125] r deep heavy with
   |err e r'=>exact fun hO _=>hO
   |ok l r1 hh=>
    intro hO fl a1 at1 hlen
    exact FE (fl (by simp) (by simpa using hr) rfl) hlen (MY (hO a1 at1))
  ·have hp:¬r.take 1=[123]:=by simpa using hp
   have hp2:r.take 2=[60,60]:=by simpa using hp2
   rw[if_neg hp,if_pos hp2] at hO
   have hr:=HR hp2
   refine Wk (one:=fun r h=>HB f r (deep+1) h) ht hd (by simp) hG h1 h' (by simpa using hr) hd2 ?_
   have fl:=@fitL [62,62]
   revert hO fl
   cases CB (fun r h=>HB f r (deep+1) h) [62,62] r deep heavy with
   |err e r'=>exact fun hO _=>hO
   |ok l r1 hh=>
    intro hO fl a1 at1 hlen
    exact Gp (fl (by simp) (by simpa using hr) rfl) hlen (MY (hO a1 at1))
  ·have hp:¬r.take 1=[123]:=by simpa using hp
   have hp2:¬r.take 2=[60,60]:=by simpa using hp2
   have hp3:r.take 1=[91]:=by simpa using hp3
   rw[if_neg hp,if_neg hp2,if_pos hp3] at hO
   have hr:=HR hp3
   refine YT (one:=fun r h=>HB f r (deep+1) h) ht hd hG h1 h' (by simpa using hr) hd2 ?_
   have fl:∀l r' h'',CW (fun r h=>HB f r (deep+1) h) r deep heavy=.ok l r' h''->∀p∈l,Fit p.1/\Fit p.2:=fun l r' h'' e=>by
    unfold CW at e
    split at e
    ·cases e
    rename_i hd3
    have pr:∀r h v r' h',BE (fun r h=>HB f r (deep+1) h) r h=.ok v r' h'->(Fit v.1/\Fit v.2)/\∃p,r=p++r'/\0<=25* p.length:=fun r h v r' h' e=>by
     unfold BE at e
     split at e
     ·cases e
     ·rename_i k r1 h1' e1
      split at e
      ·cases e
      ·rename_i r2 e2
       split at e
       ·cases e
       ·rename_i w r3 h3 e3
        injection e with e4 e5 e6;subst e4 e5
        have b1:=DF (by omega) e1
        have b3:=DF (by omega) e3
        obtain⟨p1,rfl,_,_⟩:=b1.took
        obtain⟨p2,rfl,_⟩:=Cq e2
        obtain⟨p3,rfl,_,_⟩:=b3.took
        exact⟨⟨b1.fit,b3.fit⟩,p1++(p2++([58]++p3)),by simp,by simp⟩
    obtain⟨p,_,hall,_⟩:=Fs (Pr:=fun p:VP=>Fit p.1/\Fit p.2) (W:=fun _=>0) pr e
    exact hall
   revert hO fl
   cases CW (fun r h=>HB f r (deep+1) h) r deep heavy with
   |err e r'=>exact fun hO _=>hO
   |ok l r1 hh=>
    intro hO fl a1 at1 hlen
    have:=fl l r1 hh rfl
    exact DE (FitL_iff.2 fun x hx=>by obtain⟨p,hp,rfl⟩:=List.mem_map.1 hx;exact(this p hp).1) (FitL_iff.2 fun x hx=>by obtain⟨p,hp,rfl⟩:=List.mem_map.1 hx;exact(this p hp).2) (by simp) (by simpa using hlen) (MY (hO a1 at1))
  ·have hp:¬r.take 1=[123]:=by simpa using hp
   have hp2:¬r.take 2=[60,60]:=by simpa using hp2
   have hp3:¬r.take 1=[91]:=by simpa using hp3
   rw[if_neg hp,if_neg hp2,if_neg hp3] at hO
   refine Xy (heavy:=heavy) ht h' ?_
   have key:∀v r' h'',BJ r heavy=.ok v r' h''->h''=heavy:=fun v r' h'' e=>by
    have wd:∀{r w rest:Aa}{m:Bool},EZ r w rest m heavy=.ok v r' h''->h''=heavy:=fun{r w rest m}e=>by
     unfold EZ at e
     split at e
     ·cases e
     ·unfold JS at e
      repeat' split at e
      all_goals first|(cases e;done)|(injection e with _ _ e3;exact e3.symm)
    unfold BJ at e
    split at e
    ·split at e
     ·injection e with _ _ e3;exact e3.symm
     ·cases e
    ·split at e
     ·exact wd e
     ·exact wd e
   revert hO key
   cases BJ r heavy with
   |err e r'=>exact fun hO _=>hO
   |ok v r1 hh=>
    intro hO key a1 at1
    have:=hO a1 at1
    rw[key v r1 hh rfl] at this;exact this
theorem Acs{Q:Val->Int->Option Int->Prop}(hl:Len text)(h:Q (DB text).1 (DB text).2.1 (DB text).2.2):UQ text Q:=by
 refine⟨hl,fun h4=>?_,fun h4=>⟨26,?_⟩⟩
 ·unfold DB at h;rw[if_pos (by omega)] at h;exact h
 have ht:text.length<=1000000:=by omega
 unfold DB at h;rw[if_neg (by omega)] at h
 refine SR ht 26 (by omega) (by omega) (by omega) (AtT.start text) ?_
 revert h
 cases HB 26 text 0 false with
 |err e r=>intro h a at_;have:=at_.len;have:=at_.pos;have:=at_.le;exact⟨by unfold I64;omega,by rw[at_.len];exact h⟩
 |ok v r hh=>
  intro h a at_
  simp only at h
  refine PZ ht at_ fun a' at'=>?_
  have hal:=at'.len
  refine⟨fun hlt=>?_,fun hlt=>?_⟩
  ·rw[if_pos (by intro e;rw[e] at hal;simp at hal;omega)] at h;rw[hal];exact h
  ·have:Bd r=[]:=List.length_eq_zero_iff.1 (by omega)
   rw[if_neg (by simp[this])] at h
   refine⟨fun hv=>?_,fun hv=>?_⟩
   ·rw[if_pos hv] at h;exact h
   ·rw[if_neg (by simp[hv])] at h;exact h
end
end Go.Vc
namespace Go.Vc
section
variable{α:Type}{one:Aa->Bool->RO α}{sh:α->Aa}{last:Aa}
end
theorem PT:∀{k:List Val}{j:Int},EE j k=true->k=(List.range k.length).map fun i:Nat=>Val.num (j+i)
 |[],j,_=>rfl
 |a::k,j,h=>by
  cases a<;>simp only[EE,Bool.and_eq_true,decide_eq_true_eq,Bool.false_eq_true] at h
  obtain⟨rfl,h⟩:=h
  have:=PT h
  simp only[List.length_cons,List.range_succ_eq_map,List.map_cons,List.map_map]
  conv=>lhs;rw[this]
  simp;intro i hi;omega
section
variable{f:Nat}{s r':Aa}{deep:Int}{h h':Bool}(hsk:Bd s=s)
include hsk
end
theorem Lf(t:Aa):Fit (DB t).1/\IM (DB t).1<=24/\(AM (DB t).1).length<=100000:=by
 have nilc:Fit .nil/\IM .nil<=24/\(AM .nil).length<=100000:=⟨trivial,by simp[IM],by simp[AM]⟩
 unfold DB
 split
 ·exact nilc
 ·rename_i hl
  split
  ·exact nilc
  ·rename_i v r h e
   have:=DF (by omega) e
   obtain⟨p,hp,h1,h2⟩:=this.took
   split
   ·exact nilc
   ·split
    ·exact nilc
    ·refine⟨this.fit,by have:=this.deep;show IM v<=24;omega,?_⟩
     have hpl:=congrArg List.length hp
     simp at hpl
     show shl v<=_
     omega
end Go.Vc
namespace Go.Vc
mutual
def Oz:RV->List Int
 |.mk k i t ks vs=>k::i::(FR t++((ks.length:Int)::(CG ks++((vs.length:Int)::CG vs))))
def CG:List RV->List Int
 |[]=>[]
 |a::l=>Oz a++CG l
end
mutual
theorem Oc:∀{a b:RV}{s t:List Int},Oz a++s=Oz b++t->a=b/\s=t
 |.mk k i x ks vs,.mk k' i' x' ks' vs',s,t,h=>by
  simp only[Oz,List.cons_append,List.cons.injEq,List.append_assoc] at h
  obtain⟨h1,h2,h3⟩:=h
  obtain⟨h4,h5⟩:=HO h3
  simp only[List.cons_append,List.cons.injEq] at h5
  obtain⟨h6,h7⟩:=IT (by omega) h5.2
  simp only[List.cons_append,List.cons.injEq] at h7
  obtain⟨h8,h9⟩:=IT (by omega) h7.2
  exact⟨by rw[h1,h2,h4,h6,h8],h9⟩
theorem IT:∀{a b:List RV}{s t:List Int},a.length=b.length->CG a++s=CG b++t->a=b/\s=t
 |[],b,s,t,hl,h=>by
  cases b with
  |nil=>exact⟨rfl,by simpa[CG] using h⟩
  |cons=>simp at hl
 |x::a,b,s,t,hl,h=>by
  cases b with
  |nil=>simp at hl
  |cons y b=>
   simp only[CG,List.append_assoc] at h
   obtain⟨e,h2⟩:=Oc h
   obtain⟨e2,h3⟩:=IT (by simpa using hl) h2
   exact⟨by rw[e,e2],h3⟩
end
theorem AcA(a b:RV):XI (Oz a) (Oz b):=fun s t h=>by rw[(Oc h).1]
def Cy(a b:RV):Int:=lc (Oz a) (Oz b)
theorem GC(a:RV):Cy a a=0:=JU _
theorem Ha(a b:RV):Cy b a=-Cy a b:=UB _ _
theorem We{a b:RV}(h:Cy a b=0):a=b:=(Oc (s:=[]) (t:=[]) (by rw[Tn h])).1
theorem JN{a b c:RV}(h1:Cy a b<0)(h2:Cy b c<0):Cy a c<0:=JT h1 h2
mutual
def Ym:RV->Nat
 |.mk _ _ _ ks vs=>WM ks+WM vs+1
def WM:List RV->Nat
 |[]=>0
 |a::l=>Ym a+WM l+1
end
theorem OC:∀{l:List RV}{a:RV},a∈l->Ym a<WM l
 |b::l,a,h=>by
  rcases List.mem_cons.1 h with rfl|h
  ·simp[WM];omega
  ·have:=OC h;simp[WM];omega
theorem YN{a x:RV}(h:x∈a.ks):Ym x<Ym a:=by
 cases a;have:=OC h;simp[Ym,RV.ks] at*;omega
theorem YB{a x:RV}(h:x∈a.vs):Ym x<Ym a:=by
 cases a;have:=OC h;simp[Ym,RV.vs] at*;omega
theorem XM{x y:Aa}{Q:Int->Prop}(h:Q (cS x y)):Kr x y Q:=by
 unfold cS at h;simp only[Kr]
 cases h1:MJ x y<;>by_cases h2:x=y<;>simp_all
def LR(a b:List RV):Int:=lc ((a.length:Int)::CG a) ((b.length:Int)::CG b)
theorem Adq(a b:List RV):XI ((a.length:Int)::CG a) ((b.length:Int)::CG b):=fun s t h=>by
 simp only[List.cons_append,List.cons.injEq] at h
 rw[(IT (by omega) h.2).1]
theorem Pw{G:RV->RV->(Int->Prop)->Prop}{a b:List RV}{Q:Int->Prop}(hG:∀x∈a,∀y∈b,∀Q,Q (Cy x y)->G x y Q)(h:Q (LR a b)):KR G a b Q:=by
 intro hL _
 unfold LR at h;rw[Hz] at h
 unfold Len at hL
 refine⟨fun hl=>?_,fun hl _ _=>⟨fun hl2=>?_,fun hl2=>?_⟩⟩
 ·have e:cI (a.length:Int) b.length=-1:=by unfold cI;rw[if_pos hl]
  rw[e] at h;simpa using h
 ·have e:cI (a.length:Int) b.length=1:=by unfold cI;rw[if_neg hl,if_pos hl2]
  rw[e] at h;simpa using h
 ·have e:cI (a.length:Int) b.length=0:=by unfold cI;rw[if_neg hl,if_neg hl2]
  rw[e,if_pos rfl] at h
  refine⟨fun k=>0<=k/\k<=a.length/\lc (CG (a.drop k.toNat)) (CG (b.drop k.toNat))=lc (CG a) (CG b),fun k=>(a.length-k).toNat,⟨by simp,by simp,by simp⟩,?_⟩
  show∀k:Int,_->_
  rintro k⟨k0,k1,k2⟩_
  refine⟨fun hk=>⟨⟨k0,hk⟩,fun _ _=>⟨⟨k0,by omega⟩,fun _ _=>?_⟩⟩,fun hn=>?_⟩
  ·have ma:=Az k0 hk;have mb:=Az (l:=b) k0 (by omega)
   refine hG _ ma _ mb _ ?_
   rw[Cm k0 hk,Cm (l:=b) k0 (by omega)] at k2
   simp only[CG] at k2
   rw[He (AcA _ _)] at k2
   refine⟨fun hn=>?_,fun hn=>⟨by unfold I64;omega,⟨by omega,by omega,?_⟩,by show(_:Int).toNat<(_:Int).toNat;omega⟩⟩
   ·unfold Cy at hn ⊢;rw[if_neg hn] at k2;rw[k2];exact h
   ·have hn:lc (Oz (ix a k)) (Oz (ix b k))=0:=by simpa[Cy] using hn
    rw[if_pos hn] at k2;exact k2
  ·have:k=a.length:=by omega
   subst this
   rw[List.drop_of_length_le (by simp),List.drop_of_length_le (by simp;omega)] at k2
   rw[<-k2] at h;simpa[CG,lc] using h
theorem OA(a b:RV):Cy a b=if cI a.k b.k=0 then(if cI a.i b.i=0 then(if cS a.t b.t=0 then(if LR a.ks b.ks=0 then LR a.vs b.vs else LR a.ks b.ks) else cS a.t b.t) else cI a.i b.i) else cI a.k b.k:=by
 obtain⟨k,i,t,ks,vs⟩:=a
 obtain⟨k',i',t',ks',vs'⟩:=b
 unfold Cy
 simp only[Oz,Hz,RV.k,RV.i,RV.t,RV.ks,RV.vs]
 have e1:=He (WU (x:=t) (y:=t')) ((ks.length:Int)::(CG ks++((vs.length:Int)::CG vs))) ((ks'.length:Int)::(CG ks'++((vs'.length:Int)::CG vs')))
 have e2:=He (Adq ks ks') ((vs.length:Int)::CG vs) ((vs'.length:Int)::CG vs')
 simp only[List.cons_append] at e2
 rw[e1,e2,KX]
 rfl
theorem Gb:∀(m:Nat){a b:RV}{Q:Int->Prop},Ym a<m->Q (Cy a b)->BX m a b Q
 |0,_,_,_,h,_=>absurd h (by omega)
 |m+1,a,b,Q,hm,h=>by
  rw[OA] at h
  unfold BX
  refine⟨fun h1=>?_,fun h1=>⟨fun h2=>?_,fun h2=>?_⟩⟩
  ·have e:cI a.k b.k=-1:=by unfold cI;rw[if_pos h1]
   rw[e] at h;simpa using h
  ·have e:cI a.k b.k=1:=by unfold cI;rw[if_neg h1,if_pos h2]
   rw[e] at h;simpa using h
  have e:cI a.k b.k=0:=by unfold cI;rw[if_neg h1,if_neg h2]
  rw[e,if_pos rfl] at h
  refine⟨fun h1=>?_,fun h1=>⟨fun h2=>?_,fun h2=>?_⟩⟩
  ·have e:cI a.i b.i=-1:=by unfold cI;rw[if_pos h1]
   rw[e] at h;simpa using h
  ·have e:cI a.i b.i=1:=by unfold cI;rw[if_neg h1,if_pos h2]
   rw[e] at h;simpa using h
  have e:cI a.i b.i=0:=by unfold cI;rw[if_neg h1,if_neg h2]
  rw[e,if_pos rfl] at h
  have gk:∀x∈a.ks,∀y∈b.ks,∀Q,Q (Cy x y)->BX m x y Q:=fun x hx y _ Q hQ=>Gb m (by have:=YN hx;omega) hQ
  have gv:∀x∈a.vs,∀y∈b.vs,∀Q,Q (Cy x y)->BX m x y Q:=fun x hx y _ Q hQ=>Gb m (by have:=YB hx;omega) hQ
  refine XM (Ae ⟨fun h0=>?_,fun h0=>Ae ⟨fun hn=>absurd hn h0,fun _=>?_⟩⟩)
  ·rw[if_pos h0] at h
   refine Pw gk (Ae ⟨fun h0=>?_,fun h0=>?_⟩)
   ·rw[if_pos h0] at h;exact Pw gv h
   ·rw[if_neg h0] at h;exact h
  ·rw[if_neg h0] at h;exact h
mutual
def FZ:RV->Int
 |.mk _ _ _ ks vs=>1+Bb ks+Bb vs
def Bb:List RV->Int
 |[]=>0
 |a::l=>FZ a+Bb l
end
mutual
theorem HD:∀a,1<=FZ a
 |.mk _ _ _ ks vs=>by have:=Fi ks;have:=Fi vs;simp[FZ];omega
theorem Fi:∀l,(0:Int)<=Bb l
 |[]=>by simp[Bb]
 |a::l=>by have:=HD a;have:=Fi l;simp[Bb];omega
end
theorem FL:∀a b,Bb (a++b)=Bb a+Bb b
 |[],b=>by simp[Bb]
 |x::a,b=>by simp[Bb,FL a b];omega
theorem PN(l:List RV)(k:Nat):Bb (l.take k)<=Bb l:=by
 have:Bb l=Bb (l.take k)+Bb (l.drop k):=by rw[<-FL,List.take_append_drop]
 have:=Fi (l.drop k);omega
theorem SP{l:List RV}{a:RV}(h:a∈l):FZ a<=Bb l:=by
 induction l with
 |nil=>cases h
 |cons b l ih=>
  have:=Fi l;have:=HD b
  rcases List.mem_cons.1 h with rfl|h
  ·simp[Bb];omega
  ·have:=ih h;simp[Bb];omega
theorem Hy:∀(m:Nat){v:RV}{Q:Int->Prop},Ym v<m->FZ v<=1000000000000->Q (FZ v)->DU m v Q
 |0,_,_,h,_,_=>absurd h (by omega)
 |m+1,v,Q,hm,hw,h=>by
  have ew:FZ v=1+Bb v.ks+Bb v.vs:=by cases v;rfl
  have n1:=Fi v.ks;have n2:=Fi v.vs
  unfold DU
  refine⟨fun s=>0<=s.2/\s.2<=v.ks.length/\s.1=1+Bb (v.ks.take s.2.toNat),fun s=>(v.ks.length-s.2).toNat,⟨by simp,by simp,by simp[Bb]⟩,?_⟩
  rintro⟨n,k⟩⟨k0,k1,e⟩
  simp only at k0 k1 e
  intro hL
  unfold Len at hL
  refine⟨fun hk=>⟨⟨k0,hk⟩,fun _ _=>?_⟩,fun hk=>?_⟩
  ·have mk:=Az k0 hk
   have:=SP mk;have:=HD (ix v.ks k)
   have t1:=PN v.ks k.toNat
   have t0:=Fi (v.ks.take k.toNat)
   refine Hy m (by have:=YN mk;omega) (by omega) ⟨by unfold I64;omega,by unfold I64;omega,⟨by show 0<=k+1;omega,by show k+1<=_;omega,?_⟩,by show(_:Int).toNat<(_:Int).toNat;omega⟩
   show n+FZ (ix v.ks k)=1+Bb (v.ks.take (k+1).toNat)
   rw[AV k0 hk,FL];simp[Bb];omega
  ·have hk:k=v.ks.length:=by omega
   subst hk
   rw[List.take_of_length_le (by simp)] at e
   refine⟨fun s=>0<=s.2/\s.2<=v.vs.length/\s.1=1+Bb v.ks+Bb (v.vs.take s.2.toNat),fun s=>(v.vs.length-s.2).toNat,⟨by simp,by simp,by simp[Bb];omega⟩,?_⟩
   rintro⟨n,k⟩⟨k0,k1,e⟩
   simp only at k0 k1 e
   intro hL
   unfold Len at hL
   refine⟨fun hk=>⟨⟨k0,hk⟩,fun _ _=>?_⟩,fun hk=>?_⟩
   ·have mk:=Az k0 hk
    have:=SP mk;have:=HD (ix v.vs k)
    have t1:=PN v.vs k.toNat
    have t0:=Fi (v.vs.take k.toNat)
    refine Hy m (by have:=YB mk;omega) (by omega) ⟨by unfold I64;omega,by unfold I64;omega,⟨by show 0<=k+1;omega,by show k+1<=_;omega,?_⟩,by show(_:Int).toNat<(_:Int).toNat;omega⟩
    show n+FZ (ix v.vs k)=1+Bb v.ks+Bb (v.vs.take (k+1).toNat)
    rw[AV k0 hk,FL];simp[Bb];omega
   ·have hk:k=v.vs.length:=by omega
    subst hk
    rw[List.take_of_length_le (by simp)] at e
    rw[ew] at h;rw[e];exact h
def Mk:RV:=.mk 0 0 [] [] []
def EX(v:RV):RV:=if FZ v<=1024 then v else Mk
theorem GR{v:RV}{Q:RV->Prop}(hw:FZ v<=1000000000000)(h:Q (EX v)):FQ v Q:=by
 unfold EX at h
 refine⟨Ym v+1,Hy _ (by omega) hw ⟨fun hn=>?_,fun hn=>?_⟩⟩
 ·rw[if_neg (by omega)] at h;exact h
 ·rw[if_pos (by omega)] at h;exact h
theorem PD(v:RV):FZ (EX v)<=1024:=by
 unfold EX;split
 ·assumption
 ·simp[Mk,FZ,Bb]
def Jm(l:List RV):Prop:=l.Pairwise fun a b=>Cy a b<0
theorem YY{α:Type}{l:List α}{i:Int}(h0:0<=i)(h1:i<=l.length):∃A B,l=A++B/\i=A.length:=⟨l.take i.toNat,l.drop i.toNat,by rw[List.take_append_drop],by simp;omega⟩
theorem LK{l:List RV}{v:RV}{Q:Int->Bool->Prop}(ha:Jm l)(hl:l.length<=1000000)(hf:∀p:Int,0<=p->p<l.length->ix l p=v->Q p true)
  (hn:∀A B,l=A++B->(∀x∈A,Cy x v<0)->(∀x∈B,Cy v x<0)->Q (A.length:Int) false):DC l v Q:=by
 intro hL
 refine⟨fun s=>0<=s.1/\s.1<=s.2/\s.2<=l.length/\(∀x∈l.take s.1.toNat,Cy x v<0)/\∀x∈l.drop s.2.toNat,Cy v x<0,fun s=>(s.2-s.1).toNat,⟨by simp,by simp,by simp,by simp,by simp⟩,?_⟩
 rintro⟨a,b⟩⟨g0,g1,g2,g3,g4⟩
 simp only at g0 g1 g2 g3 g4
 refine⟨fun hab=>?_,fun hab=>?_⟩
 ·have em:(a+b).tdiv 2=(a+b)/2:=Int.tdiv_eq_ediv_of_nonneg (by omega)
  rw[em]
  have m0:0<=(a+b)/2:=by omega
  have m1:(a+b)/2<l.length:=by omega
  have mem:=Az m0 m1
  refine⟨by unfold I64;omega,⟨by decide,by unfold I64;omega⟩,⟨m0,m1⟩,fun _ _=>⟨_,Gb _ (Nat.lt_succ_self _) ⟨fun h0=>?_,fun h0=>⟨fun h1=>⟨by unfold I64;omega,⟨by show 0<=(a+b)/2+1;omega,by show(a+b)/2+1<=b;omega,g2,?_,g4⟩,by show(b-((a+b)/2+1)).toNat<(b-a).toNat;omega⟩,fun h1=>⟨⟨g0,by show a<=(a+b)/2;omega,by show(a+b)/2<=_;omega,g3,?_⟩,by show((a+b)/2-a).toNat<(b-a).toNat;omega⟩⟩⟩⟩⟩
  ·exact hf _ m0 m1 (We h0)
  ·intro x hx
   have hx:x∈l.take ((a+b)/2+1).toNat:=hx
   rw[AV m0 m1] at hx
   rcases List.mem_append.1 hx with hx|hx
   ·obtain⟨A,B,e,hA⟩:=YY m0 (by omega:(a+b)/2<=(l.length:Int))
    have hd:=Cm m0 m1
    have hl2:l=l.take ((a+b)/2).toNat++(ix l ((a+b)/2)::l.drop ((a+b)/2+1).toNat):=by rw[<-hd,List.take_append_drop]
    unfold Jm at ha
    rw[hl2] at ha
    exact JN ((List.pairwise_append.1 ha).2.2 x hx _ (by simp)) h1
   ·rw[List.mem_singleton.1 hx];exact h1
  ·intro x hx
   have hx:x∈l.drop ((a+b)/2).toNat:=hx
   have h2:Cy v (ix l ((a+b)/2))<0:=by have:=Ha (ix l ((a+b)/2)) v;omega
   rw[Cm m0 m1] at hx
   rcases List.mem_cons.1 hx with rfl|hx
   ·exact h2
   ·have hd:=Cm m0 m1
    have hl2:l=l.take ((a+b)/2).toNat++(ix l ((a+b)/2)::l.drop ((a+b)/2+1).toNat):=by rw[<-hd,List.take_append_drop]
    unfold Jm at ha
    rw[hl2] at ha
    exact JN h2 ((List.pairwise_cons.1 (List.pairwise_append.1 ha).2.1).1 x hx)
 ·have:a=b:=by omega
  subst this
  have e:a=((l.take a.toNat).length:Int):=by simp;omega
  rw[e]
  exact hn _ _ (List.take_append_drop a.toNat l).symm g3 g4
theorem PL{l:List RV}{v:RV}{Q:Int->Bool->Prop}(ha:Jm l)(hl:l.length<=1000000)(hf:∀p,v∈l->Q p true)
  (hn:∀A B,l=A++B->(∀x∈A,Cy x v<0)->(∀x∈B,Cy v x<0)->Q (A.length:Int) false):DC l v Q:=LK ha hl (fun p h0 h1 e=>hf p (e▸Az h0 h1)) hn
theorem BI{k:Nat}(h:k<=1000001):AY k 80:=⟨by omega,by unfold maxLen;omega⟩
theorem MK{A B:List RV}{v:RV}{Q:List RV->Prop}(hl:(A++B).length<=1000000)(h:Q (A++v::B)):KY (A++B) (A.length:Int) v Q:=by
 simp only[List.length_append] at hl
 refine⟨BI (by simp;omega),fun _=>⟨by unfold I64;simp;omega,?_⟩⟩
 refine⟨fun s=>∃B1 x B2,B=B1++B2/\s.1=A++B1++x::B2/\s.2=A.length+B1.length,fun s=>(s.2-A.length).toNat,⟨B,.mk 0 0 [] [] [],[],by simp,by simp,by simp;omega⟩,?_⟩
 rintro⟨l,k⟩⟨B1,x,B2,e1,e2,e3⟩
 simp only at e2 e3
 subst e1 e2
 simp only[List.length_append] at hl
 refine⟨fun hk=>?_,fun hk=>?_⟩
 ·have hne:B1≠[]:=by rintro rfl;simp at e3;omega
  obtain⟨B1,y,rfl⟩:=Dg hne
  simp only[List.length_append,List.length_singleton] at e3 hl
  have l1:A++(B1++[y])++x::B2=(A++B1)++y::(x::B2):=by simp
  have ey:ix (A++(B1++[y])++x::B2) (k-1)=y:=by rw[l1];exact Dz (by simp;omega)
  refine⟨by unfold I64;omega,⟨by omega,by simp;omega⟩,fun _ _=>⟨⟨by omega,by simp;omega⟩,by unfold I64;omega,⟨B1,y,y::B2,by simp,?_,by show k-1=_;omega⟩,by show(k-1-(A.length:Int)).toNat<(k-(A.length:Int)).toNat;omega⟩⟩
  show(A++(B1++[y])++x::B2).set k.toNat (ix (A++(B1++[y])++x::B2) (k-1))=_
  rw[ey,DJ (by simp;omega)];simp
 ·have:B1=[]:=by cases B1 with
   |nil=>rfl
   |cons=>simp at e3;omega
  subst this
  refine⟨⟨by omega,by simp;omega⟩,?_⟩
  simp only[List.append_nil,List.nil_append] at h ⊢
  rw[DJ rfl];exact h
def CY(a:RV):List RV->List RV
 |[]=>[a]
 |b::l=>if Cy a b<0 then a::b::l else if Cy a b=0 then b::l else b::CY a l
def Yr(l:List RV):List RV:=l.foldl (fun s a=>CY a s) []
def AbQ(l:List RV):RV:=EX (.mk 5 0 [] (Yr l) [])
theorem Ou{a:RV}:∀{A B:List RV},(∀x∈A,Cy x a<0)->(∀x∈B,Cy a x<0)->CY a (A++B)=A++a::B
 |[],[],_,_=>rfl
 |[],b::B,_,h=>by simp[CY,h b (by simp)]
 |x::A,B,h1,h2=>by
  have h3:=h1 x (by simp)
  have:=Ha x a
  simp only[List.cons_append,CY]
  rw[if_neg (by omega),if_neg (by omega),Ou (fun y hy=>h1 y (by simp[hy])) h2]
theorem OB{a:RV}:∀{l:List RV},Jm l->a∈l->CY a l=l
 |b::l,ha,h=>by
  have ha':=List.pairwise_cons.1 ha
  simp only[CY]
  rcases List.mem_cons.1 h with rfl|h
  ·rw[GC];simp
  ·have h3:=ha'.1 a h
   have:=Ha b a
   rw[if_neg (by omega),if_neg (by omega),OB ha'.2 h]
theorem Uo{a:RV}{l:List RV}(ha:Jm l):(a∈l/\CY a l=l)\/∃A B,l=A++B/\CY a l=A++a::B/\(∀x∈A,Cy x a<0)/\∀x∈B,Cy a x<0:=by
 induction l with
 |nil=>exact Or.inr ⟨[],[],rfl,rfl,by simp,by simp⟩
 |cons b l ih=>
  have ha':=List.pairwise_cons.1 ha
  by_cases h1:Cy a b<0
  ·refine Or.inr ⟨[],b::l,rfl,by simp[CY,h1],by simp,fun x hx=>?_⟩
   rcases List.mem_cons.1 hx with rfl|hx
   ·exact h1
   ·exact JN h1 (ha'.1 x hx)
  ·by_cases h2:Cy a b=0
   ·have:=We h2;subst this
    exact Or.inl ⟨by simp,by simp[CY,GC]⟩
   ·have h3:Cy b a<0:=by have:=Ha a b;omega
    rcases ih ha'.2 with⟨m,e⟩|⟨A,B,e1,e2,h4,h5⟩
    ·exact Or.inl ⟨by simp[m],by simp[CY,h1,h2,e]⟩
    ·refine Or.inr ⟨b::A,B,by rw[e1];rfl,by simp[CY,h1,h2,e2],fun x hx=>?_,h5⟩
     rcases List.mem_cons.1 hx with rfl|hx
     ·exact h3
     ·exact h4 x hx
theorem SK{a:RV}{l:List RV}(ha:Jm l):Jm (CY a l):=by
 rcases Uo (a:=a) ha with⟨_,e⟩|⟨A,B,e1,e2,h4,h5⟩
 ·rw[e];exact ha
 ·rw[e2]
  unfold Jm at ha ⊢
  rw[e1] at ha
  obtain⟨p1,p2,p3⟩:=List.pairwise_append.1 ha
  refine List.pairwise_append.2 ⟨p1,List.pairwise_cons.2 ⟨h5,p2⟩,fun x hx y hy=>?_⟩
  rcases List.mem_cons.1 hy with rfl|hy
  ·exact h4 x hx
  ·exact p3 x hx y hy
theorem YM(a:RV)(l:List RV):(CY a l).length<=l.length+1:=by
 induction l with
 |nil=>simp[CY]
 |cons b l ih=>
  simp only[CY];split
  ·simp
  ·split<;>simp<;>omega
theorem Aby(a:RV)(l:List RV):Bb (CY a l)<=Bb l+FZ a:=by
 have:=HD a
 induction l with
 |nil=>simp[CY,Bb]
 |cons b l ih=>
  simp only[CY];split
  ·simp[Bb];omega
  ·split<;>simp[Bb]<;>omega
theorem Pz:∀{l s:List RV},Jm s->Jm (l.foldl (fun s a=>CY a s) s)/\(l.foldl (fun s a=>CY a s) s).length<=s.length+l.length/\Bb (l.foldl (fun s a=>CY a s) s)<=Bb s+Bb l
 |[],s,h=>by simpa[Bb] using h
 |a::l,s,h=>by
  obtain⟨h1,h2,h3⟩:=Pz (l:=l) (SK (a:=a) h)
  have:=YM a s;have:=Aby a s
  refine⟨h1,?_,?_⟩
  ·simp only[List.foldl_cons,List.length_cons];omega
  ·simp only[List.foldl_cons,Bb];omega
theorem LH{l:List RV}{Q:RV->Prop}(hl:l.length<=1000000)(hw:Bb l<=100000000000)(h:Q (AbQ l)):CR l Q:=by
 refine⟨fun s=>0<=s.2/\s.2<=l.length/\s.1=(l.take s.2.toNat).foldl (fun s a=>CY a s) [],fun s=>(l.length-s.2).toNat,⟨by simp,by simp,by simp⟩,?_⟩
 rintro⟨c,k⟩⟨k0,k1,e⟩
 simp only at k0 k1 e
 subst e
 intro _
 obtain⟨f1,f2,f3⟩:=Pz (l:=l.take k.toNat) (s:=[]) List.Pairwise.nil
 have tl:(l.take k.toNat).length<=l.length:=by simp;omega
 simp only[List.length_nil,Bb] at f2 f3
 refine⟨fun hk=>Ae ⟨⟨k0,hk⟩,fun _ _=>?_⟩,fun hk=>?_⟩
 ·have e1:(l.take (k+1).toNat).foldl (fun s a=>CY a s) []=CY (ix l k) ((l.take k.toNat).foldl (fun s a=>CY a s) []):=by rw[AV k0 hk,List.foldl_append];rfl
  have nxt:∀c,c=CY (ix l k) ((l.take k.toNat).foldl (fun s a=>CY a s) [])->I64 (k+1)/\((fun s:List RV×Int=>0<=s.2/\s.2<=l.length/\s.1=(l.take s.2.toNat).foldl (fun s a=>CY a s) []) (c,k+1)/\((l.length:Int)-(k+1)).toNat<((l.length:Int)-k).toNat):=fun c hc=>⟨by unfold I64;omega,⟨by show 0<=k+1;omega,by show k+1<=_;omega,by rw[hc];exact e1.symm⟩,by omega⟩
  generalize(l.take k.toNat).foldl (fun s a=>CY a s) []=c at*
  refine PL f1 (by omega) (fun p hm=>⟨fun hn=>by simp at hn,fun _=>nxt c (OB f1 hm).symm⟩) (fun A B hAB hA hB=>⟨fun _=>⟨⟨k0,hk⟩,fun _ _=>?_⟩,fun hn=>by simp at hn⟩)
  subst hAB
  exact MK (by omega) (nxt _ (Ou hA hB).symm)
 ·have:k=l.length:=by omega
  subst this
  simp only[Int.toNat_natCast,List.take_length] at f3 ⊢
  refine GR ?_ h
  simp only[FZ,Bb];omega
abbrev RP:=RV×RV
def BS(k v:RV):List RP->List RP
 |[]=>[(k,v)]
 |b::l=>if Cy k b.1<0 then(k,v)::b::l else if Cy k b.1=0 then b::l else b::BS k v l
def KO(ps:List RP):List RP:=ps.foldl (fun s p=>BS p.1 p.2 s) []
def Ado(k v:List RV):RV:=EX (.mk 6 0 [] ((KO (k.zip v)).map (·.1)) ((KO (k.zip v)).map (·.2)))
theorem Nc(k v:RV):∀l,(BS k v l).map (·.1)=CY k (l.map (·.1))
 |[]=>rfl
 |b::l=>by
  simp only[BS,List.map_cons,CY];split
  ·simp
  ·split
   ·simp
   ·simp[Nc k v l]
theorem PC{k v:RV}:∀{A B:List RP},(∀x∈A,Cy x.1 k<0)->(∀x∈B,Cy k x.1<0)->BS k v (A++B)=A++(k,v)::B
 |[],[],_,_=>rfl
 |[],b::B,_,h=>by simp[BS,h b (by simp)]
 |x::A,B,h1,h2=>by
  have h3:=h1 x (by simp)
  have:=Ha x.1 k
  simp only[List.cons_append,BS]
  rw[if_neg (by omega),if_neg (by omega),PC (fun y hy=>h1 y (by simp[hy])) h2]
theorem LQ{k v:RV}:∀{l:List RP},Jm (l.map (·.1))->k∈l.map (·.1)->BS k v l=l
 |b::l,ha,h=>by
  have ha':=List.pairwise_cons.1 ha
  simp only[BS]
  rcases List.mem_cons.1 h with rfl|h
  ·rw[GC];simp
  ·have h3:Cy b.1 k<0:=ha'.1 k h
   have:=Ha b.1 k
   rw[if_neg (by omega),if_neg (by omega),LQ ha'.2 h]
def QX:List RP->Int
 |[]=>0
 |p::l=>FZ p.1+FZ p.2+QX l
theorem Ui:∀l:List RP,QX l=Bb (l.map (·.1))+Bb (l.map (·.2))
 |[]=>by simp[QX,Bb]
 |p::l=>by simp[QX,Bb,Ui l];omega
theorem YJ(k v:RV)(l:List RP):QX (BS k v l)<=QX l+FZ k+FZ v/\(BS k v l).length<=l.length+1:=by
 have:=HD k;have:=HD v
 induction l with
 |nil=>simp[BS,QX]
 |cons b l ih=>
  simp only[BS];split
  ·simp[QX];omega
  ·split
   ·simp[QX];omega
   ·simp[QX];omega
theorem NI:∀{l s:List RP},Jm (s.map (·.1))->Jm ((l.foldl (fun s p=>BS p.1 p.2 s) s).map (·.1))/\(l.foldl (fun s p=>BS p.1 p.2 s) s).length<=s.length+l.length/\QX (l.foldl (fun s p=>BS p.1 p.2 s) s)<=QX s+QX l
 |[],s,h=>by simpa[QX] using h
 |a::l,s,h=>by
  obtain⟨h1,h2,h3⟩:=NI (l:=l) (s:=BS a.1 a.2 s) (by rw[Nc];exact SK h)
  have:=YJ a.1 a.2 s
  refine⟨h1,?_,?_⟩
  ·simp only[List.foldl_cons,List.length_cons];omega
  ·simp only[List.foldl_cons,QX];omega
theorem Ph{ks vs:List RV}{Q:RV->Prop}(hl:ks.length<=1000000)(hkv:ks.length=vs.length)(hw:Bb ks+Bb vs<=100000000000)(h:Q (Ado ks vs)):FU ks vs Q:=by
 have ez:(ks.zip vs).length=ks.length:=by simp;omega
 refine⟨fun s=>0<=s.2.2/\s.2.2<=ks.length/\s.1=(((ks.zip vs).take s.2.2.toNat).foldl (fun s p=>BS p.1 p.2 s) []).map (·.1)/\s.2.1=(((ks.zip vs).take s.2.2.toNat).foldl (fun s p=>BS p.1 p.2 s) []).map (·.2),fun s=>(ks.length-s.2.2).toNat,⟨by simp,by simp,by simp,by simp⟩,?_⟩
 rintro⟨c,d,k⟩⟨k0,k1,e,e'⟩
 simp only at k0 k1 e e'
 subst e e'
 intro _
 obtain⟨f1,f2,f3⟩:=NI (l:=(ks.zip vs).take k.toNat) (s:=[]) List.Pairwise.nil
 have tl:((ks.zip vs).take k.toNat).length<=ks.length:=by simp;omega
 simp only[List.length_nil,QX] at f2 f3
 refine⟨fun hk=>Ae ⟨⟨k0,hk⟩,fun _ _=>?_⟩,fun hk=>?_⟩
 ·have hk:k<(ks.length:Int):=hk
  have hz:ix (ks.zip vs) k=(ix ks k,ix vs k):=by
   have h2:k.toNat<ks.length:=by omega
   have h3:k.toNat<vs.length:=by omega
   have h4:k.toNat<(ks.zip vs).length:=by omega
   simp only[ix,List.getD_eq_getElem?_getD]
   rw[List.getElem?_eq_getElem h4,List.getElem?_eq_getElem h2,List.getElem?_eq_getElem h3]
   simp
  have e1:((ks.zip vs).take (k+1).toNat).foldl (fun s p=>BS p.1 p.2 s) []=BS (ix ks k) (ix vs k) (((ks.zip vs).take k.toNat).foldl (fun s p=>BS p.1 p.2 s) []):=by rw[AV k0 (by omega),List.foldl_append,hz];rfl
  have nxt:∀c,c=BS (ix ks k) (ix vs k) (((ks.zip vs).take k.toNat).foldl (fun s p=>BS p.1 p.2 s) [])->I64 (k+1)/\((fun s:List RV×List RV×Int=>0<=s.2.2/\s.2.2<=ks.length/\s.1=(((ks.zip vs).take s.2.2.toNat).foldl (fun s p=>BS p.1 p.2 s) []).map (·.1)/\s.2.1=(((ks.zip vs).take s.2.2.toNat).foldl (fun s p=>BS p.1 p.2 s) []).map (·.2)) (c.map (·.1),c.map (·.2),k+1)/\((ks.length:Int)-(k+1)).toNat<((ks.length:Int)-k).toNat):=fun c hc=>⟨by unfold I64;omega,⟨by show 0<=k+1;omega,by show k+1<=_;omega,by show c.map (·.1)=_;rw[hc,e1],by show c.map (·.2)=_;rw[hc,e1]⟩,by omega⟩
  generalize((ks.zip vs).take k.toNat).foldl (fun s p=>BS p.1 p.2 s) []=c at*
  refine PL f1 (by simp;omega) (fun p hm=>⟨fun hn=>by simp at hn,fun _=>nxt c (LQ f1 hm).symm⟩) (fun A B hAB hA hB=>⟨fun _=>⟨⟨k0,hk⟩,fun _ _=>?_⟩,fun hn=>by simp at hn⟩)
  obtain⟨A2,B2,rfl,hA2,hB2⟩:∃A2 B2,c=A2++B2/\A2.map (·.1)=A/\B2.map (·.1)=B:=by
   refine⟨c.take A.length,c.drop A.length,(List.take_append_drop ..).symm,?_,?_⟩
   ·rw[List.map_take,hAB];simp
   ·rw[List.map_drop,hAB];simp
  subst hA2 hB2
  have hlen:((A2++B2).map (·.1)).length<=1000000:=by simp at f2 ⊢;omega
  rw[List.map_append] at hlen ⊢
  have em:BS (ix ks k) (ix vs k) (A2++B2)=A2++(ix ks k,ix vs k)::B2:=PC (fun x hx=>hA x.1 (List.mem_map_of_mem hx)) (fun x hx=>hB x.1 (List.mem_map_of_mem hx))
  refine MK hlen ⟨⟨k0,by omega⟩,fun _ _=>?_⟩
  rw[List.map_append,show((A2.map (·.1)).length:Int)=((A2.map (·.2)).length:Int) by simp]
  refine MK (by simp at hlen ⊢;omega) ?_
  have:=nxt _ em.symm
  simpa using this
 ·have:k=ks.length:=by omega
  subst this
  have ef:(ks.zip vs).take ((ks.length:Int)).toNat=ks.zip vs:=List.take_of_length_le (by simp;omega)
  rw[ef] at f3 ⊢
  have z:=Ui (ks.zip vs)
  have z1:(ks.zip vs).map (·.1)=ks:=by rw[List.map_fst_zip];omega
  have z2:(ks.zip vs).map (·.2)=vs:=by rw[List.map_snd_zip];omega
  rw[z1,z2] at z
  have f3':QX (KO (ks.zip vs))<=0+QX (ks.zip vs):=f3
  refine GR (Int.le_trans (Int.le_of_eq (b:=1+QX (KO (ks.zip vs))) ?_) (by omega)) h
  rw[Ui,<-Int.add_assoc];rfl
def Yv(n:Int):RV:=.mk 2 n [] [] []
def FW(n:Nat):List RV:=(List.range n).map fun k:Nat=>Yv ((k:Int)+1)
def Acn(l:List RV):RV:=EX (.mk 6 0 [] (FW l.length) l)
theorem ZL:∀n,Bb (FW n)=n:=by
 intro n
 induction n with
 |zero=>simp[FW,Bb]
 |succ n ih=>rw[show FW (n+1)=FW n++[Yv ((n:Int)+1)] by simp[FW,List.range_succ],FL,ih];simp[Bb,Yv,FZ]
theorem Lm{l:List RV}{Q:RV->Prop}(hl:l.length<=1000000)(hw:Bb l<=100000000000)(h:Q (Acn l)):Ea l Q:=by
 refine⟨fun s=>0<=s.2.2/\s.2.2<=l.length/\s.1=FW s.2.2.toNat/\s.2.1=l.take s.2.2.toNat,fun s=>(l.length-s.2.2).toNat,⟨by simp,by simp,by simp[FW],by simp⟩,?_⟩
 rintro⟨c,d,k⟩⟨k0,k1,e,e'⟩
 simp only at k0 k1 e e'
 subst e e'
 intro _
 refine⟨fun hk=>?_,fun hk=>?_⟩
 ·have hk:k<(l.length:Int):=hk
  refine⟨by unfold I64;omega,BI (by simp[FW];omega),⟨k0,hk⟩,fun _ _=>⟨BI (by simp;omega),by unfold I64;omega,⟨by show 0<=k+1;omega,by show k+1<=_;omega,?_,?_⟩,by show((l.length:Int)-(k+1)).toNat<((l.length:Int)-k).toNat;omega⟩⟩
  ·show FW k.toNat++[Yv (k+1)]=FW (k+1).toNat
   rw[show(k+1).toNat=k.toNat+1 by omega,show FW (k.toNat+1)=FW k.toNat++[Yv ((k.toNat:Int)+1)] by simp[FW,List.range_succ],show((k.toNat:Nat):Int)=k by omega]
  ·show l.take k.toNat++[ix l k]=l.take (k+1).toNat
   rw[AV k0 hk]
 ·have:k=l.length:=by omega
  subst this
  simp only[Int.toNat_natCast,List.take_length]
  refine GR ?_ h
  simp only[FZ,ZL];omega
end Go.Vc
namespace Go.Vc
mutual
def AB:Val->RV
 |.nil=>.mk 0 0 [] [] []
 |.truth b=>.mk 1 (if b then 1 else 0) [] [] []
 |.num n=>.mk 2 n [] [] []
 |.text s=>.mk 3 0 s [] []
 |.atom s=>.mk 4 0 s [] []
 |.set l _=>.mk 5 0 [] (Ak l) []
 |.fn k v _=>.mk 6 0 [] (Ak k) (Ak v)
def Ak:List Val->List RV
 |[]=>[]
 |a::l=>AB a::Ak l
end
theorem Cg:∀l,Ak l=l.map AB
 |[]=>rfl
 |a::l=>by simp[Ak,Cg l]
theorem Ah(l:List Val):(Ak l).length=l.length:=by simp[Cg]
theorem BH(a b:List Val):Ak (a++b)=Ak a++Ak b:=by simp[Cg]
theorem Wc(v:Val):(AB v).k=v.rankOf:=by cases v<;>rfl
theorem Acu(v:Val):(AB v).k=0↔v.isNil=true:=by cases v<;>simp[AB,RV.k,Val.isNil]
theorem SJ:∀{a b:List Val},HvL a->HvL b->a.length=b.length->(∀x∈a,∀y∈b,Cy (AB x) (AB y)=AK x y)->lc (CG (Ak a)) (CG (Ak b))=lc (Ek a) (Ek b)
 |[],[],_,_,_,_=>rfl
 |[],_::_,_,_,hl,_=>by simp at hl
 |_::_,[],_,_,hl,_=>by simp at hl
 |x::a,y::b,ha,hb,hl,h=>by
  simp only[Ak,CG,Ek]
  rw[He (AcA _ _),He (Tz ha.1 hb.1)]
  have e:=h x (by simp) y (by simp)
  unfold Cy AK at e
  rw[e,SJ ha.2 hb.2 (by simpa using hl) fun u hu v hv=>h u (by simp[hu]) v (by simp[hv])]
theorem Ls{a b:List Val}(ha:HvL a)(hb:HvL b)(h:∀x∈a,∀y∈b,Cy (AB x) (AB y)=AK x y):LR (Ak a) (Ak b)=HH a b:=by
 unfold LR HH
 rw[Hz,Hz,Ah,Ah]
 by_cases h0:cI (a.length:Int) b.length=0
 ·rw[if_pos h0,if_pos h0]
  have:=Mt h0
  exact SJ ha hb (by omega) h
 ·rw[if_neg h0,if_neg h0]
theorem Fu:LR [] []=0:=rfl
theorem NQ:cS [] []=0:=rfl
theorem Kc(x:Int):cI x x=0:=by simp[cI]
theorem Mr:∀(n:Nat){a b:Val},a.sz<n->Hv a->Hv b->Cy (AB a) (AB b)=AK a b
 |0,_,_,h,_,_=>absurd h (by omega)
 |n+1,a,b,hn,ha,hb=>by
  rw[OA]
  by_cases hr:cI a.rankOf b.rankOf=0
  ·have hr2:=Mt hr
   rw[Wc,Wc,if_pos hr]
   cases a<;>cases b<;>simp[Val.rankOf] at hr2
   ·simp[AB,RV.i,RV.t,RV.ks,RV.vs,Kc,NQ,Fu,AK,JU]
   ·rename_i x y
    cases x<;>cases y<;>simp[AB,RV.i,RV.t,RV.ks,RV.vs,cI,NQ,Fu,AK,enc,lc]
   ·rename_i x y
    simp only[AB,RV.i,RV.t,RV.ks,RV.vs,NQ,Fu,if_true,QH]
    split
    ·rename_i h;exact h.symm
    ·rfl
   ·rename_i x y
    simp only[AB,RV.i,RV.t,RV.ks,RV.vs,Kc,Fu,if_true]
    have e:AK (.text x) (.text y)=cS x y:=by rw[<-KX];simp[AK,enc,lc]
    rw[e];split
    ·rename_i h;exact h.symm
    ·rfl
   ·rename_i x y
    simp only[AB,RV.i,RV.t,RV.ks,RV.vs,Kc,Fu,if_true]
    have e:AK (.atom x) (.atom y)=cS x y:=by rw[<-KX];simp[AK,enc,lc]
    rw[e];split
    ·rename_i h;exact h.symm
    ·rfl
   ·rename_i l w l' w'
    have ek:=Ls ha.2 hb.2 fun x hx y hy=>Mr n (by have:=FK (w:=w) hx;omega) (HvL_iff.1 ha.2 _ hx) (HvL_iff.1 hb.2 _ hy)
    simp only[AB,RV.i,RV.t,RV.ks,RV.vs,Kc,NQ,Fu,if_true,ek]
    have e:AK (.set l w) (.set l' w')=HH l l':=by unfold HH;simp[AK,enc,lc]
    rw[e];split
    ·rename_i h;exact h.symm
    ·rfl
   ·rename_i k v w k' v' w'
    have ek:=Ls ha.2.1 hb.2.1 fun x hx y hy=>Mr n (by have:=Iy (v:=v) (w:=w) hx;omega) (HvL_iff.1 ha.2.1 _ hx) (HvL_iff.1 hb.2.1 _ hy)
    have ev:=Ls ha.2.2 hb.2.2 fun x hx y hy=>Mr n (by have:=EP (k:=k) (w:=w) hx;omega) (HvL_iff.1 ha.2.2 _ hx) (HvL_iff.1 hb.2.2 _ hy)
    simp only[AB,RV.i,RV.t,RV.ks,RV.vs,Kc,NQ,if_true,ek,ev]
    unfold AK HH;simp only[enc]
    have:=He (ZS ha.2.1 hb.2.1) ((v.length:Int)::Ek v) ((v'.length:Int)::Ek v')
    rw[<-this];simp[lc]
  ·rw[Wc,Wc,if_neg hr]
   unfold AK
   cases a<;>cases b<;>simp only[enc,Hz,Val.rankOf] at hr ⊢<;>first|(rw[if_neg hr])|(exact absurd rfl hr)
theorem IA{a b:Val}(ha:Hv a)(hb:Hv b):Cy (AB a) (AB b)=AK a b:=Mr _ (Nat.lt_succ_self _) ha hb
mutual
theorem UE:∀{v:Val},Hv v->FZ (AB v)=v.weightOf
 |.nil,_=>rfl
 |.truth _,_=>rfl
 |.num _,_=>rfl
 |.text _,_=>rfl
 |.atom _,_=>rfl
 |.set l h,g=>by have:=Gi g.2;have:=g.1;simp[AB,FZ,Bb,Val.weightOf];omega
 |.fn k v h,g=>by have:=Gi g.2.1;have:=Gi g.2.2;have:=g.1;simp[AB,FZ,Bb,Val.weightOf];omega
theorem Gi:∀{l:List Val},HvL l->Bb (Ak l)=CZ l
 |[],_=>rfl
 |a::l,g=>by have:=UE g.1;have:=Gi g.2;simp[Ak,Bb,CZ];omega
end
theorem Nv{a:Val}(ha:Hv a):∀{l:List Val},HvL l->CY (AB a) (Ak l)=Ak (Gn a l)
 |[],_=>rfl
 |b::l,h=>by
  simp only[Ak,CY,Gn]
  rw[IA ha h.1]
  split
  ·rfl
  ·split
   ·rfl
   ·simp[Ak,Nv ha h.2]
theorem UX{l:List Val}(hl:HvL l):Yr (Ak l)=Ak (CP l):=by
 have:∀{l s:List Val},HvL l->HvL s->(Ak l).foldl (fun s a=>CY a s) (Ak s)=Ak (l.foldl (fun s a=>Gn a s) s):=by
  intro l
  induction l with
  |nil=>intro s _ _;rfl
  |cons a l ih=>intro s h1 h2;simp only[Ak,List.foldl_cons];rw[Nv h1.1 h2];exact ih h1.2 (Wu h1.1 h2)
 exact this hl (s:=[]) trivial
theorem SO{l:List Val}(hl:HvL l):AbQ (Ak l)=AB (EJ l):=by
 have hc:HvL (CP l):=HvL_iff.2 fun a ha=>HvL_iff.1 hl _ ((BV hl a).1 ha)
 unfold AbQ EJ DM EX
 rw[UX hl]
 have e:FZ (.mk 5 0 [] (Ak (CP l)) [])=1+CZ (CP l):=by simp[FZ,Bb,Gi hc]
 rw[e]
 split
 ·rfl
 ·rfl
def SG(p:VP):RP:=(AB p.1,AB p.2)
theorem Pd{k v:Val}(hk:Hv k):∀{l:List VP},On l->BS (AB k) (AB v) (l.map SG)=(FY k v l).map SG
 |[],_=>rfl
 |b::l,h=>by
  simp only[List.map_cons,BS,FY,SG]
  rw[IA hk (h b (by simp))]
  split
  ·rfl
  ·split
   ·rfl
   ·have:=Pd (v:=v) hk (l:=l) fun p hp=>h p (by simp[hp])
    simp only[List.map_cons,SG] at this ⊢
    rw[this]
theorem Sb{l:List VP}(hl:On l):KO (l.map SG)=(BO l).map SG:=by
 have:∀{l s:List VP},On l->On s->(l.map SG).foldl (fun s p=>BS p.1 p.2 s) (s.map SG)=(l.foldl (fun s p=>FY p.1 p.2 s) s).map SG:=by
  intro l
  induction l with
  |nil=>intro s _ _;rfl
  |cons a l ih=>
   intro s h1 h2
   simp only[List.map_cons,List.foldl_cons]
   rw[show BS (SG a).1 (SG a).2 (s.map SG)=(FY a.1 a.2 s).map SG from Pd (h1 a (by simp)) h2]
   exact ih (fun p hp=>h1 p (by simp[hp])) (RB (h1 a (by simp)) h2)
 exact this hl (s:=[]) (fun p hp=>by cases hp)
theorem VD:∀k v:List Val,(Ak k).zip (Ak v)=(k.zip v).map SG
 |[],v=>by simp[Ak]
 |a::k,[]=>by simp[Ak]
 |a::k,b::v=>by simp[Ak,SG,VD k v]
theorem SZ{k v:List Val}(hk:HvL k)(hv:HvL v):EX (.mk 6 0 [] (Ak k) (Ak v))=AB (ER k v):=by
 unfold ER EX
 have e:FZ (.mk 6 0 [] (Ak k) (Ak v))=1+CZ k+CZ v:=by simp[FZ,Gi hk,Gi hv]
 rw[e]
 split
 ·rfl
 ·rfl
theorem TR{k v:List Val}(hk:HvL k)(hv:HvL v):Ado (Ak k) (Ak v)=AB (CC k v):=by
 have hz:On (k.zip v):=fun p hp=>HvL_iff.1 hk _ (List.of_mem_zip hp).1
 unfold Ado CC
 rw[VD,Sb hz]
 have e1:((BO (k.zip v)).map SG).map (·.1)=Ak ((BO (k.zip v)).map (·.1)):=by rw[Cg,List.map_map,List.map_map];rfl
 have e2:((BO (k.zip v)).map SG).map (·.2)=Ak ((BO (k.zip v)).map (·.2)):=by rw[Cg,List.map_map,List.map_map];rfl
 rw[e1,e2]
 refine SZ (HvL_iff.2 fun x hx=>?_) (HvL_iff.2 fun x hx=>?_)
 ·obtain⟨p,hp,rfl⟩:=List.mem_map.1 hx
  exact HvL_iff.1 hk _ (List.of_mem_zip (Di hz hp)).1
 ·obtain⟨p,hp,rfl⟩:=List.mem_map.1 hx
  exact HvL_iff.1 hv _ (List.of_mem_zip (Di hz hp)).2
theorem WD(n:Nat):FW n=Ak (FT n):=by rw[Cg,FT,List.map_map];rfl
theorem AbU(n:Nat):HvL (FT n):=HvL_iff.2 fun a ha=>by obtain⟨k,_,rfl⟩:=List.mem_map.1 ha;trivial
theorem Ts{l:List Val}(hl:HvL l):Acn (Ak l)=AB (Cr l):=by
 unfold Acn Cr
 rw[Ah,WD]
 exact SZ (AbU _) hl
end Go.Vc
namespace Go.Vc
section
variable{text r:Aa}{a:Int}
theorem Su(r:Aa):Bd (Bd r)=Bd r:=by
 unfold Bd
 induction r with
 |nil=>rfl
 |cons c r ih=>
  by_cases h:Fc c=true
  ·simp[h,ih]
  ·simp[h]
theorem GV{deep e bad:Int}{heavy:Bool}{Q:Int->Prop}(ht:text.length<=1000000)(h:AtT text a r)(hQ:∀a',AtT text a' (Bd r)->Q a'):Kh text a deep e bad heavy Q:=by
 refine⟨fun c=>∃s,AtT text c s/\Bd s=Bd r,fun c=>(text.length-c).toNat,⟨r,h,rfl⟩,?_⟩
 show∀c:Int,_->_
 rintro c⟨s,hs,e⟩
 refine Ae ⟨by unfold Len;omega,fun hc=>?_,fun hc=>⟨fun hn=>by simp at hn,fun _=>?_⟩⟩
 ·cases s with
  |nil=>have:=hs.len;simp at this;omega
  |cons x s=>
   obtain⟨e1,e2,h2⟩:=hs.cons
   have eb:AS text c=((x.toNat:Nat):Int):=by unfold AS;rw[e1]
   have ic:In c text:=⟨hs.pos,hc⟩
   have yes:Fc x=true->I64 (c+1)/\((∃s,AtT text (c+1) s/\Bd s=Bd r)/\((text.length:Int)-(c+1)).toNat<((text.length:Int)-c).toNat):=fun hx=>
    ⟨by unfold I64;have:=hs.pos;omega,⟨s,h2,by rw[<-e];simp[Bd,hx]⟩,by have:=hs.pos;omega⟩
   have no:¬Fc x=true->Q c:=fun hx=>hQ c (by rw[<-e];simpa[Bd,hx] using hs)
   have k:∀n:UInt8,((x.toNat:Nat):Int)=((n.toNat:Nat):Int)↔x=n:=fun n=>⟨fun h=>UInt8.toNat_inj.1 (by omega),fun h=>by rw[h]⟩
   have k1:=k 32;have k2:=k 9;have k3:=k 10
   simp only[UInt8.toNat_ofNat] at k1 k2 k3
   rw[eb]
   refine⟨ic,fun h1=>⟨fun _=>yes (by simp[Fc,k1.1 h1]),fun hn=>by simp at hn⟩,fun h1=>⟨ic,fun h2=>⟨fun _=>yes (by simp[Fc,k2.1 h2]),fun hn=>by simp at hn⟩,fun h2=>⟨ic,fun h3=>yes (by simp[Fc,k3.1 (of_decide_eq_true h3)]),fun h3=>no ?_⟩⟩⟩
   have h3:=of_decide_eq_false h3
   have n1:x≠32:=fun h=>h1 (k1.2 h)
   have n2:x≠9:=fun h=>h2 (k2.2 h)
   have n3:x≠10:=fun h=>h3 (k3.2 h)
   simp[Fc,n1,n2,n3]
 ·cases s with
  |nil=>exact hQ c (by rw[<-e];exact hs)
  |cons x s=>have:=hs.cons;omega
theorem GD{deep bad:Int}{heavy:Bool}{sign:Aa}{Q:Bool->Int->Prop}(ht:text.length<=1000000)(hg:sign.length<=1000)(h:AtT text a r)(hQ:∀b r' a',CF sign r=(b,r')->AtT text a' r'->Q b a'):Et text a deep 0 bad heavy sign Q:=by
 refine GV ht h fun a' h'=>Ae ⟨fun hn=>absurd rfl hn,fun _=>?_⟩
 have hl:=h'.len;have hp:=h'.pos;have hle:=h'.le
 have miss:¬(Bd r).take sign.length=sign->Q false a':=fun hn=>hQ false _ _ (by unfold CF;rw[if_neg hn]) h'
 refine⟨by unfold Len;omega,by unfold I64;omega,by unfold Len;omega,fun hlt=>⟨fun _=>miss ?_,fun hn=>by simp at hn⟩,fun hlt=>⟨by unfold Len;omega,by unfold I64;omega,⟨hp,by omega,by omega⟩,fun hd=>miss ?_,fun hd=>?_⟩⟩
 ·intro e;have:=congrArg List.length e;simp at this;omega
 ·have hd:=of_decide_eq_true hd
  intro e
  have e2:Bd r=sign++(Bd r).drop sign.length:=by conv=>lhs;rw[<-List.take_append_drop sign.length (Bd r),e]
  rw[e2] at h'
  exact hd h'.mid
 ·have hd:=of_decide_eq_false hd
  have hd:(text.take (a'+(sign.length:Int)).toNat).drop a'.toNat=sign:=by simpa using hd
  have hlen2:sign.length<=(Bd r).length:=by omega
  have e:(Bd r).take sign.length=sign:=by
   have h2:=h'
   rw[<-List.take_append_drop sign.length (Bd r)] at h2
   have hm:=h2.mid
   have el:((Bd r).take sign.length).length=sign.length:=by simp;omega
   rw[el] at hm
   rw[<-hm];exact hd
  have e2:Bd r=sign++(Bd r).drop sign.length:=by conv=>lhs;rw[<-List.take_append_drop sign.length (Bd r),e]
  have h2:=h'
  rw[e2] at h2
  exact⟨by unfold Len;omega,by unfold I64;omega,hQ true _ _ (by unfold CF;rw[if_pos e]) h2.app⟩
theorem Ld{deep e bad:Int}{heavy:Bool}{sign:Aa}{Q:Bool->Int->Prop}(he:e≠0)(ht:text.length<=1000000)(h:AtT text a r)(hQ:∀a' s,AtT text a' s->Q false a'):Et text a deep e bad heavy sign Q:=
 GV ht h fun a' h'=>Ae ⟨fun _=>⟨fun _=>hQ a' _ h',fun hn=>by simp at hn⟩,fun hn=>absurd he hn⟩
theorem Sz{deep bad:Int}{heavy:Bool}{sign:Aa}{Q:Int->Int->Int->Prop}(ht:text.length<=1000000)(hg:sign.length<=1000)(h:AtT text a r)
  (hQ:∀r' a',CF sign r=(true,r')->AtT text a' r'->Q a' 0 bad)(hE:∀r' a',CF sign r=(false,r')->AtT text a' r'->Q a' 1 a'):Hr text a deep 0 bad heavy sign Q:=by
 refine GD ht hg h fun b r' a' e h'=>⟨fun hb=>?_,fun hb=>?_⟩
 ·have:b=false:=by simpa using hb
  subst this;exact⟨fun _=>hE r' a' e h',fun hn=>absurd rfl hn⟩
 ·have:b=true:=by simpa using hb
  subst this;exact hQ r' a' e h'
theorem Pc{deep e bad:Int}{heavy:Bool}{sign:Aa}{Q:Int->Int->Int->Prop}(he:e≠0)(ht:text.length<=1000000)(h:AtT text a r)(hQ:∀a' s,AtT text a' s->Q a' e bad):Hr text a deep e bad heavy sign Q:=
 Ld he ht h fun a' s h'=>⟨fun _=>⟨fun hn=>absurd hn he,fun _=>hQ a' s h'⟩,fun hn=>by simp at hn⟩
theorem Gz{deep e bad:Int}{heavy:Bool}{v:RV}{Q:RV->Bool->Prop}(h:Q v (heavy||decide (v.k=0))):It text a deep e bad heavy v Q:=by
 refine Ae ⟨fun h0=>?_,fun h0=>?_⟩
 ·simpa[h0] using h
 ·simpa[h0] using h
theorem WG{c:UInt8}{Q:Bool->Prop}(h:Q (BD c)):NF ((c.toNat:Nat):Int) Q:=by
 show Q (decide _)
 have e:decide (((decide ((((97:Int)<=((c.toNat:Nat):Int))/\(((c.toNat:Nat):Int)<=(122:Int)))\/(((65:Int)<=((c.toNat:Nat):Int))/\(((c.toNat:Nat):Int)<=(90:Int))))=true)\/(decide (((48:Int)<=((c.toNat:Nat):Int))/\(((c.toNat:Nat):Int)<=(57:Int)))=true))\/(((c.toNat:Nat):Int)=(95:Int)))=BD c:=by
  rw[Bool.eq_iff_iff,decide_eq_true_eq,decide_eq_true_eq,decide_eq_true_eq,<-MR]
 rw[e];exact h
theorem Abl{Q:Int->Prop}(ht:text.length<=1000000)(h:AtT text a r)(hQ:∀a',AtT text a' (r.dropWhile BD)->a'=a+(r.takeWhile BD).length->Q a'):Re text a Q:=by
 refine Ae ⟨fun k=>∃p s,r=p++s/\k=a+p.length/\r.takeWhile BD=p++s.takeWhile BD/\r.dropWhile BD=s.dropWhile BD,fun k=>(text.length-k).toNat,⟨[],r,by simp,by simp,by simp,rfl⟩,?_⟩
 show∀c:Int,_->_
 rintro k⟨p,s,e,e2,e3,e4⟩
 have hs:AtT text k s:=by rw[e2];subst e;exact h.app
 have h1:=hs.pos;have h2:=hs.le
 have fin:s.takeWhile BD=[]->s.dropWhile BD=s->Q k:=fun hn hd=>by
  refine hQ k (by rw[e4,hd];exact hs) ?_
  rw[e3,hn];simp[e2]
 refine⟨by unfold Len;omega,fun hk=>?_,fun hk=>?_⟩
 ·cases s with
  |nil=>have:=hs.len;simp at this;omega
  |cons x s=>
   obtain⟨e5,e6,h3⟩:=hs.cons
   have eb:AS text k=((x.toNat:Nat):Int):=by unfold AS;rw[e5]
   rw[eb]
   refine⟨⟨h1,hk⟩,WG ⟨fun hn=>?_,fun hn=>⟨by unfold I64;omega,⟨p++[x],s,by rw[e];simp,by simp;omega,?_,?_⟩,by show(_:Int).toNat<(_:Int).toNat;omega⟩⟩⟩
   ·have hn:BD x=false:=by simpa using hn
    exact fin (by simp[hn]) (by simp[hn])
   ·have hn:BD x=true:=by simpa using hn
    rw[e3];simp[hn]
   ·have hn:BD x=true:=by simpa using hn
    rw[e4];simp[hn]
 ·cases s with
  |nil=>exact fin rfl rfl
  |cons x s=>have:=hs.cons;omega
theorem Uj{t:Aa}{Q:Int->Prop}(ht:text.length<=1000000)(h:AtT text a (34::t))(hs:∀s t' k,BL t=some (s,t')->AtT text k t'->k=a+1+s.length+1->Q k)(hn:BL t=none->Q (-1)):Lh text a Q:=by
 have h0:=h.pos
 obtain⟨_,hlt,h2⟩:=h.cons
 refine⟨by unfold I64;omega,?_⟩
 refine⟨fun k=>∃s u,t=s++u/\k=a+1+s.length/\BL t=(match BL u with|some (x,y)=>some (s++x,y)|none=>none),fun k=>(text.length-k).toNat,⟨[],t,by simp,by simp,by cases BL t<;>simp⟩,?_⟩
 show∀c:Int,_->_
 rintro k⟨s,u,e1,e2,e3⟩
 have hu:AtT text k u:=by rw[e2];subst e1;exact h2.app
 have hk0:=hu.pos;have hk1:=hu.le
 have fail:BL u=none->Q (-1):=fun h=>hn (by rw[e3,h])
 refine⟨by unfold Len;omega,fun hk=>?_,fun hk=>?_⟩
 ·cases u with
  |nil=>have:=hu.len;simp at this;omega
  |cons x u=>
   obtain⟨e5,e6,h3⟩:=hu.cons
   have eb:AS text k=((x.toNat:Nat):Int):=by unfold AS;rw[e5]
   have ik:In k text:=⟨hk0,hk⟩
   have tb:LO x=true↔(32:Int)<=((x.toNat:Nat):Int)/\((x.toNat:Nat):Int)<=126/\((x.toNat:Nat):Int)≠92:=by
    have e:x=92↔x.toNat=92:=⟨fun h=>by rw[h];rfl,fun h=>UInt8.toNat_inj.1 h⟩
    simp only[LO,Bool.and_eq_true,decide_eq_true_eq,UInt8.le_iff_toNat_le,UInt8.toNat_ofNat,bne_iff_ne,ne_eq,e]
    omega
   have c34:x=34↔((x.toNat:Nat):Int)=34:=⟨fun h=>by rw[h];rfl,fun h=>UInt8.toNat_inj.1 (by show x.toNat=34;omega)⟩
   have no:¬LO x=true->Q (-1):=fun hn=>fail (by simp[BL,hn])
   rw[eb]
   refine⟨ik,fun h34=>⟨by unfold I64;omega,?_⟩,fun h34=>Ae ⟨ik,fun h1=>⟨fun _=>no fun hn=>by have:=tb.1 hn;omega,fun hn=>by simp at hn⟩,fun h1=>⟨ik,fun h2=>⟨fun _=>no fun hn=>by have:=tb.1 hn;omega,fun hn=>by simp at hn⟩,fun h2=>⟨ik,fun h3=>no fun hn=>by have:=tb.1 hn;have:=of_decide_eq_true h3;omega,fun h3=>?_⟩⟩⟩⟩
   ·have hx:=c34.2 h34
    have ht2:=tb.2 ⟨by omega,by omega,by omega⟩
    refine hs s u _ ?_ h3 (by omega)
    rw[e3];simp only[BL];rw[if_pos ht2,if_pos hx];simp
   ·have hx:¬x=34:=fun hn=>h34 (c34.1 hn)
    have ht2:=tb.2 ⟨by omega,by omega,of_decide_eq_false h3⟩
    refine⟨by unfold I64;omega,⟨s++[x],u,by rw[e1];simp,by simp;omega,?_⟩,by show(_:Int).toNat<(_:Int).toNat;omega⟩
    rw[e3];simp only[BL];rw[if_pos ht2,if_neg hx]
    cases BL u<;>simp
 ·cases u with
  |nil=>exact fail rfl
  |cons x u=>have:=hu.cons;omega
theorem RI{W:List Aa}{s:Aa}{Q:Bool->Prop}(hW:W.length<=1000)(h:Q (decide (s∈W))):
  Ay (σ:=Int) (0:Int) fun i_17 xnext_32=>(Len W->(i_17<(W.length:Int)->In i_17 W/\((ix W i_17)=s->Q true)/\(¬((ix W i_17)=s)->I64 (i_17+(1:Int))/\xnext_32 (i_17+(1:Int))))/\(¬(i_17<(W.length:Int))->Q false)):=by
 refine⟨fun i=>0<=i/\i<=W.length/\∀x∈W.take i.toNat,x≠s,fun i=>(W.length-i).toNat,⟨by simp,by simp,by simp⟩,?_⟩
 show∀i:Int,_->_
 rintro i⟨i0,i1,hx⟩_
 refine⟨fun hi=>⟨⟨i0,hi⟩,fun e=>?_,fun e=>⟨by unfold I64;omega,⟨by omega,by omega,fun x hm=>?_⟩,by show(_:Int).toNat<(_:Int).toNat;omega⟩⟩,fun hi=>?_⟩
 ·have:s∈W:=by rw[<-e];exact Az i0 hi
  simpa[this] using h
 ·rw[AV i0 hi] at hm
  rcases List.mem_append.1 hm with hm|hm
  ·exact hx x hm
  ·rw[List.mem_singleton.1 hm];exact e
 ·have:i=W.length:=by omega
  subst this
  simp only[Int.toNat_natCast,List.take_length] at hx
  have:¬s∈W:=fun hm=>hx s hm rfl
  simpa[this] using h
theorem Ww:words.length<=1000:=Nat.le_of_ble_eq_true rfl
theorem Qn{s:Aa}{Q:Bool->Prop}(h:Q (decide (s∈words))):ET s Q:=by
 have h2:=RI Ww h
 generalize ew:words=W at h2
 unfold words at ew
 unfold ET
 rw[ew]
 exact h2
theorem Aai{w:Aa}{Q:Int->Bool->Prop}(hw:w.length<=1000000)(hd:∀c∈w,Dw c=true)(h1:Cx 0 w<=9223372036854775808->Q (Cx 0 w) true)(h2:¬Cx 0 w<=9223372036854775808->Q 0 false):ML w Q:=by
 have app:∀(u v:Aa)(acc:Nat),Cx acc (u++v)=Cx (Cx acc u) v:=by
  intro u;induction u with
  |nil=>intro v acc;rfl
  |cons c u ih=>intro v acc;exact ih v _
 refine⟨fun s=>0<=s.2/\s.2<=w.length/\s.1=Cx 0 (w.take s.2.toNat)/\s.1<9223372036854775809,fun s=>(w.length-s.2).toNat,?_,?_⟩
 ·exact⟨Int.le_refl _,Int.natCast_nonneg _,(by show(0:Int)=((Cx 0 (w.take 0):Nat):Int);rw[List.take_zero];rfl),(by decide)⟩
 rintro⟨n,i⟩⟨i0,i1,e,hn⟩
 simp only at i0 i1 e hn
 refine⟨by unfold Len;omega,fun hi=>?_,fun hi=>?_⟩
 ·have hm:=Az i0 hi
  have hc:=(Ge (ix w i)).1 (hd _ hm)
  have eb:AS w i=(((ix w i).toNat:Nat):Int):=rfl
  have eu:IntKind.u8.wrap (AS w i-48)=AS w i-48:=IntWalk.u8_in _ ⟨by omega,by omega⟩
  have eu2:IntKind.u64.wrap (AS w i-48)=AS w i-48:=IntWalk.u64_in _ ⟨by omega,by omega⟩
  have eu3:IntKind.u64.wrap (9223372036854775808-(AS w i-48))=9223372036854775808-(AS w i-48):=IntWalk.u64_in _ ⟨by omega,by omega⟩
  have e1:Cx 0 (w.take (i+1).toNat)=Cx 0 (w.take i.toNat)* 10+((ix w i).toNat-48):=by rw[AV i0 hi,app];rfl
  have e2:Cx 0 w=Cx (Cx 0 (w.take (i+1).toNat)) (w.drop (i+1).toNat):=by rw[<-app,List.take_append_drop]
  have ge:=QG (w.drop (i+1).toNat) (Cx 0 (w.take (i+1).toNat))
  rw[eu,eu2,eu3,Int.tdiv_eq_ediv_of_nonneg (by omega)]
  refine⟨⟨i0,hi⟩,by decide,fun hlt=>h2 ?_,fun hlt=>⟨by unfold I64;omega,?_⟩⟩
  ·omega
  ·rw[IntWalk.u64_in (n* 10) ⟨by omega,by omega⟩,IntWalk.u64_in (n* 10+(AS w i-48)) ⟨by omega,by omega⟩]
   exact⟨⟨by show 0<=i+1;omega,by show i+1<=_;omega,by show n* 10+(AS w i-48)=((Cx 0 (w.take (i+1).toNat):Nat):Int);omega,by show n* 10+(AS w i-48)<9223372036854775809;omega⟩,by show(_:Int).toNat<(_:Int).toNat;omega⟩
 ·have:i=w.length:=by omega
  subst this
  simp only[Int.toNat_natCast,List.take_length] at e
  rw[e];exact h1 (by omega)
def AcU(text:Aa)(bad:Int)(Q:RV->Int->Int->Int->Prop):RO Val->Prop
 |.ok v r h=>∀a,AtT text a r->Q (AB v) a 0 bad
 |.err e r=>e≠0->∀w a' s a,FZ w<=1024->AtT text a' s->AtT text a r->Q w a' e a
theorem AaB{n:Nat}(h:n<=9223372036854775808)(h0:n≠0):IntKind.i64.wrap (IntKind.u64.wrap (-(n:Int)))=-(n:Int):=by
 simp only[IntKind.wrap,IntKind.bits,IntKind.signed];simp;omega
theorem Gh:FZ Mk<=1024:=by decide
theorem Vd{rest q:Aa}{c:UInt8}{w:Aa}{deep bad xe:Int}{heavy minus:Bool}{Q:RV->Int->Int->Int->Prop}(ht:text.length<=1000000)(h:AtT text a r)(hr:r=q++((c::w)++rest))(hm0:(c::w).length<=1000000)(hp:AtT text xe rest)
  (hO:AcU text bad Q (JS r (c::w) rest minus heavy)):IX text a deep 0 bad heavy (c::w) minus a xe Q:=by
 have e0:AS (c::w) 0=((c.toNat:Nat):Int):=by simp[AS,ix]
 have c48:c=48↔((c.toNat:Nat):Int)=48:=⟨fun h=>by rw[h];rfl,fun h=>UInt8.toNat_inj.1 (by show c.toNat=48;omega)⟩
 have main:∀ok:Bool,ok=(!((c::w).take 1==[48]&&(decide (1<(c::w).length)||minus)))->
   Ay (σ:=Bool×Int) (ok,(0:Int)) fun(ok_46,k_47)xnext_60=>
    Len (c::w)/\
    (k_47<((c::w).length:Int)->
     In k_47 (c::w)/\
     Gy (AS (c::w) k_47) fun r_64=>
      I64 (k_47+(1:Int))/\
      xnext_60 (decide ((ok_46=true)/\(r_64=true)),(k_47+(1:Int))))/\
    (¬(k_47<((c::w).length:Int))->
     ((!ok_46)=true->
      BP text a deep 0 bad heavy (1:Int) a fun r_69 r_71=>
       Q (RV.mk 0 0 ([]:Aa) ([]:List RV) ([]:List RV)) a r_69 r_71)/\
     ((!ok_46)=false->
      ML (c::w) fun r_77 r_79=>
       (((!r_79)=true)\/((r_77=(9223372036854775808:Int))/\((!minus)=true))->
        BP text a deep 0 bad heavy (5:Int) a fun r_83 r_85=>
         Q (RV.mk 0 0 ([]:Aa) ([]:List RV) ([]:List RV)) a r_83 r_85)/\
       (¬(((!r_79)=true)\/((r_77=(9223372036854775808:Int))/\((!minus)=true)))->
        Am (σ:=Int) (fun n_92=>
          BU (IntKind.i64.wrap n_92) fun r_97=>
           Q r_97 xe 0 bad) fun J_94=>
         (minus=true->
          J_94 (IntKind.u64.wrap (-r_77)))/\
         (minus=false->
          J_94 r_77)))):=by
  intro ok hok
  refine⟨fun s=>0<=s.2/\s.2<=(c::w).length/\s.1=(ok&&((c::w).take s.2.toNat).all Dw),fun s=>((c::w).length-s.2).toNat,⟨by simp,by simp;omega,by simp⟩,?_⟩
  rintro⟨o,k⟩⟨k0,k1,e⟩
  simp only at k0 k1 e
  refine⟨by unfold Len;omega,fun hk=>⟨⟨k0,hk⟩,?_⟩,fun hk=>?_⟩
  ·show I64 (k+1)/\_
   refine⟨by unfold I64;omega,⟨by show 0<=k+1;omega,by show k+1<=_;omega,?_⟩,by show(((c::w).length:Int)-(k+1)).toNat<(((c::w).length:Int)-k).toNat;omega⟩
   show decide (o=true/\decide _=true)=(ok&&((c::w).take (k+1).toNat).all Dw)
   have ed:decide (((48:Int)<=(AS (c::w) k))/\((AS (c::w) k)<=(57:Int)))=Dw (ix (c::w) k):=by
    rw[Bool.eq_iff_iff,decide_eq_true_eq,Ge];rfl
   rw[ed,AV k0 hk,List.all_append,e]
   simp only[List.all_cons,List.all_nil,Bool.and_true,<-Bool.and_assoc]
   cases ok<;>cases((c::w).take k.toNat).all Dw<;>cases Dw (ix (c::w) k)<;>rfl
  ·have hk:k=(c::w).length:=by omega
   subst hk
   simp only[Int.toNat_natCast,List.take_length] at e
   have eg:o=((c::w).all Dw&& !((c::w).take 1==[48]&&(decide (1<(c::w).length)||minus))):=by rw[e,hok,Bool.and_comm]
   unfold JS at hO
   rw[<-eg] at hO
   refine⟨fun ho=>⟨fun _=>?_,fun hn=>absurd rfl hn⟩,fun ho=>?_⟩
   ·have ho:o=false:=by simpa using ho
    rw[if_neg (by simp[ho])] at hO
    exact hO (by decide) Mk a r a Gh h h
   ·have ho:o=true:=by simpa using ho
    rw[if_pos ho] at hO
    have hd:∀x∈c::w,Dw x=true:=by
     rw[ho] at eg
     have:=(Bool.and_eq_true_iff.1 eg.symm).1
     exact List.all_eq_true.1 this
    have hz:minus=true->Cx 0 (c::w)≠0:=fun hm h0=>by
     rw[ho] at eg
     have h1:=(Bool.and_eq_true_iff.1 eg.symm).2
     have hc:c≠48:=fun hc=>by subst hc;simp[hm] at h1
     have hcd:=(Ge c).1 (hd c (by simp))
     have hge:=QG w (0* 10+(c.toNat-48))
     have:Cx 0 (c::w)=Cx (0* 10+(c.toNat-48)) w:=rfl
     have:¬((c.toNat:Nat):Int)=48:=fun h=>hc (c48.2 h)
     omega
    refine Aai hm0 hd (fun hle=>⟨fun hb=>⟨fun _=>?_,fun hn=>absurd rfl hn⟩,fun hb=>Ae ⟨fun hm=>?_,fun hm=>?_⟩⟩) (fun hle=>⟨fun _=>⟨fun _=>?_,fun hn=>absurd rfl hn⟩,fun hb=>absurd (Or.inl rfl) hb⟩)
    ·rcases hb with hb|⟨hb,hm⟩
     ·simp at hb
     ·have hm:minus=false:=by simpa using hm
      rw[if_neg (by simp[hm];omega)] at hO
      exact hO (by decide) Mk a r a Gh h h
    ·have hz:=hz hm
     show Q (RV.mk 2 (IntKind.i64.wrap (IntKind.u64.wrap (-((Cx 0 (c::w):Nat):Int)))) [] [] []) xe 0 bad
     rw[AaB hle hz]
     show Q (RV.mk 2 _ [] [] []) xe 0 bad
     rw[if_pos (by by_cases h9:Cx 0 (c::w)<=9223372036854775807<;>first|exact Or.inl h9|exact Or.inr ⟨hm,by omega⟩),if_pos hm] at hO
     exact hO xe hp
    ·show Q (RV.mk 2 _ [] [] []) xe 0 bad
     have h9:Cx 0 (c::w)<=9223372036854775807:=by
      by_cases h8:Cx 0 (c::w)=9223372036854775808
      ·exact absurd (Or.inr ⟨by omega,by simp[hm]⟩) hb
      ·omega
     rw[IntWalk.i64_in _ ⟨by omega,by omega⟩]
     rw[if_pos (Or.inl h9),if_neg (by simp[hm])] at hO
     exact hO xe hp
    ·rw[if_neg (by omega)] at hO
     exact hO (by decide) Mk a r a Gh h h
 refine Ae ⟨⟨by omega,by simp⟩,fun hc=>?_,fun hc=>?_⟩
 ·rw[e0] at hc
  have:c≠48:=fun h=>hc (c48.1 h)
  exact main true (by simp[this])
 ·rw[e0] at hc
  have hc:c=48:=c48.2 (by omega)
  refine⟨by unfold Len;omega,fun hl=>main _ ?_,fun hl=>main false ?_⟩
  ·have:w=[]:=List.length_eq_zero_iff.1 (by simp at hl;omega)
   subst this;simp[hc]
  ·have h1:1<(c::w).length:=by
    have h0:(c::w).length≠0:=by simp
    omega
   have h2:decide (1<(c::w).length)=true:=decide_eq_true h1
   rw[h2,hc];rfl
theorem UW{deep bad:Int}{heavy:Bool}{Q:RV->Int->Int->Int->Prop}(ht:text.length<=1000000)(h:AtT text a r)(hO:AcU text bad Q (BJ r heavy)):Ll text a deep 0 bad heavy Q:=by
 have h0:=h.pos;have h1:=h.le;have hlen:=h.len
 refine⟨by unfold Len;omega,fun he=>?_,fun he=>?_⟩
 ·have hr:r=[]:=List.length_eq_zero_iff.1 (by omega)
  subst hr
  refine⟨fun _=>?_,fun hn=>absurd rfl hn⟩
  have e:BJ [] heavy=.err 1 []:=by rfl
  rw[e] at hO
  exact hO (by decide) Mk a [] a Gh h h
 cases r with
 |nil=>simp at hlen;omega
 |cons c t=>
  obtain⟨e1,e2,h2⟩:=h.cons
  have eb:AS text a=((c.toNat:Nat):Int):=by unfold AS;rw[e1]
  have k:∀n:UInt8,((c.toNat:Nat):Int)=((n.toNat:Nat):Int)↔c=n:=fun n=>⟨fun h=>UInt8.toNat_inj.1 (by omega),fun h=>by rw[h]⟩
  have k34:=k 34;have k45:=k 45
  simp only[UInt8.toNat_ofNat] at k34 k45
  rw[eb]
  refine⟨⟨h0,by omega⟩,fun hq=>?_,fun hq=>?_⟩
  ·have hc:=k34.1 hq
   subst hc
   have eS:BJ (34::t) heavy=(match BL t with|some (s,t)=>.ok (.text s) t heavy|none=>.err 1 (34::t)):=by unfold BJ;rw[if_pos (by simp)];rfl
   rw[eS] at hO
   refine Uj ht h (fun s t' k hqu hk ek=>?_) (fun hqu=>?_)
   ·rw[hqu] at hO
    refine⟨fun hn=>absurd hn (by omega),fun _=>⟨by unfold I64;omega,by have:=hk.le;unfold I64;omega,⟨by omega,by omega,by have:=hk.le;omega⟩,?_⟩⟩
    have hsp:=Ir hqu
    have hm:(text.take (k-1).toNat).drop (a+1).toNat=s:=by
     have h3:=h2
     rw[hsp.1] at h3
     rw[show k-1=a+1+s.length by omega];exact h3.mid
    rw[hm]
    exact hO k hk
   ·rw[hqu] at hO
    exact⟨fun _=>⟨fun _=>hO (by decide) Mk a _ a Gh h h,fun hn=>absurd rfl hn⟩,fun hn=>absurd (by omega) hn⟩
  ·have hc:c≠34:=fun hn=>hq (k34.2 hn)
   have tail:∀(minus:Bool)(q r1:Aa)(from_:Int),c::t=q++r1->AtT text from_ r1->q.length=(if minus then 1 else 0)->(minus=true↔a<from_)->AcU text bad Q (EZ (c::t) (r1.takeWhile BD) (r1.dropWhile BD) minus heavy)->
     Re text from_ fun r_62=>
      ((0:Int)<=from_/\from_<=r_62/\r_62<=(text.length:Int))/\
      (((text.take r_62.toNat).drop from_.toNat)=([]:Aa)->
       BP text a deep 0 bad heavy (1:Int) a fun r_66 r_68=>
        Q (RV.mk 0 0 ([]:Aa) ([]:List RV) ([]:List RV)) a r_66 r_68)/\
      (¬(((text.take r_62.toNat).drop from_.toNat)=([]:Aa))->
       In (0:Int) ((text.take r_62.toNat).drop from_.toNat)/\
       Gy (AS ((text.take r_62.toNat).drop from_.toNat) (0:Int)) fun r_75=>
        (r_75=true->
         IX text a deep 0 bad heavy ((text.take r_62.toNat).drop from_.toNat) (decide (a<from_)) a r_62 fun r_78 r_85 r_87 r_89=>
          Q r_78 r_85 r_87 r_89)/\
        (r_75=false->
         In (0:Int) ((text.take r_62.toNat).drop from_.toNat)/\
         IW (AS ((text.take r_62.toNat).drop from_.toNat) (0:Int)) fun r_95=>
          ((a<from_)\/((!r_95)=true)->
           BP text a deep 0 bad heavy (1:Int) a fun r_100 r_102=>
            Q (RV.mk 0 0 ([]:Aa) ([]:List RV) ([]:List RV)) a r_100 r_102)/\
          (¬((a<from_)\/((!r_95)=true))->
           (((text.take r_62.toNat).drop from_.toNat)=([110,105,108]:Aa)->
            Q (RV.mk 0 0 ([]:Aa) ([]:List RV) ([]:List RV)) r_62 0 bad)/\
           (¬(((text.take r_62.toNat).drop from_.toNat)=([110,105,108]:Aa))->
            (((text.take r_62.toNat).drop from_.toNat)=([116,114,117,101]:Aa)->
             AQ true fun r_111=>
              Q r_111 r_62 0 bad)/\
            (¬(((text.take r_62.toNat).drop from_.toNat)=([116,114,117,101]:Aa))->
             (((text.take r_62.toNat).drop from_.toNat)=([102,97,108,115,101]:Aa)->
              AQ false fun r_121=>
               Q r_121 r_62 0 bad)/\
             (¬(((text.take r_62.toNat).drop from_.toNat)=([102,97,108,115,101]:Aa))->
              ET ((text.take r_62.toNat).drop from_.toNat) fun r_131=>
               Am (σ:=Int×Int) (fun(c_139,c_141)=>
                 Am (σ:=Int×Int) (fun(c_159,c_161)=>
                   Q (RV.mk (4:Int) 0 ((text.take r_62.toNat).drop from_.toNat) ([]:List RV) ([]:List RV)) r_62 c_159 c_161) fun J_163=>
                  Len ((text.take r_62.toNat).drop from_.toNat)/\
                  ((16:Int)<(((text.take r_62.toNat).drop from_.toNat).length:Int)->
                   BP text r_62 deep c_139 c_141 heavy (5:Int) a fun r_167 r_169=>
                    J_163 (r_167,r_169))/\
                  (¬((16:Int)<(((text.take r_62.toNat).drop from_.toNat).length:Int))->
                   J_163 (c_139,c_141))) fun J_143=>
                (r_131=true->
                 BP text r_62 deep 0 bad heavy (1:Int) a fun r_145 r_147=>
                  J_143 (r_145,r_147))/\
                (r_131=false->
                 J_143 (0,bad)))))))):=by
    intro minus q r1 from_ er hf hq hmf hO
    refine Abl ht hf fun xe hxe ee=>?_
    have hsplit:r1=r1.takeWhile BD++r1.dropWhile BD:=(List.takeWhile_append_dropWhile ..).symm
    have hall:∀x∈r1.takeWhile BD,BD x=true:=fun x hx=>List.all_eq_true.1 (List.all_takeWhile (p:=BD) (l:=r1)) x hx
    revert hxe ee hO hsplit hall
    generalize r1.takeWhile BD=w
    generalize r1.dropWhile BD=rest
    intro hO hxe ee hsplit hall
    have f0:=hf.pos;have x1:=hxe.le
    have hm:(text.take xe.toNat).drop from_.toNat=w:=by
     have h3:=hf
     rw[hsplit] at h3
     rw[ee];exact h3.mid
    rw[hm]
    refine⟨⟨f0,by omega,x1⟩,fun hw=>⟨fun _=>?_,fun hn=>absurd rfl hn⟩,fun hw=>?_⟩
    ·subst hw
     exact hO (by decide) Mk a _ a Gh h h
    cases w with
    |nil=>exact absurd rfl hw
    |cons d w=>
     have e0:AS (d::w) 0=((d.toNat:Nat):Int):=by simp[AS,ix]
     have i0:In (0:Int) (d::w):=⟨by omega,by simp⟩
     have hwl:(d::w).length<=1000000:=by omega
     unfold EZ at hO
     simp only at hO
     have ed:decide (((48:Int)<=((d.toNat:Nat):Int))/\(((d.toNat:Nat):Int)<=(57:Int)))=Dw d:=by
      rw[Bool.eq_iff_iff,decide_eq_true_eq,Ge]
     have em:decide (a<from_)=minus:=by
      rw[Bool.eq_iff_iff,decide_eq_true_eq];exact hmf.symm
     refine⟨i0,?_⟩
     rw[e0]
     show(_->_)/\_
     rw[ed]
     refine⟨fun hd=>?_,fun hd=>⟨i0,?_⟩⟩
     ·rw[if_pos hd] at hO
      rw[em]
      exact Vd (q:=q) ht h (by rw[er,hsplit]) hwl hxe hO
     rw[if_neg (by simp[hd])] at hO
     have hdw:=hall d (by simp)
     have lw:=(MR d).2 hdw
     have ld:¬((48:Int)<=((d.toNat:Nat):Int)/\((d.toNat:Nat):Int)<=57):=fun h=>by
      have:=(Ge d).2 h;rw[hd] at this;cases this
     have k95:d=95↔((d.toNat:Nat):Int)=95:=⟨fun h=>by rw[h];rfl,fun h=>UInt8.toNat_inj.1 (by show d.toNat=95;omega)⟩
     refine⟨fun hb=>⟨fun _=>?_,fun hn=>absurd rfl hn⟩,fun hb=>?_⟩
     ·have:(minus||d==95)=true:=by
       rcases hb with hb|hb
       ·rw[hmf.2 hb];rfl
       ·simp at hb
        have:d=95:=k95.2 (by omega)
        simp[this]
      rw[if_pos this] at hO
      exact hO (by decide) Mk a _ a Gh h h
     ·have hmn:minus=false:=by
       cases minus with
       |false=>rfl
       |true=>exact absurd (Or.inl (hmf.1 rfl)) hb
      have h95:¬d=95:=fun h=>hb (Or.inr (by have:=k95.1 h;simp;omega))
      rw[if_neg (by simp[hmn,h95])] at hO
      refine⟨fun ew=>?_,fun ew=>⟨fun ew2=>⟨fun _=>?_,fun hn=>by cases hn⟩,fun ew2=>⟨fun ew3=>⟨fun hn=>(by cases hn),fun _=>?_⟩,fun ew3=>?_⟩⟩⟩
      ·rw[if_pos ew] at hO;exact hO xe hxe
      ·rw[if_neg ew,if_pos ew2] at hO;exact hO xe hxe
      ·rw[if_neg ew,if_neg ew2,if_pos ew3] at hO;exact hO xe hxe
      rw[if_neg ew,if_neg ew2,if_neg ew3] at hO
      refine Qn (Ae ⟨fun hr=>⟨fun _=>Ae ⟨by unfold Len;omega,fun hl=>⟨fun hn=>absurd hn (by decide),fun _=>?_⟩,fun hl=>?_⟩,fun hn=>absurd rfl hn⟩,fun hr=>Ae ⟨by unfold Len;omega,fun hl=>⟨fun _=>?_,fun hn=>absurd rfl hn⟩,fun hl=>?_⟩⟩)
      ·rw[if_pos (by simpa using hr)] at hO
       exact hO (by decide) _ xe _ a (by simp[FZ,Bb]) hxe h
      ·rw[if_pos (by simpa using hr)] at hO
       exact hO (by decide) _ xe _ a (by simp[FZ,Bb]) hxe h
      ·rw[if_neg (by simpa using hr),if_pos (by omega)] at hO
       exact hO (by decide) _ xe _ a (by simp[FZ,Bb]) hxe h
      ·rw[if_neg (by simpa using hr),if_neg (by omega)] at hO
       exact hO xe hxe
   unfold BJ at hO
   rw[if_neg (by simpa using hc)] at hO
   refine Ae ⟨⟨h0,by omega⟩,fun hm=>⟨by unfold I64;omega,?_⟩,fun hm=>?_⟩
   ·have hc:=k45.1 hm
    subst hc
    rw[if_pos (by simp)] at hO
    exact tail true [45] t (a+1) rfl h2 rfl (by simp;omega) hO
   ·have hc:c≠45:=fun hn=>hm (k45.2 hn)
    rw[if_neg (by simpa using hc)] at hO
    exact tail false [] (c::t) a rfl h rfl (by simp) hO
end
end Go.Vc
namespace Go.Vc
section
variable{text r:Aa}{a:Int}
def AdN(text:Aa)(deep bad:Int)(Q:RV->Int->Int->Int->Int->Bool->Prop):RO Val->Prop
 |.ok v r h=>∀a,AtT text a r->Q (AB v) a deep 0 bad h
 |.err e r=>e≠0->∀w a' s a h',FZ w<=1024->AtT text a' s->AtT text a r->Q w a' deep e a h'
def KV(text:Aa)(deep:Int)(one:Aa->Bool->RO Val)(G:Aa->Int->Int->Int->Int->Bool->(RV->Int->Int->Int->Int->Bool->Prop)->Prop):Prop:=
 (∀{r:Aa}{a bad:Int}{heavy:Bool}{Q:RV->Int->Int->Int->Int->Bool->Prop},AtT text a r->AdN text deep bad Q (one r heavy)->G text a deep 0 bad heavy Q)/\
 (∀{r:Aa}{a e bad:Int}{heavy:Bool}{Q:RV->Int->Int->Int->Int->Bool->Prop},e≠0->AtT text a r->(∀a' s,AtT text a' s->Q Mk a' deep e bad heavy)->G text a deep e bad heavy Q)
def Ady(text:Aa)(deep bad:Int)(Q:List RV->List RV->Int->Int->Int->Int->Bool->Prop):RO (List Val)->Prop
 |.ok l r h=>∀a,AtT text a r->l.length<=4001->Q (Ak l) [] a deep 0 bad h
 |.err e r=>e≠0->∀w a' s a h',w.length<=4001->Bb w<=1024* w.length->AtT text a' s->AtT text a r->Q w [] a' deep e a h'
def AdA(text:Aa)(deep bad:Int)(Q:List RV->List RV->Int->Int->Int->Int->Bool->Prop):RO (List VP)->Prop
 |.ok l r h=>∀a,AtT text a r->l.length<=4001->Q (Ak (l.map (·.1))) (Ak (l.map (·.2))) a deep 0 bad h
 |.err e r=>e≠0->∀ks vs a' s a h',AtT text a' s->AtT text a r->Q ks vs a' deep e a h'
abbrev LS:=Int×Int×Int×Int×Bool×(List RV)×(List RV)×Bool
def UF(text:Aa)(at_ deep e bad:Int)(heavy:Bool)(last:Aa)(keys vals:List RV)(xend:Bool)(xnext:LS->Prop):Prop:=
 Et text at_ deep e bad heavy ([44]:Aa) fun r_669 r_670=>
  ((!r_669)=true->
   Hr text r_670 deep e bad heavy last fun r_673 r_675 r_677=>
    xnext (r_673,deep,r_675,r_677,heavy,keys,vals,true))/\
  ((!r_669)=false->
   xnext (r_670,deep,e,bad,heavy,keys,vals,xend))
theorem Kq{at_ deep e bad:Int}{heavy:Bool}{last:Aa}{keys vals:List RV}{xend:Bool}{xnext:LS->Prop}(ht:text.length<=1000000)(he:e≠0){s:Aa}(h:AtT text at_ s)
  (hN:∀a' s',AtT text a' s'->xnext (a',deep,e,bad,heavy,keys,vals,true)):UF text at_ deep e bad heavy last keys vals xend xnext:=
 Ld he ht h fun a' s h'=>⟨fun _=>Pc he ht h' fun a2 s2 h2=>hN a2 s2 h2,fun hn=>by simp at hn⟩
theorem VG{at_ deep bad:Int}{heavy:Bool}{last:Aa}{keys vals:List RV}{xend:Bool}{xnext:LS->Prop}(ht:text.length<=1000000)(hg:last.length<=1000){s:Aa}(h:AtT text at_ s)
  (hM:∀r' a',CF [44] s=(true,r')->AtT text a' r'->xnext (a',deep,0,bad,heavy,keys,vals,xend))
  (hL:∀r2 r' a',CF [44] s=(false,r2)->CF last r2=(true,r')->AtT text a' r'->xnext (a',deep,0,bad,heavy,keys,vals,true))
  (hE:∀r2 r' a',CF [44] s=(false,r2)->CF last r2=(false,r')->AtT text a' r'->xnext (a',deep,1,a',heavy,keys,vals,true)):UF text at_ deep 0 bad heavy last keys vals xend xnext:=by
 refine GD ht (by simp) h fun b r' a' e h'=>⟨fun hb=>?_,fun hb=>?_⟩
 ·have:b=false:=by simpa using hb
  subst this
  exact Sz ht hg h' (fun r2 a2 e2 h2=>hL _ _ _ e e2 h2) (fun r2 a2 e2 h2=>hE _ _ _ e e2 h2)
 ·have:b=true:=by simpa using hb
  subst this;exact hM r' a' e h'
theorem AtT.back{s:Aa}{a0:Int}{p:Aa}(h0:AtT text a0 (p++s))(h:AtT text a s):a-(p.length:Int)=a0:=by
 have:=h0.len;have:=h.len;simp at*;omega
theorem Hi{s r':Aa}{sign:Aa}(h:CF sign s=(true,r')):r'.length+sign.length<=s.length:=by
 obtain⟨p,e,_⟩:=Cq h;rw[e];simp;omega
section
variable{deep bad:Int}{heavy:Bool}{last sign:Aa}{one:Aa->Bool->RO Val}{G:Aa->Int->Int->Int->Int->Bool->(RV->Int->Int->Int->Int->Bool->Prop)->Prop}{Q:List RV->List RV->Int->Int->Int->Int->Bool->Prop}
def RG(G:Aa->Int->Int->Int->Int->Bool->(RV->Int->Int->Int->Int->Bool->Prop)->Prop)(text:Aa)(last:Aa)(pairs:Bool)(c_365 c_367 c_369 c_371:Int)(c_373:Bool)(keys_375 vals_380:List RV)(xend_384:Bool)(xnext_534:LS->Prop):Prop:=
 G text c_365 c_367 c_369 c_371 c_373 fun r_542 r_549 r_551 r_553 r_555 r_557=>
  AY (keys_375.length+([r_542]).length) 80/\
  Am (σ:=Int×Int×Int×Int×Bool×(List RV)) (fun(c_614,c_616,c_618,c_620,c_622,vals_624)=>
    UF text c_614 c_616 c_618 c_620 c_622 last (keys_375++([r_542])) vals_624 xend_384 xnext_534) fun J_628=>
   (pairs=true->
    Hr text r_549 r_551 r_553 r_555 r_557 ([58]:Aa) fun r_630 r_632 r_634=>
     G text r_630 r_551 r_632 r_634 r_557 fun r_637 r_644 r_646 r_648 r_650 r_652=>
      AY (vals_380.length+([r_637]).length) 80/\
      J_628 (r_644,r_646,r_648,r_650,r_652,(vals_380++([r_637]))))/\
   (pairs=false->
    J_628 (r_549,r_551,r_553,r_555,r_557,vals_380))
def Oq(G:Aa->Int->Int->Int->Int->Bool->(RV->Int->Int->Int->Int->Bool->Prop)->Prop)(text:Aa)(last:Aa)(pairs:Bool)(Q:List RV->List RV->Int->Int->Int->Int->Bool->Prop)(s0:LS):Prop:=
 Ay (σ:=LS) s0 fun(c_365,c_367,c_369,c_371,c_373,keys_375,vals_380,xend_384)xnext_534=>
  Am (σ:=Bool) (fun x_537=>
    (x_537=true->RG G text last pairs c_365 c_367 c_369 c_371 c_373 keys_375 vals_380 xend_384 xnext_534)/\
    (x_537=false->
     I64 (c_367-(1:Int))/\
     Q keys_375 vals_380 c_365 (c_367-(1:Int)) c_369 c_371 c_373)) fun J_538=>
   (c_369=(0:Int)->
    J_538 (!xend_384))/\
   (¬(c_369=(0:Int))->
    J_538 false)
def Aea(text:Aa)(deep bad:Int)(Q:List RV->List RV->Int->Int->Int->Int->Bool->Prop)(A:List RV->List RV->Aa->Bool->Prop):LS->Prop:=fun(at_,d,e,b,h,ks,vs,en)=>
 d=deep+1/\((e=0/\en=false/\b=bad/\∃r,AtT text at_ r/\A ks vs r h)\/((e≠0\/en=true)/\Q ks vs at_ deep e b h))
def muG(text:Aa):LS->Nat:=fun(at_,d,e,b,h,ks,vs,en)=>if e=0/\en=false then((text.length:Int)-at_+1).toNat else 0
theorem RH{a d b:Int}{h:Bool}{ks vs:List RV}:muG text (a,d,0,b,h,ks,vs,false)=((text.length:Int)-a+1).toNat:=by simp[muG]
theorem Ace{a d e b:Int}{h:Bool}{ks vs:List RV}:muG text (a,d,e,b,h,ks,vs,true)=0:=by simp[muG]
theorem Mn(A:List RV->List RV->Aa->Bool->Prop){pairs:Bool}(hd0:0<=deep)(hd:deep<=24)
  (hS:∀{x r hv ks vs},AtT text x r->A ks vs r hv->∀N:LS->Prop,(∀a' r' h' ks' vs',AtT text a' r'->r'.length<r.length->A ks' vs' r' h'->N (a',deep+1,0,bad,h',ks',vs',false))->
   (∀a' e' b' h' ks' vs',Q ks' vs' a' deep e' b' h'->N (a',deep+1,e',b',h',ks',vs',true))->RG G text last pairs x (deep+1) 0 bad hv ks vs false N)
  {s0:LS}(h0:Aea text deep bad Q A s0):Oq G text last pairs Q s0:=by
 refine⟨Aea text deep bad Q A,muG text,h0,?_⟩
 rintro⟨x,d,e,b,hv,ks,vs,en⟩⟨rfl,g⟩
 rcases g with⟨rfl,rfl,rfl,r,g1,gA⟩|⟨hen,hq⟩
 ·refine Ae ⟨fun _=>⟨fun _=>?_,fun hn=>by simp at hn⟩,fun hn=>absurd rfl hn⟩
  have:=g1.len;have:=g1.pos
  refine hS g1 gA _ (fun a' r' h' ks' vs' at' hlt hA=>⟨⟨rfl,Or.inl ⟨rfl,rfl,rfl,r',at',hA⟩⟩,?_⟩) (fun a' e' b' h' ks' vs' hq=>⟨⟨rfl,Or.inr ⟨Or.inr rfl,hq⟩⟩,?_⟩)
  ·have:=at'.len;have:=at'.pos
   rw[RH,RH];omega
  ·rw[Ace,RH];omega
 ·have out:I64 (deep+1-1)/\Q ks vs x (deep+1-1) e b hv:=⟨by unfold I64;omega,by rw[show deep+1-1=deep by omega];exact hq⟩
  refine Ae ⟨fun he=>⟨fun hn=>?_,fun _=>out⟩,fun he=>⟨fun hn=>by simp at hn,fun _=>out⟩⟩
  rcases hen with hen|hen
  ·exact absurd he hen
  ·rw[hen] at hn;simp at hn
theorem Aec(ht:text.length<=4000){r:Aa}{a:Int}(h:AtT text a r):r.length<=4000:=by have:=h.len;have:=h.pos;omega
def AL(text:Aa)(deep bad:Int)(Q:List RV->List RV->Int->Int->Int->Int->Bool->Prop)(last:Aa)(one:Aa->Bool->RO Val)(ks vs:List RV)(r:Aa)(h:Bool):Prop:=
 vs=[]/\∃l:List Val,ks=Ak l/\Bb (Ak l)<=1024* l.length/\l.length+r.length<=4000/\
  ((∀e r',one r h=.err e r'->Ady text deep bad Q (.err e r'))/\∀v r3 h3,one r h=.ok v r3 h3->∃n,r3.length<n/\Ady text deep bad Q (Ep one last n (l++[v]) r3 h3))
theorem Aed(ht:text.length<=4000)(hg:last.length<=1000)(hG:KV text (deep+1) one G)
  (h1:∀r h v r' h',one r h=.ok v r' h'->FZ (AB v)<=1024/\∃p,r=p++r'/\1<=p.length){x:Int}{r:Aa}{hv:Bool}{ks vs:List RV}(g1:AtT text x r)(gA:AL text deep bad Q last one ks vs r hv)(N:LS->Prop)
  (hM:∀a' r' h' ks' vs',AtT text a' r'->r'.length<r.length->AL text deep bad Q last one ks' vs' r' h'->N (a',deep+1,0,bad,h',ks',vs',false))
  (hF:∀a' e' b' h' ks' vs',Q ks' vs' a' deep e' b' h'->N (a',deep+1,e',b',h',ks',vs',true)):RG G text last false x (deep+1) 0 bad hv ks vs false N:=by
 have ht6:text.length<=1000000:=by omega
 obtain⟨rfl,l,rfl,gw,gl,gE,gO⟩:=gA
 have roomk:∀w:RV,AY ((Ak l).length+[w].length) 80:=fun w=>BI (by rw[Ah];simp;omega)
 refine hG.1 g1 ?_
 have post:=h1 r hv
 revert gE gO post
 cases one r hv with
 |err e' r'=>
  intro gE _ _ he w a' s a1 h' hw at' at1
  refine⟨roomk w,Ae ⟨fun hn=>by simp at hn,fun _=>Kq ht6 he at' fun a2 s2 at2=>hF _ _ _ _ _ _ ?_⟩⟩
  exact gE _ _ rfl he (Ak l++[w]) a2 s2 a1 h' (by simp[Ah];omega) (by rw[FL];simp[Bb,Ah];omega) at2 at1
 |ok v r3 h3=>
  intro _ gO post a3 at3
  obtain⟨n,hn,gx⟩:=gO v r3 h3 rfl
  obtain⟨pw,p,hp,hp2⟩:=post v r3 h3 rfl
  have ll:r.length=p.length+r3.length:=by rw[hp];simp
  obtain⟨n,rfl⟩:∃m,n=m+1:=⟨n-1,by omega⟩
  unfold Ep at gx
  have ka:Ak l++[AB v]=Ak (l++[v]):=by rw[BH];rfl
  have lw:Bb (Ak (l++[v]))<=1024* (l++[v]).length:=by rw[BH,FL];simp[Ak,Bb];omega
  refine⟨roomk _,Ae ⟨fun hn=>by simp at hn,fun _=>VG ht6 hg at3 (fun r4 a4 e4 at4=>?_) (fun r4 r5 a5 e4 e5 at5=>?_) (fun r4 r5 a5 e4 e5 at5=>?_)⟩⟩
  ·rw[e4] at gx
   simp only at gx
   have h4:=Hi e4
   simp at h4
   refine hM _ _ _ _ _ at4 (by omega) ⟨rfl,l++[v],ka,lw,by simp;omega,fun e r' ee=>?_,fun v5 r5 h5 ee=>⟨n,?_,?_⟩⟩
   ·rw[ee] at gx;exact gx
   ·obtain⟨_,p5,hp5,hp6⟩:=h1 _ _ _ _ _ ee
    have:r4.length=p5.length+r5.length:=by rw[hp5];simp
    omega
   ·rw[ee] at gx;exact gx
  ·rw[e4] at gx
   simp only at gx
   rw[e5] at gx
   rw[ka]
   exact hF _ _ _ _ _ _ (gx a5 at5 (by simp;omega))
  ·rw[e4] at gx
   simp only at gx
   rw[e5] at gx
   rw[ka]
   exact hF _ _ _ _ _ _ (gx (by decide) _ a5 r5 a5 h3 (by rw[Ah];simp;omega) (by rw[Ah];exact lw) at5 at5)
theorem Sh(ht:text.length<=4000)(hd0:0<=deep)(hd:deep<=24)(hg:last.length<=1000)(hs:sign.length=last.length)(hG:deep+1<=24->KV text (deep+1) one G)
  (h1:deep+1<=24->∀r h v r' h',one r h=.ok v r' h'->FZ (AB v)<=1024/\∃p,r=p++r'/\1<=p.length){a0:Int}(h0:AtT text a0 (sign++r))(h:AtT text a r)
  (hO:Ady text deep bad Q (CB one last (sign++r) deep heavy)):Fv G text a deep 0 bad heavy last 0 false Q:=by
 have ht6:text.length<=1000000:=by omega
 have hback:=h0.back h
 refine⟨by unfold I64;omega,Ae ⟨fun hf=>?_,fun hf=>?_⟩⟩
 ·unfold CB at hO;rw[if_pos hf] at hO
  refine⟨by unfold Len;omega,by have:=h.pos;have:=h.le;unfold I64;omega,fun _=>Ae ⟨fun _=>Ld (by decide) ht6 h fun a' s h'=>?_,fun hn=>absurd rfl hn⟩,fun hn=>absurd rfl hn⟩
  show Oq G text last false Q (a',deep+1,6,a-(last.length:Int),heavy,[],[],false)
  refine Mn (bad:=bad) (fun _ _ _ _=>False) hd0 hd (fun _ hf=>hf.elim) ⟨rfl,Or.inr ⟨Or.inl (by decide),?_⟩⟩
  rw[<-hs,hback]
  exact hO (by decide) [] a' _ a0 heavy (by simp) (by simp[Bb]) h' h0
 unfold CB at hO;rw[if_neg hf] at hO
 rw[show(sign++r).drop last.length=r by rw[<-hs];simp] at hO
 have hG:=hG (by omega)
 have h1:=h1 (by omega)
 refine Ae ⟨fun _=>GD ht6 hg h fun b r2 a2 e2 at2=>?_,fun hn=>absurd rfl hn⟩
 rw[e2] at hO
 show Oq G text last false Q (a2,deep+1,0,bad,heavy,[],[],b)
 refine Mn (bad:=bad) (AL text deep bad Q last one) hd0 hd (fun g1 gA N hM hF=>Aed ht hg hG h1 g1 gA N hM hF) ?_
 cases b with
 |true=>exact⟨rfl,Or.inr ⟨Or.inr rfl,hO a2 at2 (by simp)⟩⟩
 |false=>
  simp only at hO
  unfold Ga at hO
  refine⟨rfl,Or.inl ⟨rfl,rfl,rfl,r2,at2,rfl,[],rfl,by simp[Ak,Bb],by have:=Aec ht at2;simp;omega,fun e r' ee=>?_,fun v r3 h3 ee=>⟨r3.length+1,Nat.lt_succ_self _,?_⟩⟩⟩
  ·rw[ee] at hO;exact hO
  ·rw[ee] at hO;exact hO
def APR(text:Aa)(deep bad:Int)(Q:List RV->List RV->Int->Int->Int->Int->Bool->Prop)(one:Aa->Bool->RO Val)(ks vs:List RV)(r:Aa)(h:Bool):Prop:=
 ∃l:List VP,ks=Ak (l.map (·.1))/\vs=Ak (l.map (·.2))/\l.length+r.length<=4000/\
  ((∀e r',BE one r h=.err e r'->AdA text deep bad Q (.err e r'))/\∀v r3 h3,BE one r h=.ok v r3 h3->∃n,r3.length<n/\AdA text deep bad Q (Ep (BE one) [93] n (l++[v]) r3 h3))
theorem JV(h1:∀r h v r' h',one r h=.ok v r' h'->FZ (AB v)<=1024/\∃p,r=p++r'/\1<=p.length){r h v r' h'}(e:BE one r h=.ok v r' h'):r'.length<r.length:=by
 unfold BE at e
 split at e
 ·cases e
 ·rename_i k r1 h1' e1
  split at e
  ·cases e
  ·rename_i r2 e2
   split at e
   ·cases e
   ·rename_i w r3 h3 e3
    injection e with e4 e5 e6;subst e4 e5
    obtain⟨_,p1,rfl,b1⟩:=h1 _ _ _ _ _ e1
    have:=Hi e2
    obtain⟨_,p3,rfl,b3⟩:=h1 _ _ _ _ _ e3
    simp at*;omega
theorem AdG(ht:text.length<=4000)(hG:KV text (deep+1) one G)
  (h1:∀r h v r' h',one r h=.ok v r' h'->FZ (AB v)<=1024/\∃p,r=p++r'/\1<=p.length){x:Int}{r:Aa}{hv:Bool}{ks vs:List RV}(g1:AtT text x r)(gA:APR text deep bad Q one ks vs r hv)(N:LS->Prop)
  (hM:∀a' r' h' ks' vs',AtT text a' r'->r'.length<r.length->APR text deep bad Q one ks' vs' r' h'->N (a',deep+1,0,bad,h',ks',vs',false))
  (hF:∀a' e' b' h' ks' vs',Q ks' vs' a' deep e' b' h'->N (a',deep+1,e',b',h',ks',vs',true)):RG G text [93] true x (deep+1) 0 bad hv ks vs false N:=by
 have ht6:text.length<=1000000:=by omega
 obtain⟨l,rfl,rfl,gl,gE,gO⟩:=gA
 have roomk:∀w:RV,AY ((Ak (l.map (·.1))).length+[w].length) 80:=fun w=>BI (by rw[Ah];simp;omega)
 have roomv:∀w:RV,AY ((Ak (l.map (·.2))).length+[w].length) 80:=fun w=>BI (by rw[Ah];simp;omega)
 refine hG.1 g1 ?_
 rcases e1:one r hv with⟨k,r1,h1'⟩|⟨e',r'⟩
 ·intro a1 at1
  obtain⟨_,p1,hp1,hp1l⟩:=h1 _ _ _ _ _ e1
  have l1:r.length=p1.length+r1.length:=by rw[hp1];simp
  refine⟨roomk _,Ae ⟨fun _=>Sz ht6 (by simp) at1 (fun r2 a2 e2 at2=>?_) (fun r2 a2 e2 at2=>?_),fun hn=>by simp at hn⟩⟩
  ·have l2:=Hi e2
   simp at l2
   refine hG.1 at2 ?_
   rcases e3:one r2 h1' with⟨w,r3,h3⟩|⟨e',r'⟩
   ·intro a3 at3
    have eP:BE one r hv=.ok (k,w) r3 h3:=by unfold BE;rw[e1];simp only;rw[e2];simp only;rw[e3]
    obtain⟨n,hn,gx⟩:=gO (k,w) r3 h3 eP
    have sh:=JV h1 eP
    obtain⟨n,rfl⟩:∃m,n=m+1:=⟨n-1,by omega⟩
    unfold Ep at gx
    have ka:Ak (l.map (·.1))++[AB k]=Ak ((l++[((k,w):VP)]).map (·.1)):=by rw[List.map_append,BH];rfl
    have va:Ak (l.map (·.2))++[AB w]=Ak ((l++[((k,w):VP)]).map (·.2)):=by rw[List.map_append,BH];rfl
    refine⟨roomv _,VG ht6 (by simp) at3 (fun r4 a4 e4 at4=>?_) (fun r4 r5 a5 e4 e5 at5=>?_) (fun r4 r5 a5 e4 e5 at5=>?_)⟩
    ·rw[e4] at gx
     simp only at gx
     have h4:=Hi e4
     simp at h4
     refine hM _ _ _ _ _ at4 (by omega) ⟨l++[(k,w)],ka,va,by simp;omega,fun e r' ee=>?_,fun v5 r5 h5 ee=>⟨n,?_,?_⟩⟩
     ·rw[ee] at gx;exact gx
     ·have:=JV h1 ee;omega
     ·rw[ee] at gx;exact gx
    ·rw[e4] at gx
     simp only at gx
     rw[e5] at gx
     rw[ka,va]
     exact hF _ _ _ _ _ _ (gx a5 at5 (by simp;omega))
    ·rw[e4] at gx
     simp only at gx
     rw[e5] at gx
     rw[ka,va]
     exact hF _ _ _ _ _ _ (gx (by decide) _ _ a5 r5 a5 h3 at5 at5)
   ·intro he w a' s a1 h' hw at' at1
    have eP:BE one r hv=.err e' r':=by unfold BE;rw[e1];simp only;rw[e2];simp only;rw[e3]
    refine⟨roomv _,Kq ht6 he at' fun a4 s4 at4=>hF _ _ _ _ _ _ ?_⟩
    exact gE _ _ eP he _ _ a4 s4 a1 h' at4 at1
  ·have eP:BE one r hv=.err 1 r2:=by unfold BE;rw[e1];simp only;rw[e2]
   refine hG.2 (by decide) at2 fun a3 s3 at3=>⟨roomv _,Kq ht6 (by decide) at3 fun a4 s4 at4=>hF _ _ _ _ _ _ ?_⟩
   exact gE _ _ eP (by decide) _ _ a4 s4 a2 h1' at4 at2
 ·intro he w a' s a1 h' hw at' at1
  have eP:BE one r hv=.err e' r':=by unfold BE;rw[e1]
  refine⟨roomk w,Ae ⟨fun _=>Pc he ht6 at' fun a2 s2 at2=>hG.2 he at2 fun a3 s3 at3=>⟨roomv _,Kq ht6 he at3 fun a4 s4 at4=>hF _ _ _ _ _ _ ?_⟩,fun hn=>by simp at hn⟩⟩
  exact gE _ _ eP he _ _ a4 s4 a1 h' at4 at1
theorem XB(ht:text.length<=4000)(hd0:0<=deep)(hd:deep<=24)(hs:sign.length=1)(hG:deep+1<=24->KV text (deep+1) one G)
  (h1:deep+1<=24->∀r h v r' h',one r h=.ok v r' h'->FZ (AB v)<=1024/\∃p,r=p++r'/\1<=p.length){a0:Int}(h0:AtT text a0 (sign++r))(h:AtT text a r)
  (hO:AdA text deep bad Q (CW one (sign++r) deep heavy)):Fv G text a deep 0 bad heavy [93] 1 true Q:=by
 have ht6:text.length<=1000000:=by omega
 have hback:=h0.back h
 refine⟨by unfold I64;omega,Ae ⟨fun hf=>?_,fun hf=>?_⟩⟩
 ·unfold CW at hO;rw[if_pos hf] at hO
  refine⟨by unfold Len;simp,by have:=h.pos;have:=h.le;unfold I64;simp;omega,fun _=>Ae ⟨fun hn=>absurd hn (by decide),fun _=>?_⟩,fun hn=>absurd rfl hn⟩
  show Oq G text [93] true Q (a,deep+1,6,a-(([93]:Aa).length:Int),heavy,[],[],false)
  refine Mn (bad:=bad) (fun _ _ _ _=>False) hd0 hd (fun _ hf=>hf.elim) ⟨rfl,Or.inr ⟨Or.inl (by decide),?_⟩⟩
  have:a-(([93]:Aa).length:Int)=a0:=by rw[<-hback,hs];rfl
  rw[this]
  exact hO (by decide) [] [] a _ a0 heavy h h0
 unfold CW at hO;rw[if_neg hf] at hO
 rw[show(sign++r).drop 1=r by rw[<-hs];simp] at hO
 have hG:=hG (by omega)
 have h1:=h1 (by omega)
 refine Ae ⟨fun hn=>absurd hn (by decide),fun _=>?_⟩
 show Oq G text [93] true Q (a,deep+1,0,bad,heavy,[],[],false)
 refine Mn (bad:=bad) (APR text deep bad Q one) hd0 hd (fun g1 gA N hM hF=>AdG ht hG h1 g1 gA N hM hF) ?_
 unfold Ga at hO
 refine⟨rfl,Or.inl ⟨rfl,rfl,rfl,r,h,[],rfl,rfl,by have:=Aec ht h;simp;omega,fun e r' ee=>?_,fun v r3 h3 ee=>⟨r3.length+1,Nat.lt_succ_self _,?_⟩⟩⟩
 ·rw[ee] at hO;exact hO
 ·rw[ee] at hO;exact hO
end
end
end Go.Vc
namespace Go.Vc
theorem Uv{v:Val}(h:Fit v):FZ (AB v)<=1024:=by
 rw[UE h.hv]
 cases v<;>simp only[Val.weightOf]<;>first|omega|exact h.2.1
theorem IN:∀{l:List Val},FitL l->Bb (Ak l)<=1024* l.length
 |[],_=>by simp[Ak,Bb]
 |a::l,h=>by have:=Uv h.1;have:=IN h.2;simp only[Ak,Bb,List.length_cons];omega
theorem JM{sign r r2:Aa}{b:Bool}(hr:Bd r=r)(e:CF sign r=(b,r2)):(b=true/\r=sign++r2)\/(b=false/\r2=r/\¬r.take sign.length=sign):=by
 unfold CF at e
 rw[hr] at e
 split at e
 ·rename_i h
  left
  obtain⟨rfl,rfl⟩:=Prod.mk.inj e
  exact⟨rfl,by conv=>lhs;rw[<-List.take_append_drop sign.length r,h]⟩
 ·rename_i h
  obtain⟨rfl,rfl⟩:=Prod.mk.inj e
  exact Or.inr ⟨rfl,rfl,h⟩
section
variable{text r:Aa}{a:Int}
theorem Rh(v:Val):decide ((AB v).k=0)=v.isNil:=by
 rw[Bool.eq_iff_iff,decide_eq_true_eq];exact Acu v
theorem PK(ht:text.length<=4000):∀(f:Nat){deep:Int},0<=deep->deep<=24->26<=f+deep->KV text deep (fun r h=>HB f r deep h) (EI f)
 |0,deep,hd,hd2,hf=>by omega
 |f+1,deep,hd,hd2,hf=>by
  have ht6:text.length<=1000000:=by omega
  refine⟨fun{r0 a bad heavy Q}h hO=>?_,fun{r0 a e bad heavy Q}he h hQ=>GV ht6 h fun a' h'=>⟨fun _=>hQ a' _ h',fun hn=>absurd he hn⟩⟩
  refine GV ht6 h fun a1 at1=>⟨fun hn=>absurd rfl hn,fun _=>?_⟩
  unfold HB at hO
  have hr:=Su r0
  revert hO at1 hr
  simp only
  generalize Bd r0=r
  intro at1 hO hr
  have hG:deep+1<=24->KV text (deep+1) (fun r h=>HB f r (deep+1) h) (EI f):=fun hd3=>PK ht f (by omega) hd3 (by omega)
  have h1:deep+1<=24->∀r h v r' h',HB f r (deep+1) h=.ok v r' h'->FZ (AB v)<=1024/\∃p,r=p++r'/\1<=p.length:=fun hd3 r h v r' h' e=>by
   have:=DF hd3 e
   obtain⟨p,a,b,c⟩:=this.took;exact⟨Uv this.fit,p,a,b⟩
  have fitL:∀{last:Aa}{l:List Val}{r':Aa}{h'':Bool},1<=last.length->last.length<=r.length->CB (fun r h=>HB f r (deep+1) h) last r deep heavy=.ok l r' h''->FitL l:=fun{last l r' h''}hl1 hl2 e=>by
   have hd3:deep+1<=24:=by unfold CB at e;split at e<;>first|(cases e;done)|omega
   obtain⟨_,p,_,hall,_⟩:=Gl (Pr:=Fit) (W:=shl) (fun r h v r' h' e=>by
    have:=DF hd3 e;obtain⟨p,a,b,c⟩:=this.took;exact⟨this.fit,p,a,c⟩) hl1 e hl2
   exact FitL_iff.2 hall
  refine GD ht6 (by simp) at1 fun b r2 a2 e2 at2=>?_
  rcases JM hr e2 with⟨rfl,er⟩|⟨rfl,rfl,hn1⟩
  ·refine⟨fun _=>?_,fun hn=>by cases hn⟩
   rw[if_pos (by rw[er];rfl)] at hO
   have fl:=@fitL [125]
   rw[er] at at1
   refine Sh (one:=fun r h=>HB f r (deep+1) h) (sign:=[123]) ht hd hd2 (by simp) rfl hG h1 at1 at2 ?_
   rw[<-er]
   revert hO fl
   rcases CB (fun r h=>HB f r (deep+1) h) [125] r deep heavy with⟨l,r1,hh⟩|⟨e,r'⟩
   ·intro hO fl a3 at3 hlen
    have fl:=fl (by simp) (by rw[er];simp) rfl
    refine LH (by rw[Ah];omega) (by have:=IN fl;omega) (Gz ?_)
    rw[SO fl.hv,Rh]
    exact hO a3 at3
   ·intro hO fl he w a' s a3 h' hlen hw at' at3
    exact LH (by omega) (by omega) (Gz (hO he (AbQ w) a' s a3 _ (PD _) at' at3))
  refine⟨fun hn=>(by cases hn),fun _=>?_⟩
  rw[if_neg (by simpa using hn1)] at hO
  refine GD ht6 (by simp) at2 fun b r2' a3 e3 at3=>?_
  rcases JM hr e3 with⟨rfl,er⟩|⟨rfl,rfl,hn2⟩
  ·refine⟨fun _=>?_,fun hn=>by cases hn⟩
   rw[if_pos (by rw[er];rfl)] at hO
   have fl:=@fitL [62,62]
   rw[er] at at1
   refine Sh (one:=fun r h=>HB f r (deep+1) h) (sign:=[60,60]) ht hd hd2 (by simp) rfl hG h1 at1 at3 ?_
   rw[<-er]
   revert hO fl
   rcases CB (fun r h=>HB f r (deep+1) h) [62,62] r2 deep heavy with⟨l,r1,hh⟩|⟨e,r'⟩
   ·intro hO fl a3 at3 hlen
    have fl:=fl (by simp) (by rw[er];simp) rfl
    refine Lm (by rw[Ah];omega) (by have:=IN fl;omega) (Gz ?_)
    rw[Ts fl.hv,Rh]
    exact hO a3 at3
   ·intro hO fl he w a' s a3 h' hlen hw at' at3
    exact Lm (by omega) (by omega) (Gz (hO he (Acn w) a' s a3 _ (PD _) at' at3))
  refine⟨fun hn=>(by cases hn),fun _=>?_⟩
  rw[if_neg (by simpa using hn2)] at hO
  refine GD ht6 (by simp) at3 fun b r2'' a4 e4 at4=>?_
  rcases JM hr e4 with⟨rfl,er⟩|⟨rfl,rfl,hn3⟩
  ·refine⟨fun _=>?_,fun hn=>by cases hn⟩
   rw[if_pos (by rw[er];rfl)] at hO
   have fl:∀l r' h'',CW (fun r h=>HB f r (deep+1) h) r2' deep heavy=.ok l r' h''->∀p∈l,Fit p.1/\Fit p.2:=fun l r' h'' e=>by
    unfold CW at e
    split at e
    ·cases e
    rename_i hd3
    have pr:∀r h v r' h',BE (fun r h=>HB f r (deep+1) h) r h=.ok v r' h'->(Fit v.1/\Fit v.2)/\∃p,r=p++r'/\0<=25* p.length:=fun r h v r' h' e=>by
     unfold BE at e
     split at e
     ·cases e
     ·rename_i k r1 h1' e1
      split at e
      ·cases e
      ·rename_i r2 e2
       split at e
       ·cases e
       ·rename_i w r3 h3 e3
        injection e with e4 e5 e6;subst e4 e5
        have b1:=DF (by omega) e1
        have b3:=DF (by omega) e3
        obtain⟨p1,rfl,_,_⟩:=b1.took
        obtain⟨p2,rfl,_⟩:=Cq e2
        obtain⟨p3,rfl,_,_⟩:=b3.took
        exact⟨⟨b1.fit,b3.fit⟩,p1++(p2++([58]++p3)),by simp,by simp⟩
    obtain⟨p,_,hall,_⟩:=Fs (Pr:=fun p:VP=>Fit p.1/\Fit p.2) (W:=fun _=>0) pr e
    exact hall
   rw[er] at at1
   refine XB (one:=fun r h=>HB f r (deep+1) h) (sign:=[91]) ht hd hd2 rfl hG h1 at1 at4 ?_
   rw[<-er]
   revert hO fl
   rcases CW (fun r h=>HB f r (deep+1) h) r2' deep heavy with⟨l,r1,hh⟩|⟨e,r'⟩
   ·intro hO fl a3 at3 hlen
    have fl:=fl l r1 hh rfl
    have fk:FitL (l.map (·.1)):=FitL_iff.2 fun x hx=>by obtain⟨p,hp,rfl⟩:=List.mem_map.1 hx;exact(fl p hp).1
    have fv:FitL (l.map (·.2)):=FitL_iff.2 fun x hx=>by obtain⟨p,hp,rfl⟩:=List.mem_map.1 hx;exact(fl p hp).2
    refine⟨fun hn=>absurd rfl hn,fun _=>Ph (by rw[Ah];simp;omega) (by rw[Ah,Ah];simp) (by have:=IN fk;have:=IN fv;simp at*;omega) (Gz ?_)⟩
    rw[TR fk.hv fv.hv,Rh]
    exact hO a3 at3
   ·intro hO fl he ks vs a' s a3 h' at' at3
    exact⟨fun _=>hO he Mk a' s a3 h' Gh at' at3,fun hn=>absurd he hn⟩
  refine⟨fun hn=>(by cases hn),fun _=>?_⟩
  rw[if_neg (by simpa using hn3)] at hO
  refine UW (heavy:=heavy) ht6 at4 ?_
  have key:∀v r' h'',BJ r2'' heavy=.ok v r' h''->h''=heavy:=fun v r' h'' e=>by
   have wd:∀{r w rest:Aa}{m:Bool},EZ r w rest m heavy=.ok v r' h''->h''=heavy:=fun{r w rest m}e=>by
    unfold EZ at e
    split at e
    ·cases e
    ·unfold JS at e
     repeat' split at e
     all_goals first|(cases e;done)|(injection e with _ _ e3;exact e3.symm)
   unfold BJ at e
   split at e
   ·split at e
    ·injection e with _ _ e3;exact e3.symm
    ·cases e
   ·split at e
    ·exact wd e
    ·exact wd e
  revert hO key
  rcases BJ r2'' heavy with⟨v,r1,hh⟩|⟨e,r'⟩
  ·intro hO key a1 at1
   have:=hO a1 at1
   rw[key v r1 hh rfl] at this;exact this
  ·intro hO key he w a' s a3 hw at' at3
   exact hO he w a' s a3 heavy hw at' at3
theorem Aae{Q:RV->Int->Int->Prop}(hl:Len text)(h:Q (AB (DB text).1) (DB text).2.1 ((DB text).2.2.getD 0)):Ro text Q:=by
 refine⟨hl,fun h4=>?_,fun h4=>⟨26,?_⟩⟩
 ·unfold DB at h;rw[if_pos (by omega)] at h;exact h
 have ht:text.length<=4000:=by omega
 have ht6:text.length<=1000000:=by omega
 unfold DB at h;rw[if_neg (by omega)] at h
 refine(PK ht 26 (by omega) (by omega) (by omega)).1 (AtT.start text) ?_
 revert h
 show _->AdN text 0 0 _ (HB 26 text 0 false)
 rcases HB 26 text 0 false with⟨v,r,hh⟩|⟨e,r⟩
 ·intro h a at_
  simp only at h
  refine GV ht6 at_ fun a' at'=>?_
  have hal:=at'.len
  have hae:=at'.le
  refine Ae (Ae ⟨fun _=>⟨hl,⟨fun hlt=>?_,fun hlt=>?_⟩⟩,fun hn=>absurd rfl hn⟩)
  ·have hlt:=of_decide_eq_true hlt
   rw[if_pos (by intro e;rw[e] at hal;simp at hal;omega)] at h
   refine⟨fun _=>Ae (Ae ⟨fun hn=>absurd hn (by decide),fun _=>⟨fun hn=>by simp at hn,fun _=>⟨fun _=>?_,fun hn=>absurd (by decide) hn⟩⟩⟩),fun hn=>absurd rfl hn⟩
   rw[hal];exact h
  ·have hlt:=of_decide_eq_false hlt
   have:Bd r=[]:=List.length_eq_zero_iff.1 (by omega)
   rw[if_neg (by simp[this])] at h
   refine Ae (Ae ⟨fun _=>⟨fun hv=>?_,fun hv=>?_⟩,fun hn=>absurd rfl hn⟩)
   ·rw[if_pos hv] at h
    exact⟨fun _=>⟨fun _=>h,fun hn=>absurd (by decide) hn⟩,fun hn=>absurd rfl hn⟩
   ·rw[if_neg (by simp[hv])] at h
    exact⟨fun hn=>absurd rfl hn,fun _=>h⟩
 ·intro h he w a' s a h' hw at' at_
  refine GV ht6 at' fun a2 at2=>Ae (Ae ⟨fun hn=>absurd hn he,fun _=>⟨fun hn=>by simp at hn,fun _=>Ae (Ae ⟨fun hn=>absurd hn he,fun _=>⟨fun hn=>by simp at hn,fun _=>⟨fun _=>?_,fun hn=>absurd he hn⟩⟩⟩)⟩⟩)
  rw[at_.len];exact h
theorem WK{e:Int}(h:(DB text).2.2=some e):(DB text).1=.nil:=by
 revert h;unfold DB
 split
 ·intro _;rfl
 ·rcases HB 26 text 0 false with⟨v,r,hh⟩|⟨e,r⟩
  ·simp only
   split
   ·intro _;rfl
   ·split
    ·intro _;rfl
    ·intro h;cases h
  ·intro _;rfl
theorem Zi{Q:Val->RV->Prop}(hl:Len text)(h:Q (DB text).1 (AB (DB text).1)):Qp text Q:=by
 refine Acs hl (Aae hl (Ae ⟨fun he=>?_,fun _=>?_⟩))
 ·show Q _ (RV.mk 0 0 [] [] [])
  cases e:(DB text).2.2 with
  |none=>rw[e] at he;exact absurd rfl he
  |some e'=>
   have:=WK e
   rw[this] at h ⊢;exact h
 ·show Q _ (RV.mk _ _ _ _ _)
  have:∀v:RV,RV.mk v.k v.i v.t v.ks v.vs=v:=fun v=>by cases v;rfl
  rw[this];exact h
end
end Go.Vc
namespace Go.Vc
theorem Bz{l:List Val}{i:Int}(h0:0<=i)(h1:i<l.length):ix (Ak l) i=AB (ix l i):=by rw[Cg,EW h0 h1]
theorem Ue{n:Int}{Q:Aa->Prop}(hn:I64 n)(h:Q (Hf n)):IU n Q:=by
 unfold I64 at hn
 have hd:=Ow 20 n.natAbs (by omega) (by omega)
 have hl:=NT 20 n.natAbs
 rw[hd] at hl
 have main:IU n Q:=by
  have loop:∀u:Int,u=n.natAbs->
   Ay (σ:=Int×Aa) (u,([]:Aa)) fun(u_19,s_21)xnext_32=>
    ((9:Int)<u_19->
     ((0:Int)<(10:Int))/\
     I64 ((([u8 (IntKind.u8.wrap (IntKind.u64.wrap ((48:Int)+(u_19.tmod (10:Int)))))]).length:Int)+s_21.length)/\
     ((0:Int)<(10:Int))/\
     xnext_32 ((u_19.tdiv (10:Int)),(([u8 (IntKind.u8.wrap (IntKind.u64.wrap ((48:Int)+(u_19.tmod (10:Int)))))])++s_21)))/\
    (¬((9:Int)<u_19)->
     I64 ((([u8 (IntKind.u8.wrap (IntKind.u64.wrap ((48:Int)+u_19)))]).length:Int)+s_21.length)/\
     (n<(0:Int)->
      I64 ((([45]:Aa).length:Int)+(([u8 (IntKind.u8.wrap (IntKind.u64.wrap ((48:Int)+u_19)))])++s_21).length)/\
      Q (([45]:Aa)++(([u8 (IntKind.u8.wrap (IntKind.u64.wrap ((48:Int)+u_19)))])++s_21)))/\
     (¬(n<(0:Int))->
      Q (([u8 (IntKind.u8.wrap (IntKind.u64.wrap ((48:Int)+u_19)))])++s_21))):=by
   intro u hu
   have dig:∀d:Int,0<=d->d<=9->u8 (IntKind.u8.wrap (IntKind.u64.wrap ((48:Int)+d)))=UInt8.ofNat (48+d.toNat):=fun d h0 h1=>by
    rw[IntWalk.u64_in _ ⟨by omega,by omega⟩,IntWalk.u8_in _ ⟨by omega,by omega⟩]
    unfold u8;congr 1;omega
   refine⟨fun s=>0<=s.1/\s.1<=9223372036854775808/\Lib.decDigits n.natAbs=Lib.decDigits s.1.toNat++s.2,fun s=>s.1.toNat,⟨by show 0<=u;omega,by show u<=_;omega,by show _=Lib.decDigits u.toNat++[];rw[hu];simp⟩,?_⟩
   rintro⟨u,s⟩⟨u0,u1,e⟩
   simp only at u0 u1 e
   have hsl:s.length<=20:=by have:=congrArg List.length e;simp at this;omega
   refine⟨fun h9=>⟨by decide,by unfold I64;simp;omega,by decide,⟨?_,?_⟩⟩,fun h9=>?_⟩
   ·rw[Int.tdiv_eq_ediv_of_nonneg u0,Int.tmod_eq_emod_of_nonneg u0,dig _ (by omega) (by omega)]
    refine⟨by show 0<=u/10;omega,by show u/10<=_;omega,?_⟩
    show _=Lib.decDigits (u/10).toNat++([UInt8.ofNat (48+(u%10).toNat)]++s)
    have eu:Lib.decDigits u.toNat=Lib.decDigits (u.toNat/10)++[UInt8.ofNat (48+u.toNat%10)]:=by rw[Lib.decDigits,dif_neg (by omega)]
    rw[e,eu,List.append_assoc,show u.toNat/10=(u/10).toNat by omega,show u.toNat%10=(u%10).toNat by omega]
   ·show(u.tdiv 10).toNat<u.toNat
    rw[Int.tdiv_eq_ediv_of_nonneg u0];omega
   ·have eu:Lib.decDigits u.toNat=[UInt8.ofNat (48+u.toNat)]:=by rw[Lib.decDigits,dif_pos (by omega)]
    rw[dig u u0 (by omega)]
    unfold Hf at h
    rw[hd,e,eu] at h
    exact⟨by unfold I64;simp;omega,fun hneg=>⟨by unfold I64;simp;omega,by rw[if_pos hneg] at h;exact h⟩,fun hneg=>by rw[if_neg hneg] at h;exact h⟩
  refine Ae ⟨fun hneg=>loop _ ?_,fun hneg=>loop _ ?_⟩
  ·rw[Tf hneg (by omega)];omega
  ·rw[IntWalk.u64_in _ ⟨by omega,by omega⟩];omega
 exact main
theorem PB{Ln:Prop}{B:Aa->Int->((Aa×Int)->Prop)->Prop}{strs:List Aa}{n:Int}{Q:Aa->Prop}(hn:n=strs.length)(hlen:n<=1000000000)
  (hB:∀i s N,0<=i->i<n->s.length+(ix strs i).length<=900000000->N (s++ix strs i,i+1)->B s i N)(hb:(Bo strs).length<=900000000)(hQ:Q (Bo strs)):
  Ay (σ:=Aa×Int) (([]:Aa),(0:Int)) fun(s_31,i_32)xnext_63=>
   (Ln->
   (i_32<n->
    Am (σ:=Aa) (fun s_69=>B s_69 i_32 xnext_63) fun J_70=>
     ((0:Int)<i_32->
      I64 ((s_31.length:Int)+([44,32]:Aa).length)/\
      J_70 (s_31++([44,32]:Aa)))/\
     (¬((0:Int)<i_32)->
      J_70 s_31))/\
   (¬(i_32<n)->
    Q s_31)):=by
 refine⟨fun s=>0<=s.2/\s.2<=n/\s.1=Bo (strs.take s.2.toNat),fun s=>(n-s.2).toNat,⟨by simp,by simp;omega,by simp[Bo]⟩,?_⟩
 rintro⟨b,k⟩⟨k0,k1,e⟩_
 simp only at k0 k1 e
 subst e
 refine⟨fun hk=>Ae ?_,fun hk=>?_⟩
 ·have hk2:k<(strs.length:Int):=by omega
  have e1:=AV k0 hk2
  have e2:=Nt (strs.take k.toNat) (ix strs k)
  have e3:=Ew strs (k+1).toNat
  have e4:=Ew strs k.toNat
  rw[e1,e2] at e3
  have hz:strs.take k.toNat=[]↔¬0<k:=by
   rw[List.take_eq_nil_iff];constructor
   ·rintro(h|h)
    ·omega
    ·subst h;simp at hk2;omega
   ·intro h;left;omega
  refine⟨fun h0=>⟨by unfold I64;simp;omega,?_⟩,fun h0=>?_⟩
  ·have hne:¬strs.take k.toNat=[]:=fun h=>(hz.1 h) h0
   rw[if_neg hne] at e2 e3
   simp at e3
   refine hB k _ _ k0 hk (by simp;omega) ⟨⟨by show 0<=k+1;omega,by show k+1<=n;omega,?_⟩,by show(_:Int).toNat<(_:Int).toNat;omega⟩
   show _=Bo (strs.take (k+1).toNat)
   rw[e1,e2];simp
  ·have hne:=hz.2 h0
   rw[if_pos hne] at e2 e3
   refine hB k _ _ k0 hk (by rw[hne];simp[Bo];omega) ⟨⟨by show 0<=k+1;omega,by show k+1<=n;omega,?_⟩,by show(_:Int).toNat<(_:Int).toNat;omega⟩
   show _=Bo (strs.take (k+1).toNat)
   rw[e1,e2,hne];simp[Bo]
 ·have:k=n:=by omega
  subst this
  rw[hn] at*
  simp only[Int.toNat_natCast,List.take_length];exact hQ
theorem OY{G:RV->(Aa->Prop)->Prop}{l:List Val}{Q:Aa->Prop}(hG:∀x∈l,∀Q,Q (AM x)->G (AB x) Q)(hb:(Bo (AG l)).length<=900000000)(hQ:Q (Bo (AG l))):Ks G (Ak l) Q:=by
 have hl:=Fz (AG l)
 rw[Bm] at hl
 refine PB (B:=fun s_69 i_32 xnext_63=>In i_32 (Ak l)/\
     (I64 (ix (Ak l) i_32).k->I64 (ix (Ak l) i_32).i->
     G (ix (Ak l) i_32) fun r_85=>
      I64 ((s_69.length:Int)+r_85.length)/\
      I64 (i_32+(1:Int))/\
      xnext_63 ((s_69++r_85),(i_32+(1:Int))))) (strs:=AG l) (by rw[Ah,Bm]) (by rw[Ah];omega) (fun i s N i0 i1 hi hN=>?_) hb hQ
 have i2:i<(l.length:Int):=by rw[Ah] at i1;exact i1
 refine⟨⟨i0,i1⟩,fun _ _=>?_⟩
 rw[Bz i0 i2]
 rw[Bv,EW i0 i2] at hi hN
 exact hG _ (Az i0 i2) _ ⟨by unfold I64;omega,by unfold I64;omega,hN⟩
theorem Tv{r:RV}{k:List Val}{Q:Bool->Prop}(eks:r.ks=Ak k)(hk:k.length<=1000000000)(h:Q (EE 1 k&&decide (r.k=6))):Ic r Q:=by
 have hlen:(Ak k).length=k.length:=Ah k
 refine⟨fun i=>0<=i/\i<=k.length/\EE (i+1) (k.drop i.toNat)=EE 1 k,fun i=>(k.length-i).toNat,⟨by simp,by simp,by simp⟩,?_⟩
 show∀i:Int,_->_
 rintro i⟨i0,i1,e⟩_
 rw[eks,hlen]
 refine⟨fun hi=>Ae ⟨⟨i0,by omega⟩,?_⟩,fun hi=>?_⟩
 ·rw[Bz i0 hi]
  intro _
  rw[Pj i0 hi] at e
  have kn:(AB (ix k i)).k=2↔(ix k i).isNum=true:=by cases ix k i<;>simp[AB,RV.k,Val.isNum]
  have ki:(ix k i).isNum=true->(AB (ix k i)).i=(ix k i).numD:=by cases ix k i<;>simp[AB,RV.i,Val.isNum,Val.numD]
  refine⟨fun hn=>⟨fun _=>?_,fun hn=>by cases hn⟩,fun hn=>⟨⟨i0,by omega⟩,?_⟩⟩
  ·have:(ix k i).isNum=false:=by
    cases hx:(ix k i).isNum with
    |false=>rfl
    |true=>exact absurd (kn.2 hx) hn
   rw[<-e] at h;simpa[this] using h
  ·have hn:(ix k i).isNum=true:=kn.1 (by omega)
   rw[ki hn]
   intro _
   refine⟨by unfold I64;omega,fun hd=>?_,fun hd=>⟨by unfold I64;omega,⟨by omega,by omega,?_⟩,by show(_:Int).toNat<(_:Int).toNat;omega⟩⟩
   ·have hd:=of_decide_eq_true hd
    rw[<-e] at h;simpa[hd] using h
   ·have hd:=of_decide_eq_false hd
    have hd:(ix k i).numD=i+1:=by omega
    rw[<-e];simp[hn,hd]
 ·rw[List.drop_of_length_le (by omega)] at e
  rw[<-e] at h;simpa[EE,RV.k] using h
theorem AaY{k v:List Val}{Q:Bool->Prop}(hk:k.length<=1000000000)(h:Q (EE 1 k)):Ic (.mk 6 0 [] (Ak k) (Ak v)) Q:=Tv rfl hk (by simpa[RV.k] using h)
theorem Iz:∀(m:Nat){v:Val}{Q:Aa->Prop},v.sz<m->Ev v->(AM v).length<=900000000->Q (AM v)->DZ m (AB v) Q
 |0,_,_,h,_,_,_=>absurd h (by omega)
 |m+1,v,Q,hm,he,hb,h=>by
  unfold DZ
  cases v with
  |nil=>exact⟨fun hn=>(by simp[AB,RV.k] at hn),fun _=>⟨fun hn=>(by simp[AB,RV.k] at hn),fun _=>⟨fun hn=>(by simp[AB,RV.k] at hn),fun _=>⟨fun hn=>(by simp[AB,RV.k] at hn),fun _=>⟨fun hn=>(by simp[AB,RV.k] at hn),fun _=>⟨fun hn=>(by simp[AB,RV.k] at hn),fun _=>h⟩⟩⟩⟩⟩⟩
  |truth b=>
   refine⟨fun _=>⟨fun hi=>?_,fun hi=>?_⟩,fun hn=>absurd rfl hn⟩
   ·cases b
    ·exact absurd hi (by decide)
    ·exact h
   ·cases b
    ·exact h
    ·exact absurd rfl hi
  |num n=>exact⟨fun hn=>(by simp[AB,RV.k] at hn),fun _=>⟨fun _=>Ue he h,fun hn=>absurd rfl hn⟩⟩
  |text s=>
   simp[AM] at hb
   refine⟨fun hn=>(by simp[AB,RV.k] at hn),fun _=>⟨fun hn=>(by simp[AB,RV.k] at hn),fun _=>⟨fun _=>⟨?_,?_,?_⟩,fun hn=>absurd rfl hn⟩⟩⟩
   ·show I64 (_+(s.length:Int));unfold I64;simp;omega
   ·show I64 ((([34]++s).length:Int)+_);unfold I64;simp;omega
   ·exact h
  |atom s=>exact⟨fun hn=>(by simp[AB,RV.k] at hn),fun _=>⟨fun hn=>(by simp[AB,RV.k] at hn),fun _=>⟨fun hn=>(by simp[AB,RV.k] at hn),fun _=>⟨fun _=>h,fun hn=>absurd rfl hn⟩⟩⟩⟩
  |set l w=>
   simp[AM] at hb
   refine⟨fun hn=>(by simp[AB,RV.k] at hn),fun _=>⟨fun hn=>(by simp[AB,RV.k] at hn),fun _=>⟨fun hn=>(by simp[AB,RV.k] at hn),fun _=>⟨fun hn=>(by simp[AB,RV.k] at hn),fun _=>⟨fun _=>?_,fun hn=>absurd rfl hn⟩⟩⟩⟩⟩
   refine OY (l:=l) (fun x hx Q hQ=>Iz m (by have:=FK (w:=w) hx;omega) (EvL_iff.1 he _ hx) (by have:=GY (l:=AG l) (a:=AM x) (by rw[Bv];exact List.mem_map_of_mem hx);omega) hQ) (by omega) ⟨by unfold I64;simp;omega,by unfold I64;simp;omega,?_⟩
   simpa[AM] using h
  |fn k v w=>
   simp only[AM] at hb h
   obtain⟨he1,he2,he3⟩:=he
   refine⟨fun hn=>(by simp[AB,RV.k] at hn),fun _=>⟨fun hn=>(by simp[AB,RV.k] at hn),fun _=>⟨fun hn=>(by simp[AB,RV.k] at hn),fun _=>⟨fun hn=>(by simp[AB,RV.k] at hn),fun _=>⟨fun hn=>(by simp[AB,RV.k] at hn),fun _=>⟨fun _=>?_,fun hn=>absurd rfl hn⟩⟩⟩⟩⟩⟩
   have hkl:k.length<=1000000000:=by
    split at hb
    ·have hl:=Fz (AG v);rw[Bm] at hl;simp at hb;omega
    ·have hl:=Fz (CE (AG k) (AG v))
     have hpl:(CE (AG k) (AG v)).length=k.length:=by simp[CE,Bm,he1]
     simp at hb;omega
   refine AaY hkl ⟨fun hs=>?_,fun hs=>?_⟩
   ·rw[if_pos hs] at hb h
    simp at hb
    refine OY (l:=v) (fun x hx Q hQ=>Iz m (by have:=EP (k:=k) (w:=w) hx;omega) (EvL_iff.1 he3 _ hx) (by have:=GY (l:=AG v) (a:=AM x) (by rw[Bv];exact List.mem_map_of_mem hx);omega) hQ) (by omega) ⟨by unfold I64;simp;omega,by unfold I64;simp;omega,?_⟩
    simpa using h
   ·rw[if_neg (by simp[hs])] at hb h
    simp at hb
    have hpl:(CE (AG k) (AG v)).length=k.length:=by simp[CE,Bm,he1]
    refine PB (B:=fun s_125 i_74 xnext_119=>In i_74 (Ak k)/\
              (I64 (ix (Ak k) i_74).k->I64 (ix (Ak k) i_74).i->
              DZ m (ix (Ak k) i_74) fun r_141=>
               In i_74 (Ak v)/\
               (I64 (ix (Ak v) i_74).k->I64 (ix (Ak v) i_74).i->
               DZ m (ix (Ak v) i_74) fun r_153=>
                I64 ((s_125.length:Int)+r_141.length)/\
                I64 (((s_125++r_141).length:Int)+([58,32]:Aa).length)/\
                I64 ((((s_125++r_141)++([58,32]:Aa)).length:Int)+r_153.length)/\
                I64 (i_74+(1:Int))/\
                xnext_119 ((((s_125++r_141)++([58,32]:Aa))++r_153),(i_74+(1:Int)))))) (strs:=CE (AG k) (AG v)) (Q:=fun s_73=>I64 ((([91]:Aa).length:Int)+s_73.length)/\I64 (((([91]:Aa)++s_73).length:Int)+([93]:Aa).length)/\Q ((([91]:Aa)++s_73)++([93]:Aa)))
     (by rw[hpl];show((Ak k).length:Int)=_;rw[Ah]) (by show((Ak k).length:Int)<=_;rw[Ah];omega) (fun i s N i0 i1 hi hN=>?_) (by omega) ⟨by unfold I64;simp;omega,by unfold I64;simp;omega,by simpa using h⟩
    have i2:i<(k.length:Int):=by have i1:i<((Ak k).length:Int):=i1;rw[Ah] at i1;exact i1
    have i3:i<(v.length:Int):=by omega
    have mk:=Az i0 i2;have mv:=Az i0 i3
    rw[Ss i0 (by simp[Bm];omega) (by simp[Bm];omega),Bv,Bv,EW i0 i2,EW i0 i3] at hi hN
    simp at hi
    refine⟨⟨i0,i1⟩,fun _ _=>?_⟩
    rw[Bz i0 i2]
    refine Iz m (by have:=Iy (v:=v) (w:=w) mk;omega) (EvL_iff.1 he2 _ mk) (by omega) ⟨⟨i0,by rw[Ah];omega⟩,fun _ _=>?_⟩
    rw[Bz i0 i3]
    refine Iz m (by have:=EP (k:=k) (w:=w) mv;omega) (EvL_iff.1 he3 _ mv) (by omega) ⟨by unfold I64;omega,by unfold I64;simp;omega,by unfold I64;simp;omega,by unfold I64;omega,?_⟩
    simpa using hN
end Go.Vc
namespace Go.Vc
mutual
def Tx:Val->Prop
 |.text s=>s.length<=100000
 |.set l _=>TxL l
 |.fn k v _=>TxL k/\TxL v
 |_=>True
def TxL:List Val->Prop
 |[]=>True
 |a::l=>Tx a/\TxL l
end
theorem TxL_iff:∀{l:List Val},TxL l↔∀a∈l,Tx a
 |[]=>by simp[TxL]
 |a::l=>by simp[TxL,TxL_iff]
def G(v:Val):Prop:=Fit v/\Tx v
mutual
theorem Ya:∀{v:Val},Fit v->Tx v->(shl v:Int)+8<=110000* v.weightOf
 |.nil,_,_=>by simp[shl,AM,Val.weightOf]
 |.truth b,_,_=>by cases b<;>simp[shl,AM,Val.weightOf]
 |.num n,_,_=>by have:=Mf n;simp[shl,AM,Val.weightOf];omega
 |.text s,_,t=>by have t:s.length<=100000:=t;simp[shl,AM,Val.weightOf];omega
 |.atom s,g,_=>by have:=g.2.2.1;simp[shl,AM,Val.weightOf];omega
 |.set l h,g,t=>by
  have h1:=VK g.2.2.2 t
  have h2:=HM l
  have:=g.1
  simp[shl,AM,Val.weightOf];omega
 |.fn k v h,g,t=>by
  have h1:=VK g.2.2.2.2.1 t.1
  have h2:=VK g.2.2.2.2.2 t.2
  have h3:=HM v;have h4:=TX k v
  have:=g.1;have h5:=HvL.nn g.2.2.2.2.1.hv
  simp only[shl,AM,Val.weightOf]
  split<;>simp<;>omega
theorem VK:∀{l:List Val},FitL l->TxL l->(TL l:Int)<=110000* CZ l
 |[],_,_=>by simp[TL,CZ]
 |a::l,g,t=>by
  have h1:=Ya g.1 t.1
  have h2:=VK g.2 t.2
  simp[TL,CZ];omega
end
section
variable{v:Val}{l k:List Val}
theorem G.show(g:G v):(AM v).length<=900000000:=by
 have h:=Ya g.1 g.2;have:=g.1.le
 unfold shl at h;omega
theorem G.nil:G .nil:=⟨trivial,trivial⟩
theorem G.truth{b:Bool}:G (.truth b):=⟨trivial,trivial⟩
theorem G.num{n:Int}(h:I64 n):G (.num n):=⟨h,trivial⟩
theorem GL.fit(h:∀x∈l,G x):FitL l:=FitL_iff.2 fun x hx=>(h x hx).1
theorem GL.hv(h:∀x∈l,G x):HvL l:=(GL.fit h).hv
theorem G.setL(g:G v):∀x∈v.setL,G x:=by
 cases v with
 |set l h=>exact fun x hx=>⟨FitL_iff.1 g.1.2.2.2 x hx,TxL_iff.1 g.2 x hx⟩
 |_=>exact fun x hx=>by cases hx
theorem G.fnK(g:G v):∀x∈v.fnK,G x:=by
 cases v with
 |fn a b h=>exact fun x hx=>⟨FitL_iff.1 g.1.2.2.2.2.1 x hx,TxL_iff.1 g.2.1 x hx⟩
 |_=>exact fun x hx=>by cases hx
theorem G.fnV(g:G v):∀x∈v.fnV,G x:=by
 cases v with
 |fn a b h=>exact fun x hx=>⟨FitL_iff.1 g.1.2.2.2.2.2 x hx,TxL_iff.1 g.2.2 x hx⟩
 |_=>exact fun x hx=>by cases hx
theorem G.setAsc(g:G v):Ih v.setL:=by
 cases v with
 |set l h=>exact g.1.2.2.1
 |_=>exact List.Pairwise.nil
theorem G.fnAsc(g:G v):Ih v.fnK:=by
 cases v with
 |fn a b h=>exact g.1.2.2.2.1
 |_=>exact List.Pairwise.nil
theorem G.fnLen(g:G v):v.fnK.length=v.fnV.length:=by
 cases v with
 |fn a b h=>exact g.1.2.2.1
 |_=>rfl
theorem G.setW(g:G v):CZ v.setL<=1023:=by
 cases v with
 |set l h=>have:=g.1.1;have:=g.1.2.1;simp only[Val.setL];omega
 |_=>simp[Val.setL,CZ]
theorem G.fnW(g:G v):CZ v.fnK+CZ v.fnV<=1023:=by
 cases v with
 |fn a b h=>have:=g.1.1;have:=g.1.2.1;simp only[Val.fnK,Val.fnV];omega
 |_=>simp[Val.fnK,Val.fnV,CZ]
theorem GL.len(h:∀x∈l,G x):(l.length:Int)<=CZ l:=HvL.nn (GL.hv h)
theorem G.setN(g:G v):v.setL.length<=1023:=by have:=GL.len g.setL;have:=g.setW;omega
theorem G.fnN(g:G v):v.fnK.length<=1023/\v.fnV.length<=1023:=by have:=GL.len g.fnK;have:=GL.len g.fnV;have:=g.fnW;omega
theorem GL.tx(h:∀x∈l,G x):TxL l:=TxL_iff.2 fun x hx=>(h x hx).2
theorem GF(h:∀x∈l,G x)(ha:Ih l):G (DM l):=by
 unfold DM;split
 ·exact⟨⟨rfl,by omega,ha,GL.fit h⟩,GL.tx h⟩
 ·exact G.nil
theorem Ej(h:∀x∈l,G x):G (EJ l):=GF (fun x hx=>h x ((BV (GL.hv h) x).1 hx)) (Fy (GL.hv h))
theorem WO(hk:∀x∈k,G x)(hv:∀x∈l,G x)(hl:k.length=l.length)(ha:Ih k):G (ER k l):=by
 refine⟨MX (fun x hx=>(hk x hx).1) (fun x hx=>(hv x hx).1) hl ha,?_⟩
 unfold ER;split
 ·exact⟨GL.tx hk,GL.tx hv⟩
 ·trivial
theorem IZ(hk:∀x∈k,G x)(hv:∀x∈l,G x):G (CC k l):=by
 have hz:On (k.zip l):=fun p hp=>(hk _ (List.of_mem_zip hp).1).1.hv
 refine WO (fun x hx=>?_) (fun x hx=>?_) (by simp) (List.pairwise_map.2 (Hl hz))
 ·obtain⟨p,hp,rfl⟩:=List.mem_map.1 hx;exact hk _ (List.of_mem_zip (Di hz hp)).1
 ·obtain⟨p,hp,rfl⟩:=List.mem_map.1 hx;exact hv _ (List.of_mem_zip (Di hz hp)).2
theorem GO(h:∀x∈l,G x):G (Cr l):=by
 refine⟨TI fun x hx=>(h x hx).1,?_⟩
 unfold Cr ER;split
 ·exact⟨TxL_iff.2 fun a ha=>by obtain⟨j,_,rfl⟩:=List.mem_map.1 ha;trivial,GL.tx h⟩
 ·trivial
end
theorem PH:∀{k v:List Aa},k.length=v.length->(∀a∈k,∃p∈CE k v,a.length<=p.length)/\∀a∈v,∃p∈CE k v,a.length<=p.length
 |[],[],_=>by simp
 |[],_::_,h=>by simp at h
 |_::_,[],h=>by simp at h
 |x::k,y::v,h=>by
  have ih:=PH (k:=k) (v:=v) (by simpa using h)
  have e:CE (x::k) (y::v)=(x++58::32::y)::CE k v:=rfl
  rw[e]
  refine⟨fun a ha=>?_,fun a ha=>?_⟩
  ·rcases List.mem_cons.1 ha with rfl|ha
   ·exact⟨_,List.mem_cons_self ..,by simp⟩
   ·obtain⟨p,hp,hl⟩:=ih.1 a ha;exact⟨p,List.mem_cons_of_mem _ hp,hl⟩
  ·rcases List.mem_cons.1 ha with rfl|ha
   ·exact⟨_,List.mem_cons_self ..,by simp;omega⟩
   ·obtain⟨p,hp,hl⟩:=ih.2 a ha;exact⟨p,List.mem_cons_of_mem _ hp,hl⟩
theorem FB:∀(m:Nat){v:Val},v.sz<m->Fit v->(AM v).length<=100000->Tx v
 |0,_,h,_,_=>absurd h (by omega)
 |m+1,v,h,g,hl=>by
  cases v with
  |text s=>
   have:(AM (.text s)).length=s.length+2:=by simp[AM]
   show s.length<=100000;omega
  |set l w=>
   refine TxL_iff.2 fun x hx=>FB m (by have:=FK (w:=w) hx;omega) (FitL_iff.1 g.2.2.2 x hx) ?_
   have:=GY (l:=AG l) (a:=AM x) (by rw[Bv];exact List.mem_map_of_mem hx)
   have e:(AM (.set l w)).length=(Bo (AG l)).length+2:=by simp[AM]
   omega
  |fn k u w=>
   have hv:(Bo (AG u)).length<=100000->TxL u:=fun hh=>TxL_iff.2 fun x hx=>FB m (by have:=EP (k:=k) (w:=w) hx;omega) (FitL_iff.1 g.2.2.2.2.2 x hx) (by
    have:=GY (l:=AG u) (a:=AM x) (by rw[Bv];exact List.mem_map_of_mem hx);omega)
   by_cases hq:EE 1 k=true
   ·refine⟨TxL_iff.2 fun x hx=>?_,hv ?_⟩
    ·rw[PT hq] at hx
     obtain⟨i,_,rfl⟩:=List.mem_map.1 hx;trivial
    ·simp only[AM,hq,if_true] at hl;simp at hl;omega
   ·have hl2:(Bo (CE (AG k) (AG u))).length<=100000:=by simp only[AM,hq] at hl;simp at hl;omega
    have pm:=PH (k:=AG k) (v:=AG u) (by rw[Bm,Bm];exact g.2.2.1)
    refine⟨TxL_iff.2 fun x hx=>FB m (by have:=Iy (v:=u) (w:=w) hx;omega) (FitL_iff.1 g.2.2.2.2.1 x hx) ?_,TxL_iff.2 fun x hx=>FB m (by have:=EP (k:=k) (w:=w) hx;omega) (FitL_iff.1 g.2.2.2.2.2 x hx) ?_⟩
    ·obtain⟨p,hp,h1⟩:=pm.1 (AM x) (by rw[Bv];exact List.mem_map_of_mem hx)
     have:=GY hp;omega
    ·obtain⟨p,hp,h1⟩:=pm.2 (AM x) (by rw[Bv];exact List.mem_map_of_mem hx)
     have:=GY hp;omega
  |_=>trivial
theorem Ux(t:Aa):G (DB t).1:=⟨(Lf t).1,FB _ (Nat.lt_succ_self _) (Lf t).1 (Lf t).2.2⟩
theorem Aep{s:Int}(h0:0<=s)(h1:s<=2000000):IntKind.i64.wrap ((IntKind.u64.wrap s)/2)=s/2:=by
 rw[IntKind.wrap_i64];simp only[IntKind.wrap,IntKind.bits,IntKind.signed];simp;omega
def EF(l:List Val)(v:Val):Bool:=l.any fun x=>decide (AK x v=0)
theorem KN{l:List Val}{v:Val}(hl:HvL l)(hv:Hv v):EF l v=true↔v∈l:=by
 unfold EF
 rw[List.any_eq_true]
 constructor
 ·rintro⟨x,hx,h⟩
  rw[<-Gf (HvL_iff.1 hl x hx) hv (of_decide_eq_true h)];exact hx
 ·exact fun h=>⟨v,h,by simp[En]⟩
theorem Pk{l:List Val}(ha:Ih l){i:Int}(h0:0<=i)(h1:i<l.length):(∀x∈l.take i.toNat,AK x (ix l i)<0)/\∀x∈l.drop (i+1).toNat,AK (ix l i) x<0:=by
 have hd:=Cm h0 h1
 have hl2:l=l.take i.toNat++(ix l i::l.drop (i+1).toNat):=by rw[<-hd,List.take_append_drop]
 unfold Ih at ha
 rw[hl2] at ha
 exact⟨fun x hx=>(List.pairwise_append.1 ha).2.2 x hx _ (by simp),(List.pairwise_cons.1 (List.pairwise_append.1 ha).2.1).1⟩
theorem QV{l:List Val}{v:Val}{Q:Int->Bool->Prop}(ha:Ih l)(hl:HvL l)(hv:Hv v)(hn:l.length<=1000000)(hf:∀p:Int,0<=p->p<l.length->ix l p=v->Q p true)(hm:v∉l->∀p,Q p false):Ov l v Q:=by
 intro _
 have cmp:∀x∈l,∀{Q:Int->Prop},Q (AK x v)->∃m,BF m x v Q:=fun x hx Q h=>⟨_,CM _ (Nat.lt_succ_self _) (HvL_iff.1 hl x hx) hv h⟩
 refine⟨fun s=>0<=s.1/\s.1<=s.2/\s.2<=l.length/\(∀x∈l.take s.1.toNat,AK x v<0)/\∀x∈l.drop s.2.toNat,¬AK x v<0,fun s=>(s.2-s.1).toNat,⟨by simp,by simp,by simp,by simp,by simp⟩,?_⟩
 rintro⟨a,b⟩⟨g0,g1,g2,g3,g4⟩
 simp only at g0 g1 g2 g3 g4
 refine⟨fun hab=>?_,fun hab=>?_⟩
 ·rw[Aep (by omega) (by omega)]
  have m0:0<=(a+b)/2:=by omega
  have m1:(a+b)/2<l.length:=by omega
  have sp:=Pk ha m0 m1
  refine⟨by unfold I64;omega,⟨m0,m1⟩,cmp _ (Az m0 m1) ⟨fun h1=>⟨by unfold I64;omega,⟨by show 0<=(a+b)/2+1;omega,by show(a+b)/2+1<=b;omega,g2,?_,g4⟩,by show(b-((a+b)/2+1)).toNat<(b-a).toNat;omega⟩,fun h1=>⟨⟨g0,by show a<=(a+b)/2;omega,by show(a+b)/2<=_;omega,g3,?_⟩,by show((a+b)/2-a).toNat<(b-a).toNat;omega⟩⟩⟩
  ·intro x hx
   have hx:x∈l.take ((a+b)/2+1).toNat:=hx
   rw[AV m0 m1] at hx
   rcases List.mem_append.1 hx with hx|hx
   ·exact DL (sp.1 x hx) h1
   ·rw[List.mem_singleton.1 hx];exact h1
  ·intro x hx h2
   have hx:x∈l.drop ((a+b)/2).toNat:=hx
   rw[Cm m0 m1] at hx
   rcases List.mem_cons.1 hx with rfl|hx
   ·exact h1 h2
   ·exact h1 (DL (sp.2 x hx) h2)
 ·have:a=b:=by omega
  subst this
  refine Ae ⟨fun hlt=>⟨⟨g0,hlt⟩,?_⟩,fun hge=>?_⟩
  ·obtain⟨m,hc⟩:=cmp _ (Az g0 hlt) (Q:=fun y=>y=AK (ix l a) v) rfl
   refine⟨m,_,hc,by have:=NM (ix l a) v;unfold I64;omega,?_⟩
   by_cases h0:AK (ix l a) v=0
   ·rw[decide_eq_true h0];exact hf a g0 hlt (Gf (HvL_iff.1 hl _ (Az g0 hlt)) hv h0)
   ·rw[decide_eq_false h0]
    refine hm (fun hmem=>?_) a
    rw[<-List.take_append_drop a.toNat l,Cm g0 hlt] at hmem
    rcases List.mem_append.1 hmem with hx|hx
    ·exact Dr (g3 v hx)
    ·rcases List.mem_cons.1 hx with rfl|hx
     ·exact h0 (En _)
     ·have:=(Pk ha g0 hlt).2 v hx
      have h5:=g4 (ix l a) (by rw[Cm g0 hlt];simp)
      exact h5 this
  ·refine hm (fun hmem=>?_) a
   rw[<-List.take_append_drop a.toNat l,List.drop_eq_nil_of_le (by omega),List.append_nil] at hmem
   exact Dr (g3 v hmem)
theorem AdB{l:List Val}{v:Val}{Q:Bool->Prop}(ha:Ih l)(hl:HvL l)(hv:Hv v)(hn:l.length<=1000000)(h:Q (EF l v)):Of l v Q:=by
 refine QV ha hl hv hn (fun p h0 h1 e=>?_) fun hm p=>?_
 ·have:EF l v=true:=(KN hl hv).2 (e▸Az h0 h1)
  rw[this] at h;exact h
 ·have:EF l v=false:=by
   cases e:EF l v with
   |false=>rfl
   |true=>exact absurd ((KN hl hv).1 e) hm
  rw[this] at h;exact h
theorem Eo{l:List Val}{Q:List Val->Prop}(hn:l.length<=1000000)(h:Q l):Ed l Q:=by
 intro b hb
 refine⟨fun e=>?_,fun e=>⟨BY (by simpa using(by omega:l.length<=1000001)),h⟩⟩
 rw[hb e] at h;exact h
theorem Zk{n:Int}{Q:List Val->Prop}(h0:0<=n)(h1:n<=10000000)(h:Q []):QT n Q:=by
 refine⟨fun hn=>by omega,fun _=>Ae ?_⟩
 have e:n-((0:Int)-(([]:List Val).length:Int))=n:=by simp
 rw[e]
 exact⟨by unfold I64;simp,by unfold I64;omega,fun hp=>⟨⟨hp,by omega,by omega⟩,⟨by simp,by simp;omega⟩,h⟩,fun _=>h⟩
theorem Ju{a b:List Val}{Q:List Val->Prop}(hn:a.length+b.length<=1000000)(h:Q (a++b)):GK [a,b] Q:=by
 intro _
 have e0:ix [a,b] 0=a:=rfl
 have e1:ix [a,b] 1=b:=rfl
 refine⟨fun s=>0<=s.2/\s.2<=2/\s.1=if s.2=0 then 0 else if s.2=1 then(a.length:Int) else a.length+b.length,fun s=>(2-s.2).toNat,⟨by simp,by simp,by simp⟩,?_⟩
 rintro⟨z,x⟩⟨x0,x1,e⟩
 simp only at x0 x1 e
 refine⟨fun hx=>?_,fun hx=>?_⟩
 ·have hx:x<2:=hx
  refine⟨⟨x0,hx⟩,fun _=>?_⟩
  have hx2:x=0\/x=1:=by omega
  rcases hx2 with rfl|rfl
  ·rw[e0];simp at e;subst e
   exact⟨by unfold I64;omega,fun hn=>by omega,fun _=>⟨by unfold I64;omega,⟨by simp,by simp,by simp⟩,by simp⟩⟩
  ·rw[e1];simp at e;subst e
   exact⟨by unfold I64;omega,fun hn=>by omega,fun _=>⟨by unfold I64;omega,⟨by simp,by simp,by simp⟩,by simp⟩⟩
 ·have hx:x=2:=by have:¬x<2:=hx;omega
  subst hx
  simp at e;subst e
  refine Zk (by omega) (by omega) fun _=>?_
  refine⟨fun s=>0<=s.2/\s.2<=2/\s.1=if s.2=0 then[] else if s.2=1 then a else a++b,fun s=>(2-s.2).toNat,⟨by simp,by simp,by simp⟩,?_⟩
  rintro⟨z,x⟩⟨x0,x1,e⟩
  simp only at x0 x1 e
  refine⟨fun hx=>?_,fun hx=>?_⟩
  ·have hx:x<2:=hx
   refine⟨⟨x0,hx⟩,?_⟩
   have hx2:x=0\/x=1:=by omega
   rcases hx2 with rfl|rfl
   ·rw[e0];simp at e;subst e
    exact⟨BY (by first|omega|(simp;omega)),by unfold I64;omega,⟨by simp,by simp,by simp⟩,by simp⟩
   ·rw[e1];simp at e;subst e
    exact⟨BY (by first|omega|(simp;omega)),by unfold I64;omega,⟨by simp,by simp,by simp⟩,by simp⟩
  ·have hx:x=2:=by have:¬x<2:=hx;omega
   subst hx
   simp at e;subst e;exact h
theorem Bc{v:Val}{Q:List Val->Bool->Prop}(h:Q v.setL v.isSet):Cu v Q:=by
 refine⟨fun e=>⟨e,?_⟩,fun e=>?_⟩
 ·rw[e] at h;exact h
 ·cases v with
  |set l k=>cases e
  |_=>exact h
theorem Gx{v:Val}{Q:List Val->List Val->Bool->Prop}(h:Q v.fnK v.fnV v.isFn):Ji v Q:=by
 refine⟨fun e=>⟨e,e,?_⟩,fun e=>?_⟩
 ·rw[e] at h;exact h
 ·cases v with
  |fn a b k=>cases e
  |_=>exact h
def Cw(v:Val):Bool:=v.isFn&&EE 1 v.fnK
theorem Gk{v:Val}{Q:List Val->Bool->Prop}(h:Cw v=true->Q v.fnV true)(h2:Cw v=false->Q [] false):Hm v Q:=by
 refine Ae ⟨fun e=>⟨e,Jn ?_⟩,fun e=>?_⟩
 ·cases e2:EE 1 v.fnK with
  |true=>exact⟨fun _=>⟨e,h (by simp[Cw,e,e2])⟩,fun h=>by cases h⟩
  |false=>exact⟨fun h=>by(cases h),fun _=>h2 (by simp[Cw,e2])⟩
 ·exact⟨fun h=>by(cases h),fun _=>h2 (by simp[Cw,e])⟩
end Go.Vc
namespace Go.Vc
def Does(o:EA)(n:Int)(f:List Val->Val):Prop:=∀a:List Val,(∀x∈a,G x)->a.length<=300000->(n<0\/(a.length:Int)=n)->G (f a)/\∀Q,Q (f a)->o a Q
def OpIs:Option (Int×(List Val->Val))->Int->Option EA->Prop
 |none,n,o=>n=0/\o=none
 |some (k,f),n,o=>n=k/\∃g,o=some g/\Does g k f
theorem OpIs.of{k:Int}{f:List Val->Val}{g:EA}(h:Does g k f):OpIs (some (k,f)) k (some g):=⟨rfl,g,rfl,h⟩
section
variable{a:List Val}
theorem G.at(ha:∀x∈a,G x){i:Int}(h:In i a):G (ix a i):=ha _ (Az h.1 h.2)
theorem BT{k:Int}(hk:(a.length:Int)=k){i:Int}(h0:0<=i)(h1:i<k):In i a:=⟨h0,by omega⟩
end
theorem Does.mk{o:EA}{n:Int}{f:List Val->Val}(hn:0<=n)(h:∀a:List Val,(∀x∈a,G x)->a.length<=300000->(a.length:Int)=n->G (f a)/\∀Q,Q (f a)->o a Q):Does o n f:=
 fun a ha hl hk=>h a ha hl (hk.resolve_left (by omega))
def lg2(f:Bool->Bool->Bool)(a:List Val):Val:=.truth (f (ix a 0).isTrue (ix a 1).isTrue)
def AdO(a:List Val):Bool:=decide (AK (ix a 0) (ix a 1)=0)
theorem KK{g:Fg (Bool×Bool) Bool}{f:Bool->Bool->Bool}(hg:∀x y Q,Q (f x y)->g (x,y) Q):Does (fun x Q=>GB x g Q) 2 (lg2 f):=
 .mk (by decide) fun a ha hl hk=>⟨G.truth,fun Q h=>⟨BT hk (by decide) (by decide),BT hk (by decide) (by decide),hg _ _ _ h⟩⟩
theorem VE{a b:Val}{Q:Bool->Prop}(ha:G a)(hb:G b)(h:Q (decide (AK a b=0))):Qt a b Q:=⟨_,CM _ (Nat.lt_succ_self _) ha.1.hv hb.1.hv h⟩
def Fa(op:Aa):Option (Int×(List Val->Val)):=
 if op=[110,111,116] then some (1,fun a=>.truth (!(ix a 0).isTrue)) else if op=[97,110,100] then some (2,lg2 (·&&·)) else if op=[111,114] then some (2,lg2 (·||·)) else
 if op=[105,109,112,108,105,101,115] then some (2,lg2 fun x y=> !x||y) else if op=[105,102,102] then some (2,lg2 (·==·)) else
 if op=[61] then some (2,fun a=>.truth (AdO a)) else if op=[47,61] then some (2,fun a=>.truth (!AdO a)) else none
theorem Zd{op:Aa}{Q:Int->Option EA->Prop}(h:∀n o,OpIs (Fa op) n o->Q n o):DH op Q:=by
 refine⟨fun e=>?_,fun e1=>⟨fun e=>?_,fun e2=>⟨fun e=>?_,fun e3=>⟨fun e=>?_,fun e4=>⟨fun e=>?_,fun e5=>⟨fun e=>?_,fun e6=>⟨fun e=>?_,fun e7=>?_⟩⟩⟩⟩⟩⟩⟩
 ·subst e;exact h _ _ (.of (.mk (by decide) fun a ha hl hk=>⟨G.truth,fun Q h=>⟨BT hk (by decide) (by decide),h⟩⟩))
 ·subst e;exact h _ _ (.of (KK fun x y Q h=>by cases x<;>cases y<;>exact h))
 ·subst e;exact h _ _ (.of (KK fun x y Q h=>by cases x<;>cases y<;>exact h))
 ·subst e;exact h _ _ (.of (KK fun x y Q h=>by cases x<;>cases y<;>exact h))
 ·subst e;exact h _ _ (.of (KK fun x y Q h=>h))
 ·subst e;exact h _ _ (.of (.mk (by decide) fun a ha hl hk=>⟨G.truth,fun Q h=>⟨BT hk (by decide) (by decide),BT hk (by decide) (by decide),VE (G.at ha (BT hk (by decide) (by decide))) (G.at ha (BT hk (by decide) (by decide))) h⟩⟩))
 ·subst e;exact h _ _ (.of (.mk (by decide) fun a ha hl hk=>⟨G.truth,fun Q h=>⟨BT hk (by decide) (by decide),BT hk (by decide) (by decide),VE (G.at ha (BT hk (by decide) (by decide))) (G.at ha (BT hk (by decide) (by decide))) h⟩⟩))
 ·have:Fa op=none:=by unfold Fa;rw[if_neg e1,if_neg e2,if_neg e3,if_neg e4,if_neg e5,if_neg e6,if_neg e7]
  rw[this] at h;exact h _ _ ⟨rfl,rfl⟩
def nb(f:Int->Int->Bool)(a:List Val):Val:=.truth ((ix a 0).isNum&&(ix a 1).isNum&&f (ix a 0).numD (ix a 1).numD)
def ng(f:Int->Int->Val)(a:List Val):Val:=if(ix a 0).isNum&&(ix a 1).isNum then f (ix a 0).numD (ix a 1).numD else .nil
theorem G.numI{v:Val}(g:G v):I64 v.numD:=by
 cases v with
 |num n=>exact g.1
 |_=>exact(show I64 0 from⟨by decide,by decide⟩)
theorem Mx{g:Fg (Int×Int) Bool}{f:Int->Int->Bool}(hg:∀x y Q,Q (f x y)->g (x,y) Q):Does (fun x Q=>ES x g Q) 2 (nb f):=
 .mk (by decide) fun a ha hl hk=>⟨G.truth,fun Q h=>by
  refine⟨BT hk (by decide) (by decide),BT hk (by decide) (by decide),Ae ?_⟩
  unfold nb at h
  refine⟨fun e=>⟨fun e2=>hg _ _ _ ?_,fun e2=>?_⟩,fun e=>?_⟩
  ·rw[e,e2] at h;exact h
  ·rw[e,e2] at h;exact h
  ·rw[e] at h;exact h⟩
theorem Jl{g:Fg (Int×Int) Val}{f:Int->Int->Val}(hf:∀x y,I64 x->I64 y->G (f x y)/\∀Q,Q (f x y)->g (x,y) Q):Does (fun x Q=>EU x g Q) 2 (ng f):=
 .mk (by decide) fun a ha hl hk=>by
  have i0:=BT hk (show(0:Int)<=0 by decide) (by decide);have i1:=BT hk (show(0:Int)<=1 by decide) (by decide)
  have hh:=hf _ _ (G.at ha i0).numI (G.at ha i1).numI
  unfold ng
  cases e:(ix a 0).isNum<;>cases e2:(ix a 1).isNum
  ·exact⟨G.nil,fun Q h=>⟨i0,i1,fun _=>h,fun hn=>absurd (.inl (by rw[e];rfl)) hn⟩⟩
  ·exact⟨G.nil,fun Q h=>⟨i0,i1,fun _=>h,fun hn=>absurd (.inl (by rw[e];rfl)) hn⟩⟩
  ·exact⟨G.nil,fun Q h=>⟨i0,i1,fun _=>h,fun hn=>absurd (.inr (by rw[e2];rfl)) hn⟩⟩
  ·exact⟨hh.1,fun Q h=>⟨i0,i1,fun hn=>by rw[e,e2] at hn;simp at hn,fun _=>hh.2 _ h⟩⟩
theorem Zj{x:Int}(h:I64 x):I64 (Hx x):=GA x h
theorem Qz{x y:Int}(hx:I64 x)(h0:y≠0)(h1:y≠-1):I64 (x.tdiv y):=by
 have hn:(x.tdiv y).natAbs=x.natAbs/y.natAbs:=Int.natAbs_tdiv x y
 have hy:1<=y.natAbs:=by omega
 by_cases h2:y=1
 ·subst h2;simpa using hx
 ·have hy2:2<=y.natAbs:=by omega
  have:x.natAbs/y.natAbs<=x.natAbs/2:=Nat.div_le_div_left hy2 (by decide)
  unfold I64 at*;omega
def LX(a b:Int):Val:=if b=0 then .nil else if b=-1 then .num (Hx a) else .num (a.tdiv b)
theorem QD{a b:Int}(ha:I64 a):G (LX a b)/\∀Q,Q (LX a b)->FI a b Q:=by
 unfold LX
 by_cases h0:b=0
 ·rw[if_pos h0];exact⟨G.nil,fun Q h=>⟨fun _=>h,fun hn=>absurd h0 hn⟩⟩
 ·rw[if_neg h0]
  by_cases h1:b=-1
  ·rw[if_pos h1];exact⟨G.num (Zj ha),fun Q h=>⟨fun e=>absurd e h0,fun _=>⟨fun _=>h,fun hn=>absurd h1 hn⟩⟩⟩
  ·rw[if_neg h1];exact⟨G.num (Qz ha h0 h1),fun Q h=>⟨fun e=>absurd e h0,fun _=>⟨fun e=>absurd e h1,fun _=>⟨⟨h0,Qz ha h0 h1⟩,h⟩⟩⟩⟩
def wr(x:Int):Int:=IntKind.i64.wrap x
theorem Ach(x:Int):I64 (wr x):=Ck _
def Xx(a b:Int):Val:=if b=0 then .nil else .num (wr (a-wr ((if b=-1 then Hx a else a.tdiv b)* b)))
theorem Adm{a b:Int}(ha:I64 a):G (Xx a b)/\∀Q,Q (Xx a b)->Fj a b Q:=by
 unfold Xx
 by_cases h0:b=0
 ·rw[if_pos h0];exact⟨G.nil,fun Q h=>(QD ha).2 _ (by rw[LX,if_pos h0];exact⟨fun e=>(by cases e),fun _=>h⟩)⟩
 ·rw[if_neg h0]
  refine⟨G.num (Ach _),fun Q h=>(QD ha).2 _ ?_⟩
  rw[LX,if_neg h0]
  by_cases h1:b=-1
  ·rw[if_pos h1] at h ⊢;exact⟨fun _=>h,fun e=>(by cases e)⟩
  ·rw[if_neg h1] at h ⊢;exact⟨fun _=>h,fun e=>(by cases e)⟩
def Dv(a:Int)(n:Nat):List Val:=(List.range n).map fun k:Nat=>Val.num (a+k)
def NH(a b:Int):Val:=if b<a then .set [] 1 else if 1024<=b-a then .nil else DM (Dv a (b-a+1).toNat)
theorem MT(a:Int)(n:Nat):Dv a (n+1)=Dv a n++[.num (a+n)]:=by simp[Dv,List.range_succ]
theorem Jg(a:Int)(n:Nat):(Dv a n).length=n:=by simp[Dv]
theorem JP{a:Int}{n:Nat}(ha:I64 a)(hn:a+n<=9223372036854775808):∀x∈Dv a n,G x:=fun x hx=>by
 obtain⟨k,hk,rfl⟩:=List.mem_map.1 hx
 have:=List.mem_range.1 hk
 exact G.num (by unfold I64 at*;omega)
theorem XC(a:Int)(n:Nat):Ih (Dv a n):=by
 unfold Ih Dv
 rw[List.pairwise_map]
 refine List.Pairwise.imp ?_ (List.pairwise_lt_range (n:=n))
 intro i j hij
 rw[QH];unfold cI;rw[if_pos (by omega)];decide
theorem ZE{a b:Int}(ha:I64 a)(hb:I64 b)(h:a<=b):IntKind.u64.wrap (IntKind.u64.wrap b-IntKind.u64.wrap a)=b-a:=by
 unfold I64 at*
 simp only[IntKind.wrap,IntKind.bits,IntKind.signed];simp;omega
theorem AbH{a b:Int}(ha:I64 a)(hb:I64 b):G (NH a b)/\∀Q,Q (NH a b)->Qe a b Q:=by
 unfold NH
 by_cases h0:b<a
 ·rw[if_pos h0];exact⟨⟨⟨by simp[CZ],by decide,List.Pairwise.nil,trivial⟩,trivial⟩,fun Q h=>⟨fun _=>h,fun hn=>absurd h0 hn⟩⟩
 ·rw[if_neg h0]
  have hu:=ZE ha hb (by omega)
  by_cases h1:1024<=b-a
  ·rw[if_pos h1];exact⟨G.nil,fun Q h=>⟨fun e=>absurd e h0,fun _=>⟨fun _=>h,fun hn=>absurd (by rw[hu];exact h1) hn⟩⟩⟩
  ·rw[if_neg h1]
   have i1:I64 (b-a):=by unfold I64;omega
   have i2:I64 (b-a+1):=by unfold I64;omega
   have gd:∀x∈Dv a (b-a+1).toNat,G x:=JP ha (by unfold I64 at hb;omega)
   refine⟨GF gd (XC _ _),fun Q h=>⟨fun e=>absurd e h0,fun _=>⟨fun hn=>absurd (by rw[hu] at hn;exact hn) h1,fun _=>⟨i1,i2,⟨by omega,by omega,by omega⟩,i1,i2,?_⟩⟩⟩⟩
   refine⟨fun s=>0<=s.2/\s.2<=b-a+1/\s.1=Dv a s.2.toNat,fun s=>(b-a+1-s.2).toNat,⟨by simp,by simp;omega,by simp[Dv]⟩,?_⟩
   rintro⟨l,x⟩⟨x0,x1,e⟩
   simp only at x0 x1 e
   subst e
   refine⟨fun hx=>⟨by unfold I64 at*;omega,⟨BY (by simp[Jg];omega),by unfold I64;omega,⟨by show 0<=x+1;omega,by show x+1<=_;omega,?_⟩,by show(b-a+1-(x+1)).toNat<(b-a+1-x).toNat;omega⟩⟩,fun hx=>?_⟩
   ·show Dv a x.toNat++[Val.num (a+x)]=Dv a (x+1).toNat
    rw[show(x+1).toNat=x.toNat+1 by omega,MT,show((x.toNat:Nat):Int)=x by omega]
   ·have:x=b-a+1:=by omega
    subst this
    exact GM (GL.fit gd) h
def CO(op:Aa):Option (Int×(List Val->Val)):=
 if op=[60] then some (2,nb fun x y=>decide (x<y)) else if op=[60,61] then some (2,nb fun x y=>decide (x<=y)) else if op=[62] then some (2,nb fun x y=>decide (y<x)) else
 if op=[62,61] then some (2,nb fun x y=>decide (y<=x)) else if op=[43] then some (2,ng fun x y=>.num (wr (x+y))) else if op=[45] then some (2,ng fun x y=>.num (wr (x-y))) else
 if op=[42] then some (2,ng fun x y=>.num (wr (x* y))) else if op=[47] then some (2,ng LX) else if op=[37] then some (2,ng Xx) else if op=[46,46] then some (2,ng NH) else
 if op=[110,101,103] then some (1,fun a=>if(ix a 0).isNum then .num (Hx (ix a 0).numD) else .nil) else none
theorem Uu{op:Aa}{Q:Int->Option EA->Prop}(h:∀n o,OpIs (CO op) n o->Q n o):Cc op Q:=by
 refine⟨fun e=>?_,fun e1=>⟨fun e=>?_,fun e2=>⟨fun e=>?_,fun e3=>⟨fun e=>?_,fun e4=>⟨fun e=>?_,fun e5=>⟨fun e=>?_,fun e6=>⟨fun e=>?_,fun e7=>⟨fun e=>?_,fun e8=>⟨fun e=>?_,fun e9=>⟨fun e=>?_,fun e10=>⟨fun e=>?_,fun e11=>?_⟩⟩⟩⟩⟩⟩⟩⟩⟩⟩⟩
 ·subst e;exact h _ _ (.of (Mx fun x y Q h=>h))
 ·subst e;exact h _ _ (.of (Mx fun x y Q h=>h))
 ·subst e;exact h _ _ (.of (Mx fun x y Q h=>h))
 ·subst e;exact h _ _ (.of (Mx fun x y Q h=>h))
 ·subst e;exact h _ _ (.of (Jl fun x y hx hy=>⟨G.num (Ach _),fun Q h=>h⟩))
 ·subst e;exact h _ _ (.of (Jl fun x y hx hy=>⟨G.num (Ach _),fun Q h=>h⟩))
 ·subst e;exact h _ _ (.of (Jl fun x y hx hy=>⟨G.num (Ach _),fun Q h=>h⟩))
 ·subst e;exact h _ _ (.of (Jl fun x y hx hy=>QD hx))
 ·subst e;exact h _ _ (.of (Jl fun x y hx hy=>Adm hx))
 ·subst e;exact h _ _ (.of (Jl fun x y hx hy=>AbH hx hy))
 ·subst e
  refine h _ _ (.of (.mk (by decide) fun a ha hl hk=>?_))
  have i0:=BT hk (show(0:Int)<=0 by decide) (by decide)
  cases e:(ix a 0).isNum
  ·exact⟨G.nil,fun Q h=>⟨i0,fun e2=>by(have e2:(ix a 0).isNum=true:=e2;rw[e] at e2;cases e2),fun _=>h⟩⟩
  ·exact⟨G.num (Zj (G.at ha i0).numI),fun Q h=>⟨i0,fun _=>h,fun e2=>by(have e2:(ix a 0).isNum=false:=e2;rw[e] at e2;cases e2)⟩⟩
 ·have:CO op=none:=by unfold CO;rw[if_neg e1,if_neg e2,if_neg e3,if_neg e4,if_neg e5,if_neg e6,if_neg e7,if_neg e8,if_neg e9,if_neg e10,if_neg e11]
  rw[this] at h;exact h _ _ ⟨rfl,rfl⟩
end Go.Vc
