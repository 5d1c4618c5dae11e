/- Part A of the proof: facts of the program, rules. No condition beyond those that each theorem names. -/
import Derived.WalkKit
import Derived.Deep.Quiet
import Derived.Laws.MakeOwn
import Derived.OwnWalk
import Derived.Scope
import Derived.WideLaws
import Derived.Laws.Cover3
import Derived.MapKept
import Derived.WideKeyRuns
import Derived.Maps.RangeRun
import Derived.Laws.StructEq
import Derived.Laws.Strings
import Derived.Laws.Strings2
import Derived.Laws.Concat
import Derived.Laws.BytesString
import Derived.Lib.AppendStr
import Derived.Test.YtlhkfkecoekoeaaGreatDoorRows
import Derived.Lib.ItoaNum
import Derived.Lib.Bytealg
import Derived.Lib.ParseIntB
import Derived.Below
import Derived.Lib.AppendZeros
set_option linter.unusedVariables false
set_option linter.unusedSimpArgs false
namespace Go.Vc
open Go
def lk:List (Nat×Value)->Nat->Option Value
 |[],_=>none
 |p::l,s=>bif Nat.beq p.1 s then some p.2 else lk l s
structure Fr(n:Nat)(l:List (Nat×Value))(a:Act):Prop where
 defers:a.defers=[]
 size:a.tmps.size=n
 val:∀s v,lk l s=some v->a.tmps[s]? =some v
def AF(l:List (Nat×Value)):Operand->Option Value
 |.tmp t=>lk l t
 |.const v=>some v
 |.global g=>some (.pointer (some ⟨g,0,none⟩))
 |.func f=>some (.func (.func f) #[] #[])
theorem Fr.eval{n:Nat}{l:List (Nat×Value)}{a:Act}(h:Fr n l a){x:Operand}{v:Value}(hx:AF l x=some v):a.eval x=v:=by
 cases x with
 |tmp t=>
  have:=h.val t v hx
  simp only[Act.eval,Array.getD_eq_getD_getElem?,this,Option.getD_some]
 |const u=>simpa[AF,Act.eval] using hx
 |global g=>simpa[AF,Act.eval] using hx
 |func f=>simpa[AF,Act.eval] using hx
theorem MN(d:Nat)(v:Value)(l:List (Nat×Value))(s:Nat):lk ((d,v)::l) s=if d=s then some v else lk l s:=by
 show(bif Nat.beq d s then some v else lk l s)=_
 by_cases h:d=s
 ·subst h;simp
 ·have:Nat.beq d s=false:=by
   cases hb:Nat.beq d s with
   |false=>rfl
   |true=>exact absurd (Nat.eq_of_beq_eq_true hb) h
  simp[this,h]
theorem Fr.put{n:Nat}{l:List (Nat×Value)}{a:Act}(h:Fr n l a){d:Nat}(hd:Nat.blt d n=true)(v:Value):Fr n ((d,v)::l) (a.put (some d) v):=by
 have hd':d<n:=by simpa[Nat.blt_eq] using hd
 refine⟨h.defers,by simp[Act.put,h.size],fun s u hs=>?_⟩
 rw[MN] at hs
 simp only[Act.put]
 by_cases he:d=s
 ·subst he
  rw[if_pos rfl] at hs
  cases hs
  rw[Array.getElem?_setIfInBounds]
  simp[h.size,hd']
 ·rw[if_neg he] at hs
  rw[Array.getElem?_setIfInBounds_ne he]
  exact h.val s u hs
def sub(l:List (Nat×Value)):List (Nat×Value)->Prop
 |[]=>True
 |p::m=>lk l p.1=some p.2/\sub l m
theorem Fr.of_sub{n:Nat}{l m:List (Nat×Value)}{a:Act}(h:Fr n l a)(hs:sub l m):Fr n m a:=by
 refine⟨h.defers,h.size,fun s v hv=>?_⟩
 induction m with
 |nil=>cases hv
 |cons p m ih=>
  obtain⟨d,u⟩:=p
  rw[MN] at hv
  by_cases he:d=s
  ·subst he
   rw[if_pos rfl] at hv
   cases hv
   exact h.val _ _ hs.1
  ·rw[if_neg he] at hv
   exact ih hs.2 hv
def WC(P:Program)(Q:Exit->Act->World->Prop)(n:Nat)(l:List (Nat×Value))(c:Code)(w:World):Prop:=
 ∀a,Fr n l a->Code.wp P c Q a w
def WL(P:Program)(ops:Array Oper)(Q:Exit->Act->World->Prop)(n:Nat)(l:List (Nat×Value))(rest:List Oper)(w:World):Prop:=
 ∀a,Fr n l a->wpList P ops Q rest a w
def WQ(Q:Exit->Act->World->Prop)(e:Exit)(n:Nat)(l:List (Nat×Value))(w:World):Prop:=
 ∀a,Fr n l a->Q e a w
section code
variable{P:Program}{Q:Exit->Act->World->Prop}{n:Nat}{l:List (Nat×Value)}{w:World}
theorem WC.sub{m:List (Nat×Value)}{c:Code}(hs:sub l m)(h:WC P Q n m c w):WC P Q n l c w:=fun a ha=>h a (ha.of_sub hs)
theorem WC.seq{x y:Code}(h:WC P (Exit.then (y.wp P Q) Q) n l x w):WC P Q n l (.seq x y) w:=fun a ha=>wp_seq (h a ha)
theorem WC.skip(h:WQ Q .normal n l w):WC P Q n l .skip w:=fun a ha=>wp_skip (h a ha)
theorem WC.label{k:Nat}(h:WQ Q .normal n l w):WC P Q n l (.label k) w:=fun a ha=>wp_label (h a ha)
theorem WC.exit{k:Nat}(h:WQ Q (.exit k) n l w):WC P Q n l (.exit k) w:=fun a ha=>wp_exit (h a ha)
theorem WC.ret(h:WQ Q .ret n l w):WC P Q n l .ret w:=fun a ha=>wp_ret (h a ha)
theorem WC.block{k:Nat}{c:Code}(h:WC P (Exit.inBlock k Q) n l c w):WC P Q n l (.block k c) w:=fun a ha=>wp_block (h a ha)
theorem WC.cond{c:Operand}{x y:Code}{t:Bool}(hc:AF l c=some (.bool t))(h1:t=true->WC P Q n l x w)(h2:t=false->WC P Q n l y w):
  WC P Q n l (.cond c x y) w:=fun a ha=>wp_cond_split (ha.eval hc) (fun h=>h1 h a ha) (fun h=>h2 h a ha)
theorem WC.cond_true{c:Operand}{x y:Code}(hc:AF l c=some (.bool true))(h:WC P Q n l x w):WC P Q n l (.cond c x y) w:=
 fun a ha=>wp_cond_true (ha.eval hc) (h a ha)
theorem WC.cond_false{c:Operand}{x y:Code}(hc:AF l c=some (.bool false))(h:WC P Q n l y w):WC P Q n l (.cond c x y) w:=
 fun a ha=>wp_cond_false (ha.eval hc) (h a ha)
theorem WC.region{k:Nat}{ops:List Oper}(h:WL P ops.toArray Q n l ops w):WC P Q n l (.region k ops.toArray false) w:=
 fun a ha=>wp_region_lit (h a ha)
theorem WQ.next{y:Code}(h:WC P Q n l y w):WQ (Exit.then (y.wp P Q) Q) .normal n l w:=fun a ha=>h a ha
theorem WQ.pass{K:Act->World->Prop}{e:Exit}(he:e≠.normal)(h:WQ Q e n l w):WQ (Exit.then K Q) e n l w:=fun a ha=>by
 cases e<;>first|exact absurd rfl he|exact h a ha
theorem WQ.hit{k:Nat}(h:WQ Q .normal n l w):WQ (Exit.inBlock k Q) (.exit k) n l w:=fun a ha=>by
 simp only[Exit.inBlock,if_true];exact h a ha
theorem WQ.by{k j:Nat}(hj:Nat.beq j k=false)(h:WQ Q (.exit j) n l w):WQ (Exit.inBlock k Q) (.exit j) n l w:=fun a ha=>by
 have:¬j=k:=fun e=>by subst e;simp at hj
 simp only[Exit.inBlock,if_neg this];exact h a ha
theorem WQ.out{k:Nat}{e:Exit}(he:∀j,e≠.exit j)(h:WQ Q e n l w):WQ (Exit.inBlock k Q) e n l w:=fun a ha=>by
 cases e<;>first|exact absurd rfl (he _)|exact h a ha
theorem WL.nil{ops:Array Oper}(h:WQ Q .normal n l w):WL P ops Q n l [] w:=fun a ha=>wpList_nil (h a ha)
theorem WC.meet{x y:Code}(J:Act->World->Prop)(hy:∀a w,J a w->y.wp P Q a w)(hx:WC P (Exit.then J Q) n l x w):WC P Q n l (.seq x y) w:=
 fun a ha=>wp_seq (wp_mono (hx a ha) fun e a' w' hq=>by cases e<;>first|exact hy _ _ hq|exact hq)
theorem WQ.there{J:Act->World->Prop}(h:∀a,Fr n l a->J a w):WQ (Exit.then J Q) .normal n l w:=fun a ha=>h a ha
theorem WC.loop{σ:Type}{c:Code}(J:σ->Act->World->Prop)(μ:σ->Nat)(s0:σ)(h0:∀a,Fr n l a->J s0 a w)
  (round:∀s a w,J s a w->c.wp P (Exit.then (fun a' w'=>∃s',J s' a' w'/\μ s'<μ s) Q) a w):WC P Q n l (.loop c) w:=by
 intro a ha
 let I:Act->World->Prop:=fun a w=>∃s,J s a w
 have hex:∀a w,I a w->∃m,∃s,J s a w/\μ s=m:=fun a w⟨s,hs⟩=>⟨μ s,s,hs,rfl⟩
 have least:∀(p:Nat->Prop),(∃m,p m)->∃m,p m/\∀k,p k->m<=k:=by
  intro p ⟨m,hm⟩
  induction m using Nat.strongRecOn with
  |_ m ih=>
   by_cases h:∃k,k<m/\p k
   ·obtain⟨k,hk,hp⟩:=h;exact ih k hk hp
   ·exact⟨m,hm,fun k hk=>Nat.le_of_not_lt fun hlt=>h ⟨k,hlt,hk⟩⟩
 let M:Act->World->Nat:=fun a w=>open Classical in if h:I a w then(least _ (hex a w h)).choose else 0
 have hM:∀a w,I a w->(∃s,J s a w/\μ s=M a w)/\∀s,J s a w->M a w<=μ s:=by
  intro a w h
  have hc:=(least _ (hex a w h)).choose_spec
  have he:M a w=(least _ (hex a w h)).choose:=by simp only[M,dif_pos h]
  rw[he]
  exact⟨hc.1,fun s hs=>hc.2 _ ⟨s,hs,rfl⟩⟩
 refine wp_loop I M ⟨s0,h0 a ha⟩ fun a w hI=>?_
 obtain⟨⟨s,hs,hm⟩,_⟩:=hM a w hI
 refine wp_mono (round s a w hs) fun e a' w' hq=>?_
 cases e<;>first
  |exact hq
  |(obtain⟨s',hs',hlt⟩:=hq;have:=(hM a' w' ⟨s',hs'⟩).2 s' hs';exact⟨⟨s',hs'⟩,by omega⟩)
end code
theorem enter{P:Program}{f:FuncId}{fn:Func}{c:Code}{args:Array Value}{w:World}{R:Ending->World->Prop}{n:Nat}{l:List (Nat×Value)}
  (hf:P.funcs[f]? =some fn)(hb:fn.body=some c)(hn:fn.ntmps=n)(hs:Nat.ble args.size n=true)(hl:∀s v,lk l s=some v->args[s]? =some v)
  (h:WC P (bodyPost P fn R) n l c w):Calls P f args w R:=by
 have hs':args.size<=n:=by simpa using hs
 refine calls_of_wp hf hb (h _ ⟨rfl,by simp[hn];omega,fun s v hv=>?_⟩)
 have:=hl s v hv
 have hlt:s<args.size:=by
  rcases Nat.lt_or_ge s args.size with h|h
  ·exact h
  ·simp[Array.getElem?_eq_none h] at this
 simp only[Array.getElem?_append,hlt,if_true]
 exact this
theorem BR(args:Array Value):∀s v,lk [] s=some v->args[s]? =some v:=fun _ _ h=>by cases h
theorem Av{args:Array Value}{d:Nat}{v:Value}{l:List (Nat×Value)}(h:args[d]? =some v)(hl:∀s v,lk l s=some v->args[s]? =some v):
  ∀s u,lk ((d,v)::l) s=some u->args[s]? =some u:=fun s u hs=>by
 rw[MN] at hs
 by_cases he:d=s
 ·subst he;rw[if_pos rfl] at hs;cases hs;exact h
 ·rw[if_neg he] at hs;exact hl s u hs
section leave
variable{P:Program}{fn:Func}{R:Ending->World->Prop}{n:Nat}{l:List (Nat×Value)}{w:World}
theorem HX{e:Exit}(he:e=.ret\/e=.normal)(hr:fn.results=#[])(h:R (.returned (.tuple #[])) w):WQ (bodyPost P fn R) e n l w:=fun a ha=>by
 rcases he with rfl|rfl<;>exact⟨ha.defers,_,results_none hr _ _ _,h⟩
theorem Lj{t:Tmp}{v:Value}(hr:fn.results=#[.tmp t])(hv:lk l t=some v)(h:R (.returned v) w):WQ (bodyPost P fn R) .ret n l w:=fun a ha=>by
 have:=ha.val t v hv
 refine⟨ha.defers,_,results_tmp hr _ _ _,?_⟩
 rw[Array.getD_eq_getD_getElem?,this]
 exact h
theorem Yb{t u:Tmp}{v x:Value}(hr:fn.results=#[.tmp t,.tmp u])(hv:lk l t=some v)(hx:lk l u=some x)(h:R (.returned (.tuple #[v,x])) w):WQ (bodyPost P fn R) .ret n l w:=fun a ha=>by
 have h1:=ha.val t v hv
 have h2:=ha.val u x hx
 refine⟨ha.defers,_,results_tmp2 hr _ _ _,?_⟩
 rw[Array.getD_eq_getD_getElem?,h1,Array.getD_eq_getD_getElem?,h2]
 exact h
theorem Ads{t u k:Tmp}{v x y:Value}(hr:fn.results=#[.tmp t,.tmp u,.tmp k])(hv:lk l t=some v)(hx:lk l u=some x)(hy:lk l k=some y)(h:R (.returned (.tuple #[v,x,y])) w):WQ (bodyPost P fn R) .ret n l w:=fun a ha=>by
 have h1:=ha.val t v hv
 have h2:=ha.val u x hx
 have h3:=ha.val k y hy
 refine⟨ha.defers,_,results_tmp3 hr _ _ _,?_⟩
 rw[Array.getD_eq_getD_getElem?,h1,Array.getD_eq_getD_getElem?,h2,Array.getD_eq_getD_getElem?,h3]
 exact h
end leave
end Go.Vc
namespace Go.Vc
open Go
abbrev View:=Nat->Option Obj
abbrev Ar:=List (Nat×Obj)
def View.le(H K:View):Prop:=∀k o,H k=some o->K k=some o
theorem View.le.refl(H:View):View.le H H:=fun _ _ h=>h
theorem View.le.trans{H K M:View}(h:View.le H K)(k:View.le K M):View.le H M:=fun i o x=>k i o (h i o x)
structure St(w0:World)(H:View)(L:Ar)(w:World):Prop where
 os:w.os=w0.os
 tape:w.tape=w0.tape
 output:w.output=w0.output
 size:w0.heap.size<=w.heap.size
 fits:∀k o,H k=some o->w.heap[k]? =some o
 own:∀p∈L,w.heap[p.1]? =some p.2
 sep:∀p∈L,H p.1=none
 nodup:(L.map (·.1)).Nodup
 ahead:w0.drawn<=w.drawn
def View.put(H:View)(s:Ar):View:=fun k=>match s.find? (fun p=>p.1==k) with|some p=>some p.2|none=>H k
section st
variable{w0 w:World}{H:View}{L:Ar}
theorem St.drew(h:St w0 H L w):St w0 H L w.drew:=⟨h.os,h.tape,h.output,h.size,h.fits,h.own,h.sep,h.nodup,Nat.le_succ_of_le h.ahead⟩
theorem St.drawn(h:St w0 H L w)(k:Nat)(hk:w.drawn<=k:=by first|exact Nat.le_succ _|exact Nat.le_refl _|omega):St w0 H L {w with drawn:=k}:=⟨h.os,h.tape,h.output,h.size,h.fits,h.own,h.sep,h.nodup,Nat.le_trans h.ahead hk⟩
theorem St.perm{M:Ar}(h:St w0 H L w)(hp:L.Perm M):St w0 H M w:=
 ⟨h.os,h.tape,h.output,h.size,h.fits,fun p hm=>h.own p (hp.mem_iff.2 hm),fun p hm=>h.sep p (hp.mem_iff.2 hm),(hp.map _).nodup_iff.1 h.nodup,h.ahead⟩
theorem St.weaken{K:View}(h:St w0 K L w)(hle:View.le H K):St w0 H L w:=by
 refine⟨h.os,h.tape,h.output,h.size,fun k o x=>h.fits k o (hle k o x),h.own,fun p hm=>?_,h.nodup,h.ahead⟩
 cases hx:H p.1 with
 |none=>rfl
 |some o=>
  have:=h.sep p hm
  rw[hle _ _ hx] at this
  cases this
theorem St.drop{s:Ar}(h:St w0 H (s++L) w):St w0 H L w:=
 ⟨h.os,h.tape,h.output,h.size,h.fits,fun p hm=>h.own p (List.mem_append_right _ hm),fun p hm=>h.sep p (List.mem_append_right _ hm),
  by have:=h.nodup;rw[List.map_append] at this;exact(List.nodup_append.1 this).2.1,h.ahead⟩
theorem St.lt(h:St w0 H L w){k:Nat}{o:Obj}(hk:H k=some o):k<w.heap.size:=(Array.getElem?_eq_some_iff.1 (h.fits k o hk)).1
theorem St.new(h:St w0 H L w):H w.heap.size=none:=by
 cases hx:H w.heap.size with
 |none=>rfl
 |some o=>have:=h.lt hx;omega
theorem St.alloc(h:St w0 H L w)(o:Obj):St w0 H ([(w.heap.size,o)]++L) (w.alloc o):=by
 refine⟨h.os,h.tape,h.output,by simp;exact Nat.le_succ_of_le h.size,fun k x hk=>?_,fun p hm=>?_,fun p hm=>?_,?_,by first|exact Nat.zero_le _|simpa using h.ahead⟩
 ·rw[heap_alloc_old w o (h.lt hk)];exact h.fits k x hk
 ·rcases List.mem_append.1 hm with hm|hm
  ·rw[List.mem_singleton.1 hm];exact heap_alloc_new w o
  ·have:=h.own p hm
   rw[heap_alloc_old w o (Array.getElem?_eq_some_iff.1 this).1];exact this
 ·rcases List.mem_append.1 hm with hm|hm
  ·rw[List.mem_singleton.1 hm];exact h.new
  ·exact h.sep p hm
 ·rw[List.map_append,List.nodup_append]
  refine⟨by simp,h.nodup,fun a ha b hb=>?_⟩
  simp only[List.map_cons,List.map_nil,List.mem_singleton] at ha
  subst ha
  obtain⟨p,hp,rfl⟩:=List.mem_map.1 hb
  have:=(Array.getElem?_eq_some_iff.1 (h.own p hp)).1
  omega
theorem St.write{w':World}{b:Nat}{o o':Obj}(h:St w0 H ([(b,o)]++L) w)(hos:w'.os=w.os)(htape:w'.tape=w.tape)(hout:w'.output=w.output)(hsz:w'.heap.size=w.heap.size)
  (hb:w'.heap[b]? =some o')(ho:∀k,k≠b->w'.heap[k]? =w.heap[k]?)(hdr:w.drawn<=w'.drawn:=by first|exact Nat.le_refl _|simp|omega):St w0 H ([(b,o')]++L) w':=by
 have hnd:=h.nodup
 rw[List.map_append,List.nodup_append] at hnd
 have hbL:∀p∈L,p.1≠b:=fun p hp he=>hnd.2.2 b (by simp) p.1 (List.mem_map_of_mem hp) he.symm
 have hbH:H b=none:=h.sep (b,o) (by simp)
 refine⟨hos.trans h.os,htape.trans h.tape,hout.trans h.output,by rw[hsz];exact h.size,fun k x hk=>?_,fun p hm=>?_,fun p hm=>?_,?_,Nat.le_trans h.ahead hdr⟩
 ·rw[ho k (fun e=>by subst e;rw[hbH] at hk;cases hk)];exact h.fits k x hk
 ·rcases List.mem_append.1 hm with hm|hm
  ·rw[List.mem_singleton.1 hm];exact hb
  ·rw[ho _ (hbL p hm)];exact h.own p (List.mem_append_right _ hm)
 ·rcases List.mem_append.1 hm with hm|hm
  ·rw[List.mem_singleton.1 hm];exact hbH
  ·exact h.sep p (List.mem_append_right _ hm)
 ·rw[List.map_append,List.nodup_append];exact hnd
theorem View.put_none{s:Ar}{k:Nat}(h:∀p∈s,p.1≠k):H.put s k=H k:=by
 unfold View.put
 have:s.find? (fun p=>p.1==k)=none:=by
  rw[List.find?_eq_none];intro p hp;simpa using h p hp
 rw[this]
theorem View.put_mem{s:Ar}(hn:(s.map (·.1)).Nodup){p:Nat×Obj}(hp:p∈s):H.put s p.1=some p.2:=by
 unfold View.put
 induction s with
 |nil=>cases hp
 |cons q s ih=>
  rw[List.map_cons,List.nodup_cons] at hn
  rcases List.mem_cons.1 hp with rfl|hp
  ·simp
  ·have hne:¬(q.1==p.1)=true:=fun e=>hn.1 (by rw[beq_iff_eq] at e;rw[e];exact List.mem_map_of_mem hp)
   rw[List.find?_cons_of_neg (p:=fun p_1:Nat×Obj=>p_1.1==p.1) hne];exact ih hn.2 hp
theorem St.put_le{s:Ar}(h:St w0 H (s++L) w):View.le H (H.put s):=fun k o hk=>by
 rw[View.put_none (fun p hp e=>by have:=h.sep p (List.mem_append_left _ hp);rw[e,hk] at this;cases this)];exact hk
theorem View.put_some{s:Ar}{k:Nat}{o:Obj}(h:H.put s k=some o):(k,o)∈s\/(H k=some o/\∀p∈s,p.1≠k):=by
 unfold View.put at h
 split at h
 ·rename_i p hp
  cases h
  have h1:=List.mem_of_find?_eq_some hp
  have h2:p.1=k:=by simpa using List.find?_some hp
  subst h2;exact .inl h1
 ·rename_i hp
  exact .inr ⟨h,fun p hm e=>by have:=List.find?_eq_none.1 hp p hm;simp[e] at this⟩
theorem St.freeze{s:Ar}(h:St w0 H (s++L) w):St w0 (H.put s) L w:=by
 have hnd:=h.nodup
 rw[List.map_append,List.nodup_append] at hnd
 refine⟨h.os,h.tape,h.output,h.size,fun k o hk=>?_,fun p hm=>h.own p (List.mem_append_right _ hm),fun p hm=>?_,hnd.2.1,h.ahead⟩
 ·rcases View.put_some hk with hk|hk
  ·exact h.own (k,o) (List.mem_append_left _ hk)
  ·exact h.fits k o hk.1
 ·rw[View.put_none (fun q hq e=>hnd.2.2 q.1 (List.mem_map_of_mem hq) p.1 (List.mem_map_of_mem hm) e)];exact h.sep p (List.mem_append_right _ hm)
theorem St.back{w':World}{s M:Ar}(h:St w0 H (s++L) w)(h':St w0 (H.put s) M w'):St w0 H (s++M) w':=by
 have hnd:=h.nodup
 rw[List.map_append,List.nodup_append] at hnd
 refine⟨h'.os,h'.tape,h'.output,h'.size,fun k o hk=>h'.fits k o (h.put_le k o hk),fun p hm=>?_,fun p hm=>?_,?_,h'.ahead⟩
 ·rcases List.mem_append.1 hm with hm|hm
  ·exact h'.fits _ _ (View.put_mem hnd.1 hm)
  ·exact h'.own p hm
 ·rcases List.mem_append.1 hm with hm|hm
  ·exact h.sep p (List.mem_append_left _ hm)
  ·have:=h'.sep p hm
   cases hx:H p.1 with
   |none=>rfl
   |some o=>rw[h.put_le _ _ hx] at this;cases this
 ·rw[List.map_append,List.nodup_append]
  refine⟨hnd.1,h'.nodup,fun a ha b hb e=>?_⟩
  subst e
  obtain⟨p,hp,rfl⟩:=List.mem_map.1 ha
  obtain⟨q,hq,e⟩:=List.mem_map.1 hb
  have:=h'.sep q hq
  rw[e,View.put_mem hnd.1 hp] at this
  cases this
theorem St.f2{a b:Ar}(h:St w0 H (a++(b++L)) w):St w0 H (b++(a++L)) w:=h.perm (by
 rw[<-List.append_assoc,<-List.append_assoc];exact List.Perm.append_right _ List.perm_append_comm)
theorem St.f3{a b c:Ar}(h:St w0 H (a++(b++(c++L))) w):St w0 H (c++(a++(b++L))) w:=
 St.f2 (L:=b++L) (h.perm (List.Perm.append_left a (by rw[<-List.append_assoc,<-List.append_assoc];exact List.Perm.append_right _ List.perm_append_comm)))
theorem St.f4{a b c d:Ar}(h:St w0 H (a++(b++(c++(d++L)))) w):St w0 H (d++(a++(b++(c++L)))) w:=
 St.f3 (L:=c++L) (h.perm (List.Perm.append_left a (List.Perm.append_left b (by rw[<-List.append_assoc,<-List.append_assoc];exact List.Perm.append_right _ List.perm_append_comm))))
theorem St.f5{a b c d e:Ar}(h:St w0 H (a++(b++(c++(d++(e++L))))) w):St w0 H (e++(a++(b++(c++(d++L))))) w:=
 St.f4 (L:=d++L) (h.perm (List.Perm.append_left a (List.Perm.append_left b (List.Perm.append_left c (by rw[<-List.append_assoc,<-List.append_assoc];exact List.Perm.append_right _ List.perm_append_comm)))))
theorem St.f6{a b c d e f:Ar}(h:St w0 H (a++(b++(c++(d++(e++(f++L)))))) w):St w0 H (f++(a++(b++(c++(d++(e++L)))))) w:=
 St.f5 (L:=e++L) (h.perm (List.Perm.append_left a (List.Perm.append_left b (List.Perm.append_left c (List.Perm.append_left d (by rw[<-List.append_assoc,<-List.append_assoc];exact List.Perm.append_right _ List.perm_append_comm))))))
theorem St.nilseg(h:St w0 H L w):St w0 H (([]:Ar)++L) w:=h
theorem St.refl(w:World):St w (fun k=>w.heap[k]?) [] w:=⟨rfl,rfl,rfl,Nat.le_refl _,fun _ _ h=>h,fun _ h=>(by cases h),fun _ h=>(by cases h),List.nodup_nil,Nat.le_refl _⟩
end st
structure Codec(α:Type)where
 size:Nat
 rep:View->List Value->α->Prop
 len:∀{H cs x},rep H cs x->cs.length=size
 mono:∀{H K cs x},View.le H K->rep H cs x->rep K cs x
 one:∀{H cs x},rep H cs x->∀u∈cs,u.oneCell'=true
def Codec.reps{α:Type}(c:Codec α)(H:View):List Value->List α->Prop
 |cs,[]=>cs=[]
 |cs,x::xs=>∃a b,cs=a++b/\c.rep H a x/\c.reps H b xs
section reps
variable{α:Type}{c:Codec α}{H K:View}
theorem Codec.reps_mono(h:View.le H K):∀{xs:List α}{cs:List Value},c.reps H cs xs->c.reps K cs xs
 |[],_,hr=>hr
 |_::_,_,⟨a,b,e,h1,h2⟩=>⟨a,b,e,c.mono h h1,Codec.reps_mono h h2⟩
theorem Codec.reps_length:∀{xs:List α}{cs:List Value},c.reps H cs xs->cs.length=xs.length* c.size
 |[],_,hr=>by cases hr;simp
 |_::xs,_,⟨a,b,e,h1,h2⟩=>by
  rw[e,List.length_append,c.len h1,Codec.reps_length h2,List.length_cons,Nat.add_mul];omega
theorem Codec.reps_one:∀{xs:List α}{cs:List Value},c.reps H cs xs->∀u∈cs,u.oneCell'=true
 |[],_,hr=>by cases hr;simp
 |_::xs,_,⟨a,b,e,h1,h2⟩=>by
  intro u hu;rw[e] at hu
  rcases List.mem_append.1 hu with hu|hu
  ·exact c.one h1 u hu
  ·exact Codec.reps_one h2 u hu
theorem Codec.reps_append:∀{xs ys:List α}{cs ds:List Value},c.reps H cs xs->c.reps H ds ys->c.reps H (cs++ds) (xs++ys)
 |[],_,_,_,hr,hs=>by cases hr;exact hs
 |_::_,_,_,ds,⟨a,b,e,h1,h2⟩,hs=>⟨a,b++ds,by rw[e,List.append_assoc],h1,Codec.reps_append h2 hs⟩
theorem Codec.reps_split:∀{xs ys:List α}{cs:List Value},c.reps H cs (xs++ys)->∃a b,cs=a++b/\c.reps H a xs/\c.reps H b ys
 |[],_,cs,hr=>⟨[],cs,rfl,rfl,hr⟩
 |_::_,_,_,⟨a,b,e,h1,h2⟩=>by
  obtain⟨a',b',e',h1',h2'⟩:=Codec.reps_split h2
  exact⟨a++a',b',by rw[e,e',List.append_assoc],⟨a,a',rfl,h1,h1'⟩,h2'⟩
theorem Codec.reps_single{cs:List Value}{x:α}:c.reps H cs [x]↔c.rep H cs x:=
 ⟨fun⟨a,b,e,h1,h2⟩=>by cases h2;rw[List.append_nil] at e;exact e▸h1,fun h=>⟨cs,[],by simp,h,rfl⟩⟩
theorem Codec.reps_get{xs:List α}{cs:List Value}(h:c.reps H cs xs){i:Nat}{x:α}(hi:xs[i]? =some x):
  ∃a m b,cs=a++(m++b)/\a.length=i* c.size/\c.rep H m x/\c.reps H a (xs.take i)/\c.reps H b (xs.drop (i+1)):=by
 have hlt:i<xs.length:=(List.getElem?_eq_some_iff.1 hi).1
 have e:xs=xs.take i++([x]++xs.drop (i+1)):=by
  have hx:xs[i]=x:=(List.getElem?_eq_some_iff.1 hi).2
  rw[List.singleton_append,<-hx,<-List.drop_eq_getElem_cons hlt,List.take_append_drop]
 rw[e] at h
 obtain⟨a,r,h1,h2,h3⟩:=Codec.reps_split h
 obtain⟨m,b,h4,h5,h6⟩:=Codec.reps_split h3
 exact⟨a,m,b,by rw[h1,h4],by rw[Codec.reps_length h2,List.length_take,Nat.min_eq_left (Nat.le_of_lt hlt)],Codec.reps_single.1 h5,h2,h6⟩
end reps
def ix{α:Type}[Inhabited α](xs:List α)(i:Int):α:=xs.getD i.toNat default
theorem CJ{α:Type}[Inhabited α]{xs:List α}{i:Int}(h0:0<=i)(h1:i<xs.length):xs[i.toNat]? =some (ix xs i):=by
 have:i.toNat<xs.length:=by omega
 simp[ix,this]
def IsSl{α:Type}(H:View)(c:Codec α)(v:Value)(xs:List α):Prop:=
 ∃ad cap,v=.slice ad xs.length cap/\xs.length<=cap/\cap<=maxLen/\(ad=none->cap=0)/\
  (xs=[]\/∃b off arr T fz pre cs rest,ad=some ⟨b,off,none⟩/\H b=some (.cells arr T fz)/\arr.toList=pre++(cs++rest)/\pre.length=off/\c.reps H cs xs)
def OwnSl{α:Type}(H:View)(c:Codec α)(T:TypeId)(v:Value)(xs:List α)(fp:Ar):Prop:=
 (v=.slice none 0 0/\xs=[]/\fp=[])\/
 ∃b cap arr cs rest,v=.slice (some ⟨b,0,none⟩) xs.length cap/\fp=[(b,.cells arr T (0,0))]/\arr.toList=cs++rest/\arr.size=cap* c.size/\xs.length<=cap/\cap<=maxLen/\c.reps H cs xs
def IsPt{α:Type}(H:View)(c:Codec α)(v:Value)(x:α):Prop:=
 ∃b off arr T fz pre cs rest,v=.pointer (some ⟨b,off,none⟩)/\H b=some (.cells arr T fz)/\arr.toList=pre++(cs++rest)/\pre.length=off/\c.rep H cs x
def HI{α:Type}(c:Codec α)(v:Value)(i:Nat)(p:Value):Prop:=
 ∃b n cap,v=.slice (some ⟨b,0,none⟩) n cap/\p=.pointer (some ⟨b,i* c.size,none⟩)
section sl
variable{α:Type}{c:Codec α}{H K:View}
theorem IsSl.mono{v:Value}{xs:List α}(h:IsSl H c v xs)(hle:View.le H K):IsSl K c v xs:=by
 obtain⟨ad,cap,h1,h2,h3,h4,h5⟩:=h
 refine⟨ad,cap,h1,h2,h3,h4,h5.imp id ?_⟩
 rintro⟨b,off,arr,T,fz,pre,cs,rest,e1,e2,e3,e4,e5⟩
 exact⟨b,off,arr,T,fz,pre,cs,rest,e1,hle _ _ e2,e3,e4,Codec.reps_mono hle e5⟩
theorem OwnSl.mono{T:TypeId}{v:Value}{xs:List α}{fp:Ar}(h:OwnSl H c T v xs fp)(hle:View.le H K):OwnSl K c T v xs fp:=by
 rcases h with h|⟨b,cap,arr,cs,rest,e1,e2,e3,e4,e5,e6,e7⟩
 ·exact .inl h
 ·exact .inr ⟨b,cap,arr,cs,rest,e1,e2,e3,e4,e5,e6,Codec.reps_mono hle e7⟩
theorem IsPt.mono{v:Value}{x:α}(h:IsPt H c v x)(hle:View.le H K):IsPt K c v x:=by
 obtain⟨b,off,arr,T,fz,pre,cs,rest,e1,e2,e3,e4,e5⟩:=h
 exact⟨b,off,arr,T,fz,pre,cs,rest,e1,hle _ _ e2,e3,e4,c.mono hle e5⟩
theorem IsSl.nil:IsSl H c (.slice none 0 0) []:=⟨none,0,rfl,Nat.le_refl _,by unfold maxLen;omega,fun _=>rfl,.inl rfl⟩
theorem OwnSl.nil{T:TypeId}:OwnSl H c T (.slice none 0 0) [] []:=.inl ⟨rfl,rfl,rfl⟩
theorem OwnSl.share{T:TypeId}{v:Value}{xs:List α}{fp:Ar}(h:OwnSl H c T v xs fp)(hle:View.le H (H.put fp)):IsSl (H.put fp) c v xs:=by
 rcases h with⟨rfl,rfl,rfl⟩|⟨b,cap,arr,cs,rest,rfl,rfl,e3,e4,e5,e6,e7⟩
 ·exact IsSl.nil
 ·refine⟨_,cap,rfl,e5,e6,fun h=>(by cases h),.inr ⟨b,0,arr,T,(0,0),[],cs,rest,rfl,?_,by simpa using e3,rfl,Codec.reps_mono hle e7⟩⟩
  exact View.put_mem (by simp) (p:=(b,.cells arr T (0,0))) (by simp)
end sl
end Go.Vc
namespace Go.Vc
open Go
def Exv(P:Program)(n:Nat)(l:List (Nat×Value))(C:World->Prop)(o:Oper)(v:Value):Prop:=
 ∀w,C w->∀a,Fr n l a->(execOp a.eval o).run P w=.ok (.value v) w
section ex
variable{P:Program}{n:Nat}{l:List (Nat×Value)}{C:World->Prop}{dst:Option Tmp}{ty:TypeId}{pos:String}{af:Array Edge}{gd:Option (Nat×Bool)}
theorem Qw{x:Operand}{v:Value}(hx:AF l x=some v):Exv P n l C ⟨dst,.move x,ty,pos,af,gd⟩ v:=fun w _ a ha=>by
 simp only[execOp,ha.eval hx];rfl
theorem Ba{x:Operand}{v:Value}(hx:AF l x=some v):Exv P n l C ⟨dst,.assign x,ty,pos,af,gd⟩ v:=fun w _ a ha=>by
 simp only[execOp,ha.eval hx];rfl
theorem Dp{c x y:Operand}{b:Bool}{v:Value}(hc:AF l c=some (.bool b))(hb:b=true)(hx:AF l x=some v):Exv P n l C ⟨dst,.pick c x y,ty,pos,af,gd⟩ v:=fun w _ a ha=>by
 subst hb
 simp only[execOp,ha.eval hc,ha.eval hx,asBool];rfl
theorem FA{c x y:Operand}{b:Bool}{v:Value}(hc:AF l c=some (.bool b))(hb:b=false)(hy:AF l y=some v):Exv P n l C ⟨dst,.pick c x y,ty,pos,af,gd⟩ v:=fun w _ a ha=>by
 subst hb
 simp only[execOp,ha.eval hc,ha.eval hy,asBool];rfl
theorem AbZ{op:BinOp}{t:TypeId}{x y:Operand}{k:IntKind}{p q:Int}{w:World}{r:Value}(h:(binOp op t (.int k p) (.int k q)).run P w=.ok r w):
  (do eqGuard op t x y (.int k p) (.int k q);binOp op t (.int k p) (.int k q)).run P w=.ok r w:=by
 have:(eqGuard op t x y (.int k p) (.int k q)).run P w=.ok () w:=by
  unfold eqGuard
  cases op<;>rfl
 rw[Sem.run_bind,this]
 exact h
theorem Dh{op:BinOp}{t t':TypeId}{x y:Operand}{k:IntKind}{p q:Int}{r:Value}(hx:AF l x=some (.int k p))(hy:AF l y=some (.int k q))
  (h:∀w,(binOp op t (.int k p) (.int k q)).run P w=.ok r w):Exv P n l C ⟨dst,.binOp op t x y t',ty,pos,af,gd⟩ r:=fun w _ a ha=>by
 simp only[execOp,ha.eval hx,ha.eval hy]
 rw[Sem.run_bind,AbZ (h w)]
 rfl
theorem JE{t t':TypeId}{x y:Operand}{k:IntKind}{p q:Int}(hx:AF l x=some (.int k p))(hy:AF l y=some (.int k q)):
  Exv P n l C ⟨dst,.binOp .lss t x y t',ty,pos,af,gd⟩ (.bool (decide (p<q))):=Dh hx hy fun w=>by simp[binOp,Op.intCmp]
theorem Adf{t t':TypeId}{x y:Operand}{k:IntKind}{p q:Int}(hx:AF l x=some (.int k p))(hy:AF l y=some (.int k q)):
  Exv P n l C ⟨dst,.binOp .leq t x y t',ty,pos,af,gd⟩ (.bool (decide (p<=q))):=Dh hx hy fun w=>by simp[binOp,Op.intCmp]
theorem UC{t t':TypeId}{x y:Operand}{k:IntKind}{p q:Int}(hx:AF l x=some (.int k p))(hy:AF l y=some (.int k q)):
  Exv P n l C ⟨dst,.binOp .gtr t x y t',ty,pos,af,gd⟩ (.bool (decide (q<p))):=Dh hx hy fun w=>by simp[binOp,Op.intCmp]
theorem AcV{t t':TypeId}{x y:Operand}{k:IntKind}{p q:Int}(hx:AF l x=some (.int k p))(hy:AF l y=some (.int k q)):
  Exv P n l C ⟨dst,.binOp .geq t x y t',ty,pos,af,gd⟩ (.bool (decide (q<=p))):=Dh hx hy fun w=>by simp[binOp,Op.intCmp]
theorem XX{t t':TypeId}{x y:Operand}{k:IntKind}{p q:Int}(hx:AF l x=some (.int k p))(hy:AF l y=some (.int k q)):
  Exv P n l C ⟨dst,.binOp .eql t x y t',ty,pos,af,gd⟩ (.bool (decide (p=q))):=Dh hx hy fun w=>by
 simp only[binOp,Op.intCmp];by_cases h:p=q<;>simp[h]
theorem AcP{t t':TypeId}{x y:Operand}{k:IntKind}{p q:Int}(hx:AF l x=some (.int k p))(hy:AF l y=some (.int k q)):
  Exv P n l C ⟨dst,.binOp .neq t x y t',ty,pos,af,gd⟩ (.bool (decide (p≠q))):=Dh hx hy fun w=>by
 simp only[binOp,Op.intCmp];by_cases h:p=q<;>simp[h]
def I64(x:Int):Prop:=-9223372036854775808<=x/\x<=9223372036854775807
theorem I64.wrap{x:Int}(h:I64 x):IntKind.i64.wrap x=x:=IntWalk.i64_in _ h
theorem Eg{t t':TypeId}{x y:Operand}{p q:Int}(hx:AF l x=some (.int .i64 p))(hy:AF l y=some (.int .i64 q))(h:I64 (p+q)):
  Exv P n l C ⟨dst,.binOp .add t x y t',ty,pos,af,gd⟩ (.int .i64 (p+q)):=Dh hx hy fun w=>by simp[binOp,Op.intArith,h.wrap]
theorem Hp{t t':TypeId}{x y:Operand}{p q:Int}(hx:AF l x=some (.int .i64 p))(hy:AF l y=some (.int .i64 q))(h:I64 (p-q)):
  Exv P n l C ⟨dst,.binOp .sub t x y t',ty,pos,af,gd⟩ (.int .i64 (p-q)):=Dh hx hy fun w=>by simp[binOp,Op.intArith,h.wrap]
theorem Adj{t t':TypeId}{x y:Operand}{p q:Int}(hx:AF l x=some (.int .i64 p))(hy:AF l y=some (.int .i64 q))(h:I64 (p* q)):
  Exv P n l C ⟨dst,.binOp .mul t x y t',ty,pos,af,gd⟩ (.int .i64 (p* q)):=Dh hx hy fun w=>by simp[binOp,Op.intArith,h.wrap]
theorem NZ{t:TypeId}{x:Operand}{b:Bool}(hx:AF l x=some (.bool b)):Exv P n l C ⟨dst,.unOp .not t x,ty,pos,af,gd⟩ (.bool (!b)):=fun w _ a ha=>by
 simp only[execOp,ha.eval hx];rfl
theorem AcM{t:TypeId}{x:Operand}{p:Int}(hx:AF l x=some (.int .i64 p))(h:I64 (-p)):Exv P n l C ⟨dst,.unOp .neg t x,ty,pos,af,gd⟩ (.int .i64 (-p)):=fun w _ a ha=>by
 simp[execOp,ha.eval hx,Op.unary,Op.intArith,h.wrap]
def Hx(x:Int):Int:=if x=-9223372036854775808 then x else-x
theorem GA(x:Int):I64 x->I64 (Hx x):=fun h=>by unfold Hx;unfold I64 at*;split<;>omega
theorem Kj{t:TypeId}{x:Operand}{p:Int}(hx:AF l x=some (.int .i64 p))(h:I64 p):Exv P n l C ⟨dst,.unOp .neg t x,ty,pos,af,gd⟩ (.int .i64 (Hx p)):=fun w _ a ha=>by
 have:IntKind.i64.wrap (-p)=Hx p:=by
  unfold Hx;split
  ·rename_i e;subst e;decide
  ·exact I64.wrap (by unfold I64 at*;omega)
 simp[execOp,ha.eval hx,Op.unary,Op.intArith,this]
theorem JJ{t t':TypeId}{x y:Operand}{u v:Value}{r:Bool}(hx:AF l x=some u)(hy:AF l y=some v)(hg:∀w,(eqGuard .eql t x y u v).run P w=.ok () w)
  (h:∀w,(binOp .eql t u v).run P w=.ok (.bool r) w):Exv P n l C ⟨dst,.binOp .eql t x y t',ty,pos,af,gd⟩ (.bool r):=fun w _ a ha=>by
 simp only[execOp,ha.eval hx,ha.eval hy,Sem.run_bind,hg,Result.andThen_ok,h];rfl
theorem Qs{t t':TypeId}{x y:Operand}{u v:Value}{r:Bool}(hx:AF l x=some u)(hy:AF l y=some v)(hg:∀w,(eqGuard .neq t x y u v).run P w=.ok () w)
  (h:∀w,(binOp .neq t u v).run P w=.ok (.bool r) w):Exv P n l C ⟨dst,.binOp .neq t x y t',ty,pos,af,gd⟩ (.bool r):=fun w _ a ha=>by
 simp only[execOp,ha.eval hx,ha.eval hy,Sem.run_bind,hg,Result.andThen_ok,h];rfl
theorem Vv{t t':TypeId}{x y:Operand}{p q:Bool}(ht:P.underlying t=some .bool)(hx:AF l x=some (.bool p))(hy:AF l y=some (.bool q)):
  Exv P n l C ⟨dst,.binOp .eql t x y t',ty,pos,af,gd⟩ (.bool (p==q)):=JJ hx hy (fun _=>rfl) fun w=>by simp[binOp,run_equal_bool w t p q ht]
theorem DR{x:Operand}{vs:Array Value}{i:Nat}{v:Value}(hx:AF l x=some (.tuple vs))(hi:vs[i]? =some v):Exv P n l C ⟨dst,.extract x i,ty,pos,af,gd⟩ v:=fun w _ a ha=>by
 simp only[execOp,ha.eval hx,Instr.extract,hi];rfl
theorem Np{t:TypeId}{x:Operand}{ad:Option Addr}{k cap:Nat}{e:TypeId}(ht:P.underlying t=some (.slice e))(hx:AF l x=some (.slice ad k cap)):
  Exv P n l C ⟨dst,.call {callee:=.builtin .len,args:=#[x],argTypes:=#[t]},ty,pos,af,gd⟩ (.int .i64 k):=fun w _ a ha=>by
 simp[execOp,resolve,invoke,builtin,Builtin.len_,ha.eval hx,run_underlying ht,goInt]
theorem Ao{α:Type}{c:Codec α}{H:View}{t:TypeId}{x:Operand}{v:Value}{xs:List α}{e:TypeId}(ht:P.underlying t=some (.slice e))(hx:AF l x=some v)(hs:IsSl H c v xs):
  Exv P n l C ⟨dst,.call {callee:=.builtin .len,args:=#[x],argTypes:=#[t]},ty,pos,af,gd⟩ (.int .i64 xs.length):=by
 obtain⟨ad,cap,rfl,_⟩:=hs
 exact Np ht hx
theorem AP{α:Type}{c:Codec α}{H:View}{T:TypeId}{fp:Ar}{t:TypeId}{x:Operand}{v:Value}{xs:List α}{e:TypeId}(ht:P.underlying t=some (.slice e))(hx:AF l x=some v)(hs:OwnSl H c T v xs fp):
  Exv P n l C ⟨dst,.call {callee:=.builtin .len,args:=#[x],argTypes:=#[t]},ty,pos,af,gd⟩ (.int .i64 xs.length):=by
 rcases hs with⟨rfl,rfl,_⟩|⟨b,cap,arr,cs,rest,rfl,_⟩
 ·exact Np ht hx
 ·exact Np ht hx
theorem IsSl.bound{α:Type}{c:Codec α}{H:View}{v:Value}{xs:List α}(hs:IsSl H c v xs):(xs.length:Int)<=9223372036854775807:=by
 obtain⟨ad,cap,rfl,h1,h2,_⟩:=hs
 unfold maxLen at h2;omega
theorem OwnSl.bound{α:Type}{c:Codec α}{H:View}{T:TypeId}{fp:Ar}{v:Value}{xs:List α}(hs:OwnSl H c T v xs fp):(xs.length:Int)<=9223372036854775807:=by
 rcases hs with⟨rfl,rfl,_⟩|⟨b,cap,arr,cs,rest,rfl,_,_,_,h1,h2,_⟩
 ·simp
 ·unfold maxLen at h2;omega
theorem Au{α:Type}[Inhabited α]{c:Codec α}{H:View}{t e:TypeId}{x y:Operand}{v:Value}{xs:List α}{k:IntKind}{i:Int}
  (ht:P.underlying t=some (.slice e))(hsz:∀w,(sizeOf e).run P w=.ok c.size w)(hx:AF l x=some v)(hy:AF l y=some (.int k i))(hs:IsSl H c v xs)(h:0<=i/\i<xs.length):
  ∃p,IsPt H c p (ix xs i)/\Exv P n l C ⟨dst,.indexAddr t x y,ty,pos,af,gd⟩ p:=by
 obtain⟨ad,cap,rfl,h1,h2,h3,h4⟩:=hs
 rcases h4 with rfl|⟨b,off,arr,T,fz,pre,cs,rest,rfl,e2,e3,e4,e5⟩
 ·simp at h;omega
 ·obtain⟨a',m,b',f1,f2,f3,_⟩:=Codec.reps_get e5 (CJ h.1 h.2)
  refine⟨.pointer (some ⟨b,off+i.toNat* c.size,none⟩),⟨b,_,arr,T,fz,pre++a',m,b'++rest,rfl,e2,by rw[e3,f1];simp,by simp[e4,f2],f3⟩,fun w _ a ha=>?_⟩
  simp[execOp,Instr.indexAt,ha.eval hx,ha.eval hy,asIntOf,run_underlying ht,h,hsz,Addr.add_lit]
theorem Ai{α:Type}{c:Codec α}{H:View}{T:TypeId}{fp:Ar}{t e:TypeId}{x y:Operand}{v:Value}{xs:List α}{k:IntKind}{i:Int}
  (ht:P.underlying t=some (.slice e))(hsz:∀w,(sizeOf e).run P w=.ok c.size w)(hx:AF l x=some v)(hy:AF l y=some (.int k i))(hs:OwnSl H c T v xs fp)(h:0<=i/\i<xs.length):
  ∃p,HI c v i.toNat p/\Exv P n l C ⟨dst,.indexAddr t x y,ty,pos,af,gd⟩ p:=by
 rcases hs with⟨rfl,rfl,_⟩|⟨b,cap,arr,cs,rest,rfl,_⟩
 ·simp at h;omega
 ·refine⟨.pointer (some ⟨b,i.toNat* c.size,none⟩),⟨b,_,_,rfl,rfl⟩,fun w _ a ha=>?_⟩
  simp[execOp,Instr.indexAt,ha.eval hx,ha.eval hy,asIntOf,run_underlying ht,h,hsz,Addr.add_lit]
theorem CU{t:TypeId}{ad:Addr}{u:Value}{w:World}(hag:∀w,(isAgg t).run P w=.ok false w)(hc:w.cell? ad=some u):(loadVar t ad).run P w=.ok u w:=by
 simp[loadVar,hag,hc]
theorem Bp{α:Type}{c:Codec α}{w0:World}{H:View}{L:Ar}{t:TypeId}{x:Operand}{p:Value}{z:α}(hag:∀w,(isAgg t).run P w=.ok false w)(h1:c.size=1)
  (hx:AF l x=some p)(hp:IsPt H c p z):∃u,c.rep H [u] z/\Exv P n l (St w0 H L) ⟨dst,.load t x,ty,pos,af,gd⟩ u:=by
 obtain⟨b,off,arr,T,fz,pre,cs,rest,rfl,e2,e3,e4,e5⟩:=hp
 have hl:=c.len e5
 rw[h1] at hl
 match cs,hl with
 |[u],_=>
  refine⟨u,e5,fun w hw a ha=>?_⟩
  have hb:=hw.fits _ _ e2
  have hc:w.cell? ⟨b,off,none⟩=some u:=by
   simp only[World.cell?,hb]
   simp only[Option.isSome_none,Bool.false_eq_true,if_false]
   rw[<-Array.getElem?_toList,e3,List.getElem?_append_right (by omega),e4];simp
  simp[execOp,Instr.loadAt,Instr.sureAddr,ha.eval hx,CU hag hc]
end ex
section go
variable{P:Program}{ops:Array Oper}{Q:Exit->Act->World->Prop}{n:Nat}{l:List (Nat×Value)}{rest:List Oper}{o:Oper}{w:World}
theorem WL.run{C:World->Prop}{d:Nat}{v:Value}(hw:C w)(hg:o.guard=none)(hd:o.dst=some d)(hdn:Nat.blt d n=true)(he:Exv P n l C o v)
  (k:WL P ops Q n ((d,v)::l) rest w):WL P ops Q n l (o::rest) w:=fun a ha=>wpList_plain hg fun K hK=>by
 unfold Oper.wp
 rw[he w hw a ha,Oper.upon_value,hd]
 exact hK _ _ (k _ (ha.put hdn v))
theorem WL.runx{C:World->Prop}{D:Value->Prop}{d:Nat}(hw:C w)(hg:o.guard=none)(hd:o.dst=some d)(hdn:Nat.blt d n=true)(he:∃v,D v/\Exv P n l C o v)
  (k:∀v,D v->WL P ops Q n ((d,v)::l) rest w):WL P ops Q n l (o::rest) w:=
 let⟨v,hv,hx⟩:=he;WL.run hw hg hd hdn hx (k v hv)
theorem Ff{a:Act}{j d:Nat}{b:Bool}(ha:Fr n l a)(hj:(ops[j]?).bind (·.dst)=some d)(hv:lk l d=some (.bool b)):yielded ops a.tmps j=some b:=by
 unfold yielded
 rw[hj,Option.bind_some,ha.val _ _ hv]
theorem WL.skip_g{d j dj:Nat}{b want:Bool}(hg:o.guard=some (j,want))(hj:(ops[j]?).bind (·.dst)=some dj)(hv:lk l dj=some (.bool b))(hb:b= !want)
  (hd:o.dst=some d)(hdn:Nat.blt d n=true)(k:WL P ops Q n ((d,undef)::l) rest w):WL P ops Q n l (o::rest) w:=fun a ha=>wpList_step fun K hK=>by
 subst hb
 rw[if_neg (by simp[Region.wanted,hg,Ff ha hj hv]),hd]
 exact hK _ _ (k _ (ha.put hdn undef))
theorem WL.unguard{dst:Option Tmp}{op:Op}{ty:TypeId}{pos:String}{af:Array Edge}{j dj:Nat}{b want:Bool}(hj:(ops[j]?).bind (·.dst)=some dj)(hv:lk l dj=some (.bool b))(hb:b=want)
  (k:WL P ops Q n l (⟨dst,op,ty,pos,af,none⟩::rest) w):WL P ops Q n l (⟨dst,op,ty,pos,af,some (j,want)⟩::rest) w:=fun a ha=>by
 have h:=k a ha
 subst hb
 unfold wpList at h ⊢
 rw[if_pos (by simp[Region.wanted])] at h
 rw[if_pos (by simp only[Region.wanted,Ff ha hj hv,beq_self_eq_true])]
 exact h
def At(n:Nat)(m:List (Nat×Value))(w:World):Exit->Act->World->Prop:=fun e a w'=>e=.normal/\w'=w/\Fr n m a
theorem WC.via{c:Code}{m:List (Nat×Value)}(h:WC P (At n m w) n l c w)(k:WQ Q .normal n m w):WC P Q n l c w:=
 fun a ha=>wp_mono (h a ha) fun e a' w' hq=>by obtain⟨rfl,rfl,hf⟩:=hq;exact k a' hf
theorem At.of{m:List (Nat×Value)}(hs:sub l m):WQ (At n m w) .normal n l w:=fun a ha=>⟨rfl,rfl,ha.of_sub hs⟩
theorem WL.turn{d:Nat}{v:Value}{w':World}(hg:o.guard=none)(hd:o.dst=some d)(hdn:Nat.blt d n=true)(he:∀a,Fr n l a->(execOp a.eval o).run P w=.ok (.value v) w')
  (k:WL P ops Q n ((d,v)::l) rest w'):WL P ops Q n l (o::rest) w:=fun a ha=>wpList_plain hg fun K hK=>by
 unfold Oper.wp
 rw[he a ha,Oper.upon_value,hd]
 exact hK _ _ (k _ (ha.put hdn v))
theorem WL.turn0{w':World}(hg:o.guard=none)(hd:o.dst=none)(he:∀a,Fr n l a->(execOp a.eval o).run P w=.ok .skip w')
  (k:WL P ops Q n l rest w'):WL P ops Q n l (o::rest) w:=fun a ha=>wpList_plain hg fun K hK=>by
 unfold Oper.wp
 rw[he a ha,Oper.upon_skip,hd]
 exact hK _ _ (k _ ha)
theorem WL.call{d f:Nat}{args:Array Value}{R:Ending->World->Prop}(hg:o.guard=none)(hd:o.dst=some d)(hdn:Nat.blt d n=true)
  (he:∀a,Fr n l a->(execOp a.eval o).run P w=.ok (.enter f args) w)(hc:Calls P f args w R)
  (k:∀e w',R e w'->∃v,e=.returned v/\WL P ops Q n ((d,v)::l) rest w'):WL P ops Q n l (o::rest) w:=fun a ha=>wpList_plain hg fun K hK=>by
 unfold Oper.wp
 rw[he a ha,Oper.upon_enter]
 refine hc.mono fun e w' hr=>?_
 obtain⟨v,rfl,hv⟩:=k e w' hr
 rw[hd]
 exact hK _ _ (hv _ (ha.put hdn v))
def Ii(l:List (Nat×Value)):List Operand->List Value->Prop
 |[],[]=>True
 |x::xs,v::vs=>AF l x=some v/\Ii l xs vs
 |_,_=>False
theorem Fr.evals{a:Act}(ha:Fr n l a):∀{xs:List Operand}{vs:List Value},Ii l xs vs->xs.map a.eval=vs
 |[],[],_=>rfl
 |_::_,_::_,h=>by rw[List.map_cons,ha.eval h.1,ha.evals h.2]
 |[],_::_,h=>h.elim
 |_::_,[],h=>h.elim
theorem Yt{dst:Option Tmp}{ty:TypeId}{pos:String}{af:Array Edge}{gd:Option (Nat×Bool)}{xs:List Operand}{vs:List Value}{ts:Array TypeId}{fo:Operand}{f:FuncId}{cap:Array Value}
  (hf:AF l fo=some (.func (.func f) #[] cap))(hb:∀(args:Array Value)(w:World),(callFunc f args).run P w=.ok (.enter f args) w)(hv:Ii l xs vs):
  ∀a,Fr n l a->(execOp a.eval ⟨dst,.call {callee:=.value fo,args:=xs.toArray,argTypes:=ts},ty,pos,af,gd⟩).run P w=.ok (.enter f (vs.toArray++cap)) w:=fun a ha=>by
 have:=ha.evals hv
 simp[execOp,resolve,Deferred.ofValue,ha.eval hf,invoke,this,hb]
end go
def Wq(P:Program)(ops:Array Oper)(C:World->Prop)(K:Act->Prop)(n:Nat)(l:List (Nat×Value))(rest:List Oper):Prop:=∀a,Fr n l a->wpQuiet P ops C K rest a
section quiet
variable{P:Program}{ops:Array Oper}{C:World->Prop}{K:Act->Prop}{Q:Exit->Act->World->Prop}{n:Nat}{l:List (Nat×Value)}{rest:List Oper}{o:Oper}{w:World}
theorem WC.quiet{k:Nat}{ol:List Oper}(hm:P.follows .mixedOrders=true)(hB:Region.lexB .any ol.toArray=true)(hC:C {w with drawn:=w.drawn+1})
  (h:Wq P ol.toArray C (fun a'=>∀w',C w'->Q .normal a' w') n l ol):WC P Q n l (.region k ol.toArray true) w:=
 fun a ha=>wp_region_quiet hm hB hC (by simpa using h a ha)
theorem Wq.run{d:Nat}{v:Value}(hg:o.guard=none)(hd:o.dst=some d)(hdn:Nat.blt d n=true)(he:Exv P n l C o v)(k:Wq P ops C K n ((d,v)::l) rest):Wq P ops C K n l (o::rest):=
 fun a ha=>wpQuiet_step fun K' hK=>by
  simp only[Region.wanted,hg,if_true]
  refine⟨v,fun w hw=>?_,?_⟩
  ·unfold Oper.quietAt;rw[he w hw a ha];exact⟨rfl,rfl⟩
  ·rw[hd];exact hK _ (k _ (ha.put hdn v))
theorem Wq.skip_g{d j dj:Nat}{b want:Bool}(hg:o.guard=some (j,want))(hj:(ops[j]?).bind (·.dst)=some dj)(hv:lk l dj=some (.bool b))(hb:b= !want)
  (hd:o.dst=some d)(hdn:Nat.blt d n=true)(k:Wq P ops C K n ((d,undef)::l) rest):Wq P ops C K n l (o::rest):=fun a ha=>wpQuiet_step fun K' hK=>by
 subst hb
 rw[if_neg (by simp[Region.wanted,hg,Ff ha hj hv]),hd]
 exact hK _ (k _ (ha.put hdn undef))
theorem Wq.runx{D:Value->Prop}{d:Nat}(hg:o.guard=none)(hd:o.dst=some d)(hdn:Nat.blt d n=true)(he:∃v,D v/\Exv P n l C o v)(k:∀v,D v->Wq P ops C K n ((d,v)::l) rest):Wq P ops C K n l (o::rest):=
 let⟨v,hv,hx⟩:=he;Wq.run hg hd hdn hx (k v hv)
theorem Wq.call{d f:Nat}{args:Array Value}{v:Value}(hg:o.guard=none)(hd:o.dst=some d)(hdn:Nat.blt d n=true)
  (he:∀w a,Fr n l a->(execOp a.eval o).run P w=.ok (.enter f args) w)(hc:∀w,C w->Calls P f args w fun e w'=>e=.returned v/\C w')
  (k:Wq P ops C K n ((d,v)::l) rest):Wq P ops C K n l (o::rest):=fun a ha=>wpQuiet_step fun K' hK=>by
 simp only[Region.wanted,hg,if_true]
 refine⟨v,fun w hw=>?_,?_⟩
 ·unfold Oper.quietAt;rw[he w a ha];exact⟨rfl,hc w hw⟩
 ·rw[hd];exact hK _ (k _ (ha.put hdn v))
theorem Wq.unguard{dst:Option Tmp}{op:Op}{ty:TypeId}{pos:String}{af:Array Edge}{j dj:Nat}{b want:Bool}(hj:(ops[j]?).bind (·.dst)=some dj)(hv:lk l dj=some (.bool b))(hb:b=want)
  (k:Wq P ops C K n l (⟨dst,op,ty,pos,af,none⟩::rest)):Wq P ops C K n l (⟨dst,op,ty,pos,af,some (j,want)⟩::rest):=fun a ha=>by
 have h:=k a ha
 subst hb
 unfold wpQuiet at h ⊢
 rw[if_pos (by simp[Region.wanted])] at h
 rw[if_pos (by simp only[Region.wanted,Ff ha hj hv,beq_self_eq_true])]
 exact h
theorem Wq.nil(h:∀w',C w'->WQ Q .normal n l w'):Wq P ops C (fun a'=>∀w',C w'->Q .normal a' w') n l []:=fun a ha=>wpQuiet_nil fun w' hw=>h w' hw a ha
end quiet
end Go.Vc
namespace Go.Vc
open Go
def CV(k:IntKind):Codec Int where
 size:=1
 rep:=fun _ cs x=>cs=[.int k x]/\k.has x
 len:=fun h=>by rw[h.1];rfl
 mono:=fun _ h=>h
 one:=fun h u hu=>by rw[h.1] at hu;rw[List.mem_singleton.1 hu];rfl
def cBool:Codec Bool where
 size:=1
 rep:=fun _ cs x=>cs=[.bool x]
 len:=fun h=>by rw[h];rfl
 mono:=fun _ h=>h
 one:=fun h u hu=>by rw[h] at hu;rw[List.mem_singleton.1 hu];rfl
def JR{α:Type}(c:Codec α):Codec (List α) where
 size:=1
 rep:=fun H cs x=>∃v,cs=[v]/\IsSl H c v x
 len:=fun⟨v,h,_⟩=>by rw[h];rfl
 mono:=fun hle⟨v,h,h'⟩=>⟨v,h,h'.mono hle⟩
 one:=fun⟨v,h,h'⟩u hu=>by rw[h] at hu;rw[List.mem_singleton.1 hu];obtain⟨_,_,rfl,_⟩:=h';rfl
theorem Bh{H:View}{k:IntKind}{u:Value}{x:Int}(h:(CV k).rep H [u] x):u=.int k x/\k.has x:=⟨by have:=h.1;cases this;rfl,h.2⟩
theorem XW{H:View}{u:Value}{x:Bool}(h:cBool.rep H [u] x):u=.bool x:=by cases h;rfl
theorem Bq{α:Type}{c:Codec α}{H:View}{u:Value}{x:List α}(h:(JR c).rep H [u] x):IsSl H c u x:=by obtain⟨v,h,h'⟩:=h;cases h;exact h'
theorem Du{H:View}{k:IntKind}{x:Int}(h:k.has x):(CV k).rep H [.int k x] x:=⟨rfl,h⟩
theorem Aat{H:View}{x:Bool}:cBool.rep H [.bool x] x:=rfl
theorem HE{α:Type}{c:Codec α}{H:View}{u:Value}{x:List α}(h:IsSl H c u x):(JR c).rep H [u] x:=⟨u,rfl,h⟩
theorem I64.has{x:Int}(h:I64 x):IntKind.i64.has x:=by
 unfold I64 at h;simp only[IntKind.has,IntKind.min,IntKind.max,IntKind.bits,IntKind.signed];simp;omega
theorem Bx{x:Int}(h:IntKind.i64.has x):I64 x:=by
 unfold I64;simp only[IntKind.has,IntKind.min,IntKind.max,IntKind.bits,IntKind.signed] at h;simp at h;omega
def ZK{α:Type}(c:Codec α)(H:View)(P:Program)(w:World)(x:Value)(ys:List α):Prop:=
 (ys=[]/\∃ad cap,x=.slice ad 0 cap)\/
 ∃a m cap cs,x=.slice (some a) ys.length cap/\m=ys.length/\0<ys.length/\c.reps H cs ys/\∀j v,cs[j]? =some v->w.cell? (a.add j)=some v
section
variable{α:Type}{c:Codec α}{P:Program}{w0 w:World}{H:View}{L fp:Ar}
theorem IsSl.src{v:Value}{xs:List α}(hs:IsSl H c v xs)(hw:St w0 H L w):ZK c H P w v xs:=by
 obtain⟨ad,cap,rfl,h1,h2,h3,h4⟩:=hs
 rcases h4 with rfl|⟨b,off,arr,T,fz,pre,cs,rest,rfl,e2,e3,e4,e5⟩
 ·exact .inl ⟨rfl,ad,cap,rfl⟩
 ·by_cases h0:xs=[]
  ·subst h0;exact .inl ⟨rfl,_,_,rfl⟩
  ·refine .inr ⟨_,_,_,cs,rfl,rfl,List.length_pos_iff.2 h0,e5,fun j v hj=>?_⟩
   have hb:=hw.fits _ _ e2
   rw[Addr.add_lit]
   simp only[World.cell?,hb]
   simp only[Option.isSome_none,Bool.false_eq_true,if_false]
   have hj':=(List.getElem?_eq_some_iff.1 hj).1
   rw[<-Array.getElem?_toList,e3,List.getElem?_append_right (by omega),e4,List.getElem?_append_left (by omega)]
   rw[<-hj];congr 1;omega
theorem OwnSl.src{T:TypeId}{v:Value}{xs:List α}(hs:OwnSl H c T v xs fp)(hw:St w0 H (fp++L) w):ZK c H P w v xs:=by
 rcases hs with⟨rfl,rfl,rfl⟩|⟨b,cap,arr,cs,rest,rfl,rfl,e3,e4,e5,e6,e7⟩
 ·exact .inl ⟨rfl,_,_,rfl⟩
 ·by_cases h0:xs=[]
  ·subst h0;exact .inl ⟨rfl,_,_,rfl⟩
  ·refine .inr ⟨_,_,_,cs,rfl,rfl,List.length_pos_iff.2 h0,e7,fun j v hj=>?_⟩
   have hb:=hw.own (b,.cells arr T (0,0)) (by simp)
   rw[Addr.add_lit]
   simp only[World.cell?,hb]
   simp only[Option.isSome_none,Bool.false_eq_true,if_false]
   have hj':=(List.getElem?_eq_some_iff.1 hj).1
   rw[<-Array.getElem?_toList,e3,Nat.zero_add,List.getElem?_append_left (by omega)]
   exact hj
theorem UL{t ty e:TypeId}{i:TypeInfo}{z:Value}(ht:P.underlying t=some (.slice e))(hi:P.info? e=some i)(hz:i.zero=some z)(hsz:i.size=c.size)(hzs:z.cells.size=c.size)
  {v x:Value}{xs ys:List α}(hw:St w0 H (fp++L) w)(hs:OwnSl H c e v xs fp)(hx:ZK c H P w x ys)(hroom:(xs.length+ys.length)* i.bytes<=140737488355328)(hmax:xs.length+ys.length<=maxLen):
  ∃v' w' fp',(Builtin.append_ #[t,t] ty #[v,x]).run P w=.ok v' w'/\OwnSl H c e v' (xs++ys) fp'/\St w0 H (fp'++L) w':=by
 rcases hx with⟨rfl,ad,cap,rfl⟩|⟨a,m,capx,ns,rfl,_,hpos,hns,hcell⟩
 ·rw[List.append_nil]
  rcases hs with⟨rfl,rfl,rfl⟩|⟨b,cap',arr,cs,rest,rfl,rfl,e3,e4,e5,e6,e7⟩
  ·refine⟨.slice none 0 0,w,[],?_,OwnSl.nil,hw⟩
   cases ad<;>simp[Builtin.append_,run_underlying ht,sizeOf,typeInfo,hi,Builtin.lenOf,Builtin.firstCells,loadCells,loadCellsFrom]
  ·refine⟨.slice (some ⟨b,0,none⟩) xs.length cap',w,_,?_,.inr ⟨b,cap',arr,cs,rest,rfl,rfl,e3,e4,e5,e6,e7⟩,hw⟩
   cases ad<;>simp[Builtin.append_,run_underlying ht,sizeOf,typeInfo,hi,Builtin.lenOf,Builtin.firstCells,loadCells,loadCellsFrom,e5,storeCells]
 ·have hnl:=Codec.reps_length hns
  have h63:((xs.length+ys.length:Nat):Int)<=9223372036854775807:=by unfold maxLen at hmax;omega
  rcases hs with⟨rfl,rfl,rfl⟩|⟨b,cap',arr,cs,rest,rfl,rfl,e3,e4,e5,e6,e7⟩
  ·simp only[List.length_nil,Nat.zero_add] at hroom h63 hmax
   have hr:=run_append_nil (P:=P) w t ty e i z ht hi hz a ys.length capx ns (by rw[hnl,hsz]) hcell hpos h63 (by omega)
   refine⟨_,_,_,hr,.inr ⟨_,grownCap w ys.length 0 e,_,ns,(Builtin.zeroCells z.cells (grownCap w ys.length 0 e-ys.length)).toList,rfl,rfl,by simp,?_,?_,?_,?_⟩,hw.drew.alloc _⟩
   ·simp only[Array.size_append,List.size_toArray,size_zeroCells,hzs,hnl,<-Nat.add_mul]
    congr 1;have:=grownCap_ge w ys.length 0 e;omega
   ·simpa using grownCap_ge w ys.length 0 e
   ·exact grownCap_le_maxLen w _ _ _ hmax
   ·simpa using hns
  ·by_cases hroom':xs.length+ys.length<=cap'
   ·have hg:=hw.own (b,.cells arr e (0,0)) (by simp)
    have hcl:=Codec.reps_length e7
    have hfit:xs.length* i.size+ns.length<=arr.size:=by rw[hnl,hsz,e4,<-Nat.add_mul];exact Nat.mul_le_mul_right _ hroom'
    have hr:=run_append_room (P:=P) w t ty e i ht hi b xs.length cap' arr hg a ys.length capx ns (by rw[hnl,hsz]) hcell (Codec.reps_one hns) hroom' hfit
    have htk:arr.toList.take (xs.length* i.size)=cs:=by rw[hsz,<-hcl,e3,List.take_left]
    refine⟨_,_,[(b,.cells (arr.toList.take (xs.length* i.size)++ns++arr.toList.drop (xs.length* i.size+ns.length)).toArray e (0,0))],hr,.inr ⟨b,cap',_,cs++ns,arr.toList.drop (xs.length* i.size+ns.length),by rw[List.length_append],rfl,?_,?_,?_,e6,Codec.reps_append e7 hns⟩,?_⟩
    ·simp only[htk,List.append_assoc]
    ·simp only[htk,List.size_toArray,List.length_append,List.length_drop,Array.length_toList]
     have h2:cs.length=xs.length* i.size:=by rw[hcl,hsz]
     rw[<-e4];omega
    ·rw[List.length_append];exact hroom'
    ·exact hw.write rfl rfl rfl (by simp[World.setRow]) (setRow_heap w b arr _ e _ hg) (fun k hk=>setRow_other w b k _ hk)
   ·have hg:=hw.own (b,.cells arr e (0,0)) (by simp)
    have hcl:=Codec.reps_length e7
    have holds:∀j u,cs[j]? =some u->w.cell? ((⟨b,0,none⟩:Addr).add j)=some u:=fun j u hj=>by
     rw[Addr.add_lit]
     simp only[World.cell?,hg]
     simp only[Option.isSome_none,Bool.false_eq_true,if_false]
     have hj':=(List.getElem?_eq_some_iff.1 hj).1
     rw[<-Array.getElem?_toList,e3,Nat.zero_add,List.getElem?_append_left (by omega)]
     exact hj
    have hr:=run_append_grow (P:=P) w t ty e i z ht hi hz ⟨b,0,none⟩ xs.length cap' cs (by rw[hcl,hsz]) holds a ys.length capx ns (by rw[hnl,hsz]) hcell (by omega) h63 (growslice_fits (by omega) hroom)
    refine⟨_,_,_,hr,.inr ⟨_,grownCap w (xs.length+ys.length) cap' e,_,cs++ns,(Builtin.zeroCells z.cells (grownCap w (xs.length+ys.length) cap' e-(xs.length+ys.length))).toList,by rw[List.length_append];rfl,rfl,by simp,?_,?_,?_,Codec.reps_append e7 hns⟩,(hw.drop (s:=[(b,.cells arr e (0,0))])).drew.alloc _⟩
    ·simp only[Array.size_append,List.size_toArray,size_zeroCells,hzs,hnl,hcl,<-Nat.add_mul]
     congr 1;have:=grownCap_ge w (xs.length+ys.length) cap' e;omega
    ·rw[List.length_append];exact grownCap_ge w _ _ e
    ·exact grownCap_le_maxLen w _ _ _ hmax
end
theorem No{β:Type}(f:Nat->β):(Array.range 0).map f=#[]:=by apply Array.ext<;>simp
theorem Uk{β:Type}(f:Nat->β)(v:β):((Array.range 1).map f).setIfInBounds 0 v=#[v]:=by
 apply Array.ext
 ·simp
 ·intro i h1 h2
  have:i=0:=by simpa using h2
  subst this
  simp
section rules
variable{P:Program}{ops:Array Oper}{Q:Exit->Act->World->Prop}{n:Nat}{l:List (Nat×Value)}{rest:List Oper}{w0 w:World}{H:View}{L:Ar}{ty:TypeId}{pos:String}{af:Array Edge}
theorem WL.append{α:Type}{c:Codec α}{fp:Ar}{d:Nat}{t e:TypeId}{z:Value}{bytes:Nat}{x y:Operand}{v u:Value}{xs ys:List α}(hdn:Nat.blt d n=true)
  (ht:P.underlying t=some (.slice e))(hi:(P.info? e).map (fun i=>(i.zero,i.size,i.bytes))=some (some z,c.size,bytes))(hzs:z.cells.size=c.size)
  (hx:AF l x=some v)(hy:AF l y=some u)(hw:St w0 H (fp++L) w)(hs:OwnSl H c e v xs fp)(hsrc:ZK c H P w u ys)(hroom:(xs.length+ys.length)* bytes<=140737488355328)(hmax:xs.length+ys.length<=maxLen)
  (k:∀v' w' fp',OwnSl H c e v' (xs++ys) fp'->St w0 H (fp'++L) w'->WL P ops Q n ((d,v')::l) rest w'):
  WL P ops Q n l (⟨some d,.call {callee:=.builtin .append,args:=#[x,y],argTypes:=#[t,t]},ty,pos,af,none⟩::rest) w:=by
 obtain⟨i,hI,hz,h1,h2⟩:=info_parts hi
 subst h2
 obtain⟨v',w',fp',hr,ho,hst⟩:=UL (P:=P) (ty:=ty) ht hI hz h1 hzs hw hs hsrc hroom hmax
 refine WL.turn rfl rfl hdn (fun a ha=>?_) (k v' w' fp' ho hst)
 simp[execOp,resolve,invoke,builtin,ha.eval hx,ha.eval hy,hr]
theorem WL.build0{α:Type}{c:Codec α}{d:Nat}{t e:TypeId}(hdn:Nat.blt d n=true)(ht:P.underlying t=some (.slice e))(hsz:∀w,(sizeOf e).run P w=.ok c.size w)(hw:St w0 H L w)
  (k:∀v' w' fp',OwnSl H c e v' ([]:List α) fp'->St w0 H (fp'++L) w'->WL P ops Q n ((d,v')::l) rest w'):
  WL P ops Q n l (⟨some d,.buildSlice t 0 #[],ty,pos,af,none⟩::rest) w:=by
 refine WL.turn (w':=w.alloc (.cells #[] e)) (v:=.slice (some ⟨w.heap.size,0,none⟩) 0 0) rfl rfl hdn (fun a ha=>?_) (k _ _ _ (.inr ⟨_,0,#[],[],[],rfl,rfl,rfl,by simp,Nat.le_refl _,by unfold maxLen;omega,rfl⟩) (hw.alloc _))
 simp[execOp,Instr.buildSlice,run_underlying ht,hsz,Instr.fill,newRow,No]
theorem WL.build1{α:Type}{c:Codec α}{d:Nat}{t e:TypeId}{z:Value}{bytes:Nat}{x:Operand}{v:Value}{y:α}(hdn:Nat.blt d n=true)(ht:P.underlying t=some (.slice e))
  (hi:(P.info? e).map (fun i=>(i.zero,i.size,i.bytes))=some (some z,c.size,bytes))(h1:c.size=1)(hv:AF l x=some v)(hr:c.rep H [v] y)(hw:St w0 H L w)
  (k:∀v' w' fp',OwnSl H c e v' [y] fp'->St w0 H (fp'++L) w'->WL P ops Q n ((d,v')::l) rest w'):
  WL P ops Q n l (⟨some d,.buildSlice t 1 #[(0,x)],ty,pos,af,none⟩::rest) w:=by
 obtain⟨i,hI,hz,h3,h2⟩:=info_parts hi
 have hone:=c.one hr v (by simp)
 have hcs:v.cells=#[v]:=by cases v<;>first|rfl|cases hone
 refine WL.turn (w':=w.alloc (.cells #[v] e)) (v:=.slice (some ⟨w.heap.size,0,none⟩) 1 1) rfl rfl hdn (fun a ha=>?_) (k _ _ _ (.inr ⟨_,1,#[v],[v],[],rfl,rfl,rfl,by simp[h1],Nat.le_refl _,by unfold maxLen;omega,Codec.reps_single.2 hr⟩) (hw.alloc _))
 simp[execOp,Instr.buildSlice,run_underlying ht,sizeOf,typeInfo,hI,h3,h1,zeroValue,hz,Instr.fill,hcs,newRow,ha.eval hv,Uk]
theorem WL.make{α:Type}{c:Codec α}{d:Nat}{t e:TypeId}{z:Value}{bytes:Nat}{x y:Operand}{m:Int}{z0:α}{kk:IntKind}(hdn:Nat.blt d n=true)(ht:P.underlying t=some (.slice e))
  (hi:(P.info? e).map (fun i=>(i.zero,i.size,i.bytes))=some (some z,c.size,bytes))(h1:c.size=1)(hz0:c.rep H z.cells.toList z0)(hx:AF l x=some (.int kk m))(hy:AF l y=some (.int kk m))
  (h0:0<=m)(hb:bytes* m<=281474976710656)(hm:m<=9223372036854775807)(hw:St w0 H L w)
  (k:∀v' w' fp',OwnSl H c e v' (List.replicate m.toNat z0) fp'->St w0 H (fp'++L) w'->WL P ops Q n ((d,v')::l) rest w'):
  WL P ops Q n l (⟨some d,.makeSlice t x y,ty,pos,af,none⟩::rest) w:=by
 obtain⟨i,hI,hz,h3,h2⟩:=info_parts hi
 subst h2
 have hr:=run_make (P:=P) w t e i z ht hI hz kk kk m m h0 (Int.le_refl _) hb hm
 have hzl:=c.len hz0
 rw[h1] at hzl
 have hreps:∀(q:Nat),c.reps H (List.replicate q (z.cells.getD 0 undef)) (List.replicate q z0):=by
  intro q
  induction q with
  |zero=>rfl
  |succ q ih=>
   refine⟨[z.cells.getD 0 undef],_,rfl,?_,ih⟩
   have:z.cells.toList=[z.cells.getD 0 undef]:=by
    match hh:z.cells.toList,hzl with
    |[u],_=>rw[Array.getD_eq_getD_getElem?,<-Array.getElem?_toList,hh];rfl
   rw[<-this];exact hz0
 have hmc:(madeCells z.cells (m.toNat* i.size)).toList=List.replicate m.toNat (z.cells.getD 0 undef):=by
  have hs1:z.cells.size=1:=by rw[<-Array.length_toList];exact hzl
  apply List.ext_getElem
  ·simp[madeCells,h3,h1]
  ·intro j h5 h6
   simp[madeCells,hs1,Nat.mod_one]
 refine WL.turn rfl rfl hdn (fun a ha=>?_) (k _ _ [(w.heap.size,.cells (madeCells z.cells (m.toNat* i.size)) e (0,0))] (.inr ⟨_,m.toNat,_,_,[],by rw[List.length_replicate],rfl,by rw[List.append_nil],by rw[size_madeCells,h3],by rw[List.length_replicate];exact Nat.le_refl _,by unfold maxLen;omega,?_⟩) (hw.alloc _))
 ·simp[execOp,ha.eval hx,ha.eval hy,hr]
 ·rw[hmc];exact hreps _
theorem WL.store_own{α:Type}{c:Codec α}{T:TypeId}{fp:Ar}{t:TypeId}{x y:Operand}{p v u:Value}{xs:List α}{i:Int}{z:α}(hsz:∀w,(sizeOf t).run P w=.ok c.size w)(h1:c.size=1)
  (hx:AF l x=some p)(hy:AF l y=some u)(hr:c.rep H [u] z)(hw:St w0 H (fp++L) w)(hs:OwnSl H c T v xs fp)(hp:HI c v i.toNat p)(h:0<=i/\i<xs.length)
  (k:∀w' fp',OwnSl H c T v (xs.set i.toNat z) fp'->St w0 H (fp'++L) w'->WL P ops Q n l rest w'):
  WL P ops Q n l (⟨none,.store t x y,ty,pos,af,none⟩::rest) w:=by
 have hone:=c.one hr u (by simp)
 have hcs:u.cells=#[u]:=by cases u<;>first|rfl|cases hone
 rcases hs with⟨rfl,rfl,rfl⟩|⟨b,cap,arr,cs,rst,rfl,rfl,e3,e4,e5,e6,e7⟩
 ·simp at h;omega
 ·obtain⟨b',n',cap',hv,rfl⟩:=hp
  cases hv
  have hlt:i.toNat<xs.length:=by omega
  obtain⟨a',m,b',f1,f2,f3,f4,f5⟩:=Codec.reps_get e7 (List.getElem?_eq_getElem hlt)
  have hl:=c.len f3
  rw[h1] at hl f2
  have hg:=hw.own (b,.cells arr T (0,0)) (by simp)
  match m,hl with
  |[old],_=>
   have hcell:w.cell? ⟨b,i.toNat* c.size,none⟩=some old:=by
    simp only[World.cell?,hg]
    simp only[Option.isSome_none,Bool.false_eq_true,if_false]
    rw[<-Array.getElem?_toList,e3,f1,h1,List.append_assoc,List.getElem?_append_right (by omega),f2];simp
   have hfr:w.frozen? ⟨b,i.toNat* c.size,none⟩=false:=by simp[World.frozen?,hg]
   have hasz:i.toNat<arr.size:=by rw[e4,h1];omega
   refine WL.turn0 (w':=w.setCell ⟨b,i.toNat* c.size,none⟩ u) rfl rfl (fun a ha=>?_) (k _ [(b,.cells (arr.setIfInBounds (i.toNat* c.size) u) T (0,0))] (.inr ⟨b,cap,_,a'++([u]++b'),rst,by rw[List.length_set],rfl,?_,by simp[e4],by rw[List.length_set];exact e5,e6,?_⟩)
    (hw.write rfl rfl rfl (by simp) ?_ (fun q hq=>RowKit.Below.heap_setCell w _ u q hq)))
   ·have hst:(storeCells ⟨b,i.toNat* c.size,none⟩ [u]).run P w=.ok () (w.setCell ⟨b,i.toNat* c.size,none⟩ u):=by
     simp[storeCells,Addr.add_lit,run_store P w _ u .plain hone,hcell,hfr]
    simp[execOp,Instr.storeAt,Instr.sureAddr,storeVar,ha.eval hx,ha.eval hy,hcs,hsz,h1]
    simp[h1] at hst
    simp[hst]
   ·rw[Array.toList_setIfInBounds,e3,f1,h1,Nat.mul_one]
    simp only[Nat.mul_one] at f2
    rw[List.append_assoc,List.set_append_right _ _ (by omega),f2]
    simp
   ·have e:xs.set i.toNat z=xs.take i.toNat++([z]++xs.drop (i.toNat+1)):=by
     rw[List.set_eq_take_append_cons_drop,if_pos hlt];rfl
    rw[e]
    exact Codec.reps_append f4 (Codec.reps_append (Codec.reps_single.2 hr) f5)
   ·simp only[World.setCell,Array.getElem?_modify,if_true,hg,Option.map_some]
    simp
end rules
end Go.Vc
namespace Go.Vc
open Go
def Len{α:Type}(a:List α):Prop:=(a.length:Int)<=9223372036854775807
def Ay{σ:Type}(s0:σ)(body:σ->(σ->Prop)->Prop):Prop:=∃(I:σ->Prop)(μ:σ->Nat),I s0/\∀s,I s->body s (fun s'=>I s'/\μ s'<μ s)
def Am{σ:Type}(rest:σ->Prop)(body:(σ->Prop)->Prop):Prop:=∃J:σ->Prop,(∀s,J s->rest s)/\body J
def AY(k bytes:Nat):Prop:=k* bytes<=140737488355328/\k<=maxLen
def In{α:Type}(i:Int)(xs:List α):Prop:=0<=i/\i<xs.length
section
variable{P:Program}{n:Nat}{l:List (Nat×Value)}{Q:Exit->Act->World->Prop}{w:World}
theorem Bf{dst:Option Tmp}{ty:TypeId}{pos:String}{af:Array Edge}{gd:Option (Nat×Bool)}{xs:List Operand}{vs:List Value}{ts:Array TypeId}{f:FuncId}
  (hb:∀(args:Array Value)(w:World),(callFunc f args).run P w=.ok (.enter f args) w)(hv:Ii l xs vs):
  ∀a,Fr n l a->(execOp a.eval ⟨dst,.call {callee:=.value (.func f),args:=xs.toArray,argTypes:=ts},ty,pos,af,gd⟩).run P w=.ok (.enter f vs.toArray) w:=fun a ha=>by
 have:=Yt (P:=P) (w:=w) (dst:=dst) (ty:=ty) (pos:=pos) (af:=af) (gd:=gd) (ts:=ts) (fo:=.func f) (cap:=#[]) rfl hb hv a ha
 simpa using this
theorem Ab{c:Code}{a:Act}(ha:Fr n l a)(h:WC P Q n l c w):c.wp P Q a w:=h a ha
end
end Go.Vc
namespace Go.Vc
theorem PG{p:Prop}[Decidable p](h:(!decide p)=true):¬p:=by simpa using h
theorem Py{p:Prop}[Decidable p](h:(!decide p)=false):p:=by simpa using h
theorem Len.i64{α:Type}{xs:List α}(h:Len xs):I64 (xs.length:Int):=⟨by omega,h⟩
theorem De{p q:Prop}[Decidable p][Decidable q](h:decide p=true):decide q=decide (p/\q):=by have:=of_decide_eq_true h;simp[this]
theorem Bj{p q:Prop}[Decidable p][Decidable q](h:decide p=false):false=decide (p/\q):=by have:=of_decide_eq_false h;simp[this]
theorem Bg{p q:Prop}[Decidable p][Decidable q](h:decide p=true):true=decide (p\/q):=by have:=of_decide_eq_true h;simp[this]
theorem CQ{p q:Prop}[Decidable p][Decidable q](h:decide p=false):decide q=decide (p\/q):=by have:=of_decide_eq_false h;simp[this]
end Go.Vc
namespace Go.Vc
open Go
theorem AH(b:Bool):b=decide (b=true):=by cases b<;>rfl
def Xf(m:Int)(bytes:Nat):Prop:=0<=m/\(bytes:Int)* m<=281474976710656/\m<=9223372036854775807
def Cb:Nat->List Value->List (Nat×Value)
 |_,[]=>[]
 |k,v::vs=>(k,v)::Cb (k+1) vs
theorem Gv:∀(vs:List Value)(k:Nat)(cells:Array Value),(∀v∈vs,v.cells=#[v])->k+vs.length<=cells.size->
  Instr.fill (fun i=>some (i* 1,1)) cells (Cb k vs)=some (cells.toList.take k++(vs++cells.toList.drop (k+vs.length))).toArray
 |[],k,cells,_,_=>by simp[Cb,Instr.fill]
 |v::vs,k,cells,h1,hk=>by
  simp only[List.length_cons] at hk
  have hv:=h1 v (by simp)
  have ih:=Gv vs (k+1) (cells.setIfInBounds k v) (fun u hu=>h1 u (by simp[hu])) (by simp;omega)
  simp only[Cb,Instr.fill,hv]
  have hz:(#[v].zipIdx.foldl (fun cs(x:Value×Nat)=>cs.setIfInBounds (k* 1+x.2) x.1) cells)=cells.setIfInBounds k v:=by
   simp
  rw[if_neg (by simp;omega)]
  refine Eq.trans (congrArg (fun z=>Instr.fill (fun i=>some (i* 1,1)) z (Cb (k+1) vs)) hz) (ih.trans ?_)
  congr 1
  rw[Array.toList_setIfInBounds]
  have hkl:k<cells.toList.length:=by rw[Array.length_toList];omega
  have e1:(cells.toList.set k v).take (k+1)=cells.toList.take k++[v]:=by
   have hlt:(cells.toList.take k).length=k:=by rw[List.length_take];omega
   rw[List.take_set,List.take_succ_eq_append_getElem hkl,List.set_append_right _ _ (by omega),hlt,Nat.sub_self]
   rfl
  have e2:(cells.toList.set k v).drop (k+1+vs.length)=cells.toList.drop (k+1+vs.length):=by
   rw[List.drop_set_of_lt (by omega)]
  rw[e1,e2,List.append_assoc]
  simp[Nat.add_assoc,Nat.add_comm 1 vs.length]
theorem Im{n:Nat}{l:List (Nat×Value)}{a:Act}(ha:Fr n l a):∀(ps:List (Nat×Operand))(vs:List Value)(k:Nat),ps.map (·.1)=List.range' k ps.length->Ii l (ps.map (·.2)) vs->
  ps.map (fun p=>(p.1,a.eval p.2))=Cb k vs
 |[],[],_,_,_=>rfl
 |(i,x)::ps,v::vs,k,h,hv=>by
  simp only[List.map_cons,List.length_cons,List.range'_succ,List.cons.injEq] at h
  obtain⟨rfl,h⟩:=h
  simp only[List.map_cons,Cb]
  rw[ha.eval hv.1,Im ha ps vs (i+1) h hv.2]
 |[],_::_,_,_,hv=>hv.elim
 |_::_,[],_,_,hv=>hv.elim
theorem HU{l:List (Nat×Value)}:∀{xs:List Operand}{vs:List Value},Ii l xs vs->xs.length=vs.length
 |[],[],_=>rfl
 |_::_,_::_,h=>by simp[HU h.2]
 |[],_::_,h=>h.elim
 |_::_,[],h=>h.elim
theorem WL.buildn{P:Program}{ops:Array Oper}{Q:Exit->Act->World->Prop}{n:Nat}{l:List (Nat×Value)}{rest:List Oper}{w0 w:World}{H:View}{L:Ar}{ty:TypeId}{pos:String}{af:Array Edge}
  {α:Type}{c:Codec α}{xs:List α}{vs:List Value}{d k:Nat}{t e:TypeId}{z:Value}{bytes:Nat}{ps:List (Nat×Operand)}(hdn:Nat.blt d n=true)(ht:P.underlying t=some (.slice e))
  (hi:(P.info? e).map (fun i=>(i.zero,i.size,i.bytes))=some (some z,c.size,bytes))(h1:c.size=1)(hk:ps.map (·.1)=List.range' 0 k)(hv:Ii l (ps.map (·.2)) vs)(hsmall:Nat.ble k 16777216=true)(hr:c.reps H vs xs)(hw:St w0 H L w)
  (hlen:vs.length=k)
  (go:∀v' w' fp',OwnSl H c e v' xs fp'->St w0 H (fp'++L) w'->WL P ops Q n ((d,v')::l) rest w'):
  WL P ops Q n l (⟨some d,.buildSlice t k ps.toArray,ty,pos,af,none⟩::rest) w:=by
 obtain⟨i,hI,hz,h3,h2⟩:=info_parts hi
 have hpl:ps.length=k:=by have:=HU hv;simp at this;omega
 have hxl:xs.length=k:=by have:=Codec.reps_length hr;rw[h1,Nat.mul_one] at this;omega
 have hcs:∀v∈vs,v.cells=#[v]:=fun v hv=>by have:=Codec.reps_one hr v hv;cases v<;>first|rfl|cases this
 have hfill:=Gv vs 0 ((Array.range k).map (z.cells[·%z.cells.size]!)) hcs (by simp;omega)
 have hfill0:k=0->Instr.fill (fun i=>some (i* 1,1)) ((Array.range 0).map (fun i=>(#[]:Array Value)[i%0]!)) (Cb 0 vs)=some vs.toArray:=fun h0=>by
  have:vs=[]:=List.length_eq_zero_iff.1 (by omega)
  subst this;simp[Cb,Instr.fill]
 have hf2:((Array.range k).map (z.cells[·%z.cells.size]!)).toList.drop (0+vs.length)=[]:=by
  rw[List.drop_eq_nil_iff];simp;omega
 rw[hf2] at hfill
 simp only[List.take_zero,List.nil_append,List.append_nil] at hfill
 have hk16:k<=16777216:=by simpa using hsmall
 have hb:¬(k>2^24):=by omega
 have hkm:k<=maxLen:=by unfold maxLen;omega
 refine WL.turn (w':=w.alloc (.cells vs.toArray e)) (v:=.slice (some ⟨w.heap.size,0,none⟩) k k) rfl rfl hdn (fun a ha=>?_)
  (go _ _ _ (.inr ⟨_,k,vs.toArray,vs,[],by rw[hxl],rfl,by simp,by simp[h1,hlen],by omega,hkm,hr⟩) (hw.alloc _))
 have he:=Im ha ps vs 0 (by rw[hpl];exact hk) hv
 by_cases h0:k=0
 ·have hvs:vs=[]:=List.length_eq_zero_iff.1 (by omega)
  have hps:ps=[]:=List.length_eq_zero_iff.1 (by omega)
  subst hvs;subst hps;subst h0
  simp[execOp,Instr.buildSlice,run_underlying ht,sizeOf,typeInfo,hI,Instr.fill,newRow,No]
 ·simp[execOp,Instr.buildSlice,run_underlying ht,sizeOf,typeInfo,hI,h3,h1,zeroValue,hz,newRow,hb,h0,he]
  have:(fun i=>some (i,1))=(fun i=>some (i* 1,1):Nat->Option (Nat×Nat)):=by funext i;simp
  rw[this,hfill]
  simp
end Go.Vc
namespace Go.Vc
open Go
theorem AN{v:Value}(h:v.oneCell'=true):v.cells=#[v]:=by cases v<;>first|rfl|cases h
theorem IsSl.one{α:Type}{H:View}{c:Codec α}{v:Value}{xs:List α}(h:IsSl H c v xs):v.oneCell'=true:=by obtain⟨_,_,rfl,_⟩:=h;rfl
theorem OwnSl.one{α:Type}{H:View}{c:Codec α}{T:TypeId}{v:Value}{xs:List α}{fp:Ar}(h:OwnSl H c T v xs fp):v.oneCell'=true:=by
 rcases h with⟨rfl,_⟩|⟨_,_,_,_,_,rfl,_⟩<;>rfl
def Jv:List Value->Prop
 |[]=>True
 |v::vs=>v.oneCell'=true/\Jv vs
theorem SH:∀{vs:List Value},Jv vs->∀v∈vs,v.oneCell'=true
 |_::_,h,v,hv=>by
  rcases List.mem_cons.1 hv with rfl|hv
  ·exact h.1
  ·exact SH h.2 v hv
def Aaa{α β:Type}(c:Codec α)(d:Codec β):Codec (α×β) where
 size:=c.size+d.size
 rep:=fun H cs x=>∃a b,cs=a++b/\c.rep H a x.1/\d.rep H b x.2
 len:=fun⟨a,b,e,h1,h2⟩=>by rw[e,List.length_append,c.len h1,d.len h2]
 mono:=fun hle⟨a,b,e,h1,h2⟩=>⟨a,b,e,c.mono hle h1,d.mono hle h2⟩
 one:=fun⟨a,b,e,h1,h2⟩u hu=>by
  rw[e] at hu
  rcases List.mem_append.1 hu with hu|hu
  ·exact c.one h1 u hu
  ·exact d.one h2 u hu
def Part{σ φ:Type}(c:Codec σ)(off:Nat)(d:Codec φ)(proj:σ->φ):Prop:=∀H cs x,c.rep H cs x->∃a m b,cs=a++(m++b)/\a.length=off/\d.rep H m (proj x)
def ZZ(T:TypeId):Option Int->Value
 |none=>.nilIface
 |some n=>.iface T (.int .i64 n)
theorem I64.max{a b:Int}(h:I64 a)(k:I64 b):I64 (max a b):=by unfold I64 at*;omega
theorem I64.min{a b:Int}(h:I64 a)(k:I64 b):I64 (min a b):=by unfold I64 at*;omega
section ex
variable{P:Program}{n:Nat}{l:List (Nat×Value)}{C:World->Prop}{dst:Option Tmp}{ty:TypeId}{pos:String}{af:Array Edge}{gd:Option (Nat×Bool)}{w0:World}{H:View}{L:Ar}
theorem NL{w:World}{b off:Nat}{arr:Array Value}{T:TypeId}{u:Value}(hw:St w0 H ([(b,.cells arr T (0,0))]++L) w)(h:arr[off]? =some u):w.cell? ⟨b,off,none⟩=some u:=by
 have hb:=hw.own (b,.cells arr T (0,0)) (by simp)
 simp only[World.cell?,hb]
 simpa using h
theorem Aj{t:TypeId}{x:Operand}{b off:Nat}{arr:Array Value}{T:TypeId}{u:Value}(hag:∀w,(isAgg t).run P w=.ok false w)(hx:AF l x=some (.pointer (some ⟨b,off,none⟩)))(h:arr[off]? =some u):
  Exv P n l (St w0 H ([(b,.cells arr T (0,0))]++L)) ⟨dst,.load t x,ty,pos,af,gd⟩ u:=fun w hw a ha=>by
 simp[execOp,Instr.loadAt,Instr.sureAddr,ha.eval hx,CU hag (NL hw h)]
theorem Bl{w:World}{b off k:Nat}{arr:Array Value}{T:TypeId}{cs:List Value}{fz:Nat×Nat}(hb:w.heap[b]? =some (.cells arr T fz))(h:(arr.toList.drop off).take k=cs)(hl:cs.length=k):
  (loadCells ⟨b,off,none⟩ k).run P w=.ok cs.toArray w:=by
 rw[<-hl]
 refine run_loadCells_list w _ cs fun j v hj=>?_
 rw[Addr.add_lit,cell_of_row w b _ arr T fz hb]
 rw[<-h,List.getElem?_take,List.getElem?_drop] at hj
 split at hj
 ·rwa [Array.getElem?_toList] at hj
 ·cases hj
theorem Ac{t:TypeId}{x:Operand}{b off k:Nat}{arr:Array Value}{T:TypeId}{cs:List Value}(hag:∀w,(isAgg t).run P w=.ok true w)(hsz:∀w,(sizeOf t).run P w=.ok k w)
  (hx:AF l x=some (.pointer (some ⟨b,off,none⟩)))(h:(arr.toList.drop off).take k=cs)(hl:cs.length=k):
  Exv P n l (St w0 H ([(b,.cells arr T (0,0))]++L)) ⟨dst,.load t x,ty,pos,af,gd⟩ (.agg cs.toArray):=fun w hw a ha=>by
 have hb:=hw.own (b,.cells arr T (0,0)) (by simp)
 simp[execOp,Instr.loadAt,Instr.sureAddr,ha.eval hx,loadVar,hag,hsz,Bl hb h hl]
theorem AE{α:Type}{c:Codec α}{t:TypeId}{x:Operand}{p:Value}{z:α}(hag:∀w,(isAgg t).run P w=.ok true w)(hsz:∀w,(sizeOf t).run P w=.ok c.size w)
  (hx:AF l x=some p)(hp:IsPt H c p z):∃v,(∃cs,v=.agg cs.toArray/\c.rep H cs z)/\Exv P n l (St w0 H L) ⟨dst,.load t x,ty,pos,af,gd⟩ v:=by
 obtain⟨b,off,arr,T,fz,pre,cs,rest,rfl,e2,e3,e4,e5⟩:=hp
 refine⟨_,⟨cs,rfl,e5⟩,fun w hw a ha=>?_⟩
 have hb:=hw.fits _ _ e2
 have h:(arr.toList.drop off).take c.size=cs:=by
  rw[e3,List.drop_append,List.drop_eq_nil_of_le (by omega),e4,Nat.sub_self,List.nil_append,List.drop_zero,<-c.len e5,List.take_left]
 simp[execOp,Instr.loadAt,Instr.sureAddr,ha.eval hx,loadVar,hag,hsz,Bl hb h (c.len e5)]
theorem Af{s:TypeId}{x:Operand}{b off o' f k:Nat}{fields:Array Field}{fd:Field}(hs:P.underlying s=some (.struct fields))(hf:fields[f]? =some fd)(hsz:∀w,(sizeOf fd.type).run P w=.ok (k+1) w)
  (hx:AF l x=some (.pointer (some ⟨b,off,none⟩)))(ho:off+fd.offset=o'):Exv P n l C ⟨dst,.fieldAddr s x f,ty,pos,af,gd⟩ (.pointer (some ⟨b,o',none⟩)):=fun w _ a ha=>by
 subst ho
 simp[execOp,Instr.fieldAt,Instr.sureAddr,ha.eval hx,run_underlying hs,hf,fieldPlace,hsz,Addr.add_lit]
theorem Bi{x:Operand}{a0:Addr}(hx:AF l x=some (.pointer (some a0))):Exv P n l C ⟨dst,.nilCheck x,ty,pos,af,gd⟩ (.pointer (some a0)):=fun w _ a ha=>by
 simp only[execOp,ha.eval hx];rfl
theorem AR{fn:Fn}{xs:List Operand}{vs:List Value}(hv:Ii l xs vs):Exv P n l C ⟨dst,.makeFunc fn #[] xs.toArray,ty,pos,af,gd⟩ (.func fn #[] vs.toArray):=fun w _ a ha=>by
 have:=ha.evals hv
 simp[execOp,Instr.makeFunc,this]
theorem Bk{t:TypeId}{x:Operand}{v:Value}(hc:P.concrete t=true)(hx:AF l x=some v):Exv P n l C ⟨dst,.makeInterface t x,ty,pos,af,gd⟩ (.iface t v):=fun w _ a ha=>by
 simp[execOp,ha.eval hx,run_makeInterface w t v hc]
theorem RT{α:Type}{c:Codec α}{v:Value}{xs:List α}(hs:IsSl H c v xs){lo hi:Nat}(h1:lo<=hi)(h2:hi<=xs.length):
  ∃ad cap,v=.slice ad xs.length cap/\hi<=cap/\IsSl H c (.slice (if cap=lo then ad else ad.map (·.add (lo* c.size))) (hi-lo) (cap-lo)) ((xs.take hi).drop lo):=by
 obtain⟨ad,cap,rfl,h3,h4,h5,h6⟩:=hs
 refine⟨ad,cap,rfl,by omega,_,_,by rw[List.length_drop,List.length_take,Nat.min_eq_left h2],by rw[List.length_drop,List.length_take];omega,by omega,?_,?_⟩
 ·intro hn
  split at hn
  ·omega
  ·have:ad=none:=by simpa using hn
   have:=h5 this;omega
 ·rcases h6 with rfl|⟨b,off,arr,T,fz,pre,cs,rest,rfl,e2,e3,e4,e5⟩
  ·exact .inl (by simp)
  ·by_cases hlh:lo=hi
   ·exact .inl (List.drop_eq_nil_of_le (by rw[List.length_take];omega))
   ·rw[if_neg (by omega)]
    have hsp:xs=xs.take lo++((xs.take hi).drop lo++xs.drop hi):=by
     conv=>lhs;rw[<-List.take_append_drop hi xs,<-List.take_append_drop lo (xs.take hi),List.take_take,Nat.min_eq_left h1,List.append_assoc]
    rw[hsp] at e5
    obtain⟨a1,r1,g1,g2,g3⟩:=Codec.reps_split e5
    obtain⟨a2,r2,g4,g5,g6⟩:=Codec.reps_split g3
    have hl:=Codec.reps_length g2
    rw[List.length_take,Nat.min_eq_left (by omega)] at hl
    refine .inr ⟨b,off+lo* c.size,arr,T,fz,pre++a1,a2,r2++rest,by simp[Addr.add_lit],e2,by rw[e3,g1,g4];simp,by rw[List.length_append,e4,hl],g5⟩
theorem CS{lo:Int}{k:IntKind}{y:Nat}{code:BoundsCode}{w:World}(h0:0<=lo)(h1:lo<=y):(Instr.sliceBound (.int k lo) y code).run P w=.ok lo.toNat w:=by
 simp[Instr.sliceBound,asIntOf,h0,h1]
theorem ex_slice_hi{α:Type}{c:Codec α}{t e:TypeId}{x y:Operand}{v:Value}{xs:List α}{k:IntKind}{hi:Int}(ht:P.underlying t=some (.slice e))(hsz:∀w,(sizeOf e).run P w=.ok c.size w)(hx:AF l x=some v)
  (hy:AF l y=some (.int k hi))(hs:IsSl H c v xs)(h:0<=hi/\hi<=xs.length):∃u,IsSl H c u (xs.take hi.toNat)/\Exv P n l C ⟨dst,.slice t x none (some y) none,ty,pos,af,gd⟩ u:=by
 obtain⟨ad,cap,rfl,h1,h2⟩:=RT hs (lo:=0) (hi:=hi.toNat) (by omega) (by omega)
 rw[List.drop_zero] at h2
 refine⟨_,h2,fun w _ a ha=>?_⟩
 have hb:=fun w=>CS (P:=P) (k:=k) (y:=cap) (code:=.sliceAcap) (w:=w) h.1 (show hi<=(cap:Int) by omega)
 simp[execOp,Instr.sliceAt,Instr.slice,ha.eval hx,ha.eval hy,run_underlying ht,Instr.sliceBounds,hb,hsz]
theorem Md{α:Type}{c:Codec α}{t e:TypeId}{x y:Operand}{v:Value}{xs:List α}{k:IntKind}{lo:Int}(ht:P.underlying t=some (.slice e))(hsz:∀w,(sizeOf e).run P w=.ok c.size w)(hx:AF l x=some v)
  (hy:AF l y=some (.int k lo))(hs:IsSl H c v xs)(h:0<=lo/\lo<=xs.length):∃u,IsSl H c u (xs.drop lo.toNat)/\Exv P n l C ⟨dst,.slice t x (some y) none none,ty,pos,af,gd⟩ u:=by
 obtain⟨ad,cap,rfl,h1,h2⟩:=RT hs (lo:=lo.toNat) (hi:=xs.length) (by omega) (Nat.le_refl _)
 rw[List.take_length] at h2
 refine⟨_,h2,fun w _ a ha=>?_⟩
 have hb:=fun w=>CS (P:=P) (k:=k) (y:=xs.length) (code:=.sliceB) (w:=w) h.1 h.2
 simp[execOp,Instr.sliceAt,Instr.slice,ha.eval hx,ha.eval hy,run_underlying ht,Instr.sliceBounds,hb,hsz]
end ex
theorem Exv.of{P:Program}{n:Nat}{l:List (Nat×Value)}{C C':World->Prop}{o:Oper}{v:Value}(h:Exv P n l C' o v)(hc:∀w,C w->C' w):Exv P n l C o v:=fun w hw=>h w (hc w hw)
theorem AaN{α:Type}{P:Program}{H:View}{c:Codec α}{T:TypeId}{v:Value}{xs:List α}{fp:Ar}(hs:OwnSl H c T v xs fp){lo hi:Nat}(h1:lo<=hi)(h2:hi<=xs.length):
  ∃ad cap,v=.slice ad xs.length cap/\hi<=cap/\∀{w0 w:World}{L:Ar},St w0 H (fp++L) w->ZK c H P w (.slice (if cap=lo then ad else ad.map (·.add (lo* c.size))) (hi-lo) (cap-lo)) ((xs.take hi).drop lo):=by
 rcases hs with⟨rfl,rfl,rfl⟩|⟨b,cap,arr,cs,rest,rfl,rfl,e3,e4,e5,e6,e7⟩
 ·simp at h2;subst h2
  have:lo=0:=by omega
  subst this
  exact⟨none,0,rfl,Nat.le_refl _,fun _=>.inl ⟨rfl,_,_,rfl⟩⟩
 ·refine⟨_,cap,rfl,by omega,fun{w0 w L}hw=>?_⟩
  by_cases hlh:lo=hi
  ·subst hlh
   refine .inl ⟨List.drop_eq_nil_of_le (by rw[List.length_take];omega),_,_,by rw[Nat.sub_self]⟩
  ·rw[if_neg (by omega)]
   have hsp:xs=xs.take lo++((xs.take hi).drop lo++xs.drop hi):=by
    conv=>lhs;rw[<-List.take_append_drop hi xs,<-List.take_append_drop lo (xs.take hi),List.take_take,Nat.min_eq_left h1,List.append_assoc]
   rw[hsp] at e7
   obtain⟨a1,r1,g1,g2,g3⟩:=Codec.reps_split e7
   obtain⟨a2,r2,g4,g5,g6⟩:=Codec.reps_split g3
   have hl:=Codec.reps_length g2
   rw[List.length_take,Nat.min_eq_left (by omega)] at hl
   have hlen:((xs.take hi).drop lo).length=hi-lo:=by rw[List.length_drop,List.length_take,Nat.min_eq_left h2]
   refine .inr ⟨⟨b,lo* c.size,none⟩,hi-lo,cap-lo,a2,by rw[hlen];simp[Addr.add_lit],hlen.symm,by omega,g5,fun j u hj=>?_⟩
   have hb:=hw.own (b,.cells arr T (0,0)) (by simp)
   rw[Addr.add_lit]
   simp only[World.cell?,hb]
   simp only[Option.isSome_none,Bool.false_eq_true,if_false]
   have hj':=(List.getElem?_eq_some_iff.1 hj).1
   rw[<-Array.getElem?_toList,e3,g1,g4,List.append_assoc,List.getElem?_append_right (by omega),List.append_assoc,List.getElem?_append_left (by omega)]
   rw[<-hj];congr 1;omega
section
variable{P:Program}{n:Nat}{l:List (Nat×Value)}{C:World->Prop}{dst:Option Tmp}{ty:TypeId}{pos:String}{af:Array Edge}{gd:Option (Nat×Bool)}{H:View}
def AdH{α:Type}(c:Codec α)(H:View)(P:Program)(fp:Ar)(u:Value)(ys:List α):Prop:=∀{w0 w:World}{L:Ar},St w0 H (fp++L) w->ZK c H P w u ys
end
section rules
variable{P:Program}{ops:Array Oper}{Q:Exit->Act->World->Prop}{n:Nat}{l:List (Nat×Value)}{rest:List Oper}{w0 w:World}{H:View}{L:Ar}{ty:TypeId}{pos:String}{af:Array Edge}
theorem WL.alloc{d:Nat}{t:TypeId}{z:Value}{arr:Array Value}(hdn:Nat.blt d n=true)(hz:∀w,(zeroValue t).run P w=.ok z w)(hc:z.cells=arr)(hw:St w0 H L w)
  (k:∀b w',St w0 H ([(b,.cells arr t (0,0))]++L) w'->WL P ops Q n ((d,.pointer (some ⟨b,0,none⟩))::l) rest w'):WL P ops Q n l (⟨some d,.alloc t,ty,pos,af,none⟩::rest) w:=by
 subst hc
 refine WL.turn rfl rfl hdn (fun a ha=>?_) (k _ _ (hw.alloc _))
 simp[execOp,Instr.alloc,hz,newVar,newRow]
theorem WL.box{d:Nat}{t:TypeId}{x:Operand}{v:Value}{arr:Array Value}(hdn:Nat.blt d n=true)(hx:AF l x=some v)(hc:v.cells=arr)(hw:St w0 H L w)
  (k:∀b w',St w0 H ([(b,.cells arr t (0,0))]++L) w'->WL P ops Q n ((d,.pointer (some ⟨b,0,none⟩))::l) rest w'):WL P ops Q n l (⟨some d,.box t x,ty,pos,af,none⟩::rest) w:=by
 subst hc
 refine WL.turn rfl rfl hdn (fun a ha=>?_) (k _ _ (hw.alloc _))
 simp[execOp,Instr.box,newVar,newRow,ha.eval hx]
theorem HF{b off:Nat}{t:TypeId}{T:TypeId}{arr arr':Array Value}{pre old rst cs:List Value}{v:Value}(hsz:∀w,(sizeOf t).run P w=.ok cs.length w)(hc:v.cells.toList=cs)(hone:Jv cs)
  (hsp:arr.toList=pre++(old++rst))(hpre:pre.length=off)(hold:old.length=cs.length)(harr:(pre++(cs++rst)).toArray=arr')(hw:St w0 H ([(b,.cells arr T (0,0))]++L) w):
  ∃w',(storeVar t ⟨b,off,none⟩ v).run P w=.ok () w'/\St w0 H ([(b,.cells arr' T (0,0))]++L) w':=by
 have hb:=hw.own (b,.cells arr T (0,0)) (by simp)
 have hlen:arr.size=off+(cs.length+rst.length):=by rw[<-Array.length_toList,hsp];simp[hpre,hold]
 have hr:=run_storeCells_at P b off T cs 0 arr w hb (by omega) (SH hone)
 simp only[Nat.add_zero] at hr
 have hsize:v.cells.size=cs.length:=by rw[<-hc,Array.length_toList]
 have e:(arr.toList.take off++cs++arr.toList.drop (off+cs.length)).toArray=arr':=by
  rw[<-harr,hsp]
  subst hpre
  rw[List.take_left,<-hold,<-List.drop_drop,List.drop_left,List.drop_left,List.append_assoc]
 rw[e] at hr
 refine⟨w.setRow b arr',?_,hw.write rfl rfl rfl (by simp[World.setRow]) (setRow_heap w b arr arr' T _ hb) (fun k hk=>setRow_other w b k _ hk)⟩
 simp[storeVar,hsz,hsize,hc,hr]
theorem WL.store_box{b off:Nat}{t:TypeId}{T:TypeId}{x y:Operand}{arr arr':Array Value}{pre old rst cs:List Value}{v:Value}(hsz:∀w,(sizeOf t).run P w=.ok cs.length w)(hx:AF l x=some (.pointer (some ⟨b,off,none⟩)))(hy:AF l y=some v)
  (hc:v.cells.toList=cs)(hone:Jv cs)(hsp:arr.toList=pre++(old++rst))(hpre:pre.length=off)(hold:old.length=cs.length)(harr:(pre++(cs++rst)).toArray=arr')(hw:St w0 H ([(b,.cells arr T (0,0))]++L) w)
  (k:∀w',St w0 H ([(b,.cells arr' T (0,0))]++L) w'->WL P ops Q n l rest w'):WL P ops Q n l (⟨none,.store t x y,ty,pos,af,none⟩::rest) w:=by
 obtain⟨w',hr,hst⟩:=HF (P:=P) (t:=t) hsz hc hone hsp hpre hold harr hw
 refine WL.turn0 rfl rfl (fun a ha=>?_) (k w' hst)
 simp[execOp,Instr.storeAt,Instr.sureAddr,ha.eval hx,ha.eval hy,hr]
theorem As{dst:Option Tmp}{gd:Option (Nat×Bool)}{xs:List Operand}{vs caps:List Value}{ts:Array TypeId}{fo:Operand}{f:FuncId}
  (hf:AF l fo=some (.func (.func f) #[] caps.toArray))(hb:∀(args:Array Value)(w:World),(callFunc f args).run P w=.ok (.enter f args) w)(hv:Ii l xs vs):
  ∀a,Fr n l a->(execOp a.eval ⟨dst,.call {callee:=.value fo,args:=xs.toArray,argTypes:=ts},ty,pos,af,gd⟩).run P w=.ok (.enter f (vs++caps).toArray) w:=fun a ha=>by
 have:=Yt (P:=P) (w:=w) (dst:=dst) (ty:=ty) (pos:=pos) (af:=af) (gd:=gd) (ts:=ts) hf hb hv a ha
 simpa using this
end rules
theorem Px:∀(ys:List Value)(j:Nat)(off:Nat)(cells:Array Value),off+j+ys.length<=cells.size->
  ((ys.zipIdx j).foldl (fun cs(x:Value×Nat)=>cs.setIfInBounds (off+x.2) x.1) cells).toList=cells.toList.take (off+j)++(ys++cells.toList.drop (off+j+ys.length))
 |[],j,off,cells,_=>by simp
 |y::ys,j,off,cells,h=>by
  simp only[List.length_cons] at h
  rw[List.zipIdx_cons,List.foldl_cons,Px ys (j+1) off _ (by simp;omega)]
  simp only[Array.toList_setIfInBounds,List.length_cons]
  have hkl:off+j<cells.toList.length:=by rw[Array.length_toList];omega
  have e1:(cells.toList.set (off+j) y).take (off+(j+1))=cells.toList.take (off+j)++[y]:=by
   have hlt:(cells.toList.take (off+j)).length=off+j:=by rw[List.length_take];omega
   rw[show off+(j+1)=off+j+1 by omega,List.take_set,List.take_succ_eq_append_getElem hkl,List.set_append_right _ _ (by omega),hlt,Nat.sub_self]
   rfl
  have e2:(cells.toList.set (off+j) y).drop (off+(j+1)+ys.length)=cells.toList.drop (off+j+(ys.length+1)):=by
   rw[List.drop_set_of_lt (by omega)];congr 1;omega
  rw[e1,e2,List.append_assoc]
  rfl
theorem XJ(ys:Array Value)(off:Nat)(cells:Array Value)(h:off+ys.size<=cells.size):
  (ys.zipIdx.foldl (fun cs(x:Value×Nat)=>cs.setIfInBounds (off+x.2) x.1) cells)=(cells.toList.take off++(ys.toList++cells.toList.drop (off+ys.size))).toArray:=by
 apply Array.ext'
 rw[<-Array.foldl_toList,Array.toList_zipIdx]
 have:=Px ys.toList 0 off cells (by simpa using h)
 simpa using this
theorem PX(size:Nat):∀(vs:List Value)(css:List (List Value))(k:Nat)(cells:Array Value),vs.map (fun v=>v.cells.toList)=css->(∀cs∈css,cs.length=size)->(k+vs.length)* size<=cells.size->
  Instr.fill (fun i=>some (i* size,size)) cells (Cb k vs)=some (cells.toList.take (k* size)++(css.flatten++cells.toList.drop ((k+vs.length)* size))).toArray
 |[],_,k,cells,hc,_,_=>by subst hc;simp[Cb,Instr.fill]
 |v::vs,css,k,cells,hc,hl,hk=>by
  subst hc
  have hs:v.cells.size=size:=by have:=hl v.cells.toList (by simp);simpa using this
  simp only[List.length_cons] at hk
  have hle:(k+1)* size<=cells.size:=Nat.le_trans (Nat.mul_le_mul_right _ (by omega)) hk
  have hks:(k+1)* size=k* size+size:=by rw[Nat.add_mul,Nat.one_mul]
  simp only[Cb,Instr.fill]
  rw[if_neg (by simp[hs];omega),XJ _ _ _ (by rw[hs];omega)]
  rw[PX size vs _ (k+1) _ rfl (fun cs h=>hl cs (by simp only[List.map_cons,List.mem_cons];exact .inr h)) (by
   simp only[List.size_toArray,List.length_append,List.length_take,List.length_drop,Array.length_toList,hs]
   have e:(k+1+vs.length)* size=(k+(vs.length+1))* size:=by congr 1;omega
   rw[e];omega)]
  congr 2
  have hkl:(cells.toList.take (k* size)).length=k* size:=by rw[List.length_take,Array.length_toList];omega
  have hvl:v.cells.toList.length=size:=by simpa using hs
  simp only[List.map_cons,List.flatten_cons]
  have e1:(cells.toList.take (k* size)++(v.cells.toList++cells.toList.drop (k* size+v.cells.size))).take ((k+1)* size)=cells.toList.take (k* size)++v.cells.toList:=by
   rw[<-List.append_assoc,List.take_left' (by rw[List.length_append,hkl,hvl,hks])]
  have e2:(cells.toList.take (k* size)++(v.cells.toList++cells.toList.drop (k* size+v.cells.size))).drop ((k+1+vs.length)* size)=cells.toList.drop ((k+(vs.length+1))* size):=by
   have e:(k+1+vs.length)* size=(k+1)* size+vs.length* size:=by rw[Nat.add_mul]
   have e':(k+(vs.length+1))* size=(k+1)* size+vs.length* size:=by rw[<-e];congr 1;omega
   rw[e,e',<-List.append_assoc,<-List.drop_drop,List.drop_left' (by rw[List.length_append,hkl,hvl,hks]),List.drop_drop,hs,hks]
  rw[e1,e2]
  simp
theorem WL.builds{P:Program}{ops:Array Oper}{Q:Exit->Act->World->Prop}{n:Nat}{l:List (Nat×Value)}{rest:List Oper}{w0 w:World}{H:View}{L:Ar}{ty:TypeId}{pos:String}{af:Array Edge}
  {α:Type}{c:Codec α}{xs:List α}{vs:List Value}{css:List (List Value)}{d k:Nat}{t e:TypeId}{z:Value}{bytes:Nat}{ps:List (Nat×Operand)}(hdn:Nat.blt d n=true)(ht:P.underlying t=some (.slice e))
  (hi:(P.info? e).map (fun i=>(i.zero,i.size,i.bytes))=some (some z,c.size,bytes))(hk:ps.map (·.1)=List.range' 0 k)(hv:Ii l (ps.map (·.2)) vs)(hsmall:Nat.ble (k* c.size) 16777216=true)(hpos:0<c.size)
  (hcs:vs.map (fun v=>v.cells.toList)=css)(hall:∀cs∈css,cs.length=c.size)(hr:c.reps H css.flatten xs)(hw:St w0 H L w)
  (hlen:vs.length=k)(h0:k≠0)
  (go:∀v' w' fp',OwnSl H c e v' xs fp'->St w0 H (fp'++L) w'->WL P ops Q n ((d,v')::l) rest w'):
  WL P ops Q n l (⟨some d,.buildSlice t k ps.toArray,ty,pos,af,none⟩::rest) w:=by
 obtain⟨i,hI,hz,h3,h2⟩:=info_parts hi
 have hpl:ps.length=k:=by have:=HU hv;simp at this;omega
 have hfl:css.flatten.length=k* c.size:=by
  rw[List.length_flatten,<-hlen,<-List.length_map (f:=fun v:Value=>v.cells.toList),hcs]
  clear hcs hr
  induction css with
  |nil=>simp
  |cons x css ih=>simp[ih (fun cs h=>hall cs (by simp[h])),hall x (by simp),Nat.add_mul];omega
 have hxl:xs.length=k:=by
  have:=Codec.reps_length hr;rw[hfl] at this;exact(Nat.eq_of_mul_eq_mul_right hpos this).symm
 have hfill:=PX c.size vs css 0 ((Array.range (k* c.size)).map (z.cells[·%z.cells.size]!)) hcs hall (by simp[hlen])
 have hf2:((Array.range (k* c.size)).map (z.cells[·%z.cells.size]!)).toList.drop ((0+vs.length)* c.size)=[]:=by
  rw[List.drop_eq_nil_iff];simp[hlen]
 rw[hf2] at hfill
 simp only[Nat.zero_mul,List.take_zero,List.nil_append,List.append_nil] at hfill
 have hk16:k* c.size<=16777216:=by simpa using hsmall
 have hb:¬(k* c.size>2^24):=by omega
 have hkm:k<=maxLen:=by unfold maxLen;have:=Nat.le_mul_of_pos_right k hpos;omega
 have hkne:¬(k* c.size=0):=by
  have:=Nat.mul_pos (Nat.pos_of_ne_zero h0) hpos;omega
 refine WL.turn (w':=w.alloc (.cells css.flatten.toArray e)) (v:=.slice (some ⟨w.heap.size,0,none⟩) k k) rfl rfl hdn (fun a ha=>?_)
  (go _ _ _ (.inr ⟨_,k,css.flatten.toArray,css.flatten,[],by rw[hxl],rfl,by simp,by simp[hfl],by omega,hkm,hr⟩) (hw.alloc _))
 have he:=Im ha ps vs 0 (by rw[hpl];exact hk) hv
 simp only[execOp,Instr.buildSlice]
 simp[run_underlying ht,sizeOf,typeInfo,hI,h3,zeroValue,hz,newRow,hb,hkne,he,hfill]
theorem Aq{P:Program}{n:Nat}{l:List (Nat×Value)}{C:World->Prop}{dst:Option Tmp}{ty:TypeId}{pos:String}{af:Array Edge}{gd:Option (Nat×Bool)}{t:TypeId}{fields:Array Field}{places:Array (Nat×Nat)}{zero:Value}{zc cs:Array Value}{is:List Nat}{vs:List Value}{ps:List (Nat×Operand)}
  (ht:P.underlying t=some (.struct fields))(hz:∀w,(zeroValue t).run P w=.ok zero w)(hp:∀w,(Array.mapM (fun f:Field=>Prod.mk f.offset<$>sizeOf f.type) fields).run P w=.ok places w)
  (hi:ps.map (·.1)=is)(hv:Ii l (ps.map (·.2)) vs)(hzc:zero.cells=zc)(hf:Instr.fill (places[·]?) zc (is.zip vs)=some cs):
  Exv P n l C ⟨dst,.build t ps.toArray,ty,pos,af,gd⟩ (.agg cs):=fun w _ a ha=>by
 have he:ps.map (fun p=>(p.1,a.eval p.2))=is.zip vs:=by
  have:=ha.evals hv
  rw[<-hi,<-this]
  clear hi hv hf this
  induction ps with
  |nil=>rfl
  |cons p ps ih=>simp[ih]
 simp[execOp,Instr.build,hz,run_underlying ht,hp,he,hzc,hf]
end Go.Vc
namespace Go.Vc
open Go
abbrev GU:=List (Nat×((World->Prop)->Prop))
def VS(P:Program)(o:Oper)(a:Act)(C:World->Prop)(v:Value):Prop:=∀w,C w->(execOp a.eval o).run P w=.ok (.value v) w
def Dc(P:Program)(o:Oper)(a:Act)(w:World)(F:Value->World->Prop):Prop:=
 match(execOp a.eval o).run P w with
 |.ok (.value v) w'=>F v w'
 |.ok .skip w'=>F undef w'
 |.ok (.enter f args) w'=>Calls P f args w' (fun e w''=>∃v,e=.returned v/\F v w'')
 |.ok (.row row args) w'=>Rows P row args w' F
 |_=>False
def Dx(P:Program)(ops:Array Oper)(eff:Nat->Bool)(anc:Nat->Nat->Bool)(Q:Act->World->Prop):List Nat->GU->Act->(World->Prop)->Prop
 |[],_,a,C=>∀w,C w->Q a w
 |i::R,pend,a,C=>∃o,ops[i]? =some o/\
  (eff i=true->∀w,C w->Dc P o a w (fun v w'=>∃C',C' w'/\(∀p∈pend,anc p.1 i=false->p.2 C')/\Dx P ops eff anc Q R pend (a.put o.dst v) C'))/\
  (eff i=false->∃v,VS P o a C v/\Dx P ops eff anc Q R ((i,fun C'=>VS P o a C' v)::pend) (a.put o.dst v) C)
theorem Em{P:Program}{o:Oper}{a:Act}{w:World}{F G:Value->World->Prop}(h:∀v w',F v w'->G v w')(hf:Dc P o a w F):Dc P o a w G:=by
 unfold Dc at*
 generalize(execOp a.eval o).run P w=r at*
 cases r with
 |ok n w'=>
  cases n<;>simp only at hf ⊢<;>first
   |exact h _ _ hf
   |exact hf.mono fun e w''⟨v,he,hv⟩=>⟨v,he,h _ _ hv⟩
   |exact hf.mono fun v w'' hv=>h _ _ hv
   |exact hf
 |halt x w'=>exact hf
theorem JG{P:Program}{o:Oper}{a b:Act}{w:World}{F:Value->World->Prop}(he:execOp b.eval o=execOp a.eval o)(hf:Dc P o a w F):Dc P o b w F:=by
 unfold Dc at*;rw[he];exact hf
section dr
variable{P:Program}{ops:Array Oper}{eff:Nat->Bool}{anc:Nat->Nat->Bool}{Q:Act->World->Prop}
theorem CD:∀{R:List Nat}{pend pend':GU}{a:Act}{C:World->Prop},(∀p'∈pend',∃p∈pend,p.1=p'.1/\∀C,p.2 C->p'.2 C)->Dx P ops eff anc Q R pend a C->Dx P ops eff anc Q R pend' a C
 |[],_,_,_,_,_,h=>h
 |i::R,pend,pend',a,C,hp,⟨o,ho,h1,h2⟩=>by
  refine⟨o,ho,fun he w hw=>?_,fun he=>?_⟩
  ·refine Em ?_ (h1 he w hw)
   rintro v w'⟨C',g1,g2,g3⟩
   refine⟨C',g1,fun p' hp' ha=>?_,CD hp g3⟩
   obtain⟨p,hm,e,k⟩:=hp p' hp'
   exact k _ (g2 p hm (e▸ha))
  ·obtain⟨v,g1,g2⟩:=h2 he
   refine⟨v,g1,CD (fun p' hp'=>?_) g2⟩
   rcases(List.mem_cons.1 hp').symm with hp'|hp'
   ·obtain⟨p,hm,e,k⟩:=hp p' hp'
    exact⟨p,List.mem_cons_of_mem _ hm,e,k⟩
   ·exact⟨p',hp'▸List.mem_cons_self,rfl,fun _ h=>h⟩
def EM(o:Oper):Prop:=∀cs b,o.op≠.select cs b
theorem DV{o o':Oper}{a:Act}{C:World->Prop}{v u:Value}(hs:EM o)(h:∀d,o'.dst=some d->d∉o.looksAt ops):VS P o (a.put o'.dst u) C v↔VS P o a C v:=by
 unfold VS;rw[execOp_put (ops:=ops) o hs a o'.dst u h]
theorem DS{i:Nat}{oi:Oper}(hoi:ops[i]? =some oi)(hi:eff i=false)(hsi:EM oi):∀{L1 L2:List Nat}{pend:GU}{a:Act}{C:World->Prop},
  (∀j∈L1,eff j=false/\∀oj,ops[j]? =some oj->EM oj/\oi.apart ops oj=true)->Dx P ops eff anc Q (L1++i::L2) pend a C->∃v,VS P oi a C v/\Dx P ops eff anc Q (L1++L2) pend (a.put oi.dst v) C
 |[],L2,pend,a,C,_,⟨o,ho,_,h2⟩=>by
  rw[hoi] at ho;cases ho
  obtain⟨v,g1,g2⟩:=h2 hi
  exact⟨v,g1,CD (fun p hp=>⟨p,List.mem_cons_of_mem _ hp,rfl,fun _ h=>h⟩) g2⟩
 |j::L1,L2,pend,a,C,hL,⟨oj,hoj,_,h2⟩=>by
  obtain⟨hj,hj2⟩:=hL j (by simp)
  obtain⟨hsj,hap⟩:=hj2 oj hoj
  obtain⟨a1,a2,a3⟩:=Oper.apart_spec hap
  obtain⟨vj,g1,g2⟩:=h2 hj
  obtain⟨v,k1,k2⟩:=DS hoi hi hsi (fun x hx=>hL x (by simp[hx])) g2
  refine⟨v,(DV (ops:=ops) hsi a3).1 k1,oj,hoj,fun he=>(by rw[hj] at he;cases he),fun _=>⟨vj,(DV (ops:=ops) hsj a1).2 g1,?_⟩⟩
  rw[Act.put_comm a v vj a2]
  refine CD (fun p hp=>?_) k2
  rcases(List.mem_cons.1 hp).symm with hp|hp
  ·exact⟨p,List.mem_cons_of_mem _ hp,rfl,fun _ h=>h⟩
  ·rw[hp]
   exact⟨_,List.mem_cons_self,rfl,fun C' h=>(DV (ops:=ops) hsj a1).2 h⟩
theorem GI{i:Nat}{oi:Oper}(hoi:ops[i]? =some oi)(hi:eff i=true)(hsi:EM oi):∀{L1 L2:List Nat}{pend:GU}{a:Act}{C:World->Prop}{w:World},
  (∀j∈L1,eff j=false/\anc j i=false/\∀oj,ops[j]? =some oj->EM oj/\oi.apart ops oj=true)->C w->Dx P ops eff anc Q (L1++i::L2) pend a C->
  Dc P oi a w (fun v w'=>∃C',C' w'/\(∀p∈pend,anc p.1 i=false->p.2 C')/\Dx P ops eff anc Q (L1++L2) pend (a.put oi.dst v) C')
 |[],L2,pend,a,C,w,_,hw,⟨o,ho,h1,_⟩=>by
  rw[hoi] at ho;cases ho
  exact h1 hi w hw
 |j::L1,L2,pend,a,C,w,hL,hw,⟨oj,hoj,_,h2⟩=>by
  obtain⟨hj,hja,hj2⟩:=hL j (by simp)
  obtain⟨hsj,hap⟩:=hj2 oj hoj
  obtain⟨a1,a2,a3⟩:=Oper.apart_spec hap
  obtain⟨vj,g1,g2⟩:=h2 hj
  have k:=GI hoi hi hsi (fun x hx=>hL x (by simp[hx])) hw g2
  refine Em ?_ (JG (execOp_put (ops:=ops) oi hsi a oj.dst vj a3).symm k)
  rintro v w'⟨C',c1,c2,c3⟩
  refine⟨C',c1,fun p hp=>c2 p (List.mem_cons_of_mem _ hp),oj,hoj,fun he=>(by rw[hj] at he;cases he),fun _=>⟨vj,?_,?_⟩⟩
  ·have:=c2 _ (List.mem_cons_self) hja
   exact(DV (ops:=ops) hsj a1).2 this
  ·rw[Act.put_comm a v vj a2]
   refine CD (fun p hp=>?_) c3
   rcases(List.mem_cons.1 hp).symm with hp|hp
   ·exact⟨p,List.mem_cons_of_mem _ hp,rfl,fun _ h=>h⟩
   ·rw[hp]
    exact⟨_,List.mem_cons_self,rfl,fun C' h=>(DV (ops:=ops) hsj a1).2 h⟩
def Bn(ops:Array Oper)(i:Nat):List Nat:=match ops[i]? with|some o=>(o.after.toList.filter (Region.binds .any)).map (·.on)|none=>[]
def Adh(ops:Array Oper):Nat->Nat->Nat->Bool
 |0,_,_=>false
 |k+1,j,i=>(Bn ops i).any fun e=>Nat.beq e j||Adh ops k j e
def NO(ops:Array Oper)(eff:Nat->Bool)(anc:Nat->Nat->Bool)(j i:Nat):Bool:=
 (!(Bn ops j).contains i)&&(anc j i||(!eff j&&(match ops[i]?,ops[j]? with|some oi,some oj=>oi.apart ops oj|_,_=>false)))
def Io(r:Nat->Nat->Bool):List Nat->Bool
 |[]=>true
 |j::R=>R.all (r j)&&Io r R
def PW(ops:Array Oper)(eff:Nat->Bool)(anc:Nat->Nat->Bool)(σ:List Nat):Bool:=
 Region.noSelect ops&&ops.all (fun o=>o.guard.isNone)&&(List.range ops.size).all (fun i=>σ.contains i)&&Nat.beq σ.length ops.size&&σ.all (fun i=>Nat.blt i ops.size)&&Io (fun j i=> !Nat.beq j i) σ&&
 (List.range ops.size).all (fun i=>(Bn ops i).all fun e=>Nat.blt e ops.size&& !Nat.beq e i)&&Io (NO ops eff anc) σ
theorem Dd{r:Nat->Nat->Bool}:∀{R:List Nat},Io r R=true->R.Pairwise (fun j i=>r j i=true)
 |[],_=>List.Pairwise.nil
 |j::R,h=>by
  simp only[Io,Bool.and_eq_true,List.all_eq_true] at h
  exact List.Pairwise.cons h.1 (Dd h.2)
theorem JB{i:Nat}{o:Oper}(ho:ops[i]? =some o){e:Edge}(he:e∈o.after)(hb:Region.binds .any e=true):e.on∈Bn ops i:=by
 unfold Bn;rw[ho]
 exact List.mem_map.2 ⟨e,List.mem_filter.2 ⟨by simpa using he,hb⟩,rfl⟩
theorem El{i e:Nat}(h:e∈Bn ops i):∃o ed,ops[i]? =some o/\ed∈o.after/\Region.binds .any ed=true/\ed.on=e:=by
 unfold Bn at h
 split at h
 ·rename_i o ho
  obtain⟨ed,h1,h2⟩:=List.mem_map.1 h
  obtain⟨h3,h4⟩:=List.mem_filter.1 h1
  exact⟨o,ed,ho,by simpa using h3,h4,h2⟩
 ·cases h
theorem UK{listed:Array Bool}(hd:∀i,listed.getD i false=true->∀e∈Bn ops i,listed.getD e false=true):∀(k j i:Nat),(∀e∈Bn ops i,listed.getD e false=true)->Adh ops k j i=true->listed.getD j false=true
 |0,_,_,_,h=>by cases h
 |k+1,j,i,hi,h=>by
  simp only[Adh,List.any_eq_true,Bool.or_eq_true] at h
  obtain⟨e,he,h|h⟩:=h
  ·have:=Nat.eq_of_beq_eq_true h
   subst this;exact hi _ he
  ·exact UK hd k j e (hd e (hi e he)) h
def ZA:List (List Nat)->Nat->List Nat
 |[],_=>[]
 |x::_,0=>x
 |_::l,n+1=>ZA l n
def AaG(j:Nat):List Nat->Bool
 |[]=>false
 |k::l=>bif Nat.beq j k then true else AaG j l
theorem Wb:∀(l:List (List Nat))(n:Nat),ZA l n=l.getD n []
 |[],_=>by simp[ZA]
 |_::_,0=>rfl
 |_::l,n+1=>by simp[ZA,Wb l n]
theorem VL(j:Nat):∀(l:List Nat),AaG j l=true↔j∈l
 |[]=>by simp[AaG]
 |k::l=>by
  have ih:=VL j l
  unfold AaG
  cases hb:Nat.beq j k with
  |true=>have:=Nat.eq_of_beq_eq_true hb;subst this;simp
  |false=>
   have hne:j≠k:=fun e=>by subst e;simp at hb
   simp[ih,hne]
def Gs(tbl:List (List Nat))(j i:Nat):Bool:=AaG j (ZA tbl i)
def Sv(ops:Array Oper)(tbl:List (List Nat))(σ:List Nat):Bool:=
 Nat.ble tbl.length ops.size&&(List.range ops.size).all fun i=>(Bn ops i).all (fun e=>Nat.blt (σ.idxOf e) (σ.idxOf i))&&(tbl.getD i []).all fun j=>(Bn ops i).contains j||(Bn ops i).any fun e=>(tbl.getD e []).contains j
theorem Ij{tbl:List (List Nat)}{σ:List Nat}(h:Sv ops tbl σ=true){listed:Array Bool}(hd:∀i,listed.getD i false=true->∀e∈Bn ops i,listed.getD e false=true):∀j i,(∀e∈Bn ops i,listed.getD e false=true)->Gs tbl j i=true->listed.getD j false=true:=by
 simp only[Sv,Bool.and_eq_true,List.all_eq_true,List.mem_range,Bool.or_eq_true,List.any_eq_true,Nat.blt_eq,List.contains_eq_mem,decide_eq_true_eq] at h
 obtain⟨hl,h⟩:=h
 have hl':tbl.length<=ops.size:=by simpa using hl
 have key:∀(m:Nat)(j i:Nat),σ.idxOf i<m->(∀e∈Bn ops i,listed.getD e false=true)->j∈tbl.getD i []->listed.getD j false=true:=by
  intro m
  induction m with
  |zero=>intro j i hi;omega
  |succ m ih=>
   intro j i hi hdi hj
   have hlt:i<ops.size:=by
    rcases Nat.lt_or_ge i tbl.length with h|h
    ·omega
    ·rw[List.getD_eq_getElem?_getD,List.getElem?_eq_none h] at hj;simp at hj
   obtain⟨h1,h2⟩:=h i hlt
   rcases h2 j hj with h3|⟨e,h3,h4⟩
   ·exact hdi j h3
   ·exact ih j e (by have:=h1 e h3;omega) (hd e (hdi e h3)) h4
 intro j i hdi hj
 exact key (σ.idxOf i+1) j i (by omega) hdi (by rw[Gs,VL,Wb] at hj;exact hj)
theorem EG{Qx:Exit->Act->World->Prop}(hanc:∀(listed:Array Bool),(∀i,listed.getD i false=true->∀e∈Bn ops i,listed.getD e false=true)->∀j i,(∀e∈Bn ops i,listed.getD e false=true)->anc j i=true->listed.getD j false=true)(hsel:Region.noSelect ops=true)(hg:∀o∈ops,o.guard=none)
  (hdir:∀i,∀e∈Bn ops i,e<ops.size/\e≠i):∀(m:Nat)(R:List Nat)(listed:Array Bool)(a:Act)(w:World)(C:World->Prop),R.length=m->listed.size=ops.size->(∀i,i∈R↔(i<ops.size/\listed.getD i false=false))->R.Nodup->
  R.Pairwise (fun j i=>NO ops eff anc j i=true)->(∀i,listed.getD i false=true->∀e∈Bn ops i,listed.getD e false=true)->
  Dx P ops eff anc (fun a w=>Qx .normal a w) R [] a C->C w->wpAny P .any ops Qx m listed a w
 |m,R,listed,a,w,C,hlen,hsz,hmem,hnd,hpw,hdc,h,hw=>by
  have hready0:Region.ready .any ops listed=[]->R=[]:=by
   intro hr
   cases R with
   |nil=>rfl
   |cons i R=>
    exfalso
    have hi:=(hmem i).1 (by simp)
    have hio:ops[i]? =some ops[i]:=Array.getElem?_eq_getElem hi.1
    have:i∈Region.ready .any ops listed:=by
     rw[mem_ready]
     refine⟨?_,ops[i],hio,fun e he hb=>?_⟩
     ·have:=hi.2
      rw[Array.getD_eq_getD_getElem?,Array.getElem?_eq_getElem (by omega)] at this ⊢
      simpa using this
     ·have hem:=JB hio he hb
      cases hl:listed.getD e.on false with
      |true=>rfl
      |false=>
       exfalso
       have h1:=hdir i e.on hem
       have h2:e.on∈i::R:=(hmem e.on).2 ⟨h1.1,hl⟩
       rcases List.mem_cons.1 h2 with h2|h2
       ·exact h1.2 h2
       ·have h3:=(List.pairwise_cons.1 hpw).1 _ h2
        simp only[NO,Bool.and_eq_true,Bool.not_eq_true',List.contains_eq_mem,decide_eq_false_iff_not] at h3
        exact h3.1 hem
    rw[hr] at this;cases this
  have hQ:Region.ready .any ops listed=[]->Qx .normal a w:=by
   intro hr
   have:=hready0 hr
   subst this
   exact h w hw
  cases m with
  |zero=>
   have:R=[]:=List.length_eq_zero_iff.1 hlen
   subst this
   have hr:Region.ready .any ops listed=[]:=by
    cases hr:Region.ready .any ops listed with
    |nil=>rfl
    |cons i r=>
     have hi:i∈Region.ready .any ops listed:=by rw[hr];simp
     obtain⟨h1,o,ho,_⟩:=mem_ready.1 hi
     have hlt:=(Array.getElem?_eq_some_iff.1 ho).1
     have:=(hmem i).2 ⟨hlt,by
      rw[Array.getD_eq_getD_getElem?,Array.getElem?_eq_getElem (by omega)] at h1 ⊢
      simpa using h1⟩
     cases this
   exact⟨hr,hQ hr⟩
  |succ m=>
   refine⟨hQ,fun i hi=>?_⟩
   obtain⟨h1,oi,ho,hall⟩:=mem_ready.1 hi
   have hlt:=(Array.getElem?_eq_some_iff.1 ho).1
   have hlf:listed.getD i false=false:=by
    rw[Array.getD_eq_getD_getElem?,Array.getElem?_eq_getElem (by omega)] at h1 ⊢
    simpa using h1
   have hdl:∀e∈Bn ops i,listed.getD e false=true:=fun e he=>by
    obtain⟨o',ed,g1,g2,g3,g4⟩:=El he
    rw[ho] at g1;cases g1
    rw[<-g4];exact hall ed g2 g3
   obtain⟨L1,L2,rfl⟩:=List.append_of_mem ((hmem i).2 ⟨hlt,hlf⟩)
   have hL1:∀j∈L1,eff j=false/\anc j i=false/\∀oj,ops[j]? =some oj->EM oj/\oi.apart ops oj=true:=by
    intro j hj
    have hju:=((hmem j).1 (List.mem_append_left _ hj)).2
    have hanc:anc j i=false:=by
     cases hb:anc j i with
     |false=>rfl
     |true=>rw[hanc listed hdc j i hdl hb] at hju;cases hju
    have hr:=(List.pairwise_append.1 hpw).2.2 j hj i (by simp)
    simp only[NO,hanc,Bool.false_or,Bool.and_eq_true,Bool.not_eq_true'] at hr
    obtain⟨_,he,hap⟩:=hr
    refine⟨he,hanc,fun oj hoj=>⟨fun cs b=>Region.noSelect_spec hsel j oj cs b hoj,?_⟩⟩
    rw[ho,hoj] at hap;exact hap
   have hsi:EM oi:=fun cs b=>Region.noSelect_spec hsel i oi cs b ho
   have hwant:∀l,Region.wanted oi l=true:=fun l=>by
    have:=hg oi (Array.mem_of_getElem? ho)
    simp[Region.wanted,this]
   have key:∀(a':Act)(w':World)(C':World->Prop),C' w'->Dx P ops eff anc (fun a w=>Qx .normal a w) (L1++L2) [] a' C'->wpAny P .any ops Qx m (listed.setIfInBounds i true) a' w':=by
    intro a' w' C' hw' h'
    have hgd:∀j,(listed.setIfInBounds i true).getD j false=if i=j then true else listed.getD j false:=by
     intro j
     rw[Array.getD_eq_getD_getElem?,Array.getElem?_setIfInBounds,Array.getD_eq_getD_getElem?]
     split
     ·rename_i e;subst e;simp[hsz,hlt]
     ·rfl
    have hnd':=hnd
    rw[List.nodup_append] at hnd'
    refine EG hanc hsel hg hdir m (L1++L2) _ a' w' C' (by simp at hlen ⊢;omega) (by simp[hsz]) (fun j=>?_) ?_ ?_ (fun j hj e he=>?_) h' hw'
    ·rw[hgd]
     have:=hmem j
     constructor
     ·intro hj
      have hne:¬i=j:=by
       rintro rfl
       rcases List.mem_append.1 hj with hj|hj
       ·exact(hnd'.2.2 i hj i (by simp)) rfl
       ·exact(List.nodup_cons.1 hnd'.2.1).1 hj
      rw[if_neg hne]
      exact this.1 (by rcases List.mem_append.1 hj with hj|hj<;>simp[hj])
     ·rintro⟨g1,g2⟩
      by_cases hne:i=j
      ·rw[if_pos hne] at g2;cases g2
      ·rw[if_neg hne] at g2
       have:=this.2 ⟨g1,g2⟩
       rcases List.mem_append.1 this with hj|hj
       ·simp[hj]
       ·rcases List.mem_cons.1 hj with hj|hj
        ·exact absurd hj.symm hne
        ·simp[hj]
    ·exact hnd.sublist (List.Sublist.append (List.Sublist.refl _) (List.sublist_cons_self _ _))
    ·exact hpw.sublist (List.Sublist.append (List.Sublist.refl _) (List.sublist_cons_self _ _))
    ·rw[hgd] at hj ⊢
     split
     ·rfl
     ·split at hj
      ·rename_i e';subst e';exact hdl e he
      ·exact hdc j hj e he
   unfold wpOp
   rw[ho]
   simp only[hwant,if_true]
   left
   cases he:eff i with
   |false=>
    obtain⟨v,g1,g2⟩:=DS ho he hsi (fun j hj=>⟨(hL1 j hj).1,(hL1 j hj).2.2⟩) h
    unfold Oper.wp
    rw[g1 w hw,Oper.upon_value]
    exact key _ _ _ hw g2
   |true=>
    have g:=GI ho he hsi hL1 hw h
    unfold Dc at g
    unfold Oper.wp
    generalize(execOp a.eval oi).run P w=r at*
    cases r with
    |ok n w'=>
     cases n<;>simp only at g
     case value v=>
      obtain⟨C',c1,_,c3⟩:=g
      exact key _ _ _ c1 c3
     case skip=>
      obtain⟨C',c1,_,c3⟩:=g
      exact key _ _ _ c1 c3
     case enter f args=>
      rw[Oper.upon_enter]
      refine g.mono fun e w''⟨v,hev,C',c1,_,c3⟩=>?_
      subst hev
      exact key _ _ _ c1 c3
     case row row args=>
      rw[Oper.upon_row]
      exact g.mono fun v w''⟨C',c1,_,c3⟩=>key _ _ _ c1 c3
    |halt x w'=>exact g.elim
theorem Ht{id:Nat}{tbl:List (List Nat)}{Qx:Exit->Act->World->Prop}{a:Act}{w:World}{σ:List Nat}{C:World->Prop}(hm:P.follows .mixedOrders=true)(hB:(PW ops eff (Gs tbl) σ&&Sv ops tbl σ)=true)(hC:C {w with drawn:=w.drawn+1})
  (h:Dx P ops eff (Gs tbl) (fun a w=>Qx .normal a w) σ [] a C):(Code.region id ops true).wp P Qx a w:=by
 rw[Bool.and_eq_true] at hB
 obtain⟨hB,hT⟩:=hB
 simp only[PW,Bool.and_eq_true,List.all_eq_true,List.mem_range,Bool.not_eq_true',Nat.blt_eq] at hB
 obtain⟨⟨⟨⟨⟨⟨⟨h1,h2⟩,h3⟩,h4⟩,h5⟩,h6⟩,h7⟩,h8⟩:=hB
 have hlen:σ.length=ops.size:=Nat.eq_of_beq_eq_true h4
 have hg0:∀i,(Array.replicate ops.size false).getD i false=false:=fun i=>by
  rw[Array.getD_eq_getD_getElem?,Array.getElem?_replicate];split<;>rfl
 refine wp_region_any hm ?_
 have:=EG (P:=P) (ops:=ops) (eff:=eff) (anc:=Gs tbl) (Qx:=Qx) (fun listed hd=>Ij hT hd) h1 (fun o ho=>?_) (fun i e he=>?_) ops.size σ (Array.replicate ops.size false) a _ C hlen (by simp) (fun i=>?_) ?_ (Dd h8) (fun i hi=>by rw[hg0] at hi;cases hi) h hC
 ·exact this
 ·have:=Array.all_eq_true_iff_forall_mem.1 h2 o ho
  simpa using this
 ·have hi:i<ops.size:=by
   obtain⟨o,_,ho,_⟩:=El he
   exact(Array.getElem?_eq_some_iff.1 ho).1
  have:=h7 i hi e he
  refine⟨this.1,fun e'=>?_⟩
  have h9:=this.2
  rw[e'] at h9;simp at h9
 ·rw[hg0]
  constructor
  ·intro hi;exact⟨h5 i hi,rfl⟩
  ·intro hi
   have:=h3 i hi.1
   simpa using this
 ·have:=Dd h6
  refine List.Pairwise.imp ?_ this
  intro x y hxy e
  subst e;simp at hxy
end dr
def Wd(P:Program)(ops:Array Oper)(eff:Nat->Bool)(anc:Nat->Nat->Bool)(Qx:Exit->Act->World->Prop)(n:Nat)(l:List (Nat×Value))(R:List Nat)(pend:GU)(C:World->Prop):Prop:=
 ∀a,Fr n l a->Dx P ops eff anc (fun a w=>Qx .normal a w) R pend a C
def DQ(P:Program)(ops:Array Oper)(eff:Nat->Bool)(anc:Nat->Nat->Bool)(Qx:Exit->Act->World->Prop)(i:Nat)(R:List Nat)(pend:GU):Exit->Act->World->Prop:=fun e a' w'=>
 e=.normal/\a'.defers=[]/\∃C',C' w'/\(∀p∈pend,anc p.1 i=false->p.2 C')/\Dx P ops eff anc (fun a w=>Qx .normal a w) R pend a' C'
section
variable{P:Program}{ops:Array Oper}{eff:Nat->Bool}{anc:Nat->Nat->Bool}{Qx:Exit->Act->World->Prop}{n:Nat}{l:List (Nat×Value)}{R:List Nat}{pend:GU}{C:World->Prop}{w:World}
theorem WC.drawn{id:Nat}(tbl:List (List Nat)){ol:List Oper}{σ:List Nat}(effs:List Nat)(hm:P.follows .mixedOrders=true)(hB:(PW ol.toArray (fun i=>effs.contains i) (Gs tbl) σ&&Sv ol.toArray tbl σ)=true)(hC:C {w with drawn:=w.drawn+1})
  (h:Wd P ol.toArray (fun i=>effs.contains i) (Gs tbl) Qx n l σ [] C):WC P Qx n l (.region id ol.toArray true) w:=fun a ha=>Ht hm hB hC (h a ha)
theorem Wd.nil(h:∀w,C w->WQ Qx .normal n l w):Wd P ops eff anc Qx n l [] pend C:=fun a ha w hw=>h w hw a ha
theorem Wd.step{i d:Nat}{o:Oper}{v:Value}(ho:ops[i]? =some o)(he:eff i=false)(hd:o.dst=some d)(hdn:Nat.blt d n=true)(hx:Exv P n l C o v)
  (k:∀p:(World->Prop)->Prop,(∀C',Exv P n l C' o v->p C')->Wd P ops eff anc Qx n ((d,v)::l) R ((i,p)::pend) C):Wd P ops eff anc Qx n l (i::R) pend C:=fun a ha=>
 ⟨o,ho,fun h=>(by rw[he] at h;cases h),fun _=>⟨v,fun w hw=>hx w hw a ha,by
  have:=k (fun C'=>VS P o a C' v) (fun C' h w hw=>h w hw a ha) (a.put (some d) v) (ha.put hdn v)
  rw[hd];exact this⟩⟩
theorem Wd.run{i d:Nat}{o:Oper}{v:Value}(ho:ops[i]? =some o)(he:eff i=false)(hd:o.dst=some d)(hdn:Nat.blt d n=true)(hx:∀C,Exv P n l C o v)
  (k:∀p:(World->Prop)->Prop,(∀C',p C')->Wd P ops eff anc Qx n ((d,v)::l) R ((i,p)::pend) C):Wd P ops eff anc Qx n l (i::R) pend C:=
 Wd.step ho he hd hdn (hx C) fun p hp=>k p fun C'=>hp C' (hx C')
theorem Wd.runx{D:Value->Prop}{i d:Nat}{o:Oper}(ho:ops[i]? =some o)(he:eff i=false)(hd:o.dst=some d)(hdn:Nat.blt d n=true)(hx:∃v,D v/\∀C,Exv P n l C o v)
  (k:∀v,D v->∀p:(World->Prop)->Prop,(∀C',p C')->Wd P ops eff anc Qx n ((d,v)::l) R ((i,p)::pend) C):Wd P ops eff anc Qx n l (i::R) pend C:=
 let⟨v,hv,h⟩:=hx;Wd.run ho he hd hdn h (k v hv)
theorem Wd.runs{w0:World}{H:View}{fp L:Ar}{D:Value->Prop}{i d:Nat}{o:Oper}(ho:ops[i]? =some o)(he:eff i=false)(hd:o.dst=some d)(hdn:Nat.blt d n=true)
  (hx:∃v,D v/\∀K L,View.le H K->Exv P n l (St w0 K (fp++L)) o v)(hC:∀w,C w->St w0 H (fp++L) w)
  (k:∀v,D v->∀p:(World->Prop)->Prop,(∀K L C',View.le H K->(∀w,C' w->St w0 K (fp++L) w)->p C')->Wd P ops eff anc Qx n ((d,v)::l) R ((i,p)::pend) C):Wd P ops eff anc Qx n l (i::R) pend C:=
 let⟨v,hv,h⟩:=hx
 Wd.step ho he hd hdn ((h H L (View.le.refl _)).of hC) fun p hp=>k v hv p fun K L C' hle hc=>hp C' ((h K L hle).of hc)
theorem Wd.runb{w0:World}{H:View}{L:Ar}{b off:Nat}{arr:Array Value}{T:TypeId}{u:Value}{i d:Nat}{o:Oper}(ho:ops[i]? =some o)(he:eff i=false)(hd:o.dst=some d)(hdn:Nat.blt d n=true)
  (hx:∀(K:View)(L:Ar)(arr':Array Value),arr'[off]? =some u->Exv P n l (St w0 K ([(b,.cells arr' T (0,0))]++L)) o u)(hu:arr[off]? =some u)(hC:∀w,C w->St w0 H ([(b,.cells arr T (0,0))]++L) w)
  (k:∀p:(World->Prop)->Prop,(∀(K:View)(L:Ar)(arr':Array Value)(C':World->Prop),arr'[off]? =some u->(∀w,C' w->St w0 K ([(b,.cells arr' T (0,0))]++L) w)->p C')->Wd P ops eff anc Qx n ((d,u)::l) R ((i,p)::pend) C):Wd P ops eff anc Qx n l (i::R) pend C:=
 Wd.step ho he hd hdn ((hx H L arr hu).of hC) fun p hp=>k p fun K L arr' C' h1 hc=>hp C' ((hx K L arr' h1).of hc)
theorem Wd.turn{i:Nat}{o:Oper}(ho:ops[i]? =some o)(he:eff i=true)(hg:o.guard=none)(h:∀w,C w->WL P ops (DQ P ops eff anc Qx i R pend) n l [o] w):Wd P ops eff anc Qx n l (i::R) pend C:=fun a ha=>by
 refine⟨o,ho,fun _ w hw=>?_,fun h=>(by rw[he] at h;cases h)⟩
 have h1:=h w hw a ha
 unfold wpList at h1
 rw[if_pos (by simp[Region.wanted,hg])] at h1
 rcases h1 with h2|⟨_,a',w',h2⟩
 ·replace h2:o.wp P a w (fun a' w'=>DQ P ops eff anc Qx i R pend .normal a' w') (DQ P ops eff anc Qx i R pend):=h2
  unfold Oper.wp at h2
  unfold Dc
  generalize(execOp a.eval o).run P w=r at*
  cases r with
  |ok nx w'=>
   cases nx<;>simp only[Oper.upon] at h2 ⊢
   case value v=>exact h2.2.2
   case skip=>exact h2.2.2
   case defer d=>
    have:=h2.2.1
    generalize o.dst=od at this
    cases od<;>simp[Act.put] at this
   case enter f args=>
    refine h2.mono fun e w'' hq=>?_
    cases e with
    |returned v=>exact⟨v,rfl,hq.2.2⟩
    |panicked c=>exact absurd hq.1 (by simp)
    |outgrown=>
     obtain⟨_,_,h3⟩:=hq
     exact absurd h3.1 (by simp)
   case row row args=>exact h2.mono fun v w'' hq=>hq.2.2
  |halt x w'=>
   cases x<;>simp only[Oper.upon] at h2
   all_goals first|exact h2.elim|exact absurd h2.1 (by simp)
 ·exact absurd h2.1 (by simp)
theorem DQ.mk{i:Nat}{C':World->Prop}(hC:C' w)(hp:∀p∈pend,anc p.1 i=false->p.2 C')(h:Wd P ops eff anc Qx n l R pend C'):WQ (DQ P ops eff anc Qx i R pend) .normal n l w:=fun a ha=>⟨rfl,ha.defers,C',hC,hp,h a ha⟩
def PendB(anc:Nat->Nat->Bool)(i:Nat)(C':World->Prop):GU->Prop
 |[]=>True
 |p::l=>(anc p.1 i=true\/p.2 C')/\PendB anc i C' l
theorem PendB.all{anc:Nat->Nat->Bool}{i:Nat}{C':World->Prop}:∀{pend:GU},PendB anc i C' pend->∀p∈pend,anc p.1 i=false->p.2 C'
 |p::l,⟨h1,h2⟩,q,hq,ha=>by
  rcases List.mem_cons.1 hq with rfl|hq
  ·rcases h1 with h1|h1
   ·rw[h1] at ha;cases ha
   ·exact h1
  ·exact PendB.all h2 q hq ha
theorem DQ.mk2{i:Nat}{C':World->Prop}(hC:C' w)(hp:PendB anc i C' pend)(h:Wd P ops eff anc Qx n l R pend C'):WQ (DQ P ops eff anc Qx i R pend) .normal n l w:=DQ.mk hC hp.all h
theorem AA{D:Value->Prop}{o:Oper}(h:∃v,D v/\Exv P n l (fun _=>True) o v):∃v,D v/\∀C,Exv P n l C o v:=let⟨v,hv,hx⟩:=h;⟨v,hv,fun _=>hx.of fun _ _=>trivial⟩
section loads
variable{w0:World}{H:View}{dst:Option Tmp}{ty:TypeId}{pos:String}{af:Array Edge}{gd:Option (Nat×Bool)}
theorem Dl{α:Type}{c:Codec α}{t:TypeId}{x:Operand}{p:Value}{z:α}(hag:∀w,(isAgg t).run P w=.ok false w)(h1:c.size=1)
  (hx:AF l x=some p)(hp:IsPt H c p z):∃u,c.rep H [u] z/\∀K L,View.le H K->Exv P n l (St w0 K (([]:Ar)++L)) ⟨dst,.load t x,ty,pos,af,gd⟩ u:=by
 obtain⟨b,off,arr,T,fz,pre,cs,rest,rfl,e2,e3,e4,e5⟩:=hp
 have hl:=c.len e5
 rw[h1] at hl
 match cs,hl with
 |[u],_=>
  refine⟨u,e5,fun K L hle w hw a ha=>?_⟩
  have hb:=hw.fits _ _ (hle _ _ e2)
  have hc:w.cell? ⟨b,off,none⟩=some u:=by
   simp only[World.cell?,hb]
   simp only[Option.isSome_none,Bool.false_eq_true,if_false]
   rw[<-Array.getElem?_toList,e3,List.getElem?_append_right (by omega),e4];simp
  simp[execOp,Instr.loadAt,Instr.sureAddr,ha.eval hx,CU hag hc]
theorem AD{α:Type}[Inhabited α]{c:Codec α}{T:TypeId}{fp:Ar}{t:TypeId}{x:Operand}{v p:Value}{xs:List α}{i:Int}
  (hag:∀w,(isAgg t).run P w=.ok false w)(h1:c.size=1)(hx:AF l x=some p)(hs:OwnSl H c T v xs fp)(hp:HI c v i.toNat p)(h:0<=i/\i<xs.length):
  ∃u,c.rep H [u] (ix xs i)/\∀K L,View.le H K->Exv P n l (St w0 K (fp++L)) ⟨dst,.load t x,ty,pos,af,gd⟩ u:=by
 rcases hs with⟨rfl,rfl,rfl⟩|⟨b,cap,arr,cs,rst,rfl,rfl,e3,e4,e5,e6,e7⟩
 ·simp at h;omega
 ·obtain⟨b',n',cap',hv,rfl⟩:=hp
  cases hv
  obtain⟨a',m,b',f1,f2,f3,f4,f5⟩:=Codec.reps_get e7 (CJ h.1 h.2)
  have hl:=c.len f3
  rw[h1] at hl f2
  match m,hl with
  |[u],_=>
   refine⟨u,f3,fun K L _ w hw a ha=>?_⟩
   have hg:=hw.own (b,.cells arr T (0,0)) (by simp)
   have hcell:w.cell? ⟨b,i.toNat* c.size,none⟩=some u:=by
    simp only[World.cell?,hg]
    simp only[Option.isSome_none,Bool.false_eq_true,if_false]
    rw[<-Array.getElem?_toList,e3,f1,h1,List.append_assoc,List.getElem?_append_right (by omega),f2];simp
   simp[execOp,Instr.loadAt,Instr.sureAddr,ha.eval hx,CU hag hcell]
end loads
end
end Go.Vc
namespace Go.Vc
open Go
def Wa{α:Type}(c:Codec α)(v:Value)(i off:Nat)(p:Value):Prop:=∃b n cap,v=.slice (some ⟨b,0,none⟩) n cap/\p=.pointer (some ⟨b,i* c.size+off,none⟩)
section
variable{P:Program}{ops:Array Oper}{Q:Exit->Act->World->Prop}{n:Nat}{l:List (Nat×Value)}{rest:List Oper}{w0 w:World}{H:View}{L:Ar}{C:World->Prop}{dst:Option Tmp}{ty:TypeId}{pos:String}{af:Array Edge}{gd:Option (Nat×Bool)}
theorem BG{D:Value->Prop}{o:Oper}{fp:Ar}(h:∃u,D u/\∀K L,View.le H K->Exv P n l (St w0 K (fp++L)) o u):∃u,D u/\Exv P n l (St w0 H (fp++L)) o u:=let⟨u,h1,h2⟩:=h;⟨u,h1,h2 H L (View.le.refl _)⟩
theorem GN{σ:Type}{c:Codec σ}{s:TypeId}{x:Operand}{f k i:Nat}{fields:Array Field}{fd:Field}{v p:Value}(hs:P.underlying s=some (.struct fields))(hf:fields[f]? =some fd)
  (hsz:∀w,(sizeOf fd.type).run P w=.ok (k+1) w)(hx:AF l x=some p)(hp:HI c v i p):∃q,Wa c v i fd.offset q/\Exv P n l C ⟨dst,.fieldAddr s x f,ty,pos,af,gd⟩ q:=by
 obtain⟨b,m,cap,rfl,rfl⟩:=hp
 refine⟨_,⟨b,m,cap,rfl,rfl⟩,fun w _ a ha=>?_⟩
 simp[execOp,Instr.fieldAt,Instr.sureAddr,ha.eval hx,run_underlying hs,hf,fieldPlace,hsz,Addr.add_lit]
theorem HG{σ φ:Type}[Inhabited σ]{c:Codec σ}{d:Codec φ}{proj:σ->φ}{T:TypeId}{fp:Ar}{t:TypeId}{x:Operand}{v p:Value}{xs:List σ}{i:Int}{off:Nat}
  (hag:∀w,(isAgg t).run P w=.ok false w)(h1:d.size=1)(hx:AF l x=some p)(hs:OwnSl H c T v xs fp)(hp:Wa c v i.toNat off p)(h:0<=i/\i<xs.length)(hpart:Part c off d proj):
  ∃u,d.rep H [u] (proj (ix xs i))/\∀K L,View.le H K->Exv P n l (St w0 K (fp++L)) ⟨dst,.load t x,ty,pos,af,gd⟩ u:=by
 rcases hs with⟨rfl,rfl,rfl⟩|⟨b,cap,arr,cs,rst,rfl,rfl,e3,e4,e5,e6,e7⟩
 ·simp at h;omega
 ·obtain⟨b',n',cap',hv,rfl⟩:=hp
  cases hv
  obtain⟨a',m,b',f1,f2,f3,f4,f5⟩:=Codec.reps_get e7 (CJ h.1 h.2)
  obtain⟨a2,m2,b2,g1,g2,g3⟩:=hpart H m _ f3
  have hl:=d.len g3
  rw[h1] at hl
  match m2,hl with
  |[u],_=>
   refine⟨u,g3,fun K L _ w hw a ha=>?_⟩
   have hg:=hw.own (b,.cells arr T (0,0)) (by simp)
   have hcell:w.cell? ⟨b,i.toNat* c.size+off,none⟩=some u:=by
    simp only[World.cell?,hg]
    simp only[Option.isSome_none,Bool.false_eq_true,if_false]
    rw[<-Array.getElem?_toList,e3,f1,g1]
    simp only[List.append_assoc]
    rw[List.getElem?_append_right (by omega),f2,List.getElem?_append_right (by omega),g2]
    simp
   simp[execOp,Instr.loadAt,Instr.sureAddr,ha.eval hx,CU hag hcell]
theorem Bt{σ:Type}[Inhabited σ]{c:Codec σ}{T:TypeId}{fp:Ar}{t:TypeId}{x:Operand}{v p:Value}{xs:List σ}{i:Int}
  (hag:∀w,(isAgg t).run P w=.ok true w)(hsz:∀w,(sizeOf t).run P w=.ok c.size w)(hx:AF l x=some p)(hs:OwnSl H c T v xs fp)(hp:HI c v i.toNat p)(h:0<=i/\i<xs.length):
  ∃u,(∃cs,u=.agg cs.toArray/\c.rep H cs (ix xs i))/\∀K L,View.le H K->Exv P n l (St w0 K (fp++L)) ⟨dst,.load t x,ty,pos,af,gd⟩ u:=by
 rcases hs with⟨rfl,rfl,rfl⟩|⟨b,cap,arr,cs,rst,rfl,rfl,e3,e4,e5,e6,e7⟩
 ·simp at h;omega
 ·obtain⟨b',n',cap',hv,rfl⟩:=hp
  cases hv
  obtain⟨a',m,b',f1,f2,f3,f4,f5⟩:=Codec.reps_get e7 (CJ h.1 h.2)
  refine⟨_,⟨m,rfl,f3⟩,fun K L _ w hw a ha=>?_⟩
  have hg:=hw.own (b,.cells arr T (0,0)) (by simp)
  have hm:=c.len f3
  have hd:(arr.toList.drop (i.toNat* c.size)).take c.size=m:=by
   rw[e3,f1,List.append_assoc,<-f2,List.drop_left,List.append_assoc,<-hm,List.take_left]
  simp[execOp,Instr.loadAt,Instr.sureAddr,ha.eval hx,loadVar,hag,hsz,Bl hg hd hm]
theorem Xd{α:Type}{xs:List α}{i:Nat}(h:i<xs.length)(z:α):xs.set i z=xs.take i++([z]++xs.drop (i+1)):=by
 rw[List.set_eq_take_append_cons_drop,if_pos h];rfl
theorem WL.store_own_agg{σ:Type}[Inhabited σ]{c:Codec σ}{T:TypeId}{fp:Ar}{t:TypeId}{x y:Operand}{v p u:Value}{xs:List σ}{i:Int}{z:σ}{m':List Value}
  (hsz:∀w,(sizeOf t).run P w=.ok c.size w)(hx:AF l x=some p)(hy:AF l y=some u)(hu:u.cells.toList=m')(hone:Jv m')(hr:c.rep H m' z)(hw:St w0 H (fp++L) w)(hs:OwnSl H c T v xs fp)(hp:HI c v i.toNat p)(h:0<=i/\i<xs.length)
  (k:∀w' fp',OwnSl H c T v (xs.set i.toNat z) fp'->St w0 H (fp'++L) w'->WL P ops Q n l rest w'):WL P ops Q n l (⟨none,.store t x y,ty,pos,af,none⟩::rest) w:=by
 rcases hs with⟨rfl,rfl,rfl⟩|⟨b,cap,arr,cs,rst,rfl,rfl,e3,e4,e5,e6,e7⟩
 ·simp at h;omega
 ·obtain⟨b',n',cap',hv,rfl⟩:=hp
  cases hv
  have hlt:i.toNat<xs.length:=by omega
  obtain⟨a',m,b',f1,f2,f3,f4,f5⟩:=Codec.reps_get e7 (CJ h.1 h.2)
  have hm:=c.len f3
  have hm':=c.len hr
  have hsp:arr.toList=a'++(m++(b'++rst)):=by rw[e3,f1];simp
  obtain⟨w',hst,hS'⟩:=HF (P:=P) (t:=t) (off:=i.toNat* c.size) (arr':=(a'++(m'++(b'++rst))).toArray) (by rw[hm'];exact hsz) hu hone hsp f2 (by omega) rfl hw
  refine WL.turn0 (w':=w') rfl rfl (fun a ha=>?_) (k w' _ (.inr ⟨b,cap,_,a'++(m'++b'),rst,by rw[List.length_set],rfl,by simp,?_,by rw[List.length_set];exact e5,e6,?_⟩) hS')
  ·simp[execOp,Instr.storeAt,Instr.sureAddr,ha.eval hx,ha.eval hy,hst]
  ·have hq:=congrArg List.length hsp
   simp at hq ⊢;omega
  ·rw[Xd hlt]
   exact Codec.reps_append f4 (Codec.reps_append (Codec.reps_single.2 hr) f5)
end
end Go.Vc
namespace Go.Vc
open Go
section
variable{κ ν:Type}[DecidableEq κ]
end
structure KC(κ:Type)where
 enc:κ->Value
 ok:κ->Prop
 inj:∀{a b:κ},enc a=enc b->a=b
 same:∀a:κ,Instr.sameBits 10000 (enc a) (enc a)=true
section
variable{κ ν:Type}{kc:KC κ}{c:Codec ν}{H K:View}
variable[DecidableEq κ]
end
section ops
variable{κ ν:Type}{kc:KC κ}{c:Codec ν}{P:Program}{ops:Array Oper}{Q:Exit->Act->World->Prop}{n:Nat}{l:List (Nat×Value)}{rest:List Oper}{w0 w:World}{H K:View}{L:Ar}{C:World->Prop}{dst:Option Tmp}{ty:TypeId}{pos:String}{af:Array Edge}{gd:Option (Nat×Bool)}
end ops
theorem St.f7{w0 w:World}{H:View}{L:Ar}{a b c d e f g:Ar}(hh:St w0 H (a++(b++(c++(d++(e++(f++(g++L))))))) w):St w0 H (g++(a++(b++(c++(d++(e++(f++L))))))) w:=St.f6 (L:=f++L) (hh.perm (List.Perm.append_left a (List.Perm.append_left b (List.Perm.append_left c (List.Perm.append_left d (List.Perm.append_left e (by rw[<-List.append_assoc,<-List.append_assoc];exact List.Perm.append_right _ List.perm_append_comm)))))))
theorem St.f8{w0 w:World}{H:View}{L:Ar}{a b c d e f g h:Ar}(hh:St w0 H (a++(b++(c++(d++(e++(f++(g++(h++L)))))))) w):St w0 H (h++(a++(b++(c++(d++(e++(f++(g++L)))))))) w:=St.f7 (L:=g++L) (hh.perm (List.Perm.append_left a (List.Perm.append_left b (List.Perm.append_left c (List.Perm.append_left d (List.Perm.append_left e (List.Perm.append_left f (by rw[<-List.append_assoc,<-List.append_assoc];exact List.Perm.append_right _ List.perm_append_comm))))))))
theorem St.f9{w0 w:World}{H:View}{L:Ar}{a b c d e f g h i:Ar}(hh:St w0 H (a++(b++(c++(d++(e++(f++(g++(h++(i++L))))))))) w):St w0 H (i++(a++(b++(c++(d++(e++(f++(g++(h++L))))))))) w:=St.f8 (L:=h++L) (hh.perm (List.Perm.append_left a (List.Perm.append_left b (List.Perm.append_left c (List.Perm.append_left d (List.Perm.append_left e (List.Perm.append_left f (List.Perm.append_left g (by rw[<-List.append_assoc,<-List.append_assoc];exact List.Perm.append_right _ List.perm_append_comm)))))))))
section ex
variable{P:Program}{n:Nat}{l:List (Nat×Value)}{C:World->Prop}{dst:Option Tmp}{ty:TypeId}{pos:String}{af:Array Edge}{gd:Option (Nat×Bool)}{w0:World}{H:View}{L:Ar}
theorem Ru{t t':TypeId}{x y:Operand}{p q:Int}(hx:AF l x=some (.int .i64 p))(hy:AF l y=some (.int .i64 q))(h:q≠0/\I64 (p.tdiv q)):
  Exv P n l C ⟨dst,.binOp .quo t x y t',ty,pos,af,gd⟩ (.int .i64 (p.tdiv q)):=Dh hx hy fun w=>by simp[binOp,Op.intDiv,h.1,h.2.wrap]
theorem I64.tmod{p q:Int}(hp:I64 p):I64 (p.tmod q):=by
 unfold I64 at*
 have h1:(p.tmod q).natAbs<=p.natAbs:=by rw[Int.natAbs_tmod];exact Nat.mod_le _ _
 have h2:0<=p->0<=p.tmod q:=fun h=>Int.tmod_nonneg q h
 rcases Int.le_total 0 p with h|h
 ·have:=h2 h;omega
 ·have h3:p.tmod q<=0:=by
   have:=Int.tmod_nonneg q (a:=-p) (by omega)
   rw[Int.neg_tmod] at this;omega
  omega
theorem QW{t t':TypeId}{x y:Operand}{p q:Int}(hx:AF l x=some (.int .i64 p))(hy:AF l y=some (.int .i64 q))(h:q≠0):
  Exv P n l C ⟨dst,.binOp .rem t x y t',ty,pos,af,gd⟩ (.int .i64 (p.tmod q)):=Dh hx hy fun w=>by simp[binOp,Op.intDiv,h]
theorem NX{op:BinOp}{t:TypeId}{x y:Operand}{k k':IntKind}{p q:Int}{w:World}{r:Value}(h:(binOp op t (.int k p) (.int k' q)).run P w=.ok r w):
  (do eqGuard op t x y (.int k p) (.int k' q);binOp op t (.int k p) (.int k' q)).run P w=.ok r w:=by
 have:(eqGuard op t x y (.int k p) (.int k' q)).run P w=.ok () w:=by
  unfold eqGuard
  cases op<;>rfl
 rw[Sem.run_bind,this]
 exact h
theorem Aau{t t':TypeId}{x y:Operand}{k':IntKind}{p q:Int}(hx:AF l x=some (.int .i64 p))(hy:AF l y=some (.int k' q))(h:0<=q/\q<64/\I64 (p* 2^q.toNat)):
  Exv P n l C ⟨dst,.binOp .shl t x y t',ty,pos,af,gd⟩ (.int .i64 (p* 2^q.toNat)):=fun w _ a ha=>by
 have hm:min q.toNat IntKind.i64.bits=q.toNat:=by show min q.toNat 64=q.toNat;omega
 have:(binOp .shl t (.int .i64 p) (.int k' q)).run P w=.ok (.int .i64 (p* 2^q.toNat)) w:=by
  simp only[binOp,Op.shift]
  rw[if_neg (by omega),hm]
  simp[h.2.2.wrap]
 simp only[execOp,ha.eval hx,ha.eval hy]
 rw[Sem.run_bind,NX this]
 rfl
theorem Aay{t t':TypeId}{x y:Operand}{k':IntKind}{p q:Int}(hx:AF l x=some (.int .i64 p))(hy:AF l y=some (.int k' q))(h:0<=q/\q<64):
  Exv P n l C ⟨dst,.binOp .shr t x y t',ty,pos,af,gd⟩ (.int .i64 (p.fdiv (2^q.toNat))):=fun w _ a ha=>by
 have hm:min q.toNat IntKind.i64.bits=q.toNat:=by show min q.toNat 64=q.toNat;omega
 have:(binOp .shr t (.int .i64 p) (.int k' q)).run P w=.ok (.int .i64 (p.fdiv (2^q.toNat))) w:=by
  simp only[binOp,Op.shift]
  rw[if_neg (by omega),hm]
  simp
 simp only[execOp,ha.eval hx,ha.eval hy]
 rw[Sem.run_bind,NX this]
 rfl
theorem I64.fdiv2{p:Int}{k:Nat}(hp:I64 p):I64 (p.fdiv (2^k)):=by
 unfold I64 at*
 have h1:(0:Int)<2^k:=Int.pow_pos (by omega)
 have h2:p.fdiv (2^k)=p/2^k:=Int.fdiv_eq_ediv_of_nonneg _ (by omega)
 rw[h2]
 rcases Int.le_total 0 p with h|h
 ·have:=Int.ediv_nonneg h (Int.le_of_lt h1)
  have:=Int.ediv_le_self (2^k) h
  omega
 ·have h3:p/2^k<=0:=by
   have:=Int.ediv_le_ediv (c:=2^k) h1 h
   simpa using this
  have h4:p<=p/2^k:=by
   rw[Int.le_ediv_iff_mul_le h1]
   have:(1:Int)<=2^k:=h1
   have h5:p* 2^k<=p* 1:=Int.mul_le_mul_of_nonpos_left h this
   omega
  omega
def AbX(f:Nat->Nat->Nat)(p q:Int):Int:=(f p.toNat q.toNat:Nat)
theorem Xc{r:Nat}(h:r<2^63):IntKind.i64.wrap ((BitVec.ofNat 64 r).toNat:Int)=(r:Int):=by
 rw[BitVec.toNat_ofNat,Nat.mod_eq_of_lt (by omega)]
 exact I64.wrap (by unfold I64;omega)
theorem Pg{p:Int}(h:0<=p):BitVec.ofInt 64 p=BitVec.ofNat 64 p.toNat:=by
 rw[<-BitVec.ofInt_natCast];congr 1;omega
theorem Adl{t t':TypeId}{x y:Operand}{p q:Int}(hx:AF l x=some (.int .i64 p))(hy:AF l y=some (.int .i64 q))(hp:I64 p)(h:0<=p/\0<=q):
  Exv P n l C ⟨dst,.binOp .and t x y t',ty,pos,af,gd⟩ (.int .i64 (AbX (·&&&·) p q)):=Dh hx hy fun w=>by
 have hl:p.toNat&&&q.toNat<2^63:=Nat.lt_of_le_of_lt Nat.and_le_left (by unfold I64 at hp;omega)
 have e:(binOp .and t (.int .i64 p) (.int .i64 q)).run P w=.ok (.int .i64 (IntKind.i64.wrap ((BitVec.ofInt 64 p&&&BitVec.ofInt 64 q).toNat:Int))) w:=rfl
 rw[e,Pg h.1,Pg h.2,<-BitVec.ofNat_and,Xc hl];rfl
end ex
end Go.Vc
namespace Go.Vc
open Go
theorem Bs{k:IntKind}{x:Int}:(Value.int k x).cells=#[.int k x]:=rfl
theorem Dj{x:Option Addr}:(Value.pointer x).cells=#[.pointer x]:=rfl
theorem Be{x:Bool}:(Value.bool x).cells=#[.bool x]:=rfl
section
variable{P:Program}{ops:Array Oper}{Q:Exit->Act->World->Prop}{n:Nat}{l:List (Nat×Value)}{rest:List Oper}{w0 w:World}{H:View}{L:Ar}{C:World->Prop}{dst:Option Tmp}{ty:TypeId}{pos:String}{af:Array Edge}{gd:Option (Nat×Bool)}
theorem GJ{α:Type}{c:Codec α}{T:TypeId}{fp:Ar}{t e:TypeId}{x y:Operand}{v:Value}{xs:List α}{k:IntKind}{hi:Int}(ht:P.underlying t=some (.slice e))(hsz:∀w,(sizeOf e).run P w=.ok c.size w)(hx:AF l x=some v)
  (hy:AF l y=some (.int k hi))(hs:OwnSl H c T v xs fp)(h:0<=hi/\hi<=xs.length):∃u,(AdH c H P fp u (xs.take hi.toNat)/\OwnSl H c T u (xs.take hi.toNat) fp)/\Exv P n l C ⟨dst,.slice t x none (some y) none,ty,pos,af,gd⟩ u:=by
 obtain⟨ad,cap,hv,h1,h2⟩:=AaN (P:=P) hs (lo:=0) (hi:=hi.toNat) (by omega) (by omega)
 refine⟨.slice (if cap=0 then ad else ad.map (·.add (0* c.size))) (hi.toNat-0) (cap-0),⟨fun{w0 w L}hw=>by have:=h2 hw;rwa [List.drop_zero] at this,?_⟩,fun w _ a ha=>?_⟩
 ·rcases hs with⟨rfl,rfl,rfl⟩|⟨b,cap',arr,cs,rst,rfl,rfl,e3,e4,e5,e6,e7⟩
  ·cases hv
   have:hi.toNat=0:=by simp at h;omega
   rw[this]
   exact .inl ⟨by simp,rfl,rfl⟩
  ·cases hv
   have hle:hi.toNat<=xs.length:=by omega
   rw[<-List.take_append_drop hi.toNat xs] at e7
   obtain⟨a',b',f1,f2,f3⟩:=Codec.reps_split e7
   refine .inr ⟨b,cap,arr,a',b'++rst,?_,rfl,by rw[e3,f1,List.append_assoc],e4,by rw[List.length_take];omega,e6,f2⟩
   rw[List.length_take,Nat.min_eq_left hle]
   split<;>simp[Addr.add_lit]
 ·subst hv
  have hb:=fun w=>CS (P:=P) (k:=k) (y:=cap) (code:=.sliceAcap) (w:=w) h.1 (show hi<=(cap:Int) by omega)
  simp[execOp,Instr.sliceAt,Instr.slice,ha.eval hx,ha.eval hy,run_underlying ht,Instr.sliceBounds,hb,hsz]
theorem PF{α:Type}{c:Codec α}{zs:Array Value}{z0:α}(hz0:c.rep H zs.toList z0):∀q,c.reps H (madeCells zs (q* c.size)).toList (List.replicate q z0):=by
 have hl:zs.size=c.size:=by have:=c.len hz0;simpa using this
 intro q
 induction q with
 |zero=>show _=_;simp[madeCells]
 |succ q ih=>
  have:(madeCells zs ((q+1)* c.size)).toList=(madeCells zs (q* c.size)).toList++zs.toList:=by
   apply List.ext_getElem?
   intro j
   by_cases h1:j<q* c.size
   ·rw[List.getElem?_append_left (by simp[madeCells];omega)]
    have h2:j<(q+1)* c.size:=by rw[Nat.add_mul];omega
    simp[madeCells,h1,h2]
   ·rw[List.getElem?_append_right (by simp[madeCells];omega)]
    by_cases h2:j<(q+1)* c.size
    ·have h3:j-q* c.size<c.size:=by rw[Nat.add_mul] at h2;omega
     have h4:j%zs.size=j-q* c.size:=by
      rw[hl]
      have:j=(j-q* c.size)+q* c.size:=by omega
      conv=>lhs;rw[this]
      rw[Nat.add_mul_mod_self_right,Nat.mod_eq_of_lt h3]
     have h5:j-q* c.size<zs.size:=by omega
     simp[madeCells,h2,h4,h5]
    ·have h3:¬j-q* c.size<zs.size:=by rw[Nat.add_mul] at h2;omega
     simp[madeCells,h2]
     omega
  rw[this,List.replicate_succ']
  exact Codec.reps_append ih (Codec.reps_single.2 hz0)
theorem WL.makes{α:Type}{c:Codec α}{d:Nat}{t e:TypeId}{z:Value}{bytes:Nat}{x y:Operand}{m:Int}{z0:α}{kk:IntKind}(hdn:Nat.blt d n=true)(ht:P.underlying t=some (.slice e))
  (hi:(P.info? e).map (fun i=>(i.zero,i.size,i.bytes))=some (some z,c.size,bytes))(hz0:c.rep H z.cells.toList z0)(hx:AF l x=some (.int kk m))(hy:AF l y=some (.int kk m))
  (h0:0<=m)(hb:bytes* m<=281474976710656)(hm:m<=9223372036854775807)(hw:St w0 H L w)
  (k:∀v' w' fp',OwnSl H c e v' (List.replicate m.toNat z0) fp'->St w0 H (fp'++L) w'->WL P ops Q n ((d,v')::l) rest w'):
  WL P ops Q n l (⟨some d,.makeSlice t x y,ty,pos,af,none⟩::rest) w:=by
 obtain⟨i,hI,hz,h3,h2⟩:=info_parts hi
 subst h2
 have hr:=run_make (P:=P) w t e i z ht hI hz kk kk m m h0 (Int.le_refl _) hb hm
 refine WL.turn rfl rfl hdn (fun a ha=>?_) (k _ _ [(w.heap.size,.cells (madeCells z.cells (m.toNat* i.size)) e (0,0))] (.inr ⟨_,m.toNat,_,_,[],by rw[List.length_replicate],rfl,by rw[List.append_nil],by rw[size_madeCells,h3],by rw[List.length_replicate];exact Nat.le_refl _,by unfold maxLen;omega,?_⟩) (hw.alloc _))
 ·simp[execOp,ha.eval hx,ha.eval hy,hr]
 ·rw[h3];exact PF hz0 _
end
section
variable{P:Program}{ops:Array Oper}{eff:Nat->Bool}{anc:Nat->Nat->Bool}{Qx:Exit->Act->World->Prop}{n:Nat}{l:List (Nat×Value)}{R:List Nat}{pend:GU}{C:World->Prop}{w:World}
theorem Wd.runbs{w0:World}{H:View}{L:Ar}{b off k:Nat}{arr:Array Value}{T:TypeId}{cs:List Value}{u:Value}{i d:Nat}{o:Oper}(ho:ops[i]? =some o)(he:eff i=false)(hd:o.dst=some d)(hdn:Nat.blt d n=true)
  (hx:∀(K:View)(L:Ar)(arr':Array Value),(arr'.toList.drop off).take k=cs->Exv P n l (St w0 K ([(b,.cells arr' T (0,0))]++L)) o u)(hu:(arr.toList.drop off).take k=cs)(hC:∀w,C w->St w0 H ([(b,.cells arr T (0,0))]++L) w)
  (kk:∀p:(World->Prop)->Prop,(∀(K:View)(L:Ar)(arr':Array Value)(C':World->Prop),(arr'.toList.drop off).take k=cs->(∀w,C' w->St w0 K ([(b,.cells arr' T (0,0))]++L) w)->p C')->Wd P ops eff anc Qx n ((d,u)::l) R ((i,p)::pend) C):Wd P ops eff anc Qx n l (i::R) pend C:=
 Wd.step ho he hd hdn ((hx H L arr hu).of hC) fun p hp=>kk p fun K L arr' C' h1 hc=>hp C' ((hx K L arr' h1).of hc)
end
section skipu
variable{P:Program}{ops:Array Oper}{Q:Exit->Act->World->Prop}{n:Nat}{l:List (Nat×Value)}{rest:List Oper}{o:Oper}{w:World}{C:World->Prop}{K:Act->Prop}
theorem Ma{a:Act}{j d:Nat}(ha:Fr n l a)(hj:(ops[j]?).bind (·.dst)=some d)(hv:lk l d=some undef):yielded ops a.tmps j=none:=by
 unfold yielded
 rw[hj,Option.bind_some,ha.val _ _ hv]
 rfl
theorem WL.skip_u{d j dj:Nat}{want:Bool}(hg:o.guard=some (j,want))(hj:(ops[j]?).bind (·.dst)=some dj)(hv:lk l dj=some undef)
  (hd:o.dst=some d)(hdn:Nat.blt d n=true)(k:WL P ops Q n ((d,undef)::l) rest w):WL P ops Q n l (o::rest) w:=fun a ha=>wpList_step fun K hK=>by
 rw[if_neg (by simp[Region.wanted,hg,Ma ha hj hv]),hd]
 exact hK _ _ (k _ (ha.put hdn undef))
theorem Wq.skip_u{d j dj:Nat}{want:Bool}(hg:o.guard=some (j,want))(hj:(ops[j]?).bind (·.dst)=some dj)(hv:lk l dj=some undef)
  (hd:o.dst=some d)(hdn:Nat.blt d n=true)(k:Wq P ops C K n ((d,undef)::l) rest):Wq P ops C K n l (o::rest):=fun a ha=>wpQuiet_step fun K' hK=>by
 rw[if_neg (by simp[Region.wanted,hg,Ma ha hj hv]),hd]
 exact hK _ (k _ (ha.put hdn undef))
end skipu
section fam
variable{P:Program}{ops:Array Oper}{eff:Nat->Bool}{Q:Act->World->Prop}
def KS:Op->Bool
 |.store ..=>true
 |.alloc ..=>true
 |.box ..=>true
 |.buildSlice ..=>true
 |.makeSlice ..=>true
 |.makeMap ..=>true
 |.call {callee:=.builtin .append,..}=>true
 |_=>false
def GZ:Next->Prop
 |.value _=>True
 |.skip=>True
 |_=>False
theorem QN{o:Oper}(h:KS o.op=true){a:Act}{w w':World}{r:Next}(hr:(execOp a.eval o).run P w=.ok r w'):GZ r:=by
 obtain⟨d,op,ty,pos,af,gd⟩:=o
 have key:∀{α:Type}(x:Sem α)(f:α->Sem Next),(∀v w w' r,(f v).run P w=.ok r w'->GZ r)->(x>>=f).run P w=.ok r w'->GZ r:=by
  intro α x f hf hx
  rw[Sem.run_bind] at hx
  cases hxr:x.run P w with
  |ok v w1=>rw[hxr] at hx;exact hf _ _ _ _ hx
  |halt e w1=>rw[hxr] at hx;cases hx
 have kv:∀(v:Value)(w w':World)(r:Next),(pure (.value v):Sem Next).run P w=.ok r w'->GZ r:=by
  intro v w w' r h;simp only[Sem.run_pure] at h;cases h;trivial
 have ks:∀(u:Unit)(w w':World)(r:Next),(pure .skip:Sem Next).run P w=.ok r w'->GZ r:=by
  intro v w w' r h;simp only[Sem.run_pure] at h;cases h;trivial
 cases op<;>simp only[KS,Bool.false_eq_true] at h
 case store=>simp only[execOp] at hr;exact key _ _ ks hr
 case alloc=>simp only[execOp] at hr;exact key _ _ kv hr
 case box=>simp only[execOp] at hr;exact key _ _ kv hr
 case buildSlice=>simp only[execOp] at hr;exact key _ _ kv hr
 case makeSlice=>simp only[execOp] at hr;exact key _ _ kv hr
 case makeMap=>simp only[execOp] at hr;exact key _ _ kv hr
 case call c=>
  obtain⟨callee,args,ats⟩:=c
  cases callee<;>try (simp at h;done)
  rename_i b
  cases b<;>simp at h
  simp only[execOp,resolve,Sem.run_bind,Sem.run_pure,Result.andThen_ok,invoke,builtin] at hr
  generalize hx:(Builtin.append_ _ _ _).run P w=rr at hr
  cases rr with
  |ok v w1=>simp at hr;obtain⟨rfl,rfl⟩:=hr;trivial
  |halt e w1=>simp[Result.andThen] at hr
def Hu(ops:Array Oper)(eff:Nat->Bool)(anc:Nat->Nat->Bool)(j i:Nat):Bool:=
 (!(Bn ops j).contains i)&&(anc j i||(eff j&&eff i)||(!eff j&&(match ops[i]?,ops[j]? with|some oi,some oj=>oi.apart ops oj|_,_=>false)))
def NA(anc:Nat->Nat->Bool):Nat->List Nat->List (List Nat)
 |0,_=>[[]]
 |k+1,E=>if E.isEmpty then[[]] else(E.filter (fun i=>E.all fun j=>Nat.beq i j|| !anc j i)).flatMap fun i=>(NA anc k (E.erase i)).map (i::·)
def YU(anc:Nat->Nat->Bool)(τ:List Nat):Prop:=τ.Pairwise fun i j=>anc j i=false
theorem Sg{anc:Nat->Nat->Bool}:∀{k:Nat}{τ E:List Nat},E.length<=k->τ.Perm E->YU anc τ->τ∈NA anc k E
 |0,τ,E,hk,hp,_=>by
  have:E=[]:=List.length_eq_zero_iff.1 (by omega)
  subst this
  have:=List.perm_nil.1 hp
  subst this;simp[NA]
 |k+1,[],E,hk,hp,_=>by
  have:=List.nil_perm.1 hp
  subst this;simp[NA]
 |k+1,i::τ,E,hk,hp,hl=>by
  have hi:i∈E:=hp.mem_iff.1 (by simp)
  have hne:E.isEmpty=false:=by cases E<;>simp at hi ⊢
  have hl':=List.pairwise_cons.1 hl
  simp only[NA,hne,Bool.false_eq_true,if_false,List.mem_flatMap,List.mem_filter,List.mem_map]
  refine⟨i,⟨hi,?_⟩,τ,?_,rfl⟩
  ·rw[List.all_eq_true]
   intro j hj
   rcases List.mem_cons.1 (hp.mem_iff.2 hj) with rfl|hj
   ·simp
   ·simp[hl'.1 j hj]
  ·have hp':τ.Perm (E.erase i):=by
    have:=hp.erase i
    simpa using this
   exact Sg (by rw[List.length_erase_of_mem hi];omega) hp' hl'.2
def QL(ops:Array Oper)(eff:Nat->Bool)(anc:Nat->Nat->Bool)(listed:Array Bool)(τ:List Nat):Prop:=
 τ.Nodup/\(∀i,i∈τ↔(i<ops.size/\listed.getD i false=false/\eff i=true))/\YU anc τ
def Aeo(P:Program)(ops:Array Oper)(eff:Nat->Bool)(anc:Nat->Nat->Bool)(Q:Act->World->Prop)(listed:Array Bool)(a:Act)(w:World):Prop:=
 ∀τ:List Nat,QL ops eff anc listed τ->
  ∃(R:List Nat)(C:World->Prop),(∀i,i∈R↔(i<ops.size/\listed.getD i false=false))/\R.Nodup/\R.filter eff=τ/\R.Pairwise (fun j i=>Hu ops eff anc j i=true)/\C w/\Dx P ops eff anc Q R [] a C
theorem Gu{anc:Nat->Nat->Bool}{Qx:Exit->Act->World->Prop}(hanc:∀(listed:Array Bool),(∀i,listed.getD i false=true->∀e∈Bn ops i,listed.getD e false=true)->∀j i,(∀e∈Bn ops i,listed.getD e false=true)->anc j i=true->listed.getD j false=true)(hsel:Region.noSelect ops=true)(hg:∀o∈ops,o.guard=none)(hno:∀i o,ops[i]? =some o->eff i=true->KS o.op=true)
  (hdir:∀i,∀e∈Bn ops i,e<ops.size/\e≠i):∀(m:Nat)(listed:Array Bool)(a:Act)(w:World),(∀R:List Nat,(∀i,i∈R↔(i<ops.size/\listed.getD i false=false))->R.Nodup->R.length=m)->listed.size=ops.size->
  (∃τ,QL ops eff anc listed τ)->(∀i,listed.getD i false=true->∀e∈Bn ops i,listed.getD e false=true)->
  Aeo P ops eff anc (fun a w=>Qx .normal a w) listed a w->wpAny P .any ops Qx m listed a w
 |m,listed,a,w,hcount,hsz,⟨τ0,hτ0⟩,hdc,h=>by
  obtain⟨R,C,hmem,hnd,hfil,hpw,hw,hwp⟩:=h τ0 hτ0
  have hlen:=hcount R hmem hnd
  have hready0:Region.ready .any ops listed=[]->R=[]:=by
   intro hr
   cases R with
   |nil=>rfl
   |cons i R=>
    exfalso
    have hi:=(hmem i).1 (by simp)
    have hio:ops[i]? =some ops[i]:=Array.getElem?_eq_getElem hi.1
    have:i∈Region.ready .any ops listed:=by
     rw[mem_ready]
     refine⟨?_,ops[i],hio,fun e he hb=>?_⟩
     ·have:=hi.2
      rw[Array.getD_eq_getD_getElem?,Array.getElem?_eq_getElem (by omega)] at this ⊢
      simpa using this
     ·have hem:=JB hio he hb
      cases hl:listed.getD e.on false with
      |true=>rfl
      |false=>
       exfalso
       have h1:=hdir i e.on hem
       have h2:e.on∈i::R:=(hmem e.on).2 ⟨h1.1,hl⟩
       rcases List.mem_cons.1 h2 with h2|h2
       ·exact h1.2 h2
       ·have h3:=(List.pairwise_cons.1 hpw).1 _ h2
        simp only[Hu,Bool.and_eq_true,Bool.not_eq_true',List.contains_eq_mem,decide_eq_false_iff_not] at h3
        exact h3.1 hem
    rw[hr] at this;cases this
  have hQ:Region.ready .any ops listed=[]->Qx .normal a w:=by
   intro hr
   have:=hready0 hr
   subst this
   exact hwp w hw
  cases m with
  |zero=>
   have:R=[]:=List.length_eq_zero_iff.1 hlen
   subst this
   have hr:Region.ready .any ops listed=[]:=by
    cases hr:Region.ready .any ops listed with
    |nil=>rfl
    |cons i r=>
     have hi:i∈Region.ready .any ops listed:=by rw[hr];simp
     obtain⟨h1,o,ho,_⟩:=mem_ready.1 hi
     have hlt:=(Array.getElem?_eq_some_iff.1 ho).1
     have:=(hmem i).2 ⟨hlt,by
      rw[Array.getD_eq_getD_getElem?,Array.getElem?_eq_getElem (by omega)] at h1 ⊢
      simpa using h1⟩
     cases this
   exact⟨hr,hQ hr⟩
  |succ m=>
   refine⟨hQ,fun i hi=>?_⟩
   obtain⟨h1,oi,ho,hall⟩:=mem_ready.1 hi
   have hlt:=(Array.getElem?_eq_some_iff.1 ho).1
   have hlf:listed.getD i false=false:=by
    rw[Array.getD_eq_getD_getElem?,Array.getElem?_eq_getElem (by omega)] at h1 ⊢
    simpa using h1
   have hdl:∀e∈Bn ops i,listed.getD e false=true:=fun e he=>by
    obtain⟨o',ed,g1,g2,g3,g4⟩:=El he
    rw[ho] at g1;cases g1
    rw[<-g4];exact hall ed g2 g3
   have hna:∀j,(j<ops.size/\listed.getD j false=false)->anc j i=false:=by
    intro j hj
    cases hb:anc j i with
    |false=>rfl
    |true=>rw[hanc listed hdc j i hdl hb] at hj;cases hj.2
   have hsi:EM oi:=fun cs b=>Region.noSelect_spec hsel i oi cs b ho
   have hwant:∀l,Region.wanted oi l=true:=fun l=>by
    have:=hg oi (Array.mem_of_getElem? ho)
    simp[Region.wanted,this]
   have hgd:∀j,(listed.setIfInBounds i true).getD j false=if i=j then true else listed.getD j false:=by
    intro j
    rw[Array.getD_eq_getD_getElem?,Array.getElem?_setIfInBounds,Array.getD_eq_getD_getElem?]
    split
    ·rename_i e;subst e;simp[hsz,hlt]
    ·rfl
   have hun:∀j,(j<ops.size/\(listed.setIfInBounds i true).getD j false=false)↔(j≠i/\j<ops.size/\listed.getD j false=false):=by
    intro j;rw[hgd]
    by_cases hij:i=j
    ·subst hij;simp
    ·simp[hij];intro _ _;exact fun e=>hij e.symm
   have hcount':∀R:List Nat,(∀j,j∈R↔(j<ops.size/\(listed.setIfInBounds i true).getD j false=false))->R.Nodup->R.length=m:=by
    intro R' hR hRn
    have:=hcount (i::R') (fun j=>by
     rw[List.mem_cons,hR,hun]
     by_cases hij:j=i
     ·subst hij;simp[hlt,hlf]
     ·simp[hij]) (List.nodup_cons.2 ⟨fun hin=>((hun i).1 ((hR i).1 hin)).1 rfl,hRn⟩)
    simpa using this
   have hdc':∀j,(listed.setIfInBounds i true).getD j false=true->∀e∈Bn ops j,(listed.setIfInBounds i true).getD e false=true:=by
    intro j hj e he
    rw[hgd] at hj ⊢
    split
    ·rfl
    ·split at hj
     ·rename_i e';subst e';exact hdl e he
     ·exact hdc j hj e he
   have pull:∀(R:List Nat),(∀j,j∈R↔(j<ops.size/\listed.getD j false=false))->R.Nodup->R.Pairwise (fun j i=>Hu ops eff anc j i=true)->∀L1 L2,R=L1++i::L2->(eff i=true->∀j∈L1,eff j=false)->
     (∀j∈L1,eff j=false/\anc j i=false/\∀oj,ops[j]? =some oj->EM oj/\oi.apart ops oj=true)/\(∀j,j∈L1++L2↔(j<ops.size/\(listed.setIfInBounds i true).getD j false=false))/\(L1++L2).Nodup/\(L1++L2).Pairwise (fun j i=>Hu ops eff anc j i=true):=by
    intro R hm hn hp L1 L2 e hE
    subst e
    refine⟨fun j hj=>?_,fun j=>?_,?_,?_⟩
    ·have hju:=(hm j).1 (List.mem_append_left _ hj)
     have hr:=(List.pairwise_append.1 hp).2.2 j hj i (by simp)
     have hanc:=hna j hju
     simp only[Hu,hanc,Bool.false_or,Bool.and_eq_true,Bool.not_eq_true',Bool.or_eq_true] at hr
     have hej:eff j=false:=by
      cases he:eff i with
      |true=>exact hE he j hj
      |false=>
       rcases hr.2 with h|h
       ·rw[he] at h;cases h.2
       ·exact h.1
     refine⟨hej,hanc,fun oj hoj=>⟨fun cs b=>Region.noSelect_spec hsel j oj cs b hoj,?_⟩⟩
     rcases hr.2 with h|h
     ·rw[hej] at h;cases h.1
     ·have:=h.2;rw[ho,hoj] at this;exact this
    ·rw[hun,<-hm]
     have hnin:=hn
     rw[List.nodup_append] at hnin
     constructor
     ·intro hj
      refine⟨?_,by rcases List.mem_append.1 hj with hj|hj<;>simp[hj]⟩
      rintro rfl
      rcases List.mem_append.1 hj with hj|hj
      ·exact(hnin.2.2 j hj j (by simp)) rfl
      ·exact(List.nodup_cons.1 hnin.2.1).1 hj
     ·rintro⟨hne,hj⟩
      rcases List.mem_append.1 hj with hj|hj
      ·simp[hj]
      ·rcases List.mem_cons.1 hj with hj|hj
       ·exact absurd hj hne
       ·simp[hj]
    ·exact hn.sublist (List.Sublist.append (List.Sublist.refl _) (List.sublist_cons_self _ _))
    ·exact hp.sublist (List.Sublist.append (List.Sublist.refl _) (List.sublist_cons_self _ _))
   unfold wpOp
   rw[ho]
   simp only[hwant,if_true]
   left
   cases he:eff i with
   |false=>
    have hsplit:∀R:List Nat,(∀j,j∈R↔(j<ops.size/\listed.getD j false=false))->∃L1 L2,R=L1++i::L2:=fun R hm=>List.append_of_mem ((hm i).2 ⟨hlt,hlf⟩)
    have hE:eff i=true->∀(L:List Nat),∀j∈L,eff j=false:=fun h=>by rw[he] at h;cases h
    obtain⟨L1,L2,e⟩:=hsplit R hmem
    obtain⟨p1,p2,p3,p4⟩:=pull R hmem hnd hpw L1 L2 e (fun h=>hE h L1)
    subst e
    obtain⟨v,g1,g2⟩:=DS ho he hsi (fun j hj=>⟨(p1 j hj).1,(p1 j hj).2.2⟩) hwp
    unfold Oper.wp
    rw[g1 w hw,Oper.upon_value]
    have hEff:∀τ,QL ops eff anc (listed.setIfInBounds i true) τ->QL ops eff anc listed τ:=by
     rintro τ⟨t1,t2,t3⟩
     refine⟨t1,fun j=>?_,t3⟩
     rw[t2,<-and_assoc,hun,and_assoc]
     constructor
     ·rintro⟨_,h2,h3⟩;exact⟨h2.1,h2.2,h3⟩
     ·rintro⟨h1,h2,h3⟩
      refine⟨?_,⟨h1,h2⟩,h3⟩
      rintro rfl;rw[he] at h3;cases h3
    refine Gu hanc hsel hg hno hdir m _ _ _ hcount' (by simp[hsz]) ⟨τ0,?_⟩ hdc' ?_
    ·obtain⟨t1,t2,t3⟩:=hτ0
     refine⟨t1,fun j=>?_,t3⟩
     rw[t2,<-and_assoc,<-and_assoc,hun]
     constructor
     ·rintro⟨⟨h1,h2⟩,h3⟩
      refine⟨⟨?_,h1,h2⟩,h3⟩
      rintro rfl;rw[he] at h3;cases h3
     ·rintro⟨⟨_,h1,h2⟩,h3⟩;exact⟨⟨h1,h2⟩,h3⟩
    ·intro τ hτ
     obtain⟨R',C',m1,m2,m3,m4,m5,m6⟩:=h τ (hEff τ hτ)
     obtain⟨M1,M2,e⟩:=hsplit R' m1
     obtain⟨q1,q2,q3,q4⟩:=pull R' m1 m2 m4 M1 M2 e (fun h=>hE h M1)
     subst e
     obtain⟨v',g1',g2'⟩:=DS ho he hsi (fun j hj=>⟨(q1 j hj).1,(q1 j hj).2.2⟩) m6
     have hv:v'=v:=by
      have e1:=g1 w hw
      have e2:=g1' w m5
      rw[e1] at e2;cases e2;rfl
     subst hv
     refine⟨M1++M2,C',q2,q3,?_,q4,m5,g2'⟩
     rw[<-m3,List.filter_append,List.filter_append,List.filter_cons_of_neg (by rw[he];simp)]
   |true=>
    have hEff:∀τ,QL ops eff anc (listed.setIfInBounds i true) τ->QL ops eff anc listed (i::τ):=by
     rintro τ⟨t1,t2,t3⟩
     refine⟨List.nodup_cons.2 ⟨fun hin=>?_,t1⟩,fun j=>?_,List.pairwise_cons.2 ⟨fun j hj=>?_,t3⟩⟩
     ·have:=(t2 i).1 hin
      exact((hun i).1 ⟨this.1,this.2.1⟩).1 rfl
     ·rw[List.mem_cons,t2,<-and_assoc,hun,and_assoc]
      by_cases hji:j=i
      ·subst hji;simp[hlt,hlf,he]
      ·simp[hji,and_assoc]
     ·have:=(t2 j).1 hj
      exact hna j (((hun j).1 ⟨this.1,this.2.1⟩).2)
    have hτ1:∃τ,QL ops eff anc (listed.setIfInBounds i true) τ:=by
     obtain⟨t1,t2,t3⟩:=hτ0
     refine⟨τ0.erase i,t1.erase i,fun j=>?_,t3.sublist List.erase_sublist⟩
     rw[List.Nodup.mem_erase_iff t1,t2]
     have hj:=hun j
     constructor
     ·rintro⟨h1,h2,h3,h4⟩;exact⟨h2,(hj.2 ⟨h1,h2,h3⟩).2,h4⟩
     ·rintro⟨h1,h2,h3⟩
      have h4:=hj.1 ⟨h1,h2⟩
      exact⟨h4.1,h4.2.1,h4.2.2,h3⟩
    obtain⟨o',hoo,hno'⟩:∃o',ops[i]? =some o'/\KS o'.op=true:=⟨oi,ho,hno i oi ho he⟩
    rw[ho] at hoo;cases hoo
    have step:∀τ,QL ops eff anc (listed.setIfInBounds i true) τ->∃R':List Nat,(∀j,j∈R'↔(j<ops.size/\(listed.setIfInBounds i true).getD j false=false))/\R'.Nodup/\R'.filter eff=τ/\R'.Pairwise (fun j i=>Hu ops eff anc j i=true)/\
      Dc P oi a w (fun v w'=>∃C',C' w'/\Dx P ops eff anc (fun a w=>Qx .normal a w) R' [] (a.put oi.dst v) C'):=by
     intro τ hτ
     obtain⟨R',C',m1,m2,m3,m4,m5,m6⟩:=h (i::τ) (hEff τ hτ)
     obtain⟨M1,M2,e,f1,f2,f3⟩:=List.filter_eq_cons_iff.1 m3
     obtain⟨q1,q2,q3,q4⟩:=pull R' m1 m2 m4 M1 M2 e (fun _ j hj=>by simpa using f1 j hj)
     subst e
     refine⟨M1++M2,q2,q3,?_,q4,?_⟩
     ·rw[List.filter_append,f3]
      have:M1.filter eff=[]:=List.filter_eq_nil_iff.2 (fun j hj=>f1 j hj)
      rw[this,List.nil_append]
     ·refine Em ?_ (GI ho he hsi q1 m5 m6)
      rintro v w'⟨C'',c1,_,c3⟩
      exact⟨C'',c1,c3⟩
    obtain⟨τ1,hτ1⟩:=hτ1
    obtain⟨_,_,_,_,_,g0⟩:=step τ1 hτ1
    unfold Oper.wp
    have hne:=fun r w'=>QN (P:=P) hno' (a:=a) (w:=w) (w':=w') (r:=r)
    have go:∀v w',(∀τ,QL ops eff anc (listed.setIfInBounds i true) τ->∃R':List Nat,(∀j,j∈R'↔(j<ops.size/\(listed.setIfInBounds i true).getD j false=false))/\R'.Nodup/\R'.filter eff=τ/\R'.Pairwise (fun j i=>Hu ops eff anc j i=true)/\
      ∃C',C' w'/\Dx P ops eff anc (fun a w=>Qx .normal a w) R' [] (a.put oi.dst v) C')->wpAny P .any ops Qx m (listed.setIfInBounds i true) (a.put oi.dst v) w':=by
     intro v w' hall
     refine Gu hanc hsel hg hno hdir m _ _ _ hcount' (by simp[hsz]) ⟨τ1,hτ1⟩ hdc' fun τ hτ=>?_
     obtain⟨R',r1,r2,r3,r4,C',r5,r6⟩:=hall τ hτ
     exact⟨R',C',r1,r2,r3,r4,r5,r6⟩
    unfold Dc at step g0
    generalize(execOp a.eval oi).run P w=r at*
    cases r with
    |ok nx w'=>
     have hp:=hne nx w' rfl
     cases nx<;>simp only at g0
     case value v=>rw[Oper.upon_value];exact go v w' step
     case skip=>rw[Oper.upon_skip];exact go undef w' step
     case enter f args=>exact hp.elim
     case row row args=>exact hp.elim
    |halt x w'=>exact g0.elim
def AdR(ops:Array Oper)(eff:Nat->Bool)(anc:Nat->Nat->Bool)(σ:List Nat):Bool:=
 (List.range ops.size).all (fun i=>σ.contains i)&&Nat.beq σ.length ops.size&&σ.all (fun i=>Nat.blt i ops.size)&&Io (fun j i=> !Nat.beq j i) σ&&Io (Hu ops eff anc) σ
def Uf(ops:Array Oper)(eff:Nat->Bool)(anc:Nat->Nat->Bool)(σs:List (List Nat)):Bool:=
 Region.noSelect ops&&ops.all (fun o=>o.guard.isNone)&&(List.range ops.size).all (fun i=>(Bn ops i).all fun e=>Nat.blt e ops.size&& !Nat.beq e i)&&
 (List.range ops.size).all (fun i=> !eff i||(match ops[i]? with|some o=>KS o.op|none=>true))&&σs.all (AdR ops eff anc)&& !σs.isEmpty&&
 (NA anc ops.size ((List.range ops.size).filter eff)).all (fun τ=>(σs.map (·.filter eff)).contains τ)&&σs.all (fun σ=>(NA anc ops.size ((List.range ops.size).filter eff)).contains (σ.filter eff))&&Io (fun i j=>true) (List.range ops.size)
theorem Tk{anc:Nat->Nat->Bool}:∀{k:Nat}{τ E:List Nat},E.length<=k->E.Nodup->τ∈NA anc k E->τ.Perm E/\YU anc τ
 |0,τ,E,hk,hn,h=>by
  have:E=[]:=List.length_eq_zero_iff.1 (by omega)
  subst this
  simp[NA] at h;subst h;exact⟨List.Perm.refl _,List.Pairwise.nil⟩
 |k+1,τ,E,hk,hn,h=>by
  unfold NA at h
  split at h
  ·rename_i he
   simp at he h;subst he;subst h;exact⟨List.Perm.refl _,List.Pairwise.nil⟩
  ·rw[List.mem_flatMap] at h
   obtain⟨i,hi,h⟩:=h
   rw[List.mem_filter,List.all_eq_true] at hi
   rw[List.mem_map] at h
   obtain⟨τ',h1,rfl⟩:=h
   obtain⟨g1,g2⟩:=Tk (by rw[List.length_erase_of_mem hi.1];omega) (hn.erase i) h1
   refine⟨(g1.cons i).trans (List.perm_cons_erase hi.1).symm,List.pairwise_cons.2 ⟨fun j hj=>?_,g2⟩⟩
   have hjE:=(List.Nodup.mem_erase_iff hn).1 (g1.mem_iff.1 hj)
   have:=hi.2 j hjE.2
   simp only[Bool.or_eq_true,Bool.not_eq_true'] at this
   rcases this with h|h
   ·exact absurd (Nat.eq_of_beq_eq_true h).symm hjE.1
   ·exact h
theorem OH{id:Nat}{tbl:List (List Nat)}{Qx:Exit->Act->World->Prop}{a:Act}{w:World}{σs:List (List Nat)}{C:World->Prop}(hm:P.follows .mixedOrders=true)(hB:(Uf ops eff (Gs tbl) σs&&Sv ops tbl (σs.headD []))=true)(hC:C {w with drawn:=w.drawn+1})
  (h:∀σ∈σs,Dx P ops eff (Gs tbl) (fun a w=>Qx .normal a w) σ [] a C):(Code.region id ops true).wp P Qx a w:=by
 rw[Bool.and_eq_true] at hB
 obtain⟨hB,hT⟩:=hB
 simp only[Uf,Bool.and_eq_true,List.all_eq_true,List.mem_range] at hB
 obtain⟨⟨⟨⟨⟨⟨⟨⟨h1,h2⟩,h3⟩,h4⟩,h5⟩,h6⟩,h7⟩,h8⟩,_⟩:=hB
 have hg0:∀i,(Array.replicate ops.size false).getD i false=false:=fun i=>by
  rw[Array.getD_eq_getD_getElem?,Array.getElem?_replicate];split<;>rfl
 have hEn:((List.range ops.size).filter eff).Nodup:=List.nodup_range.filter _
 have hEl:((List.range ops.size).filter eff).length<=ops.size:=by
  have:=List.length_filter_le eff (List.range ops.size);simpa using this
 have hEm:∀i,i∈(List.range ops.size).filter eff↔(i<ops.size/\eff i=true):=fun i=>by simp[List.mem_filter]
 have hsig:∀σ∈σs,(∀i,i∈σ↔i<ops.size)/\σ.length=ops.size/\σ.Nodup/\σ.Pairwise (fun j i=>Hu ops eff (Gs tbl) j i=true):=by
  intro σ hσ
  have:=h5 σ hσ
  simp only[AdR,Bool.and_eq_true,List.all_eq_true,List.mem_range,Nat.blt_eq] at this
  obtain⟨⟨⟨⟨s1,s2⟩,s3⟩,s4⟩,s5⟩:=this
  refine⟨fun i=>⟨fun hi=>s3 i hi,fun hi=>by have:=s1 i hi;simpa using this⟩,Nat.eq_of_beq_eq_true s2,?_,Dd s5⟩
  refine List.Pairwise.imp ?_ (Dd s4)
  intro x y hxy e
  subst e;simp at hxy
 refine wp_region_any hm ?_
 refine Gu (P:=P) (ops:=ops) (eff:=eff) (anc:=Gs tbl) (Qx:=Qx) (fun listed hd=>Ij hT hd) h1 (fun o ho=>?_) (fun i o ho he=>?_) (fun i e he=>?_) ops.size (Array.replicate ops.size false) a _ (fun R hR hRn=>?_) (by simp) ?_ (fun i hi=>by rw[hg0] at hi;cases hi) ?_
 ·have:=Array.all_eq_true_iff_forall_mem.1 h2 o ho
  simpa using this
 ·have hlt:=(Array.getElem?_eq_some_iff.1 ho).1
  have:=h4 i hlt
  simp only[he,ho,Bool.not_true,Bool.false_or] at this
  exact this
 ·have hi:i<ops.size:=by
   obtain⟨o,_,ho,_⟩:=El he
   exact(Array.getElem?_eq_some_iff.1 ho).1
  have:=h3 i hi e he
  simp only[Bool.and_eq_true,Bool.not_eq_true',Nat.blt_eq] at this
  refine⟨this.1,fun e'=>?_⟩
  have h9:=this.2
  rw[e'] at h9;simp at h9
 ·have hp:R.Perm (List.range ops.size):=(List.perm_ext_iff_of_nodup hRn List.nodup_range).2 fun i=>by rw[hR,List.mem_range,hg0];simp
  have:=hp.length_eq;simpa using this
 ·cases σs with
  |nil=>simp at h6
  |cons σ σs=>
   have:=h8 σ (by simp)
   have hin:σ.filter eff∈NA (Gs tbl) ops.size ((List.range ops.size).filter eff):=by simpa using this
   obtain⟨p1,p2⟩:=Tk hEl hEn hin
   exact⟨σ.filter eff,p1.nodup_iff.2 hEn,fun i=>by rw[p1.mem_iff,hEm,hg0];simp,p2⟩
 ·rintro τ⟨t1,t2,t3⟩
  have hp:τ.Perm ((List.range ops.size).filter eff):=(List.perm_ext_iff_of_nodup t1 hEn).2 fun i=>by rw[t2,hEm,hg0];simp
  have hin:=Sg hEl hp t3
  have:=h7 τ hin
  have:τ∈σs.map (·.filter eff):=by simpa using this
  obtain⟨σ,hσ,rfl⟩:=List.mem_map.1 this
  obtain⟨s1,s2,s3,s4⟩:=hsig σ hσ
  exact⟨σ,C,fun i=>by rw[s1,hg0];simp,s3,rfl,s4,hC,h σ hσ⟩
end fam
def Wds(P:Program)(ops:Array Oper)(eff:Nat->Bool)(anc:Nat->Nat->Bool)(Qx:Exit->Act->World->Prop)(n:Nat)(l:List (Nat×Value))(C:World->Prop):List (List Nat)->Prop
 |[]=>True
 |σ::σs=>Wd P ops eff anc Qx n l σ [] C/\Wds P ops eff anc Qx n l C σs
theorem WC.drawns{P:Program}{Qx:Exit->Act->World->Prop}{n:Nat}{l:List (Nat×Value)}{C:World->Prop}{w:World}{id:Nat}(tbl:List (List Nat)){ol:List Oper}(effs:List Nat)(σs:List (List Nat))(hm:P.follows .mixedOrders=true)(hB:(Uf ol.toArray (fun i=>effs.contains i) (Gs tbl) σs&&Sv ol.toArray tbl (σs.headD []))=true)(hC:C {w with drawn:=w.drawn+1})
  (h:Wds P ol.toArray (fun i=>effs.contains i) (Gs tbl) Qx n l C σs):WC P Qx n l (.region id ol.toArray true) w:=fun a ha=>OH hm hB hC (by
 have:∀(σs':List (List Nat)),Wds P ol.toArray (fun i=>effs.contains i) (Gs tbl) Qx n l C σs'->∀σ∈σs',Dx P ol.toArray (fun i=>effs.contains i) (Gs tbl) (fun a w=>Qx .normal a w) σ [] a C:=by
  intro σs'
  induction σs' with
  |nil=>intro _ σ hσ;cases hσ
  |cons σ0 σs' ih=>
   rintro⟨g1,g2⟩σ hσ
   rcases List.mem_cons.1 hσ with rfl|hσ
   ·exact g1 a ha
   ·exact ih g2 σ hσ
 exact this σs h)
end Go.Vc
namespace Go.Vc
open Go
abbrev Aa:=List UInt8
def sv(x:Aa):Value:=.string ⟨x.toArray⟩
def cStr:Codec Aa where
 size:=1
 rep:=fun _ cs x=>cs=[sv x]
 len:=fun h=>by rw[h];rfl
 mono:=fun _ h=>h
 one:=fun h u hu=>by rw[h] at hu;rw[List.mem_singleton.1 hu];rfl
theorem Nq{H:View}{u:Value}{x:Aa}(h:cStr.rep H [u] x):u=sv x:=by cases h;rfl
theorem Ax{H:View}{x:Aa}:cStr.rep H [sv x] x:=rfl
theorem Br{x:Aa}:(sv x).cells=#[sv x]:=rfl
def AS(x:Aa)(i:Int):Int:=((ix x i).toNat:Nat)
theorem IJ{x:Aa}{i:Int}:IntKind.u8.has (AS x i):=by
 have:=(ix x i).toNat_lt
 unfold AS
 simp only[IntKind.has,IntKind.min,IntKind.max,IntKind.bits,IntKind.signed];simp;omega
theorem Fm(x:Aa):(⟨x.toArray⟩:ByteArray).toList=x:=ByteArray.toList_mk x
theorem DO(x:Aa):(⟨x.toArray⟩:ByteArray).size=x.length:=rfl
theorem QI(x y:Aa):(⟨x.toArray⟩:ByteArray)++⟨y.toArray⟩=⟨(x++y).toArray⟩:=ByteArray.mk_append_mk x y
theorem Qu{a b:Aa}:(a==b)=decide (a=b):=by by_cases h:a=b<;>simp[h]
def MJ(x y:Aa):Bool:=Op.bytesLess x y
section
variable{P:Program}{n:Nat}{l:List (Nat×Value)}{C:World->Prop}{dst:Option Tmp}{ty:TypeId}{pos:String}{af:Array Edge}{gd:Option (Nat×Bool)}{t t':TypeId}{x y:Operand}{a b:Aa}{H:View}
theorem Iq{op:BinOp}{r:Value}(hx:AF l x=some (sv a))(hy:AF l y=some (sv b))(h:∀w,(binOp op t (sv a) (sv b)).run P w=.ok r w):Exv P n l C ⟨dst,.binOp op t x y t',ty,pos,af,gd⟩ r:=fun w _ act ha=>by
 have hg:(eqGuard op t x y (sv a) (sv b)).run P w=.ok () w:=by
  unfold eqGuard
  cases op<;>rfl
 simp only[execOp,ha.eval hx,ha.eval hy]
 rw[Sem.run_bind,Sem.run_bind,hg]
 show(((binOp op t (sv a) (sv b)).run P w).andThen _)=_
 rw[h w];rfl
theorem YS(hx:AF l x=some (sv a))(hy:AF l y=some (sv b)):Exv P n l C ⟨dst,.binOp .eql t x y t',ty,pos,af,gd⟩ (.bool (decide (a=b))):=
 Iq hx hy fun w=>by simp[binOp,sv,Op.stringOp,Fm,Qu]
theorem ZH(hx:AF l x=some (sv a))(hy:AF l y=some (sv b)):Exv P n l C ⟨dst,.binOp .neq t x y t',ty,pos,af,gd⟩ (.bool (decide (a≠b))):=
 Iq hx hy fun w=>by simp[binOp,sv,Op.stringOp,Fm,bne,Qu]
theorem Ys(hx:AF l x=some (sv a))(hy:AF l y=some (sv b)):Exv P n l C ⟨dst,.binOp .lss t x y t',ty,pos,af,gd⟩ (.bool (MJ a b)):=
 Iq hx hy fun w=>by simp[binOp,sv,Op.stringOp,Fm,MJ]
theorem YH(hx:AF l x=some (sv a))(hy:AF l y=some (sv b)):Exv P n l C ⟨dst,.binOp .gtr t x y t',ty,pos,af,gd⟩ (.bool (!(MJ a b||decide (a=b)))):=
 Iq hx hy fun w=>by simp[binOp,sv,Op.stringOp,Fm,MJ,Qu]
theorem Yy(hx:AF l x=some (sv a))(hy:AF l y=some (sv b))(h:I64 (a.length+b.length)):Exv P n l C ⟨dst,.binOp .add t x y t',ty,pos,af,gd⟩ (sv (a++b)):=
 Iq hx hy fun w=>by
  have:¬(((a.length+b.length:Nat):Int)>IntKind.i64.max):=by unfold I64 at h;simp[IntKind.max,IntKind.bits,IntKind.signed];omega
  simp only[binOp,sv,Op.stringOp,DO,this,if_false,QI];rfl
theorem Ol(ht:P.underlying t=some .string)(hx:AF l x=some (sv a)):Exv P n l C ⟨dst,.call {callee:=.builtin .len,args:=#[x],argTypes:=#[t]},ty,pos,af,gd⟩ (.int .i64 a.length):=fun w _ act ha=>by
 have hx:=ha.eval hx
 simp[execOp,resolve,invoke,builtin,Builtin.len_,hx,run_underlying ht,sv,DO,goInt]
theorem Vg{i:Int}{k:IntKind}(ht:P.underlying t=some .string)(hx:AF l x=some (sv a))(hy:AF l y=some (.int k i))(h:In i a):Exv P n l C ⟨dst,.index t x y,ty,pos,af,gd⟩ (.int .u8 (AS a i)):=fun w _ act ha=>by
 have hx:=ha.eval hx;have hy:=ha.eval hy
 have hg:=CJ h.1 h.2
 have h1:(⟨a.toArray⟩:ByteArray)[i.toNat]? =some (ix a i):=by
  have hlt:i.toNat<(⟨a.toArray⟩:ByteArray).size:=by rw[DO];have:=h.1;have:=h.2;omega
  rw[ByteArray.getElem?_lt' _ _ hlt,<-hg]
  have:i.toNat<a.length:=by have:=h.1;have:=h.2;omega
  rw[List.getElem?_eq_getElem this];rfl
 simp[execOp,Instr.index,hx,hy,asIntOf,run_underlying ht,sv,h.1,h1,AS]
theorem My{i:Int}{k:IntKind}(ht:P.underlying t=some .string)(hx:AF l x=some (sv a))(hy:AF l y=some (.int k i))(h:(0:Int)<=i/\i<=(a.length:Int)):Exv P n l C ⟨dst,.slice t x (some y) none none,ty,pos,af,gd⟩ (sv (a.drop i.toNat)):=fun w _ act ha=>by
 have hx:=ha.eval hx;have hy:=ha.eval hy
 have hb:=fun c=>CS (P:=P) (w:=w) (k:=k) (code:=c) h.1 (show i<=(a.length:Int) from h.2)
 have he:(⟨a.toArray⟩:ByteArray).extract i.toNat a.length=⟨(a.drop i.toNat).toArray⟩:=by
  rw[ByteArray.extract_mk,List.take_of_length_le (by rw[List.length_drop];omega)]
 simp[execOp,Instr.sliceAt,Instr.slice,hx,hy,run_underlying ht,sv,Instr.sliceBounds,DO,hb,he]
theorem AbK{i:Int}{k:IntKind}(ht:P.underlying t=some .string)(hx:AF l x=some (sv a))(hy:AF l y=some (.int k i))(h:(0:Int)<=i/\i<=(a.length:Int)):Exv P n l C ⟨dst,.slice t x none (some y) none,ty,pos,af,gd⟩ (sv (a.take i.toNat)):=fun w _ act ha=>by
 have hx:=ha.eval hx;have hy:=ha.eval hy
 have hb:=fun c=>CS (P:=P) (w:=w) (k:=k) (code:=c) h.1 (show i<=(a.length:Int) from h.2)
 have he:(⟨a.toArray⟩:ByteArray).extract 0 i.toNat=⟨(a.take i.toNat).toArray⟩:=by
  rw[ByteArray.extract_mk,List.drop_zero,Nat.sub_zero]
 simp[execOp,Instr.sliceAt,Instr.slice,hx,hy,run_underlying ht,sv,Instr.sliceBounds,DO,hb,he]
theorem Ft{i j:Int}{k k':IntKind}{z:Operand}(ht:P.underlying t=some .string)(hx:AF l x=some (sv a))(hy:AF l y=some (.int k i))(hz:AF l z=some (.int k' j))(h:(0:Int)<=i/\i<=j/\j<=(a.length:Int)):
  Exv P n l C ⟨dst,.slice t x (some y) (some z) none,ty,pos,af,gd⟩ (sv ((a.take j.toNat).drop i.toNat)):=fun w _ act ha=>by
 have hx:=ha.eval hx;have hy:=ha.eval hy;have hz:=ha.eval hz
 have hb1:=fun c=>CS (P:=P) (w:=w) (k:=k') (code:=c) (by omega:(0:Int)<=j) (show j<=(a.length:Int) from h.2.2)
 have hb2:=fun c=>CS (P:=P) (w:=w) (k:=k) (y:=j.toNat) (code:=c) h.1 (by omega:i<=(j.toNat:Int))
 have he:(⟨a.toArray⟩:ByteArray).extract i.toNat j.toNat=⟨((a.take j.toNat).drop i.toNat).toArray⟩:=by
  rw[ByteArray.extract_mk,List.drop_take]
 simp[execOp,Instr.sliceAt,Instr.slice,hx,hy,hz,run_underlying ht,sv,Instr.sliceBounds,DO,hb1,hb2,he]
end
end Go.Vc
namespace Go.Vc
open Go
structure Chain{α:Type}(c:Nat->Codec α)(k:Nat):Prop where
 size:∀d,(c d).size=k
 up:∀{d H cs x},(c d).rep H cs x->(c (d+1)).rep H cs x
section chain
variable{α:Type}{c:Nat->Codec α}{k:Nat}{H:View}
theorem Chain.le(h:Chain c k){d e:Nat}(hde:d<=e){cs:List Value}{x:α}(hr:(c d).rep H cs x):(c e).rep H cs x:=by
 induction hde with
 |refl=>exact hr
 |step _ ih=>exact h.up ih
theorem Chain.reps_le(h:Chain c k){d e:Nat}(hde:d<=e):∀{xs:List α}{cs:List Value},(c d).reps H cs xs->(c e).reps H cs xs
 |[],_,hr=>hr
 |_::_,_,⟨a,b,e1,h1,h2⟩=>⟨a,b,e1,h.le hde h1,h.reps_le hde h2⟩
theorem Chain.sl_le(h:Chain c k){d e:Nat}(hde:d<=e){v:Value}{xs:List α}(hs:IsSl H (c d) v xs):IsSl H (c e) v xs:=by
 obtain⟨ad,cap,h1,h2,h3,h4,h5⟩:=hs
 refine⟨ad,cap,h1,h2,h3,h4,h5.imp_right ?_⟩
 rintro⟨b,off,arr,T,fz,pre,cs,rest,e1,e2,e3,e4,e5⟩
 exact⟨b,off,arr,T,fz,pre,cs,rest,e1,e2,e3,e4,h.reps_le hde e5⟩
def Acr(c:Nat->Codec α)(k:Nat)(h:Chain c k):Codec α where
 size:=k
 rep:=fun H cs x=>∃d,(c d).rep H cs x
 len:=fun⟨d,hr⟩=>by rw[(c d).len hr,h.size]
 mono:=fun hle⟨d,hr⟩=>⟨d,(c d).mono hle hr⟩
 one:=fun⟨d,hr⟩=>(c d).one hr
theorem Kd(h:Chain c k):∀{xs:List α}{cs:List Value},(Acr c k h).reps H cs xs↔∃d,(c d).reps H cs xs
 |[],cs=>⟨fun hr=>⟨0,hr⟩,fun⟨_,hr⟩=>hr⟩
 |x::xs,cs=>by
  constructor
  ·rintro⟨a,b,e,⟨d,h1⟩,h2⟩
   obtain⟨d',h2⟩:=(Kd h).1 h2
   exact⟨max d d',a,b,e,h.le (Nat.le_max_left _ _) h1,h.reps_le (Nat.le_max_right _ _) h2⟩
  ·rintro⟨d,a,b,e,h1,h2⟩
   exact⟨a,b,e,⟨d,h1⟩,(Kd h).2 ⟨d,h2⟩⟩
theorem HS(h:Chain c k){v:Value}{xs:List α}:IsSl H (Acr c k h) v xs↔∃d,IsSl H (c d) v xs:=by
 constructor
 ·rintro⟨ad,cap,h1,h2,h3,h4,h5⟩
  rcases h5 with h5|⟨b,off,arr,T,fz,pre,cs,rest,e1,e2,e3,e4,e5⟩
  ·exact⟨0,ad,cap,h1,h2,h3,h4,.inl h5⟩
  ·obtain⟨d,e5⟩:=(Kd h).1 e5
   exact⟨d,ad,cap,h1,h2,h3,h4,.inr ⟨b,off,arr,T,fz,pre,cs,rest,e1,e2,e3,e4,e5⟩⟩
 ·rintro⟨d,ad,cap,h1,h2,h3,h4,h5⟩
  refine⟨ad,cap,h1,h2,h3,h4,h5.imp_right ?_⟩
  rintro⟨b,off,arr,T,fz,pre,cs,rest,e1,e2,e3,e4,e5⟩
  exact⟨b,off,arr,T,fz,pre,cs,rest,e1,e2,e3,e4,(Kd h).2 ⟨d,e5⟩⟩
end chain
inductive Val where
 |nil
 |truth (b:Bool)
 |num (n:Int)
 |text (s:Aa)
 |atom (s:Aa)
 |set (l:List Val) (h:Int)
 |fn (ks vs:List Val) (h:Int)
instance:Inhabited Val:=⟨.nil⟩
def VRb(c:Codec Val)(H:View)(u:Value):Val->Prop
 |.nil=>u=.nilIface
 |.truth b=>u=.iface 86 (.bool b)
 |.num n=>u=.iface 87 (.int .i64 n)/\I64 n
 |.text s=>u=.iface 89 (sv s)
 |.atom s=>u=.iface 91 (sv s)
 |.set l h=>∃b v fz,u=.iface 93 (.pointer (some ⟨b,0,none⟩))/\H b=some (.cells #[v,.int .i64 h] 96 fz)/\IsSl H c v l/\I64 h
 |.fn ks vs h=>∃b v v' fz,u=.iface 97 (.pointer (some ⟨b,0,none⟩))/\H b=some (.cells #[v,v',.int .i64 h] 100 fz)/\IsSl H c v ks/\IsSl H c v' vs/\I64 h
theorem VRb.mono{c:Codec Val}{H K:View}(hle:View.le H K){u:Value}:∀{x:Val},VRb c H u x->VRb c K u x
 |.nil,h=>h
 |.truth _,h=>h
 |.num _,h=>h
 |.text _,h=>h
 |.atom _,h=>h
 |.set _ _,⟨b,v,fz,h1,h2,h3,h4⟩=>⟨b,v,fz,h1,hle _ _ h2,h3.mono hle,h4⟩
 |.fn _ _ _,⟨b,v,v',fz,h1,h2,h3,h4,h5⟩=>⟨b,v,v',fz,h1,hle _ _ h2,h3.mono hle,h4.mono hle,h5⟩
theorem VRb.one{c:Codec Val}{H:View}{u:Value}:∀{x:Val},VRb c H u x->u.oneCell'=true
 |.nil,h=>by rw[show u=_ from h];rfl
 |.truth _,h=>by rw[show u=_ from h];rfl
 |.num _,h=>by rw[h.1];rfl
 |.text _,h=>by rw[show u=_ from h];rfl
 |.atom _,h=>by rw[show u=_ from h];rfl
 |.set _ _,⟨b,v,fz,h1,_⟩=>by rw[h1];rfl
 |.fn _ _ _,⟨b,v,v',fz,h1,_⟩=>by rw[h1];rfl
theorem VRb.imp{c d:Codec Val}{H:View}{u:Value}(hcd:∀{v xs},IsSl H c v xs->IsSl H d v xs):∀{x:Val},VRb c H u x->VRb d H u x
 |.nil,h=>h
 |.truth _,h=>h
 |.num _,h=>h
 |.text _,h=>h
 |.atom _,h=>h
 |.set _ _,⟨b,v,fz,h1,h2,h3,h4⟩=>⟨b,v,fz,h1,h2,hcd h3,h4⟩
 |.fn _ _ _,⟨b,v,v',fz,h1,h2,h3,h4,h5⟩=>⟨b,v,v',fz,h1,h2,hcd h3,hcd h4,h5⟩
def cVn(c:Codec Val):Codec Val where
 size:=1
 rep:=fun H cs x=>∃u,cs=[u]/\VRb c H u x
 len:=fun⟨u,h,_⟩=>by rw[h];rfl
 mono:=fun hle⟨u,h,h'⟩=>⟨u,h,h'.mono hle⟩
 one:=fun⟨u,h,h'⟩w hw=>by rw[h] at hw;rw[List.mem_singleton.1 hw];exact h'.one
def cV0:Codec Val where
 size:=1
 rep:=fun _ _ _=>False
 len:=fun h=>h.elim
 mono:=fun _ h=>h.elim
 one:=fun h=>h.elim
def cVd:Nat->Codec Val
 |0=>cV0
 |d+1=>cVn (cVd d)
theorem JQ{α:Type}{c d:Codec α}{H:View}(hs:c.size=d.size)(h:∀{cs x},c.rep H cs x->d.rep H cs x){v:Value}{xs:List α}(hsl:IsSl H c v xs):IsSl H d v xs:=by
 obtain⟨ad,cap,h1,h2,h3,h4,h5⟩:=hsl
 refine⟨ad,cap,h1,h2,h3,h4,h5.imp_right ?_⟩
 rintro⟨b,off,arr,T,fz,pre,cs,rest,e1,e2,e3,e4,e5⟩
 refine⟨b,off,arr,T,fz,pre,cs,rest,e1,e2,e3,e4,?_⟩
 clear e3 h2 h1 h5
 induction xs generalizing cs with
 |nil=>exact e5
 |cons x xs ih=>obtain⟨a,b,e,g1,g2⟩:=e5;exact⟨a,b,e,h g1,ih _ g2⟩
theorem NG:∀d,(cVd d).size=1
 |0=>rfl
 |_+1=>rfl
theorem Aar:∀{d:Nat}{H:View}{cs:List Value}{x:Val},(cVd d).rep H cs x->(cVd (d+1)).rep H cs x
 |0,_,_,_,h=>h.elim
 |d+1,H,cs,x,⟨u,h,h'⟩=>⟨u,h,h'.imp fun hs=>JQ (by rw[NG,NG]) (fun hr=>Aar hr) hs⟩
theorem chainV:Chain cVd 1:=⟨NG,Aar⟩
def cV:Codec Val:=Acr cVd 1 chainV
theorem VRb_lim{H:View}{u:Value}{x:Val}:VRb cV H u x↔∃d,VRb (cVd d) H u x:=by
 constructor
 ·intro h
  cases x with
  |nil=>exact⟨0,h⟩
  |truth b=>exact⟨0,h⟩
  |num n=>exact⟨0,h⟩
  |text s=>exact⟨0,h⟩
  |atom s=>exact⟨0,h⟩
  |set l k=>
   obtain⟨b,v,fz,h1,h2,h3,h4⟩:=h
   obtain⟨d,h3⟩:=(HS chainV).1 h3
   exact⟨d,b,v,fz,h1,h2,h3,h4⟩
  |fn ks vs k=>
   obtain⟨b,v,v',fz,h1,h2,h3,h4,h5⟩:=h
   obtain⟨d,h3⟩:=(HS chainV).1 h3
   obtain⟨d',h4⟩:=(HS chainV).1 h4
   exact⟨max d d',b,v,v',fz,h1,h2,chainV.sl_le (Nat.le_max_left _ _) h3,chainV.sl_le (Nat.le_max_right _ _) h4,h5⟩
 ·rintro⟨d,h⟩
  exact h.imp fun hs=>(HS chainV).2 ⟨d,hs⟩
theorem cV_rep{H:View}{u:Value}{x:Val}:cV.rep H [u] x↔VRb cV H u x:=by
 constructor
 ·rintro⟨d,h⟩
  cases d with
  |zero=>exact h.elim
  |succ d=>
   obtain⟨u',e,h⟩:=h
   cases e
   exact VRb_lim.2 ⟨d,h⟩
 ·intro h
  obtain⟨d,h⟩:=VRb_lim.1 h
  exact⟨d+1,u,rfl,h⟩
abbrev IsV(H:View)(u:Value)(x:Val):Prop:=VRb cV H u x
inductive RV where
 |mk (k i:Int) (t:Aa) (ks vs:List RV)
namespace RV
def k:RV->Int|mk k _ _ _ _=>k
def i:RV->Int|mk _ i _ _ _=>i
def t:RV->Aa|mk _ _ t _ _=>t
def ks:RV->List RV|mk _ _ _ ks _=>ks
def vs:RV->List RV|mk _ _ _ _ vs=>vs
end RV
instance:Inhabited RV:=⟨.mk 0 0 [] [] []⟩
def RRb(c:Codec RV)(H:View)(cs:List Value)(x:RV):Prop:=
 ∃v v',cs=[.int .i64 x.k,.int .i64 x.i,sv x.t,v,v']/\I64 x.k/\I64 x.i/\IsSl H c v x.ks/\IsSl H c v' x.vs
theorem IsSl.one'{α:Type}{c:Codec α}{H:View}{v:Value}{xs:List α}(h:IsSl H c v xs):v.oneCell'=true:=by obtain⟨_,_,rfl,_⟩:=h;rfl
def cRn(c:Codec RV):Codec RV where
 size:=5
 rep:=fun H cs x=>RRb c H cs x
 len:=fun⟨v,v',h,_⟩=>by rw[h];rfl
 mono:=fun hle⟨v,v',h,a,b,p,q⟩=>⟨v,v',h,a,b,p.mono hle,q.mono hle⟩
 one:=fun⟨v,v',h,a,b,p,q⟩u hu=>by
  rw[h] at hu
  simp only[List.mem_cons,List.not_mem_nil,or_false] at hu
  rcases hu with rfl|rfl|rfl|rfl|rfl
  ·rfl
  ·rfl
  ·rfl
  ·exact p.one'
  ·exact q.one'
def cR0:Codec RV where
 size:=5
 rep:=fun _ _ _=>False
 len:=fun h=>h.elim
 mono:=fun _ h=>h.elim
 one:=fun h=>h.elim
def cRd:Nat->Codec RV
 |0=>cR0
 |d+1=>cRn (cRd d)
theorem HK:∀d,(cRd d).size=5
 |0=>rfl
 |_+1=>rfl
theorem UG:∀{d:Nat}{H:View}{cs:List Value}{x:RV},(cRd d).rep H cs x->(cRd (d+1)).rep H cs x
 |0,_,_,_,h=>h.elim
 |d+1,H,cs,x,⟨v,v',h,a,b,p,q⟩=>⟨v,v',h,a,b,JQ (by rw[HK,HK]) (fun hr=>UG hr) p,JQ (by rw[HK,HK]) (fun hr=>UG hr) q⟩
theorem chainR:Chain cRd 5:=⟨HK,UG⟩
def cR:Codec RV:=Acr cRd 5 chainR
theorem cR_rep{H:View}{cs:List Value}{x:RV}:cR.rep H cs x↔RRb cR H cs x:=by
 constructor
 ·rintro⟨d,h⟩
  cases d with
  |zero=>exact h.elim
  |succ d=>
   obtain⟨v,v',h,a,b,p,q⟩:=h
   exact⟨v,v',h,a,b,(HS chainR).2 ⟨d,p⟩,(HS chainR).2 ⟨d,q⟩⟩
 ·rintro⟨v,v',h,a,b,p,q⟩
  obtain⟨d,p⟩:=(HS chainR).1 p
  obtain⟨d',q⟩:=(HS chainR).1 q
  exact⟨max d d'+1,v,v',h,a,b,chainR.sl_le (Nat.le_max_left _ _) p,chainR.sl_le (Nat.le_max_right _ _) q⟩
end Go.Vc
namespace Go.Vc
open Go
section pan
variable{P:Program}{ops:Array Oper}{Q:Exit->Act->World->Prop}{n:Nat}{l:List (Nat×Value)}{rest:List Oper}{o:Oper}{w:World}
theorem WL.callP{d f:Nat}{args:Array Value}{A B:Ending->World->Prop}(hg:o.guard=none)(hd:o.dst=some d)(hdn:Nat.blt d n=true)
  (he:∀a,Fr n l a->(execOp a.eval o).run P w=.ok (.enter f args) w)(hc:Calls P f args w fun e w'=>A e w'\/B e w')(kp:∀e w',B e w'->∃c,e=.panicked c/\WQ Q (.panic c) n l w')
  (k:∀e w',A e w'->∃v,e=.returned v/\WL P ops Q n ((d,v)::l) rest w'):WL P ops Q n l (o::rest) w:=fun a ha=>wpList_plain hg fun K hK=>by
 unfold Oper.wp
 rw[he a ha,Oper.upon_enter]
 refine hc.mono fun e w' hr=>?_
 rcases hr with hr|hr
 ·obtain⟨v,rfl,hv⟩:=k e w' hr
  rw[hd]
  exact hK _ _ (hv _ (ha.put hdn v))
 ·obtain⟨c,rfl,hp⟩:=kp e w' hr
  exact hp a ha
theorem WL.panic{dst:Option Tmp}{ty:TypeId}{pos:String}{af:Array Edge}{x:Operand}{t:TypeId}{u:Value}(hx:AF l x=some (.iface t u))
  (k:WQ Q (.panic [{v:=.iface t u,recovered:=false}]) n l w):WL P ops Q n l (⟨dst,.panic x,ty,pos,af,none⟩::rest) w:=fun a ha=>wpList_plain rfl fun K hK=>by
 unfold Oper.wp
 have:(execOp a.eval ⟨dst,.panic x,ty,pos,af,none⟩).run P w=.halt (.panic (.iface t u)) w:=by
  simp[execOp,ha.eval hx,Instr.panic]
 rw[this,Oper.upon_panic]
 exact k a ha
end pan
section leave
variable{P:Program}{fn:Func}{R:Ending->World->Prop}{n:Nat}{l:List (Nat×Value)}{w:World}
theorem AZ{t:Tmp}{T:TypeId}{b:Addr}{v:Value}{e:Exit}(he:e=.ret\/e=.normal)(hr:fn.results=#[.cell t T])(hv:lk l t=some (.pointer (some b)))(hl:(loadVar T b).run P w=.ok v w)(h:R (.returned v) w):WQ (bodyPost P fn R) e n l w:=fun a ha=>by
 have h1:=ha.val t _ hv
 rcases he with rfl|rfl<;>
 ·refine⟨ha.defers,v,?_,h⟩
  simp[results,hr,Array.getD_eq_getD_getElem?,h1,asAddr,hl]
theorem AbM{t u:Tmp}{T U:TypeId}{b c:Addr}{v x:Value}{e:Exit}(he:e=.ret\/e=.normal)(hr:fn.results=#[.cell t T,.cell u U])(hv:lk l t=some (.pointer (some b)))(hx:lk l u=some (.pointer (some c)))(hl:(loadVar T b).run P w=.ok v w)(hm:(loadVar U c).run P w=.ok x w)(h:R (.returned (.tuple #[v,x])) w):WQ (bodyPost P fn R) e n l w:=fun a ha=>by
 have h1:=ha.val t _ hv
 have h2:=ha.val u _ hx
 rcases he with rfl|rfl<;>
 ·refine⟨ha.defers,_,?_,h⟩
  simp[results,hr,Array.getD_eq_getD_getElem?,h1,h2,asAddr,hl,hm]
theorem Nb{t u k:Tmp}{T:TypeId}{b:Addr}{v x y:Value}{e:Exit}(he:e=.ret\/e=.normal)(hr:fn.results=#[.cell t T,.tmp u,.tmp k])(hv:lk l t=some (.pointer (some b)))(hx:lk l u=some x)(hy:lk l k=some y)(hl:(loadVar T b).run P w=.ok v w)(h:R (.returned (.tuple #[v,x,y])) w):WQ (bodyPost P fn R) e n l w:=fun a ha=>by
 have h1:=ha.val t _ hv
 have h2:=ha.val u _ hx
 have h3:=ha.val k _ hy
 rcases he with rfl|rfl<;>
 ·refine⟨ha.defers,_,?_,h⟩
  simp[results,hr,Array.getD_eq_getD_getElem?,h1,h2,h3,asAddr,hl]
end leave
section cell
variable{P:Program}{w0 w:World}{H:View}{L:Ar}
theorem TG{t:TypeId}{b:Nat}{T:TypeId}{u:Value}(hag:∀w,(isAgg t).run P w=.ok false w)(hS:St w0 H ([(b,Obj.cells #[u] T (0,0))]++L) w):(loadVar t ⟨b,0,none⟩).run P w=.ok u w:=
 CU hag (NL hS rfl)
theorem An{t:TypeId}{b k:Nat}{T:TypeId}{cs:List Value}(hag:∀w,(isAgg t).run P w=.ok true w)(hsz:∀w,(sizeOf t).run P w=.ok k w)(hS:St w0 H ([(b,Obj.cells cs.toArray T (0,0))]++L) w)(hk:cs.length=k):(loadVar t ⟨b,0,none⟩).run P w=.ok (.agg cs.toArray) w:=by
 have hb:=hS.own (b,Obj.cells cs.toArray T (0,0)) (by simp)
 have:=Bl (P:=P) (off:=0) (k:=k) (cs:=cs) hb (by simp[<-hk]) hk
 simp[loadVar,hag,hsz,this]
end cell
namespace Val
def isNil:Val->Bool|nil=>true|_=>false
def isTruth:Val->Bool|truth _=>true|_=>false
def truthD:Val->Bool|truth b=>b|_=>false
def isNum:Val->Bool|num _=>true|_=>false
def numD:Val->Int|num n=>n|_=>0
def isText:Val->Bool|text _=>true|_=>false
def textD:Val->Aa|text s=>s|_=>[]
def isAtom:Val->Bool|atom _=>true|_=>false
def atomD:Val->Aa|atom s=>s|_=>[]
def isSet:Val->Bool|set _ _=>true|_=>false
def setL:Val->List Val|set l _=>l|_=>[]
def setH:Val->Int|set _ h=>h|_=>0
def isFn:Val->Bool|fn _ _ _=>true|_=>false
def fnK:Val->List Val|fn k _ _=>k|_=>[]
def fnV:Val->List Val|fn _ v _=>v|_=>[]
def fnH:Val->Int|fn _ _ h=>h|_=>0
def rankOf:Val->Int|nil=>0|truth _=>1|num _=>2|text _=>3|atom _=>4|set _ _=>5|fn _ _ _=>6
def weightOf:Val->Int|set _ h=>h|fn _ _ h=>h|_=>1
end Val
def IsW(H:View)(u:Value)(x:Val):Prop:=IsV H u x
theorem IsW.mono{H K:View}{u:Value}{x:Val}(h:IsW H u x)(hle:View.le H K):IsW K u x:=VRb.mono hle h
theorem IsW.one{H:View}{u:Value}{x:Val}(h:IsW H u x):u.oneCell'=true:=VRb.one h
theorem IsW.nil{H:View}:IsW H .nilIface .nil:=rfl
theorem IsW.truth{H:View}{b:Bool}:IsW H (.iface 86 (.bool b)) (.truth b):=rfl
theorem IsW.num{H:View}{k:Int}(h:I64 k):IsW H (.iface 87 (.int .i64 k)) (.num k):=⟨rfl,h⟩
theorem IsW.text{H:View}{s:Aa}:IsW H (.iface 89 (sv s)) (.text s):=rfl
theorem IsW.atom{H:View}{s:Aa}:IsW H (.iface 91 (sv s)) (.atom s):=rfl
theorem Aw{H:View}{cs:List Value}{x:Val}(h:cV.rep H cs x):∃u,cs=[u]/\IsW H u x:=by
 have hl:=cV.len h
 match cs,hl with
 |[u],_=>exact⟨u,rfl,cV_rep.1 h⟩
theorem BZ{H:View}{u:Value}{x:Val}(h:IsW H u x):cV.rep H [u] x:=cV_rep.2 h
theorem AcL{H:View}{u:Value}{x:Val}(h:cV.rep H [u] x):IsW H u x:=cV_rep.1 h
def IsPS(H:View)(u:Value)(x:Val):Prop:=(x.isSet=true->IsW H (.iface 93 u) x)/\u.oneCell'=true
def IsPF(H:View)(u:Value)(x:Val):Prop:=(x.isFn=true->IsW H (.iface 97 u) x)/\u.oneCell'=true
theorem IsPS.mono{H K:View}{u:Value}{x:Val}(h:IsPS H u x)(hle:View.le H K):IsPS K u x:=⟨fun hx=>(h.1 hx).mono hle,h.2⟩
theorem IsPF.mono{H K:View}{u:Value}{x:Val}(h:IsPF H u x)(hle:View.le H K):IsPF K u x:=⟨fun hx=>(h.1 hx).mono hle,h.2⟩
theorem IsPS.one{H:View}{u:Value}{x:Val}(h:IsPS H u x):u.oneCell'=true:=h.2
theorem IsPF.one{H:View}{u:Value}{x:Val}(h:IsPF H u x):u.oneCell'=true:=h.2
theorem I64.num{H:View}{u:Value}{x:Val}(h:IsW H u x):I64 x.numD:=by
 cases x with
 |num n=>exact h.2
 |_=>exact(show I64 0 from⟨by decide,by decide⟩)
section ex
variable{P:Program}{n:Nat}{l:List (Nat×Value)}{C:World->Prop}{dst:Option Tmp}{ty:TypeId}{pos:String}{af:Array Edge}{gd:Option (Nat×Bool)}{H:View}
theorem IG{t t':TypeId}{x:Operand}{v:Value}{z:Val}(ht:P.underlying t=some (.interface (P.methodsAt t)))(hx:AF l x=some v)(hz:IsW H v z):
  Exv P n l C ⟨dst,.binOp .eql t x (.const .nilIface) t',ty,pos,af,gd⟩ (.bool z.isNil):=by
 refine JJ (u:=v) (v:=.nilIface) hx rfl (fun w=>?_) fun w=>?_
 ·cases z with
  |nil=>rw[show v=_ from hz];simp[eqGuard]
  |truth b=>rw[show v=_ from hz];simp[eqGuard]
  |num n=>rw[hz.1];simp[eqGuard]
  |text s=>rw[show v=_ from hz];simp[eqGuard]
  |atom s=>rw[show v=_ from hz];simp[eqGuard]
  |set l h=>obtain⟨b,u,fz,rfl,_⟩:=hz;simp[eqGuard]
  |fn k v' h=>obtain⟨b,u,u',fz,rfl,_⟩:=hz;simp[eqGuard]
 ·cases z with
  |nil=>rw[show v=_ from hz];simp[run_eql_nil_nil w t ht,Val.isNil]
  |truth b=>rw[show v=_ from hz];simp[run_eql_held_nil w t _ _ ht,Val.isNil]
  |num n=>rw[hz.1];simp[run_eql_held_nil w t _ _ ht,Val.isNil]
  |text s=>rw[show v=_ from hz];simp[run_eql_held_nil w t _ _ ht,Val.isNil]
  |atom s=>rw[show v=_ from hz];simp[run_eql_held_nil w t _ _ ht,Val.isNil]
  |set l h=>obtain⟨b,u,fz,rfl,_⟩:=hz;simp[run_eql_held_nil w t _ _ ht,Val.isNil]
  |fn k v' h=>obtain⟨b,u,u',fz,rfl,_⟩:=hz;simp[run_eql_held_nil w t _ _ ht,Val.isNil]
theorem Al{w:World}{xt at_ T:TypeId}{u z:Value}(hc:P.concrete at_=true)(hz:∀w,(zeroValue at_).run P w=.ok z w):
  (Instr.typeAssert (.iface T u) xt at_ true).run P w=.ok (.tuple #[if T=at_ then u else z,.bool (decide (T=at_))]) w:=by
 unfold Program.concrete at hc
 cases hu:P.underlying at_ with
 |none=>rw[hu] at hc;simp at hc
 |some d=>
  by_cases hT:T=at_
  ·subst hT
   cases d<;>simp_all[Instr.typeAssert,run_underlying hu]
  ·cases d<;>simp_all[Instr.typeAssert,run_underlying hu]
theorem CA{w:World}{xt at_:TypeId}{z:Value}(hc:P.concrete at_=true)(hz:∀w,(zeroValue at_).run P w=.ok z w):
  (Instr.typeAssert .nilIface xt at_ true).run P w=.ok (.tuple #[z,.bool false]) w:=by
 unfold Program.concrete at hc
 cases hu:P.underlying at_ with
 |none=>rw[hu] at hc;simp at hc
 |some d=>cases d<;>simp_all[Instr.typeAssert,run_underlying hu]
theorem Ei{w:World}{xt at_:TypeId}{u:Value}(hc:P.concrete at_=true):
  (Instr.typeAssert (.iface at_ u) xt at_ false).run P w=.ok u w:=by
 unfold Program.concrete at hc
 cases hu:P.underlying at_ with
 |none=>rw[hu] at hc;simp at hc
 |some d=>cases d<;>simp_all[Instr.typeAssert,run_underlying hu]
theorem TT{x:Operand}{xt:TypeId}{v:Value}{z:Val}(hc:P.concrete 86=true)(hz:∀w,(zeroValue 86).run P w=.ok (.bool false) w)(hx:AF l x=some v)(hv:IsW H v z):
  Exv P n l C ⟨dst,.typeAssert x xt 86 true,ty,pos,af,gd⟩ (.tuple #[.bool z.truthD,.bool z.isTruth]):=fun w _ a ha=>by
 cases z with
 |nil=>rw[show v=_ from hv] at hx;simp[execOp,ha.eval hx,CA hc hz,Val.truthD,Val.isTruth]
 |truth b=>rw[show v=_ from hv] at hx;simp[execOp,ha.eval hx,Al hc hz,Val.truthD,Val.isTruth]
 |num k=>rw[hv.1] at hx;simp[execOp,ha.eval hx,Al hc hz,Val.truthD,Val.isTruth]
 |text s=>rw[show v=_ from hv] at hx;simp[execOp,ha.eval hx,Al hc hz,Val.truthD,Val.isTruth]
 |atom s=>rw[show v=_ from hv] at hx;simp[execOp,ha.eval hx,Al hc hz,Val.truthD,Val.isTruth]
 |set k h=>obtain⟨b,u,fz,e,_⟩:=hv;rw[e] at hx;simp[execOp,ha.eval hx,Al hc hz,Val.truthD,Val.isTruth]
 |fn k v' h=>obtain⟨b,u,u',fz,e,_⟩:=hv;rw[e] at hx;simp[execOp,ha.eval hx,Al hc hz,Val.truthD,Val.isTruth]
theorem Ja{x:Operand}{xt:TypeId}{v:Value}{z:Val}(hc:P.concrete 87=true)(hz:∀w,(zeroValue 87).run P w=.ok (.int .i64 0) w)(hx:AF l x=some v)(hv:IsW H v z):
  Exv P n l C ⟨dst,.typeAssert x xt 87 true,ty,pos,af,gd⟩ (.tuple #[.int .i64 z.numD,.bool z.isNum]):=fun w _ a ha=>by
 cases z with
 |nil=>rw[show v=_ from hv] at hx;simp[execOp,ha.eval hx,CA hc hz,Val.numD,Val.isNum]
 |truth b=>rw[show v=_ from hv] at hx;simp[execOp,ha.eval hx,Al hc hz,Val.numD,Val.isNum]
 |num k=>rw[hv.1] at hx;simp[execOp,ha.eval hx,Al hc hz,Val.numD,Val.isNum]
 |text s=>rw[show v=_ from hv] at hx;simp[execOp,ha.eval hx,Al hc hz,Val.numD,Val.isNum]
 |atom s=>rw[show v=_ from hv] at hx;simp[execOp,ha.eval hx,Al hc hz,Val.numD,Val.isNum]
 |set k h=>obtain⟨b,u,fz,e,_⟩:=hv;rw[e] at hx;simp[execOp,ha.eval hx,Al hc hz,Val.numD,Val.isNum]
 |fn k v' h=>obtain⟨b,u,u',fz,e,_⟩:=hv;rw[e] at hx;simp[execOp,ha.eval hx,Al hc hz,Val.numD,Val.isNum]
theorem Uz{x:Operand}{xt:TypeId}{v:Value}{z:Val}(hc:P.concrete 89=true)(hz:∀w,(zeroValue 89).run P w=.ok (sv []) w)(hx:AF l x=some v)(hv:IsW H v z):
  Exv P n l C ⟨dst,.typeAssert x xt 89 true,ty,pos,af,gd⟩ (.tuple #[sv z.textD,.bool z.isText]):=fun w _ a ha=>by
 cases z with
 |nil=>rw[show v=_ from hv] at hx;simp[execOp,ha.eval hx,CA hc hz,Val.textD,Val.isText]
 |truth b=>rw[show v=_ from hv] at hx;simp[execOp,ha.eval hx,Al hc hz,Val.textD,Val.isText]
 |num k=>rw[hv.1] at hx;simp[execOp,ha.eval hx,Al hc hz,Val.textD,Val.isText]
 |text s=>rw[show v=_ from hv] at hx;simp[execOp,ha.eval hx,Al hc hz,Val.textD,Val.isText]
 |atom s=>rw[show v=_ from hv] at hx;simp[execOp,ha.eval hx,Al hc hz,Val.textD,Val.isText]
 |set k h=>obtain⟨b,u,fz,e,_⟩:=hv;rw[e] at hx;simp[execOp,ha.eval hx,Al hc hz,Val.textD,Val.isText]
 |fn k v' h=>obtain⟨b,u,u',fz,e,_⟩:=hv;rw[e] at hx;simp[execOp,ha.eval hx,Al hc hz,Val.textD,Val.isText]
theorem UJ{x:Operand}{xt:TypeId}{v:Value}{z:Val}(hc:P.concrete 91=true)(hz:∀w,(zeroValue 91).run P w=.ok (sv []) w)(hx:AF l x=some v)(hv:IsW H v z):
  Exv P n l C ⟨dst,.typeAssert x xt 91 true,ty,pos,af,gd⟩ (.tuple #[sv z.atomD,.bool z.isAtom]):=fun w _ a ha=>by
 cases z with
 |nil=>rw[show v=_ from hv] at hx;simp[execOp,ha.eval hx,CA hc hz,Val.atomD,Val.isAtom]
 |truth b=>rw[show v=_ from hv] at hx;simp[execOp,ha.eval hx,Al hc hz,Val.atomD,Val.isAtom]
 |num k=>rw[hv.1] at hx;simp[execOp,ha.eval hx,Al hc hz,Val.atomD,Val.isAtom]
 |text s=>rw[show v=_ from hv] at hx;simp[execOp,ha.eval hx,Al hc hz,Val.atomD,Val.isAtom]
 |atom s=>rw[show v=_ from hv] at hx;simp[execOp,ha.eval hx,Al hc hz,Val.atomD,Val.isAtom]
 |set k h=>obtain⟨b,u,fz,e,_⟩:=hv;rw[e] at hx;simp[execOp,ha.eval hx,Al hc hz,Val.atomD,Val.isAtom]
 |fn k v' h=>obtain⟨b,u,u',fz,e,_⟩:=hv;rw[e] at hx;simp[execOp,ha.eval hx,Al hc hz,Val.atomD,Val.isAtom]
theorem Lt{x:Operand}{xt:TypeId}{v:Value}{z:Val}(hc:P.concrete 93=true)(hz:∀w,(zeroValue 93).run P w=.ok (.pointer none) w)(hx:AF l x=some v)(hv:IsW H v z):
  ∃t,(∃u,t=.tuple #[u,.bool z.isSet]/\IsPS H u z)/\Exv P n l C ⟨dst,.typeAssert x xt 93 true,ty,pos,af,gd⟩ t:=by
 cases z with
 |set k h=>
  have hv':=hv
  obtain⟨b,u,fz,e,h2⟩:=hv;rw[e] at hx
  exact⟨_,⟨.pointer (some ⟨b,0,none⟩),rfl,fun _=>⟨b,u,fz,rfl,h2⟩,rfl⟩,fun w _ a ha=>by simp[execOp,ha.eval hx,Al hc hz,Val.isSet]⟩
 |nil=>exact⟨_,⟨.pointer none,rfl,nofun,rfl⟩,fun w _ a ha=>by rw[show v=_ from hv] at hx;simp[execOp,ha.eval hx,CA hc hz,Val.isSet]⟩
 |truth b=>exact⟨_,⟨.pointer none,rfl,nofun,rfl⟩,fun w _ a ha=>by rw[show v=_ from hv] at hx;simp[execOp,ha.eval hx,Al hc hz,Val.isSet]⟩
 |num k=>exact⟨_,⟨.pointer none,rfl,nofun,rfl⟩,fun w _ a ha=>by rw[hv.1] at hx;simp[execOp,ha.eval hx,Al hc hz,Val.isSet]⟩
 |text s=>exact⟨_,⟨.pointer none,rfl,nofun,rfl⟩,fun w _ a ha=>by rw[show v=_ from hv] at hx;simp[execOp,ha.eval hx,Al hc hz,Val.isSet]⟩
 |atom s=>exact⟨_,⟨.pointer none,rfl,nofun,rfl⟩,fun w _ a ha=>by rw[show v=_ from hv] at hx;simp[execOp,ha.eval hx,Al hc hz,Val.isSet]⟩
 |fn k v' h=>exact⟨_,⟨.pointer none,rfl,nofun,rfl⟩,fun w _ a ha=>by obtain⟨b,u,u',fz,e,_⟩:=hv;rw[e] at hx;simp[execOp,ha.eval hx,Al hc hz,Val.isSet]⟩
theorem Ke{x:Operand}{xt:TypeId}{v:Value}{z:Val}(hc:P.concrete 97=true)(hz:∀w,(zeroValue 97).run P w=.ok (.pointer none) w)(hx:AF l x=some v)(hv:IsW H v z):
  ∃t,(∃u,t=.tuple #[u,.bool z.isFn]/\IsPF H u z)/\Exv P n l C ⟨dst,.typeAssert x xt 97 true,ty,pos,af,gd⟩ t:=by
 cases z with
 |fn k v' h=>
  obtain⟨b,u,u',fz,e,h2⟩:=hv;rw[e] at hx
  exact⟨_,⟨.pointer (some ⟨b,0,none⟩),rfl,fun _=>⟨b,u,u',fz,rfl,h2⟩,rfl⟩,fun w _ a ha=>by simp[execOp,ha.eval hx,Al hc hz,Val.isFn]⟩
 |nil=>exact⟨_,⟨.pointer none,rfl,nofun,rfl⟩,fun w _ a ha=>by rw[show v=_ from hv] at hx;simp[execOp,ha.eval hx,CA hc hz,Val.isFn]⟩
 |truth b=>exact⟨_,⟨.pointer none,rfl,nofun,rfl⟩,fun w _ a ha=>by rw[show v=_ from hv] at hx;simp[execOp,ha.eval hx,Al hc hz,Val.isFn]⟩
 |num k=>exact⟨_,⟨.pointer none,rfl,nofun,rfl⟩,fun w _ a ha=>by rw[hv.1] at hx;simp[execOp,ha.eval hx,Al hc hz,Val.isFn]⟩
 |text s=>exact⟨_,⟨.pointer none,rfl,nofun,rfl⟩,fun w _ a ha=>by rw[show v=_ from hv] at hx;simp[execOp,ha.eval hx,Al hc hz,Val.isFn]⟩
 |atom s=>exact⟨_,⟨.pointer none,rfl,nofun,rfl⟩,fun w _ a ha=>by rw[show v=_ from hv] at hx;simp[execOp,ha.eval hx,Al hc hz,Val.isFn]⟩
 |set k h=>exact⟨_,⟨.pointer none,rfl,nofun,rfl⟩,fun w _ a ha=>by obtain⟨b,u,fz,e,_⟩:=hv;rw[e] at hx;simp[execOp,ha.eval hx,Al hc hz,Val.isFn]⟩
theorem TH{x:Operand}{xt:TypeId}{v:Value}{z:Val}(hc:P.concrete 86=true)(hx:AF l x=some v)(hv:IsW H v z)(hk:z.isTruth=true):Exv P n l C ⟨dst,.typeAssert x xt 86 false,ty,pos,af,gd⟩ (.bool z.truthD):=fun w _ a ha=>by
 cases z<;>first|exact Bool.noConfusion (show false=true from hk)|(rw[show v=_ from hv] at hx;simp[execOp,ha.eval hx,Ei hc,Val.truthD])
theorem Xa{x:Operand}{xt:TypeId}{v:Value}{z:Val}(hc:P.concrete 87=true)(hx:AF l x=some v)(hv:IsW H v z)(hk:z.isNum=true):Exv P n l C ⟨dst,.typeAssert x xt 87 false,ty,pos,af,gd⟩ (.int .i64 z.numD):=fun w _ a ha=>by
 cases z<;>first|exact Bool.noConfusion (show false=true from hk)|(rw[hv.1] at hx;simp[execOp,ha.eval hx,Ei hc,Val.numD])
theorem Uw{x:Operand}{xt:TypeId}{v:Value}{z:Val}(hc:P.concrete 89=true)(hx:AF l x=some v)(hv:IsW H v z)(hk:z.isText=true):Exv P n l C ⟨dst,.typeAssert x xt 89 false,ty,pos,af,gd⟩ (sv z.textD):=fun w _ a ha=>by
 cases z<;>first|exact Bool.noConfusion (show false=true from hk)|(rw[show v=_ from hv] at hx;simp[execOp,ha.eval hx,Ei hc,Val.textD])
theorem Ud{x:Operand}{xt:TypeId}{v:Value}{z:Val}(hc:P.concrete 91=true)(hx:AF l x=some v)(hv:IsW H v z)(hk:z.isAtom=true):Exv P n l C ⟨dst,.typeAssert x xt 91 false,ty,pos,af,gd⟩ (sv z.atomD):=fun w _ a ha=>by
 cases z<;>first|exact Bool.noConfusion (show false=true from hk)|(rw[show v=_ from hv] at hx;simp[execOp,ha.eval hx,Ei hc,Val.atomD])
theorem PU{x:Operand}{xt:TypeId}{v:Value}{z:Val}(hc:P.concrete 93=true)(hx:AF l x=some v)(hv:IsW H v z)(hk:z.isSet=true):∃u,IsPS H u z/\Exv P n l C ⟨dst,.typeAssert x xt 93 false,ty,pos,af,gd⟩ u:=by
 cases z<;>first|exact Bool.noConfusion (show false=true from hk)|skip
 obtain⟨b,u,fz,e,h2⟩:=hv;rw[e] at hx
 exact⟨.pointer (some ⟨b,0,none⟩),⟨fun _=>⟨b,u,fz,rfl,h2⟩,rfl⟩,fun w _ a ha=>by simp[execOp,ha.eval hx,Ei hc]⟩
theorem SV{x:Operand}{xt:TypeId}{v:Value}{z:Val}(hc:P.concrete 97=true)(hx:AF l x=some v)(hv:IsW H v z)(hk:z.isFn=true):∃u,IsPF H u z/\Exv P n l C ⟨dst,.typeAssert x xt 97 false,ty,pos,af,gd⟩ u:=by
 cases z<;>first|exact Bool.noConfusion (show false=true from hk)|skip
 obtain⟨b,u,u',fz,e,h2⟩:=hv;rw[e] at hx
 exact⟨.pointer (some ⟨b,0,none⟩),⟨fun _=>⟨b,u,u',fz,rfl,h2⟩,rfl⟩,fun w _ a ha=>by simp[execOp,ha.eval hx,Ei hc]⟩
theorem Fx{x:Operand}{u:Value}{z:Val}(hx:AF l x=some u)(hu:IsPS H u z)(hk:z.isSet=true):Exv P n l C ⟨dst,.nilCheck x,ty,pos,af,gd⟩ u:=by
 have h:=hu.1 hk
 cases z<;>first|exact Bool.noConfusion (show false=true from hk)|skip
 obtain⟨b,v,fz,e,_⟩:=h;cases e
 exact Bi hx
theorem Cn{x:Operand}{u:Value}{z:Val}(hx:AF l x=some u)(hu:IsPF H u z)(hk:z.isFn=true):Exv P n l C ⟨dst,.nilCheck x,ty,pos,af,gd⟩ u:=by
 have h:=hu.1 hk
 cases z<;>first|exact Bool.noConfusion (show false=true from hk)|skip
 obtain⟨b,v,v',fz,e,_⟩:=h;cases e
 exact Bi hx
section fields
variable{s:TypeId}{x:Operand}{f k:Nat}{fields:Array Field}{fd:Field}{u:Value}{z:Val}
theorem IH(hs:P.underlying s=some (.struct fields))(hf:fields[0]? =some fd)(hsz:∀w,(sizeOf fd.type).run P w=.ok (k+1) w)(ho:0+fd.offset=0)(hx:AF l x=some u)(hu:IsPS H u z)(hk:z.isSet=true):
  ∃p,IsPt H (JR cV) p z.setL/\Exv P n l C ⟨dst,.fieldAddr s x 0,ty,pos,af,gd⟩ p:=by
 have h:=hu.1 hk
 cases z<;>first|exact Bool.noConfusion (show false=true from hk)|skip
 obtain⟨b,v,fz,e,h2,h3,h4⟩:=h;cases e
 exact⟨.pointer (some ⟨b,0,none⟩),⟨b,0,_,_,fz,[],[v],[_],rfl,h2,rfl,rfl,v,rfl,h3⟩,Af hs hf hsz hx ho⟩
theorem SM(hs:P.underlying s=some (.struct fields))(hf:fields[1]? =some fd)(hsz:∀w,(sizeOf fd.type).run P w=.ok (k+1) w)(ho:0+fd.offset=1)(hx:AF l x=some u)(hu:IsPS H u z)(hk:z.isSet=true):
  ∃p,IsPt H (CV .i64) p z.setH/\Exv P n l C ⟨dst,.fieldAddr s x 1,ty,pos,af,gd⟩ p:=by
 have h:=hu.1 hk
 cases z<;>first|exact Bool.noConfusion (show false=true from hk)|skip
 obtain⟨b,v,fz,e,h2,h3,h4⟩:=h;cases e
 exact⟨.pointer (some ⟨b,1,none⟩),⟨b,1,_,_,fz,[v],[_],[],rfl,h2,rfl,rfl,rfl,h4.has⟩,Af hs hf hsz hx ho⟩
theorem Hq(hs:P.underlying s=some (.struct fields))(hf:fields[0]? =some fd)(hsz:∀w,(sizeOf fd.type).run P w=.ok (k+1) w)(ho:0+fd.offset=0)(hx:AF l x=some u)(hu:IsPF H u z)(hk:z.isFn=true):
  ∃p,IsPt H (JR cV) p z.fnK/\Exv P n l C ⟨dst,.fieldAddr s x 0,ty,pos,af,gd⟩ p:=by
 have h:=hu.1 hk
 cases z<;>first|exact Bool.noConfusion (show false=true from hk)|skip
 obtain⟨b,v,v',fz,e,h2,h3,h4,h5⟩:=h;cases e
 exact⟨.pointer (some ⟨b,0,none⟩),⟨b,0,_,_,fz,[],[v],[_,_],rfl,h2,rfl,rfl,v,rfl,h3⟩,Af hs hf hsz hx ho⟩
theorem Hn(hs:P.underlying s=some (.struct fields))(hf:fields[1]? =some fd)(hsz:∀w,(sizeOf fd.type).run P w=.ok (k+1) w)(ho:0+fd.offset=1)(hx:AF l x=some u)(hu:IsPF H u z)(hk:z.isFn=true):
  ∃p,IsPt H (JR cV) p z.fnV/\Exv P n l C ⟨dst,.fieldAddr s x 1,ty,pos,af,gd⟩ p:=by
 have h:=hu.1 hk
 cases z<;>first|exact Bool.noConfusion (show false=true from hk)|skip
 obtain⟨b,v,v',fz,e,h2,h3,h4,h5⟩:=h;cases e
 exact⟨.pointer (some ⟨b,1,none⟩),⟨b,1,_,_,fz,[_],[v'],[_],rfl,h2,rfl,rfl,v',rfl,h4⟩,Af hs hf hsz hx ho⟩
theorem VR(hs:P.underlying s=some (.struct fields))(hf:fields[2]? =some fd)(hsz:∀w,(sizeOf fd.type).run P w=.ok (k+1) w)(ho:0+fd.offset=2)(hx:AF l x=some u)(hu:IsPF H u z)(hk:z.isFn=true):
  ∃p,IsPt H (CV .i64) p z.fnH/\Exv P n l C ⟨dst,.fieldAddr s x 2,ty,pos,af,gd⟩ p:=by
 have h:=hu.1 hk
 cases z<;>first|exact Bool.noConfusion (show false=true from hk)|skip
 obtain⟨b,v,v',fz,e,h2,h3,h4,h5⟩:=h;cases e
 exact⟨.pointer (some ⟨b,2,none⟩),⟨b,2,_,_,fz,[_,_],[_],[],rfl,h2,rfl,rfl,rfl,h5.has⟩,Af hs hf hsz hx ho⟩
end fields
end ex
theorem IsW.mkset{w0 w:World}{H:View}{L:Ar}{b:Nat}{v:Value}{k:List Val}{h:Int}(hS:St w0 H ([(b,Obj.cells #[v,.int .i64 h] 96 (0,0))]++L) w)(hl:IsSl H cV v k)(hh:I64 h):
  IsW (H.put [(b,Obj.cells #[v,.int .i64 h] 96 (0,0))]) (.iface 93 (.pointer (some ⟨b,0,none⟩))) (.set k h):=
 ⟨b,v,(0,0),rfl,View.put_mem (by simp) (p:=(b,_)) (by simp),hl.mono hS.put_le,hh⟩
theorem IsW.mkfn{w0 w:World}{H:View}{L:Ar}{b:Nat}{v v':Value}{k k':List Val}{h:Int}(hS:St w0 H ([(b,Obj.cells #[v,v',.int .i64 h] 100 (0,0))]++L) w)(hl:IsSl H cV v k)(hl':IsSl H cV v' k')(hh:I64 h):
  IsW (H.put [(b,Obj.cells #[v,v',.int .i64 h] 100 (0,0))]) (.iface 97 (.pointer (some ⟨b,0,none⟩))) (.fn k k' h):=
 ⟨b,v,v',(0,0),rfl,View.put_mem (by simp) (p:=(b,_)) (by simp),hl.mono hS.put_le,hl'.mono hS.put_le,hh⟩
end Go.Vc
namespace Go.Vc
open Go Go.Lib
def cB8:Codec UInt8 where
 size:=1
 rep:=fun _ cs x=>cs=[.int .u8 x.toNat]
 len:=fun h=>by rw[h];rfl
 mono:=fun _ h=>h
 one:=fun h u hu=>by rw[h] at hu;rw[List.mem_singleton.1 hu];rfl
def u8(i:Int):UInt8:=UInt8.ofNat i.toNat
theorem Ade{i:Int}(h:IntKind.u8.has i):0<=i/\i<=255:=by
 simp only[IntKind.has,IntKind.min,IntKind.max,IntKind.bits,IntKind.signed] at h;simp at h;omega
theorem JC{i:Int}(h:0<=i/\i<=255):IntKind.u8.has i:=by
 simp only[IntKind.has,IntKind.min,IntKind.max,IntKind.bits,IntKind.signed];simp;omega
theorem AcN{i:Int}(h:IntKind.u8.has i):((u8 i).toNat:Int)=i:=by
 have:=Ade h
 unfold u8
 rw[UInt8.toNat_ofNat']
 omega
theorem Hg{H:View}{i:Int}(h:IntKind.u8.has i):cB8.rep H [.int .u8 i] (u8 i):=by
 show[_]=[_];rw[AcN h]
theorem reps_b8{H:View}:∀{s:Aa}{cs:List Value},cB8.reps H cs s↔cs=strCells ⟨s.toArray⟩
 |[],cs=>by simp[Codec.reps,strCells]
 |x::s,cs=>by
  constructor
  ·rintro⟨a,b,e,h1,h2⟩
   have h2:=(reps_b8 (H:=H)).1 h2
   rw[e,h2,show a=_ from h1];simp[strCells]
  ·intro e
   refine⟨[.int .u8 x.toNat],strCells ⟨s.toArray⟩,by rw[e];simp[strCells],rfl,(reps_b8 (H:=H)).2 rfl⟩
section app
variable{P:Program}{w0 w:World}{H:View}{L fp:Ar}
theorem QR{t u ty e:TypeId}{i:TypeInfo}{z:Value}(ht:P.underlying t=some (.slice e))(hu:P.underlying u=some .string)(hi:P.info? e=some i)(hz:i.zero=some z)(hsz:i.size=1)(hzs:z.cells.size=1)
  {v:Value}{xs s:Aa}(hw:St w0 H (fp++L) w)(hs:OwnSl H cB8 e v xs fp)(hroom:(xs.length+s.length)* i.bytes<=140737488355328)(hmax:xs.length+s.length<=maxLen):
  ∃v' w' fp',(Builtin.append_ #[t,u] ty #[v,sv s]).run P w=.ok v' w'/\OwnSl H cB8 e v' (xs++s) fp'/\St w0 H (fp'++L) w':=by
 have hss:(⟨s.toArray⟩:ByteArray).size=s.length:=rfl
 have hsc:(strCells ⟨s.toArray⟩).length=s.length:=by rw[strCells_length];rfl
 have h63:((xs.length+s.length:Nat):Int)<=9223372036854775807:=by unfold maxLen at hmax;omega
 have hns:cB8.reps H (strCells ⟨s.toArray⟩) s:=reps_b8.2 rfl
 rcases hs with⟨rfl,rfl,rfl⟩|⟨b,cap',arr,cs,rest,rfl,rfl,e3,e4,e5,e6,e7⟩
 ·by_cases h0:s=[]
  ·subst h0
   refine⟨.slice none 0 0,w,[],?_,OwnSl.nil,hw⟩
   have hsv:sv []=.string ByteArray.empty:=rfl
   rw[hsv]
   simp[Builtin.append_,run_underlying ht,run_underlying hu,sizeOf,typeInfo,hi,Builtin.lenOf,Builtin.firstCells]
  ·have hp:0<s.length:=List.length_pos_iff.2 h0
   simp only[List.length_nil,Nat.zero_add] at hroom h63 hmax
   have hr:=run_append_nil_string (P:=P) w t u ty e i z ht hu hi hz ⟨s.toArray⟩ (by rw[hss];exact hp) (by rw[hss];exact h63) (by rw[hss];omega)
   rw[hss] at hr
   refine⟨_,_,_,hr,.inr ⟨_,grownCap w s.length 0 e,_,strCells ⟨s.toArray⟩,(Builtin.zeroCells z.cells (grownCap w s.length 0 e-s.length)).toList,rfl,rfl,?_,?_,?_,?_,hns⟩,hw.drew.alloc _⟩
   ·simp[strCells]
   ·have h1:=grownCap_ge w s.length 0 e
    simp only[Array.size_append,Array.size_map,size_zeroCells,hzs,cB8]
    show s.length+_=_;omega
   ·simpa using grownCap_ge w s.length 0 e
   ·exact grownCap_le_maxLen w _ _ _ hmax
 ·have hcl:=Codec.reps_length e7
  have hc1:cB8.size=1:=rfl
  rw[hc1,Nat.mul_one] at hcl e4
  have hg:=hw.own (b,.cells arr e (0,0)) (by simp)
  by_cases hroom':xs.length+s.length<=cap'
  ·have hr:=run_append_room_string (P:=P) w t u ty e i ht hu hi hsz b xs.length cap' arr hg ⟨s.toArray⟩ (by rw[hss];exact hroom') (by rw[hss,e4];exact hroom')
   rw[hss] at hr
   have htk:arr.toList.take xs.length=cs:=by rw[<-hcl,e3,List.take_left]
   refine⟨_,_,[(b,.cells (arr.toList.take xs.length++strCells ⟨s.toArray⟩++arr.toList.drop (xs.length+s.length)).toArray e (0,0))],hr,.inr ⟨b,cap',_,cs++strCells ⟨s.toArray⟩,arr.toList.drop (xs.length+s.length),by rw[List.length_append],rfl,?_,?_,?_,e6,Codec.reps_append e7 hns⟩,?_⟩
   ·simp only[htk,List.append_assoc]
   ·simp only[htk,List.size_toArray,List.length_append,List.length_drop,Array.length_toList,hsc,hc1]
    omega
   ·rw[List.length_append];exact hroom'
   ·exact hw.write rfl rfl rfl (by simp[World.setRow]) (setRow_heap w b arr _ e _ hg) (fun k hk=>setRow_other w b k _ hk)
  ·have holds:∀j u,cs[j]? =some u->w.cell? ((⟨b,0,none⟩:Addr).add j)=some u:=fun j u hj=>by
    rw[Addr.add_lit]
    simp only[World.cell?,hg]
    simp only[Option.isSome_none,Bool.false_eq_true,if_false]
    have hj':=(List.getElem?_eq_some_iff.1 hj).1
    rw[<-Array.getElem?_toList,e3,Nat.zero_add,List.getElem?_append_left (by omega)]
    exact hj
   have hr:=run_append_grow_string (P:=P) w t u ty e i z ht hu hi hz ⟨b,0,none⟩ xs.length cap' cs (by rw[hcl,hsz,Nat.mul_one]) holds ⟨s.toArray⟩ (by rw[hss];omega) (by rw[hss];exact h63) (by rw[hss];exact growslice_fits (by omega) hroom)
   rw[hss] at hr
   refine⟨_,_,_,hr,.inr ⟨_,grownCap w (xs.length+s.length) cap' e,_,cs++strCells ⟨s.toArray⟩,(Builtin.zeroCells z.cells (grownCap w (xs.length+s.length) cap' e-(xs.length+s.length))).toList,by rw[List.length_append];rfl,rfl,by simp,?_,?_,?_,Codec.reps_append e7 hns⟩,(hw.drop (s:=[(b,.cells arr e (0,0))])).drew.alloc _⟩
   ·have h1:=grownCap_ge w (xs.length+s.length) cap' e
    simp only[Array.size_append,List.size_toArray,size_zeroCells,hzs,hcl,hsc,hc1]
    omega
   ·rw[List.length_append];exact grownCap_ge w _ _ e
   ·exact grownCap_le_maxLen w _ _ _ hmax
end app
section rules
variable{P:Program}{ops:Array Oper}{Q:Exit->Act->World->Prop}{n:Nat}{l:List (Nat×Value)}{rest:List Oper}{w0 w:World}{H:View}{L:Ar}{ty:TypeId}{pos:String}{af:Array Edge}
theorem WL.appends{fp:Ar}{d:Nat}{t u e:TypeId}{z:Value}{bytes:Nat}{x y:Operand}{v:Value}{xs s:Aa}(hdn:Nat.blt d n=true)
  (ht:P.underlying t=some (.slice e))(hu:P.underlying u=some .string)(hi:(P.info? e).map (fun i=>(i.zero,i.size,i.bytes))=some (some z,1,bytes))(hzs:z.cells.size=1)
  (hx:AF l x=some v)(hy:AF l y=some (sv s))(hw:St w0 H (fp++L) w)(hs:OwnSl H cB8 e v xs fp)(hroom:(xs.length+s.length)* bytes<=140737488355328)(hmax:xs.length+s.length<=maxLen)
  (k:∀v' w' fp',OwnSl H cB8 e v' (xs++s) fp'->St w0 H (fp'++L) w'->WL P ops Q n ((d,v')::l) rest w'):
  WL P ops Q n l (⟨some d,.call {callee:=.builtin .append,args:=#[x,y],argTypes:=#[t,u]},ty,pos,af,none⟩::rest) w:=by
 obtain⟨i,hI,hz,h1,h2⟩:=info_parts hi
 subst h2
 obtain⟨v',w',fp',hr,ho,hst⟩:=QR (P:=P) (ty:=ty) ht hu hI hz h1 hzs hw hs hroom hmax
 refine WL.turn rfl rfl hdn (fun a ha=>?_) (k v' w' fp' ho hst)
 simp[execOp,resolve,invoke,builtin,ha.eval hx,ha.eval hy,hr]
end rules
section ex
variable{P:Program}{n:Nat}{l:List (Nat×Value)}{C:World->Prop}{dst:Option Tmp}{ty:TypeId}{pos:String}{af:Array Edge}{gd:Option (Nat×Bool)}{H K:View}{w0:World}{L fp:Ar}
theorem OU(s:Aa):∀(acc:List UInt8),(s.map fun b=>((b.toNat:Nat):Int)).foldl (fun(r:ByteArray)n=>r.push (UInt8.ofNat n.toNat)) ⟨acc.toArray⟩=⟨(acc++s).toArray⟩:=by
 induction s with
 |nil=>intro acc;simp
 |cons b s ih=>
  intro acc
  simp only[List.map_cons,List.foldl_cons]
  have:(⟨acc.toArray⟩:ByteArray).push (UInt8.ofNat ((b.toNat:Int)).toNat)=⟨(acc++[b]).toArray⟩:=by
   simp[ByteArray.push]
  rw[this,ih];simp
theorem Gg{src dt e T:TypeId}{x:Operand}{v:Value}{s:Aa}(hs:P.underlying src=some (.slice e))(he:P.underlying e=some (.int .u8))(hd:P.underlying dt=some .string)(hx:AF l x=some v)(ho:OwnSl H cB8 T v s fp):
  Exv P n l (St w0 H (fp++L)) ⟨dst,.convert src dt x,ty,pos,af,gd⟩ (sv s):=fun w hw a ha=>by
 rcases ho with⟨rfl,rfl,rfl⟩|⟨b,cap',arr,cs,rest,rfl,rfl,e3,e4,e5,e6,e7⟩
 ·have:=run_convert_bytes_string (P:=P) w src dt e none 0 0 hs he hd
  have h2:(Conv.bytesToString (.slice none 0 0)).run P w=.ok (sv []) w:=by simp[Conv.bytesToString];rfl
  simp[execOp,ha.eval hx,this,h2]
 ·have hg:=hw.own (b,.cells arr T (0,0)) (by simp)
  have hcs:=reps_b8.1 e7
  have hl:(loadCells ⟨b,0,none⟩ s.length).run P w=.ok (((s.map fun b=>((b.toNat:Nat):Int)).map (Value.int .u8)).toArray) w:=by
   have hcs2:cs=(s.map fun b=>((b.toNat:Nat):Int)).map (Value.int .u8):=by rw[hcs];simp[strCells]
   have hlen:cs.length=s.length:=by rw[hcs2];simp
   have:=Bl (P:=P) (off:=0) (k:=s.length) (cs:=cs) hg (by rw[e3];simp[<-hlen]) hlen
   rw[this,hcs2]
  have h1:=run_bytesToString (P:=P) w ⟨b,0,none⟩ s.length cap' _ hl
  have h2:=run_convert_bytes_string (P:=P) w src dt e (some ⟨b,0,none⟩) s.length cap' hs he hd
  rw[h1] at h2
  have h3:=OU s []
  have h4:(⟨([]:List UInt8).toArray⟩:ByteArray)=ByteArray.empty:=rfl
  rw[h4] at h3
  rw[h3] at h2
  simp[execOp,ha.eval hx,h2,sv]
theorem Mh{src dt:TypeId}{x:Operand}{k k':IntKind}{i:Int}(hs:P.underlying src=some (.int k))(hd:P.underlying dt=some (.int k'))(hx:AF l x=some (.int k i)):
  Exv P n l C ⟨dst,.convert src dt x,ty,pos,af,gd⟩ (.int k' (k'.wrap i)):=fun w _ a ha=>by
 simp[execOp,ha.eval hx,convert,run_underlying hs,run_underlying hd,Conv.intToInt]
theorem CI{t t':TypeId}{k:IntKind}{x y:Operand}{p q:Int}(hx:AF l x=some (.int k p))(hy:AF l y=some (.int k q)):Exv P n l C ⟨dst,.binOp .add t x y t',ty,pos,af,gd⟩ (.int k (k.wrap (p+q))):=Dh hx hy fun w=>by simp[binOp,Op.intArith]
theorem EH{t t':TypeId}{k:IntKind}{x y:Operand}{p q:Int}(hx:AF l x=some (.int k p))(hy:AF l y=some (.int k q)):Exv P n l C ⟨dst,.binOp .sub t x y t',ty,pos,af,gd⟩ (.int k (k.wrap (p-q))):=Dh hx hy fun w=>by simp[binOp,Op.intArith]
theorem Il{t t':TypeId}{k:IntKind}{x y:Operand}{p q:Int}(hx:AF l x=some (.int k p))(hy:AF l y=some (.int k q)):Exv P n l C ⟨dst,.binOp .mul t x y t',ty,pos,af,gd⟩ (.int k (k.wrap (p* q))):=Dh hx hy fun w=>by simp[binOp,Op.intArith]
theorem Si{t:TypeId}{k:IntKind}{x:Operand}{p:Int}(hx:AF l x=some (.int k p)):Exv P n l C ⟨dst,.unOp .neg t x,ty,pos,af,gd⟩ (.int k (k.wrap (-p))):=fun w _ a ha=>by
 simp[execOp,ha.eval hx,Op.unary,Op.intArith]
end ex
theorem Ec(k:IntKind)(x:Int):k.has (k.wrap x):=by
 cases k<;>simp only[IntKind.has,IntKind.wrap,IntKind.min,IntKind.max,IntKind.bits,IntKind.signed]<;>simp<;>first|omega|(split<;>omega)
theorem Ck(x:Int):I64 (IntKind.i64.wrap x):=Bx (Ec _ x)
end Go.Vc
namespace Go.Vc
open Go
theorem FN{a:Act}{d:Option Tmp}{v:Value}(h:a.defers=[]):(a.put d v).defers=[]:=by cases d<;>exact h
namespace DP
def Dc(Pn:List PanicEntry->World->Prop)(P:Program)(o:Oper)(a:Act)(w:World)(F:Value->World->Prop):Prop:=
 match(execOp a.eval o).run P w with
 |.ok (.value v) w'=>F v w'
 |.ok .skip w'=>F undef w'
 |.ok (.enter f args) w'=>Calls P f args w' (fun e w''=>(∃v,e=.returned v/\F v w'')\/(∃c,e=.panicked c/\Pn c w''))
 |.ok (.row row args) w'=>Rows P row args w' F
 |.halt (.panic v) w'=>Pn [{v,recovered:=false}] w'
 |_=>False
def Dx(Pn:List PanicEntry->World->Prop)(P:Program)(ops:Array Oper)(eff:Nat->Bool)(anc:Nat->Nat->Bool)(Q:Act->World->Prop):List Nat->GU->Act->(World->Prop)->Prop
 |[],_,a,C=>∀w,C w->Q a w
 |i::R,pend,a,C=>∃o,ops[i]? =some o/\
  (eff i=true->∀w,C w->Dc Pn P o a w (fun v w'=>∃C',C' w'/\(∀p∈pend,anc p.1 i=false->p.2 C')/\Dx Pn P ops eff anc Q R pend (a.put o.dst v) C'))/\
  (eff i=false->∃v,VS P o a C v/\Dx Pn P ops eff anc Q R ((i,fun C'=>VS P o a C' v)::pend) (a.put o.dst v) C)
theorem Em{Pn:List PanicEntry->World->Prop}{P:Program}{o:Oper}{a:Act}{w:World}{F G:Value->World->Prop}(h:∀v w',F v w'->G v w')(hf:Dc Pn P o a w F):Dc Pn P o a w G:=by
 unfold Dc at*
 generalize(execOp a.eval o).run P w=r at*
 cases r with
 |ok n w'=>
  cases n<;>simp only at hf ⊢<;>first
   |exact h _ _ hf
   |exact hf.mono fun e w'' hh=>hh.imp (fun⟨v,he,hv⟩=>⟨v,he,h _ _ hv⟩) id
   |exact hf.mono fun v w'' hv=>h _ _ hv
   |exact hf
 |halt x w'=>cases x<;>exact hf
theorem JG{Pn:List PanicEntry->World->Prop}{P:Program}{o:Oper}{a b:Act}{w:World}{F:Value->World->Prop}(he:execOp b.eval o=execOp a.eval o)(hf:Dc Pn P o a w F):Dc Pn P o b w F:=by
 unfold Dc at*;rw[he];exact hf
section dr
variable{Pn:List PanicEntry->World->Prop}{P:Program}{ops:Array Oper}{eff:Nat->Bool}{anc:Nat->Nat->Bool}{Q:Act->World->Prop}
theorem CD:∀{R:List Nat}{pend pend':GU}{a:Act}{C:World->Prop},(∀p'∈pend',∃p∈pend,p.1=p'.1/\∀C,p.2 C->p'.2 C)->Dx Pn P ops eff anc Q R pend a C->Dx Pn P ops eff anc Q R pend' a C
 |[],_,_,_,_,_,h=>h
 |i::R,pend,pend',a,C,hp,⟨o,ho,h1,h2⟩=>by
  refine⟨o,ho,fun he w hw=>?_,fun he=>?_⟩
  ·refine Em ?_ (h1 he w hw)
   rintro v w'⟨C',g1,g2,g3⟩
   refine⟨C',g1,fun p' hp' ha=>?_,CD hp g3⟩
   obtain⟨p,hm,e,k⟩:=hp p' hp'
   exact k _ (g2 p hm (e▸ha))
  ·obtain⟨v,g1,g2⟩:=h2 he
   refine⟨v,g1,CD (fun p' hp'=>?_) g2⟩
   rcases(List.mem_cons.1 hp').symm with hp'|hp'
   ·obtain⟨p,hm,e,k⟩:=hp p' hp'
    exact⟨p,List.mem_cons_of_mem _ hm,e,k⟩
   ·exact⟨p',hp'▸List.mem_cons_self,rfl,fun _ h=>h⟩
def EM(o:Oper):Prop:=∀cs b,o.op≠.select cs b
theorem DV{o o':Oper}{a:Act}{C:World->Prop}{v u:Value}(hs:EM o)(h:∀d,o'.dst=some d->d∉o.looksAt ops):VS P o (a.put o'.dst u) C v↔VS P o a C v:=by
 unfold VS;rw[execOp_put (ops:=ops) o hs a o'.dst u h]
theorem DS{i:Nat}{oi:Oper}(hoi:ops[i]? =some oi)(hi:eff i=false)(hsi:EM oi):∀{L1 L2:List Nat}{pend:GU}{a:Act}{C:World->Prop},
  (∀j∈L1,eff j=false/\∀oj,ops[j]? =some oj->EM oj/\oi.apart ops oj=true)->Dx Pn P ops eff anc Q (L1++i::L2) pend a C->∃v,VS P oi a C v/\Dx Pn P ops eff anc Q (L1++L2) pend (a.put oi.dst v) C
 |[],L2,pend,a,C,_,⟨o,ho,_,h2⟩=>by
  rw[hoi] at ho;cases ho
  obtain⟨v,g1,g2⟩:=h2 hi
  exact⟨v,g1,CD (fun p hp=>⟨p,List.mem_cons_of_mem _ hp,rfl,fun _ h=>h⟩) g2⟩
 |j::L1,L2,pend,a,C,hL,⟨oj,hoj,_,h2⟩=>by
  obtain⟨hj,hj2⟩:=hL j (by simp)
  obtain⟨hsj,hap⟩:=hj2 oj hoj
  obtain⟨a1,a2,a3⟩:=Oper.apart_spec hap
  obtain⟨vj,g1,g2⟩:=h2 hj
  obtain⟨v,k1,k2⟩:=DS hoi hi hsi (fun x hx=>hL x (by simp[hx])) g2
  refine⟨v,(DV (ops:=ops) hsi a3).1 k1,oj,hoj,fun he=>(by rw[hj] at he;cases he),fun _=>⟨vj,(DV (ops:=ops) hsj a1).2 g1,?_⟩⟩
  rw[Act.put_comm a v vj a2]
  refine CD (fun p hp=>?_) k2
  rcases(List.mem_cons.1 hp).symm with hp|hp
  ·exact⟨p,List.mem_cons_of_mem _ hp,rfl,fun _ h=>h⟩
  ·rw[hp]
   exact⟨_,List.mem_cons_self,rfl,fun C' h=>(DV (ops:=ops) hsj a1).2 h⟩
theorem GI{i:Nat}{oi:Oper}(hoi:ops[i]? =some oi)(hi:eff i=true)(hsi:EM oi):∀{L1 L2:List Nat}{pend:GU}{a:Act}{C:World->Prop}{w:World},
  (∀j∈L1,eff j=false/\anc j i=false/\∀oj,ops[j]? =some oj->EM oj/\oi.apart ops oj=true)->C w->Dx Pn P ops eff anc Q (L1++i::L2) pend a C->
  Dc Pn P oi a w (fun v w'=>∃C',C' w'/\(∀p∈pend,anc p.1 i=false->p.2 C')/\Dx Pn P ops eff anc Q (L1++L2) pend (a.put oi.dst v) C')
 |[],L2,pend,a,C,w,_,hw,⟨o,ho,h1,_⟩=>by
  rw[hoi] at ho;cases ho
  exact h1 hi w hw
 |j::L1,L2,pend,a,C,w,hL,hw,⟨oj,hoj,_,h2⟩=>by
  obtain⟨hj,hja,hj2⟩:=hL j (by simp)
  obtain⟨hsj,hap⟩:=hj2 oj hoj
  obtain⟨a1,a2,a3⟩:=Oper.apart_spec hap
  obtain⟨vj,g1,g2⟩:=h2 hj
  have k:=GI hoi hi hsi (fun x hx=>hL x (by simp[hx])) hw g2
  refine Em ?_ (JG (execOp_put (ops:=ops) oi hsi a oj.dst vj a3).symm k)
  rintro v w'⟨C',c1,c2,c3⟩
  refine⟨C',c1,fun p hp=>c2 p (List.mem_cons_of_mem _ hp),oj,hoj,fun he=>(by rw[hj] at he;cases he),fun _=>⟨vj,?_,?_⟩⟩
  ·have:=c2 _ (List.mem_cons_self) hja
   exact(DV (ops:=ops) hsj a1).2 this
  ·rw[Act.put_comm a v vj a2]
   refine CD (fun p hp=>?_) c3
   rcases(List.mem_cons.1 hp).symm with hp|hp
   ·exact⟨p,List.mem_cons_of_mem _ hp,rfl,fun _ h=>h⟩
   ·rw[hp]
    exact⟨_,List.mem_cons_self,rfl,fun C' h=>(DV (ops:=ops) hsj a1).2 h⟩
theorem EG{Qx:Exit->Act->World->Prop}(hPn:∀c a w,a.defers=[]->Pn c w->Qx (.panic c) a w)(hanc:∀(listed:Array Bool),(∀i,listed.getD i false=true->∀e∈Bn ops i,listed.getD e false=true)->∀j i,(∀e∈Bn ops i,listed.getD e false=true)->anc j i=true->listed.getD j false=true)(hsel:Region.noSelect ops=true)(hg:∀o∈ops,o.guard=none)
  (hdir:∀i,∀e∈Bn ops i,e<ops.size/\e≠i):∀(m:Nat)(R:List Nat)(listed:Array Bool)(a:Act)(w:World)(C:World->Prop),R.length=m->listed.size=ops.size->(∀i,i∈R↔(i<ops.size/\listed.getD i false=false))->R.Nodup->
  R.Pairwise (fun j i=>NO ops eff anc j i=true)->(∀i,listed.getD i false=true->∀e∈Bn ops i,listed.getD e false=true)->
  Dx Pn P ops eff anc (fun a w=>Qx .normal a w) R [] a C->C w->a.defers=[]->wpAny P .any ops Qx m listed a w
 |m,R,listed,a,w,C,hlen,hsz,hmem,hnd,hpw,hdc,h,hw,hdf=>by
  have hready0:Region.ready .any ops listed=[]->R=[]:=by
   intro hr
   cases R with
   |nil=>rfl
   |cons i R=>
    exfalso
    have hi:=(hmem i).1 (by simp)
    have hio:ops[i]? =some ops[i]:=Array.getElem?_eq_getElem hi.1
    have:i∈Region.ready .any ops listed:=by
     rw[mem_ready]
     refine⟨?_,ops[i],hio,fun e he hb=>?_⟩
     ·have:=hi.2
      rw[Array.getD_eq_getD_getElem?,Array.getElem?_eq_getElem (by omega)] at this ⊢
      simpa using this
     ·have hem:=JB hio he hb
      cases hl:listed.getD e.on false with
      |true=>rfl
      |false=>
       exfalso
       have h1:=hdir i e.on hem
       have h2:e.on∈i::R:=(hmem e.on).2 ⟨h1.1,hl⟩
       rcases List.mem_cons.1 h2 with h2|h2
       ·exact h1.2 h2
       ·have h3:=(List.pairwise_cons.1 hpw).1 _ h2
        simp only[NO,Bool.and_eq_true,Bool.not_eq_true',List.contains_eq_mem,decide_eq_false_iff_not] at h3
        exact h3.1 hem
    rw[hr] at this;cases this
  have hQ:Region.ready .any ops listed=[]->Qx .normal a w:=by
   intro hr
   have:=hready0 hr
   subst this
   exact h w hw
  cases m with
  |zero=>
   have:R=[]:=List.length_eq_zero_iff.1 hlen
   subst this
   have hr:Region.ready .any ops listed=[]:=by
    cases hr:Region.ready .any ops listed with
    |nil=>rfl
    |cons i r=>
     have hi:i∈Region.ready .any ops listed:=by rw[hr];simp
     obtain⟨h1,o,ho,_⟩:=mem_ready.1 hi
     have hlt:=(Array.getElem?_eq_some_iff.1 ho).1
     have:=(hmem i).2 ⟨hlt,by
      rw[Array.getD_eq_getD_getElem?,Array.getElem?_eq_getElem (by omega)] at h1 ⊢
      simpa using h1⟩
     cases this
   exact⟨hr,hQ hr⟩
  |succ m=>
   refine⟨hQ,fun i hi=>?_⟩
   obtain⟨h1,oi,ho,hall⟩:=mem_ready.1 hi
   have hlt:=(Array.getElem?_eq_some_iff.1 ho).1
   have hlf:listed.getD i false=false:=by
    rw[Array.getD_eq_getD_getElem?,Array.getElem?_eq_getElem (by omega)] at h1 ⊢
    simpa using h1
   have hdl:∀e∈Bn ops i,listed.getD e false=true:=fun e he=>by
    obtain⟨o',ed,g1,g2,g3,g4⟩:=El he
    rw[ho] at g1;cases g1
    rw[<-g4];exact hall ed g2 g3
   obtain⟨L1,L2,rfl⟩:=List.append_of_mem ((hmem i).2 ⟨hlt,hlf⟩)
   have hL1:∀j∈L1,eff j=false/\anc j i=false/\∀oj,ops[j]? =some oj->EM oj/\oi.apart ops oj=true:=by
    intro j hj
    have hju:=((hmem j).1 (List.mem_append_left _ hj)).2
    have hanc:anc j i=false:=by
     cases hb:anc j i with
     |false=>rfl
     |true=>rw[hanc listed hdc j i hdl hb] at hju;cases hju
    have hr:=(List.pairwise_append.1 hpw).2.2 j hj i (by simp)
    simp only[NO,hanc,Bool.false_or,Bool.and_eq_true,Bool.not_eq_true'] at hr
    obtain⟨_,he,hap⟩:=hr
    refine⟨he,hanc,fun oj hoj=>⟨fun cs b=>Region.noSelect_spec hsel j oj cs b hoj,?_⟩⟩
    rw[ho,hoj] at hap;exact hap
   have hsi:EM oi:=fun cs b=>Region.noSelect_spec hsel i oi cs b ho
   have hwant:∀l,Region.wanted oi l=true:=fun l=>by
    have:=hg oi (Array.mem_of_getElem? ho)
    simp[Region.wanted,this]
   have key:∀(a':Act)(w':World)(C':World->Prop),a'.defers=[]->C' w'->Dx Pn P ops eff anc (fun a w=>Qx .normal a w) (L1++L2) [] a' C'->wpAny P .any ops Qx m (listed.setIfInBounds i true) a' w':=by
    intro a' w' C' hdf' hw' h'
    have hgd:∀j,(listed.setIfInBounds i true).getD j false=if i=j then true else listed.getD j false:=by
     intro j
     rw[Array.getD_eq_getD_getElem?,Array.getElem?_setIfInBounds,Array.getD_eq_getD_getElem?]
     split
     ·rename_i e;subst e;simp[hsz,hlt]
     ·rfl
    have hnd':=hnd
    rw[List.nodup_append] at hnd'
    refine EG hPn hanc hsel hg hdir m (L1++L2) _ a' w' C' (by simp at hlen ⊢;omega) (by simp[hsz]) (fun j=>?_) ?_ ?_ (fun j hj e he=>?_) h' hw' hdf'
    ·rw[hgd]
     have:=hmem j
     constructor
     ·intro hj
      have hne:¬i=j:=by
       rintro rfl
       rcases List.mem_append.1 hj with hj|hj
       ·exact(hnd'.2.2 i hj i (by simp)) rfl
       ·exact(List.nodup_cons.1 hnd'.2.1).1 hj
      rw[if_neg hne]
      exact this.1 (by rcases List.mem_append.1 hj with hj|hj<;>simp[hj])
     ·rintro⟨g1,g2⟩
      by_cases hne:i=j
      ·rw[if_pos hne] at g2;cases g2
      ·rw[if_neg hne] at g2
       have:=this.2 ⟨g1,g2⟩
       rcases List.mem_append.1 this with hj|hj
       ·simp[hj]
       ·rcases List.mem_cons.1 hj with hj|hj
        ·exact absurd hj.symm hne
        ·simp[hj]
    ·exact hnd.sublist (List.Sublist.append (List.Sublist.refl _) (List.sublist_cons_self _ _))
    ·exact hpw.sublist (List.Sublist.append (List.Sublist.refl _) (List.sublist_cons_self _ _))
    ·rw[hgd] at hj ⊢
     split
     ·rfl
     ·split at hj
      ·rename_i e';subst e';exact hdl e he
      ·exact hdc j hj e he
   unfold wpOp
   rw[ho]
   simp only[hwant,if_true]
   left
   cases he:eff i with
   |false=>
    obtain⟨v,g1,g2⟩:=DS ho he hsi (fun j hj=>⟨(hL1 j hj).1,(hL1 j hj).2.2⟩) h
    unfold Oper.wp
    rw[g1 w hw,Oper.upon_value]
    exact key _ _ _ (FN hdf) hw g2
   |true=>
    have g:=GI ho he hsi hL1 hw h
    unfold Dc at g
    unfold Oper.wp
    generalize(execOp a.eval oi).run P w=r at*
    cases r with
    |ok n w'=>
     cases n<;>simp only at g
     case value v=>
      obtain⟨C',c1,_,c3⟩:=g
      exact key _ _ _ (FN hdf) c1 c3
     case skip=>
      obtain⟨C',c1,_,c3⟩:=g
      exact key _ _ _ (FN hdf) c1 c3
     case enter f args=>
      rw[Oper.upon_enter]
      refine g.mono fun e w'' hh=>?_
      rcases hh with⟨v,hev,C',c1,_,c3⟩|⟨c,hev,hp⟩
      ·subst hev
       exact key _ _ _ (FN hdf) c1 c3
      ·subst hev
       exact hPn _ _ _ hdf hp
     case row row args=>
      rw[Oper.upon_row]
      exact g.mono fun v w''⟨C',c1,_,c3⟩=>key _ _ _ (FN hdf) c1 c3
    |halt x w'=>
     cases x<;>simp only at g
     case panic v=>rw[Oper.upon_panic];exact hPn _ _ _ hdf g
theorem Ht{id:Nat}{tbl:List (List Nat)}{Qx:Exit->Act->World->Prop}{a:Act}{w:World}{σ:List Nat}{C:World->Prop}(hPn:∀c a w,a.defers=[]->Pn c w->Qx (.panic c) a w)(hdf:a.defers=[])(hm:P.follows .mixedOrders=true)(hB:(PW ops eff (Gs tbl) σ&&Sv ops tbl σ)=true)(hC:C {w with drawn:=w.drawn+1})
  (h:Dx Pn P ops eff (Gs tbl) (fun a w=>Qx .normal a w) σ [] a C):(Code.region id ops true).wp P Qx a w:=by
 rw[Bool.and_eq_true] at hB
 obtain⟨hB,hT⟩:=hB
 simp only[PW,Bool.and_eq_true,List.all_eq_true,List.mem_range,Bool.not_eq_true',Nat.blt_eq] at hB
 obtain⟨⟨⟨⟨⟨⟨⟨h1,h2⟩,h3⟩,h4⟩,h5⟩,h6⟩,h7⟩,h8⟩:=hB
 have hlen:σ.length=ops.size:=Nat.eq_of_beq_eq_true h4
 have hg0:∀i,(Array.replicate ops.size false).getD i false=false:=fun i=>by
  rw[Array.getD_eq_getD_getElem?,Array.getElem?_replicate];split<;>rfl
 refine wp_region_any hm ?_
 have:=EG (Pn:=Pn) (P:=P) (ops:=ops) (eff:=eff) (anc:=Gs tbl) (Qx:=Qx) hPn (fun listed hd=>Ij hT hd) h1 (fun o ho=>?_) (fun i e he=>?_) ops.size σ (Array.replicate ops.size false) a _ C hlen (by simp) (fun i=>?_) ?_ (Dd h8) (fun i hi=>by rw[hg0] at hi;cases hi) h hC hdf
 ·exact this
 ·have:=Array.all_eq_true_iff_forall_mem.1 h2 o ho
  simpa using this
 ·have hi:i<ops.size:=by
   obtain⟨o,_,ho,_⟩:=El he
   exact(Array.getElem?_eq_some_iff.1 ho).1
  have:=h7 i hi e he
  refine⟨this.1,fun e'=>?_⟩
  have h9:=this.2
  rw[e'] at h9;simp at h9
 ·rw[hg0]
  constructor
  ·intro hi;exact⟨h5 i hi,rfl⟩
  ·intro hi
   have:=h3 i hi.1
   simpa using this
 ·have:=Dd h6
  refine List.Pairwise.imp ?_ this
  intro x y hxy e
  subst e;simp at hxy
end dr
def Wd(Pn:List PanicEntry->World->Prop)(P:Program)(ops:Array Oper)(eff:Nat->Bool)(anc:Nat->Nat->Bool)(Qx:Exit->Act->World->Prop)(n:Nat)(l:List (Nat×Value))(R:List Nat)(pend:GU)(C:World->Prop):Prop:=
 ∀a,Fr n l a->Dx Pn P ops eff anc (fun a w=>Qx .normal a w) R pend a C
def DQ(Pn:List PanicEntry->World->Prop)(P:Program)(ops:Array Oper)(eff:Nat->Bool)(anc:Nat->Nat->Bool)(Qx:Exit->Act->World->Prop)(i:Nat)(R:List Nat)(pend:GU):Exit->Act->World->Prop:=fun e a' w'=>
 (∃c,e=.panic c/\Pn c w')\/(e=.normal/\a'.defers=[]/\∃C',C' w'/\(∀p∈pend,anc p.1 i=false->p.2 C')/\Dx Pn P ops eff anc (fun a w=>Qx .normal a w) R pend a' C')
section
variable{Pn:List PanicEntry->World->Prop}{P:Program}{ops:Array Oper}{eff:Nat->Bool}{anc:Nat->Nat->Bool}{Qx:Exit->Act->World->Prop}{n:Nat}{l:List (Nat×Value)}{R:List Nat}{pend:GU}{C:World->Prop}{w:World}
theorem WC.drawn{id:Nat}(tbl:List (List Nat)){ol:List Oper}{σ:List Nat}(effs:List Nat)(hPn:∀c a w,a.defers=[]->Pn c w->Qx (.panic c) a w)(hm:P.follows .mixedOrders=true)(hB:(PW ol.toArray (fun i=>effs.contains i) (Gs tbl) σ&&Sv ol.toArray tbl σ)=true)(hC:C {w with drawn:=w.drawn+1})
  (h:Wd Pn P ol.toArray (fun i=>effs.contains i) (Gs tbl) Qx n l σ [] C):WC P Qx n l (.region id ol.toArray true) w:=fun a ha=>Ht hPn ha.defers hm hB hC (h a ha)
theorem Wd.nil(h:∀w,C w->WQ Qx .normal n l w):Wd Pn P ops eff anc Qx n l [] pend C:=fun a ha w hw=>h w hw a ha
theorem Wd.step{i d:Nat}{o:Oper}{v:Value}(ho:ops[i]? =some o)(he:eff i=false)(hd:o.dst=some d)(hdn:Nat.blt d n=true)(hx:Exv P n l C o v)
  (k:∀p:(World->Prop)->Prop,(∀C',Exv P n l C' o v->p C')->Wd Pn P ops eff anc Qx n ((d,v)::l) R ((i,p)::pend) C):Wd Pn P ops eff anc Qx n l (i::R) pend C:=fun a ha=>
 ⟨o,ho,fun h=>(by rw[he] at h;cases h),fun _=>⟨v,fun w hw=>hx w hw a ha,by
  have:=k (fun C'=>VS P o a C' v) (fun C' h w hw=>h w hw a ha) (a.put (some d) v) (ha.put hdn v)
  rw[hd];exact this⟩⟩
theorem Wd.run{i d:Nat}{o:Oper}{v:Value}(ho:ops[i]? =some o)(he:eff i=false)(hd:o.dst=some d)(hdn:Nat.blt d n=true)(hx:∀C,Exv P n l C o v)
  (k:∀p:(World->Prop)->Prop,(∀C',p C')->Wd Pn P ops eff anc Qx n ((d,v)::l) R ((i,p)::pend) C):Wd Pn P ops eff anc Qx n l (i::R) pend C:=
 Wd.step ho he hd hdn (hx C) fun p hp=>k p fun C'=>hp C' (hx C')
theorem Wd.runx{D:Value->Prop}{i d:Nat}{o:Oper}(ho:ops[i]? =some o)(he:eff i=false)(hd:o.dst=some d)(hdn:Nat.blt d n=true)(hx:∃v,D v/\∀C,Exv P n l C o v)
  (k:∀v,D v->∀p:(World->Prop)->Prop,(∀C',p C')->Wd Pn P ops eff anc Qx n ((d,v)::l) R ((i,p)::pend) C):Wd Pn P ops eff anc Qx n l (i::R) pend C:=
 let⟨v,hv,h⟩:=hx;Wd.run ho he hd hdn h (k v hv)
theorem Wd.runs{w0:World}{H:View}{fp L:Ar}{D:Value->Prop}{i d:Nat}{o:Oper}(ho:ops[i]? =some o)(he:eff i=false)(hd:o.dst=some d)(hdn:Nat.blt d n=true)
  (hx:∃v,D v/\∀K L,View.le H K->Exv P n l (St w0 K (fp++L)) o v)(hC:∀w,C w->St w0 H (fp++L) w)
  (k:∀v,D v->∀p:(World->Prop)->Prop,(∀K L C',View.le H K->(∀w,C' w->St w0 K (fp++L) w)->p C')->Wd Pn P ops eff anc Qx n ((d,v)::l) R ((i,p)::pend) C):Wd Pn P ops eff anc Qx n l (i::R) pend C:=
 let⟨v,hv,h⟩:=hx
 Wd.step ho he hd hdn ((h H L (View.le.refl _)).of hC) fun p hp=>k v hv p fun K L C' hle hc=>hp C' ((h K L hle).of hc)
theorem Wd.runb{w0:World}{H:View}{L:Ar}{b off:Nat}{arr:Array Value}{T:TypeId}{u:Value}{i d:Nat}{o:Oper}(ho:ops[i]? =some o)(he:eff i=false)(hd:o.dst=some d)(hdn:Nat.blt d n=true)
  (hx:∀(K:View)(L:Ar)(arr':Array Value),arr'[off]? =some u->Exv P n l (St w0 K ([(b,.cells arr' T (0,0))]++L)) o u)(hu:arr[off]? =some u)(hC:∀w,C w->St w0 H ([(b,.cells arr T (0,0))]++L) w)
  (k:∀p:(World->Prop)->Prop,(∀(K:View)(L:Ar)(arr':Array Value)(C':World->Prop),arr'[off]? =some u->(∀w,C' w->St w0 K ([(b,.cells arr' T (0,0))]++L) w)->p C')->Wd Pn P ops eff anc Qx n ((d,u)::l) R ((i,p)::pend) C):Wd Pn P ops eff anc Qx n l (i::R) pend C:=
 Wd.step ho he hd hdn ((hx H L arr hu).of hC) fun p hp=>k p fun K L arr' C' h1 hc=>hp C' ((hx K L arr' h1).of hc)
theorem GG{i:Nat}{a:Act}(h:DQ Pn P ops eff anc Qx i R pend .normal a w):a.defers=[]/\∃C',C' w/\(∀p∈pend,anc p.1 i=false->p.2 C')/\Dx Pn P ops eff anc (fun a w=>Qx .normal a w) R pend a C':=by
 rcases h with⟨c,h,_⟩|⟨_,h⟩
 ·cases h
 ·exact h
theorem Sm{i:Nat}{a:Act}{c:List PanicEntry}(h:DQ Pn P ops eff anc Qx i R pend (.panic c) a w):Pn c w:=by
 rcases h with⟨c,h,hp⟩|⟨h,_⟩
 ·cases h;exact hp
 ·cases h
theorem Yl{i:Nat}{a:Act}(h:DQ Pn P ops eff anc Qx i R pend .outgrown a w):False:=by
 rcases h with⟨c,h,_⟩|⟨h,_⟩<;>cases h
theorem DQ.pan{i:Nat}{c:List PanicEntry}(h:Pn c w):WQ (DQ Pn P ops eff anc Qx i R pend) (.panic c) n l w:=fun a ha=>.inl ⟨c,rfl,h⟩
theorem Wd.turn{i:Nat}{o:Oper}(ho:ops[i]? =some o)(he:eff i=true)(hg:o.guard=none)(h:∀w,C w->WL P ops (DQ Pn P ops eff anc Qx i R pend) n l [o] w):Wd Pn P ops eff anc Qx n l (i::R) pend C:=fun a ha=>by
 refine⟨o,ho,fun _ w hw=>?_,fun h=>(by rw[he] at h;cases h)⟩
 have h1:=h w hw a ha
 unfold wpList at h1
 rw[if_pos (by simp[Region.wanted,hg])] at h1
 rcases h1 with h2|⟨_,a',w',h2⟩
 ·replace h2:o.wp P a w (fun a' w'=>DQ Pn P ops eff anc Qx i R pend .normal a' w') (DQ Pn P ops eff anc Qx i R pend):=h2
  unfold Oper.wp at h2
  unfold Dc
  generalize(execOp a.eval o).run P w=r at*
  cases r with
  |ok nx w'=>
   cases nx<;>simp only[Oper.upon] at h2 ⊢
   case value v=>exact(GG h2).2
   case skip=>exact(GG h2).2
   case defer d=>
    have:=(GG h2).1
    generalize o.dst=od at this
    cases od<;>simp[Act.put] at this
   case enter f args=>
    refine h2.mono fun e w'' hq=>?_
    cases e with
    |returned v=>exact .inl ⟨v,rfl,(GG hq).2⟩
    |panicked c=>exact .inr ⟨c,rfl,Sm hq⟩
    |outgrown=>
     obtain⟨_,_,h3⟩:=hq
     exact(Yl h3).elim
   case row row args=>exact h2.mono fun v w'' hq=>(GG hq).2
  |halt x w'=>
   cases x<;>simp only[Oper.upon] at h2 ⊢
   all_goals first|exact h2.elim|exact Sm h2
 ·exact(Yl h2).elim
theorem DQ.mk{i:Nat}{C':World->Prop}(hC:C' w)(hp:∀p∈pend,anc p.1 i=false->p.2 C')(h:Wd Pn P ops eff anc Qx n l R pend C'):WQ (DQ Pn P ops eff anc Qx i R pend) .normal n l w:=fun a ha=>.inr ⟨rfl,ha.defers,C',hC,hp,h a ha⟩
def PendB(anc:Nat->Nat->Bool)(i:Nat)(C':World->Prop):GU->Prop
 |[]=>True
 |p::l=>(anc p.1 i=true\/p.2 C')/\PendB anc i C' l
theorem PendB.all{anc:Nat->Nat->Bool}{i:Nat}{C':World->Prop}:∀{pend:GU},PendB anc i C' pend->∀p∈pend,anc p.1 i=false->p.2 C'
 |p::l,⟨h1,h2⟩,q,hq,ha=>by
  rcases List.mem_cons.1 hq with rfl|hq
  ·rcases h1 with h1|h1
   ·rw[h1] at ha;cases ha
   ·exact h1
  ·exact PendB.all h2 q hq ha
theorem DQ.mk2{i:Nat}{C':World->Prop}(hC:C' w)(hp:PendB anc i C' pend)(h:Wd Pn P ops eff anc Qx n l R pend C'):WQ (DQ Pn P ops eff anc Qx i R pend) .normal n l w:=DQ.mk hC hp.all h
end
end DP
end Go.Vc
namespace Go.Vc
open Go
def Dy(e a:Int):List PanicEntry:=[{v:=.iface 59 (.agg #[.int .i64 e,.int .i64 a]),recovered:=false}]
theorem WQ.of{Q:Exit->Act->World->Prop}{e:Exit}{n:Nat}{l:List (Nat×Value)}{w:World}(h:∀a,Fr n l a->Q e a w):WQ Q e n l w:=h
def Aav(u:Value)(b:Bool):Prop:=(b=true/\u=.nilIface)\/(b=false/\∃T x,u=.iface T x)
theorem IV{i:Int}(h:0<=i/\i<=18446744073709551615):IntKind.u64.has i:=by
 simp only[IntKind.has,IntKind.min,IntKind.max,IntKind.bits,IntKind.signed];simp;omega
theorem KG{i:Int}(h:IntKind.u64.has i):0<=i/\i<=18446744073709551615:=by
 simp only[IntKind.has,IntKind.min,IntKind.max,IntKind.bits,IntKind.signed] at h;simp at h;omega
theorem Acb{i:Int}(h:IntKind.u64.has i){q:Int}(hq:0<q:=by decide):IntKind.u64.has (i/q):=by
 have:=KG h
 refine IV ⟨Int.ediv_nonneg this.1 (by omega),?_⟩
 have h1:=Int.ediv_le_self q this.1
 omega
theorem AW{t:TypeId}{v:Value}:(Value.iface t v).cells=#[.iface t v]:=rfl
theorem AJ:Value.nilIface.cells=#[.nilIface]:=rfl
theorem AX{a:Option Addr}{n c:Nat}:(Value.slice a n c).cells=#[.slice a n c]:=rfl
section go
variable{P:Program}{n:Nat}{l:List (Nat×Value)}{C:World->Prop}{dst:Option Tmp}{ty:TypeId}{pos:String}{af:Array Edge}{gd:Option (Nat×Bool)}{H:View}{w0:World}{L:Ar}
theorem Og{xs:List Operand}{vs:List Value}{ts:Array TypeId}{r:Operand}{u:Value}{name:String}{f:FuncId}{args:Array Value}
  (hr:AF l r=some u)(hv:Ii l xs vs)(hb:∀(w:World),(callMethod u name vs.toArray).run P w=.ok (.enter f args) w):
  ∀a,Fr n l a->(execOp a.eval ⟨dst,.call {callee:=.invoke r name,args:=xs.toArray,argTypes:=ts},ty,pos,af,gd⟩).run P w0=.ok (.enter f args) w0:=fun a ha=>by
 have h1:=ha.evals hv
 have h2:=ha.eval hr
 have h3:(#[u]++vs.toArray).extract 1 (1+vs.length)=vs.toArray:=by
  apply Array.ext';simp
 have h4:xs.length=vs.length:=by rw[<-h1];simp
 simp[execOp,resolve,invoke,h1,h2,h4,h3,hb]
theorem YD{t:TypeId}{x:Operand}{a:Aa}(hx:AF l x=some (sv a))(ht:P.underlying t=some .string):Exv P n l C ⟨dst,.slice t x none none none,ty,pos,af,gd⟩ (sv a):=fun w _ act ha=>by
 have hx:=ha.eval hx
 have he:(⟨a.toArray⟩:ByteArray).extract 0 a.length=⟨a.toArray⟩:=by rw[ByteArray.extract_mk];simp
 simp[execOp,Instr.sliceAt,Instr.slice,hx,run_underlying ht,sv,Instr.sliceBounds,DO,he]
theorem SU{t t':TypeId}{x:Operand}{v:Value}{b:Bool}(ht:P.underlying t=some (.interface (P.methodsAt t)))(hx:AF l x=some v)(he:Aav v b):
  Exv P n l C ⟨dst,.binOp .neq t x (.const .nilIface) t',ty,pos,af,gd⟩ (.bool (!b)):=by
 rcases he with⟨rfl,rfl⟩|⟨rfl,T,z,rfl⟩
 ·refine Qs (u:=.nilIface) (v:=.nilIface) hx rfl (fun w=>by simp[eqGuard]) fun w=>by simp[run_neq_nil_nil w t ht]
 ·refine Qs (u:=.iface T z) (v:=.nilIface) hx rfl (fun w=>by simp[eqGuard]) fun w=>by simp[run_neq_held_nil w t T z ht]
theorem AT{α:Type}{c:Codec α}{t:TypeId}{x:Operand}{p:Value}{z:α}(hag:∀w,(isAgg t).run P w=.ok true w)(hsz:∀w,(sizeOf t).run P w=.ok c.size w)
  (hx:AF l x=some p)(hp:IsPt H c p z):∃v,(∃cs,v=.agg cs.toArray/\c.rep H cs z)/\∀K L,View.le H K->Exv P n l (St w0 K (([]:Ar)++L)) ⟨dst,.load t x,ty,pos,af,gd⟩ v:=by
 obtain⟨b,off,arr,T,fz,pre,cs,rest,rfl,e2,e3,e4,e5⟩:=hp
 refine⟨_,⟨cs,rfl,e5⟩,fun K L hle w hw a ha=>?_⟩
 have hb:=hw.fits _ _ (hle _ _ e2)
 have h:(arr.toList.drop off).take c.size=cs:=by
  rw[e3,List.drop_append,List.drop_eq_nil_of_le (by omega),e4,Nat.sub_self,List.nil_append,List.drop_zero,<-c.len e5,List.take_left]
 simp[execOp,Instr.loadAt,Instr.sureAddr,ha.eval hx,loadVar,hag,hsz,Bl hb h (c.len e5)]
theorem Sj{a b:Int}(h:IntKind.u64.has a)(hb:0<b):IntKind.u64.has (a.tdiv b):=by
 have:=KG h
 have h1:=Int.ediv_le_self b this.1
 have h2:a.tdiv b=a/b:=Int.tdiv_eq_ediv_of_nonneg this.1
 refine IV ⟨by rw[h2];exact Int.ediv_nonneg this.1 (by omega),by rw[h2];omega⟩
theorem AaA{a b:Int}(h:IntKind.u64.has a)(hb:0<b):IntKind.u64.has (a.tmod b):=by
 have:=KG h
 have h2:a.tmod b=a%b:=Int.tmod_eq_emod_of_nonneg this.1
 have h3:=Int.emod_nonneg a (by omega:b≠0)
 have h4:a%b<=a:=by
  have h6:=Int.mul_ediv_add_emod a b
  have h5:0<=b* (a/b):=Int.mul_nonneg (by omega) (Int.ediv_nonneg this.1 (by omega))
  omega
 exact IV ⟨by rw[h2];exact h3,by rw[h2];omega⟩
theorem Wi{t t':TypeId}{x y:Operand}{p q:Int}(hx:AF l x=some (.int .u64 p))(hy:AF l y=some (.int .u64 q))(hp:IntKind.u64.has p)(hq:0<q):Exv P n l C ⟨dst,.binOp .rem t x y t',ty,pos,af,gd⟩ (.int .u64 (p.tmod q)):=Dh hx hy fun w=>by
 have h1:¬q=0:=by omega
 simp[binOp,Op.intDiv,h1]
theorem VZ{t t':TypeId}{x y:Operand}{p q:Int}(hx:AF l x=some (.int .u64 p))(hy:AF l y=some (.int .u64 q))(hp:IntKind.u64.has p)(hq:0<q):Exv P n l C ⟨dst,.binOp .quo t x y t',ty,pos,af,gd⟩ (.int .u64 (p.tdiv q)):=Dh hx hy fun w=>by
 have h1:¬q=0:=by omega
 have h2:IntKind.u64.wrap (p.tdiv q)=p.tdiv q:=by
  have:=KG (Sj hp hq)
  simp only[IntKind.wrap,IntKind.bits,IntKind.signed];simp;omega
 simp[binOp,Op.intDiv,h1,h2]
theorem Gm{t t':TypeId}{x y:Operand}{p:Int}{q:Nat}{k:IntKind}(hx:AF l x=some (.int .u64 p))(hy:AF l y=some (.int k (q:Nat)))(hp:IntKind.u64.has p)(hq:q<64):Exv P n l C ⟨dst,.binOp .shr t x y t',ty,pos,af,gd⟩ (.int .u64 (p/(2^q:Nat))):=fun w _ a ha=>by
 have hm:min ((q:Int)).toNat IntKind.u64.bits=q:=by show min ((q:Int)).toNat 64=q;omega
 have h3:p.fdiv (2^q)=p/(2^q:Nat):=by
  rw[Int.fdiv_eq_ediv_of_nonneg _ (Int.pow_nonneg (by omega))];congr 1
 have:(binOp .shr t (.int .u64 p) (.int k (q:Nat))).run P w=.ok (.int .u64 (p/(2^q:Nat))) w:=by
  simp only[binOp,Op.shift]
  rw[if_neg (by omega),hm]
  simp[h3]
 simp only[execOp,ha.eval hx,ha.eval hy]
 rw[Sem.run_bind,NX this]
 rfl
theorem IsPS.mk{a:Option Addr}{z:Val}(hx:IsW H (.iface 93 (.pointer a)) z):IsPS H (.pointer a) z:=⟨fun _=>hx,rfl⟩
theorem IsPF.mk{a:Option Addr}{z:Val}(hx:IsW H (.iface 97 (.pointer a)) z):IsPF H (.pointer a) z:=⟨fun _=>hx,rfl⟩
theorem TB{p:Value}{z:RV}(h:IsPt H cR p z):∃b off arr T fz pre v v' rest,p=.pointer (some ⟨b,off,none⟩)/\H b=some (.cells arr T fz)/\arr.toList=pre++([.int .i64 z.k,.int .i64 z.i,sv z.t,v,v']++rest)/\pre.length=off/\I64 z.k/\I64 z.i/\IsSl H cR v z.ks/\IsSl H cR v' z.vs:=by
 obtain⟨b,off,arr,T,fz,pre,cs,rest,h1,h2,h3,h4,h5⟩:=h
 obtain⟨v,v',rfl,r1,r2,h6,h7⟩:=cR_rep.1 h5
 exact⟨b,off,arr,T,fz,pre,v,v',rest,h1,h2,h3,h4,r1,r2,h6,h7⟩
section rv
variable{s:TypeId}{x:Operand}{k:Nat}{fields:Array Field}{fd:Field}{p:Value}{z:RV}
theorem VU(hs:P.underlying s=some (.struct fields))(hf:fields[0]? =some fd)(hsz:∀w,(sizeOf fd.type).run P w=.ok (k+1) w)(ho:fd.offset=0)(hx:AF l x=some p)(hp:IsPt H cR p z):
  ∃q,IsPt H (CV .i64) q z.k/\Exv P n l C ⟨dst,.fieldAddr s x 0,ty,pos,af,gd⟩ q:=by
 obtain⟨b,off,arr,T,fz,pre,v,v',rest,rfl,h2,h3,h4,r1,r2,h6,h7⟩:=TB hp
 exact⟨.pointer (some ⟨b,off+0,none⟩),⟨b,_,arr,T,fz,pre,[_],[.int .i64 z.i,sv z.t,v,v']++rest,rfl,h2,by rw[h3];simp,by omega,rfl,r1.has⟩,Af hs hf hsz hx (by rw[ho])⟩
theorem Abt(hs:P.underlying s=some (.struct fields))(hf:fields[1]? =some fd)(hsz:∀w,(sizeOf fd.type).run P w=.ok (k+1) w)(ho:fd.offset=1)(hx:AF l x=some p)(hp:IsPt H cR p z):
  ∃q,IsPt H (CV .i64) q z.i/\Exv P n l C ⟨dst,.fieldAddr s x 1,ty,pos,af,gd⟩ q:=by
 obtain⟨b,off,arr,T,fz,pre,v,v',rest,rfl,h2,h3,h4,r1,r2,h6,h7⟩:=TB hp
 exact⟨.pointer (some ⟨b,off+1,none⟩),⟨b,_,arr,T,fz,pre++[.int .i64 z.k],[_],[sv z.t,v,v']++rest,rfl,h2,by rw[h3];simp,by simp[h4],rfl,r2.has⟩,Af hs hf hsz hx (by rw[ho])⟩
theorem Abq(hs:P.underlying s=some (.struct fields))(hf:fields[2]? =some fd)(hsz:∀w,(sizeOf fd.type).run P w=.ok (k+1) w)(ho:fd.offset=2)(hx:AF l x=some p)(hp:IsPt H cR p z):
  ∃q,IsPt H cStr q z.t/\Exv P n l C ⟨dst,.fieldAddr s x 2,ty,pos,af,gd⟩ q:=by
 obtain⟨b,off,arr,T,fz,pre,v,v',rest,rfl,h2,h3,h4,r1,r2,h6,h7⟩:=TB hp
 exact⟨.pointer (some ⟨b,off+2,none⟩),⟨b,_,arr,T,fz,pre++[.int .i64 z.k,.int .i64 z.i],[_],[v,v']++rest,rfl,h2,by rw[h3];simp,by simp[h4],rfl⟩,Af hs hf hsz hx (by rw[ho])⟩
theorem TA(hs:P.underlying s=some (.struct fields))(hf:fields[3]? =some fd)(hsz:∀w,(sizeOf fd.type).run P w=.ok (k+1) w)(ho:fd.offset=3)(hx:AF l x=some p)(hp:IsPt H cR p z):
  ∃q,IsPt H (JR cR) q z.ks/\Exv P n l C ⟨dst,.fieldAddr s x 3,ty,pos,af,gd⟩ q:=by
 obtain⟨b,off,arr,T,fz,pre,v,v',rest,rfl,h2,h3,h4,r1,r2,h6,h7⟩:=TB hp
 exact⟨.pointer (some ⟨b,off+3,none⟩),⟨b,_,arr,T,fz,pre++[.int .i64 z.k,.int .i64 z.i,sv z.t],[v],[v']++rest,rfl,h2,by rw[h3];simp,by simp[h4],v,rfl,h6⟩,Af hs hf hsz hx (by rw[ho])⟩
theorem Yo(hs:P.underlying s=some (.struct fields))(hf:fields[4]? =some fd)(hsz:∀w,(sizeOf fd.type).run P w=.ok (k+1) w)(ho:fd.offset=4)(hx:AF l x=some p)(hp:IsPt H cR p z):
  ∃q,IsPt H (JR cR) q z.vs/\Exv P n l C ⟨dst,.fieldAddr s x 4,ty,pos,af,gd⟩ q:=by
 obtain⟨b,off,arr,T,fz,pre,v,v',rest,rfl,h2,h3,h4,r1,r2,h6,h7⟩:=TB hp
 exact⟨.pointer (some ⟨b,off+4,none⟩),⟨b,_,arr,T,fz,pre++[.int .i64 z.k,.int .i64 z.i,sv z.t,v],[v'],rest,rfl,h2,by rw[h3];simp,by simp[h4],v',rfl,h7⟩,Af hs hf hsz hx (by rw[ho])⟩
end rv
end go
end Go.Vc
namespace Go.Vc
open Go
def Vl{α:Type}(c:Codec α)(v:Value)(off:Int)(u:Value):Prop:=
 ∃b n cap,v=.slice (some ⟨b,0,none⟩) n cap/\0<=off/\off<n/\n<=cap/\u=.slice (some ⟨b,off.toNat* c.size,none⟩) (n-off.toNat) (cap-off.toNat)
section
variable{P:Program}{n:Nat}{l:List (Nat×Value)}{C:World->Prop}{dst:Option Tmp}{ty:TypeId}{pos:String}{af:Array Edge}{gd:Option (Nat×Bool)}{H:View}{α:Type}{c:Codec α}{T:TypeId}{fp:Ar}{t e:TypeId}{x y:Operand}{v u:Value}{xs:List α}{k:IntKind}{i off:Int}
theorem HQ(ht:P.underlying t=some (.slice e))(hsz:∀w,(sizeOf e).run P w=.ok c.size w)(hx:AF l x=some v)(hy:AF l y=some (.int k i))(hs:OwnSl H c T v xs fp)(h:0<=i/\i<xs.length):
  ∃u,Vl c v i u/\Exv P n l C ⟨dst,.slice t x (some y) none none,ty,pos,af,gd⟩ u:=by
 rcases hs with⟨rfl,rfl,_⟩|⟨b,cap,arr,cs,rest,rfl,rfl,e3,e4,e5,e6,e7⟩
 ·simp at h;omega
 ·refine⟨_,⟨b,_,cap,rfl,h.1,h.2,e5,rfl⟩,fun w _ a ha=>?_⟩
  have hb1:=fun w=>CS (P:=P) (k:=k) (y:=xs.length) (code:=.sliceB) (w:=w) h.1 (show i<=(xs.length:Int) by omega)
  have hb2:¬cap-i.toNat=0:=by omega
  simp[execOp,Instr.sliceAt,Instr.slice,ha.eval hx,ha.eval hy,run_underlying ht,Instr.sliceBounds,hb1,hsz,hb2,Addr.add_lit]
  intro hc;omega
theorem PM(ht:P.underlying t=some (.slice e))(hx:AF l x=some u)(hs:OwnSl H c T v xs fp)(ha:Vl c v off u):
  Exv P n l C ⟨dst,.call {callee:=.builtin .len,args:=#[x],argTypes:=#[t]},ty,pos,af,gd⟩ (.int .i64 ((xs.length:Int)-off)):=by
 obtain⟨b,m,cap,rfl,h1,h2,h3,rfl⟩:=ha
 rcases hs with⟨e,_⟩|⟨b',cap',arr,cs,rest,e,rfl,_⟩
 ·cases e
 ·cases e
  have:=Np (C:=C) (dst:=dst) (ty:=ty) (pos:=pos) (af:=af) (gd:=gd) (n:=n) ht hx
  have e2:((xs.length-off.toNat:Nat):Int)=(xs.length:Int)-off:=by omega
  rw[e2] at this
  exact this
theorem Gj(ht:P.underlying t=some (.slice e))(hsz:∀w,(sizeOf e).run P w=.ok c.size w)(hx:AF l x=some u)(hy:AF l y=some (.int k i))(hs:OwnSl H c T v xs fp)(ha:Vl c v off u)(h:0<=i/\off+i<xs.length):
  ∃p,HI c v (off+i).toNat p/\Exv P n l C ⟨dst,.indexAddr t x y,ty,pos,af,gd⟩ p:=by
 obtain⟨b,m,cap,rfl,h1,h2,h3,rfl⟩:=ha
 rcases hs with⟨e,_⟩|⟨b',cap',arr,cs,rest,e,rfl,_⟩
 ·cases e
 ·cases e
  refine⟨.pointer (some ⟨b,(off+i).toNat* c.size,none⟩),⟨b,_,_,rfl,rfl⟩,fun w _ a ha=>?_⟩
  have hi:0<=i/\i<((xs.length-off.toNat:Nat):Int):=by omega
  have e3:off.toNat* c.size+i.toNat* c.size=(off+i).toNat* c.size:=by rw[<-Nat.add_mul];congr 1;omega
  simp[execOp,Instr.indexAt,ha.eval hx,ha.eval hy,asIntOf,run_underlying ht,hi,hsz,Addr.add_lit,e3]
end
section
variable{P:Program}{ops:Array Oper}{Q:Exit->Act->World->Prop}{n:Nat}{l:List (Nat×Value)}{rest:List Oper}{w0 w:World}{H:View}{L:Ar}{ty:TypeId}{pos:String}{af:Array Edge}
theorem WL.turn0'{o:Oper}{v:Value}{w':World}(hg:o.guard=none)(hd:o.dst=none)(he:∀a,Fr n l a->(execOp a.eval o).run P w=.ok (.value v) w')
  (k:WL P ops Q n l rest w'):WL P ops Q n l (o::rest) w:=fun a ha=>wpList_plain hg fun K hK=>by
 unfold Oper.wp
 rw[he a ha,Oper.upon_value,hd]
 exact hK _ _ (k _ ha)
theorem WL.clear_al{α:Type}{c:Codec α}{fp:Ar}{t e T:TypeId}{x:Operand}{v u z:Value}{xs:List α}{z0:α}{off:Int}(ht:P.underlying t=some (.slice e))(hz:∀w,(zeroValue e).run P w=.ok z w)(hz0:c.rep H z.cells.toList z0)(h1:c.size=1)
  (hx:AF l x=some u)(hw:St w0 H (fp++L) w)(hs:OwnSl H c T v xs fp)(ha:Vl c v off u)
  (k:∀w' fp',OwnSl H c T v (xs.take off.toNat++List.replicate (xs.length-off.toNat) z0) fp'->St w0 H (fp'++L) w'->WL P ops Q n l rest w'):
  WL P ops Q n l (⟨none,.call {callee:=.builtin .clear,args:=#[x],argTypes:=#[t]},ty,pos,af,none⟩::rest) w:=by
 obtain⟨b,m,cap,rfl,h2,h3,h4,rfl⟩:=ha
 rcases hs with⟨e',_⟩|⟨b',cap',arr,cs,rst,e',rfl,e3,e4,e5,e6,e7⟩
 ·cases e'
 ·cases e'
  rw[h1,Nat.mul_one] at e4
  have hg:=hw.own (b,.cells arr T (0,0)) (by simp)
  have hzl:=c.len hz0
  rw[h1] at hzl
  obtain⟨z1,hz1⟩:∃z1,z.cells=#[z1]:=by
   match hh:z.cells.toList,hzl with
   |[q],_=>exact⟨q,by apply Array.ext';rw[hh]⟩
  have hcl:=Codec.reps_length e7
  rw[h1,Nat.mul_one] at hcl
  have hzc:∀q,(Builtin.zeroCells z.cells q).toList=List.replicate q z1:=by
   intro q
   rw[hz1]
   apply List.ext_getElem
   ·simp[Builtin.zeroCells]
   ·intro j a1 a2;simp[Builtin.zeroCells,Nat.mod_one]
  have hone:∀u∈(Builtin.zeroCells z.cells (xs.length-off.toNat)).toList,u.oneCell'=true:=by
   intro u hu
   rw[hzc] at hu
   have:=List.eq_of_mem_replicate hu
   subst this
   exact c.one hz0 u (by rw[hz1];simp)
  have hst:=run_storeCells_at P b off.toNat T (Builtin.zeroCells z.cells (xs.length-off.toNat)).toList 0 arr w hg (by rw[hzc];simp;omega) hone
  simp only[Nat.add_zero] at hst
  have hne:¬(xs.length-off.toNat=0):=by omega
  have hrep:∀q,c.reps H (List.replicate q z1) (List.replicate q z0):=by
   intro q
   induction q with
   |zero=>rfl
   |succ q ih=>exact⟨[z1],_,rfl,by rw[hz1] at hz0;exact hz0,ih⟩
  have e7':=e7
  rw[<-List.take_append_drop off.toNat xs] at e7'
  obtain⟨a',b',f1,f2,f3⟩:=Codec.reps_split e7'
  have hal:=Codec.reps_length f2
  rw[h1,Nat.mul_one,List.length_take,Nat.min_eq_left (by omega)] at hal
  have hbl:=Codec.reps_length f3
  rw[h1,Nat.mul_one,List.length_drop] at hbl
  refine WL.turn0' (v:=.tuple #[]) rfl rfl (w':=w.setRow b (arr.toList.take off.toNat++(Builtin.zeroCells z.cells (xs.length-off.toNat)).toList++arr.toList.drop (off.toNat+(Builtin.zeroCells z.cells (xs.length-off.toNat)).toList.length)).toArray) (fun a ha=>?_) (k _ _ (.inr ⟨b,cap,_,a'++List.replicate (xs.length-off.toNat) z1,rst,?_,rfl,?_,?_,?_,e6,Codec.reps_append f2 (hrep _)⟩)
   (hw.write (o':=.cells (arr.toList.take off.toNat++(Builtin.zeroCells z.cells (xs.length-off.toNat)).toList++arr.toList.drop (off.toNat+(Builtin.zeroCells z.cells (xs.length-off.toNat)).toList.length)).toArray T (0,0)) rfl rfl rfl (by simp[World.setRow]) (setRow_heap w b arr _ T _ hg) (fun k hk=>setRow_other w b k _ hk)))
  ·simp[execOp,resolve,invoke,builtin,Builtin.clear_,ha.eval hx,run_underlying ht,hz,hne,h1,hst]
  ·rw[List.length_append,List.length_take,List.length_replicate];congr 1;omega
  ·have t1:arr.toList.take off.toNat=a':=by rw[e3,f1,List.append_assoc,<-hal,List.take_left]
   have t2:arr.toList.drop (off.toNat+(xs.length-off.toNat))=rst:=by rw[e3,show off.toNat+(xs.length-off.toNat)=cs.length by omega,List.drop_left]
   simp only[hzc,List.length_replicate,t1,t2]
  ·rw[hzc,h1]
   simp only[List.size_toArray,List.length_append,List.length_take,List.length_replicate,List.length_drop,Array.length_toList]
   omega
  ·rw[List.length_append,List.length_take,List.length_replicate];omega
end
end Go.Vc
namespace Go.Vc
open Go
abbrev pq(b:Nat):Value:=.pointer (some ⟨b,0,none⟩)
abbrev oc(a:Array Value)(t:TypeId):Obj:=.cells a t (0,0)
abbrev i6(x:Int):Value:=.int .i64 x
abbrev LI:=List Int
abbrev M1:=List (Int×Int)
abbrev B2:=List (List Bool)
theorem il{α:Sort _}{a:α}{p:Prop}:a=a\/p:=.inl rfl
section
variable{P:Program}{ops:Array Oper}{Q:Exit->Act->World->Prop}{n:Nat}{l:List (Nat×Value)}{rest:List Oper}{w:World}{d:Nat}{v:Value}{ty:TypeId}{pos:String}{af:Array Edge}{x:Operand}
theorem WL.mv(hn:Nat.blt d n=true)(hx:AF l x=some v)(k:WL P ops Q n ((d,v)::l) rest w):WL P ops Q n l (⟨some d,.move x,ty,pos,af,none⟩::rest) w:=
 WL.run (C:=fun _=>True) trivial rfl rfl hn (Qw hx) k
theorem WL.ma(hn:Nat.blt d n=true)(hx:AF l x=some v)(k:WL P ops Q n ((d,v)::l) rest w):WL P ops Q n l (⟨some d,.assign x,ty,pos,af,none⟩::rest) w:=
 WL.run (C:=fun _=>True) trivial rfl rfl hn (Ba hx) k
theorem WL.nx{ops:Array Oper}{y:Code}(h:WC P Q n l y w):WL P ops (Exit.then (y.wp P Q) Q) n l [] w:=WL.nil (WQ.next h)
theorem WL.up{ops:Array Oper}{s:Nat}{b c:Bool}(hx:lk l s=some (.bool b))(e:b=c)(h:WL P ops Q n ((s,.bool c)::l) rest w):WL P ops Q n l rest w:=fun a ha=>h a (by
 subst e
 refine⟨ha.defers,ha.size,fun k v hv=>?_⟩
 rw[MN] at hv
 split at hv
 ·rename_i h;subst h;cases hv;exact ha.val _ _ hx
 ·exact ha.val _ _ hv)
theorem WC.sr{k:Nat}{ops:List Oper}{y:Code}(h:WL P ops.toArray (Exit.then (y.wp P Q) Q) n l ops w):WC P Q n l (.seq (.region k ops.toArray false) y) w:=WC.seq (WC.region h)
end
end Go.Vc
namespace Go.Vc
open Go
abbrev od{p:Prop}[Decidable p](h:decide p=true):p:=of_decide_eq_true h
abbrev ov{p:Prop}[Decidable p](h:decide p=false):¬p:=of_decide_eq_false h
abbrev DG:=Bool.eq_false_or_eq_true
abbrev ns:Value:=.slice none 0 0
theorem i0:I64 0:=by unfold I64;omega
section
variable{P:Program}{ops:Array Oper}{Q:Exit->Act->World->Prop}{n:Nat}{l:List (Nat×Value)}{rest:List Oper}{o:Oper}{w:World}{C:World->Prop}{d:Nat}{v:Value}
inductive Stp (P:Program) (ops:Array Oper) (n:Nat) (l:List (Nat×Value)) (C:World->Prop):Oper->Nat->Value->Prop
 |run {o:Oper} {d:Nat} {v:Value} (hg:o.guard=none) (hd:o.dst=some d) (hdn:Nat.blt d n=true) (he:Exv P n l C o v):Stp P ops n l C o d v
 |skip {o:Oper} {d j dj:Nat} {b want:Bool} (hg:o.guard=some (j,want)) (hj:(ops[j]?).bind (·.dst)=some dj) (hv:lk l dj=some (.bool b)) (hb:b= !want) (hd:o.dst=some d) (hdn:Nat.blt d n=true):Stp P ops n l C o d undef
 |skipu {o:Oper} {d j dj:Nat} {want:Bool} (hg:o.guard=some (j,want)) (hj:(ops[j]?).bind (·.dst)=some dj) (hv:lk l dj=some undef) (hd:o.dst=some d) (hdn:Nat.blt d n=true):Stp P ops n l C o d undef
 |ug {dst:Option Tmp} {op:Op} {ty:TypeId} {pos:String} {af:Array Edge} {d j dj:Nat} {v:Value} {b want:Bool} (hj:(ops[j]?).bind (·.dst)=some dj) (hv:lk l dj=some (.bool b)) (hb:b=want)
  (h:Stp P ops n l C ⟨dst,op,ty,pos,af,none⟩ d v):Stp P ops n l C ⟨dst,op,ty,pos,af,some (j,want)⟩ d v
theorem Stp.wl(h:Stp P ops n l C o d v):∀{rest:List Oper},C w->WL P ops Q n ((d,v)::l) rest w->WL P ops Q n l (o::rest) w:=by
 induction h with
 |run hg hd hdn he=>exact fun hw k=>WL.run hw hg hd hdn he k
 |skip hg hj hv hb hd hdn=>exact fun _ k=>WL.skip_g hg hj hv hb hd hdn k
 |skipu hg hj hv hd hdn=>exact fun _ k=>WL.skip_u hg hj hv hd hdn k
 |ug hj hv hb _ ih=>exact fun hw k=>WL.unguard hj hv hb (ih hw k)
theorem Stp.wq{K:Act->Prop}(h:Stp P ops n l C o d v):∀{rest:List Oper},Wq P ops C K n ((d,v)::l) rest->Wq P ops C K n l (o::rest):=by
 induction h with
 |run hg hd hdn he=>exact fun k=>Wq.run hg hd hdn he k
 |skip hg hj hv hb hd hdn=>exact fun k=>Wq.skip_g hg hj hv hb hd hdn k
 |skipu hg hj hv hd hdn=>exact fun k=>Wq.skip_u hg hj hv hd hdn k
 |ug hj hv hb _ ih=>exact fun k=>Wq.unguard hj hv hb (ih k)
theorem Uq{K:Act->Prop}{dst:Option Tmp}{op:Op}{ty:TypeId}{pos:String}{af:Array Edge}{j dj:Nat}{b want:Bool}(hb:b=want)
  (k:Wq P ops C K n l (⟨dst,op,ty,pos,af,none⟩::rest))(hj:(ops[j]?).bind (·.dst)=some dj:=by exact rfl)(hv:lk l dj=some (.bool b):=by exact rfl):
  Wq P ops C K n l (⟨dst,op,ty,pos,af,some (j,want)⟩::rest):=Wq.unguard hj hv hb k
theorem Rm{K:Act->Prop}(he:Exv P n l C o v)(k:Wq P ops C K n ((d,v)::l) rest)(hg:o.guard=none:=by exact rfl)(hd:o.dst=some d:=by exact rfl)(hdn:Nat.blt d n=true:=by exact rfl):
  Wq P ops C K n l (o::rest):=Wq.run hg hd hdn he k
theorem Ug{dst:Option Tmp}{op:Op}{ty:TypeId}{pos:String}{af:Array Edge}{j dj:Nat}{b want:Bool}(hb:b=want)
  (k:WL P ops Q n l (⟨dst,op,ty,pos,af,none⟩::rest) w)(hj:(ops[j]?).bind (·.dst)=some dj:=by exact rfl)(hv:lk l dj=some (.bool b):=by exact rfl):
  WL P ops Q n l (⟨dst,op,ty,pos,af,some (j,want)⟩::rest) w:=WL.unguard hj hv hb k
theorem Rn(hw:C w)(he:Exv P n l C o v)(k:WL P ops Q n ((d,v)::l) rest w)(hg:o.guard=none:=by exact rfl)(hd:o.dst=some d:=by exact rfl)(hdn:Nat.blt d n=true:=by exact rfl):
  WL P ops Q n l (o::rest) w:=WL.run hw hg hd hdn he k
theorem Rx{D:Value->Prop}(hw:C w)(he:∃v,D v/\Exv P n l C o v)(k:∀v,D v->WL P ops Q n ((d,v)::l) rest w)(hg:o.guard=none:=by exact rfl)(hd:o.dst=some d:=by exact rfl)(hdn:Nat.blt d n=true:=by exact rfl):
  WL P ops Q n l (o::rest) w:=WL.runx hw hg hd hdn he k
theorem Rc{f:Nat}{args:Array Value}{R:Ending->World->Prop}(he:∀a,Fr n l a->(execOp a.eval o).run P w=.ok (.enter f args) w)(hc:Calls P f args w R)
  (k:∀e w',R e w'->∃v,e=.returned v/\WL P ops Q n ((d,v)::l) rest w')(hg:o.guard=none:=by exact rfl)(hd:o.dst=some d:=by exact rfl)(hdn:Nat.blt d n=true:=by exact rfl):WL P ops Q n l (o::rest) w:=
 WL.call hg hd hdn he hc k
theorem Dm{eff:Nat->Bool}{anc:Nat->Nat->Bool}{i:Nat}{I:List Nat}{pend:GU}{x:Operand}{ty:TypeId}{pos:String}{af:Array Edge}{gd:Option (Nat×Bool)}
  (k:∀p:(World->Prop)->Prop,(∀C',p C')->Wd P ops eff anc Q n ((d,v)::l) I ((i,p)::pend) C)(ho:ops[i]? =some ⟨some d,.move x,ty,pos,af,gd⟩:=by exact rfl)(he:eff i=false:=by exact rfl)(hdn:Nat.blt d n=true:=by exact rfl)(hx:AF l x=some v:=by exact rfl):
  Wd P ops eff anc Q n l (i::I) pend C:=Wd.run ho he rfl hdn (fun _=>Qw hx) k
theorem Cd{c:Operand}{x y:Code}{t:Bool}(h1:t=true->WC P Q n l x w)(h2:t=false->WC P Q n l y w)(hc:AF l c=some (.bool t):=by exact rfl):WC P Q n l (.cond c x y) w:=WC.cond hc h1 h2
theorem Wt{J:Act->World->Prop}(h:∀a,Fr n l a->J a w):WQ (Exit.then J Q) .normal n l w:=WQ.there h
theorem Fr.os{m:List (Nat×Value)}{a:Act}(h:Fr n l a)(hs:sub l m:=by repeat (first|exact trivial|refine⟨rfl,?_⟩)):Fr n m a:=h.of_sub hs
theorem At.os{m:List (Nat×Value)}(hs:sub l m:=by repeat (first|exact trivial|refine⟨rfl,?_⟩)):WQ (At n m w) .normal n l w:=At.of hs
theorem Ee{w0:World}{H:View}{L:Ar}{ty:TypeId}{pos:String}{af:Array Edge}{b off:Nat}{t T:TypeId}{x y:Operand}{arr:Array Value}(arr':Array Value){cs:List Value}{v:Value}{m:Nat}
  (hsz:∀w,(sizeOf t).run P w=.ok m w)(hw:St w0 H ([(b,.cells arr T (0,0))]++L) w)(k:∀w',St w0 H ([(b,.cells arr' T (0,0))]++L) w'->WL P ops Q n l rest w')
  (hx:AF l x=some (.pointer (some ⟨b,off,none⟩)):=by exact rfl)(hy:AF l y=some v:=by exact rfl)(hc:v.cells.toList=cs:=by exact rfl)(hm:cs.length=m:=by exact rfl)(hone:Jv cs:=by repeat (first|exact trivial|refine⟨rfl,?_⟩))
  (hsp:arr.toList=arr.toList.take off++((arr.toList.drop off).take cs.length++arr.toList.drop (off+cs.length)):=by exact rfl)(hpre:(arr.toList.take off).length=off:=by exact rfl)(hold:((arr.toList.drop off).take cs.length).length=cs.length:=by exact rfl)
  (harr:(arr.toList.take off++(cs++arr.toList.drop (off+cs.length))).toArray=arr':=by exact rfl):WL P ops Q n l (⟨none,.store t x y,ty,pos,af,none⟩::rest) w:=
 WL.store_box (by subst hm;exact hsz) hx hy hc hone hsp hpre hold harr hw k
end
end Go.Vc
namespace Go.Proofs.YtlhkfkecoekoeaaGreatDoor
theorem Tryz.mixed:Tryz.prog.follows .mixedOrders=true:=by kernel_rfl
theorem Tryz.info3:(Tryz.prog.info? 3).map (fun i=>(i.zero,i.size,i.bytes))=some (some (.int .i64 0),1,8):=by kernel_rfl
theorem Tryz.info5:(Tryz.prog.info? 5).map (fun i=>(i.zero,i.size,i.bytes))=some (some (.int .u8 0),1,1):=by kernel_rfl
theorem Tryz.info9:(Tryz.prog.info? 9).map (fun i=>(i.zero,i.size,i.bytes))=some (some (.string ⟨#[]⟩),1,16):=by kernel_rfl
theorem Tryz.info25:(Tryz.prog.info? 25).map (fun i=>(i.zero,i.size,i.bytes))=some (some (.agg #[.nilIface]),1,16):=by kernel_rfl
theorem Tryz.info30:(Tryz.prog.info? 30).map (fun i=>(i.zero,i.size,i.bytes))=some (some (.slice none 0 0),1,24):=by kernel_rfl
theorem Tryz.info32:(Tryz.prog.info? 32).map (fun i=>(i.zero,i.size,i.bytes))=some (some (.agg #[.int .i64 0,.int .i64 0,.string ⟨#[]⟩,.slice none 0 0,.slice none 0 0]),5,80):=by kernel_rfl
theorem Tryz.info42:(Tryz.prog.info? 42).map (fun i=>(i.zero,i.size,i.bytes))=some (some (.slice none 0 0),1,24):=by kernel_rfl
theorem Tryz.info79:(Tryz.prog.info? 79).map (fun i=>(i.zero,i.size,i.bytes))=some (some (.nilFunc),1,8):=by kernel_rfl
theorem Tryz.concrete59:Tryz.prog.concrete 59=true:=by kernel_rfl
theorem Tryz.concrete86:Tryz.prog.concrete 86=true:=by kernel_rfl
theorem Tryz.concrete87:Tryz.prog.concrete 87=true:=by kernel_rfl
theorem Tryz.concrete89:Tryz.prog.concrete 89=true:=by kernel_rfl
theorem Tryz.concrete91:Tryz.prog.concrete 91=true:=by kernel_rfl
theorem Tryz.concrete93:Tryz.prog.concrete 93=true:=by kernel_rfl
theorem Tryz.concrete97:Tryz.prog.concrete 97=true:=by kernel_rfl
theorem Tryz.iface23:Tryz.prog.underlying 23=some (.interface (Tryz.prog.methodsAt 23)):=by kernel_rfl
theorem Tryz.iface27:Tryz.prog.underlying 27=some (.interface (Tryz.prog.methodsAt 27)):=by kernel_rfl
section
open Go.Vc Go
variable{ops:Array Go.Oper}{Q:Go.Exit->Go.Act->Go.World->Prop}{n:Nat}{l:List (Nat×Go.Value)}{rest:List Go.Oper}{o:Go.Oper}{w:Go.World}{C:Go.World->Prop}{d:Nat}{v:Go.Value}
theorem XE(he:Exv Tryz.prog n l C o v:=by
  first
  |((with_reducible apply Qw)<;>first|exact rfl)
  |((with_reducible apply Ba)<;>first|exact rfl)
  |((with_reducible apply Aj)<;>first|with_reducible exact Tryz.isAgg1|with_reducible exact Tryz.isAgg2|with_reducible exact Tryz.isAgg208|with_reducible exact Tryz.isAgg224|with_reducible exact Tryz.isAgg23|with_reducible exact Tryz.isAgg3|with_reducible exact Tryz.isAgg30|with_reducible exact Tryz.isAgg4|with_reducible exact Tryz.isAgg42|with_reducible exact Tryz.isAgg60|with_reducible exact Tryz.isAgg76|with_reducible exact Tryz.isAgg9|with_reducible exact Tryz.isAgg93|with_reducible exact Tryz.isAgg97|exact rfl)
  |((with_reducible apply YS)<;>first|exact rfl)
  |((with_reducible apply FA)<;>first|assumption|exact rfl)
  |((with_reducible apply Dp)<;>first|assumption|exact rfl)
  |((with_reducible apply Bi)<;>first|exact rfl)
  |((with_reducible apply Eg)<;>first|exact rfl|assumption)
  |((with_reducible apply JE)<;>first|exact rfl)
  |((with_reducible apply XX)<;>first|exact rfl)
  |((with_reducible apply DR)<;>first|exact rfl)
  |((with_reducible apply UC)<;>first|exact rfl)
  |((with_reducible apply NZ)<;>first|exact rfl)
  |((with_reducible apply Af (o':=3) (f:=3) Tryz.underlying32)<;>first|exact rfl|exact Tryz.sizeOf30)
  |((with_reducible apply AcP)<;>first|exact rfl)
  |((with_reducible apply Hp)<;>first|exact rfl|assumption)
  |((with_reducible apply AcV)<;>first|exact rfl)
  |((with_reducible apply Adf)<;>first|exact rfl)
  |((with_reducible apply Af (o':=0) (f:=0) Tryz.underlying32)<;>first|exact rfl|exact Tryz.sizeOf3)
  |((with_reducible apply Af (o':=1) (f:=1) Tryz.underlying62)<;>first|exact rfl|exact Tryz.sizeOf3)
  |((with_reducible apply Ol)<;>first|with_reducible exact Tryz.underlying9|exact rfl)
  |((with_reducible apply Vg)<;>first|with_reducible exact Tryz.underlying9|exact rfl|assumption)
  |((with_reducible apply Af (o':=1) (f:=1) Tryz.underlying67)<;>first|exact rfl|exact Tryz.sizeOf3)
  |((with_reducible apply Af (o':=0) (f:=0) Tryz.underlying25)<;>first|exact rfl|exact Tryz.sizeOf23)
  |((with_reducible apply Mh)<;>first|with_reducible exact Tryz.underlying115|with_reducible exact Tryz.underlying180|with_reducible exact Tryz.underlying2|with_reducible exact Tryz.underlying3|with_reducible exact Tryz.underlying5|exact rfl)
  |((with_reducible apply Af (o':=0) (f:=0) Tryz.underlying62)<;>first|exact rfl|exact Tryz.sizeOf9)
  |((with_reducible apply Af (o':=4) (f:=4) Tryz.underlying32)<;>first|exact rfl|exact Tryz.sizeOf30)
  |((with_reducible apply Af (o':=0) (f:=0) Tryz.underlying67)<;>first|exact rfl|exact Tryz.sizeOf9)
  |((with_reducible apply Yy)<;>first|exact rfl|assumption)
  |((with_reducible apply Af (o':=1) (f:=1) Tryz.underlying32)<;>first|exact rfl|exact Tryz.sizeOf2)
  |((with_reducible apply Af (o':=2) (f:=2) Tryz.underlying62)<;>first|exact rfl|exact Tryz.sizeOf3)
  |((with_reducible apply Af (o':=3) (f:=3) Tryz.underlying67)<;>first|exact rfl|exact Tryz.sizeOf3)
  |((with_reducible apply ZH)<;>first|exact rfl)
  |((with_reducible apply Adj)<;>first|exact rfl|assumption)
  |((with_reducible apply Af (o':=2) (f:=2) Tryz.underlying67)<;>first|exact rfl|exact Tryz.sizeOf3)
  |((with_reducible apply Af (o':=2) (f:=2) Tryz.underlying32)<;>first|exact rfl|exact Tryz.sizeOf9)
  |((with_reducible apply Af (o':=0) (f:=0) Tryz.underlying78)<;>first|exact rfl|exact Tryz.sizeOf3)
  |((with_reducible apply Ys)<;>first|exact rfl)
  |((with_reducible apply YH)<;>first|exact rfl)
  |((with_reducible apply Af (o':=3) (f:=3) Tryz.underlying62)<;>first|exact rfl|exact Tryz.sizeOf4)
  |((with_reducible apply Af (o':=5) (f:=5) Tryz.underlying67)<;>first|exact rfl|exact Tryz.sizeOf4)
  |((with_reducible apply Af (o':=1) (f:=1) Tryz.underlying78)<;>first|exact rfl|exact Tryz.sizeOf76)
  |((with_reducible apply UO)<;>first|with_reducible exact Tryz.underlying42|exact rfl)
  |((with_reducible apply Af (o':=0) (f:=0) Tryz.underlying45)<;>first|exact rfl|exact Tryz.sizeOf9)
  |((with_reducible apply Af (o':=2) (f:=2) Tryz.underlying100)<;>first|exact rfl|exact Tryz.sizeOf3)
  |((with_reducible apply Af (o':=4) (f:=4) Tryz.underlying67)<;>first|exact rfl|exact Tryz.sizeOf3)
  |((with_reducible apply AcM)<;>first|exact rfl|assumption)
  |((with_reducible apply Qb)<;>first|with_reducible exact Tryz.underlying42|with_reducible exact Tryz.sizeOf25|exact rfl)
  |((with_reducible apply Af (o':=2) (f:=2) Tryz.underlying45)<;>first|exact rfl|exact Tryz.sizeOf9)
  |((with_reducible apply Af (o':=1) (f:=1) Tryz.underlying45)<;>first|exact rfl|exact Tryz.sizeOf3)):Exv Tryz.prog n l C o v:=he
theorem X1(hg:o.guard=none:=by exact rfl)(hd:o.dst=some d:=by exact rfl)(hdn:Nat.blt d n=true:=by exact rfl)(he:Exv Tryz.prog n l C o v:=by exact XE):Stp Tryz.prog ops n l C o d v:=.run hg hd hdn he
theorem R(hw:C w)(k:WL Tryz.prog ops Q n ((d,v)::l) rest w)
 (hs:Stp Tryz.prog ops n l C o d v:=by first|exact X1|((with_reducible apply Stp.skip);exact rfl;exact rfl;exact rfl;(first|assumption|exact rfl);exact rfl;exact rfl)|(with_reducible apply Stp.skipu)<;>exact rfl|((with_reducible apply Stp.ug);exact rfl;exact rfl;(first|assumption|exact rfl);exact X1)):WL Tryz.prog ops Q n l (o::rest) w:=hs.wl hw k
theorem Rq{K:Go.Act->Prop}(k:Wq Tryz.prog ops C K n ((d,v)::l) rest)
 (hs:Stp Tryz.prog ops n l C o d v:=by first|exact X1|((with_reducible apply Stp.skip);exact rfl;exact rfl;exact rfl;(first|assumption|exact rfl);exact rfl;exact rfl)|(with_reducible apply Stp.skipu)<;>exact rfl|((with_reducible apply Stp.ug);exact rfl;exact rfl;(first|assumption|exact rfl);exact X1)):Wq Tryz.prog ops C K n l (o::rest):=hs.wq k
end
end Go.Proofs.YtlhkfkecoekoeaaGreatDoor
namespace Go.Vc
open Go
def GlobN(w0:World)(H:View):Prop:=w0.drawn=0/\(∃T fz,H 4=some (.cells (Lib.pow10Tab.map (Value.int .u64)).toArray T fz))/\∃arr T fz t v,H 3=some (.cells arr T fz)/\arr[0]? =some (.iface t v)
theorem GlobN.mono{w0:World}{H K:View}(h:GlobN w0 H)(hle:View.le H K):GlobN w0 K:=by
 obtain⟨h0,⟨T,fz,h2⟩,arr,T',fz',t,v,h3,h4⟩:=h
 exact⟨h0,⟨T,fz,hle _ _ h2⟩,arr,T',fz',t,v,hle _ _ h3,h4⟩
def Pt(b:Aa)(u base:Int)(Q:Aa->Prop):Prop:=base=10/\(b.length+20:Nat)<=1000000000/\Q (b++Lib.decDigits u.toNat)
def LV(s:Aa)(c:Int)(Q:Int->Prop):Prop:=s.length<=1000000/\Q (Lib.indexByte s c.toNat.toUInt8)
def LP(s:Aa)(base size:Int)(Q:Int->Bool->Prop):Prop:=base=10/\size=64/\s.length<=1000000/\match Lib.parseUintB 64 s with|.ok u=>Q u true|.range=>Q 18446744073709551615 false|_=>False
theorem St.refl0(w:World):St {w with drawn:=0} (fun k=>w.heap[k]?) [] w:=⟨rfl,rfl,rfl,Nat.le_refl _,fun _ _ h=>h,fun _ h=>(by cases h),fun _ h=>(by cases h),List.nodup_nil,Nat.zero_le _⟩
theorem St.below0{L:Ar}{w w':World}(h:St {w with drawn:=0} (fun k=>w.heap[k]?) L w'):RowKit.Below w.heap.size w w':=
 ⟨h.os,h.tape,h.output,h.size,fun k hk=>by
  have:w.heap[k]? =some w.heap[k]:=Array.getElem?_eq_getElem hk
  rw[this];exact h.fits k _ this⟩
theorem St.of_below{w0:World}{H:View}{L:Ar}{w w':World}(hS:St w0 H L w)(hb:RowKit.Below w.heap.size w w')(hd:w0.drawn<=w'.drawn):St w0 H L w':=by
 have hk:∀k o,w.heap[k]? =some o->w'.heap[k]? =some o:=fun k o h=>by
  rw[hb.block k (Array.getElem?_eq_some_iff.1 h).1];exact h
 exact⟨hb.os.trans hS.os,hb.tape.trans hS.tape,hb.output.trans hS.output,Nat.le_trans hS.size hb.size,fun k o h=>hk k o (hS.fits k o h),fun p hp=>hk _ _ (hS.own p hp),hS.sep,hS.nodup,hd⟩
end Go.Vc
namespace Go.Vc
open Go
def Bor{α:Type}(H:View)(c:Codec α)(v:Value)(xs:List α)(fp:Ar):Prop:=
 ∃ad cap,v=.slice ad xs.length cap/\xs.length<=cap/\cap<=maxLen/\(ad=none->cap=0)/\
  (xs=[]\/∃b off arr T fz pre cs rest,ad=some ⟨b,off,none⟩/\(H b=some (.cells arr T fz)\/(b,.cells arr T fz)∈fp)/\arr.toList=pre++(cs++rest)/\pre.length=off/\c.reps H cs xs)
def AcF{α:Type}(H:View)(c:Codec α)(v:Value)(x:α)(fp:Ar):Prop:=
 ∃b off arr T fz pre cs rest,v=.pointer (some ⟨b,off,none⟩)/\(H b=some (.cells arr T fz)\/(b,.cells arr T fz)∈fp)/\arr.toList=pre++(cs++rest)/\pre.length=off/\c.rep H cs x
theorem RX{w0 w:World}{H:View}{fp L:Ar}{b:Nat}{o:Obj}(hw:St w0 H (fp++L) w)(h:H b=some o\/(b,o)∈fp):w.heap[b]? =some o:=
 h.elim (fun h=>hw.fits _ _ h) fun h=>hw.own (b,o) (List.mem_append_left _ h)
section
variable{α:Type}{c:Codec α}{H K:View}{fp:Ar}
theorem Bor.mono{v:Value}{xs:List α}(h:Bor H c v xs fp)(hle:View.le H K):Bor K c v xs fp:=by
 obtain⟨ad,cap,h1,h2,h3,h4,h5⟩:=h
 refine⟨ad,cap,h1,h2,h3,h4,h5.imp id ?_⟩
 rintro⟨b,off,arr,T,fz,pre,cs,rest,e1,e2,e3,e4,e5⟩
 exact⟨b,off,arr,T,fz,pre,cs,rest,e1,e2.imp (hle _ _) id,e3,e4,Codec.reps_mono hle e5⟩
theorem IsSl.bor{v:Value}{xs:List α}(h:IsSl H c v xs):Bor H c v xs fp:=by
 obtain⟨ad,cap,h1,h2,h3,h4,h5⟩:=h
 refine⟨ad,cap,h1,h2,h3,h4,h5.imp id ?_⟩
 rintro⟨b,off,arr,T,fz,pre,cs,rest,e1,e2,e3,e4,e5⟩
 exact⟨b,off,arr,T,fz,pre,cs,rest,e1,.inl e2,e3,e4,e5⟩
theorem OwnSl.bor{T:TypeId}{v:Value}{xs:List α}(h:OwnSl H c T v xs fp):Bor H c v xs fp:=by
 rcases h with⟨rfl,rfl,rfl⟩|⟨b,cap,arr,cs,rest,rfl,rfl,e3,e4,e5,e6,e7⟩
 ·exact IsSl.nil.bor
 ·exact⟨_,cap,rfl,e5,e6,fun h=>(by cases h),.inr ⟨b,0,arr,T,(0,0),[],cs,rest,rfl,.inr (by simp),by simpa using e3,rfl,e7⟩⟩
theorem Bor.bound{v:Value}{xs:List α}(h:Bor H c v xs fp):(xs.length:Int)<=9223372036854775807:=by
 obtain⟨ad,cap,rfl,h1,h2,_⟩:=h
 unfold maxLen at h2;omega
theorem Bor.one{v:Value}{xs:List α}(h:Bor H c v xs fp):v.oneCell'=true:=by obtain⟨_,_,rfl,_⟩:=h;rfl
theorem Bor.src{P:Program}{w0 w:World}{L:Ar}{v:Value}{xs:List α}(h:Bor H c v xs fp)(hw:St w0 H (fp++L) w):ZK c H P w v xs:=by
 obtain⟨ad,cap,rfl,h1,h2,h3,h4⟩:=h
 rcases h4 with rfl|⟨b,off,arr,T,fz,pre,cs,rest,rfl,e2,e3,e4,e5⟩
 ·exact .inl ⟨rfl,ad,cap,rfl⟩
 ·by_cases h0:xs=[]
  ·subst h0;exact .inl ⟨rfl,_,_,rfl⟩
  ·refine .inr ⟨_,_,_,cs,rfl,rfl,List.length_pos_iff.2 h0,e5,fun j v hj=>?_⟩
   have hb:=RX hw e2
   rw[Addr.add_lit]
   simp only[World.cell?,hb]
   simp only[Option.isSome_none,Bool.false_eq_true,if_false]
   have hj':=(List.getElem?_eq_some_iff.1 hj).1
   rw[<-Array.getElem?_toList,e3,List.getElem?_append_right (by omega),e4,List.getElem?_append_left (by omega)]
   rw[<-hj];congr 1;omega
theorem Bor.part{v:Value}{xs:List α}{lo hi:Nat}(h:Bor H c v xs fp)(h1:lo<=hi)(h2:hi<=xs.length):
  ∃ad cap,v=.slice ad xs.length cap/\xs.length<=cap/\cap<=maxLen/\Bor H c (.slice (if cap=lo then ad else ad.map (·.add (lo* c.size))) (hi-lo) (cap-lo)) ((xs.take hi).drop lo) fp:=by
 obtain⟨ad,cap,rfl,g1,g2,g3,g4⟩:=h
 have hlen:((xs.take hi).drop lo).length=hi-lo:=by rw[List.length_drop,List.length_take,Nat.min_eq_left h2]
 refine⟨ad,cap,rfl,g1,g2,_,_,by rw[hlen],by rw[hlen];omega,by omega,fun hn=>?_,?_⟩
 ·by_cases hc:cap=lo
  ·omega
  ·rw[if_neg hc] at hn
   cases ad with
   |none=>have:=g3 rfl;omega
   |some a=>simp at hn
 ·rcases g4 with rfl|⟨b,off,arr,T,fz,pre,cs,rest,rfl,e2,e3,e4,e5⟩
  ·left;simp
  ·by_cases hc:cap=lo
   ·left;apply List.length_eq_zero_iff.1;rw[hlen];omega
   ·right
    rw[<-List.take_append_drop hi xs] at e5
    obtain⟨a,r,k1,k2,k3⟩:=Codec.reps_split e5
    have e6:xs.take hi=(xs.take hi).take lo++(xs.take hi).drop lo:=(List.take_append_drop lo _).symm
    rw[e6] at k2
    obtain⟨a1,a2,m1,m2,m3⟩:=Codec.reps_split k2
    have hl1:=Codec.reps_length m2
    rw[List.length_take,List.length_take,Nat.min_eq_left h2,Nat.min_eq_left h1] at hl1
    refine⟨b,off+lo* c.size,arr,T,fz,pre++a1,a2,r++rest,?_,e2,by rw[e3,k1,m1];simp,by rw[List.length_append,e4,hl1],m3⟩
    rw[if_neg hc];simp[Addr.add_lit]
end
section
variable{P:Program}{n:Nat}{l:List (Nat×Value)}{C:World->Prop}{dst:Option Tmp}{ty:TypeId}{pos:String}{af:Array Edge}{gd:Option (Nat×Bool)}{H:View}{w0:World}{α:Type}{c:Codec α}{fp:Ar}{t t' e:TypeId}{x y z:Operand}{v p:Value}{xs:List α}{k k2:IntKind}{i lo hi:Int}
theorem CN(ht:P.underlying t=some (.slice e))(hx:AF l x=some v)(hs:Bor H c v xs fp):
  Exv P n l C ⟨dst,.call {callee:=.builtin .len,args:=#[x],argTypes:=#[t]},ty,pos,af,gd⟩ (.int .i64 xs.length):=by
 obtain⟨ad,cap,rfl,_⟩:=hs
 exact Np ht hx
theorem Uy(ht:P.underlying t=some (.slice e))(hx:AF l x=some v)(hs:Bor H c v xs fp):
  ∃u,(∃b,u=.bool b/\(b=true->xs=[]))/\Exv P n l C ⟨dst,.binOp .eql t x (.const (.slice none 0 0)) t',ty,pos,af,gd⟩ u:=by
 obtain⟨ad,cap,rfl,h1,h2,h3,h4⟩:=hs
 refine⟨.bool ad.isNone,⟨_,rfl,fun hn=>?_⟩,?_⟩
 ·have:ad=none:=by simpa using hn
  have:=h3 this
  exact List.length_eq_zero_iff.1 (by omega)
 ·refine JJ (u:=.slice ad xs.length cap) (v:=.slice none 0 0) hx rfl (fun w=>by simp[eqGuard]) fun w=>?_
  simp[binOp,run_equal_slice_nil w t e ad xs.length cap ht]
theorem Ag[Inhabited α](ht:P.underlying t=some (.slice e))(hsz:∀w,(sizeOf e).run P w=.ok c.size w)(hx:AF l x=some v)(hy:AF l y=some (.int k i))(hs:Bor H c v xs fp)(h:0<=i/\i<xs.length):
  ∃p,AcF H c p (ix xs i) fp/\Exv P n l C ⟨dst,.indexAddr t x y,ty,pos,af,gd⟩ p:=by
 obtain⟨ad,cap,rfl,h1,h2,h3,h4⟩:=hs
 rcases h4 with rfl|⟨b,off,arr,T,fz,pre,cs,rest,rfl,e2,e3,e4,e5⟩
 ·simp at h;omega
 ·obtain⟨a',m,b',f1,f2,f3,_⟩:=Codec.reps_get e5 (CJ h.1 h.2)
  refine⟨.pointer (some ⟨b,off+i.toNat* c.size,none⟩),⟨b,_,arr,T,fz,pre++a',m,b'++rest,rfl,e2,by rw[e3,f1];simp,by simp[e4,f2],f3⟩,fun w _ a ha=>?_⟩
  simp[execOp,Instr.indexAt,ha.eval hx,ha.eval hy,asIntOf,run_underlying ht,h,hsz,Addr.add_lit]
theorem Ad{z:α}(hag:∀w,(isAgg t).run P w=.ok true w)(hsz:∀w,(sizeOf t).run P w=.ok c.size w)(hx:AF l x=some p)(hp:AcF H c p z fp):
  ∃v,(∃cs,v=.agg cs.toArray/\c.rep H cs z)/\∀K L,View.le H K->Exv P n l (St w0 K (fp++L)) ⟨dst,.load t x,ty,pos,af,gd⟩ v:=by
 obtain⟨b,off,arr,T,fz,pre,cs,rest,rfl,e2,e3,e4,e5⟩:=hp
 refine⟨_,⟨cs,rfl,e5⟩,fun K L hle w hw a ha=>?_⟩
 have hb:=RX hw (e2.imp (hle _ _) id)
 have h:(arr.toList.drop off).take c.size=cs:=by
  rw[e3,List.drop_append,List.drop_eq_nil_of_le (by omega),e4,Nat.sub_self,List.nil_append,List.drop_zero,<-c.len e5,List.take_left]
 simp[execOp,Instr.loadAt,Instr.sureAddr,ha.eval hx,loadVar,hag,hsz,Bl hb h (c.len e5)]
theorem Fb(ht:P.underlying t=some (.slice e))(hsz:∀w,(sizeOf e).run P w=.ok c.size w)(hx:AF l x=some v)(hy:AF l y=some (.int k lo))(hs:Bor H c v xs fp)(h:0<=lo/\lo<=xs.length):
  ∃u,Bor H c u (xs.drop lo.toNat) fp/\Exv P n l C ⟨dst,.slice t x (some y) none none,ty,pos,af,gd⟩ u:=by
 obtain⟨ad,cap,rfl,h1,h3,h2⟩:=hs.part (lo:=lo.toNat) (hi:=xs.length) (by omega) (Nat.le_refl _)
 rw[List.take_length] at h2
 refine⟨_,h2,fun w _ a ha=>?_⟩
 have hb:=fun w=>CS (P:=P) (k:=k) (y:=xs.length) (code:=.sliceB) (w:=w) h.1 h.2
 simp[execOp,Instr.sliceAt,Instr.slice,ha.eval hx,ha.eval hy,run_underlying ht,Instr.sliceBounds,hb,hsz]
def Rt{α:Type}(c:Codec α)(fp:Ar):Codec (List α) where
 size:=1
 rep:=fun H cs x=>∃v,cs=[v]/\Bor H c v x fp
 len:=fun⟨v,h,_⟩=>by rw[h];rfl
 mono:=fun hle⟨v,h,h'⟩=>⟨v,h,h'.mono hle⟩
 one:=fun⟨v,h,h'⟩u hu=>by rw[h] at hu;rw[List.mem_singleton.1 hu];exact h'.one
theorem TW{u:Value}(h:(Rt c fp).rep H [u] xs):Bor H c u xs fp:=by obtain⟨v,h,h'⟩:=h;cases h;exact h'
theorem IQ{u:Value}(h:Bor H c u xs fp):(Rt c fp).rep H [u] xs:=⟨u,rfl,h⟩
end
section
variable{P:Program}{ops:Array Oper}{Q:Exit->Act->World->Prop}{n:Nat}{l:List (Nat×Value)}{rest:List Oper}{w0 w:World}{H:View}{L:Ar}{ty:TypeId}{pos:String}{af:Array Edge}
theorem WL.makec{α:Type}{c:Codec α}{d:Nat}{t e:TypeId}{z:Value}{bytes:Nat}{x y:Operand}{m:Int}{z0:α}{kk k2:IntKind}(hdn:Nat.blt d n=true)(ht:P.underlying t=some (.slice e))
  (hi:(P.info? e).map (fun i=>(i.zero,i.size,i.bytes))=some (some z,c.size,bytes))(hz0:c.rep H z.cells.toList z0)(hx:AF l x=some (.int k2 0))(hy:AF l y=some (.int kk m))
  (h0:0<=m)(hb:bytes* m<=281474976710656)(hm:m<=9223372036854775807)(hw:St w0 H L w)
  (k:∀v' w' fp',OwnSl H c e v' [] fp'->St w0 H (fp'++L) w'->WL P ops Q n ((d,v')::l) rest w'):
  WL P ops Q n l (⟨some d,.makeSlice t x y,ty,pos,af,none⟩::rest) w:=by
 obtain⟨i,hI,hz,h3,h2⟩:=info_parts hi
 subst h2
 have hr:=run_make (P:=P) w t e i z ht hI hz k2 kk 0 m (Int.le_refl _) h0 hb hm
 refine WL.turn rfl rfl hdn (fun a ha=>?_) (k _ _ [(w.heap.size,.cells (madeCells z.cells (m.toNat* i.size)) e (0,0))] (.inr ⟨_,m.toNat,_,[],_,rfl,rfl,(List.nil_append _).symm,by rw[size_madeCells,h3],Nat.zero_le _,by unfold maxLen;omega,rfl⟩) (hw.alloc _))
 simp[execOp,ha.eval hx,ha.eval hy,hr]
theorem WL.append0{α:Type}{c:Codec α}{d:Nat}{t tn e:TypeId}{z:Value}{bytes:Nat}{x y:Operand}{m:Int}{z0:α}{kk kn:IntKind}(hdn:Nat.blt d n=true)(ht:P.underlying t=some (.slice e))(htn:P.underlying tn=some (.int kn))
  (hi:(P.info? e).map (fun i=>(i.zero,i.size,i.bytes))=some (some z,c.size,bytes))(hz0:c.rep H z.cells.toList z0)(hs:0<c.size)(hx:AF l x=some (.slice none 0 0))(hy:AF l y=some (.int kk m))
  (h0:0<m)(hb:bytes* m<=281474976710656)(hm:m<=4611686018427387904)(hw:St w0 H L w)
  (k:∀v' w' fp',OwnSl H c e v' (List.replicate m.toNat z0) fp'->St w0 H (fp'++L) w'->WL P ops Q n ((d,v')::l) rest w'):
  WL P ops Q n l (⟨some d,.call {callee:=.builtin .append,args:=#[x,y],argTypes:=#[t,tn]},ty,pos,af,none⟩::rest) w:=by
 obtain⟨i,hI,hz,h3,h2⟩:=info_parts hi
 subst h2
 obtain⟨q,rfl⟩:∃q:Nat,m=q:=⟨m.toNat,by omega⟩
 have hzl:z.cells.size=c.size:=by have:=c.len hz0;simpa using this
 have hr:=Lib.run_append_nil_zeros (P:=P) w t tn ty e i z kk kn ht htn hI hz q (by omega) (by omega) (by omega) (by rw[Nat.mul_comm];omega)
 have he:∀j,Builtin.zeroCells z.cells j=madeCells z.cells (j* c.size):=fun j=>by rw[<-hzl];rfl
 refine WL.turn rfl rfl hdn (fun a ha=>?_) (k _ _ [(w.heap.size,.cells (Builtin.zeroCells z.cells q++Builtin.zeroCells z.cells (grownCap w q 0 e-q)) e (0,0))] (.inr ⟨_,grownCap w q 0 e,_,(Builtin.zeroCells z.cells q).toList,(Builtin.zeroCells z.cells (grownCap w q 0 e-q)).toList,by rw[List.length_replicate,Int.toNat_natCast],rfl,Array.toList_append,?_,?_,?_,?_⟩) (hw.drew.alloc _))
 ·simp[execOp,resolve,invoke,builtin,ha.eval hx,ha.eval hy,hr]
 ·simp only[Array.size_append,size_zeroCells,hzl,<-Nat.add_mul]
  congr 1;have:=grownCap_ge w q 0 e;omega
 ·rw[List.length_replicate,Int.toNat_natCast];exact grownCap_ge w q 0 e
 ·exact grownCap_le_maxLen w q 0 e (by unfold maxLen;omega)
 ·rw[he,Int.toNat_natCast];exact PF hz0 q
theorem UO{C:World->Prop}{dst:Option Tmp}{gd:Option (Nat×Bool)}{t e:TypeId}{x:Operand}(ht:P.underlying t=some (.slice e))(hx:AF l x=some (.slice none 0 0)):
  Exv P n l C ⟨dst,.call {callee:=.builtin .cap,args:=#[x],argTypes:=#[t]},ty,pos,af,gd⟩ (.int .i64 0):=fun w _ a ha=>by
 simp[execOp,resolve,invoke,builtin,Builtin.cap_,ha.eval hx,run_underlying ht,goInt]
theorem Qb{C:World->Prop}{dst:Option Tmp}{gd:Option (Nat×Bool)}{t e:TypeId}{m:Nat}{x y:Operand}{kk:IntKind}(ht:P.underlying t=some (.slice e))(hsz:∀w,(sizeOf e).run P w=.ok m w)(hx:AF l x=some (.slice none 0 0))(hy:AF l y=some (.int kk 0)):
  Exv P n l C ⟨dst,.slice t x none (some y) none,ty,pos,af,gd⟩ (.slice none 0 0):=fun w _ a ha=>by
 have hb:=fun w=>CS (P:=P) (k:=kk) (y:=0) (code:=.sliceAcap) (w:=w) (Int.le_refl 0) (show(0:Int)<=((0:Nat):Int) by omega)
 simp[execOp,Instr.sliceAt,Instr.slice,ha.eval hx,ha.eval hy,run_underlying ht,Instr.sliceBounds,hb,hsz]
end
end Go.Vc
namespace Go.Vc
open Go
theorem BA{f:Fn}{a c:Array Value}:(Value.func f a c).cells=#[.func f a c]:=rfl
abbrev Fg(ι ρ:Type):=ι->(ρ->Prop)->Prop
abbrev WN(ι:Type):=View->Ar->List Value->ι->Prop
def FvA(P:Program)(w0:World){ι ρ:Type}(ar:WN ι)(re:ρ->Value)(H:View)(v:Value)(g:Fg ι ρ):Prop:=
 ∃f caps,v=.func (.func f) #[] (List.toArray caps)/\(∀(args:Array Value)(w:World),(callFunc f args).run P w=.ok (.enter f args) w)/\
  ∀{H':View}{L' fp:Ar}{w':World}{vs:List Value}{x:ι}{Q:ρ->Prop},View.le H H'->ar H' fp vs x->St w0 H' (fp++L') w'->g x Q->Calls P f (vs++caps).toArray w' fun e w''=>∃r,Q r/\e=.returned (re r)/\St w0 H' (fp++L') w''
def FvB(P:Program)(w0:World){ι ρ:Type}(ar:WN ι)(re:View->Value->ρ->Prop)(H:View)(v:Value)(g:Fg ι ρ):Prop:=
 ∃f caps,v=.func (.func f) #[] (List.toArray caps)/\(∀(args:Array Value)(w:World),(callFunc f args).run P w=.ok (.enter f args) w)/\
  ∀{H':View}{L' fp:Ar}{w':World}{vs:List Value}{x:ι}{Q:ρ->Prop},View.le H H'->ar H' fp vs x->St w0 H' (fp++L') w'->g x Q->Calls P f (vs++caps).toArray w' fun e w''=>∃r u H'',Q r/\e=.returned u/\View.le H' H''/\re H'' u r/\St w0 H'' (fp++L') w''
section
variable{P:Program}{w0:World}{ι ρ:Type}{ar:WN ι}{H K:View}{v:Value}{g:Fg ι ρ}
theorem FvA.mono{re:ρ->Value}(h:FvA P w0 ar re H v g)(hle:View.le H K):FvA P w0 ar re K v g:=by
 obtain⟨f,caps,rfl,hb,hF⟩:=h;exact⟨f,caps,rfl,hb,fun k=>hF (View.le.trans hle k)⟩
theorem FvB.mono{re:View->Value->ρ->Prop}(h:FvB P w0 ar re H v g)(hle:View.le H K):FvB P w0 ar re K v g:=by
 obtain⟨f,caps,rfl,hb,hF⟩:=h;exact⟨f,caps,rfl,hb,fun k=>hF (View.le.trans hle k)⟩
theorem FvA.one{re:ρ->Value}(h:FvA P w0 ar re H v g):v.oneCell'=true:=by obtain⟨f,caps,rfl,_⟩:=h;rfl
theorem FvB.one{re:View->Value->ρ->Prop}(h:FvB P w0 ar re H v g):v.oneCell'=true:=by obtain⟨f,caps,rfl,_⟩:=h;rfl
def cA(P:Program)(w0:World)(ar:WN ι)(re:ρ->Value):Codec (Fg ι ρ) where
 size:=1
 rep:=fun H cs g=>∃v,cs=[v]/\FvA P w0 ar re H v g
 len:=fun⟨v,h,_⟩=>by rw[h];rfl
 mono:=fun hle⟨v,h,h'⟩=>⟨v,h,h'.mono hle⟩
 one:=fun⟨v,h,h'⟩u hu=>by rw[h] at hu;rw[List.mem_singleton.1 hu];exact h'.one
def cB(P:Program)(w0:World)(ar:WN ι)(re:View->Value->ρ->Prop):Codec (Fg ι ρ) where
 size:=1
 rep:=fun H cs g=>∃v,cs=[v]/\FvB P w0 ar re H v g
 len:=fun⟨v,h,_⟩=>by rw[h];rfl
 mono:=fun hle⟨v,h,h'⟩=>⟨v,h,h'.mono hle⟩
 one:=fun⟨v,h,h'⟩u hu=>by rw[h] at hu;rw[List.mem_singleton.1 hu];exact h'.one
theorem Aee{re:ρ->Value}(h:(cA P w0 ar re).rep H [v] g):FvA P w0 ar re H v g:=by obtain⟨u,h,h'⟩:=h;cases h;exact h'
theorem Aan{re:View->Value->ρ->Prop}(h:(cB P w0 ar re).rep H [v] g):FvB P w0 ar re H v g:=by obtain⟨u,h,h'⟩:=h;cases h;exact h'
theorem AcH{re:ρ->Value}(h:FvA P w0 ar re H v g):(cA P w0 ar re).rep H [v] g:=⟨v,rfl,h⟩
theorem Mb{re:View->Value->ρ->Prop}(h:FvB P w0 ar re H v g):(cB P w0 ar re).rep H [v] g:=⟨v,rfl,h⟩
theorem St.ptbox{α:Type}{c:Codec α}{b:Nat}{u:Value}{T:TypeId}{L:Ar}{w:World}{z:α}(hS:St w0 H ([(b,.cells #[u] T (0,0))]++L) w)(hr:c.rep H [u] z):
  ∃K,View.le H K/\IsPt K c (.pointer (some ⟨b,0,none⟩)) z/\St w0 K L w:=
 ⟨_,hS.put_le,⟨b,0,#[u],T,(0,0),[],[u],[],rfl,View.put_mem (by simp) (p:=(b,.cells #[u] T (0,0))) (by simp),rfl,rfl,c.mono hS.put_le hr⟩,hS.freeze⟩
end
def Yj:WN (Bool×Bool):=fun _ fp vs x=>fp=[]/\vs=[.bool x.1,.bool x.2]
def OQ:WN (Int×Int):=fun _ fp vs x=>fp=[]/\vs=[.int .i64 x.1,.int .i64 x.2]/\I64 x.1/\I64 x.2
def arV:WN Val:=fun H fp vs x=>fp=[]/\∃u,vs=[.agg #[u]]/\IsW H u x
def arL:WN (List Val):=fun H fp vs x=>fp=[]/\∃u,vs=[u]/\IsSl H cV u x
def Zn:WN (List Val×List Val):=fun H fp vs x=>fp=[]/\∃u v,vs=[u,v]/\IsSl H cV u x.1/\IsSl H cV v x.2
def Yq:WN (List Val×List Val):=fun H fp vs x=>∃u v,vs=[u,v]/\IsSl H cV u x.1/\Bor H cV v x.2 fp
def arA:WN (List Val):=fun H fp vs x=>∃u,vs=[u]/\Bor H cV u x fp
def arS:WN Aa:=fun _ fp vs x=>fp=[]/\vs=[sv x]
def Mg(H:View)(u:Value)(r:Val):Prop:=∃u',u=.agg #[u']/\IsW H u' r
abbrev EA:=Fg (List Val) Val
def OF(P:Program)(w0:World)(H:View)(v:Value):Option EA->Prop
 |none=>v=.nilFunc
 |some g=>FvB P w0 arA Mg H v g
def reO(P:Program)(w0:World)(H:View)(u:Value)(r:Int×Option EA):Prop:=∃u',u=.agg #[.int .i64 r.1,u']/\I64 r.1/\OF P w0 H u' r.2
section
variable{P:Program}{w0:World}{H K:View}{v:Value}
theorem OF.one{o:Option EA}(h:OF P w0 H v o):v.oneCell'=true:=by
 cases o with
 |none=>rw[show v=_ from h];rfl
 |some g=>exact FvB.one h
theorem OF.get{o:Option EA}{g:EA}(h:OF P w0 H v o)(e:o=Option.some g):FvB P w0 arA Mg H v g:=by subst e;exact h
end
def FgS(g:Fg Aa (Int×Option EA))(x:Aa)(Q:Int->Option EA->Prop):Prop:=g x fun r=>Q r.1 r.2
def Hd(V:Aa->(Int->Option EA->Prop)->Prop):Fg Aa (Int×Option EA):=fun x Q=>V x fun a b=>Q (a,b)
theorem Part.rks:Part cR 3 (JR cR) RV.ks:=fun H cs x h=>by
 obtain⟨v,v',rfl,a,b,c,d⟩:=cR_rep.1 h;exact⟨[_,_,_],[v],_,rfl,rfl,v,rfl,c⟩
theorem Part.self{α:Type}{c:Codec α}:Part c 0 c (fun x=>x):=fun H cs x h=>⟨[],cs,[],by simp,rfl,h⟩
def Val.isTrue:Val->Bool|.truth b=>b|_=>false
section
variable{P:Program}{w0:World}{H:View}{f:Nat}{caps:List Value}
theorem FvA.BB{g:Fg (Bool×Bool) Bool}(hb:∀(args:Array Value)(w:World),(callFunc f args).run P w=.ok (.enter f args) w)
  (h:∀{H':View}{L':Ar}{w':World}{x y:Bool}{Q:Bool->Prop},View.le H H'->St w0 H' L' w'->g (x,y) Q->Calls P f (([.bool x,.bool y]:List Value)++caps).toArray w' fun e w''=>∃r,Q r/\e=.returned (.bool r)/\St w0 H' L' w''):FvA P w0 Yj .bool H (.func (.func f) #[] caps.toArray) g:=
 ⟨f,caps,rfl,hb,fun{H' L' fp w' vs x Q}hle⟨e1,e2⟩hS hV=>by subst e1 e2;exact h hle hS hV⟩
theorem FvA.II{g:Fg (Int×Int) Bool}(hb:∀(args:Array Value)(w:World),(callFunc f args).run P w=.ok (.enter f args) w)
  (h:∀{H':View}{L':Ar}{w':World}{x y:Int}{Q:Bool->Prop},View.le H H'->I64 x->I64 y->St w0 H' L' w'->g (x,y) Q->Calls P f (([.int .i64 x,.int .i64 y]:List Value)++caps).toArray w' fun e w''=>∃r,Q r/\e=.returned (.bool r)/\St w0 H' L' w''):FvA P w0 OQ .bool H (.func (.func f) #[] caps.toArray) g:=
 ⟨f,caps,rfl,hb,fun{H' L' fp w' vs x Q}hle⟨e1,e2,i,j⟩hS hV=>by subst e1 e2;exact h hle i j hS hV⟩
theorem FvA.V{g:Fg Val Bool}(hb:∀(args:Array Value)(w:World),(callFunc f args).run P w=.ok (.enter f args) w)
  (h:∀{H':View}{L':Ar}{w':World}{x:Val}{u:Value}{Q:Bool->Prop},View.le H H'->IsW H' u x->St w0 H' L' w'->g x Q->Calls P f (([.agg #[u]]:List Value)++caps).toArray w' fun e w''=>∃r,Q r/\e=.returned (.bool r)/\St w0 H' L' w''):FvA P w0 arV .bool H (.func (.func f) #[] caps.toArray) g:=
 ⟨f,caps,rfl,hb,fun{H' L' fp w' vs x Q}hle⟨e1,u,e2,i⟩hS hV=>by subst e1 e2;exact h hle i hS hV⟩
abbrev Ml(w0:World)(H:View)(L:Ar)(Q:Val->Prop):Ending->World->Prop:=fun e w=>∃r u H'',Q r/\e=.returned (.agg #[u])/\View.le H H''/\IsW H'' u r/\St w0 H'' L w
theorem SB{H:View}{L:Ar}{Q:Val->Prop}{args:Array Value}{w:World}(h:Calls P f args w (Ml w0 H L Q)):Calls P f args w fun e w''=>∃r u H'',Q r/\e=.returned u/\View.le H H''/\Mg H'' u r/\St w0 H'' L w'':=
 h.mono fun e w'⟨r,u,K,a,b,c,d,k⟩=>⟨r,_,K,a,b,c,⟨u,rfl,d⟩,k⟩
theorem Tj{H:View}{L:Ar}{Q:Val->Prop}{args:Array Value}{w:World}(h:Calls P f args w fun e w''=>∃r u H'',Q r/\e=.returned u/\View.le H H''/\Mg H'' u r/\St w0 H'' L w''):Calls P f args w (Ml w0 H L Q):=
 h.mono fun e w'⟨r,u,K,a,b,c,⟨u',hu,d⟩,k⟩=>⟨r,u',K,a,by rw[b,hu],c,d,k⟩
theorem FvB.II{g:Fg (Int×Int) Val}(hb:∀(args:Array Value)(w:World),(callFunc f args).run P w=.ok (.enter f args) w)
  (h:∀{H':View}{L':Ar}{w':World}{x y:Int}{Q:Val->Prop},View.le H H'->I64 x->I64 y->St w0 H' L' w'->g (x,y) Q->Calls P f (([.int .i64 x,.int .i64 y]:List Value)++caps).toArray w' (Ml w0 H' L' Q)):FvB P w0 OQ Mg H (.func (.func f) #[] caps.toArray) g:=
 ⟨f,caps,rfl,hb,fun{H' L' fp w' vs x Q}hle⟨e1,e2,i,j⟩hS hV=>by subst e1 e2;exact SB (h hle i j hS hV)⟩
theorem FvB.L{g:Fg (List Val) Val}(hb:∀(args:Array Value)(w:World),(callFunc f args).run P w=.ok (.enter f args) w)
  (h:∀{H':View}{L':Ar}{w':World}{x:List Val}{u:Value}{Q:Val->Prop},View.le H H'->IsSl H' cV u x->St w0 H' L' w'->g x Q->Calls P f (([u]:List Value)++caps).toArray w' (Ml w0 H' L' Q)):FvB P w0 arL Mg H (.func (.func f) #[] caps.toArray) g:=
 ⟨f,caps,rfl,hb,fun{H' L' fp w' vs x Q}hle⟨e1,u,e2,i⟩hS hV=>by subst e1 e2;exact SB (h hle i hS hV)⟩
theorem FvB.LL{g:Fg (List Val×List Val) Val}(hb:∀(args:Array Value)(w:World),(callFunc f args).run P w=.ok (.enter f args) w)
  (h:∀{H':View}{L':Ar}{w':World}{x y:List Val}{u v:Value}{Q:Val->Prop},View.le H H'->IsSl H' cV u x->IsSl H' cV v y->St w0 H' L' w'->g (x,y) Q->Calls P f (([u,v]:List Value)++caps).toArray w' (Ml w0 H' L' Q)):FvB P w0 Zn Mg H (.func (.func f) #[] caps.toArray) g:=
 ⟨f,caps,rfl,hb,fun{H' L' fp w' vs x Q}hle⟨e1,u,v,e2,i,j⟩hS hV=>by subst e1 e2;exact SB (h hle i j hS hV)⟩
theorem FvB.LA{g:Fg (List Val×List Val) Val}(hb:∀(args:Array Value)(w:World),(callFunc f args).run P w=.ok (.enter f args) w)
  (h:∀{H':View}{L' fp:Ar}{w':World}{x y:List Val}{u v:Value}{Q:Val->Prop},View.le H H'->IsSl H' cV u x->Bor H' cV v y fp->St w0 H' (fp++L') w'->g (x,y) Q->Calls P f (([u,v]:List Value)++caps).toArray w' (Ml w0 H' (fp++L') Q)):FvB P w0 Yq Mg H (.func (.func f) #[] caps.toArray) g:=
 ⟨f,caps,rfl,hb,fun{H' L' fp w' vs x Q}hle⟨u,v,e2,i,j⟩hS hV=>by subst e2;exact SB (h hle i j hS hV)⟩
theorem FvB.A{g:Fg (List Val) Val}(hb:∀(args:Array Value)(w:World),(callFunc f args).run P w=.ok (.enter f args) w)
  (h:∀{H':View}{L' fp:Ar}{w':World}{x:List Val}{u:Value}{Q:Val->Prop},View.le H H'->Bor H' cV u x fp->St w0 H' (fp++L') w'->g x Q->Calls P f (([u]:List Value)++caps).toArray w' (Ml w0 H' (fp++L') Q)):FvB P w0 arA Mg H (.func (.func f) #[] caps.toArray) g:=
 ⟨f,caps,rfl,hb,fun{H' L' fp w' vs x Q}hle⟨u,e2,i⟩hS hV=>by subst e2;exact SB (h hle i hS hV)⟩
abbrev Aeb(P:Program)(w0:World)(H:View)(L:Ar)(Q:Int->Option EA->Prop):Ending->World->Prop:=fun e w=>∃r1 r2 u H'',Q r1 r2/\e=.returned (.agg #[.int .i64 r1,u])/\View.le H H''/\I64 r1/\OF P w0 H'' u r2/\St w0 H'' L w
theorem FvB.S{g:Fg Aa (Int×Option EA)}(hb:∀(args:Array Value)(w:World),(callFunc f args).run P w=.ok (.enter f args) w)
  (h:∀{H':View}{L':Ar}{w':World}{x:Aa}{Q:Int->Option EA->Prop},View.le H H'->St w0 H' L' w'->g x (fun r=>Q r.1 r.2)->Calls P f (([sv x]:List Value)++caps).toArray w' (Aeb P w0 H' L' Q)):FvB P w0 arS (reO P w0) H (.func (.func f) #[] caps.toArray) g:=
 ⟨f,caps,rfl,hb,fun{H' L' fp w' vs x Q}hle⟨e1,e2⟩hS hV=>by
  subst e1 e2
  exact(h (Q:=fun a b=>Q (a,b)) hle hS hV).mono fun e w'⟨r1,r2,u,K,a,b,c,i,d,k⟩=>⟨(r1,r2),_,K,a,b,c,⟨u,rfl,i,d⟩,k⟩⟩
def Jr(P:Program)(v:Value)(vs:List Value)(w:World)(R:Ending->World->Prop):Prop:=
 ∃f caps,v=.func (.func f) #[] (List.toArray caps)/\(∀(args:Array Value)(w:World),(callFunc f args).run P w=.ok (.enter f args) w)/\Calls P f (vs++caps).toArray w R
variable{v:Value}{w:World}{L:Ar}
theorem FvA.cBB{g:Fg (Bool×Bool) Bool}{x y:Bool}{Q:Bool->Prop}(h:FvA P w0 Yj .bool H v g)(hS:St w0 H L w)(hV:g (x,y) Q):Jr P v [.bool x,.bool y] w fun e w''=>∃r,Q r/\e=.returned (.bool r)/\St w0 H L w'':=
 let⟨f,caps,e,hb,hF⟩:=h;⟨f,caps,e,hb,hF (fp:=[]) (View.le.refl _) ⟨rfl,rfl⟩ hS hV⟩
theorem FvA.cII{g:Fg (Int×Int) Bool}{x y:Int}{Q:Bool->Prop}(h:FvA P w0 OQ .bool H v g)(i:I64 x)(j:I64 y)(hS:St w0 H L w)(hV:g (x,y) Q):Jr P v [.int .i64 x,.int .i64 y] w fun e w''=>∃r,Q r/\e=.returned (.bool r)/\St w0 H L w'':=
 let⟨f,caps,e,hb,hF⟩:=h;⟨f,caps,e,hb,hF (fp:=[]) (View.le.refl _) ⟨rfl,rfl,i,j⟩ hS hV⟩
theorem FvA.cV{g:Fg Val Bool}{x:Val}{u:Value}{Q:Bool->Prop}(h:FvA P w0 arV .bool H v g)(i:IsW H u x)(hS:St w0 H L w)(hV:g x Q):Jr P v [.agg #[u]] w fun e w''=>∃r,Q r/\e=.returned (.bool r)/\St w0 H L w'':=
 let⟨f,caps,e,hb,hF⟩:=h;⟨f,caps,e,hb,hF (fp:=[]) (View.le.refl _) ⟨rfl,u,rfl,i⟩ hS hV⟩
theorem FvB.cII{g:Fg (Int×Int) Val}{x y:Int}{Q:Val->Prop}(h:FvB P w0 OQ Mg H v g)(i:I64 x)(j:I64 y)(hS:St w0 H L w)(hV:g (x,y) Q):Jr P v [.int .i64 x,.int .i64 y] w (Ml w0 H L Q):=
 let⟨f,caps,e,hb,hF⟩:=h;⟨f,caps,e,hb,Tj (hF (fp:=[]) (View.le.refl _) ⟨rfl,rfl,i,j⟩ hS hV)⟩
theorem FvB.cL{g:Fg (List Val) Val}{x:List Val}{u:Value}{Q:Val->Prop}(h:FvB P w0 arL Mg H v g)(i:IsSl H cV u x)(hS:St w0 H L w)(hV:g x Q):Jr P v [u] w (Ml w0 H L Q):=
 let⟨f,caps,e,hb,hF⟩:=h;⟨f,caps,e,hb,Tj (hF (fp:=[]) (View.le.refl _) ⟨rfl,u,rfl,i⟩ hS hV)⟩
theorem FvB.cLL{g:Fg (List Val×List Val) Val}{x y:List Val}{u u':Value}{Q:Val->Prop}(h:FvB P w0 Zn Mg H v g)(i:IsSl H cV u x)(j:IsSl H cV u' y)(hS:St w0 H L w)(hV:g (x,y) Q):Jr P v [u,u'] w (Ml w0 H L Q):=
 let⟨f,caps,e,hb,hF⟩:=h;⟨f,caps,e,hb,Tj (hF (fp:=[]) (View.le.refl _) ⟨rfl,u,u',rfl,i,j⟩ hS hV)⟩
theorem FvB.cLA{fp:Ar}{g:Fg (List Val×List Val) Val}{x y:List Val}{u u':Value}{Q:Val->Prop}(h:FvB P w0 Yq Mg H v g)(i:IsSl H cV u x)(j:Bor H cV u' y fp)(hS:St w0 H (fp++L) w)(hV:g (x,y) Q):Jr P v [u,u'] w (Ml w0 H (fp++L) Q):=
 let⟨f,caps,e,hb,hF⟩:=h;⟨f,caps,e,hb,Tj (hF (View.le.refl _) ⟨u,u',rfl,i,j⟩ hS hV)⟩
theorem FvB.cA{fp:Ar}{g:Fg (List Val) Val}{x:List Val}{u:Value}{Q:Val->Prop}(h:FvB P w0 arA Mg H v g)(i:Bor H cV u x fp)(hS:St w0 H (fp++L) w)(hV:g x Q):Jr P v [u] w (Ml w0 H (fp++L) Q):=
 let⟨f,caps,e,hb,hF⟩:=h;⟨f,caps,e,hb,Tj (hF (View.le.refl _) ⟨u,rfl,i⟩ hS hV)⟩
theorem FvB.cS{g:Fg Aa (Int×Option EA)}{x:Aa}{Q:Int->Option EA->Prop}(h:FvB P w0 arS (reO P w0) H v g)(hS:St w0 H L w)(hV:FgS g x Q):Jr P v [sv x] w (Aeb P w0 H L Q):=
 let⟨f,caps,e,hb,hF⟩:=h;⟨f,caps,e,hb,(hF (fp:=[]) (View.le.refl _) ⟨rfl,rfl⟩ hS hV).mono fun e w'⟨r,u,K,a,b,c,⟨u',hu,i,d⟩,k⟩=>⟨r.1,r.2,u',K,a,by rw[b,hu],c,i,d,k⟩⟩
end
section
variable{P:Program}{ops:Array Oper}{Q:Exit->Act->World->Prop}{n:Nat}{l:List (Nat×Value)}{rest:List Oper}{w0 w:World}{H:View}{L:Ar}{C:World->Prop}{dst:Option Tmp}{ty:TypeId}{pos:String}{af:Array Edge}{gd:Option (Nat×Bool)}
theorem Rcv{d:Nat}{v:Value}{fo:Operand}{xs:List Operand}{vs:List Value}{ts:Array TypeId}{R:Ending->World->Prop}(hv:Ii l xs vs)(hc:Jr P v vs w R)(k:∀e w',R e w'->∃v,e=.returned v/\WL P ops Q n ((d,v)::l) rest w')(hf:AF l fo=some v:=by exact rfl)(hdn:Nat.blt d n=true:=by exact rfl):
  WL P ops Q n l (⟨some d,.call {callee:=.value fo,args:=xs.toArray,argTypes:=ts},ty,pos,af,none⟩::rest) w:=by
 obtain⟨f,caps,rfl,hb,hc⟩:=hc
 exact WL.call rfl rfl hdn (As hf hb hv) hc k
theorem Ib(w:World)(d:Nat){t:TypeId}{a b:Array TypeId}{c:Bool}(h:P.underlying t=some (.func a b c)){v:Value}{o:Option EA}(hv:OF P w0 H v o):(Op.equalIn (d+1) t v .nilFunc).run P w=.ok o.isNone w:=by
 cases o with
 |none=>rw[show v=_ from hv];simp[Op.equalIn,run_underlying h]
 |some g=>obtain⟨f,caps,rfl,_⟩:=hv;simp[Op.equalIn,run_underlying h]
theorem FG(w:World){t:TypeId}{a b:Array TypeId}{c:Bool}(h:P.underlying t=some (.func a b c)){v:Value}{o:Option EA}(hv:OF P w0 H v o):(Op.equal t v .nilFunc).run P w=.ok o.isNone w:=Ib w 9999 h hv
theorem XN{t t':TypeId}{x:Operand}{v:Value}{o:Option EA}{a b:Array TypeId}{c:Bool}(ht:P.underlying t=some (.func a b c))(hx:AF l x=some v)(h:OF P w0 H v o):
  Exv P n l C ⟨dst,.binOp .eql t x (.const .nilFunc) t',ty,pos,af,gd⟩ (.bool o.isNone):=by
 have hr:=fun w=>FG w ht h
 refine JJ (u:=v) (v:=.nilFunc) hx rfl (fun w=>?_) fun w=>?_
 ·cases o with
  |none=>rw[show v=_ from h];rfl
  |some g=>obtain⟨f,caps,rfl,_⟩:=h;rfl
 ·cases o with
  |none=>rw[show v=_ from h] at hr ⊢;simp only[binOp];simp[hr]
  |some g=>obtain⟨f,caps,rfl,_⟩:=h;simp only[binOp];simp[hr]
theorem Xz{t t':TypeId}{x:Operand}{v:Value}{o:Option EA}{a b:Array TypeId}{c:Bool}(ht:P.underlying t=some (.func a b c))(hx:AF l x=some v)(h:OF P w0 H v o):
  Exv P n l C ⟨dst,.binOp .neq t x (.const .nilFunc) t',ty,pos,af,gd⟩ (.bool o.isSome):=by
 have hr:=fun w=>FG w ht h
 refine Qs (u:=v) (v:=.nilFunc) hx rfl (fun w=>?_) fun w=>?_
 ·cases o with
  |none=>rw[show v=_ from h];rfl
  |some g=>obtain⟨f,caps,rfl,_⟩:=h;rfl
 ·cases o with
  |none=>rw[show v=_ from h] at hr ⊢;simp only[binOp];simp[hr]
  |some g=>obtain⟨f,caps,rfl,_⟩:=h;simp only[binOp];simp[hr]
end
end Go.Vc
