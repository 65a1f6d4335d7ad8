/- Renumbering a system in the order in which it is met: done twice,it changes nothing the second time. No program. -/
import Derived.WalkKit
import Derived.Test.YteangeffgjolpaaGreatDoorNmUF
set_option linter.unusedSimpArgs false
set_option linter.unusedVariables false
set_option maxHeartbeats 64000000
set_option maxRecDepth 100000
namespace Go.Proofs.YteangeffgjolpaaGreatDoor.Can
abbrev Arc:Type:=Nat×Nat
def alt (a b:Arc):Prop:=a.1<b.1∨(a.1=b.1∧a.2<b.2)
instance (a b:Arc):Decidable (alt a b):=by unfold alt;infer_instance
theorem ZhW {a b c:Arc} (h:alt a b) (k:alt b c):alt a c:=by unfold alt at *;omega
theorem ZdF (a:Arc):¬alt a a:=by unfold alt;omega
theorem ZlX {a b:Arc} (h:¬alt a b) (hne:a≠b):alt b a:=by
 obtain ⟨x,y⟩:=a;obtain ⟨z,w⟩:=b;unfold alt at *;simp only [ne_eq,Prod.mk.injEq] at hne;simp only at h ⊢;omega
def ins (x:Arc):List Arc→List Arc
 | []=>[x]
 | y::l=>if alt x y then x::y::l else if x=y then y::l else y::ins x l
def srt:List Arc→List Arc
 | []=>[]
 | x::l=>ins x (srt l)
abbrev Asc (l:List Arc):Prop:=l.Pairwise alt
theorem mem_ins {x y:Arc}:∀{l:List Arc},y∈ins x l↔y=x∨y∈l
 | []=>by simp [ins]
 | z::l=>by
  unfold ins;split
  ·simp
  ·split
   ·rename_i h;subst h;simp
   ·rw [List.mem_cons,mem_ins (l:=l),List.mem_cons]
    constructor
    ·rintro (h|h|h)
     ·exact .inr (.inl h)
     ·exact .inl h
     ·exact .inr (.inr h)
    ·rintro (h|h|h)
     ·exact .inr (.inl h)
     ·exact .inl h
     ·exact .inr (.inr h)
theorem Zpg {x:Arc}:∀{l:List Arc},Asc l→Asc (ins x l)
 | [],_=>by simp [ins,Asc]
 | z::l,h=>by
  unfold Asc at h;rw [List.pairwise_cons] at h;unfold ins;split
  ·rename_i hx;refine List.pairwise_cons.2 ⟨fun y hy=>?_,List.pairwise_cons.2 h⟩;rcases List.mem_cons.1 hy with rfl|hy
   ·exact hx
   ·exact ZhW hx (h.1 y hy)
  ·split
   ·exact List.pairwise_cons.2 h
   ·rename_i h1 h2;refine List.pairwise_cons.2 ⟨fun y hy=>?_,Zpg h.2⟩;rcases mem_ins.1 hy with rfl|hy
    ·exact ZlX h1 h2
    ·exact h.1 y hy
theorem mem_srt {y:Arc}:∀{l:List Arc},y∈srt l↔y∈l
 | []=>by simp [srt]
 | x::l=>by rw [srt,mem_ins,mem_srt,List.mem_cons]
theorem Zdr:∀(l:List Arc),Asc (srt l)
 | []=>List.Pairwise.nil
 | x::l=>Zpg (Zdr l)
theorem ZlQ:∀{l m:List Arc},Asc l→Asc m→(∀x,x∈l↔x∈m)→l=m
 | [],[],_,_,_=>rfl
 | [],y::m,_,_,h=>absurd ((h y).2 (by simp)) (by simp)
 | x::l,[],_,_,h=>absurd ((h x).1 (by simp)) (by simp)
 | x::l,y::m,hl,hm,h=>by
  unfold Asc at hl hm;rw [List.pairwise_cons] at hl hm;have hxy:x=y:=by
   rcases List.mem_cons.1 ((h x).1 (by simp)) with e|hx
   ·exact e
   ·rcases List.mem_cons.1 ((h y).2 (by simp)) with e|hy
    ·exact e.symm
    ·exact absurd (ZhW (hl.1 y hy) (hm.1 x hx)) (ZdF x)
  subst hxy
  congr 1
  refine ZlQ hl.2 hm.2 fun z=>⟨fun hz=>?_,fun hz=>?_⟩
  ·rcases List.mem_cons.1 ((h z).1 (by simp [hz])) with e|hz'
   ·subst e;exact absurd (hl.1 z hz) (ZdF z)
   ·exact hz'
  ·rcases List.mem_cons.1 ((h z).2 (by simp [hz])) with e|hz'
   ·subst e;exact absurd (hm.1 z hz) (ZdF z)
   ·exact hz'
theorem ZjJ {l:List Arc} (h:Asc l):srt l=l:=ZlQ (Zdr l) h fun _=>mem_srt
theorem Zmh {l m:List Arc} (hm:Asc m) (h:∀x,x∈m↔x∈l):m=srt l:=ZlQ hm (Zdr l) fun x=>(h x).trans mem_srt.symm
theorem Zit {x:Arc}:∀{l:List Arc},(ins x l).length≤l.length+1
 | []=>by simp [ins]
 | z::l=>by
  unfold ins;split
  ·simp
  ·split
   ·simp
   ·have:=Zit (x:=x) (l:=l);simp only [List.length_cons];omega
theorem ZeE:∀(l:List Arc),(srt l).length≤l.length
 | []=>Nat.le_refl _
 | x::l=>by have:=ZeE l;have:=Zit (x:=x) (l:=srt l);simp only [srt,List.length_cons];omega
def meet (old:List Nat) (t:Nat):List Nat:=if t∈old then old else old++[t]
def meets:List Nat→List Arc→List Nat
 | old,[]=>old
 | old,a::l=>meets (meet old a.2) l
def num (old:List Nat) (t:Nat):Nat:=old.idxOf t
theorem ZmI (old:List Nat) (t:Nat):old <+: meet old t:=by
 unfold meet;split
 ·exact List.prefix_rfl
 ·exact List.prefix_append _ _
theorem Zdu:∀(l:List Arc) (old:List Nat),old <+: meets old l
 | [],old=>List.prefix_rfl
 | a::l,old=>(ZmI old a.2).trans (Zdu l _)
theorem mem_meet {old:List Nat} {t x:Nat}:x∈meet old t↔x∈old∨x=t:=by
 unfold meet;split
 ·rename_i h
  constructor
  ·exact .inl
  ·rintro (h'|rfl)
   ·exact h'
   ·exact h
 ·simp
theorem mem_meets {x:Nat}:∀{l:List Arc} {old:List Nat},x∈meets old l↔x∈old∨∃a∈l,a.2=x
 | [],old=>by simp [meets]
 | a::l,old=>by
  rw [meets,mem_meets,mem_meet]
  constructor
  ·rintro ((h|rfl)|⟨b,hb,e⟩)
   ·exact .inl h
   ·exact .inr ⟨a,by simp,rfl⟩
   ·exact .inr ⟨b,by simp [hb],e⟩
  ·rintro (h|⟨b,hb,e⟩)
   ·exact .inl (.inl h)
   ·rcases List.mem_cons.1 hb with rfl|hb
    ·exact .inl (.inr e.symm)
    ·exact .inr ⟨b,hb,e⟩
theorem Znk {old:List Nat} {t:Nat} (h:old.Nodup):(meet old t).Nodup:=by
 unfold meet;split
 ·exact h
 ·rename_i hn;rw [List.nodup_append];exact ⟨h,by simp,fun a ha b hb=>by simp at hb;subst hb;rintro rfl;exact hn ha⟩
theorem ZdR:∀{l:List Arc} {old:List Nat},old.Nodup→(meets old l).Nodup
 | [],_,h=>h
 | a::l,old,h=>ZdR (l:=l) (old:=meet old a.2) (Znk h)
theorem num_pre {old new:List Nat} (h:old <+: new) {t:Nat} (ht:t∈old):num new t=num old t:=by
 obtain ⟨r,rfl⟩:=h;unfold num;rw [List.idxOf_append,if_pos ht]
theorem Zmy {old:List Nat} {t:Nat} (ht:t∈old):num old t<old.length:=List.idxOf_lt_length_of_mem ht
theorem Ziq {old:List Nat} (hn:old.Nodup) {i t:Nat} (h:old[i]?=some t):num old t=i:=by
 have hi:=(List.getElem?_eq_some_iff.1 h);obtain ⟨hlt,e⟩:=hi;subst e;exact hn.idxOf_getElem i hlt
theorem Zhw:∀(l:List Arc) (old new:List Nat),meets old l=new→∀(p:List Arc) (y:Arc) (q:List Arc),l=p++y::q→∀u,old.length≤u→u<num new y.2→∃z∈p,num new z.2=u
 | [],old,new,h,p,y,q,e,u,hu,hlt=>by cases p<;>cases e
 | a::l,old,new,h,[],y,q,e,u,hu,hlt=>by
  obtain ⟨rfl,rfl⟩:a=y∧l=q:=by simpa using e
  exfalso
  have hmem:a.2∈meet old a.2:=mem_meet.2 (.inr rfl);have hp:meet old a.2 <+: new:=by rw [←h];exact Zdu _ _
  have h1:num new a.2=num (meet old a.2) a.2:=num_pre hp hmem;unfold meet at h1;split at h1
  ·rename_i hy;rw [h1] at hlt;have:=Zmy hy;omega
  ·rename_i hy;have:num (old++[a.2]) a.2=old.length:=by
    unfold num;rw [List.idxOf_append,if_neg hy];simp
   omega
 | a::l,old,new,h,b::p,y,q,e,u,hu,hlt=>by
  cases e;by_cases hu2:(meet old a.2).length≤u
  ·obtain ⟨z,hz,e⟩:=Zhw (p++y::q) (meet old a.2) new h p y q rfl u hu2 hlt;exact ⟨z,by simp [hz],e⟩
  ·refine ⟨a,by simp,?_⟩
   have hmem:a.2∈meet old a.2:=mem_meet.2 (.inr rfl);have hp:meet old a.2 <+: new:=by rw [←h];exact Zdu _ _
   rw [num_pre hp hmem];unfold meet at hu2 ⊢;split
   ·rename_i hy;rw [if_pos hy] at hu2;omega
   ·rename_i hy;rw [if_neg hy] at hu2;simp at hu2;unfold num;rw [List.idxOf_append,if_neg hy];simp;omega
def ren (new:List Nat) (l:List Arc):List Arc:=l.map fun a=>(a.1,num new a.2)
def RowOk (k:Nat) (l:List Arc):Prop:=∀(p:List Arc) (y:Arc) (q:List Arc),l=p++y::q→∀u,k≤u→u<y.2→∃z∈p,z.2=u
theorem ZjP {old:List Nat} {l:List Arc} (hl:Asc l):RowOk old.length (srt (ren (meets old l) l)):=by
 intro p y q e u hu hlt;have hy:y∈ren (meets old l) l:=mem_srt.1 (by rw [e];simp)
 obtain ⟨y0,hy0,rfl⟩:=List.mem_map.1 hy;obtain ⟨p0,q0,e0⟩:=List.append_of_mem hy0;obtain ⟨z,hz,ez⟩:=Zhw l old _ rfl p0 y0 q0 e0 u hu hlt;have hz':(z.1,num (meets old l) z.2)∈srt (ren (meets old l) l):=mem_srt.2 (List.mem_map.2 ⟨z,by rw [e0];simp [hz],rfl⟩)
 have hle:z.1≤y0.1:=by
  rw [e0] at hl;have:=(List.pairwise_append.1 hl).2.2 z hz y0 (by simp)
  unfold alt at this;omega
 rw [e] at hz';have hasc:=Zdr (ren (meets old l) l);rw [e] at hasc;refine ⟨(z.1,num (meets old l) z.2),?_,ez⟩;rcases List.mem_append.1 hz' with h|h
 ·exact h
 ·exfalso
  have hlt2:alt (z.1,num (meets old l) z.2) (y0.1,num (meets old l) y0.2):=by
   unfold alt;simp only [ez];simp only at hlt;omega
  rcases List.mem_cons.1 h with h|h
  ·rw [h] at hlt2;exact ZdF _ hlt2
  ·have:=(List.pairwise_cons.1 (List.pairwise_append.1 hasc).2.1).1 _ h;exact ZdF _ (ZhW hlt2 this)
theorem Zi6:∀(l:List Arc) (k:Nat),RowOk k l→∃m,k≤m∧meets (List.range k) l=List.range m∧(∀a∈l,a.2<m)
 | [],k,_=>⟨k,Nat.le_refl _,rfl,by simp⟩
 | a::l,k,h=>by
  have ha:a.2≤k:=by
   rcases Nat.lt_or_ge k a.2 with hlt|hge
   ·obtain ⟨z,hz,_⟩:=h [] a l rfl k (Nat.le_refl _) hlt;cases hz
   ·exact hge
  have step:∃k',k≤k'∧meet (List.range k) a.2=List.range k'∧a.2<k'∧k'≤max k (a.2+1):=by
   unfold meet;by_cases hk:a.2<k
   ·rw [if_pos (by simpa using hk)]
    exact ⟨k,Nat.le_refl _,rfl,hk,by omega⟩
   ·rw [if_neg (by simpa using hk)]
    have:a.2=k:=by omega
    exact ⟨k+1,by omega,by rw [this,List.range_succ],by omega,by omega⟩
  obtain ⟨k',h1,h2,h3,h4⟩:=step;have hok:RowOk k' l:=by
   intro p y q e u hu hlt;obtain ⟨z,hz,ez⟩:=h (a::p) y q (by rw [e];rfl) u (by omega) hlt
   rcases List.mem_cons.1 hz with rfl|hz
   ·omega
   ·exact ⟨z,hz,ez⟩
  obtain ⟨m,h5,h6,h7⟩:=Zi6 l k' hok;exact ⟨m,by omega,by rw [meets,h2,h6],fun b hb=>by
   rcases List.mem_cons.1 hb with rfl|hb
   ·omega
   ·exact h7 b hb⟩
theorem Zom {m t:Nat} (h:t<m):num (List.range m) t=t:=by
 refine Ziq List.nodup_range ?_;rw [List.getElem?_range h]
theorem Zob {m:Nat} {l:List Arc} (h:∀a∈l,a.2<m):ren (List.range m) l=l:=by
 unfold ren;refine (List.map_congr_left fun a ha=>?_).trans (List.map_id l);rw [Zom (h a ha)];rfl
def round (l:List (List Arc)) (st:List Nat×List (List Arc)):List Nat×List (List Arc):=
 match st.1[st.2.length]? with
 | none=>st
 | some o=>let row:=srt (l.getD o []);let old:=meets st.1 row;(old,st.2++[srt (ren old row)])
def rounds (l:List (List Arc)):Nat→List Nat×List (List Arc)
 | 0=>([0],[])
 | k+1=>round l (rounds l k)
structure Inv (l:List (List Arc)) (st:List Nat×List (List Arc)):Prop where
 nodup:st.1.Nodup
 zero:st.1[0]?=some 0
 done:st.2.length≤st.1.length
 rows:∀(s o:Nat) (r:List Arc),st.1[s]?=some o→st.2[s]?=some r→r=srt (ren st.1 (srt (l.getD o [])))∧∀a∈srt (l.getD o []),a.2∈st.1
theorem Zoc {old new:List Nat} (h:old <+: new) {l:List Arc} (hl:∀a∈l,a.2∈old):ren new l=ren old l:=
 List.map_congr_left fun a ha=>by rw [num_pre h (hl a ha)]
theorem Inv.round {l:List (List Arc)} {st:List Nat×List (List Arc)} (h:Inv l st):Inv l (round l st):=by
 unfold Can.round;split
 ·exact h
 ·rename_i o ho;have hp:=Zdu (srt (l.getD o [])) st.1;have hlt:=(List.getElem?_eq_some_iff.1 ho).1;obtain ⟨e,he⟩:=hp;refine ⟨ZdR h.nodup,?_,?_,?_⟩
  ·show (meets st.1 (srt (l.getD o [])))[0]?=some 0;rw [←he,List.getElem?_append_left (by omega)];exact h.zero
  ·show (st.2++[_]).length≤(meets st.1 _).length;rw [←he];simp;omega
  ·intro s o' r hs hr;simp only at hs hr ⊢;by_cases hk:s<st.2.length
   ·rw [List.getElem?_append_left hk] at hr;have hs':st.1[s]?=some o':=by
     rw [←he,List.getElem?_append_left (by omega)] at hs;exact hs
    obtain ⟨h1,h2⟩:=h.rows s o' r hs' hr;refine ⟨by rw [h1,←he,Zoc (List.prefix_append st.1 e) h2],fun a ha=>by rw [←he];simp [h2 a ha]⟩
   ·have hr1:=(List.getElem?_eq_some_iff.1 hr).1;simp at hr1;have:s=st.2.length:=by omega
    subst this;rw [List.getElem?_append_right (Nat.le_refl _),Nat.sub_self] at hr;simp at hr;have hs':o'=o:=by
     rw [←he,List.getElem?_append_left hlt] at hs;rw [ho] at hs;exact (Option.some.inj hs).symm
    subst hs';exact ⟨hr.symm,fun a ha=>mem_meets.2 (.inr ⟨a,ha,rfl⟩)⟩
theorem Inv.rounds (l:List (List Arc)):∀k,Inv l (rounds l k)
 | 0=>⟨by simp [Can.rounds],by simp [Can.rounds],by simp [Can.rounds],fun s o r hs hr=>by simp [Can.rounds] at hr⟩
 | k+1=>(Inv.rounds l k).round
theorem ZdN {l:List (List Arc)}:∀k,(rounds l k).2.length≤k
 | 0=>by simp [rounds]
 | k+1=>by
  have:=ZdN (l:=l) k;unfold rounds round;split
  ·omega
  ·simp;omega
theorem Zsb (l:List (List Arc)):∀k,(rounds l k).2.length=k→∃m,(rounds l k).1.length=m∧∀a,(rounds l k).2 <+: a→rounds a k=(List.range m,(rounds l k).2)
 | 0,_=>⟨1,rfl,fun a _=>rfl⟩
 | k+1,hk=>by
  have hstep:(rounds l (k+1))=round l (rounds l k):=rfl;have hle:=ZdN (l:=l) k;cases ho:(rounds l k).1[(rounds l k).2.length]? with
  | none=>
   exfalso
   have:rounds l (k+1)=rounds l k:=by rw [hstep];unfold round;rw [ho]
   rw [this] at hk;omega
  | some o=>
   have hr:rounds l (k+1)=(meets (rounds l k).1 (srt (l.getD o [])),(rounds l k).2++[srt (ren (meets (rounds l k).1 (srt (l.getD o []))) (srt (l.getD o [])))]):=by
    rw [hstep];unfold round;rw [ho]
   rw [hr] at hk;simp at hk;obtain ⟨m,h1,h2⟩:=Zsb l k hk;have hok:=ZjP (old:=(rounds l k).1) (Zdr (l.getD o []));rw [h1] at hok;obtain ⟨m',h3,h4,h5⟩:=Zi6 _ _ hok;refine ⟨_,rfl,fun a ha=>?_⟩;rw [hr] at ha ⊢;simp only at ha ⊢;have ha':(rounds l k).2 <+: a:=(List.prefix_append _ _).trans ha;have hk2:=h2 a ha';have hm:k<m:=by
    have:=(List.getElem?_eq_some_iff.1 ho).1;omega
   have hrow:a.getD k []=srt (ren (meets (rounds l k).1 (srt (l.getD o []))) (srt (l.getD o []))):=by
    obtain ⟨e,rfl⟩:=ha;rw [List.getD_eq_getElem?_getD,List.append_assoc,List.getElem?_append_right (by omega)]
    simp [hk]
   have hrange:(List.range m)[k]?=some k:=List.getElem?_range hm;have hsame:srt (a.getD k [])=a.getD k []:=by rw [hrow];exact ZjJ (Zdr _)
   have hmm:m'=(meets (rounds l k).1 (srt (l.getD o []))).length:=by
    have key:∀u,u<m'↔u<(meets (rounds l k).1 (srt (l.getD o []))).length:=by
     intro u;have e1:u<m'↔u∈meets (List.range m) (srt (ren (meets (rounds l k).1 (srt (l.getD o []))) (srt (l.getD o [])))):=by rw [h4,List.mem_range]
     rw [e1,mem_meets,List.mem_range];have hp:=Zdu (srt (l.getD o [])) (rounds l k).1
     constructor
     ·rintro (h|⟨b,hb,rfl⟩)
      ·have:=hp.length_le;omega
      ·obtain ⟨c,hc,rfl⟩:=List.mem_map.1 (mem_srt.1 hb);exact Zmy (mem_meets.2 (.inr ⟨c,hc,rfl⟩))
     ·intro hu;by_cases hum:u<m
      ·exact .inl hum
      ·right
       have hmem:=List.getElem_mem hu;have hnum:num (meets (rounds l k).1 (srt (l.getD o []))) (meets (rounds l k).1 (srt (l.getD o [])))[u]=u:=
        Ziq (ZdR (Inv.rounds l k).nodup) (List.getElem?_eq_getElem hu)
       rcases mem_meets.1 hmem with h|⟨b,hb,e⟩
       ·rw [num_pre hp h] at hnum;have:=Zmy h;omega
       ·exact ⟨(b.1,u),mem_srt.2 (List.mem_map.2 ⟨b,hb,by rw [e,hnum]⟩),rfl⟩
    have h6:=key m';have h7:=key (meets (rounds l k).1 (srt (l.getD o []))).length;omega
   show round a (rounds a k)=_;rw [hk2];unfold round;simp only [hk,hrange,hsame];rw [hrow,h4,Zob h5,ZjJ (Zdr _),hmm]
end Go.Proofs.YteangeffgjolpaaGreatDoor.Can
namespace Go.Proofs.YteangeffgjolpaaGreatDoor.U
open Abs
section
variable {P:Program} {K:Tbl} {G n:Nat} {ops:Array Oper} {r:Regs} {σ:AS} {l:List Oper}
theorem Zmb {sj X:List Nat} {Q:Regs→AS→Prop} {k0:Nat} {d:Nat} {f:Operand} {args:Array Operand} {ts:Array TypeId} {ty:TypeId} {pos:String} {aft:Array Edge} {fid:FuncId} {vs:List Value} {gd:Option (Nat×Bool)}
  (hf:aev G r f=some (.func (.func fid) #[] #[])) (hw:aWanted ops r ⟨some d,.call ⟨.value f,args,ts⟩,ty,pos,aft,gd⟩=true) (hv:aevs G r args.toList=some vs) (hd:d<n) (hm:memb sj k0=false)
  (h:C P K G fid vs σ.reset fun v s1=>σ.next≤s1.low∧Lg P K G n ops sj X (k0+1) l (rput r d v) (σ.merge s1) Q) :
  Lg P K G n ops sj X k0 (⟨some d,.call ⟨.value f,args,ts⟩,ty,pos,aft,gd⟩::l) r σ Q:=by
 refine ⟨fun _=>ZiQ (first:=#[]) (captured:=#[]) hf hv ?_,fun h=>by rw [hw] at h;cases h⟩
 have e:(#[]:Array Value).toList++vs++(#[]:Array Value).toList=vs:=by simp
 rw [e];exact h.mono fun v s1 ⟨h1,h2⟩=>⟨⟨.inl h1,fun h=>by rw [hm] at h;cases h⟩,_,by simp only [aPut,Zab];rw [if_pos (by rw [Nat.blt_eq];exact hd)],h2⟩
end
theorem Zm2 (a b:Arc):cmpA a b<0↔Can.alt a b:=by
 obtain ⟨x,y⟩:=a;obtain ⟨z,w⟩:=b;unfold cmpA Can.alt;simp only [orI,cmpI];by_cases h1:(x:Int)<z
 ·simp [h1];omega
 ·by_cases h2:(z:Int)<x
  ·simp [h1,h2];omega
  ·have:x=z:=by omega
   subst this;by_cases h3:(y:Int)<w
   ·simp [h3];omega
   ·by_cases h4:(w:Int)<y
    ·simp [h3,h4];omega
    ·simp [h3,h4];omega
def leA (a b:Arc):Prop:=¬Can.alt b a
theorem ZoA {a b c:Arc} (h:leA a b) (k:leA b c):leA a c:=by
 unfold leA Can.alt at *;omega
theorem Zns {a b:Arc} (h:Can.alt a b):leA a b:=by
 unfold leA Can.alt at *;omega
theorem ZnW {l:List Arc} {i j:Nat} {a b:Arc} (ha:l[i]?=some a) (hb:l[j]?=some b) (x:Arc):x∈(l.set i b).set j a↔x∈l:=by
 obtain ⟨hi,ha2⟩:=zE.1 ha;obtain ⟨hj,hb2⟩:=zE.1 hb
 constructor
 ·intro h;rcases List.mem_or_eq_of_mem_set h with h|rfl
  ·rcases List.mem_or_eq_of_mem_set h with h|rfl
   ·exact h
   ·exact zF hb
  ·exact zF ha
 ·intro h;obtain ⟨k,hk⟩:=List.mem_iff_getElem?.1 h;have hkl:=(zE.1 hk).1;by_cases e1:k=i
  ·subst e1;rw [ha] at hk;cases hk;exact zF (i:=j) (List.getElem?_set_self (by rw [List.length_set];exact hj))
  ·by_cases e2:k=j
   ·subst e2;rw [hb] at hk;cases hk;refine zF (i:=i) ?_;rw [List.getElem?_set_ne e1,List.getElem?_set_self hi]
   ·refine zF (i:=k) ?_;rw [List.getElem?_set_ne (fun e=>e2 e.symm),List.getElem?_set_ne (fun e=>e1 e.symm)];exact hk
def Near (l:List Arc) (n j:Nat):Prop:=∀p q a b,p<q→q<n→q≠j→l[p]?=some a→l[q]?=some b→leA a b
def Ord (l:List Arc) (n:Nat):Prop:=∀p q a b,p<q→q<n→l[p]?=some a→l[q]?=some b→leA a b
theorem Near.of_ord {l:List Arc} {i:Nat} (h:Ord l i):Near l (i+1) i:=fun p q a b hpq hq hne ha hb=>h p q a b hpq (by omega) ha hb
theorem Near.zero {l:List Arc} {n:Nat} (h:Near l n 0):Ord l n:=fun p q a b hpq hq ha hb=>h p q a b hpq hq (by omega) ha hb
theorem Near.stop {l:List Arc} {n j:Nat} {x y:Arc} (h:Near l n j) (hj:0<j) (hx:l[j]?=some x) (hy:l[j-1]?=some y) (hle:leA y x):Ord l n:=by
 intro p q a b hpq hq ha hb;by_cases e:q=j
 ·subst e;rw [hx] at hb;cases hb;by_cases e2:p=q-1
  ·subst e2;rw [hy] at ha;cases ha;exact hle
  ·exact ZoA (h p (q-1) a y (by omega) (by omega) (by omega) ha hy) hle
 ·exact h p q a b hpq hq e ha hb
theorem Near.swap {l:List Arc} {n j:Nat} {x y:Arc} (h:Near l n j) (hj:0<j) (hjn:j<n) (hx:l[j]?=some x) (hy:l[j-1]?=some y) (hlt:Can.alt x y):Near ((l.set j y).set (j-1) x) n (j-1):=by
 obtain ⟨hjl,-⟩:=zE.1 hx;have get:∀k,((l.set j y).set (j-1) x)[k]?=if k=j-1 then some x else if k=j then some y else l[k]?:=fun k=>by
  by_cases e1:k=j-1
  ·rw [if_pos e1,e1,List.getElem?_set_self (by rw [List.length_set];omega)]
  ·rw [if_neg e1,List.getElem?_set_ne (fun e=>e1 e.symm)];by_cases e2:k=j
   ·rw [if_pos e2,e2,List.getElem?_set_self hjl]
   ·rw [if_neg e2,List.getElem?_set_ne (fun e=>e2 e.symm)]
 intro p q a b hpq hq hne ha hb;rw [get] at ha hb;rw [if_neg hne] at hb;by_cases eq:q=j
 ·rw [if_pos eq] at hb;cases hb;by_cases ep:p=j-1
  ·rw [if_pos ep] at ha;cases ha;exact Zns hlt
  ·rw [if_neg ep,if_neg (by omega)] at ha
   exact h p (j-1) a y (by omega) (by omega) (by omega) ha hy
 ·rw [if_neg eq] at hb;by_cases ep:p=j-1
  ·rw [if_pos ep] at ha;cases ha;exact h j q x b (by omega) hq eq hx hb
  ·by_cases ep2:p=j
   ·rw [if_neg ep,if_pos ep2] at ha;cases ha;exact h (j-1) q y b (by omega) hq eq hy hb
   ·rw [if_neg ep,if_neg ep2] at ha;exact h p q a b hpq hq eq ha hb
structure Srt (lo:Nat) (σ σ':AS) (v:Value) (l l':List Arc):Prop where
 al:AL lo σ' v l'
 len:l'.length=l.length
 mem:∀x,x∈l'↔x∈l
 nxt:σ.next≤σ'.next
 get:∀i,i<σ.next→¬Own v i→σ'.get i=σ.get i
 low:∀q,q≤lo→q≤σ.low→q≤σ'.low
theorem Srt.refl {lo:Nat} {σ:AS} {v:Value} {l:List Arc} (h:AL lo σ v l):Srt lo σ σ v l l:=⟨h,rfl,fun _=>Iff.rfl,zA _,fun _ _ _=>rfl,fun _ _ h=>h⟩
theorem Srt.ext {lo:Nat} {σ σ1 σ2:AS} {v:Value} {l l1:List Arc} (h:Srt lo σ σ1 v l l1) (hlo:lo≤σ.next) (e:Ext σ1 σ2):Srt lo σ σ2 v l l1:=
 ⟨h.al.ext e,h.len,h.mem,zB h.nxt e.nxt,fun i hi ho=>(e.get i (zC hi h.nxt)).trans (h.get i hi ho),fun q h1 h2=>e.low q (h.low q h1 h2) (zB h1 (zB hlo h.nxt))⟩
theorem Zlq {lo:Nat} {σ:AS} {v:Value} {l:List Arc} (h:AL lo σ v l) (hlo:lo≤σ.next) (hl:l≠[]) (hn:l.length≤1000):C Tryz.prog KA 0 95 [v,.int .i64 0,.int .i64 (l.length:Int),.func (.func 26) #[] #[]] σ fun _ σ'=>∃l',Srt lo σ σ' v l l'∧Ord l' l.length:=by
 have hpos:=List.length_pos_iff.2 hl;refine C_of (ka rfl rfl) Tryz.func95 rfl (zD rfl) ?_;show W _ _ _ 53 _ _ _ _;unfold Tryz.f95;dsimp only;have w01:IntKind.i64.wrap (0+1)=((1:Nat):Int):=by rw [Zas _ (by omega) (by omega)];rfl
 repeat apply Zaa
 apply Zad;intro _;simp +decide only [zq,ZaI,↓Zab,↓reduceIte,aOp,Zah,w01,aBin,ZaB,Zam];rfl;refine Zao ?_;repeat apply Zaa
 refine Zdc (fun (p:Nat×List Arc) r s=>1≤p.1∧p.1≤l.length∧Srt lo σ s v l p.2∧Ord p.2 p.1∧rget r 0=v∧rget r 1=.int .i64 0∧rget r 2=.int .i64 (l.length:Int)∧rget r 3=.func (.func 26) #[] #[]∧rget r 8=.int .i64 (p.1:Int)) (fun p=>l.length-p.1) ?_ (1,l) ?_;rotate_left
 ·refine ⟨zA _,hpos,Srt.refl h,fun p q a b h1 h2=>absurd h1 (by omega),?_,?_,?_,?_,?_⟩<;>simp +decide only [zq]<;>first|exact True.intro|rfl
 rintro ⟨i,l1⟩ r σ1 ⟨hi1,hi,S1,O1,h0,h1,h2,h3,h8⟩;dsimp only at hi1 hi S1 O1 h8;by_cases hlt:i<l.length;rotate_left
 ·have d1:decide ((i:Int)<(l.length:Int))=false:=zI (by omega)
  obtain rfl:i=l.length:=by omega
  repeat apply Zaa
  apply Zad;intro _;simp +decide only [zq,↓Zab,↓reduceIte,aOp,Zah,h2,h8,d1,aBin,ZaB,Zam];rfl;repeat apply Zaa
  refine ZaC (by simp +decide only [zq]) ?_
  refine ZaA ⟨fun h=>(nomatch h),fun _=>?_,fun h1 h2=>absurd rfl h2⟩;refine Zap ⟨zH _,[],rfl,l1,S1,O1⟩
 have d1:decide ((i:Int)<(l.length:Int))=true:=zM (by omega)
 repeat apply Zaa
 apply Zad;intro _;simp +decide only [zq,↓Zab,↓reduceIte,aOp,Zah,h2,h8,d1,aBin,ZaB,Zam];rfl;repeat apply Zaa
 refine ZaQ (by simp +decide only [zq]) ?_
 apply Zak;refine ZaM ?_;repeat apply Zaa
 apply Zad;intro _;simp +decide only [zq,↓Zab,↓reduceIte,aOp,h8];rfl;refine Zao ?_;repeat apply Zaa
 refine Zdc (fun (p:Nat×List Arc) r s=>p.1≤i∧Srt lo σ s v l p.2∧Near p.2 (i+1) p.1∧rget r 0=v∧rget r 1=.int .i64 0∧rget r 2=.int .i64 (l.length:Int)∧rget r 3=.func (.func 26) #[] #[]∧rget r 8=.int .i64 (i:Int)∧rget r 9=.int .i64 (p.1:Int)) (fun p=>p.1) ?_ (i,l1) ?_;rotate_left
 ·refine ⟨zA _,S1,Near.of_ord O1,?_,?_,?_,?_,?_,?_⟩<;>simp +decide only [zq,h0,h1,h2,h3,h8]
 clear h0 h1 h2 h3 h8 S1 O1;rintro ⟨j,l2⟩ r σ2 ⟨hj,S2,N2,h0,h1,h2,h3,h8,h9⟩;dsimp only at hj S2 N2 h9;have hl2:l2≠[]:=fun e=>by have:=S2.len;rw [e] at this;simp at this;omega
 obtain ⟨b,c,hv,hb1,hb2,hbk,hbe,hix,hld,hst⟩:=S2.al.at hl2;have hlen2:=S2.len;by_cases hj0:0<j;rotate_left
 ·have d2:decide ((j:Int)>0)=false:=zI (by omega)
  obtain rfl:j=0:=by omega
  repeat apply Zaa
  refine Za8 [] [] (by kernel_rfl) (by kernel_rfl) ?_
  apply ZaO;intro _;simp +decide only [zq,zr,aQ,↓Zab,↓reduceIte,aOp,Zah,ZaH,h1,h9,ZaH,aBin,ZaB,Zam];rfl;have e3:Ext σ2 (σ2.merge σ2.reset):=(Ext.refl _).merge (σ:=σ2);generalize σ2.merge σ2.reset=σ3 at e3;repeat apply Zaa
  refine ZaC (by simp +decide only [zq]) ?_
  refine ZaA ⟨fun h=>(nomatch h),fun _=>?_,fun h1 h2=>absurd rfl h2⟩;refine Zap ⟨fun _=>?_,fun h=>absurd rfl h⟩;refine Zao ?_;have w6:IntKind.i64.wrap ((i:Int)+1)=((i+1:Nat):Int):=by rw [Zas _ (by omega) (by omega)];omega
  repeat apply Zaa
  apply Zad;intro _;simp +decide only [zq,↓Zab,↓reduceIte,aOp,Zah,h8,w6,aBin,ZaB,Zam];rfl;refine Zap ⟨fun _=>⟨(i+1,l2),?_,?_⟩,fun h=>(nomatch h),fun h=>absurd rfl h⟩
  ·show l.length-(i+1)<l.length-i;omega
  ·refine ⟨by show 1≤i+1;omega,by show i+1≤_;omega,S2.ext hlo e3,N2.zero,?_,?_,?_,?_,?_⟩<;>simp +decide only [zq,h0,h1,h2,h3]
 have d2:decide ((j:Int)>0)=true:=zM (by omega)
 have w7:IntKind.i64.wrap ((j:Int)-1)=((j-1:Nat):Int):=by rw [Zas _ (by omega) (by omega)];omega
 obtain ⟨x,hx⟩:∃x,l2[j]?=some x:=⟨l2[j]'(by omega),by simp [show j<l2.length by omega]⟩
 obtain ⟨y,hy⟩:∃y,l2[j-1]?=some y:=⟨l2[j-1]'(by omega),by simp [show j-1<l2.length by omega]⟩
 have ix:=hix j (by omega)
 have iy:=hix (j-1) (by omega)
 have lx:=hld j x hx σ2.reset rfl;have ly:=hld (j-1) y hy σ2.reset rfl;repeat apply Zaa
 refine Za8 [] [] (by kernel_rfl) (by kernel_rfl) ?_
 apply Zau 14;intro _;simp +decide only [zq,zr,List.take,aQ,↓Zab,↓reduceIte,aOp,Zah,Zae,Zag,beq_self_eq_true,h0,h1,h3,h9,d2,w7,ix,iy,lx,ly,aBin,ZaB,Zam];rfl;dsimp only [List.drop,List.take,List.length];have e3:Ext σ2 (σ2.merge σ2.reset):=(Ext.refl _).merge (σ:=σ2);generalize σ2.merge σ2.reset=σ3 at e3;refine Zmb (fid:=26) (vs:=[vArc x,vArc y]) (by simp +decide only [zq]) (by simp +decide only [zq]) (by simp +decide only [zq,aevs]) (by decide) rfl (C.mono (cmpE_c x y) ?_)
 rintro w s1 ⟨rfl,e4⟩;refine ⟨e4.quiet,?_⟩;have e5:=e3.trans e4.merge;generalize σ3.merge s1=σ4 at e5;apply ZaO;intro _;simp +decide only [zq,zr,aQ,↓Zab,↓reduceIte,aOp,Zah,ZaH,beq_self_eq_true,ZaH,aBin,ZaB,Zam];rfl;have e5:=e5.trans ((Ext.refl _).merge (σ:=σ4));generalize σ4.merge σ4.reset=σ5 at e5;have S5:=S2.ext hlo e5;have hneg:=Zm2 x y;generalize cmpA x y=cxy at hneg;by_cases hxy:cxy<0;rotate_left
 ·have d3:decide (cxy<0)=false:=zI hxy;simp only [d3];repeat apply Zaa
  refine ZaC (by simp +decide only [zq]) ?_
  refine ZaA ⟨fun h=>(nomatch h),fun _=>?_,fun h1 h2=>absurd rfl h2⟩;refine Zap ⟨fun _=>?_,fun h=>absurd rfl h⟩;refine Zao ?_;have w6:IntKind.i64.wrap ((i:Int)+1)=((i+1:Nat):Int):=by rw [Zas _ (by omega) (by omega)];omega
  repeat apply Zaa
  apply Zad;intro _;simp +decide only [zq,↓Zab,↓reduceIte,aOp,Zah,h8,w6,aBin,ZaB,Zam];rfl;refine Zap ⟨fun _=>⟨(i+1,l2),?_,?_⟩,fun h=>(nomatch h),fun h=>absurd rfl h⟩
  ·show l.length-(i+1)<l.length-i;omega
  ·refine ⟨by show 1≤i+1;omega,by show i+1≤_;omega,S5,N2.stop hj0 hx hy (fun h=>hxy (hneg.2 h)),?_,?_,?_,?_,?_⟩<;>simp +decide only [zq,h0,h1,h2,h3]
 have d3:decide (cxy<0)=true:=zM hxy;have halt:=hneg.1 hxy;simp only [d3];repeat apply Zaa
 refine ZaQ (by simp +decide only [zq]) ?_
 apply Zak;refine ZaM ?_;clear hix hld hst ix iy lx ly;obtain ⟨b',c',hv',hb1,hb2,hbk,hbe,hix,hld,hst⟩:=S5.al.at hl2;have ix:=hix j (by omega)
 have iy:=hix (j-1) (by omega)
 have lx:=hld j x hx σ5.reset rfl;have ly:=hld (j-1) y hy σ5.reset rfl;refine Zao ?_;repeat apply Zaa
 refine Za8 [] [] (by kernel_rfl) (by kernel_rfl) ?_
 apply Zau 15;intro _;simp +decide only [zq,zr,List.take,aQ,↓Zab,↓reduceIte,aOp,Zah,Zae,Zag,h0,h9,w7,ix,iy,lx,ly,aBin,ZaB,Zam];rfl;dsimp only [List.drop,List.take,List.length];have S6:=S5.ext hlo ((Ext.refl _).merge (σ:=σ5));have hg6:(σ5.merge σ5.reset).get b'=σ5.get b':=rfl;have hn6:(σ5.merge σ5.reset).next=σ5.next:=rfl;generalize σ5.merge σ5.reset=σ6 at S6 hg6 hn6;obtain ⟨B,hBk,hBe,hBs,hBo⟩:=hst j y (by omega)
 refine ZnN (v:=undef) (s1:=σ6.reset.put b' B) (by intro callf;have:=hBs σ6.reset hg6;simp +decide only [zq,↓reduceIte,aOp,ZaE,unn,this]) (by kernel_rfl) ?_
 have O7:AL lo (σ6.merge (σ6.reset.put b' B)) v (l2.set j y):=hBo _ (by rw [←hn6];exact zA _) (by rw [Zb3,AS.get_put,if_pos rfl])
 have n7:(σ6.merge (σ6.reset.put b' B)).next=σ6.next:=rfl;have g7:∀i,i≠b'→(σ6.merge (σ6.reset.put b' B)).get i=σ6.get i:=fun i hi=>by rw [Zb3,AS.get_put,if_neg (fun e=>hi e.symm)];rfl
 have lw7:∀q,q≤lo→q≤σ6.low→q≤(σ6.merge (σ6.reset.put b' B)).low:=fun q h1 h2=>Nat.le_min.2 ⟨h2,Nat.le_min.2 ⟨zB h1 (zB hlo S6.nxt),zB h1 hb1⟩⟩;generalize σ6.merge (σ6.reset.put b' B)=σ7 at O7 n7 g7 lw7;apply Zau 1;intro _;simp +decide only [zq,zr,List.take,aQ,↓Zab,↓reduceIte,aOp,Zae,iy];rfl;dsimp only [List.drop,List.take,List.length];have O8:AL lo (σ7.merge σ7.reset) v (l2.set j y):=O7.ext ((Ext.refl _).merge (σ:=σ7));have n8:(σ7.merge σ7.reset).next=σ7.next:=rfl;have g8:∀i,(σ7.merge σ7.reset).get i=σ7.get i:=fun _=>rfl;have lw8:∀q,q≤lo→q≤σ7.low→q≤(σ7.merge σ7.reset).low:=fun q h1 h2=>Nat.le_min.2 ⟨h2,by show q≤σ7.next;rw [n7];exact zB h1 (zB hlo S6.nxt)⟩
 generalize σ7.merge σ7.reset=σ8 at O8 n8 g8 lw8;have hl8:l2.set j y≠[]:=fun e=>hl2 (List.length_eq_zero_iff.1 (by have h9:=congrArg List.length e;rw [List.length_set] at h9;exact h9))
 obtain ⟨b'',c'',hv'',hb1',hb2',-,-,-,-,hst'⟩:=O8.at hl8;obtain rfl:b''=b':=by rw [List.length_set,hv'] at hv'';cases hv'';rfl
 obtain ⟨B',-,-,hBs',hBo'⟩:=hst' (j-1) x (by rw [List.length_set];omega)
 refine ZnN (v:=undef) (s1:=σ8.reset.put b'' B') (by intro callf;have:=hBs' σ8.reset rfl;simp +decide only [zq,↓reduceIte,aOp,ZaE,unn,this]) (by kernel_rfl) ?_
 have S9:Srt lo σ (σ8.merge (σ8.reset.put b'' B')) v l ((l2.set j y).set (j-1) x):=⟨hBo' _ (zA _) (by rw [Zb3,AS.get_put,if_pos rfl]),by rw [List.length_set,List.length_set];exact hlen2,fun z=>(ZnW hx hy z).trans (S6.mem z),by show σ.next≤σ8.next;rw [n8,n7];exact S6.nxt,fun i hi ho=>by
  have hne:i≠b'':=fun e=>ho (by rw [e];exact ⟨_,_,hv'⟩)
  rw [Zb3,AS.get_put,if_neg (fun e=>hne e.symm)];exact (g8 i).trans ((g7 i hne).trans (S6.get i hi ho)),fun q h1 h2=>Nat.le_min.2 ⟨lw8 q h1 (lw7 q h1 (S6.low q h1 h2)),Nat.le_min.2 ⟨by show q≤σ8.next;rw [n8,n7];exact zB h1 (zB hlo S6.nxt),zB h1 hb1⟩⟩⟩
 generalize σ8.merge (σ8.reset.put b'' B')=σ9 at S9;show W _ _ _ 53 _ _ _ _;refine Zap ⟨fun _=>?_,fun h=>absurd rfl h⟩;refine Zao ?_;repeat apply Zaa
 apply Zad;intro _;simp +decide only [zq,↓Zab,↓reduceIte,aOp,Zah,h9,w7,aBin,ZaB,Zam];rfl;refine Zap ⟨fun _=>⟨(j-1,(l2.set j y).set (j-1) x),?_,?_⟩,fun h=>(nomatch h),fun h=>absurd rfl h⟩
 ·show j-1<j;omega
 ·refine ⟨by show j-1≤i;omega,S9,N2.swap hj0 (by omega) hx hy halt,?_,?_,?_,?_,?_,?_⟩<;>simp +decide only [zq,h0,h1,h2,h3,h8]
open Abs
theorem pdq_c {lo:Nat} {σ:AS} {v:Value} {l:List Arc} {k:Int} (h:AL lo σ v l) (hlo:lo≤σ.next) (hl:l≠[]) (hn:l.length≤12):C Tryz.prog KA 0 62 [v,.int .i64 0,.int .i64 (l.length:Int),.int .i64 k,.func (.func 26) #[] #[]] σ fun _ σ'=>∃l',Srt lo σ σ' v l l'∧Ord l' l.length:=by
 refine C_of (ka rfl rfl) Tryz.func62 rfl (zD rfl) ?_;show W _ _ _ 148 _ _ _ _;unfold Tryz.f62;dsimp only;repeat apply Zaa
 apply Zad;intro _;simp +decide only [zq,ZaI,↓Zab,↓reduceIte,aOp];rfl;repeat apply Zaa
 apply Zad;intro _;simp +decide only [zq,↓Zab,↓reduceIte,aOp];rfl;refine Zao ?_;repeat apply Zaa
 have w0:IntKind.i64.wrap ((l.length:Int)-0)=(l.length:Int):=by rw [Zas _ (by omega) (by omega)];omega
 have d1:decide ((l.length:Int)≤12)=true:=zM (by omega)
 refine Zdc (fun (_:Unit) r s=>s=σ∧rget r 0=v∧rget r 1=.int .i64 0∧rget r 2=.int .i64 (l.length:Int)∧rget r 4=.func (.func 26) #[] #[]) (fun _=>0) ?_ () ?_;rotate_left
 ·refine ⟨rfl,?_,?_,?_,?_⟩<;>simp +decide only [zq]<;>first|exact True.intro|rfl
 rintro _ r s ⟨rfl,h0,h1,h2,h4⟩;refine Zao ?_;repeat apply Zaa
 refine ZaM ?_;repeat apply Zaa
 apply Zad;intro _;simp +decide only [zq,↓Zab,↓reduceIte,aOp,Zah,h1,h2,w0,aBin,ZaB,Zam];rfl;repeat apply Zaa
 apply Zad;intro _;simp +decide only [zq,↓Zab,↓reduceIte,aOp,Zah,d1,aBin,ZaB,Zam];rfl;repeat apply Zaa
 refine ZaQ (by simp +decide only [zq]) ?_
 repeat apply Zaa
 apply ZaF;apply Zay 4;intro _;simp +decide only [zq,List.take,↓Zab,↓reduceIte,aOp,h0,h1,h2,h4];rfl;dsimp only [List.drop];refine ZaV (vs:=[v,.int .i64 0,.int .i64 (l.length:Int),.func (.func 26) #[] #[]]) (by simp +decide only [zq,aevs]) (by decide) (C.mono (Zlq h hlo hl (by omega)) ?_)
 rintro v σ' ⟨l2,S⟩;apply ZaG;intro _;simp +decide only [aOps];rfl;refine Zbj ⟨fun h=>h.elim (fun h=>(nomatch h)) (fun h=>(nomatch h)),fun _ _=>⟨fun h=>(nomatch h),fun h=>(nomatch h),fun _ _=>⟨zA _,[],rfl,l2,S⟩⟩⟩
theorem Zoy {σ:AS}:∀n:Nat,n<13→∃k:Int,ZcB Tryz.prog KA 0 100 63 [.int .u64 (n:Int)] σ=some (.int .i64 k,σ)
 | 0,_=>⟨0,by kernel_rfl⟩
 | 1,_=>⟨1,by kernel_rfl⟩
 | 2,_=>⟨2,by kernel_rfl⟩
 | 3,_=>⟨2,by kernel_rfl⟩
 | 4,_=>⟨3,by kernel_rfl⟩
 | 5,_=>⟨3,by kernel_rfl⟩
 | 6,_=>⟨3,by kernel_rfl⟩
 | 7,_=>⟨3,by kernel_rfl⟩
 | 8,_=>⟨4,by kernel_rfl⟩
 | 9,_=>⟨4,by kernel_rfl⟩
 | 10,_=>⟨4,by kernel_rfl⟩
 | 11,_=>⟨4,by kernel_rfl⟩
 | 12,_=>⟨4,by kernel_rfl⟩
 | n+13,h=>absurd h (by omega)
theorem Zo2 (n:Nat) (h:n<2^62):Zib (ZaY Tryz.prog (convert 3 133 (.int .i64 (n:Int))))=some (.int .u64 (n:Int)):=by
 rw [ZrY]
 congr 2
 have e:(2:Int)^IntKind.u64.bits=18446744073709551616:=by decide
 unfold IntKind.wrap;simp only [e,show IntKind.u64.signed=false from rfl,Bool.false_and,Bool.false_eq_true,if_false]
 omega
theorem sort_c {lo:Nat} {σ:AS} {v:Value} {l:List Arc} (h:AL lo σ v l) (hlo:lo≤σ.next) (hl:l≠[]) (hn:l.length≤12):C Tryz.prog KA 0 25 [v,.func (.func 26) #[] #[]] σ fun _ σ'=>∃l',Srt lo σ σ' v l l'∧Ord l' l.length:=by
 obtain ⟨va,vc,hv⟩:=Stk.len h;refine C_of (ka rfl rfl) Tryz.func25 rfl (zD rfl) ?_;show W _ _ _ 14 _ _ _ _;unfold Tryz.f25;dsimp only;repeat apply Zaa
 apply Zad;intro _;simp +decide only [zq,ZaI,↓Zab,↓reduceIte,aOp,Zan,aevs,Zaf,aLen,hv,Tryz.underlying44,goInt];rfl;refine Zao ?_;obtain ⟨k,hk⟩:=Zoy (σ:=σ) l.length (by omega)
 repeat apply Zaa
 apply ZaF;apply Zay 4;intro _;simp +decide only [zq,List.take,↓Zab,↓reduceIte,aOp,ZcO,Zct,Zo2 l.length (by omega)];rfl
 dsimp only [List.drop];refine ZaV (vs:=[.int .u64 (l.length:Int)]) (by simp +decide only [zq,aevs]) (by decide) (C.mono (ZnQ (Q:=fun v s1=>v=.int .i64 k∧s1=σ) hk ⟨rfl,rfl⟩) ?_)
 rintro v σ' ⟨rfl,rfl⟩;apply Zay 1;intro _;simp +decide only [zq,List.take,↓Zab,↓reduceIte,aOp];rfl;dsimp only [List.drop];refine ZaV (vs:=[v,.int .i64 0,.int .i64 (l.length:Int),.int .i64 k,.func (.func 26) #[] #[]]) (by simp +decide only [zq,aevs,hv]) (by decide) (C.mono (pdq_c h hlo hl (by omega)) ?_)
 rintro w σ' ⟨l2,S⟩;apply ZaG;intro _;simp +decide only [aOps];rfl;refine Zap ⟨zH _,[],rfl,l2,S⟩
open Abs
section
variable {lo:Nat} {σ σ':AS} {v:Value} {l:List Arc}
theorem AL.tail (h:AL lo σ v l) {k:Nat} (h0:0<k) (hk:k<l.length):∃b c,Own v b∧Zbv Tryz.prog σ 44 v (some (.int .i64 (k:Int))) none none=some (.slice (some ⟨b,k*2,none⟩) (l.length-k) c)∧
  ∃σ',Ze4 Tryz.prog σ 44 (.slice (some ⟨b,k*2,none⟩) (l.length-k) c)=some σ'∧σ'.next=σ.next∧(∀i,i≠b→σ'.get i=σ.get i)∧(∀q,q≤b→q≤σ.low→q≤σ'.low)∧
   ∀τ:AS,σ'.next≤τ.next→τ.get b=σ'.get b→∃x,Zbv Tryz.prog τ 44 v none (some (.int .i64 (k:Int))) none=some x∧AL lo τ x (l.take k)∧∀i,Own x i→Own v i:=by
 obtain ⟨c1,c2,⟨rfl,h1⟩|⟨b,n,vals,rfl,h4,h5,h6,h7,h8,h9⟩⟩:=h
 ·omega
 have hkn:k<n:=by omega
 have d0:Nat.beq k 0=false:=ZlP (by omega)
 have hz2:¬(k*2=0):=by omega
 refine ⟨b,Zax+(n-k),⟨_,_,rfl⟩,Zdt elA h7 ?_,?_⟩
 ·unfold Zbg;simp only [ZbW,Zcb,abound_at k l.length (by omega),Zbn,if_true,d0,Bool.false_eq_true,if_false]
  rw [if_pos (by rw [Nat.blt_eq];exact hkn)]
  simp only [Option.map_some,Addr.add,Nat.zero_add];rw [if_neg hz2]
 obtain ⟨inf,hi,z,hz,hf,hzc⟩:∃inf,Tryz.prog.info? 57=some inf∧∃z,inf.zero=some z∧flat z=true∧z.cells=#[.int .i64 0,.int .i64 0]:=⟨(Tryz.prog.info? 57).get!,by kernel_rfl,(((Tryz.prog.info? 57).get!).zero).get!,by kernel_rfl,by kernel_rfl,by kernel_rfl⟩
 have hnz:Nat.beq (l.length-k) 0=false:=ZlP (by omega)
 have hzs:(Builtin.zeroCells z.cells (l.length-k)).toList.length=(l.length-k)*2:=by
  unfold Builtin.zeroCells;simp [hzc]
 have hzo:(Builtin.zeroCells z.cells (l.length-k)).toList.all one=true:=by
  rw [List.all_eq_true];intro y hy;unfold Builtin.zeroCells at hy;simp only [hzc,Array.toList_map,List.mem_map] at hy;obtain ⟨i,_,rfl⟩:=hy;have:∀i,i<2→one (#[Value.int .i64 0,.int .i64 0][i]!)=true:=fun i hi=>by
   match i,hi with
   | 0,_=>rfl
   | 1,_=>rfl
  exact this _ (Nat.mod_lt _ (by decide))
 have hlen:k*2+(l.length-k)*2≤vals.length:=by omega
 generalize hB:Za3 vals (k*2) (Builtin.zeroCells z.cells (l.length-k)).toList=vals';refine ⟨σ.put b ⟨2,57,2,vals',[]⟩,?_,rfl,fun i hib=>by rw [AS.get_put,if_neg (fun e=>hib e.symm)],fun q h1 h2=>Nat.le_min.2 ⟨h2,h1⟩,fun τ hn hg=>?_⟩
 ·unfold Ze4;simp only [Tryz.underlying44,hnz,Bool.false_eq_true,if_false,hi,hz,hf,if_true];unfold Zbc;simp only [h7,ZaJ,hzs,hzo];rw [ZbF hlen,hB];cases hzl:(Builtin.zeroCells z.cells (l.length-k)).toList with
  | nil=>rw [hzl] at hzs;simp at hzs;omega
  | cons z0 zs=>rfl
 ·rw [AS.get_put,if_pos rfl] at hg;have hlv:vals'.length=vals.length:=by rw [←hB,ZbU]
  have hk2:(vals.take (k*2)).length=k*2:=by rw [zX,Nat.min_eq_left (by omega)]
  have htk:vals'.take (k*2)=vals.take (k*2):=by
   rw [←hB,ZcX _ _ _ (by rw [hzs];exact hlen),List.append_assoc,List.take_append_of_le_length (by rw [hk2];exact zA _)]
   exact zJ (by rw [hk2];exact zA _)
  have hA:Stk lo 57 2 τ (.slice (some ⟨b,0,none⟩) l.length (Zax+n)) l.length (vals'.take (l.length*2)):=by
   have hkk:l.length*2≤vals.length:=by omega
   refine ⟨by rw [zX,hlv,Nat.min_eq_left hkk],?_,.inr ⟨b,n,vals',rfl,h4,h5,zC h6 hn,hg,by rw [hlv];exact h8,rfl⟩⟩
   have e:vals'.take (l.length*2)=vals.take (k*2)++(Builtin.zeroCells z.cells (l.length-k)).toList:=by
    have hln:(vals.take (k*2)++(Builtin.zeroCells z.cells (l.length-k)).toList).length=l.length*2:=by
     rw [zS,zX,hzs,Nat.min_eq_left (by omega)];omega
    rw [←hB,ZcX _ _ _ (by rw [hzs];exact hlen),List.take_append_of_le_length (by rw [hln];exact zA _)]
    exact zJ (by rw [hln];exact zA _)
   rw [e,List.all_append,hzo,Bool.and_true];have h10:vals.take (k*2)=cA (l.take k):=by rw [←ZlM,←h9,List.take_take,Nat.min_eq_left (by omega)]
   rw [h10];exact Zpb _
  obtain ⟨x,g1,g2,g3,_⟩:=Stk.cut elA hA (j:=k) (by omega)
  refine ⟨x,g1,?_,g3⟩;unfold AL;rw [zX,Nat.min_eq_left (by omega),←ZlM,←h9,List.take_take,Nat.min_eq_left (by omega)]
  rw [List.take_take,Nat.min_eq_left (by omega),htk] at g2
  exact g2
end
open Abs
section
variable {P:Program} {t:TypeId} (xo yo:Operand) {k:IntKind} {a b:Int}
theorem subI:aBin P .sub t xo yo (.int k a) (.int k b)=some (.int k (k.wrap (a-b))):=by simp only [aBin,ZaB,Zam,if_true]
theorem addI:aBin P .add t xo yo (.int k a) (.int k b)=some (.int k (k.wrap (a+b))):=by simp only [aBin,ZaB,Zam,if_true]
theorem lssI:aBin P .lss t xo yo (.int k a) (.int k b)=some (.bool (decide (a<b))):=by simp only [aBin,ZaB,Zam,if_true]
theorem gtrI:aBin P .gtr t xo yo (.int k a) (.int k b)=some (.bool (decide (a>b))):=by simp only [aBin,ZaB,Zam,if_true]
theorem geqI:aBin P .geq t xo yo (.int k a) (.int k b)=some (.bool (decide (a≥b))):=by simp only [aBin,ZaB,Zam,if_true]
theorem leqI:aBin P .leq t xo yo (.int k a) (.int k b)=some (.bool (decide (a≤b))):=by simp only [aBin,ZaB,Zam,if_true]
theorem eqII:aBin P .eql t xo yo (.int k a) (.int k b)=some (.bool (a == b)):=by simp only [aBin,ZaB,Zam,if_true]
theorem neII:aBin P .neq t xo yo (.int k a) (.int k b)=some (.bool (a != b)):=by simp only [aBin,ZaB,Zam,if_true]
end
theorem eqA (xo yo:Operand) (x y:Arc):aBin Tryz.prog .eql 57 xo yo (vArc x) (vArc y)=some (.bool (decide (x=y)))∧aBin Tryz.prog .neq 57 xo yo (vArc x) (vArc y)=some (.bool (!decide (x=y))):=by
 obtain ⟨a,b⟩:=x;obtain ⟨c,d⟩:=y;refine Zh5 Tryz.underlying57 (by kernel_rfl) rfl rfl ?_ (by kernel_rfl) xo yo
 have p1:∀x y:Int,ZaY Tryz.prog (part 3 #[.int .i64 x,.int .i64 y] 0)=some (.int .i64 x):=fun x y=>by kernel_rfl
 have p2:∀x y:Int,ZaY Tryz.prog (part 3 #[.int .i64 x,.int .i64 y] 1)=some (.int .i64 y):=fun x y=>by kernel_rfl
 simp only [Zc7,p1,p2,Option.bind_some,Zd6 9998 _ _ Tryz.underlying3];have g1:((a:Int) == (c:Int))=decide (a=c):=by
  by_cases h:a=c
  ·simp [h]
  ·have:¬((a:Int)=(c:Int)):=by omega
   simp [h,this]
 have g2:((b:Int) == (d:Int))=decide (b=d):=by
  by_cases h:b=d
  ·simp [h]
  ·have:¬((b:Int)=(d:Int)):=by omega
   simp [h,this]
 simp only [g1,g2];by_cases h1:a=c<;>by_cases h2:b=d<;>simp [h1,h2]
theorem Zes {σ:AS} {b off N i m:Nat} {cs:List Value} (h:Zav σ ⟨b,off,none⟩ N=some cs) (hi:i+m≤N):Zav σ ⟨b,off+i,none⟩ m=some ((cs.drop i).take m):=by
 unfold Zav at h ⊢;simp only [ZaJ] at h ⊢;have key:∀l:List Value,(l.drop (off+i)).take m=(((l.drop off).take N).drop i).take m:=fun l=>by
  rw [List.drop_take,List.drop_drop,List.take_take,Nat.min_eq_left (by omega)]
 have hble:Nat.ble (off+N) (σ.get b).vals.length=true→Nat.ble (off+i+m) (σ.get b).vals.length=true:=fun h=>by
  rw [Nat.ble_eq] at h ⊢;omega
 by_cases h1:(Zcm (σ.get b)&&Nat.ble (off+N) (σ.get b).vals.length)=true
 ·rw [if_pos h1] at h;simp only [Bool.and_eq_true] at h1;rw [if_pos (by rw [h1.1,hble h1.2];rfl),key,Option.some.inj h]
 ·rw [if_neg h1] at h;by_cases h2:(Nat.beq (σ.get b).kind 5&&Nat.ble (off+N) (σ.get b).vals.length&&(((σ.get b).vals.drop off).take N).all known)=true
  ·rw [if_pos h2] at h;simp only [Bool.and_eq_true] at h2;obtain ⟨⟨h3,h4⟩,h5⟩:=h2;have e:=Option.some.inj h;have hk:(((σ.get b).vals.drop (off+i)).take m).all known=true:=by
    rw [key];rw [List.all_eq_true] at h5 ⊢;exact fun x hx=>h5 x (List.mem_of_mem_drop (List.mem_of_mem_take hx))
   by_cases h6:(Zcm (σ.get b)&&Nat.ble (off+i+m) (σ.get b).vals.length)=true
   ·rw [if_pos h6,key,e]
   ·rw [if_neg h6,if_pos (by rw [h3,hble h4,hk];rfl),key,e]
  ·rw [if_neg h2] at h;cases h
def RowV (σ:AS) (v:Value) (l:List Arc):Prop:=(v=.slice none 0 0∧l=[])∨(l≠[]∧∃b off c,v=.slice (some ⟨b,off,none⟩) l.length c∧b<σ.next∧Zav σ ⟨b,off,none⟩ (l.length*2)=some (cA l))
def In (v:Value) (i:Nat):Prop:=∃off n c,v=.slice (some ⟨i,off,none⟩) n c
section
variable {σ σ':AS} {v:Value} {l:List Arc}
theorem RowV.keep (h:RowV σ v l) (hn:σ.next≤σ'.next) (hg:∀i,In v i→i<σ.next→σ'.get i=σ.get i):RowV σ' v l:=
 h.imp_right fun ⟨h0,b,off,c,h1,h2,h3⟩=>⟨h0,b,off,c,h1,zC h2 hn,by
  rw [←h3];unfold Zav;simp only [hg b ⟨_,_,_,h1⟩ h2]⟩
theorem RowV.ext (h:RowV σ v l) (e:Ext σ σ'):RowV σ' v l:=h.keep e.nxt fun i _ hi=>e.get i hi
theorem RowV.len (h:RowV σ v l):∃base c,v=.slice base l.length c:=by
 rcases h with ⟨rfl,rfl⟩|⟨_,b,off,c,rfl,_⟩
 ·exact ⟨_,_,rfl⟩
 ·exact ⟨_,_,rfl⟩
theorem RowV.sv (h:RowV σ v l):(vsc σ.next 9 v&&veq 9 v v)=true:=by
 rcases h with ⟨rfl,_⟩|⟨_,b,off,c',rfl,h2,_⟩
 ·exact ZnX
 ·exact ZbA h2
theorem RowV.at (h:RowV σ v l) {i:Nat} {x:Arc} (hx:l[i]?=some x):∃b off c,v=.slice (some ⟨b,off,none⟩) l.length c∧b<σ.next∧
  Zal Tryz.prog 44 v (.int .i64 (i:Int))=some (.pointer (some ⟨b,off+i*2,none⟩))∧
  (∀σ':AS,σ'.get b=σ.get b→Zat Tryz.prog σ' 57 (.pointer (some ⟨b,off+i*2,none⟩))=some (vArc x))∧
  (∀σ':AS,σ'.get b=σ.get b→Zat Tryz.prog σ' 3 (.pointer (some ⟨b,off+i*2,none⟩))=some (.int .i64 (x.1:Int))∧Zat Tryz.prog σ' 3 (.pointer (some ⟨b,off+i*2+1,none⟩))=some (.int .i64 (x.2:Int))):=by
 have hi:=(zE.1 hx).1;rcases h with ⟨rfl,rfl⟩|⟨_,b,off,c,rfl,h2,h3⟩
 ·cases hi
 have h4:∀σ':AS,σ'.get b=σ.get b→Zav σ' ⟨b,off+i*2,none⟩ 2=some [.int .i64 (x.1:Int),.int .i64 (x.2:Int)]:=fun σ' hg=>by
  have h5:Zav σ' ⟨b,off,none⟩ (l.length*2)=some (cA l):=by rw [←h3];unfold Zav;simp only [hg]
  rw [Zes h5 (show i*2+2≤l.length*2 by omega),Zr5 hx]
 exact ⟨b,off,c,rfl,h2,idxA hi,fun σ' hg=>loadArc (x:=x) (h4 σ' hg) rfl,fun σ' hg=>⟨Zaw Tryz.underlying3 rfl (cells_two (h4 σ' hg)).1,Zaw Tryz.underlying3 rfl (cells_two (h4 σ' hg)).2⟩⟩
theorem AL.row {lo:Nat} (h:AL lo σ v l) (hl:l≠[]):RowV σ v l:=by
 obtain ⟨c1,c2,⟨h3,h0⟩|⟨b,n,vals,rfl,h4,h5,h6,h7,h8,h9⟩⟩:=h
 ·exact absurd (List.length_eq_zero_iff.1 h0) hl
 ·refine .inr ⟨hl,b,0,_,rfl,h6,?_⟩;unfold Zav;simp only [h7,ZaJ,Nat.zero_add];rw [ZbF (show l.length*2≤vals.length by omega),←h9]
  rfl
theorem AL.clip {lo:Nat} (h:AL lo σ v l) (hl:l≠[]) (hn:l.length≤1000000):∃b c,v=.slice (some ⟨b,0,none⟩) l.length c∧lo≤b∧b<σ.next∧(σ.get b).kind=2∧(σ.get b).elem=57∧
  Zbv Tryz.prog σ 44 v none (some (.int .i64 (l.length:Int))) (some (.int .i64 (l.length:Int)))=some (.slice (some ⟨b,0,none⟩) l.length l.length)∧RowV σ (.slice (some ⟨b,0,none⟩) l.length l.length) l:=by
 have hr:=h.row hl;obtain ⟨c1,c2,⟨h3,h0⟩|⟨b,n,vals,rfl,h4,h5,h6,h7,h8,h9⟩⟩:=h
 ·exact absurd (List.length_eq_zero_iff.1 h0) hl
 have hp:=List.length_pos_iff.2 hl;refine ⟨b,_,rfl,h5,h6,by rw [h7],by rw [h7],?_,?_⟩
 ·obtain ⟨hu,⟨inf,zz,g1,g2,g3,g4,g5,g6⟩,g7⟩:=elA;unfold Zbv;simp only [hu,g1,g2,Zbn,h7,if_true];rw [if_pos (by rfl)]
  unfold Zbg;simp only [Zcb,abound_at l.length n h4,abound_at l.length l.length (zA _),ZbW];rw [if_neg (by rw [Nat.ble_eq];unfold Zax;omega),ZlP (show l.length≠0 by omega)]
  simp only [Bool.false_eq_true,if_false,Option.map_some,Nat.zero_mul,Addr.add,Nat.sub_zero];rfl
 ·rcases hr with ⟨e,_⟩|⟨_,b',off,c,e,g2,g3⟩
  ·cases e
  ·cases e;exact .inr ⟨hl,b,0,_,rfl,h6,g3⟩
end
section
variable {P:Program} {lo T E E' z k:Nat} {σ:AS} {v:Value} {cs new:List Value} {b:Nat}
theorem src1 (hb:σ.get b=⟨1,E',0,new,[]⟩) (hn:new.length=z):∀inf:TypeInfo,inf.size=z→Zbd P σ false inf (.slice (some ⟨b,0,none⟩) 1 1)=some (1,new):=fun inf hi=>by
 have hc:Zav σ ⟨b,0,none⟩ z=some new:=Zaq hb (by rw [List.drop_zero,zJ (by omega)]) (by omega)
 unfold Zbd;simp only [Bool.false_eq_true,if_false,hi,Nat.one_mul,Zbh,hc]
theorem Stk.push1 (el:El P T E z) (h:Stk lo E z σ v k cs) (hlo:lo≤σ.next) (hb:σ.get b=⟨1,E',0,new,[]⟩) (hn:new.length=z) (h1:new.all one=true) (hk:k+1≤1000000) :
  ∃v' s,ZaU P σ #[T,T] v (.slice (some ⟨b,0,none⟩) 1 1)=some (v',s)∧Stk lo E z s v' (k+1) (cs++new)∧σ.next≤s.next∧(∀i,i<σ.next→¬Own v i→s.get i=σ.get i)∧(∀q,q≤lo→q≤σ.low→q≤s.low)∧
   ∀i,Own v' i→Own v i∨σ.next≤i:=
 Stk.push el h hlo (src1 hb hn) (by omega) h1 hk
end
structure Rows (σ:AS) (rows:List Value) (L:List (List Arc)):Prop where
 len:rows.length=L.length
 row:∀(i:Nat) (v:Value) (l:List Arc),rows[i]?=some v→L[i]?=some l→RowV σ v l
def OutR (σ:AS) (v:Value) (L:List (List Arc)):Prop:=L≠[]∧∃b off c rows,v=.slice (some ⟨b,off,none⟩) L.length c∧b<σ.next∧Zav σ ⟨b,off,none⟩ L.length=some rows∧Rows σ rows L
theorem idxR {b off len cap i:Nat} (h:i<len):Zal Tryz.prog 25 (.slice (some ⟨b,off,none⟩) len cap) (.int .i64 (i:Int))=some (.pointer (some ⟨b,off+i*1,none⟩)):=
 ZaD (inf:=(Tryz.prog.info? 44).get!) Tryz.underlying25 (by kernel_rfl) (by kernel_rfl) h
section
variable {σ σ':AS} {v:Value} {rows:List Value} {L:List (List Arc)}
theorem Rows.ext (h:Rows σ rows L) (e:Ext σ σ'):Rows σ' rows L:=⟨h.len,fun i v l h1 h2=>(h.row i v l h1 h2).ext e⟩
theorem OutR.ext (h:OutR σ v L) (e:Ext σ σ'):OutR σ' v L:=by
 obtain ⟨h0,b,off,c,rows,h1,h2,h3,h4⟩:=h;exact ⟨h0,b,off,c,rows,h1,e.lt h2,by rw [e.cells h2];exact h3,h4.ext e⟩
theorem OutR.at (h:OutR σ v L) {i:Nat} {l:List Arc} (hl:L[i]?=some l):∃b off c w,v=.slice (some ⟨b,off,none⟩) L.length c∧b<σ.next∧
  Zal Tryz.prog 25 v (.int .i64 (i:Int))=some (.pointer (some ⟨b,off+i*1,none⟩))∧
  (∀σ':AS,σ'.get b=σ.get b→Zat Tryz.prog σ' 44 (.pointer (some ⟨b,off+i*1,none⟩))=some w)∧RowV σ w l:=by
 obtain ⟨h0,b,off,c,rows,rfl,h2,h3,h4⟩:=h;have hi:=(zE.1 hl).1;have hir:i<rows.length:=by rw [h4.len];exact hi
 refine ⟨b,off,c,rows[i],rfl,h2,idxR hi,fun σ' hg=>?_,h4.row i _ l (zP hir) hl⟩;have h5:Zav σ' ⟨b,off,none⟩ L.length=some rows:=by rw [←h3];unfold Zav;simp only [hg]
 refine Zaw Tryz.underlying44 rfl ?_;rw [Zes h5 (show i*1+1≤L.length by omega),Nat.mul_one,List.drop_eq_getElem_cons hir]
 rfl
theorem OutR.len (h:OutR σ v L):∃base c,v=.slice base L.length c:=by
 obtain ⟨h0,b,off,c,rows,rfl,_⟩:=h;exact ⟨_,_,rfl⟩
end
end Go.Proofs.YteangeffgjolpaaGreatDoor.U
namespace Go.Proofs.YteangeffgjolpaaGreatDoor.Nest
open Abs
abbrev slc (b n c:Nat):Value:=.slice (some ⟨b,0,none⟩) n c
def RRule (σ:AS) (cs:List Value) (e:Int):Prop:=∃p cp,cs=[slc p 1 cp,.int .i64 e,.int .i64 0]∧p<σ.next∧Zav σ ⟨p,0,none⟩ 1=some [.int .i64 e]
theorem RRule.keeps:ZnO RRule:=fun σ σ' cs x e h=>by
 obtain ⟨p,cp,h1,h2,h3⟩:=h;exact ⟨p,cp,h1,e.lt h2,by rw [e.cells (a:=⟨p,0,none⟩) h2];exact h3⟩
structure MD where
 bc:Nat
 cc:Nat
 bf:Nat
 cf:Nat
 ba:Nat
 ca:Nat
 lv:Value
 rv:Value
def MD.val (d:MD):Value:=.agg #[slc d.bc 1 d.cc,slc d.bf 1 d.cf]
def MD.cells (d:MD):List Value:=[slc d.bc 1 d.cc,slc d.bf 1 d.cf]
structure Mach (σ:AS) (d:MD) (L:Lts) (E:List Int):Prop where
 c1:d.bc<σ.next
 c2:Zav σ ⟨d.bc,0,none⟩ 2=some [d.lv,.slice none 0 0]
 f1:d.bf<σ.next
 f2:Zav σ ⟨d.bf,0,none⟩ 3=some [.string ⟨#[]⟩,slc d.ba 1 d.ca,d.rv]
 a1:d.ba<σ.next
 a2:Zav σ ⟨d.ba,0,none⟩ 1=some [.bool true]
 rows:RS 1 RRow σ d.lv L
 rules:RS 3 RRule σ d.rv E
theorem Mach.ext {σ σ':AS} {d:MD} {L:Lts} {E:List Int} (h:Mach σ d L E) (e:Ext σ σ'):Mach σ' d L E:=
 ⟨e.lt h.c1,by rw [e.cells (a:=⟨d.bc,0,none⟩) h.c1];exact h.c2,e.lt h.f1,by rw [e.cells (a:=⟨d.bf,0,none⟩) h.f1];exact h.f2,e.lt h.a1,by rw [e.cells (a:=⟨d.ba,0,none⟩) h.a1];exact h.a2,h.rows.ext RRow.keeps e,h.rules.ext RRule.keeps e⟩
def St (σ:AS) (s:Value) (t:Nat):Prop:=∃b c,s=slc b 2 c∧b<σ.next∧Zav σ ⟨b,0,none⟩ 2=some [.int .i64 0,.int .i64 (t:Int)]
theorem St.ext {σ σ':AS} {s:Value} {t:Nat} (h:St σ s t) (e:Ext σ σ'):St σ' s t:=by
 obtain ⟨b,c,h1,h2,h3⟩:=h;exact ⟨b,c,h1,e.lt h2,by rw [e.cells (a:=⟨b,0,none⟩) h2];exact h3⟩
structure BxAt (σ:AS) (t b:Nat) (cs:List Value):Prop where
 lt:b<σ.next
 get:σ.get b=⟨1,t,0,cs,[]⟩
theorem BxAt.ext {σ σ':AS} {t b:Nat} {cs:List Value} (h:BxAt σ t b cs) (e:Ext σ σ'):BxAt σ' t b cs:=⟨e.lt h.lt,(e.get b h.lt).trans h.get⟩
theorem BxAt.new (σ:AS) (t:Nat) (cs:List Value):BxAt (σ.new ⟨1,t,0,cs,[]⟩) t σ.next cs:=⟨zG _,by rw [AS.get_new,if_pos rfl]⟩
theorem BxAt.cell {σ:AS} {t b i:Nat} {cs:List Value} {v:Value} (h:BxAt σ t b cs) (hi:cs[i]?=some v):Zav σ ⟨b,i,none⟩ 1=some [v]:=by
 obtain ⟨h1,h2⟩:=zE.1 hi;exact Zaq h.get (by rw [List.drop_eq_getElem_cons h1,h2];rfl) h1
noncomputable def dcl (σ:AS) (t:Nat) (z cs:List Value):AS:=(σ.new ⟨1,t,0,z,[]⟩).put σ.next ⟨1,t,0,cs,[]⟩
theorem Zcn (σ:AS) (t:Nat) (z cs:List Value):Ext σ (dcl σ t z cs):=Ext.put (Ext.new σ _) (zA _) _
theorem Zc9 (σ:AS) (t:Nat) (z cs:List Value):BxAt (dcl σ t z cs) t σ.next cs:=⟨zG _,by unfold dcl;rw [AS.get_put,if_pos rfl]⟩
theorem Zer {σ:AS} {t n:Nat} {z cs:List Value} {v:Value} (hi:∃inf,Tryz.prog.info? t=some inf∧inf.size=n) (hz:z.length=n) (hn:0<n) (hv:Nat.beq v.cells.size n=true) (hc:v.cells.toList=cs) (h1:cs.all one=true) :
  ZaK Tryz.prog (σ.new ⟨1,t,0,z,[]⟩) t v (.pointer (some ⟨σ.next,0,none⟩))=some (dcl σ t z cs):=by
 obtain ⟨inf,h2,h3⟩:=hi;have g:(σ.new ⟨1,t,0,z,[]⟩).get σ.next=⟨1,t,0,z,[]⟩:=by rw [AS.get_new,if_pos rfl]
 have hl:cs.length=n:=by rw [←hc,Array.length_toList];exact zK hv
 have hs:Za3 z 0 cs=cs:=by
  rw [ZcX _ _ _ (by omega)]
  simp [hl,hz]
 unfold ZaK;simp only [h2,h3,hv,if_true,hc];show Zbc _ _ _=_;unfold Zbc;rw [if_pos (by simp only [g,ZaJ,hl,Nat.zero_add,h1,Bool.and_true];show (true&&_)=true;rw [ZbF (by omega)];rfl)]
 simp only [g];cases cs with
 | nil=>simp at hl;omega
 | cons x cs=>unfold dcl;dsimp only;rw [hs]
theorem ZgC {b o:Nat}:Za4 Tryz.prog 35 0 (.pointer (some ⟨b,o,none⟩))=some (.pointer (some ⟨b,o,none⟩)):=by kernel_rfl
theorem ZeV {b o:Nat}:Za4 Tryz.prog 35 1 (.pointer (some ⟨b,o,none⟩))=some (.pointer (some ⟨b,o+1,none⟩)):=by kernel_rfl
theorem ZmU {b o:Nat}:Za4 Tryz.prog 61 0 (.pointer (some ⟨b,o,none⟩))=some (.pointer (some ⟨b,o,none⟩)):=by kernel_rfl
theorem ZqQ {b o:Nat}:Za4 Tryz.prog 61 1 (.pointer (some ⟨b,o,none⟩))=some (.pointer (some ⟨b,o+1,none⟩)):=by kernel_rfl
theorem fldFo0 {b o:Nat}:Za4 Tryz.prog 66 0 (.pointer (some ⟨b,o,none⟩))=some (.pointer (some ⟨b,o,none⟩)):=by kernel_rfl
theorem Zkn {b o:Nat}:Za4 Tryz.prog 66 1 (.pointer (some ⟨b,o,none⟩))=some (.pointer (some ⟨b,o+1,none⟩)):=by kernel_rfl
theorem ZiA {b o:Nat}:Za4 Tryz.prog 66 2 (.pointer (some ⟨b,o,none⟩))=some (.pointer (some ⟨b,o+2,none⟩)):=by kernel_rfl
theorem ZeU {b o:Nat}:Za4 Tryz.prog 69 0 (.pointer (some ⟨b,o,none⟩))=some (.pointer (some ⟨b,o,none⟩)):=by kernel_rfl
theorem Zkm {b o:Nat}:Za4 Tryz.prog 69 1 (.pointer (some ⟨b,o,none⟩))=some (.pointer (some ⟨b,o+1,none⟩)):=by kernel_rfl
theorem ZfI {b o:Nat}:Za4 Tryz.prog 69 2 (.pointer (some ⟨b,o,none⟩))=some (.pointer (some ⟨b,o+2,none⟩)):=by kernel_rfl
theorem Ziz {b o:Nat}:Za4 Tryz.prog 125 0 (.pointer (some ⟨b,o,none⟩))=some (.pointer (some ⟨b,o,none⟩)):=by kernel_rfl
theorem ZmT {b o:Nat}:Za4 Tryz.prog 125 1 (.pointer (some ⟨b,o,none⟩))=some (.pointer (some ⟨b,o+1,none⟩)):=by kernel_rfl
theorem Ziy {b o:Nat}:Za4 Tryz.prog 125 2 (.pointer (some ⟨b,o,none⟩))=some (.pointer (some ⟨b,o+2,none⟩)):=by kernel_rfl
theorem ZgB {b o:Nat}:Za4 Tryz.prog 77 0 (.pointer (some ⟨b,o,none⟩))=some (.pointer (some ⟨b,o,none⟩)):=by kernel_rfl
theorem ZfH {b o:Nat}:Za4 Tryz.prog 77 1 (.pointer (some ⟨b,o,none⟩))=some (.pointer (some ⟨b,o+1,none⟩)):=by kernel_rfl
theorem ZmS {b o:Nat}:Za4 Tryz.prog 77 2 (.pointer (some ⟨b,o,none⟩))=some (.pointer (some ⟨b,o+2,none⟩)):=by kernel_rfl
theorem ZoL {b len cap i:Nat} (h:i<len):Zal Tryz.prog 32 (slc b len cap) (.int .i64 (i:Int))=some (.pointer (some ⟨b,0+i*2,none⟩)):=
 ZaD (inf:=(Tryz.prog.info? 61).get!) Tryz.underlying32 (by kernel_rfl) (by kernel_rfl) h
theorem ZoK {b len cap i:Nat} (h:i<len):Zal Tryz.prog 33 (slc b len cap) (.int .i64 (i:Int))=some (.pointer (some ⟨b,0+i*3,none⟩)):=
 ZaD (inf:=(Tryz.prog.info? 66).get!) Tryz.underlying33 (by kernel_rfl) (by kernel_rfl) h
theorem Zp5 {b off len cap i:Nat} (h:i<len):Zal Tryz.prog 64 (.slice (some ⟨b,off,none⟩) len cap) (.int .i64 (i:Int))=some (.pointer (some ⟨b,off+i*3,none⟩)):=
 ZaD (inf:=(Tryz.prog.info? 69).get!) Tryz.underlying64 (by kernel_rfl) (by kernel_rfl) h
theorem Zp6 {b len cap i:Nat} (h:i<len):Zal Tryz.prog 121 (slc b len cap) (.int .i64 (i:Int))=some (.pointer (some ⟨b,0+i*1,none⟩)):=
 ZaD (inf:=(Tryz.prog.info? 75).get!) Tryz.underlying121 (by kernel_rfl) (by kernel_rfl) h
theorem Zp7 {b len cap i:Nat} (h:i<len):Zal Tryz.prog 75 (slc b len cap) (.int .i64 (i:Int))=some (.pointer (some ⟨b,0+i*3,none⟩)):=
 ZaD (inf:=(Tryz.prog.info? 125).get!) Tryz.underlying75 (by kernel_rfl) (by kernel_rfl) h
theorem Zi8 {b len cap i:Nat} (h:i<len):Zal Tryz.prog 41 (slc b len cap) (.int .i64 (i:Int))=some (.pointer (some ⟨b,0+i*3,none⟩)):=
 ZaD (inf:=(Tryz.prog.info? 77).get!) Tryz.underlying41 (by kernel_rfl) (by kernel_rfl) h
theorem idxI {b len cap i:Nat} (h:i<len):Zal Tryz.prog 22 (slc b len cap) (.int .i64 (i:Int))=some (.pointer (some ⟨b,0+i*1,none⟩)):=
 ZaD (inf:=(Tryz.prog.info? 3).get!) Tryz.underlying22 (by kernel_rfl) (by kernel_rfl) h
theorem idxB {b len cap i:Nat} (h:i<len):Zal Tryz.prog 62 (slc b len cap) (.int .i64 (i:Int))=some (.pointer (some ⟨b,0+i*1,none⟩)):=
 ZaD (inf:=(Tryz.prog.info? 4).get!) Tryz.underlying62 (by kernel_rfl) (by kernel_rfl) h
theorem elMs:El Tryz.prog 121 75 1:=⟨Tryz.underlying121,⟨(Tryz.prog.info? 75).get!,(((Tryz.prog.info? 75).get!).zero).get!,by kernel_rfl,by kernel_rfl,zD (by kernel_rfl),by kernel_rfl,by kernel_rfl,by kernel_rfl⟩,by decide⟩
theorem elSt:El Tryz.prog 41 77 3:=⟨Tryz.underlying41,⟨(Tryz.prog.info? 77).get!,(((Tryz.prog.info? 77).get!).zero).get!,by kernel_rfl,by kernel_rfl,zD (by kernel_rfl),by kernel_rfl,by kernel_rfl,by kernel_rfl⟩,by decide⟩
theorem elMo:El Tryz.prog 75 125 3:=⟨Tryz.underlying75,⟨(Tryz.prog.info? 125).get!,(((Tryz.prog.info? 125).get!).zero).get!,by kernel_rfl,by kernel_rfl,zD (by kernel_rfl),by kernel_rfl,by kernel_rfl,by kernel_rfl⟩,by decide⟩
section
variable {σ:AS} {d:MD} {L:Lts} {E:List Int} {b:Nat}
theorem Mach.ldM (h:BxAt σ 35 b d.cells):Zat Tryz.prog σ 35 (.pointer (some ⟨b,0,none⟩))=some d.val:=
 ZbK Tryz.underlying35 rfl (i:=(Tryz.prog.info? 35).get!) (by kernel_rfl) (by rw [show ((Tryz.prog.info? 35).get!).size=2 by kernel_rfl];exact Zaq h.get rfl (zA _))
theorem Mach.ldC (h:BxAt σ 35 b d.cells):Zat Tryz.prog σ 32 (.pointer (some ⟨b,0,none⟩))=some (slc d.bc 1 d.cc):=Zaw Tryz.underlying32 rfl (h.cell (i:=0) rfl)
theorem Mach.ldF (h:BxAt σ 35 b d.cells):Zat Tryz.prog σ 33 (.pointer (some ⟨b,1,none⟩))=some (slc d.bf 1 d.cf):=Zaw Tryz.underlying33 rfl (h.cell (i:=1) rfl)
theorem Zbq {a:Nat} {i:Nat} {cs:List Value} {v:Value} {n:Nat} (h:Zav σ ⟨a,0,none⟩ n=some cs) (hi:cs[i]?=some v) (hn:i<n):Zav σ ⟨a,i,none⟩ 1=some [v]:=by
 obtain ⟨h1,h2⟩:=zE.1 hi;have h3:=U.Zes (i:=i) (m:=1) h (by omega)
 rw [Nat.zero_add] at h3;rw [h3,List.drop_eq_getElem_cons h1,h2];rfl
theorem Mach.lv (h:Mach σ d L E):Zat Tryz.prog σ 25 (.pointer (some ⟨d.bc,0,none⟩))=some d.lv:=Zaw Tryz.underlying25 rfl (Zbq h.c2 (i:=0) rfl (by omega))
theorem Mach.rv (h:Mach σ d L E):Zat Tryz.prog σ 64 (.pointer (some ⟨d.bf,2,none⟩))=some d.rv:=Zaw Tryz.underlying64 rfl (Zbq h.f2 (i:=2) rfl (by omega))
theorem Mach.al (h:Mach σ d L E):Zat Tryz.prog σ 62 (.pointer (some ⟨d.bf,1,none⟩))=some (slc d.ba 1 d.ca):=Zaw Tryz.underlying62 rfl (Zbq h.f2 (i:=1) rfl (by omega))
theorem Mach.al0 (h:Mach σ d L E):Zat Tryz.prog σ 4 (.pointer (some ⟨d.ba,0,none⟩))=some (.bool true):=Zaw Tryz.underlying4 rfl h.a2
end
open Abs
def RMv (lo:Nat) (σ:AS) (cs:List Value) (a:Arc):Prop:=∃mb mc,cs=[slc mb 1 mc]∧lo≤mb∧mb<σ.next∧(σ.get mb).kind≠3∧(σ.get mb).elem=125∧Zav σ ⟨mb,0,none⟩ 3=some [.int .i64 0,.int .i64 a.1,.int .i64 a.2]
theorem ZbL {σ σ':AS} {a:Addr} {n:Nat} (h:σ'.get a.block=σ.get a.block):Zav σ' a n=Zav σ a n:=by unfold Zav;rw [h]
theorem RMv.kept {lo:Nat}:Kept 75 (RMv lo):=fun σ s cs x h hn hg=>by
 obtain ⟨mb,mc,h1,h2,h3,h4,h5,h6⟩:=h;have e:=hg mb h3 fun h7=>absurd (h5.symm.trans h7.2) (by decide)
 exact ⟨mb,mc,h1,h2,by omega,by rw [e];exact h4,by rw [e];exact h5,by rw [ZbL (a:=⟨mb,0,none⟩) e];exact h6⟩
theorem ZbV {P:Program} {σ:AS} {b c z:Nat} {cs:List Value} (h:Zav σ ⟨b,0,none⟩ z=some cs):∀inf:TypeInfo,inf.size=z→Zbd P σ false inf (slc b 1 c)=some (1,cs):=fun inf hi=>by
 unfold Zbd;simp only [Bool.false_eq_true,if_false,hi,Zbh,Nat.one_mul,h]
def vMv (c e t:Int):Value:=.agg #[.int .i64 c,.int .i64 e,.int .i64 t]
theorem bldMv {c e t:Int}:Zdb Tryz.prog 125 [(0,.int .i64 c),(1,.int .i64 e),(2,.int .i64 t)]=some (vMv c e t):=by kernel_rfl
theorem ZqW {σ:AS} {c e t:Int}:Zaz Tryz.prog σ 75 1 [(0,vMv c e t)]=some (slc σ.next 1 1,σ.new ⟨1,125,0,[.int .i64 c,.int .i64 e,.int .i64 t],[]⟩):=by kernel_rfl
theorem ZqX {σ:AS} {b c:Nat}:Zaz Tryz.prog σ 121 1 [(0,slc b 1 c)]=some (slc σ.next 1 1,σ.new ⟨1,75,0,[slc b 1 c],[]⟩):=by kernel_rfl
theorem ZqY {σ:AS}:Zaz Tryz.prog σ 121 1 [(0,.slice none 0 0)]=some (slc σ.next 1 1,σ.new ⟨1,75,0,[.slice none 0 0],[]⟩):=by kernel_rfl
theorem Zr3 {σ:AS}:ZcB Tryz.prog U.KA 0 100 141 [.slice none 0 0] σ=some (.slice none 0 0,σ):=by kernel_rfl
theorem Znb {σ:AS} {d:MD} {L:Lts} {E:List Int} {s:Value} {t pb pc:Nat} {e:Int} {row:List Arc} (hM:Mach σ d L E) (hs:St σ s t) (hp1:pb<σ.next) (hp2:Zav σ ⟨pb,0,none⟩ 1=some [.int .i64 e]) (he:0≤e) (hrow:L[t]?=some row) (hl:row.length≤100) :
  C Tryz.prog Kn 0 105 [d.val,s,slc pb 1 pc] σ fun u σ'=>LV 75 1 (RMv σ.next) σ.next σ' u (row.filter fun a=>a.1=e)∧Ext σ σ':=by
 refine C_of (kn (by decide)) Tryz.func105 rfl (zD rfl) ?_
 show W _ _ _ 71 _ _ _ _;unfold Tryz.f105;dsimp only;obtain ⟨sb,sc,rfl,hs1,hs2⟩:=hs;obtain ⟨base,cap,hlv,-⟩:=id hM.rows;repeat apply Zaa
 apply Zad;intro _;simp +decide only [zq,ZaI,↓Zab,↓reduceIte,aOp,Zbm,aRow];rfl;have e1:Ext σ (σ.new ⟨1,35,0,d.val.cells.toList,[]⟩):=Ext.new σ _;have B1:BxAt (σ.new ⟨1,35,0,d.val.cells.toList,[]⟩) 35 σ.next d.cells:=BxAt.new σ _ _;generalize hnx:σ.next=xb at B1;generalize σ.new ⟨1,35,0,d.val.cells.toList,[]⟩=σ1 at e1 B1;repeat apply Zaa
 apply Zad;intro _;simp +decide only [zq,↓Zab,↓reduceIte,aOp,Zar,ZaN,ZqY];rfl;have e2:=Ext.new σ1 ⟨1,75,0,[.slice none 0 0],[]⟩;have B2:BxAt (σ1.new ⟨1,75,0,[.slice none 0 0],[]⟩) 75 σ1.next [.slice none 0 0]:=BxAt.new σ1 _ _;generalize σ1.next=ob at B2;generalize σ1.new ⟨1,75,0,[.slice none 0 0],[]⟩=σ2 at e2 B2;have B1:=B1.ext e2;have e2:=e1.trans e2;repeat apply Zaa
 apply Zad;intro _;simp +decide only [zq,↓Zab,↓reduceIte,aOp,Zan,aevs,Zaf,Tryz.underlying22,goInt,aLen];rfl;repeat apply Zaa
 refine ZaM (Zbk ?_);have d1:decide ((0:Int)<((1:Nat):Int))=true:=by decide
 have lt1:(0:Int)<1:=by decide
 repeat apply Zaa
 apply Zad;intro _;simp +decide only [zq,↓Zab,↓reduceIte,aOp,Zah,U.lssI];rfl;repeat apply Zaa
 refine ZaQ (by simp +decide only [zq,decide_true]) ?_
 apply Zak;refine ZaM ?_;have ix0:Zal Tryz.prog 22 (slc pb 1 pc) (.int .i64 0)=some (.pointer (some ⟨pb,0,none⟩)):=idxI (i:=0) (by omega)
 have ldp:Zat Tryz.prog σ2 3 (.pointer (some ⟨pb,0,none⟩))=some (.int .i64 e):=Zaw Tryz.underlying3 rfl (by rw [e2.cells (a:=⟨pb,0,none⟩) hp1];exact hp2)
 have dE:decide (e<0)=false:=zI (by omega)
 repeat apply Zaa
 apply Zad;intro _;simp +decide only [zq,↓Zab,↓reduceIte,aOp,Zae,Zag,ix0,ldp];rfl;repeat apply Zaa
 apply Zad;intro _;simp +decide only [zq,↓Zab,↓reduceIte,aOp,Zah,U.lssI,dE];rfl;repeat apply Zaa
 refine ZaC (by simp +decide only [zq,decide_true]) ?_
 apply Zak;repeat apply Zaa
 apply Zad;intro _;simp +decide only [zq,↓Zab,↓reduceIte,aOp];rfl;repeat apply Zaa
 apply Zad;intro _;simp +decide only [zq,↓Zab,↓reduceIte,aOp,Zan,aevs,Zaf,Tryz.underlying121,goInt,aLen];rfl;repeat apply Zaa
 refine ZaM (Zbk ?_);repeat apply Zaa
 apply Zad;intro _;simp +decide only [zq,↓Zab,↓reduceIte,aOp,Zah,U.lssI];rfl;repeat apply Zaa
 refine ZaQ (by simp +decide only [zq,decide_true]) ?_
 apply Zak;refine ZaM ?_;have ixo:Zal Tryz.prog 121 (slc ob 1 1) (.int .i64 0)=some (.pointer (some ⟨ob,0,none⟩)):=Zp6 (i:=0) (by omega)
 have ldo:Zat Tryz.prog σ2 75 (.pointer (some ⟨ob,0,none⟩))=some (.slice none 0 0):=Zaw Tryz.underlying75 rfl (B2.cell (i:=0) rfl);repeat apply Zaa
 apply Zad;intro _;simp +decide only [zq,↓Zab,↓reduceIte,aOp,Zae,Zag,ixo,ldo];rfl;have HM:=hM.ext (e2.trans (Ext.reset σ2));have BM:=B1.ext (Ext.reset σ2);have ixc:Zal Tryz.prog 32 (slc d.bc 1 d.cc) (.int .i64 0)=some (.pointer (some ⟨d.bc,0,none⟩)):=ZoL (i:=0) (by omega)
 have ixs:Zal Tryz.prog 22 (slc sb 2 sc) (.int .i64 1)=some (.pointer (some ⟨sb,1,none⟩)):=idxI (i:=1) (by omega)
 have lds:Zat Tryz.prog σ2.reset 3 (.pointer (some ⟨sb,1,none⟩))=some (.int .i64 (t:Int)):=Zaw Tryz.underlying3 rfl (Zbq (by rw [(e2.trans (Ext.reset σ2)).cells (a:=⟨sb,0,none⟩) hs1];exact hs2) (i:=1) rfl (by omega))
 have w1:IntKind.i64.wrap (1+0)=1:=by decide
 have hlv2:=hM.rows;rw [hlv] at hlv2;obtain ⟨-,b0,off0,rw0,rfl,-,hld,hrw⟩:=ZiZ hlv2 hrow;obtain ⟨rb,rc,rfl,-⟩:=id hrw;have ht:t<L.length:=(zE.1 hrow).1;have ixt:=Zia (b:=b0) (off:=off0) (cap:=cap) ht;have lvv:=HM.lv;rw [hlv] at lvv;repeat apply Zaa
 refine Za8 [] [] (by kernel_rfl) (by kernel_rfl) ?_
 apply ZaO;intro _;simp +decide only [zq,zr,aQ,↓Zab,↓reduceIte,aOp,Zah,Zan,Zae,Zac,Zag,aevs,Zaf,ZgC,Mach.ldC BM,ixc,ZmU,fldL,lvv,U.addI,w1,ixs,lds,ixt,hld _ (e2.trans (Ext.reset σ2)),Tryz.underlying44,goInt,aLen];rfl;have e3:Ext σ2 (σ2.merge σ2.reset):=(Ext.refl _).merge;generalize σ2.merge σ2.reset=σ3 at e3;have e3:=e2.trans e3;show W _ _ _ 71 _ _ _ _;refine Zao ?_;repeat apply Zaa
 refine Zbs (fun (i:Nat) r σ'=>i≤row.length∧Ext σ σ'∧(∃v,rget r 10=v∧LV 75 1 (RMv σ.next) σ.next σ' v ((row.take i).filter fun a=>a.1=e))∧rget r 8=.int .i64 0∧rget r 9=.int .i64 e∧rget r 12=.slice none 0 0∧rget r 17=.int .i64 ((1:Nat):Int)∧rget r 18=.int .i64 0∧rget r 26=.int .i64 ((1:Nat):Int)∧rget r 27=.int .i64 0∧rget r 44=.slice rb row.length rc∧rget r 45=.int .i64 (row.length:Int)∧rget r 46=.int .i64 (i:Int))
  (fun i=>row.length-i) (fun r σ'=>Ext σ σ'∧(∃v,rget r 10=v∧LV 75 1 (RMv σ.next) σ.next σ' v (row.filter fun a=>a.1=e))∧rget r 17=.int .i64 ((1:Nat):Int)∧rget r 18=.int .i64 0∧rget r 26=.int .i64 ((1:Nat):Int)∧rget r 27=.int .i64 0) ?_ ?_ 0 ?_
 rotate_left 2
 ·simp +decide only [zq];refine ⟨zH _,e3,⟨_,rfl,LV.nil⟩,?_,?_,?_,?_,?_,?_,?_,?_,?_,?_⟩<;>first|exact True.intro|rfl
 rotate_left
 ·rintro r σ4 ⟨e4,⟨v,h10,hv⟩,h17,h18,h26,h27⟩;have w01:IntKind.i64.wrap (0+1)=1:=by decide
  have d11:decide ((1:Int)<((1:Nat):Int))=false:=by decide
  refine Zap ⟨fun _=>?_,fun h=>absurd rfl h⟩;refine Zao ?_;repeat apply Zaa
  apply Zad;intro _;simp +decide only [zq,↓Zab,↓reduceIte,aOp,Zah,h27,U.addI,w01];rfl;refine Zap ⟨fun _=>?_,fun h=>absurd rfl h⟩;refine Zbk ?_;repeat apply Zaa
  apply Zad;intro _;simp +decide only [zq,↓Zab,↓reduceIte,aOp,Zah,U.lssI,h26];rfl;repeat apply Zaa
  refine ZaC (by simp +decide only [zq,decide_false]) ?_
  refine ZaA ⟨fun h=>(nomatch h),fun _=>⟨fun _=>?_,fun h1 h2=>absurd rfl h2⟩⟩;refine Zao ?_;repeat apply Zaa
  apply Zad;intro _;simp +decide only [zq,↓Zab,↓reduceIte,aOp,h10];rfl;refine Zap ⟨fun _=>?_,fun h=>absurd rfl h⟩;refine Zao ?_;repeat apply Zaa
  apply Zad;intro _;simp +decide only [zq,↓Zab,↓reduceIte,aOp,Zah,h18,U.addI,w01];rfl;refine Zap ⟨fun _=>?_,fun h=>absurd rfl h⟩;refine Zbk ?_;repeat apply Zaa
  apply Zad;intro _;simp +decide only [zq,↓Zab,↓reduceIte,aOp,Zah,U.lssI,h17];rfl;repeat apply Zaa
  refine ZaC (by simp +decide only [zq,decide_false]) ?_
  refine ZaA ⟨fun h=>(nomatch h),fun _=>⟨fun _=>?_,fun h1 h2=>absurd rfl h2⟩⟩;repeat apply Zaa
  apply Zad;intro _;simp +decide only [zq,↓Zab,↓reduceIte,aOp];rfl;refine ZaL ⟨zA _,[v],?_,by rw [←hnx];exact hv,e4⟩
  simp +decide only [zq,Zaj]
 rintro i r σ4 ⟨hi,e4,⟨v,h10,hv⟩,h8,h9,h12,h17,h18,h26,h27,h44,h45,h46⟩;have w2:IntKind.i64.wrap ((i:Int)+1)=((i+1:Nat):Int):=by rw [Zas _ (by omega) (by omega)];omega
 by_cases hlt:i<row.length
 rotate_left
 ·have dl:decide ((i:Int)<(row.length:Int))=false:=zI (by omega)
  repeat apply Zaa
  apply Zad;intro _;simp +decide only [zq,↓Zab,↓reduceIte,aOp,Zah,h45,h46,dl,U.lssI];rfl;repeat apply Zaa
  refine ZaC (by simp +decide only [zq]) ?_
  refine ZaA ⟨fun h=>(nomatch h),fun _=>⟨e4,⟨v,?_,?_⟩,?_,?_,?_,?_⟩,fun h1 h2=>absurd rfl h2⟩;rotate_left
  ·rw [zJ (by omega)] at hv;exact hv
  all_goals simp +decide only [zq,h10,h17,h18,h26,h27]
 have dl:decide ((i:Int)<(row.length:Int))=true:=zM (by omega)
 repeat apply Zaa
 apply Zad;intro _;simp +decide only [zq,↓Zab,↓reduceIte,aOp,Zah,h45,h46,dl,U.lssI];rfl;repeat apply Zaa
 refine ZaQ (by simp +decide only [zq]) ?_
 apply Zak;refine ZaM ?_;obtain ⟨a,ha⟩:∃a,row[i]?=some a:=⟨row[i],by simp [hlt]⟩
 obtain ⟨-,b1,off1,rfl,-,hat⟩:=Zfm hrw ha;have htk:row.take (i+1)=row.take i++[a]:=by rw [zT,ha];rfl
 repeat apply Zaa
 apply Zad;intro _;simp +decide only [zq,↓Zab,↓reduceIte,aOp,Zae,Zag,ZaE,unn,h44,h46,Zfh hlt,(hat _ e4).1,Zgp,Zf6];rfl;have AY:=decl_at σ4 a;have ed:=decl_ext σ4 a;generalize hab:σ4.next=ab at AY;generalize decl σ4 a=σ5 at AY ed;have e5:=e4.trans ed;have hv5:=hv.ext RMv.kept ed;by_cases hev:a.1=e;rotate_left
 ·have dq:(a.1 == e)=false:=by rw [beq_eq_false_iff_ne];exact hev
  repeat apply Zaa
  apply Zad;intro _;simp +decide only [zq,↓Zab,↓reduceIte,aOp,Zah,Zac,Zag,h9,fld0,AY.ev,U.eqII,dq];rfl;refine Zao ?_;repeat apply Zaa
  refine ZaC (by simp +decide only [zq]) ?_
  apply Zak;refine Zap ⟨fun _=>?_,fun h=>absurd rfl h⟩;refine Zao ?_;repeat apply Zaa
  apply Zad;intro _;simp +decide only [zq,↓Zab,↓reduceIte,aOp,Zah,h46,U.addI,w2];rfl;refine Zap ⟨fun _=>⟨i+1,by omega,hlt,e5,⟨v,?_,?_⟩,?_,?_,?_,?_,?_,?_,?_,?_,?_,?_⟩,fun h=>(nomatch h),fun h=>absurd rfl h⟩
  rotate_left
  ·rw [htk,List.filter_append];have:[a].filter (fun a=>decide (a.1=e))=[]:=by simp [hev]
   rw [this,List.append_nil];exact hv5
  all_goals simp +decide only [zq,h8,h9,h10,h12,h17,h18,h26,h27,h44,h45]
 have dq:(a.1 == e)=true:=by rw [beq_iff_eq];exact hev
 repeat apply Zaa
 apply Zad;intro _;simp +decide only [zq,↓Zab,↓reduceIte,aOp,Zah,Zac,Zag,h9,fld0,AY.ev,U.eqII,dq];rfl;refine Zao ?_;repeat apply Zaa
 refine ZaQ (by simp +decide only [zq]) ?_
 repeat apply Zaa
 refine Za8 [6] [ab] (by kernel_rfl) (by kernel_rfl) ?_
 apply Zau 2;intro _;simp +decide only [zq,zr,List.take,aQ,↓Zab,↓reduceIte,aOp,h10,h12];rfl;dsimp only [List.drop,List.take,List.length];have e6:Ext σ5 (σ5.merge σ5.reset):=(Ext.refl _).merge;generalize σ5.merge σ5.reset=σ6 at e6;refine Zbx (vs:=[.slice none 0 0]) (by simp +decide only [zq,aevs]) (by decide) rfl (C.mono (ZnQ (Q:=fun v s=>v=.slice none 0 0∧s=σ6.reset) Zr3 ⟨rfl,rfl⟩) ?_)
 rintro u s1 ⟨rfl,rfl⟩;refine ⟨zA _,?_⟩;have e7:Ext σ6 (σ6.merge σ6.reset):=(Ext.refl _).merge;generalize σ6.merge σ6.reset=σ7 at e7;apply Zau 3;intro _;simp +decide only [zq,zr,List.take,aQ,↓Zab,↓reduceIte,aOp,Zac,h8,h9,fld1];rfl;dsimp only [List.drop,List.take,List.length];have e8:Ext σ7 (σ7.merge σ7.reset):=(Ext.refl _).merge;generalize σ7.merge σ7.reset=σ8 at e8;have e8':=e6.trans (e7.trans e8);refine ZaZ (b:=ab) (off:=1) (v:=.int .i64 a.2) (by simp +decide only [zq]) (AY.ext (e8'.trans (Ext.reset σ8))).to (by rw [ZgV,ZgW];simp) (e8'.lt AY.lt) (by simp [memb]) (by decide) ?_
 have e9:Ext σ8 (σ8.merge σ8.reset):=(Ext.refl _).merge;generalize σ8.merge σ8.reset=σ9 at e9;apply Zau 1;intro _;simp +decide only [zq,zr,List.take,aQ,↓Zab,↓reduceIte,aOp,Zbl,ZaN,bldMv];rfl;dsimp only [List.drop,List.take,List.length];have f9:Ext σ9 (σ9.merge σ9.reset):=(Ext.refl _).merge;generalize σ9.merge σ9.reset=τ9 at f9;have e9:=e9.trans f9;apply Zau 1;intro _;simp +decide only [zq,zr,List.take,aQ,↓Zab,↓reduceIte,aOp,Zar,ZaN,ZqW];rfl;dsimp only [List.drop,List.take,List.length];have e10:Ext τ9 (τ9.merge (τ9.reset.new ⟨1,125,0,[.int .i64 0,.int .i64 e,.int .i64 a.2],[]⟩)):=Ext.merge (Ext.new _ _);have B10:BxAt (τ9.merge (τ9.reset.new ⟨1,125,0,[.int .i64 0,.int .i64 e,.int .i64 a.2],[]⟩)) 125 τ9.next [.int .i64 0,.int .i64 e,.int .i64 a.2]:=⟨zG _,(AS.get_new τ9.reset _ τ9.reset.next).trans (if_pos rfl)⟩;generalize hlb:τ9.next=lb at B10;generalize τ9.merge (τ9.reset.new ⟨1,125,0,[.int .i64 0,.int .i64 e,.int .i64 a.2],[]⟩)=σ10 at e10 B10;have E10:=e8'.trans (e9.trans e10);obtain ⟨v1,s,q1,q2,q3,q4,q5,q6⟩:=Stk.push (P:=Tryz.prog) (lo:=σ10.next) (σ:=σ10.reset) (x:=slc lb 1 1) (m:=1) (new:=[.int .i64 0,.int .i64 e,.int .i64 a.2]) elMo (v:=.slice none 0 0) (k:=0) (cs:=[]) ⟨rfl,rfl,.inl ⟨rfl,rfl⟩⟩ (zA _)
  (ZbV (by rw [(Ext.reset σ10).cells (a:=⟨lb,0,none⟩) B10.lt];exact Zaq B10.get rfl (zA _))) rfl rfl (by omega)
 have hq5:σ10.next≤s.low:=q5 _ (zA _) (zA _);obtain ⟨mb,mc,rfl,hm1,hm2⟩:=StkC.at (.inr q2) (i:=0) (by omega)
 have hmo:=q2.own (i:=mb) ⟨_,_,rfl⟩;have hnil:∀i,¬Own (.slice none 0 0) i:=fun i hi=>by obtain ⟨_,_,h⟩:=hi;cases h
 have e11:Ext σ10 (σ10.merge s):=⟨q3,fun i hi=>q4 i hi (hnil i),fun m h1 h2=>Nat.le_min.2 ⟨h1,zB h2 hq5⟩⟩;refine Zsf (v:=slc mb 1 mc) (s1:=s) (by intro callf;simp +decide only [zq,↓reduceIte,aOp,Zan,aevs,Zaf,q1]) (by decide) rfl hq5 ?_
 have M11:RMv σ.next (σ10.merge s) [slc mb 1 mc] a:=⟨mb,mc,rfl,zB (e5.trans E10).nxt hmo.1,hm1,by rw [Zb3,hmo.2.2.1];decide,by rw [Zb3];exact hmo.2.2.2,by rw [hev];exact hm2⟩
 generalize σ10.merge s=σ11 at e11 M11;apply Zau 1;intro _;simp +decide only [zq,zr,List.take,aQ,↓Zab,↓reduceIte,aOp,Zar,ZaN,ZqX];rfl;dsimp only [List.drop,List.take,List.length];have e12:Ext σ11 (σ11.merge (σ11.reset.new ⟨1,75,0,[slc mb 1 mc],[]⟩)):=Ext.merge (Ext.new _ _);have B12:BxAt (σ11.merge (σ11.reset.new ⟨1,75,0,[slc mb 1 mc],[]⟩)) 75 σ11.next [slc mb 1 mc]:=⟨zG _,(AS.get_new σ11.reset _ σ11.reset.next).trans (if_pos rfl)⟩;generalize hlc:σ11.next=lc at B12;generalize σ11.merge (σ11.reset.new ⟨1,75,0,[slc mb 1 mc],[]⟩)=σ12 at e12 B12;have E12:=E10.trans (e11.trans e12);have hv12:=hv5.ext RMv.kept (E12.trans (Ext.reset σ12));have M12:=RMv.kept.ext (e12.trans (Ext.reset σ12)) M11;obtain ⟨v2,s2,p1,p2,p3,p4,p5,p6⟩:=hv12.push (T:=121) elMs RMv.kept ((e5.trans E12).nxt) (x:=a) (y:=slc lc 1 1) (new:=[slc mb 1 mc])
  (ZbV (by rw [(Ext.reset σ12).cells (a:=⟨lc,0,none⟩) B12.lt];exact Zaq B12.get rfl (zA _))) rfl rfl M12 (by have:=List.length_filter_le (fun a:Arc=>decide (a.1=e)) (row.take i);have:=List.length_take_le i row;omega)
 obtain ⟨va2,vc2,hv2e⟩:=p2.len;have e13:Ext σ (σ12.merge s2):=ZfJ (e5.trans E12) (Zbt ((e5.trans E12).trans (Ext.reset σ12)) p3 p4 p5 fun j hj=>(hv12.own hj).1);refine Zq2 (v:=v2) (s1:=s2) (by intro callf;simp +decide only [zq,↓reduceIte,aOp,Zan,aevs,Zaf,p1]) (by decide) rfl (by kernel_rfl) (fun x hx hlt=>by
  rw [List.mem_singleton.1 hx];refine p4 ab (E12.lt AY.lt) fun ho=>?_;have h1:=(hv12.own ho).2.2.1;have h2:(σ12.reset.get ab)=(σ12.get ab):=rfl;rw [h2,E12.get ab AY.lt,AY.get] at h1;exact absurd (show (1:Nat)=2 from h1) (by decide)) ?_
 have p2:LV 75 1 (RMv σ.next) σ.next (σ12.merge s2) v2 ((row.take i).filter (fun a=>decide (a.1=e))++[a]):=p2;generalize σ12.merge s2=σ13 at e13 p2;apply ZaO;intro _;simp +decide only [zq,zr,aQ,↓Zab,↓reduceIte,aOp];rfl;have e14:Ext σ13 (σ13.merge σ13.reset):=(Ext.refl _).merge;generalize σ13.merge σ13.reset=σ14 at e14;have p3':=p2.ext RMv.kept e14;have e14:=e13.trans e14;show W _ _ _ 71 _ _ _ _;refine Zap ⟨fun _=>?_,fun h=>absurd rfl h⟩;refine Zao ?_;repeat apply Zaa
 apply Zad;intro _;simp +decide only [zq,↓Zab,↓reduceIte,aOp,Zah,h46,U.addI,w2];rfl;refine Zap ⟨fun _=>⟨i+1,by omega,hlt,e14,⟨v2,?_,?_⟩,?_,?_,?_,?_,?_,?_,?_,?_,?_,?_⟩,fun h=>(nomatch h),fun h=>absurd rfl h⟩
 rotate_left
 ·rw [htk,List.filter_append];have:[a].filter (fun a=>decide (a.1=e))=[a]:=by simp [hev]
  rw [this];exact p3'
 all_goals simp +decide only [zq,h8,h9,h10,h12,h17,h18,h26,h27,h44,h45]
open Abs
theorem ZrS:El Tryz.prog 22 3 1:=⟨Tryz.underlying22,⟨(Tryz.prog.info? 3).get!,(((Tryz.prog.info? 3).get!).zero).get!,by kernel_rfl,by kernel_rfl,zD (by kernel_rfl),by kernel_rfl,by kernel_rfl,by kernel_rfl⟩,by decide⟩
theorem ZgX {lo:Nat} {σ:AS} {v:Value} {k i:Nat} {cs:List Value} (h:Stk lo 3 1 σ v k cs) (hi:i<k) (x:Int):∃b c B,v=slc b k c∧lo≤b∧b<σ.next∧ZaK Tryz.prog σ 3 (.int .i64 x) (.pointer (some ⟨b,i,none⟩))=some (σ.put b B)∧Stk lo 3 1 (σ.put b B) v k (cs.set i (.int .i64 x)):=by
 obtain ⟨c1,c2,⟨rfl,rfl⟩|⟨b,n,vals,rfl,h4,h5,h6,h7,h8,h9⟩⟩:=h
 ·omega
 ·have hl:i+1≤vals.length:=by omega
  refine ⟨b,Zax+n,⟨2,3,1,vals.set i (.int .i64 x),[]⟩,rfl,h5,h6,?_,by rw [List.length_set];exact c1,?_,.inr ⟨b,n,vals.set i (.int .i64 x),rfl,h4,h5,h6,by rw [AS.get_put,if_pos rfl],by rw [List.length_set];exact h8,by rw [←h9,List.take_set]⟩⟩
  ·obtain ⟨inf,hi2,hs⟩:=sz3;have hz:Nat.beq (Value.int .i64 x).cells.size 1=true∧(Value.int .i64 x).cells.toList=[.int .i64 x]∧one (Value.int .i64 x)=true:=⟨rfl,rfl,rfl⟩;unfold ZaK;simp only [hi2,hs,hz.1,if_true,hz.2.1];unfold Zbc;simp only [h7,ZaJ,List.length_cons,List.length_nil,Nat.zero_add,List.all_cons,List.all_nil,hz.2.2];rw [ZbF hl,ZaP,Zbe];rfl
  ·rw [List.all_eq_true] at c2 ⊢;intro y hy;rcases List.mem_or_eq_of_mem_set hy with h|h
   ·exact c2 y h
   ·rw [h];rfl
theorem Zrc {σ:AS}:Zaz Tryz.prog σ 22 0 []=some (.slice (some ⟨σ.next,0,none⟩) 0 0,σ.new ⟨1,3,0,[],[]⟩):=by kernel_rfl
theorem Zjm {σ:AS} {x:Value} {n:Nat} {cs:List Value} {b0:Nat} (hx:∀inf:TypeInfo,inf.size=1→Zbd Tryz.prog σ false inf x=some (n,cs)) (hp:0<n) (hn:n≤1000000) (hl:cs.length=n) (hb:σ.get b0=⟨1,3,0,[],[]⟩) :
  ZaU Tryz.prog σ #[22,22] (.slice (some ⟨b0,0,none⟩) 0 0) x=some (.slice (some ⟨σ.next,0,none⟩) n (Zax+n),σ.new ⟨2,3,1,cs,[]⟩):=by
 obtain ⟨inf,z,h1,h2,h3,h4,h5,h6⟩:∃inf z,Tryz.prog.info? 3=some inf∧inf.size=1∧inf.bytes=8∧inf.zero=some z∧z.cells.size=1∧flat z=true:=
  ⟨(Tryz.prog.info? 3).get!,(((Tryz.prog.info? 3).get!).zero).get!,by kernel_rfl,by kernel_rfl,by kernel_rfl,by kernel_rfl,by kernel_rfl,by kernel_rfl⟩
 have hs:=hx inf h2;have hc:Zav σ ⟨b0,0,none⟩ 0=some []:=Zaq hb rfl (zA _);have d1:Nat.beq (1:Nat) 0=false:=rfl;have d2:Nat.beq (1:Nat) 1=true:=rfl;have d3:Nat.ble ((4*n+4000)*8) 281474976710656=true:=ZbF (by omega)
 have d4:Nat.ble n 1000000000000=true:=ZbF (by omega)
 have d5:Nat.beq cs.length (n*1)=true:=by rw [hl,Nat.mul_one];exact Nat.beq_refl _
 have d6:Nat.ble n 0=false:=Zjj hp;unfold ZaU;simp only [List.getElem?_toArray,List.getElem?_cons_zero,List.getElem?_cons_succ,Tryz.underlying22,h1,h2,h3,h4,h5,h6,hs,d1,d2,Nat.zero_add,d3,d4,d5,d6,ZbR,Zd8,Nat.zero_mul,Zbh,hc,Bool.not_true,Bool.false_eq_true,if_false,List.nil_append];rfl
theorem nilI {xo yo:Operand} {b off n c:Nat}:aBin Tryz.prog .eql 22 xo yo (.slice (some ⟨b,off,none⟩) n c) (.slice none 0 0)=some (.bool false):=by kernel_rfl
theorem Zm3 {σ:AS} {b c n:Nat} {cs:List Value} (hb:b<σ.next) (hc:Zav σ ⟨b,0,none⟩ n=some cs) (hn:0<n) (hl:n≤1000) (h1:cs.all one=true) (hcl:cs.length=n) :
  C Tryz.prog Kn 0 56 [slc b n c] σ fun u σ'=>Stk σ.next 3 1 σ' u n cs∧Ext σ σ':=by
 refine C_of (kn (by decide)) Tryz.func56 rfl (zD rfl) ?_
 show W _ _ _ 8 _ _ _ _;unfold Tryz.f56;dsimp only;repeat apply Zaa
 apply Zad;intro _;simp +decide only [zq,ZaI,↓Zab,↓reduceIte,aOp];rfl;repeat apply Zaa
 apply Zad;intro _;simp +decide only [zq,↓Zab,↓reduceIte,aOp,Zah,nilI];rfl;repeat apply Zaa
 refine ZaC (by simp +decide only [zq]) ?_
 apply Zak;have e1:=Ext.new σ ⟨1,3,0,[],[]⟩;have g1:(σ.new ⟨1,3,0,[],[]⟩).get σ.next=⟨1,3,0,[],[]⟩:=by rw [AS.get_new,if_pos rfl]
 have hx:∀inf:TypeInfo,inf.size=1→Zbd Tryz.prog (σ.new ⟨1,3,0,[],[]⟩) false inf (slc b n c)=some (n,cs):=fun inf hi=>by
  unfold Zbd;simp only [Bool.false_eq_true,if_false,hi,Zbh,Nat.mul_one,e1.cells (a:=⟨b,0,none⟩) hb,hc]
 have ap:=Zjm hx hn (by omega) hcl g1
 repeat apply Zaa
 apply Zad;intro _;simp +decide only [zq,↓Zab,↓reduceIte,aOp,Zan,Zar,aevs,ZaN,Zaf,Zrc,ap];rfl;generalize σ.new ⟨1,3,0,[],[]⟩=s1 at e1;refine ZaL ⟨zA _,[.slice (some ⟨s1.next,0,none⟩) n (Zax+n)],?_,?_,e1.trans (Ext.new _ _)⟩
 ·simp +decide only [zq,Zaj]
 ·exact ⟨by rw [hcl,Nat.mul_one],h1,.inr ⟨s1.next,n,cs,rfl,zA _,e1.nxt,zG _,by rw [AS.get_new,if_pos rfl],by omega,by rw [Nat.mul_one,←hcl,List.take_length]⟩⟩
open Abs
structure FK (E:Nat) (σ s:AS):Prop where
 nxt:σ.next≤s.next
 get:∀i,i<σ.next→¬((σ.get i).kind=2∧(σ.get i).elem=E)→s.get i=σ.get i
theorem FK.of {E:Nat} {σ s:AS} (e:Ext σ s):FK E σ s:=⟨e.nxt,fun i hi _=>e.get i hi⟩
theorem FK.trans {E:Nat} {σ s u:AS} (h:FK E σ s) (k:FK E s u):FK E σ u:=
 ⟨zB h.nxt k.nxt,fun i hi hn=>(k.get i (zC hi h.nxt) (by rw [h.get i hi hn];exact hn)).trans (h.get i hi hn)⟩
theorem FK.bx {E t b:Nat} {cs:List Value} {σ s:AS} (h:FK E σ s) (k:BxAt σ t b cs):BxAt s t b cs:=
 ⟨zC k.lt h.nxt,(h.get b k.lt fun h2=>by rw [k.get] at h2;exact absurd (show (1:Nat)=2 from h2.1) (by decide)).trans k.get⟩
theorem FK.lv {α:Type} {E E' z lo:Nat} {R:AS→List Value→α→Prop} {σ s:AS} {v:Value} {l:List α} (h:FK E σ s) (hne:E'≠E) (hR:Kept E R) (k:LV E' z R lo σ v l):LV E' z R lo s v l:=by
 obtain ⟨cs,h1,h2⟩:=k;exact ⟨cs,h1.keep h.nxt fun i ho hi=>h.get i hi fun h3=>hne ((h1.own ho).2.2.2.symm.trans h3.2),fun i x hi=>hR σ s _ x (h2 i x hi) h.nxt h.get⟩
theorem RMv.keptE {lo E:Nat} (hE:E≠125):Kept E (RMv lo):=fun σ s cs x h hn hg=>by
 obtain ⟨mb,mc,h1,h2,h3,h4,h5,h6⟩:=h;have e:=hg mb h3 fun h7=>hE (h7.2.symm.trans h5);exact ⟨mb,mc,h1,h2,by omega,by rw [e];exact h4,by rw [e];exact h5,by rw [ZbL (a:=⟨mb,0,none⟩) e];exact h6⟩
def RSt (lo:Nat) (σ:AS) (cs:List Value) (a:Arc):Prop:=∃nb nc mb mc,cs=[.int .i64 a.1,slc nb 2 nc,slc mb 1 mc]∧
 (lo≤nb∧nb<σ.next∧((σ.get nb).kind=1∨(σ.get nb).kind=2)∧(σ.get nb).elem=3∧Zav σ ⟨nb,0,none⟩ 2=some [.int .i64 0,.int .i64 a.2])∧
 (lo≤mb∧mb<σ.next∧(σ.get mb).kind≠3∧(σ.get mb).elem=125∧Zav σ ⟨mb,0,none⟩ 3=some [.int .i64 0,.int .i64 a.1,.int .i64 a.2])
theorem RSt.keptE {lo E:Nat} (h1:E≠3) (h2:E≠125):Kept E (RSt lo):=fun σ s cs x h hn hg=>by
 obtain ⟨nb,nc,mb,mc,h,⟨a1,a2,a3,a4,a5⟩,b1,b2,b3,b4,b5⟩:=h;have e1:=hg nb a2 fun h7=>h1 (h7.2.symm.trans a4);have e2:=hg mb b2 fun h7=>h2 (h7.2.symm.trans b4);exact ⟨nb,nc,mb,mc,h,⟨a1,by omega,by rw [e1];exact a3,by rw [e1];exact a4,by rw [ZbL (a:=⟨nb,0,none⟩) e1];exact a5⟩,b1,by omega,by rw [e2];exact b3,by rw [e2];exact b4,by rw [ZbL (a:=⟨mb,0,none⟩) e2];exact b5⟩
theorem RSt.kept {lo:Nat}:Kept 77 (RSt lo):=RSt.keptE (by decide) (by decide)
def outL (row:List Arc) (E:List Int) (j:Nat):List Arc:=(E.take j).flatMap fun e=>row.filter fun a=>a.1=e
theorem ZjX {row:List Arc} {E:List Int} {j:Nat} {e:Int} (h:E[j]?=some e):outL row E (j+1)=outL row E j++row.filter fun a=>a.1=e:=by
 unfold outL;rw [zT,h];simp
theorem Zmq {σ:AS} {base:Option Addr} {len cap:Nat} {E:List Int} (h:RS 3 RRule σ (.slice base len cap) E) {j:Nat} {e:Int} (hj:E[j]?=some e) :
  len=E.length∧∃b off p cp,base=some ⟨b,off,none⟩∧b<σ.next∧p<σ.next∧Zav σ ⟨p,0,none⟩ 1=some [.int .i64 e]∧∀σ',Ext σ σ'→Zat Tryz.prog σ' 69 (.pointer (some ⟨b,off+j*3,none⟩))=some (.agg #[slc p 1 cp,.int .i64 e,.int .i64 0]):=by
 obtain ⟨base',cap',eq,hb⟩:=h;cases eq;obtain ⟨b,off,rfl,h2,h3⟩:=hb (fun h=>by rw [h] at hj;simp at hj)
 obtain ⟨cs,h4,p,cp,rfl,h5,h6⟩:=h3 j e hj;refine ⟨rfl,b,off,p,cp,rfl,h2,h5,h6,fun σ' e=>?_⟩;exact ZbK Tryz.underlying69 rfl (i:=(Tryz.prog.info? 69).get!) (by kernel_rfl) (by rw [show ((Tryz.prog.info? 69).get!).size=3 by kernel_rfl,e.cells (a:=⟨b,off+j*3,none⟩) h2];exact h4)
theorem Zjo {σ:AS}:Zcl Tryz.prog σ 69=some (.pointer (some ⟨σ.next,0,none⟩),σ.new ⟨1,69,0,[.slice none 0 0,.int .i64 0,.int .i64 0],[]⟩):=by kernel_rfl
theorem ZiU {σ:AS} {p cp:Nat} {e x:Int}:ZaK Tryz.prog (σ.new ⟨1,69,0,[.slice none 0 0,.int .i64 0,.int .i64 0],[]⟩) 69 (.agg #[slc p 1 cp,.int .i64 e,.int .i64 x]) (.pointer (some ⟨σ.next,0,none⟩))=some (dcl σ 69 [.slice none 0 0,.int .i64 0,.int .i64 0] [slc p 1 cp,.int .i64 e,.int .i64 x]):=
 Zer (n:=3) ⟨(Tryz.prog.info? 69).get!,by kernel_rfl,by kernel_rfl⟩ rfl (by decide) rfl rfl rfl
theorem Zjp {σ:AS}:Zcl Tryz.prog σ 125=some (.pointer (some ⟨σ.next,0,none⟩),σ.new ⟨1,125,0,[.int .i64 0,.int .i64 0,.int .i64 0],[]⟩):=by kernel_rfl
theorem ZiW {σ:AS} {c e t:Int}:ZaK Tryz.prog (σ.new ⟨1,125,0,[.int .i64 0,.int .i64 0,.int .i64 0],[]⟩) 125 (vMv c e t) (.pointer (some ⟨σ.next,0,none⟩))=some (dcl σ 125 [.int .i64 0,.int .i64 0,.int .i64 0] [.int .i64 c,.int .i64 e,.int .i64 t]):=
 Zer (n:=3) ⟨(Tryz.prog.info? 125).get!,by kernel_rfl,by kernel_rfl⟩ rfl (by decide) rfl rfl rfl
theorem bldSt {e:Int} {nb nc mb mc:Nat}:Zdb Tryz.prog 77 [(0,.int .i64 e),(1,slc nb 2 nc),(2,slc mb 1 mc)]=some (.agg #[.int .i64 e,slc nb 2 nc,slc mb 1 mc]):=by kernel_rfl
theorem Zpe {σ:AS} {e:Int} {nb nc mb mc:Nat}:Zaz Tryz.prog σ 41 1 [(0,.agg #[.int .i64 e,slc nb 2 nc,slc mb 1 mc])]=some (slc σ.next 1 1,σ.new ⟨1,77,0,[.int .i64 e,slc nb 2 nc,slc mb 1 mc],[]⟩):=by kernel_rfl
theorem ZjI {lo E b c k:Nat} {σ:AS} {cs:List Value} (h:Stk lo E 1 σ (slc b k c) k cs) (hk:0<k):Zav σ ⟨b,0,none⟩ k=some cs:=by
 obtain ⟨c1,c2,⟨h1,_⟩|⟨b',n,vals,h3,h4,h5,h6,h7,h8,h9⟩⟩:=h
 ·cases h1
 ·cases h3;unfold Zav;simp only [h7,ZaJ];rw [Nat.zero_add,ZbF (by omega),Nat.mul_one] at *
  rw [List.drop_zero,h9];rfl
def Zl9 (cf:FuncId):Prop:=∀{lo:Nat} {σ:AS} {v:Value} {l:List Arc},LV 77 3 (RSt lo) lo σ v l→asc l=true→l.length≤12→C Tryz.prog Kn 0 57 [v,.func (.func cf) #[] #[]] σ fun _ σ'=>Ext σ σ'
def Zmc (cf:FuncId):Prop:=∀{lo:Nat} {σ:AS} {v:Value} {l:List Arc},LV 77 3 (RSt lo) lo σ v l→asc l=true→l.length≤12→C Tryz.prog Kn 0 60 [v,.func (.func cf) #[] #[]] σ fun u σ'=>u=v∧Ext σ σ'
theorem Zmd (hsort:Zl9 74) (hcomp:Zmc 106) {σ:AS} {d:MD} {L:Lts} {E:List Int} {s:Value} {t:Nat} {row:List Arc} (hM:Mach σ d L E) (hs:St σ s t) (hrow:L[t]?=some row) (hl:row.length≤12) (hE:∀e∈E,0≤e) (hEl:E.length≤2000) (hout:outL row E E.length=row) (hasc:asc row=true) :
  C Tryz.prog Kn 0 66 [d.val,s] σ fun u σ'=>(∃lo,σ.next≤lo∧LV 77 3 (RSt lo) lo σ' u row)∧Ext σ σ':=by
 refine C_of (kn (by decide)) Tryz.func66 rfl (zD rfl) ?_
 show W _ _ _ 92 _ _ _ _;unfold Tryz.f66;dsimp only;obtain ⟨sb,sc,rfl,hs1,hs2⟩:=hs;obtain ⟨base,cap,hrv,-⟩:=id hM.rules;repeat apply Zaa
 apply Zad;intro _;simp +decide only [zq,ZaI,↓Zab,↓reduceIte,aOp,Zbm,aRow];rfl;have e1:Ext σ (σ.new ⟨1,35,0,d.val.cells.toList,[]⟩):=Ext.new σ _;have B1:BxAt (σ.new ⟨1,35,0,d.val.cells.toList,[]⟩) 35 σ.next d.cells:=BxAt.new σ _ _;generalize hnx:σ.next=xb at B1;generalize σ.new ⟨1,35,0,d.val.cells.toList,[]⟩=σ1 at e1 B1;repeat apply Zaa
 apply Zad;intro _;simp +decide only [zq,↓Zab,↓reduceIte,aOp];rfl;have HM:=hM.ext (e1.trans (Ext.reset σ1));have BM:=B1.ext (Ext.reset σ1);have ixf:Zal Tryz.prog 33 (slc d.bf 1 d.cf) (.int .i64 0)=some (.pointer (some ⟨d.bf,0,none⟩)):=ZoK (i:=0) (by omega)
 have ixs:Zal Tryz.prog 22 (slc sb 2 sc) (.int .i64 0)=some (.pointer (some ⟨sb,0,none⟩)):=idxI (i:=0) (by omega)
 have lds:Zat Tryz.prog σ1.reset 3 (.pointer (some ⟨sb,0,none⟩))=some (.int .i64 0):=Zaw Tryz.underlying3 rfl (Zbq (by rw [(e1.trans (Ext.reset σ1)).cells (a:=⟨sb,0,none⟩) hs1];exact hs2) (i:=0) rfl (by omega))
 have lrv:=HM.rv;rw [hrv] at lrv;repeat apply Zaa
 refine Za8 [] [] (by kernel_rfl) (by kernel_rfl) ?_
 apply ZaO;intro _;simp +decide only [zq,zr,aQ,↓Zab,↓reduceIte,aOp,Zan,Zae,Zac,Zag,aevs,Zaf,ZeV,Mach.ldF BM,ixs,lds,ixf,ZiA,lrv,Tryz.underlying64,goInt,aLen];rfl;have e2:Ext σ1 (σ1.merge σ1.reset):=(Ext.refl _).merge;generalize σ1.merge σ1.reset=σ2 at e2;show W _ _ _ 92 _ _ _ _;have hne:75≠77:=by decide
 have dlen:∀e:Int,(row.filter fun a=>decide (a.1=e)).length≤12:=fun e=>zB (List.length_filter_le _ _) hl;repeat apply Zaa
 refine Zbs (fun (j:Nat) r σ'=>j≤E.length∧Ext σ1 σ'∧(∃v,rget r 5=v∧LV 77 3 (RSt σ1.next) σ1.next σ' v (outL row E j)∧(outL row E j).length≤j*12)∧rget r 1=slc sb 2 sc∧rget r 2=.pointer (some ⟨xb,0,none⟩)∧rget r 22=.slice base E.length cap∧rget r 23=.int .i64 (E.length:Int)∧rget r 24=.int .i64 (j:Int))
  (fun j=>E.length-j) (fun r σ'=>Ext σ1 σ'∧∃v,rget r 5=v∧LV 77 3 (RSt σ1.next) σ1.next σ' v (outL row E E.length)) ?_ ?_ 0 ?_
 rotate_left 2
 ·simp +decide only [zq];refine ⟨zH _,e2,⟨_,rfl,LV.nil,zA _⟩,?_,?_,?_,?_,?_⟩<;>first|exact True.intro|rfl
 rotate_left
 ·rintro r σ3 ⟨e3,v,h5,hv⟩;rw [hout] at hv;obtain ⟨va,vc,rfl⟩:=hv.len;repeat apply Zaa
  apply ZaF;apply Zay 1;intro _;simp +decide only [zq,List.take,↓Zab,↓reduceIte,aOp,h5];rfl;dsimp only [List.drop];refine ZaV (vs:=[.slice va row.length vc,.func (.func 74) #[] #[]]) (by simp +decide only [zq,aevs]) (by decide) (C.mono (hsort hv hasc hl) ?_)
  rintro u s e4;apply ZaG;intro _;simp +decide only [aOps];rfl;have hv4:=hv.ext RSt.kept e4;generalize s=σ4 at e4 hv4;repeat apply Zaa
  apply ZaF;apply Zay 1;intro _;simp +decide only [zq,List.take,↓Zab,↓reduceIte,aOp,h5];rfl;dsimp only [List.drop];refine ZaV (vs:=[.slice va row.length vc,.func (.func 106) #[] #[]]) (by simp +decide only [zq,aevs]) (by decide) (C.mono (hcomp hv4 hasc hl) ?_)
  rintro u s ⟨rfl,e5⟩;apply ZaG;intro _;simp +decide only [zq,↓Zab,↓reduceIte,aOp];rfl;refine ZaL ⟨zA _,[.slice va row.length vc],?_,⟨σ1.next,by rw [←hnx];exact e1.nxt,hv4.ext RSt.kept e5⟩,e1.trans (e3.trans (e4.trans e5))⟩
  simp +decide only [zq,Zaj]
 rintro j r σ3 ⟨hj,e3,⟨v,h5,hv,hvl⟩,h1,h2,h22,h23,h24⟩;have w2:∀i:Nat,i<100000→IntKind.i64.wrap ((i:Int)+1)=((i+1:Nat):Int):=fun i hi=>by rw [Zas _ (by omega) (by omega)];omega
 by_cases hlt:j<E.length
 rotate_left
 ·have dl:decide ((j:Int)<(E.length:Int))=false:=zI (by omega)
  repeat apply Zaa
  apply Zad;intro _;simp +decide only [zq,↓Zab,↓reduceIte,aOp,Zah,h23,h24,dl,U.lssI];rfl;repeat apply Zaa
  refine ZaC (by simp +decide only [zq]) ?_
  refine ZaA ⟨fun h=>(nomatch h),fun _=>⟨e3,v,?_,?_⟩,fun h1 h2=>absurd rfl h2⟩
  ·simp +decide only [zq,h5]
  ·rw [show E.length=j by omega];exact hv
 have dl:decide ((j:Int)<(E.length:Int))=true:=zM (by omega)
 repeat apply Zaa
 apply Zad;intro _;simp +decide only [zq,↓Zab,↓reduceIte,aOp,Zah,h23,h24,dl,U.lssI];rfl;repeat apply Zaa
 refine ZaQ (by simp +decide only [zq]) ?_
 apply Zak;refine ZaM ?_;obtain ⟨e,he⟩:∃e,E[j]?=some e:=⟨E[j],by simp [hlt]⟩
 have he0:=hE e (zF he);have hru:=hM.rules;rw [hrv] at hru;obtain ⟨-,rb0,ro0,p,cp,rfl,-,hp1,hp2,hldr⟩:=Zmq hru he;repeat apply Zaa
 apply Zad;intro _;simp +decide only [zq,↓Zab,↓reduceIte,aOp,Zae,Zag,ZaE,unn,h22,h24,Zp5 hlt,hldr _ (e1.trans e3),Zjo,ZiU];rfl;have ed:=Zcn σ3 69 [.slice none 0 0,.int .i64 0,.int .i64 0] [slc p 1 cp,.int .i64 e,.int .i64 0];have BR:=Zc9 σ3 69 [.slice none 0 0,.int .i64 0,.int .i64 0] [slc p 1 cp,.int .i64 e,.int .i64 0];generalize hrb:σ3.next=rb at BR;generalize dcl σ3 69 [.slice none 0 0,.int .i64 0,.int .i64 0] [slc p 1 cp,.int .i64 e,.int .i64 0]=σ4 at ed BR;have E4:=e3.trans ed;have B4:=B1.ext E4;have HM4:=hM.ext (e1.trans E4);have ldpp:Zat Tryz.prog σ4 22 (.pointer (some ⟨rb,0,none⟩))=some (slc p 1 cp):=Zaw Tryz.underlying22 rfl (BR.cell (i:=0) rfl);repeat apply Zaa
 apply ZaF;apply Zay 4;intro _;simp +decide only [zq,List.take,↓Zab,↓reduceIte,aOp,Zac,Zag,h1,h2,Mach.ldM B4,ZeU,ldpp];rfl;dsimp only [List.drop];refine ZaV (vs:=[d.val,slc sb 2 sc,slc p 1 cp]) (by simp +decide only [zq,aevs]) (by decide) (C.mono (Znb HM4 ⟨sb,sc,rfl,(e1.trans E4).lt hs1,by rw [(e1.trans E4).cells (a:=⟨sb,0,none⟩) hs1];exact hs2⟩ ((e1.trans E4).lt hp1) (by rw [(e1.trans E4).cells (a:=⟨p,0,none⟩) hp1];exact hp2) he0 hrow (by omega)) ?_)
 rintro mv s ⟨hmv,e5⟩;obtain ⟨ma,mc0,hmve⟩:=hmv.len;subst hmve;generalize s=σ5 at hmv e5;apply ZaG;intro _;simp +decide only [zq,↓Zab,↓reduceIte,aOp,Zan,aevs,Zaf,Tryz.underlying121,goInt,aLen];rfl;have hv5:=hv.ext RSt.kept (ed.trans e5);have E5:=E4.trans e5;have BR5:=BR.ext e5;have hfl:=dlen e;have hos:=ZjX (row:=row) he;generalize hF:(row.filter fun a=>decide (a.1=e))=F at hmv hfl hos;have hFe:∀x∈F,x.1=e:=fun x hx=>by rw [←hF] at hx;simpa using (List.mem_filter.1 hx).2
 refine Zao ?_;repeat apply Zaa
 refine Zbs (fun (i:Nat) r σ'=>i≤F.length∧Ext σ1 σ'∧FK 77 σ5 σ'∧(∃v,rget r 5=v∧LV 77 3 (RSt σ1.next) σ1.next σ' v (outL row E j++F.take i))∧rget r 1=slc sb 2 sc∧rget r 2=.pointer (some ⟨xb,0,none⟩)∧rget r 7=.pointer (some ⟨rb,0,none⟩)∧rget r 22=.slice (some ⟨rb0,ro0,none⟩) E.length cap∧rget r 23=.int .i64 (E.length:Int)∧rget r 24=.int .i64 (j:Int)∧rget r 32=.slice ma F.length mc0∧rget r 33=.int .i64 (F.length:Int)∧rget r 34=.int .i64 (i:Int))
  (fun i=>F.length-i) (fun r σ'=>Ext σ1 σ'∧(∃v,rget r 5=v∧LV 77 3 (RSt σ1.next) σ1.next σ' v (outL row E (j+1)))∧rget r 1=slc sb 2 sc∧rget r 2=.pointer (some ⟨xb,0,none⟩)∧rget r 22=.slice (some ⟨rb0,ro0,none⟩) E.length cap∧rget r 23=.int .i64 (E.length:Int)∧rget r 24=.int .i64 (j:Int)) ?_ ?_ 0 ?_
 rotate_left 2
 ·simp +decide only [zq,h1,h2,h5,h22,h23,h24];refine ⟨zH _,E5,FK.of (Ext.refl _),⟨_,rfl,by rw [List.take_zero,List.append_nil];exact hv5⟩,?_,?_,?_,?_,?_,?_,?_,?_,?_⟩<;>first|exact True.intro|rfl
 rotate_left
 ·rintro r σ6 ⟨e6,⟨v,h5,hv⟩,h1,h2,h22,h23,h24⟩;have hw:=w2 j (by omega)
  refine Zap ⟨fun _=>?_,fun h=>absurd rfl h⟩;refine Zao ?_;repeat apply Zaa
  apply Zad;intro _;simp +decide only [zq,↓Zab,↓reduceIte,aOp,Zah,h24,U.addI,hw];rfl;refine Zap ⟨fun _=>⟨j+1,by omega,hlt,e6,⟨v,?_,hv,?_⟩,?_,?_,?_,?_,?_⟩,fun h=>(nomatch h),fun h=>absurd rfl h⟩
  rotate_left
  ·rw [hos,zS];omega
  all_goals simp +decide only [zq,h1,h2,h5,h22,h23,h24]
 rintro i r σ6 ⟨hi,e6,k6,⟨v,h5,hv⟩,h1,h2,h7,h22,h23,h24,h32,h33,h34⟩;by_cases hlt2:i<F.length;rotate_left
 ·have dl:decide ((i:Int)<(F.length:Int))=false:=zI (by omega)
  repeat apply Zaa
  apply Zad;intro _;simp +decide only [zq,↓Zab,↓reduceIte,aOp,Zah,h33,h34,dl,U.lssI];rfl;repeat apply Zaa
  refine ZaC (by simp +decide only [zq]) ?_
  refine ZaA ⟨fun h=>(nomatch h),fun _=>⟨e6,⟨v,?_,?_⟩,?_,?_,?_,?_,?_⟩,fun h1 h2=>absurd rfl h2⟩;rotate_left
  ·rw [zJ (by omega),←hos] at hv;exact hv
  all_goals simp +decide only [zq,h1,h2,h5,h22,h23,h24]
 have dl:decide ((i:Int)<(F.length:Int))=true:=zM (by omega)
 repeat apply Zaa
 apply Zad;intro _;simp +decide only [zq,↓Zab,↓reduceIte,aOp,Zah,h33,h34,dl,U.lssI];rfl;repeat apply Zaa
 refine ZaQ (by simp +decide only [zq]) ?_
 apply Zak;refine ZaM ?_;obtain ⟨a,ha⟩:∃a,F[i]?=some a:=⟨F[i],by simp [hlt2]⟩
 have hae:=hFe a (zF ha);have htk:F.take (i+1)=F.take i++[a]:=by rw [zT,ha];rfl
 have hmv6:=k6.lv hne (RMv.keptE (by decide)) hmv
 have BR6:=k6.bx BR5;obtain ⟨mvb,mvc,mcs,hmve,hml,hmb,hmc,mb,mc,rfl,hmb1,hmb2,hmb3,hmb4,hmb5⟩:=hmv6.at ha;have ldmv:Zat Tryz.prog σ6 75 (.pointer (some ⟨mvb,i*1,none⟩))=some (slc mb 1 mc):=Zaw Tryz.underlying75 rfl (by rw [Nat.zero_add] at hmc;exact hmc)
 repeat apply Zaa
 apply Zad;intro _;simp +decide only [zq,↓Zab,↓reduceIte,aOp,Zae,Zag,h32,h34,hmve,Zp6 hlt2,ldmv];rfl;repeat apply Zaa
 apply ZaF;apply Zay 1;intro _;simp +decide only [zq,List.take,↓Zab,↓reduceIte,aOp,h1];rfl;dsimp only [List.drop];refine ZaV (vs:=[slc sb 2 sc]) (by simp +decide only [zq,aevs]) (by decide) (C.mono (Zm3 ((e1.trans e6).lt hs1) (by rw [(e1.trans e6).cells (a:=⟨sb,0,none⟩) hs1];exact hs2) (by omega) (by omega) rfl rfl) ?_)
 rintro nx s ⟨hn,e7⟩;apply ZaG;intro _;simp +decide only [zq,↓Zab,↓reduceIte,aOp];rfl;generalize s=σ7 at hn e7;obtain ⟨nb,nc,NB,rfl,hnb1,hnb2,hst0,hn8⟩:=ZgX hn (i:=0) (by omega) 0
 have BR7:=BR6.ext e7;have ixn0:Zal Tryz.prog 22 (slc nb 2 nc) (.int .i64 0)=some (.pointer (some ⟨nb,0,none⟩)):=idxI (i:=0) (by omega)
 have ldr2:Zat Tryz.prog σ7 3 (.pointer (some ⟨rb,2,none⟩))=some (.int .i64 0):=Zaw Tryz.underlying3 rfl (BR7.cell (i:=2) rfl);repeat apply Zaa
 apply Zad;intro _;simp +decide only [zq,↓Zab,↓reduceIte,aOp,Zae,Zac,Zag,ZaE,unn,h7,ZfI,ldr2,ixn0,hst0];rfl;have e8:Ext σ6 (σ7.put nb NB):=Ext.put e7 hnb1 _;generalize σ7.put nb NB=σ8 at e8 hn8;repeat apply Zaa
 apply Zad;intro _;simp +decide only [zq,↓Zab,↓reduceIte,aOp,Zan,aevs,Zaf,Tryz.underlying75,goInt,aLen];rfl;repeat apply Zaa
 refine ZaM (Zbk ?_);have d01:decide ((0:Int)<((1:Nat):Int))=true:=by decide
 have d11:decide ((1:Int)<((1:Nat):Int))=false:=by decide
 have w01:IntKind.i64.wrap (0+1)=1:=by decide
 have w10:IntKind.i64.wrap (1+0)=1:=by decide
 repeat apply Zaa
 apply Zad;intro _;simp +decide only [zq,↓Zab,↓reduceIte,aOp,Zah,U.lssI];rfl;repeat apply Zaa
 refine ZaQ (by simp +decide only [zq,decide_true]) ?_
 apply Zak;refine ZaM ?_;have ixm:Zal Tryz.prog 75 (slc mb 1 mc) (.int .i64 0)=some (.pointer (some ⟨mb,0,none⟩)):=Zp7 (i:=0) (by omega)
 have ldm:Zat Tryz.prog σ8 125 (.pointer (some ⟨mb,0,none⟩))=some (vMv 0 a.1 a.2):=ZbK Tryz.underlying125 rfl (i:=(Tryz.prog.info? 125).get!) (by kernel_rfl) (by rw [show ((Tryz.prog.info? 125).get!).size=3 by kernel_rfl,e8.cells (a:=⟨mb,0,none⟩) hmb2];exact hmb5)
 repeat apply Zaa
 apply Zad;intro _;simp +decide only [zq,↓Zab,↓reduceIte,aOp,Zae,Zag,ZaE,unn,ixm,ldm,Zjp,ZiW];rfl;have e9:=Zcn σ8 125 [.int .i64 0,.int .i64 0,.int .i64 0] [.int .i64 0,.int .i64 a.1,.int .i64 a.2];have BV:=Zc9 σ8 125 [.int .i64 0,.int .i64 0,.int .i64 0] [.int .i64 0,.int .i64 a.1,.int .i64 a.2];generalize hvb:σ8.next=vb at BV;generalize dcl σ8 125 [.int .i64 0,.int .i64 0,.int .i64 0] [.int .i64 0,.int .i64 a.1,.int .i64 a.2]=σ9 at e9 BV;have hn9:=hn8.keep e9.nxt fun q _ hq=>e9.get q hq;obtain ⟨nb',nc',NB2,hnbe,hnb3,hnb4,hst1,hn10⟩:=ZgX hn9 (i:=1) (by omega) a.2
 cases hnbe;have ldv0:Zat Tryz.prog σ9 3 (.pointer (some ⟨vb,0,none⟩))=some (.int .i64 0):=Zaw Tryz.underlying3 rfl (BV.cell (i:=0) rfl);have ldv2:Zat Tryz.prog σ9 3 (.pointer (some ⟨vb,2,none⟩))=some (.int .i64 a.2):=Zaw Tryz.underlying3 rfl (BV.cell (i:=2) rfl);have ixn1:Zal Tryz.prog 22 (slc nb 2 nc) (.int .i64 1)=some (.pointer (some ⟨nb,1,none⟩)):=idxI (i:=1) (by omega)
 refine Zao ?_;repeat apply Zaa
 apply Zad;intro _;simp +decide only [zq,↓Zab,↓reduceIte,aOp,Zah,Zae,Zac,Zag,ZaE,unn,Ziz,Ziy,ldv0,ldv2,U.addI,w10,ixn1,hst1];rfl;have e10:Ext σ6 (σ9.put nb NB2):=Ext.put (e8.trans e9) hnb1 _;generalize σ9.put nb NB2=σ10 at e10 hn10;refine Zap ⟨fun _=>?_,fun h=>absurd rfl h⟩;refine Zao ?_;repeat apply Zaa
 apply Zad;intro _;simp +decide only [zq,↓Zab,↓reduceIte,aOp,Zah,U.addI,w01];rfl;refine Zap ⟨fun _=>?_,fun h=>absurd rfl h⟩;refine Zbk ?_;repeat apply Zaa
 apply Zad;intro _;simp +decide only [zq,↓Zab,↓reduceIte,aOp,Zah,U.lssI];rfl;repeat apply Zaa
 refine ZaC (by simp +decide only [zq,decide_true,decide_false]) ?_
 refine ZaA ⟨fun h=>(nomatch h),fun _=>⟨fun _=>?_,fun h1 h2=>absurd rfl h2⟩⟩;have E10:=e6.trans e10;have B10:=B1.ext E10;have BR10:=BR6.ext e10;have HM10:=hM.ext (e1.trans E10);have ldr:Zat Tryz.prog σ10 3 (.pointer (some ⟨rb,2,none⟩))=some (.int .i64 0):=Zaw Tryz.underlying3 rfl (BR10.cell (i:=2) rfl);repeat apply Zaa
 apply Zad;intro _;simp +decide only [zq,↓Zab,↓reduceIte,aOp,Zan,Zae,Zac,Zag,aevs,Zaf,h2,h7,ZeV,Mach.ldF B10,ZfI,ldr,ixf,Zkn,HM10.al,Tryz.underlying62,goInt,aLen];rfl;repeat apply Zaa
 refine ZaM (Zbk ?_);repeat apply Zaa
 apply Zad;intro _;simp +decide only [zq,↓Zab,↓reduceIte,aOp,Zah,U.lssI];rfl;repeat apply Zaa
 refine ZaQ (by simp +decide only [zq,decide_true,decide_false]) ?_
 apply Zak;refine ZaM ?_;have ixb:Zal Tryz.prog 62 (slc d.ba 1 d.ca) (.int .i64 0)=some (.pointer (some ⟨d.ba,0,none⟩)):=idxB (i:=0) (by omega)
 repeat apply Zaa
 apply Zad;intro _;simp +decide only [zq,↓Zab,↓reduceIte,aOp,Zae,Zag,ixb,HM10.al0];rfl;repeat apply Zaa
 apply Zad;intro _;simp +decide only [zq,↓Zab,↓reduceIte,aOp,opUn,Bool.not_true,not_b];rfl;refine Zao ?_;repeat apply Zaa
 refine ZaC (by simp +decide only [zq,decide_true,decide_false]) ?_
 apply Zak;refine Zap ⟨fun _=>?_,fun h=>absurd rfl h⟩;refine Zao ?_;repeat apply Zaa
 apply Zad;intro _;simp +decide only [zq,↓Zab,↓reduceIte,aOp,Zah,U.addI,w01];rfl;refine Zap ⟨fun _=>?_,fun h=>absurd rfl h⟩;refine Zbk ?_;repeat apply Zaa
 apply Zad;intro _;simp +decide only [zq,↓Zab,↓reduceIte,aOp,Zah,U.lssI];rfl;repeat apply Zaa
 refine ZaC (by simp +decide only [zq,decide_true,decide_false]) ?_
 refine ZaA ⟨fun h=>(nomatch h),fun _=>⟨fun _=>?_,fun h1 h2=>absurd rfl h2⟩⟩;have lde:Zat Tryz.prog σ10 3 (.pointer (some ⟨rb,1,none⟩))=some (.int .i64 e):=Zaw Tryz.underlying3 rfl (BR10.cell (i:=1) rfl);have e11:=Ext.new σ10 ⟨1,77,0,[.int .i64 e,slc nb 2 nc,slc mb 1 mc],[]⟩;have B11:=BxAt.new σ10 77 [.int .i64 e,slc nb 2 nc,slc mb 1 mc];have hno:=hn10.own (i:=nb) ⟨_,_,rfl⟩;have hnc:=ZjI hn10 (by omega)
 have S10:RSt σ1.next σ10 [.int .i64 e,slc nb 2 nc,slc mb 1 mc] a:=⟨nb,nc,mb,mc,by rw [hae],⟨zB e6.nxt hnb1,hno.2.1,.inr hno.2.2.1,hno.2.2.2,hnc⟩,
  ⟨zB E4.nxt hmb1,e10.lt hmb2,by rw [e10.get mb hmb2];exact hmb3,by rw [e10.get mb hmb2];exact hmb4,by rw [e10.cells (a:=⟨mb,0,none⟩) hmb2];exact hmb5⟩⟩
 have hv11:=hv.ext RSt.kept (e10.trans e11);obtain ⟨v2,s2,p1,p2,p3,p4,p5,p6⟩:=hv11.push (T:=41) elSt RSt.kept (E10.trans e11).nxt (x:=a) (y:=slc σ10.next 1 1) (new:=[.int .i64 e,slc nb 2 nc,slc mb 1 mc])
  (ZbV (Zaq B11.get rfl (zA _))) rfl rfl (RSt.kept.ext e11 S10) (by rw [zS,zX];omega)
 have E12:Ext σ1 s2:=Zbt (E10.trans e11) p3 p4 p5 fun q hq=>(hv11.own hq).1;have K12:FK 77 σ5 s2:=k6.trans ((FK.of (e10.trans e11)).trans ⟨p3,fun q hq hn=>p4 q hq fun ho=>hn ⟨(hv11.own ho).2.2.1,(hv11.own ho).2.2.2⟩⟩);refine Zao ?_;repeat apply Zaa
 apply Zad;intro _;simp +decide only [zq,↓Zab,↓reduceIte,aOp,Zan,Zac,Zag,Zar,Zbl,aevs,ZaN,Zaf,h5,h7,Zkm,lde,bldSt,Zpe,p1];rfl;refine Zap ⟨fun _=>?_,fun h=>absurd rfl h⟩;refine Zao ?_;have hw:=w2 i (by omega)
 repeat apply Zaa
 apply Zad;intro _;simp +decide only [zq,↓Zab,↓reduceIte,aOp,Zah,h34,U.addI,hw];rfl;refine Zap ⟨fun _=>⟨i+1,by omega,hlt2,E12,K12,⟨v2,?_,?_⟩,?_,?_,?_,?_,?_,?_,?_,?_,?_⟩,fun h=>(nomatch h),fun h=>absurd rfl h⟩
 rotate_left
 ·rw [htk,←List.append_assoc];exact p2
 all_goals simp +decide only [zq,h1,h2,h7,h22,h23,h24,h32,h33]
end Go.Proofs.YteangeffgjolpaaGreatDoor.Nest
