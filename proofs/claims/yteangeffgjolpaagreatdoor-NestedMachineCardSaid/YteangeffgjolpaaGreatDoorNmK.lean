/- A call that is known by one run over an empty memory: what it makes is laid behind the memory of its caller. No program. -/
import Derived.Test.YteangeffgjolpaaGreatDoorAbsM
import Derived.Laws.IdiomRangeMap
import Derived.Test.YteangeffgjolpaaGreatDoorProg
import Derived.KernelRfl
set_option linter.unusedSimpArgs false
set_option linter.unusedVariables false
namespace Go.Proofs.YteangeffgjolpaaGreatDoor.Abs
noncomputable def shL (f:Value→Option Value):List Value→Option (List Value)
 | []=>some []
 | a::l=>match f a with
  | some b=>match shL f l with
   | some m=>some (b::m)
   | none=>none
  | none=>none
noncomputable def shV (d:Nat):Nat→Value→Option Value
 | 0,_=>none
 | n+1,v=>match v with
  | .pointer (some a)=>some (.pointer (some ⟨a.block+d,a.off,a.spot⟩))
  | .slice (some a) l c=>match a.spot with
   | none=>some (.slice (some ⟨a.block+d,a.off,none⟩) l c)
   | some _=>some (.slice (some a) l c)
  | .map (some r)=>some (.map (some (r+d)))
  | .func fn f c=>match shL (shV d n) f.toList with
   | some f'=>match shL (shV d n) c.toList with
    | some c'=>some (.func fn f'.toArray c'.toArray)
    | none=>none
   | none=>none
  | .iface t x=>match shV d n x with
   | some y=>some (.iface t y)
   | none=>none
  | .agg cs=>match shL (shV d n) cs.toList with
   | some l=>some (.agg l.toArray)
   | none=>none
  | .tuple cs=>match shL (shV d n) cs.toList with
   | some l=>some (.tuple l.toArray)
   | none=>none
  | .chan _=>none
  | v=>some v
structure Moved (τ τ':Ren) (d:Nat):Prop where
 bl:∀i b,τ.bl i=some b→τ'.bl (i+d)=some b
 sz:∀i,τ'.sz (i+d)=τ.sz i
theorem Ze7 {f:Value→Option Value} {R S:Value→Value→Prop} (h:∀a b c,f a=some b→R a c→S b c):∀{l m l':List Value},shL f l=some m→LRel R l l'→LRel S m l'
 | [],m,[],h1,_=>by cases h1;trivial
 | a::l,m,c::l',h1,h2=>by
  simp only [shL] at h1;split at h1
  ·rename_i b hb;split at h1
   ·rename_i k hk;cases h1;exact ⟨h _ _ _ hb h2.1,Ze7 h hk h2.2⟩
   ·cases h1
  ·cases h1
 | [],_,_::_,_,h2=>h2.elim
 | _::_,_,[],_,h2=>h2.elim
theorem ZiY {τ τ':Ren} {d:Nat} (hm:Moved τ τ' d):∀(n:Nat) {v u v':Value},shV d n v=some u→VRel τ v v'→VRel τ' u v'
 | 0,v,u,v',h,_=>by simp [shV] at h
 | n+1,v,u,v',h,hr=>by
  have ih:∀a b c,shV d n a=some b→VRel τ a c→VRel τ' b c:=fun a b c h h'=>ZiY hm n h h';cases v
  case pointer a=>
   cases a with
   | none=>simp only [shV] at h;cases h;exact vrel_ptr_none.2 (vrel_ptr_none.1 hr)
   | some a=>
    simp only [shV] at h;cases h;obtain ⟨b,h1,h2,rfl⟩:=vrel_ptr.1 hr;exact vrel_ptr.2 ⟨b,hm.bl _ _ h1,h2,rfl⟩
  case slice a l c=>
   cases a with
   | none=>simp only [shV] at h;cases h;exact vrel_slice_none.2 (vrel_slice_none.1 hr)
   | some a=>
    simp only [shV] at h;rcases vrel_slice.1 hr with ⟨b,c',h1,h2,h3,rfl⟩|⟨h1,h2,h3,rfl⟩
    ·rw [h2] at h;cases h;exact vrel_slice.2 (.inl ⟨b,c',hm.bl _ _ h1,rfl,by rw [hm.sz];exact h3,rfl⟩)
    ·split at h
     ·rename_i e;exact absurd e h1
     ·cases h;exact vrel_slice.2 (.inr ⟨h1,h2,h3,rfl⟩)
  case map a=>
   cases a with
   | none=>simp only [shV] at h;cases h;exact vrel_map_none.2 (vrel_map_none.1 hr)
   | some a=>
    simp only [shV] at h;cases h;obtain ⟨b,h1,rfl⟩:=vrel_map.1 hr;exact vrel_map.2 ⟨b,hm.bl _ _ h1,rfl⟩
  case func fn f c=>
   simp only [shV] at h;split at h
   ·rename_i f' hf;split at h
    ·rename_i c' hc;cases h;obtain ⟨f2,c2,h1,h2,rfl⟩:=vrel_func.1 hr;exact vrel_func.2 ⟨f2,c2,by simpa using Ze7 ih hf h1,by simpa using Ze7 ih hc h2,rfl⟩
    ·cases h
   ·cases h
  case iface t x=>
   simp only [shV] at h;split at h
   ·rename_i y hy;cases h;obtain ⟨x',h1,rfl⟩:=vrel_iface.1 hr;exact vrel_iface.2 ⟨x',ih _ _ _ hy h1,rfl⟩
   ·cases h
  case agg cs=>
   simp only [shV] at h;split at h
   ·rename_i l hl;cases h;obtain ⟨x',h1,rfl⟩:=vrel_agg.1 hr;exact vrel_agg.2 ⟨x',by simpa using Ze7 ih hl h1,rfl⟩
   ·cases h
  case tuple cs=>
   simp only [shV] at h;split at h
   ·rename_i l hl;cases h;obtain ⟨x',h1,rfl⟩:=vrel_tuple.1 hr;exact vrel_tuple.2 ⟨x',by simpa using Ze7 ih hl h1,rfl⟩
   ·cases h
  case chan r=>simp [shV] at h
  case bool b=>simp only [shV] at h;cases h;exact vrel_bool.2 (vrel_bool.1 hr)
  case int k i=>simp only [shV] at h;cases h;exact vrel_int.2 (vrel_int.1 hr)
  case float k i=>simp only [shV] at h;cases h;exact vrel_float.2 (vrel_float.1 hr)
  case complex k a b=>simp only [shV] at h;cases h;exact vrel_complex.2 (vrel_complex.1 hr)
  case string b=>simp only [shV] at h;cases h;exact vrel_string.2 (vrel_string.1 hr)
  case nilFunc=>simp only [shV] at h;cases h;exact vrel_nilFunc.2 (vrel_nilFunc.1 hr)
  case nilIface=>simp only [shV] at h;cases h;exact vrel_nilIface.2 (vrel_nilIface.1 hr)
noncomputable def shB (d:Nat) (b:Blk):Option Blk:=
 if Nat.beq b.kind 0 then some Blk.dead
 else if Zcm b then match shL (shV d 9) b.vals with
  | some vs=>some ⟨b.kind,b.elem,b.esz,vs,[]⟩
  | none=>none
 else none
theorem Zmm {d:Nat} {b c:Blk} (h:shB d b=some c):c.kind=b.kind:=by
 unfold shB at h;split at h
 ·rename_i hk;cases h;exact (zK hk).symm
 ·split at h
  ·split at h
   ·cases h;rfl
   ·cases h
  ·cases h
theorem Zre {τ τ':Ren} {d i:Nat} (hm:Moved τ τ' d) {b c:Blk} {o:Obj} (h:shB d b=some c) (hr:BRel τ i b o):BRel τ' (i+d) c o:=by
 obtain ⟨kind,elem,esz,vals,ents⟩:=b;unfold shB at h;split at h
 ·cases h;trivial
 ·rename_i h0;split at h
  ·rename_i hc;split at h
   ·rename_i vs hvs;cases h;simp only [Zcm,Bool.or_eq_true,Nat.beq_eq] at hc;rcases hc with rfl|rfl
    ·obtain ⟨c,fr,h1,h2,h3⟩:=hr;exact ⟨c,fr,h1,h2,Ze7 (R:=VRel τ) (S:=VRel τ') (fun a b c h h'=>ZiY hm 9 h h') (show shL (shV d 9) vals=some vs from hvs) h3⟩
    ·obtain ⟨c,fr,pre,post,h1,h2,h3,h4,h5⟩:=hr;exact ⟨c,fr,pre,post,h1,h2,h3,Ze7 (R:=VRel τ) (S:=VRel τ') (fun a b c h h'=>ZiY hm 9 h h') (show shL (shV d 9) vals=some vs from hvs) h4,by rw [hm.sz];exact h5⟩
   ·cases h
  ·cases h
noncomputable def layB (d:Nat):List Blk→AS→Option AS
 | [],σ=>some σ
 | b::l,σ=>match shB d b with
  | some b'=>layB d l (σ.new b')
  | none=>none
theorem ZhC {d:Nat}:∀{l:List Blk} {σ σ':AS},layB d l σ=some σ'→AMono σ σ'
 | [],σ,σ',h=>by cases h;exact AMono.refl _
 | b::l,σ,σ',h=>by
  simp only [layB] at h;split at h
  ·exact (AMono.new _ _).trans (ZhC h)
  ·cases h
theorem ZoB {d:Nat}:∀{l:List Blk} {σ σ':AS},layB d l σ=some σ'→σ'.next=σ.next+l.length∧σ'.low=σ.low∧(∀i,i<σ.next→σ'.get i=σ.get i)∧
  ∀i b,l[i]?=some b→∃c,shB d b=some c∧σ'.get (σ.next+i)=c
 | [],σ,σ',h=>by cases h;exact ⟨rfl,rfl,fun _ _=>rfl,fun i b h=>by simp at h⟩
 | b::l,σ,σ',h=>by
  simp only [layB] at h;split at h
  ·rename_i c hc;obtain ⟨h1,h2,h3,h4⟩:=ZoB h;have en:(σ.new c).next=σ.next+1:=rfl;refine ⟨by rw [h1,en,List.length_cons];omega,h2,fun i hi=>?_,fun i x hx=>?_⟩
   ·rw [h3 i (by omega),AS.get_new,if_neg (by omega)]
   ·cases i with
    | zero=>
     simp only [List.getElem?_cons_zero,Option.some.injEq] at hx;subst hx;exact ⟨c,hc,by rw [Nat.add_zero,h3 _ (by omega),AS.get_new,if_pos rfl]⟩
    | succ i=>
     obtain ⟨y,h5,h6⟩:=h4 i x (by simpa using hx)
     exact ⟨y,h5,by rw [←h6,en];congr 1;omega⟩
  ·cases h
noncomputable def Zj0 (v:Value) (bs:List Blk) (σ:AS):Option (Value×AS):=
 match shV σ.next 9 v with
 | some u=>match layB σ.next bs σ with
  | some σ'=>some (u,σ')
  | none=>none
 | none=>none
noncomputable def ZdD (σ:AS):Nat→List Blk→List Blk
 | 0,acc=>acc
 | n+1,acc=>ZdD σ n (σ.get n::acc)
theorem Zey (σ:AS):∀(n:Nat) (acc:List Blk) (i:Nat),(ZdD σ n acc)[i]?=if i<n then some (σ.get i) else acc[i-n]?
 | 0,acc,i=>by simp [ZdD]
 | n+1,acc,i=>by
  rw [ZdD,Zey σ n];by_cases h:i<n
  ·rw [if_pos h,if_pos (by omega)]
  ·rw [if_neg h];by_cases e:i=n
   ·subst e;simp
   ·rw [if_neg (by omega),show i-n=(i-(n+1))+1 by omega,List.getElem?_cons_succ]
noncomputable def told:Option (Value×AS)→Option (Value×List Blk)
 | some (v,σ)=>some (v,ZdD σ σ.next [])
 | none=>none
noncomputable def Tbl.move (K:Tbl) (f:FuncId) (args:List Value) (v:Value) (bs:List Blk):Tbl where
 dfr:=K.dfr
 ask:=fun g zz σ=>bite (Nat.beq g f&&veqL (veq 9) zz args) (Zj0 v bs σ) (K.ask g zz σ)
 mono:=fun g zz σ u σ' h=>by
  dsimp only at h;rw [Zab] at h;split at h
  ·unfold Zj0 at h;split at h
   ·split at h
    ·rename_i hl;cases h;exact ZhC hl
    ·cases h
   ·cases h
  ·exact K.mono _ _ _ _ _ h
theorem Zrv {G:Nat} {ρ τ:Ren} {σ σ0 σ1:AS} {w w':World} {v u v':Value} {bs:List Blk} (hR:R G ρ σ w) (hs:Sim 0 ⟨fun _=>none,fun _=>(0,0)⟩ ⟨0,0,.e⟩ w τ σ0 w') (hv':VRel τ v v') (hbs:ZdD σ0 σ0.next []=bs) (hu:Zj0 v bs σ=some (u,σ1)) :
  ∃τ',VRel τ' u v'∧Sim G ρ σ w τ' σ1 w':=by
 subst hbs;have old:∀b,b<w.heap.size→w'.heap[b]?=w.heap[b]?:=fun b hb=>hs.frame b hb fun i hi=>(nomatch hi);have new:∀i b,τ.bl i=some b→w.heap.size≤b:=fun i b hi=>by
  rcases hs.newblk i b hi rfl with h|⟨j,hj,_⟩
  ·exact h
  ·exact nomatch hj
 unfold Zj0 at hu;split at hu
 ·rename_i u1 hu1;split at hu
  ·rename_i σ2 hl;cases hu;obtain ⟨l1,l2,l3,l4⟩:=ZoB hl;have lz:(ZdD σ0 σ0.next []).length=σ0.next:=by
    rcases Nat.lt_trichotomy (ZdD σ0 σ0.next []).length σ0.next with hlt|he|hgt
    ·have h5:=Zey σ0 σ0.next [] (ZdD σ0 σ0.next []).length;rw [if_pos hlt,zV (zA _)] at h5;cases h5
    ·exact he
    ·have h5:=Zey σ0 σ0.next [] σ0.next;rw [if_neg (zU _),zP hgt] at h5;cases h5
   have l5:∀i,i<σ0.next→∃c,shB σ.next (σ0.get i)=some c∧σ1.get (σ.next+i)=c:=fun i hi=>
    l4 i _ (by rw [Zey,if_pos hi])
   let τ':Ren:=⟨fun i=>if i<σ.next then ρ.bl i else τ.bl (i-σ.next),fun i=>if i<σ.next then ρ.sz i else τ.sz (i-σ.next)⟩
   have tb:∀i,τ'.bl i=if i<σ.next then ρ.bl i else τ.bl (i-σ.next):=fun _=>rfl
   have ts:∀i,τ'.sz i=if i<σ.next then ρ.sz i else τ.sz (i-σ.next):=fun _=>rfl
   have hm:Moved τ τ' σ.next:=⟨fun i b hb=>by rw [tb,if_neg (by omega),Nat.add_sub_cancel];exact hb,fun i=>by rw [ts,if_neg (by omega),Nat.add_sub_cancel]⟩
   have hle:ρ.le τ':=fun i b hb=>by
    have:=(hR.blk i b hb).1;exact ⟨by rw [tb,if_pos this];exact hb,by rw [ts,if_pos this]⟩
   refine ⟨τ',ZiY hm 9 hu1 hv',?_⟩;refine { base:=hR,le:=hle,rel:=⟨?_,?_,?_,by rw [l1];exact zB hR.globN (Nat.le_add_right _ _)⟩,frame:=fun b hb _=>old b hb,hsz:=hs.hsz,nxt:=by rw [l1];exact Nat.le_add_right _ _,newid:=?_,newblk:=?_,low:=by rw [l2];exact zA _,keep:=fun i hi _=>l3 i hi,dead:=fun i hi h0=>by rw [l3 i hi];exact h0,stay:=fun i b hi _ _=>old b (hR.lt hi),out:=hs.out }
   ·intro i b hi;rw [tb] at hi;split at hi
    ·rename_i hlt;obtain ⟨h5,o,h6,h7⟩:=hR.blk i b hi;exact ⟨by rw [l1];omega,o,by rw [old b (hR.lt hi)];exact h6,by rw [l3 i hlt];exact h7.ext hle (by rw [ts,if_pos hlt])⟩
    ·rename_i hge;obtain ⟨h5,o,h6,h7⟩:=hs.rel.blk _ b hi;obtain ⟨c,h8,h9⟩:=l5 _ h5;have e:σ.next+(i-σ.next)=i:=by omega
     refine ⟨by rw [l1,lz];omega,o,h6,?_⟩
     rw [e] at h9;rw [h9];have:=Zre hm h8 h7
     rwa [show i-σ.next+σ.next=i by omega] at this
   ·intro i j b hi hj ki kj;rw [tb] at hi hj;split at hi<;>split at hj
    ·rename_i h5 h6;rw [l3 i h5] at ki;rw [l3 j h6] at kj;exact hR.inj i j b hi hj ki kj
    ·have:=hR.lt hi;have:=new _ _ hj;omega
    ·have:=hR.lt hj;have:=new _ _ hi;omega
    ·rename_i h5 h6;obtain ⟨c,h8,h9⟩:=l5 _ (hs.rel.blk _ b hi).1;obtain ⟨c',h8',h9'⟩:=l5 _ (hs.rel.blk _ b hj).1;rw [show σ.next+(i-σ.next)=i by omega] at h9
     rw [show σ.next+(j-σ.next)=j by omega] at h9'
     have:=hs.rel.inj _ _ b hi hj (by rw [←Zmm h8,←h9];exact ki) (by rw [←Zmm h8',←h9'];exact kj)
     omega
   ·intro g hg;rw [tb,if_pos (zC hg hR.globN)];exact hR.glob g hg
   ·intro i b hi hn;rw [tb] at hi;split at hi
    ·rw [hi] at hn;cases hn
    ·omega
   ·intro i b hi hn;rw [tb] at hi;split at hi
    ·rw [hi] at hn;cases hn
    ·exact .inl (new _ _ hi)
  ·cases hu
 ·cases hu
abbrev Memo:Type:=List Value×Value×List Blk
noncomputable def Zfz:List Memo→List Value→AS→Option (Value×AS)
 | [],_,_=>none
 | e::l,zz,σ=>bite (veqL (veq 9) zz e.1) (Zj0 e.2.1 e.2.2 σ) (Zfz l zz σ)
noncomputable def Zou (x y:Option (Value×AS)):Option (Value×AS):=match x with
 | some z=>some z
 | none=>y
theorem Znn {v u:Value} {bs:List Blk} {σ σ':AS} (h:Zj0 v bs σ=some (u,σ')):AMono σ σ':=by
 unfold Zj0 at h;split at h
 ·split at h
  ·rename_i hl;cases h;exact ZhC hl
  ·cases h
 ·cases h
theorem Zfy:∀{l:List Memo} {zz:List Value} {σ σ':AS} {u:Value},Zfz l zz σ=some (u,σ')→AMono σ σ'
 | [],zz,σ,σ',u,h=>by cases h
 | e::l,zz,σ,σ',u,h=>by
  simp only [Zfz,Zab] at h;split at h
  ·exact Znn h
  ·exact Zfy h
noncomputable def Tbl.memo (K:Tbl) (f:FuncId) (l:List Memo):Tbl where
 dfr:=K.dfr
 ask:=fun g zz σ=>bite (Nat.beq g f) (Zou (Zfz l zz σ) (K.ask g zz σ)) (K.ask g zz σ)
 mono:=fun g zz σ u σ' h=>by
  dsimp only at h;rw [Zab] at h;split at h
  ·unfold Zou at h;split at h
   ·rename_i hz;cases h;exact Zfy hz
   ·exact K.mono _ _ _ _ _ h
  ·exact K.mono _ _ _ _ _ h
def Knows (P:Program) (f:Nat) (e:Memo):Prop:=KOk P (K0.move f e.1 e.2.1 e.2.2)
theorem KOk.memo {P:Program} {K:Tbl} (hk:KOk P K) {f:Nat} {l:List Memo} (hl:∀e∈l,Knows P f e):KOk P (K.memo f l):=by
 intro G g zz σ u σ1 ρ w as' hu hR has;unfold Tbl.memo at hu;dsimp only at hu;rw [Zab] at hu;split at hu
 ·rename_i hc;obtain rfl:=zK hc;unfold Zou at hu;split at hu
  ·rename_i z hz;cases hu;clear hc
   induction l with
   | nil=>cases hz
   | cons e l ih=>
    simp only [Zfz,Zab] at hz;split at hz
    ·rename_i he;refine hl e (by simp) G g zz σ u σ1 ρ w as' ?_ hR has
     unfold Tbl.move;dsimp only;rw [Zab,if_pos (by rw [he,Bool.and_true];exact Nat.beq_refl g)]
     exact hz
    ·exact ih (fun e he=>hl e (by simp [he])) hz
  ·exact hk G g zz σ u σ1 ρ w as' hu hR has
 ·exact hk G g zz σ u σ1 ρ w as' hu hR has
def KnowsAll (P:Program) (f:Nat):List Memo→Prop
 | []=>True
 | e::l=>Knows P f e∧KnowsAll P f l
theorem KnowsAll.at {P:Program} {f:Nat}:∀{l:List Memo},KnowsAll P f l→∀e∈l,Knows P f e
 | [],_,e,he=>by cases he
 | _::_,h,e,he=>by
  rcases List.mem_cons.1 he with rfl|he
  ·exact h.1
  ·exact h.2.at e he
theorem KOk.memoAll {P:Program} {K:Tbl} (hk:KOk P K) {f:Nat} {l:List Memo} (hl:KnowsAll P f l):KOk P (K.memo f l):=hk.memo hl.at
noncomputable def lay0:List Blk→AS→AS
 | [],σ=>σ
 | b::l,σ=>lay0 l (σ.new b)
theorem Zln:∀(l:List Blk) (σ:AS),(lay0 l σ).next=σ.next+l.length∧(lay0 l σ).low=σ.low∧(∀i,i<σ.next→(lay0 l σ).get i=σ.get i)∧∀i b,l[i]?=some b→(lay0 l σ).get (σ.next+i)=b
 | [],σ=>⟨rfl,rfl,fun _ _=>rfl,fun i b h=>by simp at h⟩
 | b::l,σ=>by
  obtain ⟨h1,h2,h3,h4⟩:=Zln l (σ.new b);have en:(σ.new b).next=σ.next+1:=rfl;refine ⟨by rw [lay0,h1,en,List.length_cons];omega,h2,fun i hi=>?_,fun i c hc=>?_⟩
  ·rw [lay0,h3 i (by omega),AS.get_new,if_neg (by omega)]
  ·cases i with
   | zero=>
    simp only [List.getElem?_cons_zero,Option.some.injEq] at hc;subst hc;rw [lay0,Nat.add_zero,h3 _ (by omega),AS.get_new,if_pos rfl]
   | succ i=>
    have:=h4 i c (by simpa using hc)
    rw [lay0,←this,en]
    congr 1;omega
theorem Zlm (l:List Blk):ZdD (lay0 l ⟨0,0,.e⟩) (lay0 l ⟨0,0,.e⟩).next []=l:=by
 obtain ⟨h1,h2,h3,h4⟩:=Zln l ⟨0,0,.e⟩;have h1':(lay0 l ⟨0,0,.e⟩).next=l.length:=by rw [h1];simp
 apply List.ext_getElem?;intro i;rw [Zey,h1'];by_cases hi:i<l.length
 ·rw [if_pos hi,zP hi]
  congr 1
  have:=h4 i _ (zP hi);simpa using this
 ·rw [if_neg hi,zV (Nat.not_lt.1 hi)];simp
theorem AMono.lay0 (l:List Blk) (σ:AS):AMono σ (lay0 l σ):=by
 induction l generalizing σ with
 | nil=>exact AMono.refl _
 | cons b l ih=>exact (AMono.new _ _).trans (ih _)
abbrev Pairs:Type:=List (Nat×Nat)
noncomputable def Zbi:Pairs→Nat→Option Nat
 | [],_=>none
 | p::l,i=>bite (Nat.beq p.1 i) (some p.2) (Zbi l i)
noncomputable def bto (base:Nat) (β:Pairs) (i:Nat):Option Nat:=bite (Nat.blt i base) (some i) (Zbi β i)
noncomputable def onB (o:Option Nat) (j:Nat):Bool:=match o with|some k=>Nat.beq k j|none=>false
noncomputable def vm (base:Nat) (β:Pairs):Nat→Value→Value→Bool
 | 0,_,_=>false
 | n+1,v,u=>match v,u with
  | .pointer (some a),.pointer (some b)=>onB (bto base β a.block) b.block&&Nat.beq a.off b.off&&decide (a.spot=b.spot)
  | .slice (some a) l c,.slice (some b) l' c'=>Nat.beq l l'&&Nat.beq c c'&&(match a.spot with
   | none=>onB (bto base β a.block) b.block&&Nat.beq a.off b.off&&decide (b.spot=none)
   | some _=>decide (a=b))
  | .map (some a),.map (some b)=>onB (bto base β a) b
  | .func (.func f) x c,.func (.func g) y d=>Nat.beq f g&&veqL (vm base β n) x.toList y.toList&&veqL (vm base β n) c.toList d.toList
  | .iface t x,.iface t' y=>Nat.beq t t'&&vm base β n x y
  | .agg x,.agg y=>veqL (vm base β n) x.toList y.toList
  | .tuple x,.tuple y=>veqL (vm base β n) x.toList y.toList
  | v,u=>ZcO v&&veq 9 v u
structure Back (τ τc:Ren) (base:Nat) (β:Pairs):Prop where
 bl:∀i j b,bto base β i=some j→τ.bl j=some b→τc.bl i=some b
 sz:∀i j,bto base β i=some j→τc.sz i=τ.sz j
theorem Zmw {o:Option Nat} {j:Nat} (h:onB o j=true):o=some j:=by
 unfold onB at h;split at h
 ·rw [zK h]
 ·cases h
theorem Zeb {τ τc:Ren} {f:Value→Value→Bool} (h:∀v u x,f v u=true→VRel τ u x→VRel τc v x):∀{l m:List Value} {xs:List Value},veqL f l m=true→LRel (VRel τ) m xs→LRel (VRel τc) l xs
 | [],[],[],_,_=>trivial
 | a::l,b::m,x::xs,he,hr=>by
  simp only [veqL,Bool.and_eq_true] at he;exact ⟨h _ _ _ he.1 hr.1,Zeb h he.2 hr.2⟩
 | [],_::_,_,he,_=>by cases he
 | _::_,[],_,he,_=>by cases he
 | [],[],_::_,_,hr=>hr.elim
 | _::_,_::_,[],_,hr=>hr.elim
theorem Zfr {τ τc:Ren} {base:Nat} {β:Pairs} (hb:Back τ τc base β):∀(n:Nat) {v u x:Value},vm base β n v u=true→VRel τ u x→VRel τc v x
 | 0,_,_,_,h,_=>by cases h
 | n+1,v,u,x,h,hr=>by
  have ih:∀v u x,vm base β n v u=true→VRel τ u x→VRel τc v x:=fun _ _ _ h h'=>Zfr hb n h h';unfold vm at h;split at h
  ·rename_i a b;simp only [Bool.and_eq_true,Nat.beq_eq,decide_eq_true_eq] at h;obtain ⟨k,h1,h2,rfl⟩:=vrel_ptr.1 hr;exact vrel_ptr.2 ⟨k,hb.bl _ _ _ (Zmw h.1.1) h1,h.2.trans h2,by rw [h.1.2]⟩
  ·rename_i a l c b l' c';simp only [Bool.and_eq_true,Nat.beq_eq] at h;obtain ⟨⟨rfl,rfl⟩,h⟩:=h;split at h
   ·rename_i hs;simp only [Bool.and_eq_true,Nat.beq_eq,decide_eq_true_eq] at h;rcases vrel_slice.1 hr with ⟨k,k',h1,h2,h3,rfl⟩|⟨h1,_,_,_⟩
    ·exact vrel_slice.2 (.inl ⟨k,k',hb.bl _ _ _ (Zmw h.1.1) h1,hs,by rw [hb.sz _ _ (Zmw h.1.1),h.1.2];exact h3,by rw [h.1.2]⟩)
    ·exact absurd h.2 h1
   ·rename_i hs;simp only [decide_eq_true_eq] at h;subst h;rcases vrel_slice.1 hr with ⟨k,k',h1,h2,h3,rfl⟩|h1
    ·rw [hs] at h2;cases h2
    ·exact vrel_slice.2 (.inr h1)
  ·rename_i a b;obtain ⟨k,h1,rfl⟩:=vrel_map.1 hr;exact vrel_map.2 ⟨k,hb.bl _ _ _ (Zmw h) h1,rfl⟩
  ·rename_i f x1 c g y d;simp only [Bool.and_eq_true,Nat.beq_eq] at h;obtain ⟨⟨rfl,h1⟩,h2⟩:=h;obtain ⟨f',c',h3,h4,rfl⟩:=vrel_func.1 hr;exact vrel_func.2 ⟨f',c',Zeb ih h1 h3,Zeb ih h2 h4,rfl⟩
  ·rename_i t x1 t' y;simp only [Bool.and_eq_true,Nat.beq_eq] at h;obtain ⟨rfl,h1⟩:=h;obtain ⟨x',h3,rfl⟩:=vrel_iface.1 hr;exact vrel_iface.2 ⟨x',ih _ _ _ h1 h3,rfl⟩
  ·obtain ⟨x',h3,rfl⟩:=vrel_agg.1 hr;exact vrel_agg.2 ⟨x',Zeb ih h h3,rfl⟩
  ·obtain ⟨x',h3,rfl⟩:=vrel_tuple.1 hr;exact vrel_tuple.2 ⟨x',Zeb ih h h3,rfl⟩
  ·simp only [Bool.and_eq_true] at h;obtain rfl:=Zgv 9 _ _ h.2;have:=(Zby h.1).1 hr;exact (Zby h.1).2 this
noncomputable def vmE (base:Nat) (β:Pairs):List (Value×Value)→List (Value×Value)→Bool
 | [],[]=>true
 | a::l,b::m=>vm base β 9 a.1 b.1&&vm base β 9 a.2 b.2&&vmE base β l m
 | _,_=>false
theorem ZnU {τ τc:Ren} {base:Nat} {β:Pairs} (hb:Back τ τc base β):∀{l m:List (Value×Value)} {xs:List MapEntry},vmE base β l m=true→LRel (ERel τ) m xs→LRel (ERel τc) l xs
 | [],[],[],_,_=>trivial
 | a::l,b::m,x::xs,he,hr=>by
  simp only [vmE,Bool.and_eq_true] at he;exact ⟨⟨Zfr hb 9 he.1.1 hr.1.1,Zfr hb 9 he.1.2 hr.1.2⟩,ZnU hb he.2 hr.2⟩
 | [],_::_,_,he,_=>by cases he
 | _::_,[],_,he,_=>by cases he
 | [],[],_::_,_,hr=>hr.elim
 | _::_,_::_,[],_,hr=>hr.elim
noncomputable def bm (base:Nat) (β:Pairs) (b c:Blk):Bool:=
 Nat.beq b.kind 0||(Nat.beq b.kind c.kind&&!Nat.beq b.kind 5&&Nat.beq b.elem c.elem&&Nat.beq b.esz c.esz&&veqL (vm base β 9) b.vals c.vals&&vmE base β b.ents c.ents)
theorem ZqV {τ τc:Ren} {base:Nat} {β:Pairs} (hb:Back τ τc base β) {i j:Nat} (hi:bto base β i=some j) {b c:Blk} {o:Obj} (h:bm base β b c=true)
  (hf:(b.kind=3∨b.kind=4)→veqL (veq 9) b.vals c.vals=true) (hr:BRel τ j c o):BRel τc i b o:=by
 obtain ⟨kind,elem,esz,vals,ents⟩:=b;obtain ⟨kind',elem',esz',vals',ents'⟩:=c;unfold bm at h;dsimp only at h hf;rw [Bool.or_eq_true] at h;rcases h with h|h
 ·have:kind=0:=zK h;subst this;trivial
 ·simp only [Bool.and_eq_true,Nat.beq_eq] at h;obtain ⟨⟨⟨⟨⟨rfl,_⟩,rfl⟩,rfl⟩,hv⟩,he⟩:=h
  match kind,hr with
  | 0,_=>trivial
  | 1,⟨c,fr,h1,h2,h3⟩=>exact ⟨c,fr,h1,h2,Zeb (fun _ _ _ h h'=>Zfr hb 9 h h') hv h3⟩
  | 2,⟨c,fr,p,q,h1,h2,h3,h4,h5⟩=>exact ⟨c,fr,p,q,h1,h2,h3,Zeb (fun _ _ _ h h'=>Zfr hb 9 h h') hv h4,by rw [hb.sz _ _ hi];exact h5⟩
  | 3,⟨es,cl,h1,h2,h3,h4⟩=>
   have:=Zg9 (Zgv 9) (hf (.inl rfl));exact ⟨es,cl,h1,ZnU hb he h2,h3,this.trans h4⟩
  | 4,⟨s,h1,h2⟩=>
   have:=Zg9 (Zgv 9) (hf (.inr rfl));exact ⟨s,this.trans h1,h2⟩
  | 5,_=>rename_i h5;exact absurd h5 (by decide)
noncomputable def Zpk (base:Nat) (β:Pairs) (σc σ2:AS) (i:Nat):Bool:=match bto base β i with
 | some j=>Nat.blt j σ2.next&&bm base β (σc.get i) (σ2.get j)&&(!(Nat.beq (σc.get i).kind 3||Nat.beq (σc.get i).kind 4)||veqL (veq 9) (σc.get i).vals (σ2.get j).vals)
 | none=>true
noncomputable def Zg6 (f:Nat→Bool):Nat→Bool
 | 0=>true
 | n+1=>f n&&Zg6 f n
theorem ZhX {f:Nat→Bool}:∀{n i:Nat},Zg6 f n=true→i<n→f i=true
 | 0,_,_,h=>absurd h (Nat.not_lt_zero _)
 | n+1,i,h,hi=>by
  simp only [Zg6,Bool.and_eq_true] at h;rcases Nat.lt_or_ge i n with hlt|hge
  ·exact ZhX h.2 hlt
  ·obtain rfl:i=n:=by omega
   exact h.1
noncomputable def Zhn (base:Nat):Pairs→Bool
 | []=>true
 | p::l=>Nat.ble base p.2&&l.all (fun q=>!Nat.beq q.2 p.2)&&Zhn base l
theorem ZeH {base:Nat}:∀{β:Pairs} {i j:Nat},Zhn base β=true→Zbi β i=some j→base≤j
 | [],_,_,_,h=>by cases h
 | p::l,i,j,h,hp=>by
  simp only [Zhn,Bool.and_eq_true,Nat.ble_eq] at h;rw [Zbi,Zab] at hp;split at hp
  ·cases hp;exact h.1.1
  ·exact ZeH h.2 hp
theorem Zim:∀{β:Pairs} {i j:Nat},Zbi β i=some j→∃q∈β,q.2=j
 | [],_,_,h=>by cases h
 | p::l,i,j,h=>by
  rw [Zbi,Zab] at h;split at h
  ·cases h;exact ⟨p,by simp,rfl⟩
  ·obtain ⟨q,h1,h2⟩:=Zim h;exact ⟨q,by simp [h1],h2⟩
theorem Zip {base:Nat}:∀{β:Pairs} {i k j:Nat},Zhn base β=true→Zbi β i=some j→Zbi β k=some j→i=k
 | [],_,_,_,_,h,_=>by cases h
 | p::l,i,k,j,h,hi,hk=>by
  simp only [Zhn,Bool.and_eq_true,List.all_eq_true,Bool.not_eq_true'] at h;rw [Zbi,Zab] at hi hk;have ne:∀{i:Nat},Zbi l i=some p.2→False:=fun hq=>by
   obtain ⟨q,h1,h2⟩:=Zim hq;have:=h.1.2 q h1;rw [h2,Nat.beq_refl] at this;cases this
  split at hi<;>split at hk
  ·rename_i e1 e2;exact (zK e1).symm.trans (zK e2)
  ·cases hi;exact (ne hk).elim
  ·cases hk;exact (ne hi).elim
  ·exact Zip h.2 hi hk
noncomputable def alike (base:Nat) (β:Pairs) (σc σ2:AS):Bool:=
 Zhn base β&&β.all (fun p=>Nat.blt p.1 σc.next)&&Nat.ble σc.low σ2.low&&Zg6 (Zpk base β σc σ2) σc.next
theorem Zr8 {base:Nat} {β:Pairs} (h:Zhn base β=true) {i k j:Nat} (hi:bto base β i=some j) (hk:bto base β k=some j):i=k:=by
 unfold bto at hi hk;rw [Zab] at hi hk;split at hi<;>split at hk
 ·cases hi;cases hk;rfl
 ·rename_i h1 _;cases hi;rw [Nat.blt_eq] at h1;have:=ZeH h hk;omega
 ·rename_i _ h1;cases hk;rw [Nat.blt_eq] at h1;have:=ZeH h hi;omega
 ·exact Zip h hi hk
theorem Zji {base:Nat} {β:Pairs} {b c:Blk} (h:bm base β b c=true) (h0:b.kind≠0):c.kind=b.kind:=by
 unfold bm at h;simp only [Bool.or_eq_true,Bool.and_eq_true,Nat.beq_eq] at h;rcases h with h|h
 ·exact absurd h h0
 ·exact h.1.1.1.1.1.symm
theorem ZjV {n:Nat}:∀{β:Pairs} {i j:Nat},β.all (fun p=>Nat.blt p.1 n)=true→Zbi β i=some j→i<n
 | [],_,_,_,h=>by cases h
 | p::l,i,j,h,hp=>by
  simp only [List.all_cons,Bool.and_eq_true,Nat.blt_eq] at h;rw [Zbi,Zab] at hp;split at hp
  ·rename_i e;rw [←zK e];exact h.1
  ·exact ZjV h.2 hp
theorem Sim.alike {G:Nat} {ρ τ:Ren} {σ σ2 σc:AS} {w w':World} (h:Sim G ρ σ w τ σ2 w') (hm:AMono σ σc) {β:Pairs} (ha:Abs.alike σ.next β σc σ2=true) :
  ∃τc,Sim G ρ σ w τc σc w'∧Back τ τc σ.next β:=by
 unfold Abs.alike at ha;simp only [Bool.and_eq_true,Nat.ble_eq] at ha;obtain ⟨⟨⟨hone,hlts⟩,hlow⟩,hall⟩:=ha
 let τc:Ren:=⟨fun i=>match bto σ.next β i with|some j=>τ.bl j|none=>none,fun i=>match bto σ.next β i with|some j=>τ.sz j|none=>(0,0)⟩
 have old:∀i,i<σ.next→bto σ.next β i=some i:=fun i hi=>by
  unfold bto;rw [Zab,if_pos (by rw [Nat.blt_eq];exact hi)]
 have nu:∀i j,¬i<σ.next→bto σ.next β i=some j→Zbi β i=some j:=fun i j hi hj=>by
  unfold bto at hj;rw [Zab,if_neg (by rw [Nat.blt_eq];exact hi)] at hj;exact hj
 have lt:∀i j,bto σ.next β i=some j→i<σc.next:=fun i j hj=>by
  by_cases hi:i<σ.next
  ·exact zC hi hm.nxt
  ·exact ZjV hlts (nu i j hi hj)
 have tbl:∀i j,bto σ.next β i=some j→τc.bl i=τ.bl j:=fun i j hj=>by
  show (match bto σ.next β i with|some j=>τ.bl j|none=>none)=_
  rw [hj]
 have tb:∀i b,τc.bl i=some b→∃j,bto σ.next β i=some j∧τ.bl j=some b:=fun i b hi=>by
  cases hj:bto σ.next β i with
  | none=>
   have:τc.bl i=none:=by
    show (match bto σ.next β i with|some j=>τ.bl j|none=>none)=_
    rw [hj]
   rw [this] at hi;cases hi
  | some j=>exact ⟨j,rfl,by rw [←tbl i j hj];exact hi⟩
 have tsz:∀i j,bto σ.next β i=some j→τc.sz i=τ.sz j:=fun i j hj=>by
  show (match bto σ.next β i with|some j=>τ.sz j|none=>(0,0))=_
  rw [hj]
 have back:Back τ τc σ.next β:=⟨fun i j b hi hb=>by rw [tbl i j hi];exact hb,tsz⟩
 have key:∀i j,bto σ.next β i=some j→bm σ.next β (σc.get i) (σ2.get j)=true∧((σc.get i).kind=3∨(σc.get i).kind=4→veqL (veq 9) (σc.get i).vals (σ2.get j).vals=true):=fun i j hj=>by
  have:=ZhX hall (lt i j hj);unfold Zpk at this;rw [hj] at this;simp only [Bool.and_eq_true,Bool.or_eq_true,Bool.not_eq_true',Bool.or_eq_false_iff] at this;refine ⟨this.1.2,fun hk=>?_⟩;rcases this.2 with h0|h0
  ·rcases hk with hk|hk
   ·rw [hk] at h0;exact absurd h0.1 (by decide)
   ·rw [hk] at h0;exact absurd h0.2 (by decide)
  ·exact h0
 refine ⟨τc,{ base:=h.base,le:=?_,rel:=⟨?_,?_,?_,zB h.base.globN hm.nxt⟩,frame:=h.frame,hsz:=h.hsz,nxt:=hm.nxt,newid:=?_,newblk:=?_,low:=hm.low,keep:=hm.keep,dead:=hm.dead,stay:=fun i b hi hk hl=>h.stay i b hi hk (zC hl hlow),out:=h.out },back⟩
 ·intro i b hi;have hlt:=(h.base.blk i b hi).1;obtain ⟨h1,h2⟩:=h.le i b hi;exact ⟨by rw [tbl i i (old i hlt)];exact h1,by rw [tsz i i (old i hlt)];exact h2⟩
 ·intro i b hi;obtain ⟨j,hj,hb⟩:=tb i b hi;obtain ⟨_,o,ho,hr⟩:=h.rel.blk j b hb;exact ⟨lt i j hj,o,ho,ZqV back hj (key i j hj).1 (key i j hj).2 hr⟩
 ·intro i k b hi hk ki kk;obtain ⟨j,hj,hb⟩:=tb i b hi;obtain ⟨m,hm',hb'⟩:=tb k b hk;have e:=h.rel.inj j m b hb hb' (by rw [Zji (key i j hj).1 ki];exact ki) (by rw [Zji (key k m hm').1 kk];exact kk)
  subst e;exact Zr8 hone hj hm'
 ·intro g hg;rw [tbl g g (old g (zC hg h.base.globN))];exact h.rel.glob g hg
 ·intro i b hi hn;obtain ⟨j,hj,hb⟩:=tb i b hi;by_cases hlt:i<σ.next
  ·rw [old i hlt] at hj;cases hj;exact h.newid i b hb hn
  ·omega
 ·intro i b hi hn;obtain ⟨j,hj,hb⟩:=tb i b hi;by_cases hlt:i<σ.next
  ·rw [old i hlt] at hj;cases hj;have:=h.newid i b hb hn;omega
  ·have hge:=ZeH hone (nu i j hlt hj);have hρ:ρ.bl j=none:=by
    cases hq:ρ.bl j with
    | none=>rfl
    | some b'=>have:=(h.base.blk j b' hq).1;omega
   rcases h.newblk j b hb hρ with h1|⟨m,h1,h2,h3⟩
   ·exact .inl h1
   ·have hmlt:=(h.base.blk m b h1).1;refine .inr ⟨m,h1,h2,?_⟩;rcases Nat.eq_zero_or_pos (σc.get m).kind with h0|h0
    ·exact h0
    ·have:=Zji (key m m (old m hmlt)).1 (by omega)
     omega
noncomputable def ZeS (σ1 σ2:AS) (base:Nat):Nat→List (Value×Value)→Pairs→Pairs
 | 0,_,β=>β
 | _+1,[],β=>β
 | f+1,p::l,β=>
  let visit:=fun (i j:Nat)=>if Nat.blt i base then ZeS σ1 σ2 base f l β else match Zbi β i with
   | some _=>ZeS σ1 σ2 base f l β
   | none=>ZeS σ1 σ2 base f ((σ1.get i).vals.zip (σ2.get j).vals++l) ((i,j)::β)
  match p.1,p.2 with
  | .pointer (some a),.pointer (some b)=>visit a.block b.block
  | .slice (some a) _ _,.slice (some b) _ _=>if a.spot.isNone then visit a.block b.block else ZeS σ1 σ2 base f l β
  | .map (some a),.map (some b)=>visit a b
  | .agg x,.agg y=>ZeS σ1 σ2 base f (x.toList.zip y.toList++l) β
  | .tuple x,.tuple y=>ZeS σ1 σ2 base f (x.toList.zip y.toList++l) β
  | .iface _ x,.iface _ y=>ZeS σ1 σ2 base f ((x,y)::l) β
  | .func _ _ x,.func _ _ y=>ZeS σ1 σ2 base f (x.toList.zip y.toList++l) β
  | _,_=>ZeS σ1 σ2 base f l β
noncomputable def olds (σ1 σ2:AS) (low:Nat):Nat→List (Value×Value)
 | 0=>[]
 | n+1=>if Nat.ble low n then (σ1.get n).vals.zip (σ2.get n).vals++olds σ1 σ2 low n else []
noncomputable def same (base:Nat) (v1 v2:Value) (σ1 σ2:AS):Option Pairs:=
 let β:=ZeS σ1 σ2 base 1000 ((v1,v2)::olds σ1 σ2 (Nat.min σ1.low σ2.low) base) []
 if vm base β 9 v1 v2&&alike base β σ1 σ2 then some β else none
noncomputable def Zmo (v:Value) (bs:List Blk):Option (Value×AS)→Bool
 | some (v2,σ2)=>match same 0 v v2 (lay0 bs ⟨0,0,.e⟩) σ2 with
  | some _=>true
  | none=>false
 | none=>false
theorem Knows.alike {P:Program} {K:Tbl} (hp:ProgOk P) (hk:KOk P K) {fuel f:Nat} {e:Memo} (ha:e.1.all flat=true) (h:Zmo e.2.1 e.2.2 (ZcB P K 0 fuel f e.1 ⟨0,0,.e⟩)=true):Knows P f e:=by
 intro G g zz σ u σ1 ρ w as' hu hR has;unfold Tbl.move at hu;dsimp only at hu;rw [Zab] at hu;split at hu
 ·rename_i hc;simp only [Bool.and_eq_true] at hc;obtain rfl:=zK hc.1;obtain rfl:=Zg9 (Zgv 9) hc.2;rw [List.all_eq_true] at ha;obtain rfl:=ZmV ha has;unfold Zmo at h;split at h
  ·rename_i v2 σ2 hrun;split at h
   ·rename_i β hsame;unfold same at hsame;dsimp only at hsame;split at hsame
    ·rename_i hc2;rw [Bool.and_eq_true] at hc2;have hR0:R 0 ⟨fun _=>none,fun _=>(0,0)⟩ ⟨0,0,.e⟩ w:=
      ⟨fun i b hi=>(nomatch hi),fun i j b hi=>(nomatch hi),fun g hg=>absurd hg (Nat.not_lt_zero _),zA _⟩
     have hrel:∀l:List Value,(∀x∈l,flat x=true)→LRel (VRel ⟨fun _=>none,fun _=>(0,0)⟩) l l:=by
      intro l
      induction l with
      | nil=>intro _;trivial
      | cons a l ih=>intro h;exact ⟨(ZaR (h a (by simp))).2 rfl,ih fun x hx=>h x (by simp [hx])⟩
     obtain ⟨h1,h2⟩:=Zfo hp hk fuel g _ ⟨0,0,.e⟩ v2 σ2 _ w _ hrun hR0 (hrel _ ha);refine ⟨h1,h2.mono fun e w' ⟨v',τ,he,hv',hs⟩=>?_⟩;obtain ⟨τc,hs2,hb⟩:=hs.alike (AMono.lay0 _ _) hc2.2;obtain ⟨τ',h3,h4⟩:=Zrv hR hs2 (Zfr hb 9 hc2.1 hv') (Zlm _) hu;exact ⟨v',τ',he,h3,h4⟩
    ·cases hsame
   ·cases h
  ·cases h
 ·exact ZgS P G g zz σ u σ1 ρ w as' hu hR has
def CLe (f g:FuncId→List Value→AS→Option (Value×AS)):Prop:=∀fn args σ x,f fn args σ=some x→g fn args σ=some x
section more
variable {P:Program} {K:Tbl} {G n:Nat} {f g:FuncId→List Value→AS→Option (Value×AS)} {ops:Array Oper} {pb sj:List Nat} {N:Nat}
theorem ZdG (h:CLe f g) {r:Regs} {σ:AS} {o:Op} {x:Value×AS} (hx:Zb5 P G f r σ o=some x):Zb5 P G g r σ o=some x:=by
 rw [aStep_eq] at hx ⊢;cases o
 case call c=>
  obtain ⟨callee,args,ts⟩:=c;cases callee with
  | value y=>
   simp only [aStepOld,Zgd] at hx ⊢;split at hx
   ·split at hx
    ·rename_i hvs
     try simp only [hvs]
     exact h _ _ _ _ hx
    ·cases hx
   ·cases hx
  | builtin b=>exact hx
  | invoke y m=>exact hx
 all_goals exact hx
theorem ZfZ (h:CLe f g):∀(l:List Oper) (r:Regs) (σ:AS) {x:Regs×AS},aOps P G f n ops l r σ=some x→aOps P G g n ops l r σ=some x
 | [],r,σ,x,hx=>hx
 | o::l,r,σ,x,hx=>by
  simp only [aOps,Zab] at hx ⊢;split at hx
  ·rename_i hw;rw [if_pos hw];split at hx
   ·rename_i v σ1 hs;rw [ZdG h hs];dsimp only;split at hx
    ·rename_i r1 hp
     try rw [hp]
     exact ZfZ h l r1 σ1 hx
    ·cases hx
   ·cases hx
  ·rename_i hw;rw [if_neg hw];split at hx
   ·rename_i r1 hp
    try rw [hp]
    exact ZfZ h l r1 σ hx
   ·cases hx
theorem Znf {r:Regs} {σ:AS} {o:Op} (ho:Zck o=true):Zb5 P G f r σ o=Zb5 P G g r σ o:=by
 cases o<;>first|rfl|cases ho
theorem Zh8 {L:List Ent} {σ:AS} {j:Nat}:ZcE P G f ops pb N sj L σ j=ZcE P G g ops pb N sj L σ j:=by
 unfold ZcE;split
 ·rename_i e o _ _;cases ho:Zck o.op with
  | false=>rfl
  | true=>
   have:∀r s,Zb5 P G f r s o.op=Zb5 P G g r s o.op:=fun r s=>Znf ho;simp only [this]
 ·rfl
theorem ZlC {L:List Ent} {σ:AS}:Zdz P G f ops pb N sj L σ=Zdz P G g ops pb N sj L σ:=by
 unfold Zdz
 congr 1
 refine List.all_congr rfl fun j=>Zh8
theorem ZeB (h:CLe f g):∀(l:List Oper) (r:Regs) (σ:AS) (acc:List Ent) {x:Regs×AS},ZbQ P G f n ops pb N sj l r σ acc=some x→ZbQ P G g n ops pb N sj l r σ acc=some x
 | [],r,σ,acc,x,hx=>by
  simp only [ZbQ] at hx ⊢;rw [ZlC (g:=f)];exact hx
 | o::l,r,σ,acc,x,hx=>by
  simp only [ZbQ,Zab] at hx ⊢;split at hx
  ·rename_i hw;rw [if_pos hw];split at hx
   ·rename_i v σ1 hs;rw [ZdG h hs];dsimp only;split at hx
    ·rename_i r1 hp
     try rw [hp]
     exact ZeB h l r1 _ _ hx
    ·cases hx
   ·cases hx
  ·rename_i hw;rw [if_neg hw];split at hx
   ·rename_i r1 hp
    try rw [hp]
    exact ZeB h l r1 _ _ hx
   ·cases hx
theorem ZnJ (h:CLe f g) {r:Regs} {σ:AS} {x:Regs×AS} (hx:Zid P G f n ops r σ=some x):Zid P G g n ops r σ=some x:=by
 unfold Zid at hx ⊢;split at hx
 ·rename_i hs;rw [if_pos hs];exact ZeB h _ _ _ _ hx
 ·cases hx
def Ze5 (a b:ZgT):Prop:=∀n c r σ x,a n c r σ=some x→b n c r σ=some x
theorem Zet {a b:ZgT} (h:Ze5 a b):CLe (Zci P a) (Zci P b):=by
 intro fn args σ x hx;unfold Zci at hx ⊢;split at hx
 ·split at hx
  ·split at hx
   ·rename_i hl;split at hx
    ·rename_i y r' σ' hc;have hc':=h _ _ _ _ _ hc;simp only [*,if_true]
    ·cases hx
   ·cases hx
  ·cases hx
 ·cases hx
theorem ZeY {a b:ZgT} (h:Ze5 a b):CLe (Zca P K a) (Zca P K b):=by
 intro fn args σ x hx;unfold Zca at hx ⊢;split at hx
 ·exact hx
 ·exact Zet h _ _ _ _ hx
theorem ZfM (h:CLe f g):∀(l:List Oper) (r:Regs) (σ:AS) (ds:List ADef) {x:Regs×AS×List ADef},dOps P G f n ops l r σ ds=some x→dOps P G g n ops l r σ ds=some x
 | [],r,σ,ds,x,hx=>hx
 | o::l,r,σ,ds,x,hx=>by
  unfold dOps at hx ⊢;split at hx
  ·rename_i hw;rw [if_pos hw];split at hx
   ·rename_i c hop;split at hx
    ·rename_i d hpush;split at hx
     ·rename_i r1 hput;exact ZfM h l _ _ _ hx
     ·cases hx
    ·cases hx
   ·rename_i hno;split at hx
    ·rename_i v σ1 hs;split at hx
     ·rename_i r1 hput;have hs':=ZdG h hs;rw [hs'];dsimp only
      try rw [hput]
      exact ZfM h l _ _ _ hx
     ·cases hx
    ·cases hx
  ·rename_i hw;rw [if_neg hw];split at hx
   ·rename_i r1 hput;exact ZfM h l _ _ _ hx
   ·cases hx
theorem Zc0 {a b:ZgT} (h:CLe f g) (hk:Ze5 a b):∀(k n:Nat) (c:Code) (r:Regs) (σ:AS) (ds:List ADef) {x:Nat×Regs×AS×List ADef},Zgm P G f a k n c r σ ds=some x→Zgm P G g b k n c r σ ds=some x
 | 0,n,c,r,σ,ds,x,hx=>by cases hx
 | k+1,n,c,r,σ,ds,x,hx=>by
  unfold Zgm at hx ⊢;split at hx
  ·rename_i hd;rw [if_pos hd];split at hx
   ·split at hx
    ·rename_i h1;rw [Zc0 h hk k _ _ _ _ _ h1];dsimp only;split at hx
     ·rename_i he;rw [if_pos he];exact Zc0 h hk k _ _ _ _ _ hx
     ·rename_i he;rw [if_neg he];exact hx
    ·cases hx
   ·split at hx
    ·rename_i hb;exact Zc0 h hk k _ _ _ _ _ hx
    ·cases hx
   ·split at hx
    ·rename_i h1;rw [Zc0 h hk k _ _ _ _ _ h1];exact hx
    ·cases hx
   ·exact Zc0 h hk k _ _ _ _ _ hx
   ·split at hx
    ·rename_i h1;rw [ZfM h _ _ _ _ h1];exact hx
    ·cases hx
   ·cases hx
  ·rename_i hd;rw [if_neg hd];split at hx
   ·rename_i h1;rw [hk _ _ _ _ _ h1];exact hx
   ·cases hx
theorem Zo0 {a b:ZgT} (h:CLe f g) (hk:Ze5 a b) {fn:FuncId} {args:List Value} {σ:AS} {x:AS} (hx:dRec P G f a fn args σ=some x):dRec P G g b fn args σ=some x:=by
 unfold dRec at hx ⊢;split at hx
 ·split at hx
  ·split at hx
   ·split at hx
    ·rename_i hc;split at hx
     ·rename_i hput;split at hx
      ·rename_i h1;split at hx
       ·rename_i h2;simp only [hc,if_true,ZfZ h _ _ _ h1,hk _ _ _ _ _ h2];exact hx
       ·cases hx
      ·cases hx
     ·cases hx
    ·cases hx
   ·cases hx
  ·cases hx
 ·cases hx
theorem ZhK {a b:ZgT} (h:CLe f g) (hk:Ze5 a b):∀(ds:List ADef) (σ:AS) {x:AS},dRun P G f a ds σ=some x→dRun P G g b ds σ=some x
 | [],σ,x,hx=>hx
 | d::ds,σ,x,hx=>by
  simp only [dRun,Zab] at hx ⊢;split at hx
  ·rename_i hi;rw [if_pos hi];split at hx
   ·rename_i h1;rw [Zo0 h hk h1];exact ZhK h hk ds _ hx
   ·cases hx
  ·rename_i hi;rw [if_neg hi];split at hx
   ·rename_i h1;rw [Zet hk _ _ _ _ h1];exact ZhK h hk ds _ hx
   ·cases hx
theorem Zfk {a b:ZgT} (h:Ze5 a b):CLe (ZbY P K G a) (ZbY P K G b):=by
 intro fn args σ x hx;unfold ZbY at hx ⊢;split at hx
 ·exact hx
 rw [Zab] at hx ⊢;split at hx
 ·rename_i hd;rw [if_pos hd];unfold Zjy at hx ⊢;split at hx
  ·split at hx
   ·split at hx
    ·rename_i hl;split at hx
     ·rename_i y r' σ' ds hc;split at hx
      ·rename_i hy;split at hx
       ·rename_i σ2 h2;have hc':=Zc0 (ZeY (K:=K) h) h _ _ _ _ _ _ hc;have h2':=ZhK (ZeY (K:=K) h) h _ _ h2;simp only [*,if_true]
       ·cases hx
      ·cases hx
     ·cases hx
    ·cases hx
   ·cases hx
  ·cases hx
 ·rename_i hd;rw [if_neg hd];exact Zet h _ _ _ _ hx
theorem ZnC {a b:ZgT} (h:Ze5 a b):Ze5 (ZdY P K G a) (ZdY P K G b):=by
 intro n c r σ x hx;have seqs:∀(c d:Code) {x},cSeq a n d (a n c r σ)=some x→cSeq b n d (b n c r σ)=some x:=fun c d x hx=>by
  cases hc:a n c r σ with
  | none=>rw [hc] at hx;cases hx
  | some y=>
   obtain ⟨e,r1,σ1⟩:=y;rw [hc] at hx;rw [h _ _ _ _ _ hc];simp only [cSeq] at hx ⊢;split at hx
   ·rename_i he;rw [if_pos he];exact h _ _ _ _ _ hx
   ·rename_i he;rw [if_neg he];exact hx
 cases c<;>simp only [ZdY] at hx ⊢
 case seq c d=>exact seqs c d hx
 case loop c=>exact seqs c (.loop c) hx
 case cond v c d=>
  unfold Zkz at hx ⊢;split at hx
  ·exact h _ _ _ _ _ hx
  ·cases hx
 case block id c=>
  cases hc:a n c r σ with
  | none=>rw [hc] at hx;cases hx
  | some y=>rw [hc] at hx;rw [h _ _ _ _ _ hc];exact hx
 case scope c=>exact h _ _ _ _ _ hx
 case region id ops draw=>
  cases draw with
  | true=>
   dsimp only at hx ⊢;cases hc:Zid P G (ZbY P K G a) n ops r σ with
   | none=>rw [hc] at hx;cases hx
   | some y=>rw [hc] at hx;rw [ZnJ (Zfk h) hc];exact hx
  | false=>
   dsimp only at hx ⊢;cases hc:aOps P G (ZbY P K G a) n ops ops.toList r σ with
   | none=>rw [hc] at hx;cases hx
   | some y=>rw [hc] at hx;rw [ZfZ (Zfk h) _ _ _ hc];exact hx
 all_goals first|exact hx|cases hx
theorem ZdI:∀fuel,Ze5 (Zbf P K G fuel) (Zbf P K G (fuel+1))
 | 0=>fun n c r σ x hx=>by simp [Zbf] at hx
 | fuel+1=>ZnC (ZdI fuel)
theorem Zjz {m k:Nat} (hmk:m≤k):Ze5 (Zbf P K G m) (Zbf P K G k):=by
 induction hmk with
 | refl=>exact fun _ _ _ _ _ h=>h
 | step _ ih=>exact fun n c r σ x h=>ZdI _ n c r σ x (ih n c r σ x h)
end more
section
variable (P:Program) (K:Tbl) (G:Nat)
def W (n:Nat) (c:Code) (r:Regs) (σ:AS) (Q:Nat→Regs→AS→Prop):Prop:=
 ∃x r' σ' N,(∀fuel,N≤fuel→Zbf P K G fuel n c r σ=some (x,r',σ'))∧Q x r' σ'
def C (f:FuncId) (args:List Value) (σ:AS) (Q:Value→AS→Prop):Prop:=
 ∃v σ' N,(∀fuel,N≤fuel→ZcB P K G fuel f args σ=some (v,σ'))∧Q v σ'
def O (r:Regs) (σ:AS) (o:Op) (Q:Value→AS→Prop):Prop:=
 ∃v σ' N,(∀fuel,N≤fuel→Zb5 P G (ZcB P K G fuel) r σ o=some (v,σ'))∧Q v σ'
def Ls (n:Nat) (ops:Array Oper) (l:List Oper) (r:Regs) (σ:AS) (Q:Regs→AS→Prop):Prop:=
 ∃r' σ' N,(∀fuel,N≤fuel→aOps P G (ZcB P K G fuel) n ops l r σ=some (r',σ'))∧Q r' σ'
def Lq (n:Nat) (ops:Array Oper) (sj:List Nat) (l:List Oper) (r:Regs) (σ:AS) (acc:List Ent) (Q:Regs→AS→Prop):Prop:=
 ∃r' σ' N,(∀fuel,N≤fuel→ZbQ P G (ZcB P K G fuel) n ops (Zbp ops) ops.size sj l r σ acc=some (r',σ'))∧Q r' σ'
end
section
variable {P:Program} {K:Tbl} {G:Nat} {n:Nat} {r:Regs} {σ:AS} {Q:Nat→Regs→AS→Prop}
theorem W.mono {c:Code} {Q':Nat→Regs→AS→Prop} (h:W P K G n c r σ Q) (hq:∀x r' σ',Q x r' σ'→Q' x r' σ'):W P K G n c r σ Q':=by
 obtain ⟨x,r',σ',N,h1,h2⟩:=h;exact ⟨x,r',σ',N,h1,hq _ _ _ h2⟩
theorem C.mono {f:FuncId} {args:List Value} {Q Q':Value→AS→Prop} (h:C P K G f args σ Q) (hq:∀v σ',Q v σ'→Q' v σ'):C P K G f args σ Q':=by
 obtain ⟨v,σ',N,h1,h2⟩:=h;exact ⟨v,σ',N,h1,hq _ _ h2⟩
theorem W_at {c:Code} {x:Nat} {r':Regs} {σ':AS} (N:Nat) (h:∀fuel,N≤fuel→ZdY P K G (Zbf P K G fuel) n c r σ=some (x,r',σ')) (hq:Q x r' σ'):W P K G n c r σ Q:=
 ⟨x,r',σ',N+1,fun fuel hf=>by
  cases fuel with
  | zero=>omega
  | succ fuel=>exact h fuel (by omega),hq⟩
theorem Zap (h:Q 0 r σ):W P K G n .skip r σ Q:=W_at 0 (fun _ _=>rfl) h
theorem Zsc {l:Nat} (h:Q 0 r σ):W P K G n (.label l) r σ Q:=W_at 0 (fun _ _=>rfl) h
theorem W_exit {id:Nat} (h:Q (id+2) r σ):W P K G n (.exit id) r σ Q:=W_at 0 (fun _ _=>rfl) h
theorem ZaL (h:Q 1 r σ):W P K G n .ret r σ Q:=W_at 0 (fun _ _=>rfl) h
theorem ZjD {c d:Code} (h:W P K G n c r σ fun e r' σ'=>(e=0→W P K G n d r' σ' Q)∧(e≠0→Q e r' σ')):W P K G n (.seq c d) r σ Q:=by
 obtain ⟨x,r',σ',N,h1,h2,h3⟩:=h;by_cases hx:x=0
 ·subst hx;obtain ⟨y,r2,σ2,M,h4,h5⟩:=h2 rfl;refine W_at (N+M) (fun fuel hf=>?_) h5;simp only [ZdY,h1 fuel (by omega),cSeq]
  exact h4 fuel (by omega)
 ·refine W_at N (fun fuel hf=>?_) (h3 hx);simp only [ZdY,h1 fuel hf,cSeq];rw [if_neg];intro h;exact hx (zK h)
theorem Zsd {id:Nat} {c:Code} (h:W P K G n c r σ fun e r' σ'=>(e=id+2→Q 0 r' σ')∧(e≠id+2→Q e r' σ')):W P K G n (.block id c) r σ Q:=by
 obtain ⟨x,r',σ',N,h1,h2,h3⟩:=h;by_cases hx:x=id+2
 ·refine W_at N (fun fuel hf=>?_) (h2 hx);simp only [ZdY,h1 fuel hf,ZkA];rw [if_pos (by rw [hx];exact Nat.beq_refl _)]
 ·refine W_at N (fun fuel hf=>?_) (h3 hx);simp only [ZdY,h1 fuel hf,ZkA];rw [if_neg];intro h;exact hx (zK h)
theorem W_loop {α:Type} (inv:α→Regs→AS→Prop) (μ:α→Nat) {c:Code}
  (h:∀a r σ,inv a r σ→W P K G n c r σ fun e r' σ'=>(e=0→∃a',μ a'<μ a∧inv a' r' σ')∧(e≠0→Q e r' σ')) :
  ∀a r σ,inv a r σ→W P K G n (.loop c) r σ Q:=by
 have key:∀m a r σ,μ a≤m→inv a r σ→W P K G n (.loop c) r σ Q:=by
  intro m
  induction m with
  | zero=>
   intro a r σ hm hi;obtain ⟨x,r',σ',N,h1,h2,h3⟩:=h a r σ hi;by_cases hx:x=0
   ·obtain ⟨a',h4,_⟩:=h2 hx;omega
   ·refine W_at N (fun fuel hf=>?_) (h3 hx);simp only [ZdY,h1 fuel hf,cSeq];rw [if_neg];intro h;exact hx (zK h)
  | succ m ih=>
   intro a r σ hm hi;obtain ⟨x,r',σ',N,h1,h2,h3⟩:=h a r σ hi;by_cases hx:x=0
   ·subst hx;obtain ⟨a',h4,h5⟩:=h2 rfl;obtain ⟨y,r2,σ2,M,h6,h7⟩:=ih a' r' σ' (by omega) h5
    refine W_at (N+M) (fun fuel hf=>?_) h7;simp only [ZdY,h1 fuel (by omega),cSeq]
    exact h6 fuel (by omega)
   ·refine W_at N (fun fuel hf=>?_) (h3 hx);simp only [ZdY,h1 fuel hf,cSeq];rw [if_neg];intro h;exact hx (zK h)
 intro a r σ hi;exact key (μ a) a r σ (zA _) hi
theorem Zqw {id:Nat} {ops:Array Oper} (h:Ls P K G n ops ops.toList r σ (Q 0)):W P K G n (.region id ops false) r σ Q:=by
 obtain ⟨r',σ',N,h1,h2⟩:=h;refine W_at N (fun fuel hf=>?_) h2;have:=h1 fuel hf;simp only [ZdY];unfold ZcB at this;rw [show (fun f args σ=>ZbY P K G (Zbf P K G fuel) f args σ)=ZbY P K G (Zbf P K G fuel) from rfl] at this
 rw [this];rfl
theorem W_draw {id:Nat} {ops:Array Oper} (hst:Zdy ops (Zbp ops)=true) {sj:List Nat} (hsj:Zf9 ops (Zbp ops) ops.size=sj) (h:Lq P K G n ops sj ops.toList r σ [] (Q 0)):W P K G n (.region id ops true) r σ Q:=by
 obtain ⟨r',σ',N,h1,h2⟩:=h;refine W_at N (fun fuel hf=>?_) h2;have:=h1 fuel hf;simp only [ZdY];unfold ZcB at this;rw [show (fun f args σ=>ZbY P K G (Zbf P K G fuel) f args σ)=ZbY P K G (Zbf P K G fuel) from rfl] at this
 unfold Zid;rw [if_pos hst,hsj,this];rfl
theorem C_of {f:FuncId} {args:List Value} {fn:Func} {c:Code} {Q:Value→AS→Prop} (hk:K.ask f args σ=none) (hf:P.funcs[f]?=some fn) (hb:fn.body=some c) (hl:args.length≤fn.ntmps)
  (h:W P K G fn.ntmps c (ZaI args 0 .e) σ fun x r' σ'=>x≤1∧∃vs,Zaj P σ' r' fn.results.toList=some vs∧Q (Zbw vs) σ') (hdf:K.dfr f=false:=by rfl):C P K G f args σ Q:=by
 obtain ⟨x,r',σ',N,h1,hx,vs,h2,h3⟩:=h;refine ⟨Zbw vs,σ',N,fun fuel hfu=>?_,h3⟩;unfold ZcB ZbY;simp only [hk,hdf,Zab,Bool.false_eq_true,if_false];unfold Zci;simp only [hf,hb];rw [if_pos (by simpa [Nat.ble_eq] using hl),h1 fuel hfu]
 simp only [h2];rw [if_pos (by simpa [Nat.ble_eq] using hx)]
theorem ZjG {f:FuncId} {args:List Value} {v:Value} {σ':AS} {Q:Value→AS→Prop} (hk:K.ask f args σ=some (v,σ')) (h:Q v σ'):C P K G f args σ Q:=
 ⟨v,σ',0,fun fuel _=>by unfold ZcB ZbY;simp only [hk],h⟩
section ops
variable {ops:Array Oper} {Q:Regs→AS→Prop} {l:List Oper} {o:Oper} {sj:List Nat} {acc:List Ent}
theorem Ls_nil (h:Q r σ):Ls P K G n ops [] r σ Q:=⟨r,σ,0,fun _ _=>rfl,h⟩
theorem Zpn (hw:aWanted ops r o=true) (h:O P K G r σ o.op fun v σ'=>∃r',aPut n r o.dst v=some r'∧Ls P K G n ops l r' σ' Q):Ls P K G n ops (o::l) r σ Q:=by
 obtain ⟨v,σ',N,h1,r',h2,r2,σ2,M,h3,h4⟩:=h;refine ⟨r2,σ2,N+M,fun fuel hf=>?_,h4⟩;simp only [aOps,Zab,hw,if_true,h1 fuel (by omega),h2]
 exact h3 fuel (by omega)
theorem Lq_nil (hsj:sj=[]) (hq:acc.any (·.f)=false) (h:Q r σ):Lq P K G n ops sj [] r σ acc Q:=⟨r,σ,0,fun fuel _=>by
 have:acc.reverse.any (·.f)=false:=by simpa using hq
 simp only [ZbQ,Zdz,Zab,this,hsj];rfl,h⟩
end ops
section op
variable {Q:Value→AS→Prop}
theorem O_mem {o:Op} {v:Value} {σ':AS} (h:∀callf,Zb5 P G callf r σ o=some (v,σ')) (hq:Q v σ'):O P K G r σ o Q:=⟨v,σ',0,fun fuel _=>h _,hq⟩
theorem ZiQ {f:Operand} {args:Array Operand} {ts:Array TypeId} {fid:FuncId} {first captured:Array Value} {vs:List Value} (hf:aev G r f=some (.func (.func fid) first captured)) (hv:aevs G r args.toList=some vs)
  (h:C P K G fid (first.toList++vs++captured.toList) σ Q):O P K G r σ (.call ⟨.value f,args,ts⟩) Q:=by
 obtain ⟨v,σ',N,h1,h2⟩:=h;refine ⟨v,σ',N,fun fuel hfu=>?_,h2⟩;rw [aStep_eq];simp only [aStepOld,hf,Zgd,hv];exact h1 fuel hfu
end op
section code
variable {c d:Code} {id:Nat} {ops:Array Oper} {r':Regs} {σ':AS}
theorem Zpm {x:Nat} {N:Nat} (h:Zbf P K G N n c r σ=some (x,r',σ')) (hq:Q x r' σ'):W P K G n c r σ Q:=
 ⟨x,r',σ',N,fun _ hf=>Zjz hf n c r σ _ h,hq⟩
theorem Zao (h:W P K G n (.seq c .skip) r σ Q):W P K G n c r σ Q:=by
 obtain ⟨x,r',σ',N,h1,h2⟩:=h;have h3:=h1 (N+2) (by omega)
 have e1:Zbf P K G (N+2) n (.seq c .skip) r σ=cSeq (Zbf P K G (N+1)) n .skip (Zbf P K G (N+1) n c r σ):=rfl;rw [e1] at h3;cases hc:Zbf P K G (N+1) n c r σ with
 | none=>rw [hc] at h3;cases h3
 | some y=>
  obtain ⟨e,r1,σ1⟩:=y;rw [hc] at h3;simp only [cSeq] at h3;split at h3
  ·rename_i he;have he:=zK he;subst he;have e2:Zbf P K G (N+1) n .skip r1 σ1=some (0,r1,σ1):=rfl;rw [e2] at h3;cases h3;exact Zpm hc h2
  ·cases h3;exact Zpm hc h2
theorem Zaa {e:Code} (h:W P K G n (.seq c (.seq d e)) r σ Q):W P K G n (.seq (.seq c d) e) r σ Q:=by
 obtain ⟨x,r',σ',N,h1,h2⟩:=h;have h3:=h1 (N+2) (by omega)
 refine Zpm (N:=N+3) ?_ h2;have e1:Zbf P K G (N+2) n (.seq c (.seq d e)) r σ=cSeq (Zbf P K G (N+1)) n (.seq d e) (Zbf P K G (N+1) n c r σ):=rfl;have e2:Zbf P K G (N+3) n (.seq (.seq c d) e) r σ=cSeq (Zbf P K G (N+2)) n e (cSeq (Zbf P K G (N+1)) n d (Zbf P K G (N+1) n c r σ)):=rfl;rw [e1] at h3;rw [e2];cases hc:Zbf P K G (N+1) n c r σ with
 | none=>rw [hc] at h3;cases h3
 | some y=>
  obtain ⟨a,r1,σ1⟩:=y;rw [hc] at h3;simp only [cSeq] at h3 ⊢;by_cases ha:Nat.beq a 0=true
  ·rw [if_pos ha] at h3;simp only [ha,if_true];have e3:Zbf P K G (N+1) n (.seq d e) r1 σ1=cSeq (Zbf P K G N) n e (Zbf P K G N n d r1 σ1):=rfl;rw [e3] at h3;cases hd:Zbf P K G N n d r1 σ1 with
   | none=>rw [hd] at h3;cases h3
   | some z=>
    obtain ⟨b,r2,σ2⟩:=z;rw [hd] at h3;rw [ZdI N _ _ _ _ _ hd];simp only [cSeq] at h3 ⊢;by_cases hb:Nat.beq b 0=true
    ·rw [if_pos hb] at h3 ⊢;exact Zjz (by omega) _ _ _ _ _ h3
    ·rw [if_neg hb] at h3 ⊢;exact h3
  ·rw [if_neg ha] at h3;simp only [ha];simp only [Bool.false_eq_true,if_false,ha];exact h3
theorem ZaF (h:Ls P K G n ops ops.toList r σ fun r' σ'=>W P K G n d r' σ' Q):W P K G n (.seq (.region id ops false) d) r σ Q:=
 ZjD (Zqw (by
  obtain ⟨r',σ',N,h1,h2⟩:=h;exact ⟨r',σ',N,h1,fun _=>h2,fun h=>absurd rfl h⟩))
theorem Zad (h:∀callf,aOps P G callf n ops ops.toList r σ=some (r',σ')) (hn:W P K G n d r' σ' Q):W P K G n (.seq (.region id ops false) d) r σ Q:=
 ZaF ⟨r',σ',0,fun _ _=>h _,hn⟩
theorem W_if {x:Operand} {e:Code} {b:Bool} (hb:aev G r x=some (.bool b)) (ht:b=true→W P K G n (.seq c e) r σ Q) (hf:b=false→W P K G n (.seq d e) r σ Q):W P K G n (.seq (.cond x c d) e) r σ Q:=by
 cases b with
 | true=>
  obtain ⟨x',r',σ',N,h1,h2⟩:=ht rfl;refine Zpm (N:=N+2) ?_ h2;have h3:=h1 (N+1) (by omega)
  have e1:Zbf P K G (N+2) n (.seq (.cond x c d) e) r σ=cSeq (Zbf P K G (N+1)) n e (Zkz (Zbf P K G N) n c d r σ (aev G r x)):=rfl;have e2:Zbf P K G (N+1) n (.seq c e) r σ=cSeq (Zbf P K G N) n e (Zbf P K G N n c r σ):=rfl;rw [e2] at h3;rw [e1,hb];simp only [Zkz,if_true];cases hc:Zbf P K G N n c r σ with
  | none=>rw [hc] at h3;cases h3
  | some y=>
   obtain ⟨a,r1,σ1⟩:=y;rw [hc] at h3;simp only [cSeq] at h3 ⊢;by_cases ha:Nat.beq a 0=true
   ·rw [if_pos ha] at h3 ⊢;exact ZdI _ _ _ _ _ _ h3
   ·rw [if_neg ha] at h3 ⊢;exact h3
 | false=>
  obtain ⟨x',r',σ',N,h1,h2⟩:=hf rfl;refine Zpm (N:=N+2) ?_ h2;have h3:=h1 (N+1) (by omega)
  have e1:Zbf P K G (N+2) n (.seq (.cond x c d) e) r σ=cSeq (Zbf P K G (N+1)) n e (Zkz (Zbf P K G N) n c d r σ (aev G r x)):=rfl;have e2:Zbf P K G (N+1) n (.seq d e) r σ=cSeq (Zbf P K G N) n e (Zbf P K G N n d r σ):=rfl;rw [e2] at h3;rw [e1,hb];simp only [Zkz,Bool.false_eq_true,if_false];cases hc:Zbf P K G N n d r σ with
  | none=>rw [hc] at h3;cases h3
  | some y=>
   obtain ⟨a,r1,σ1⟩:=y;rw [hc] at h3;simp only [cSeq] at h3 ⊢;by_cases ha:Nat.beq a 0=true
   ·rw [if_pos ha] at h3 ⊢;exact ZdI _ _ _ _ _ _ h3
   ·rw [if_neg ha] at h3 ⊢;exact h3
theorem ZaC {x:Operand} {e:Code} (hb:aev G r x=some (.bool false)) (h:W P K G n (.seq d e) r σ Q):W P K G n (.seq (.cond x c d) e) r σ Q:=W_if hb (fun h=>nomatch h) fun _=>h
theorem ZaQ {x:Operand} {e:Code} (hb:aev G r x=some (.bool true)) (h:W P K G n (.seq c e) r σ Q):W P K G n (.seq (.cond x c d) e) r σ Q:=W_if hb (fun _=>h) fun h=>nomatch h
theorem Zak (h:W P K G n d r σ Q):W P K G n (.seq .skip d) r σ Q:=ZjD (Zap ⟨fun _=>h,fun h=>absurd rfl h⟩)
theorem W_labelq {l:Nat} (h:W P K G n d r σ Q):W P K G n (.seq (.label l) d) r σ Q:=ZjD (Zsc ⟨fun _=>h,fun h=>absurd rfl h⟩)
theorem Zbj (h:Q 1 r σ):W P K G n (.seq .ret d) r σ Q:=ZjD (ZaL ⟨fun h=>(nomatch h),fun _=>h⟩)
theorem ZaA (h:Q (id+2) r σ):W P K G n (.seq (.exit id) d) r σ Q:=ZjD (W_exit ⟨fun h=>(nomatch h),fun _=>h⟩)
theorem ZaM (h:W P K G n c r σ fun e r' σ'=>(e=0∨e=id+2→W P K G n d r' σ' Q)∧(e≠0→e≠id+2→Q e r' σ')):W P K G n (.seq (.block id c) d) r σ Q:=
 ZjD (Zsd (h.mono fun e r' σ' ⟨h1,h2⟩=>⟨fun he=>⟨fun _=>h1 (.inr he),fun h=>absurd rfl h⟩,fun he=>⟨fun h0=>h1 (.inl h0),fun h0=>h2 h0 he⟩⟩))
theorem Zdc {α:Type} (inv:α→Regs→AS→Prop) (μ:α→Nat)
  (h:∀a r σ,inv a r σ→W P K G n c r σ fun e r' σ'=>(e=0→∃a',μ a'<μ a∧inv a' r' σ')∧(e=id+2→W P K G n d r' σ' Q)∧(e≠0→e≠id+2→Q e r' σ'))
  (a:α) (h0:inv a r σ):W P K G n (.seq (.block id (.loop c)) d) r σ Q:=
 ZaM (W_loop (Q:=fun e r' σ'=>(e=0∨e=id+2→W P K G n d r' σ' Q)∧(e≠0→e≠id+2→Q e r' σ')) inv μ
  (fun a r σ hi=>(h a r σ hi).mono fun e r' σ' ⟨h1,h2,h3⟩=>⟨h1,fun he=>⟨fun h4=>h2 (h4.resolve_left he),h3⟩⟩) a r σ h0)
section lists
variable {Q:Regs→AS→Prop} {l:List Oper}
theorem Zay (k:Nat) (h:∀callf,aOps P G callf n ops (l.take k) r σ=some (r',σ')) (hl:Ls P K G n ops (l.drop k) r' σ' Q):Ls P K G n ops l r σ Q:=by
 have app:∀(l1 l2:List Oper) (callf) (r σ),aOps P G callf n ops (l1++l2) r σ=(match aOps P G callf n ops l1 r σ with|some (r',σ')=>aOps P G callf n ops l2 r' σ'|none=>none):=by
  intro l1
  induction l1 with
  | nil=>intro l2 callf r σ;rfl
  | cons o l1 ih=>
   intro l2 callf r σ;simp only [List.cons_append,aOps,Zab];split
   ·split
    ·split
     ·exact ih _ _ _ _
     ·rfl
    ·rfl
   ·split
    ·exact ih _ _ _ _
    ·rfl
 obtain ⟨r2,σ2,N,h1,h2⟩:=hl;refine ⟨r2,σ2,N,fun fuel hf=>?_,h2⟩;rw [←List.take_append_drop k l,app,h];exact h1 fuel hf
theorem ZaG (h:∀callf,aOps P G callf n ops l r σ=some (r',σ')) (hq:Q r' σ'):Ls P K G n ops l r σ Q:=⟨r',σ',0,fun _ _=>h _,hq⟩
theorem Zfp {d:Nat} {f:Operand} {args:Array Operand} {ts:Array TypeId} {ty:TypeId} {pos:String} {aft:Array Edge} {fid:FuncId} {first captured:Array Value} {vs:List Value}
  (hf:aev G r f=some (.func (.func fid) first captured)) (hv:aevs G r args.toList=some vs) (hd:d<n)
  (h:C P K G fid (first.toList++vs++captured.toList) σ fun v σ'=>Ls P K G n ops l (rput r d v) σ' Q):Ls P K G n ops (⟨some d,.call ⟨.value f,args,ts⟩,ty,pos,aft,none⟩::l) r σ Q:=
 Zpn rfl (ZiQ hf hv (h.mono fun v σ' h=>⟨_,by simp only [aPut,Zab];rw [if_pos (by rw [Nat.blt_eq];exact hd)],h⟩))
theorem ZaV {d:Nat} {args:Array Operand} {ts:Array TypeId} {ty:TypeId} {pos:String} {aft:Array Edge} {fid:FuncId} {vs:List Value} (hv:aevs G r args.toList=some vs) (hd:d<n)
  (h:C P K G fid vs σ fun v σ'=>Ls P K G n ops l (rput r d v) σ' Q):Ls P K G n ops (⟨some d,.call ⟨.value (.func fid),args,ts⟩,ty,pos,aft,none⟩::l) r σ Q:=
 Zfp (first:=#[]) (captured:=#[]) rfl hv hd (by simpa using h)
end lists
end code
section draws
variable {ops:Array Oper} {sj X:List Nat} {Q:Regs→AS→Prop} {l:List Oper} {r':Regs} {σ':AS} {d:Code} {id:Nat}
noncomputable def ZjQ (P:Program) (G:Nat) (X:List Nat) (r:Regs) (σ:AS) (o:Oper) (v:Value):Bool:=
 vsc σ.next 9 v&&veq 9 v v&&(match fpOf P G r o.op with
  | some []=>true
  | some [x]=>Nat.blt x σ.next&&memb X x
  | _=>false)
noncomputable def newAt (ops:Array Oper) (k j:Nat):Bool:=
 Nat.blt k j&&(match ops[j]? with|some o=>(match o.op with | .alloc _=>true|_=>false)|none=>false) &&
 (match ops[k]? with|some o=>(match o.op with | .call c=>(match c.callee with | .value _=>true|_=>false)|_=>false)|none=>false)
noncomputable def Zke (ops:Array Oper) (sj:List Nat) (k:Nat):Bool:=sj.all fun j=>Zbu (Zbp ops) k j
noncomputable def Zg2 (ops:Array Oper):Bool:=match ops[0]? with|some o=>(match o.op with | .buildSlice ..=>true|_=>false)|none=>false
noncomputable def ZlB (ops:Array Oper) (sj:List Nat) (k j:Nat):Bool:=
 Nat.beq j 0&&Zg2 ops&&(match ops[k]? with|some o=>(match o.op with | .call c=>(match c.callee with | .value _=>true|_=>false)|_=>false)|none=>false)&&!Zke ops sj k
noncomputable def ZoC (ops:Array Oper) (sj:List Nat):Bool:=
 !Zg2 ops||(List.range ops.size).all fun k=>Nat.beq 0 k||Zbu (Zbp ops) k 0||!ZlB ops sj k 0
noncomputable def ZhU (P:Program) (ops:Array Oper) (sj:List Nat) (k:Nat):Bool:=
 (List.range ops.size).all fun j=>Nat.beq j k||Zbu (Zbp ops) k j||Zbu (Zbp ops) j k||ZbJ P ops sj j||newAt ops k j||ZlB ops sj k j
noncomputable def aQ (P:Program) (G:Nat) (callf:FuncId→List Value→AS→Option (Value×AS)) (n:Nat) (ops:Array Oper) (sj X:List Nat):Nat→List Oper→Regs→AS→Option (Regs×AS)
 | _,[],r,σ=>some (r,σ)
 | k,o::l,r,σ=>bite (aWanted ops r o)
   (match Zb5 P G callf r σ.reset o.op with
   | some (v,s1)=>bite (Nat.ble σ.next s1.low&&(!memb sj k||ZjQ P G X r σ o v)) (match aPut n r o.dst v with
     | some r'=>aQ P G callf n ops sj X (k+1) l r' (σ.merge s1)
     | none=>none) none
   | none=>none)
   (match aPut n r o.dst undef with
   | some r'=>aQ P G callf n ops sj X (k+1) l r' σ
   | none=>none)
def Zq1 (P:Program) (G:Nat) (ops:Array Oper) (sj X:List Nat) (k:Nat) (r:Regs) (σ:AS) (o:Oper) (v:Value) (s1:AS):Prop:=
 (σ.next≤s1.low∨(ZhU P ops sj k=true∧∀x∈X,x<σ.next→s1.get x=σ.get x∨(Zke ops sj k=true∧ZmO (fpOf P G r o.op) x=true)))∧
 (memb sj k=true→ZjQ P G X r σ o v=true)
def Lg (P:Program) (K:Tbl) (G n:Nat) (ops:Array Oper) (sj X:List Nat):Nat→List Oper→Regs→AS→(Regs→AS→Prop)→Prop
 | _,[],r,σ,Q=>Q r σ
 | k,o::l,r,σ,Q=>(aWanted ops r o=true→O P K G r σ.reset o.op fun v s1=>Zq1 P G ops sj X k r σ o v s1∧∃r',aPut n r o.dst v=some r'∧Lg P K G n ops sj X (k+1) l r' (σ.merge s1) Q)∧
  (aWanted ops r o=false→∃r',aPut n r o.dst undef=some r'∧Lg P K G n ops sj X (k+1) l r' σ Q)
theorem Zgn {fuel:Nat}:ZbI (ZcB P K G fuel):=Zda (ZeN fuel)
structure AtG (P:Program) (K:Tbl) (G n:Nat) (ops:Array Oper) (sj X:List Nat) (M:Nat) (rS:Nat→Regs) (sS:Nat→AS) (vS:Nat→Value) (fS:Nat→Bool) (k:Nat) (o:Oper):Prop where
 yes:aWanted ops (rS k) o=true→∃s1,(∀fuel,M≤fuel→Zb5 P G (ZcB P K G fuel) (rS k) (sS k).reset o.op=some (vS k,s1))∧fS k=(!Nat.ble (sS k).next s1.low)∧sS (k+1)=(sS k).merge s1∧
  Zq1 P G ops sj X k (rS k) (sS k) o (vS k) s1
 no:aWanted ops (rS k) o=false→vS k=undef∧sS (k+1)=sS k∧fS k=false
 put:aPut n (rS k) o.dst (vS k)=some (rS (k+1))
theorem AtG.up {M M':Nat} {rS:Nat→Regs} {sS:Nat→AS} {vS:Nat→Value} {fS:Nat→Bool} {k:Nat} {o:Oper} (h:AtG P K G n ops sj X M rS sS vS fS k o) (hm:M≤M'):AtG P K G n ops sj X M' rS sS vS fS k o:=
 ⟨fun hw=>by obtain ⟨s1,h1,h2⟩:=h.yes hw;exact ⟨s1,fun fuel hf=>h1 fuel (zB hm hf),h2⟩,h.no,h.put⟩
theorem Zm9:∀(l:List Oper) (k0:Nat) (r:Regs) (σ:AS),Lg P K G n ops sj X k0 l r σ Q→(∀i,l[i]?=ops.toList[k0+i]?)→
  ∃rS sS vS fS M,rS k0=r∧sS k0=σ∧Q (rS (k0+l.length)) (sS (k0+l.length))∧∀k o,k0≤k→ops.toList[k]?=some o→AtG P K G n ops sj X M rS sS vS fS k o
 | [],k0,r,σ,h,hl=>⟨fun _=>r,fun _=>σ,fun _=>undef,fun _=>false,0,rfl,rfl,h,fun k o hk ho=>by
   exfalso
   have:=hl (k-k0);rw [show k0+(k-k0)=k by omega,ho] at this
   simp at this⟩
 | x::l,k0,r,σ,h,hl=>by
  have hx:ops.toList[k0]?=some x:=by have:=hl 0;simpa using this.symm
  have hl':∀i,l[i]?=ops.toList[k0+1+i]?:=fun i=>by
   have:=hl (i+1);simp only [List.getElem?_cons_succ] at this;rw [this];congr 1;omega
  have go:∀r1 σ1 v1 f1 M1,Lg P K G n ops sj X (k0+1) l r1 σ1 Q→
    (∀rS sS vS fS,rS k0=r→sS k0=σ→vS k0=v1→fS k0=f1→rS (k0+1)=r1→sS (k0+1)=σ1→AtG P K G n ops sj X M1 rS sS vS fS k0 x)→
    ∃rS sS vS fS M,rS k0=r∧sS k0=σ∧Q (rS (k0+(x::l).length)) (sS (k0+(x::l).length))∧∀k o,k0≤k→ops.toList[k]?=some o→AtG P K G n ops sj X M rS sS vS fS k o:=by
   intro r1 σ1 v1 f1 M1 hgo hat;obtain ⟨rS,sS,vS,fS,M,h1,h2,h3,h5⟩:=Zm9 l (k0+1) r1 σ1 hgo hl';refine ⟨fun k=>if k=k0 then r else rS k,fun k=>if k=k0 then σ else sS k,fun k=>if k=k0 then v1 else vS k,fun k=>if k=k0 then f1 else fS k,max M M1,by simp,by simp,?_,?_⟩
   ·have e:k0+(x::l).length=k0+1+l.length:=by simp;omega
    simp only [e,if_neg (show ¬k0+1+l.length=k0 by omega)]
    exact h3
   ·intro k o hk ho;by_cases e:k=k0
    ·subst e;obtain rfl:x=o:=by rw [hx] at ho;exact Option.some.inj ho
     exact (hat _ _ _ _ (by simp) (by simp) (by simp) (by simp) (by simp [h1]) (by simp [h2])).up (Nat.le_max_right _ _)
    ·obtain ⟨a1,a2,a3⟩:=(h5 k o (by omega) ho).up (Nat.le_max_left M M1)
     refine ⟨?_,?_,?_⟩
     ·simp only [if_neg e,if_neg (show ¬k+1=k0 by omega)];exact a1
     ·simp only [if_neg e,if_neg (show ¬k+1=k0 by omega)];exact a2
     ·simp only [if_neg e,if_neg (show ¬k+1=k0 by omega)];exact a3
  cases hw:aWanted ops r x with
  | true=>
   obtain ⟨v,s1,N,h1,h2,r1,h3,h4⟩:=h.1 hw;refine go r1 (σ.merge s1) v (!Nat.ble σ.next s1.low) N h4 fun rS sS vS fS e1 e2 e3 e6 e4 e5=>⟨fun _=>⟨s1,?_,?_,?_,?_⟩,fun hno=>?_,?_⟩
   ·rw [e1,e2,e3];exact h1
   ·rw [e6,e2]
   ·rw [e5,e2]
   ·rw [e1,e2,e3];exact h2
   ·rw [e1,hw] at hno;cases hno
   ·rw [e1,e3,e4];exact h3
  | false=>
   obtain ⟨r1,h3,h4⟩:=h.2 hw;refine go r1 σ undef false 0 h4 fun rS sS vS fS e1 e2 e3 e6 e4 e5=>⟨fun hy=>?_,fun _=>⟨e3,by rw [e5,e2],e6⟩,?_⟩
   ·rw [e1,hw] at hy;cases hy
   ·rw [e1,e3,e4];exact h3
theorem Zmf {M fuel:Nat} {rS:Nat→Regs} {sS:Nat→AS} {vS:Nat→Value} {fS:Nat→Bool} (hf:M≤fuel):∀(l:List Oper) (k0:Nat) (acc:List Ent),(∀i,l[i]?=ops.toList[k0+i]?)→
  (∀k o,k0≤k→ops.toList[k]?=some o→AtG P K G n ops sj X M rS sS vS fS k o)→
  Zdz P G (ZcB P K G fuel) ops (Zbp ops) ops.size sj (acc.reverse++(List.range l.length).map fun i=>⟨sS (k0+i),rS (k0+i),vS (k0+i),fS (k0+i)⟩) (sS (k0+l.length))=true→
  ZbQ P G (ZcB P K G fuel) n ops (Zbp ops) ops.size sj l (rS k0) (sS k0) acc=some (rS (k0+l.length),sS (k0+l.length))
 | [],k0,acc,hl,hat,hok=>by
  simp only [ZbQ,Zab];rw [if_pos (by simpa using hok)]
  rfl
 | x::l,k0,acc,hl,hat,hok=>by
  have hx:ops.toList[k0]?=some x:=by have:=hl 0;simpa using this.symm
  have hl':∀i,l[i]?=ops.toList[k0+1+i]?:=fun i=>by
   have:=hl (i+1);simp only [List.getElem?_cons_succ] at this;rw [this];congr 1;omega
  have A:=hat k0 x (zA _) hx;have e0:k0+(x::l).length=k0+1+l.length:=by simp;omega
  have go:=Zmf hf l (k0+1) (⟨sS k0,rS k0,vS k0,fS k0⟩::acc) hl' (fun k o hk ho=>hat k o (by omega) ho) (by
   rw [←e0];have e:(acc.reverse++(List.range (x::l).length).map fun i=>(⟨sS (k0+i),rS (k0+i),vS (k0+i),fS (k0+i)⟩:Ent))
     = (⟨sS k0,rS k0,vS k0,fS k0⟩::acc).reverse++(List.range l.length).map fun i=>⟨sS (k0+1+i),rS (k0+1+i),vS (k0+1+i),fS (k0+1+i)⟩:=by
    rw [List.length_cons,List.range_succ_eq_map,List.map_cons,List.map_map,List.reverse_cons,List.append_assoc,List.singleton_append]
    congr 2
    refine List.map_congr_left fun i _=>?_;have e1:k0+(i+1)=k0+1+i:=by omega
    simp only [Function.comp_apply,Nat.succ_eq_add_one,e1]
   rw [←e];exact hok)
  rw [e0,←go];simp only [ZbQ,Zab];cases hw:aWanted ops (rS k0) x with
  | true=>
   obtain ⟨s1,h1,h2,h3,_⟩:=A.yes hw;rw [if_pos rfl,h1 fuel hf];dsimp only;rw [A.put];dsimp only;rw [h2,h3]
  | false=>
   obtain ⟨h1,h2,h3⟩:=A.no hw;rw [if_neg (by simp)]
   have hp:=A.put;rw [h1] at hp;rw [hp];dsimp only;rw [h1,h2,h3]
theorem Zhj {j:Nat} (h:j∈Zf9 ops (Zbp ops) ops.size):j<ops.size∧∃o,ops[j]?=some o∧Zck o.op=true:=by
 unfold Zf9 at h;rw [List.mem_filter] at h;obtain ⟨h1,h2⟩:=h;rw [Bool.and_eq_true] at h2;refine ⟨List.mem_range.1 h1,?_⟩;cases ho:ops[j]? with
 | none=>rw [ho] at h2;cases h2.1
 | some o=>rw [ho] at h2;exact ⟨o,rfl,h2.1⟩
theorem ZpZ {callf:FuncId→List Value→AS→Option (Value×AS)} {t:TypeId} {len:Nat} {parts:Array (Nat×Operand)} {v:Value} {s1:AS} (h:Zb5 P G callf r σ.reset (.buildSlice t len parts)=some (v,s1)):s1.next≤σ.next+1:=by
 simp only [aStep_eq,aStepOld,aOp,Zar] at h;split at h
 ·unfold Zaz at h;repeat' split at h
  all_goals first | (cases h;done)|skip
  all_goals (cases h;exact zA _)
 ·cases h
theorem Za8 {Q:Nat→Regs→AS→Prop} (sj X:List Nat) (hst:Zdy ops (Zbp ops)=true) (hsj:Zf9 ops (Zbp ops) ops.size=sj) (h:Lg P K G n ops sj X 0 ops.toList r σ fun r' σ'=>W P K G n d r' σ' Q)
  (hnew:ZoC ops sj=true∨σ.next∈X:=by first|with_reducible exact .inr (List.Mem.head _)|exact .inl (by kernel_rfl)) :
  W P K G n (.seq (.region id ops true) d) r σ Q:=by
 obtain ⟨rS,sS,vS,fS,M,e1,e2,hQ,hat⟩:=Zm9 ops.toList 0 r σ h (fun i=>by simp)
 simp only [Nat.zero_add,Array.length_toList] at hQ;refine ZjD (W_draw hst hsj ⟨rS ops.size,sS ops.size,M,fun fuel hf=>?_,fun _=>hQ,fun h=>absurd rfl h⟩);have hat:∀k o,ops.toList[k]?=some o→AtG P K G n ops sj X M rS sS vS fS k o:=fun k o ho=>hat k o (zH _) ho;have key:Zdz P G (ZcB P K G fuel) ops (Zbp ops) ops.size sj ((List.range ops.size).map fun i=>⟨sS i,rS i,vS i,fS i⟩) (sS ops.size)=true:=by
  generalize hL:((List.range ops.size).map fun i=>(⟨sS i,rS i,vS i,fS i⟩:Ent))=L;have hLk:∀m,m<ops.size→L[m]?=some ⟨sS m,rS m,vS m,fS m⟩:=fun m hm=>by
   rw [←hL,List.getElem?_map,List.getElem?_range hm];rfl
  have hN:∀m,m≤ops.size→Zcj L (sS ops.size) m=sS m:=fun m hm=>by
   unfold Zcj;rcases Nat.lt_or_ge m ops.size with h|h
   ·rw [hLk m h]
   ·obtain rfl:m=ops.size:=by omega
    rw [zV (by rw [←hL];simp)]
  have st:=Static.of hst;have hmono:∀k,k<ops.size→AMono (sS k) (sS (k+1)):=fun k hk=>by
   obtain ⟨o,ho⟩:=Zfa hk;have A:=hat k o ho;cases hw:aWanted ops (rS k) o with
   | true=>obtain ⟨s1,h1,h0,h3,_⟩:=A.yes hw;rw [h3];exact Zgf (Zcq Zgn (h1 fuel hf))
   | false=>rw [(A.no hw).2.1];exact AMono.refl _
  have hle:∀i j,i≤j→j≤ops.size→(sS i).next≤(sS j).next:=fun i j hij=>by
   induction hij with
   | refl=>intro _;exact zA _
   | step _ ih=>intro hj;exact zB (ih (by omega)) (hmono _ (by omega)).nxt
  have hwr:∀k,k<ops.size→Zih L k=fS k:=fun k hk=>by unfold Zih;rw [hLk k hk]
  have hfoot:∀k o,ops.toList[k]?=some o→ZcR P G ops sj L k=bite (ZbJ P ops sj k||!aWanted ops (rS k) o) (some []) (fpOf P G (rS k) o.op):=fun k o ho=>by
   have hk:k<ops.size:=by have:=(zE.1 ho).1;simpa using this
   have ho':ops[k]?=some o:=by simpa using ho
   unfold ZcR;rw [ho',hLk k hk]
  have hstill:∀k o,ops.toList[k]?=some o→ZbJ P ops sj k=true→fS k=false∧(sS (k+1)).next=(sS k).next:=fun k o ho h=>by
   have A:=hat k o ho;have ho':ops[k]?=some o:=by simpa using ho
   cases hw:aWanted ops (rS k) o with
   | true=>
    obtain ⟨s1,h1,h0,h3,_⟩:=A.yes hw;have e:s1=(sS k).reset:=by
     unfold ZbJ at h;rw [Bool.or_eq_true] at h;rcases h with h|h
     ·have hbo:Zc1 P o.op=true:=by
       unfold ZhT at h;rw [ho'] at h;exact h
      exact ZiH hbo (h1 fuel hf)
     ·obtain ⟨_,o',ho2,hs⟩:=Zhj (by rw [hsj];exact ZgY h)
      rw [ho'] at ho2;cases ho2;exact Zij hs (h1 fuel hf)
    refine ⟨?_,by rw [h3,e];rfl⟩
    rw [h0,e];simp [AS.reset]
   | false=>exact ⟨(A.no hw).2.2,by rw [(A.no hw).2.1]⟩
  have hX:∀k,k<ops.size→∀x∈X,x<(sS k).next→(sS (k+1)).get x=(sS k).get x∨(Zke ops sj k=true∧wrAt P G ops sj L (sS ops.size) k x=true):=fun k hk x hx hlt=>by
   obtain ⟨o,ho⟩:=Zfa hk;have A:=hat k o ho;cases hw:aWanted ops (rS k) o with
   | false=>exact .inl (by rw [(A.no hw).2.1])
   | true=>
    obtain ⟨s1,h1,h0,h3,h4,_⟩:=A.yes hw;rw [h3,Zb3];rcases h4 with h4|⟨_,h4⟩
    ·exact .inl ((Zcq Zgn (h1 fuel hf)).keep x hlt (zC hlt h4))
    ·rcases h4 x hx hlt with h5|⟨h5,h6⟩
     ·exact .inl h5
     ·cases hfk:fS k with
      | false=>
       have hb:Nat.ble (sS k).next s1.low=true:=by rw [h0] at hfk;simpa using hfk
       exact .inl ((Zcq Zgn (h1 fuel hf)).keep x hlt (zC hlt (zD hb)))
      | true=>
       refine .inr ⟨h5,?_⟩;have hns:ZbJ P ops sj k=false:=by
        cases h:ZbJ P ops sj k with
        | false=>rfl
        | true=>rw [(hstill k o ho h).1] at hfk;cases hfk
       unfold wrAt;rw [hwr k hk,hfk,hN k (by omega),hfoot k o ho,hns,hw]
       simp only [Bool.and_eq_true,Nat.blt_eq];exact ⟨⟨trivial,hlt⟩,h6⟩
  unfold Zdz;rw [Bool.and_eq_true,Zab];refine ⟨?_,List.all_eq_true.2 fun j hj=>?_⟩
  ·split
   ·unfold Zlc;rw [List.all_eq_true];intro k hk;rw [List.mem_range] at hk;rw [hwr k hk];cases hfk:fS k with
    | false=>rfl
    | true=>
     simp only [Bool.not_true,Bool.false_or];obtain ⟨o,ho⟩:=Zfa hk;have A:=hat k o ho;have hw:aWanted ops (rS k) o=true:=by
      cases hw:aWanted ops (rS k) o with
      | true=>rfl
      | false=>rw [(A.no hw).2.2] at hfk;cases hfk
     obtain ⟨s1,h1,h0,h3,h4,_⟩:=A.yes hw;have hbar:ZhU P ops sj k=true:=by
      rcases h4 with h4|h4
      ·rw [h0,Nat.ble_eq_true_of_le h4] at hfk;cases hfk
      ·exact h4.1
     rw [List.all_eq_true];intro j hjr;have hb:=List.all_eq_true.1 hbar j hjr;rw [List.mem_range] at hjr;simp only [Bool.or_eq_true] at hb ⊢;rcases hb with ((hb|hb)|hb)|hb
     ·exact .inl hb
     rotate_left;rotate_left
     ·by_cases hpk:Zbu (Zbp ops) k j=true
      ·exact .inl (.inl (.inr hpk))
      by_cases hjk:Nat.beq j k=true
      ·exact .inl (.inl (.inl hjk))
      refine .inr ?_;obtain ⟨oj,hoj⟩:=Zfa hjr;have hoj':ops[j]?=some oj:=by simpa using hoj
      have ho':ops[k]?=some o:=by simpa using ho
      have hea:=hb;unfold ZlB Zg2 at hb;simp only [Bool.and_eq_true,Bool.not_eq_true',Nat.beq_eq] at hb;obtain ⟨⟨⟨hj0,hb1⟩,hb2⟩,hb3⟩:=hb;subst hj0;have hX0:(sS 0).next∈X:=by
       rcases hnew with hn|hn
       ·exfalso
        unfold ZoC at hn;simp only [Bool.or_eq_true,Bool.not_eq_true'] at hn;rcases hn with hn|hn
        ·unfold Zg2 at hn;rw [hb1] at hn;cases hn
        ·have h7:=List.all_eq_true.1 hn k (List.mem_range.2 hk);simp only [Bool.or_eq_true,Bool.not_eq_true'] at h7;rcases h7 with (h7|h7)|h7
         ·exact hjk h7
         ·exact hpk h7
         ·rw [hea] at h7;cases h7
       ·rw [e2];exact hn
      rw [hoj'] at hb1;rw [ho'] at hb2;have hlit:∃t len parts,oj.op=.buildSlice t len parts:=by
       dsimp only at hb1;split at hb1
       ·rename_i t len parts he;exact ⟨t,len,parts,he⟩
       ·cases hb1
      obtain ⟨t,len,parts,hlit⟩:=hlit;have hfj:ZcR P G ops sj L 0=some []:=by
       rw [hfoot 0 oj hoj,Zab];split
       ·rfl
       ·rw [hlit];rfl
      have hfk2:ZcR P G ops sj L k=some []∨ZcR P G ops sj L k=none:=by
       rw [hfoot k o ho,Zab];split
       ·exact .inl rfl
       ·dsimp only at hb2;split at hb2
        ·rename_i c hc;split at hb2
         ·rename_i x hx
          right
          rw [hc];unfold fpOf;simp only [hx]
         ·cases hb2
        ·cases hb2
      have h1n:(sS 1).next≤(sS 0).next+1:=by
       have A0:=hat 0 oj hoj;cases hw0:aWanted ops (rS 0) oj with
       | false=>rw [(A0.no hw0).2.1];omega
       | true=>
        obtain ⟨s0,g1,_,g3,_⟩:=A0.yes hw0;rw [g3];have g1:=g1 fuel hf;rw [hlit] at g1;show s0.next≤_;exact ZpZ g1
      have hkp:0<k:=by
       rcases Nat.eq_zero_or_pos k with h|h
       ·subst h;exact absurd rfl hjk
       ·exact h
      unfold ZdB;rcases hfk2 with e|e<;>rw [e,hfj]
      simp only [Bool.or_eq_true];refine .inr (.inr ?_);simp only [ZpA,decide_eq_true_eq];rw [hN 0 (by omega),hN (0+1) (by omega),hN k (by omega),hN (k+1) (by omega)]
      intro x hx1 hx2;have hx3:x=(sS 0).next:=by simp only [Nat.zero_add] at hx2;omega
      subst hx3;rcases hX k hk _ hX0 (zC hx2 (hle 1 k hkp (by omega))) with h7|⟨h7,_⟩
      ·exact h7
      ·rw [hb3] at h7;cases h7
     rotate_left
     ·refine .inr ?_;obtain ⟨oj,hoj⟩:=Zfa hjr;unfold newAt at hb;simp only [Bool.and_eq_true] at hb;obtain ⟨⟨hkj,hb1⟩,hb2⟩:=hb;have hoj':ops[j]?=some oj:=by simpa using hoj
      have ho':ops[k]?=some o:=by simpa using ho
      rw [hoj'] at hb1;rw [ho'] at hb2;have hfj:ZcR P G ops sj L j=some []:=by
       rw [hfoot j oj hoj,Zab];split
       ·rfl
       ·dsimp only at hb1;split at hb1
        ·rename_i t ht;rw [ht];rfl
        ·cases hb1
      have hfk2:ZcR P G ops sj L k=some []∨ZcR P G ops sj L k=none:=by
       rw [hfoot k o ho,Zab];split
       ·exact .inl rfl
       ·dsimp only at hb2;split at hb2
        ·rename_i c hc;split at hb2
         ·rename_i x hx
          right
          rw [hc];unfold fpOf;simp only [hx]
         ·cases hb2
        ·cases hb2
      unfold ZdB;rcases hfk2 with e|e<;>rw [e,hfj]
      simp only [hkj,Bool.true_or]
     ·refine .inr ?_;obtain ⟨oj,hoj⟩:=Zfa hjr;obtain ⟨_,hnx⟩:=hstill j oj hoj hb;have hfj:ZcR P G ops sj L j=some []:=by rw [hfoot j oj hoj,hb];rfl
      unfold ZdB;rw [hfj,hN j (by omega),hN (j+1) (by omega)]
      split
      ·rfl
      ·rename_i x t F hF1 hF2;cases hF2;simp only [Bool.and_eq_true,Bool.not_eq_true'];refine ⟨rfl,?_⟩;rw [hnx];cases h5:Nat.ble (sS j).next x with
       | false=>rfl
       | true=>
        have:=zD h5;cases h6:Nat.blt x (sS j).next with
        | false=>rfl
        | true=>rw [Nat.blt_eq] at h6;omega
      ·rw [hnx];simp
      ·first|contradiction|simp_all
      ·first|contradiction|simp_all
   ·rfl
  ·obtain ⟨hjN,o,ho',hstl⟩:=Zhj (by rw [hsj];exact hj)
   have ho:ops.toList[j]?=some o:=by simpa using ho'
   have A:=hat j o ho;have hmj:memb sj j=true:=memb_iff.2 hj;unfold ZcE;rw [hLk j hjN,ho'];simp only [Bool.and_eq_true,Bool.or_eq_true,Bool.not_eq_true'];refine ⟨hstl,?_⟩;cases hw:aWanted ops (rS j) o with
   | false=>exact .inl rfl
   | true=>
    obtain ⟨s1,h1,h0,h3,_,h5⟩:=A.yes hw;have h5:=h5 hmj;unfold ZjQ at h5;simp only [Bool.and_eq_true] at h5;refine .inr ⟨h5.1.1,?_⟩;have h6:=h5.2;split at h6
    ·rename_i hF;rw [hF]
    ·rename_i x hF;rw [hF];simp only [Bool.and_eq_true,Nat.blt_eq] at h6;have hxX:=ZgY h6.2;rw [List.all_eq_true];intro m hm;rw [List.mem_range] at hm;have hm:m≤ops.size:=by omega
     rw [Bool.or_eq_true];have conc:(sS m).get x=(sS j).get x∨Zin P G ops (Zbp ops) ops.size sj L (sS ops.size) j m x=true:=by
      rcases Nat.lt_or_ge x (sS m).next with hxm|hxm
      ·rcases Nat.le_total m j with hmj2|hmj2
       ·
        left
        have:∀i,m≤i→i≤j→(sS i).get x=(sS m).get x:=fun i hmi=>by
         induction hmi with
         | refl=>intro _;rfl
         | @step i hmi ih=>
          intro hij;rcases hX i (by omega) x hxX (zC hxm (hle m i hmi (by omega))) with h7|⟨h7,_⟩
          ·rw [h7,ih (by omega)]
          ·exfalso
           have h8:=List.all_eq_true.1 h7 j hj;obtain ⟨oi,hoi⟩:=Zfa (ops:=ops) (k:=i) (by omega)
           have:=Ze9 st hoi h8;omega
        exact (this j hmj2 (zA _)).symm
       ·
        have:∀i,j≤i→i≤m→(sS i).get x=(sS j).get x∨∃q,q<i∧Zbu (Zbp ops) q j=true∧wrAt P G ops sj L (sS ops.size) q x=true:=fun i hji=>by
         induction hji with
         | refl=>intro _;exact .inl rfl
         | @step i hji ih=>
          intro him;rcases ih (by omega) with h7|⟨q,h7,h8,h9⟩
          ·rcases hX i (by omega) x hxX (zC h6.1 (hle j i hji (by omega))) with h10|⟨h10,h11⟩
           ·exact .inl (by rw [h10,h7])
           ·exact .inr ⟨i,zG _,List.all_eq_true.1 h10 j hj,h11⟩
          ·exact .inr ⟨q,by omega,h8,h9⟩
        rcases this m hmj2 (zA _) with h7|⟨q,h7,h8,h9⟩
        ·exact .inl h7
        ·right
         unfold Zin;rw [Bool.or_eq_true]
         right
         rw [List.any_eq_true];exact ⟨q,List.mem_range.2 h7,by rw [h8,h9];rfl⟩
      ·right
       unfold Zin;rw [hN m hm,Bool.or_eq_true,Bool.or_eq_true];exact .inl (.inl (Nat.ble_eq_true_of_le hxm))
     rcases conc with conc|conc
     ·right
      rw [hN m hm];have:=Ze6 (S:=(sS m).reset) hstl (h1 fuel hf) hF fun y hy=>by
       rw [List.mem_singleton] at hy;subst hy;exact conc
      unfold Zk9;rw [this];exact h5.1.2
     ·exact .inl conc
    ·cases h6
 have:=Zmf (P:=P) (K:=K) (G:=G) (n:=n) (sj:=sj) (X:=X) hf ops.toList 0 [] (fun i=>by simp) (fun k o _ ho=>hat k o ho) (by simpa using key)
 simp only [Nat.zero_add,Array.length_toList] at this;rw [←e1,←e2];exact this
theorem Zau {k0:Nat} (k:Nat) (h:∀callf,aQ P G callf n ops sj X k0 (l.take k) r σ=some (r',σ')) (hl:Lg P K G n ops sj X (k0+(l.take k).length) (l.drop k) r' σ' Q):Lg P K G n ops sj X k0 l r σ Q:=by
 have app:∀(l1 l2:List Oper) (k0:Nat) (r:Regs) (σ:AS),(∀callf,aQ P G callf n ops sj X k0 l1 r σ=some (r',σ'))→Lg P K G n ops sj X (k0+l1.length) l2 r' σ' Q→Lg P K G n ops sj X k0 (l1++l2) r σ Q:=by
  intro l1
  induction l1 with
  | nil=>
   intro l2 k0 r σ h1 h2;have:=h1 (fun _ _ _=>none);cases this;exact h2
  | cons o l1 ih=>
   intro l2 k0 r σ h1 h2;have h2:Lg P K G n ops sj X (k0+1+l1.length) l2 r' σ' Q:=by
    have e:k0+(o::l1).length=k0+1+l1.length:=by simp;omega
    rw [←e];exact h2
   refine ⟨fun hw=>?_,fun hw=>?_⟩
   ·have h3:=h1 (fun _ _ _=>none);simp only [aQ,Zab,hw,if_true] at h3;split at h3
    ·rename_i v s1 hs;split at h3
     ·rename_i hb;simp only [Bool.and_eq_true,Bool.or_eq_true,Bool.not_eq_true'] at hb;split at h3
      ·rename_i r1 hp;have hle:∀callf,CLe (fun _ _ _=>none) callf:=fun callf _ _ _ _ h=>(nomatch h);refine O_mem (v:=v) (σ':=s1) (fun callf=>ZdG (hle callf) hs) ⟨⟨.inl (zD hb.1),fun hm=>hb.2.resolve_left (by rw [hm];simp)⟩,r1,hp,ih l2 (k0+1) r1 _ (fun callf=>?_) h2⟩
       have h4:=h1 callf;simp only [aQ,Zab,hw,if_true,ZdG (hle callf) hs,hp] at h4;rw [if_pos (by simp only [Bool.and_eq_true,Bool.or_eq_true,Bool.not_eq_true'];exact hb)] at h4
       exact h4
      ·cases h3
     ·cases h3
    ·cases h3
   ·have h3:=h1 (fun _ _ _=>none);simp only [aQ,Zab,hw,Bool.false_eq_true,if_false] at h3;split at h3
    ·rename_i r1 hp;refine ⟨r1,hp,ih l2 (k0+1) r1 _ (fun callf=>?_) h2⟩;have h4:=h1 callf;simp only [aQ,Zab,hw,Bool.false_eq_true,if_false,hp] at h4;exact h4
    ·cases h3
 have:=app (l.take k) (l.drop k) k0 r σ h hl;rw [List.take_append_drop] at this;exact this
theorem ZaO {k0:Nat} (h:∀callf,aQ P G callf n ops sj X k0 l r σ=some (r',σ')) (hq:Q r' σ'):Lg P K G n ops sj X k0 l r σ Q:=
 Zau l.length (by rw [List.take_length];exact h) (by rw [List.drop_length];exact hq)
theorem ZjE {k0:Nat} {d:Nat} {f:Operand} {args:Array Operand} {ts:Array TypeId} {ty:TypeId} {pos:String} {aft:Array Edge} {fid:FuncId} {first captured:Array Value} {vs:List Value}
  (hf:aev G r f=some (.func (.func fid) first captured)) (hv:aevs G r args.toList=some vs) (hd:d<n) (hm:memb sj k0=false)
  (h:C P K G fid (first.toList++vs++captured.toList) σ.reset fun v s1=>(σ.next≤s1.low∨(ZhU P ops sj k0=true∧∀x∈X,x<σ.next→s1.get x=σ.get x∨Zke ops sj k0=true))∧Lg P K G n ops sj X (k0+1) l (rput r d v) (σ.merge s1) Q) :
  Lg P K G n ops sj X k0 (⟨some d,.call ⟨.value f,args,ts⟩,ty,pos,aft,none⟩::l) r σ Q:=by
 refine ⟨fun _=>ZiQ hf hv (h.mono fun v s1 ⟨h1,h2⟩=>⟨⟨?_,fun h=>by rw [hm] at h;cases h⟩,_,by simp only [aPut,Zab];rw [if_pos (by rw [Nat.blt_eq];exact hd)],h2⟩),fun h=>(nomatch h)⟩
 exact h1.imp_right fun ⟨h3,h4⟩=>⟨h3,fun x hx hl=>(h4 x hx hl).imp_right fun h5=>⟨h5,rfl⟩⟩
theorem Zbx {k0:Nat} {d:Nat} {args:Array Operand} {ts:Array TypeId} {ty:TypeId} {pos:String} {aft:Array Edge} {fid:FuncId} {vs:List Value}
  (hv:aevs G r args.toList=some vs) (hd:d<n) (hm:memb sj k0=false)
  (h:C P K G fid vs σ.reset fun v s1=>σ.next≤s1.low∧Lg P K G n ops sj X (k0+1) l (rput r d v) (σ.merge s1) Q) :
  Lg P K G n ops sj X k0 (⟨some d,.call ⟨.value (.func fid),args,ts⟩,ty,pos,aft,none⟩::l) r σ Q:=
 ZjE (first:=#[]) (captured:=#[]) rfl hv hd hm (by
  have e:(#[]:Array Value).toList++vs++(#[]:Array Value).toList=vs:=by simp
  rw [e];exact h.mono fun v s1 ⟨h1,h2⟩=>⟨.inl h1,h2⟩)
end draws
end
set_option linter.defProp false
def zq:=And.intro @aOps.eq_1 <| And.intro @aOps.eq_2 <| And.intro @aWanted.eq_def <| And.intro @aStep_eq <| And.intro @aStepOld.eq_def <| And.intro @aev.eq_def <| And.intro @ann.eq_def <| And.intro @aPut.eq_def <| And.intro @rget_rput <| And.intro @if_true.{1} <| And.intro @if_false.{1} <| And.intro @List.getElem?_toArray.{0} <| And.intro @List.getElem?_cons_zero.{0} <| And.intro @List.getElem?_cons_succ.{0} <| And.intro @Nat.zero_add <| @Option.bind_some.{0,0}
section
variable {P:Program}
end
section
variable {P:Program} {K:Tbl} {n:Nat}
def M (P:Program) (n:Nat) (c:Code) (S:Ren→Regs→AS→World→Prop) (Q:Nat→Ren→Regs→AS→World→Prop):Prop:=
 ∀a w τ r σ (Post:Exit→Act→World→Prop),S τ r σ w→RegsRel τ r a.tmps→a.tmps.size=n→a.defers=[]→
  (∀x τ' r' σ' a' w',Q x τ' r' σ' w'→RegsRel τ' r' a'.tmps→a'.tmps.size=n→a'.defers=[]→Post (ZfK x) a' w')→c.wp P Post a w
end
section
variable (P:Program) (K:Tbl) (n fuel:Nat) (ops:Array Oper) (rest:List Oper) (d t c:Nat) (opsE:Array Oper) (restE:List Oper) (dE:Nat) (Mc:Code) (mi it id id2:Nat)
noncomputable def sameMap (b c:Blk):Bool:=Nat.beq c.kind 3&&Nat.beq b.esz c.esz&&veqL (veq 9) b.vals c.vals
end
section
variable {P:Program} {K:Tbl} {n fuel:Nat} {ops:Array Oper} {rest:List Oper} {d t c:Nat} {opsE:Array Oper} {restE:List Oper} {dE:Nat} {Mc:Code} {mi it id id2:Nat}
noncomputable def births (B:List Nat):List Value:=B.map fun (b:Nat)=>Value.int .i64 (b:Int)
end
section
variable (P:Program) (K:Tbl) (n fuel:Nat) (fronts:List Code) (opsA:Array Oper) (pre:List Oper) (x dA:Nat) (ops:Array Oper) (rest:List Oper) (d t c:Nat) (opsE:Array Oper) (restE:List Oper) (dE:Nat) (Mc:Code) (id2:Nat) (Z:Code) (results:List ResultVar)
noncomputable def upto:Nat→List Nat→List Nat
 | 0,acc=>acc
 | k+1,acc=>upto k (k::acc)
noncomputable def bornOk (clk:Nat):List Value→Bool
 | []=>true
 | .int .i64 (.ofNat b)::l=>Nat.blt b clk&&l.all (fun v=>!veq 9 v (.int .i64 (.ofNat b)))&&bornOk clk l
 | _::_=>false
end
section
variable {P:Program} {K:Tbl} {n fuel:Nat} {fronts:List Code} {opsA:Array Oper} {pre:List Oper} {x dA:Nat} {ops:Array Oper} {rest:List Oper} {d t c:Nat} {opsE:Array Oper} {restE:List Oper} {dE:Nat} {Mc:Code} {id id2:Nat} {Z:Code} {results:List ResultVar}
end
noncomputable def ZrW (m:Nat):AS:=⟨m,0,.e⟩
theorem ZrV (m i:Nat):(ZrW m).get i=Blk.dead:=rfl
noncomputable def oldRen (m:Nat) (β:Pairs) (ρ:Ren):Ren:=⟨fun i=>if i<m then (match Zbi β i with|some j=>ρ.bl j|none=>none) else none,fun i=>match Zbi β i with|some j=>ρ.sz j|none=>(0,0)⟩
def RegOk (β:Pairs) (r2 r:Regs):Prop:=∀t,vm 0 β 9 (rget r2 t) (rget r t)=true
theorem RegOk.nil {β:Pairs}:RegOk β .e .e:=fun t=>by rw [Zms];rfl
section
variable {P:Program} {K:Tbl} {n:Nat}
end
def Part (β:Pairs) (b c:Blk):Prop:=b.kind=5∧(c.kind=1∨c.kind=2)∧b.elem=c.elem∧∀(j:Nat) (v:Value),b.vals[j]?=some v→known v=true→∃u,c.vals[j]?=some u∧vm 0 β 9 v u=true
theorem Part.rel {τ τc:Ren} {β:Pairs} (hb:Back τ τc 0 β) {i j:Nat} {b c:Blk} {o:Obj} (h:Part β b c) (hr:BRel τ j c o):BRel τc i b o:=by
 obtain ⟨kind,elem,esz,vals,ents⟩:=b;obtain ⟨kind',elem',esz',vals',ents'⟩:=c;obtain ⟨h1,h2,h3,h4⟩:=h;dsimp only at h1 h2 h3 h4;subst h1 h3;rcases h2 with rfl|rfl
 ·obtain ⟨c,fr,rfl,hf,hl⟩:=hr;refine ⟨c,fr,rfl,fun n v hv hk=>?_⟩;obtain ⟨u,hu,hm⟩:=h4 n v hv hk;obtain ⟨x,hx,hrel⟩:=hl.get n hu;exact ⟨x,by rw [←Array.getElem?_toList];exact hx,Zfr hb 9 hm hrel⟩
 ·obtain ⟨c,fr,p,q,rfl,hf,hpq,hl,_⟩:=hr;refine ⟨c,fr,rfl,fun n v hv hk=>?_⟩;obtain ⟨u,hu,hm⟩:=h4 n v hv hk;obtain ⟨x,hx,hrel⟩:=hl.get n hu;refine ⟨x,?_,Zfr hb 9 hm hrel⟩;rw [←Array.getElem?_toList,hpq];rw [zN (zE.1 hx).1];exact hx
def BM (β:Pairs) (b c:Blk):Prop:=(bm 0 β b c=true∧((b.kind=3∨b.kind=4)→veqL (veq 9) b.vals c.vals=true))∨Part β b c
theorem BM.rel {τ τc:Ren} {β:Pairs} (hb:Back τ τc 0 β) {i j:Nat} (hi:bto 0 β i=some j) {b c:Blk} {o:Obj} (h:BM β b c) (hr:BRel τ j c o):BRel τc i b o:=by
 rcases h with ⟨h1,h2⟩|h
 ·exact ZqV hb hi h1 h2 hr
 ·exact h.rel hb hr
theorem BM.kind {β:Pairs} {b c:Blk} (h:BM β b c) (h0:b.kind≠0):c.kind≠0:=by
 rcases h with ⟨h1,_⟩|h
 ·rw [Zji h1 h0];exact h0
 ·rcases h.2.1 with e|e<;>rw [e]<;>decide
structure ConvR (m:Nat) (σ σ2:AS) (β:Pairs) (σc:AS):Prop where
 keys:∀i j,Zbi β i=some j→i<σc.next
 new:∀i j,Zbi β i=some j→m≤i→σ.next≤j
 inj:∀i k j,Zbi β i=some j→Zbi β k=some j→(σc.get i).kind≠0→(σc.get k).kind≠0→i=k
 blk:∀i j,Zbi β i=some j→BM β (σc.get i) (σ2.get j)
theorem Sim.same {ρ τ:Ren} {σ σ2:AS} {w w':World} (h:Sim 0 ρ σ w τ σ2 w') (hlow:σ.next≤σ2.low):∀b,b<w.heap.size→w'.heap[b]?=w.heap[b]?:=by
 intro b hb;by_cases hn:∀i,ρ.bl i=some b→(σ.get i).kind=0
 ·exact h.frame b hb hn
 ·obtain ⟨i,hi,hk⟩:∃i,ρ.bl i=some b∧(σ.get i).kind≠0:=by
   apply Classical.byContradiction;intro hno;exact hn fun i hi=>Classical.byContradiction fun hk=>hno ⟨i,hi,hk⟩
  exact h.stay i b hi hk (zC (h.base.blk i b hi).1 hlow)
theorem Sim.convR {ρ τ:Ren} {σ σ2 σc:AS} {w w':World} {m:Nat} {β:Pairs} (h:Sim 0 ρ σ w τ σ2 w') (hlow:σ.next≤σ2.low) (hc:ConvR m σ σ2 β σc) :
  ∃τc,R 0 τc σc w'∧Back τ τc 0 β∧∀τ2 s2 w2,Sim 0 τc σc w' τ2 s2 w2→m≤s2.low→(∀b,b<w.heap.size→w2.heap[b]?=w.heap[b]?)∧w.heap.size≤w2.heap.size∧w2.os=w.os∧w2.output=w.output:=by
 let τc:Ren:=⟨fun i=>match Zbi β i with|some j=>τ.bl j|none=>none,fun i=>match Zbi β i with|some j=>τ.sz j|none=>(0,0)⟩
 have hbl:∀i b,τc.bl i=some b→∃j,Zbi β i=some j∧τ.bl j=some b:=by
  intro i b hi;show ∃j,_;have:(match Zbi β i with|some j=>τ.bl j|none=>none)=some b:=hi
  cases hp:Zbi β i with
  | none=>rw [hp] at this;cases this
  | some j=>rw [hp] at this;exact ⟨j,rfl,this⟩
 have hback:Back τ τc 0 β:=⟨fun i j b hij hb=>by
   have hij:Zbi β i=some j:=hij;show (match Zbi β i with|some j=>τ.bl j|none=>none)=some b
   rw [hij];exact hb,fun i j hij=>by
   have hij:Zbi β i=some j:=hij;show (match Zbi β i with|some j=>τ.sz j|none=>(0,0))=τ.sz j
   rw [hij]⟩
 refine ⟨τc,⟨?_,?_,fun g hg=>absurd hg (Nat.not_lt_zero _),zH _⟩,hback,fun τ2 s2 w2 h2 hm=>⟨fun b hb=>?_,zB h.hsz h2.hsz,h2.out.1.trans h.out.1,h2.out.2.trans h.out.2⟩⟩
 ·intro i b hi;obtain ⟨j,hj,hb⟩:=hbl i b hi;obtain ⟨_,o,ho,hr⟩:=h.rel.blk j b hb;exact ⟨hc.keys i j hj,o,ho,(hc.blk i j hj).rel hback (show bto 0 β i=some j from hj) hr⟩
 ·intro i k b hi hk ki kk;obtain ⟨j,hj,hb⟩:=hbl i b hi;obtain ⟨l,hl,hb'⟩:=hbl k b hk;have e:j=l:=h.rel.inj j l b hb hb' ((hc.blk i j hj).kind ki) ((hc.blk k l hl).kind kk);subst e;exact hc.inj i k j hj hl ki kk
 ·have h1:=h.same hlow b hb;have hb':b<w'.heap.size:=zC hb h.hsz;rw [←h1];by_cases hn:∀i,τc.bl i=some b→(σc.get i).kind=0
  ·exact h2.frame b hb' hn
  ·obtain ⟨i,hi,hk⟩:∃i,τc.bl i=some b∧(σc.get i).kind≠0:=by
    apply Classical.byContradiction;intro hno;exact hn fun i hi=>Classical.byContradiction fun hk=>hno ⟨i,hi,hk⟩
   refine h2.stay i b hi hk ?_;apply Classical.byContradiction;intro hge;have hge:m≤i:=by omega
   obtain ⟨j,hj,hjb⟩:=hbl i b hi;have hN:=hc.new i j hj hge;have hρ:ρ.bl j=none:=by
    cases hr:ρ.bl j with
    | none=>rfl
    | some b'=>
     have:=(h.base.blk j b' hr).1;omega
   rcases h.newblk j b hjb hρ with h3|⟨k,h3,h4,h5⟩
   ·omega
   ·have hk:=(h.base.blk k b h3).1;rw [h.keep k hk (zC hk hlow)] at h5;exact absurd h5 h4
def name1 (b base:Nat):Nat→Nat
 | 0=>b
 | i+1=>base+i
def ren1 (ρ:Ren) (b:Nat):Ren:=⟨fun i=>if i=0 then ρ.bl b else none,fun i=>if i=0 then ρ.sz b else (0,0)⟩
def ZjF (P:Program) (f:FuncId) (as':List Value) (w:World) (v:Value):Prop:=
 (callFunc f as'.toArray).run P w=.ok (.enter f as'.toArray) w∧
 Calls P f as'.toArray w fun e w'=>e=.returned v∧(∀b,b<w.heap.size→w'.heap[b]?=w.heap[b]?)∧w.heap.size≤w'.heap.size∧w'.os=w.os∧w'.output=w.output
open Classical in
noncomputable def Tbl.addP (K:Tbl) (f:FuncId) {ι:Type} (ok:ι→List Value→AS→Prop) (v:ι→Value):Tbl where
 dfr:=K.dfr
 ask:=fun g zz σ=>if h:g=f∧∃i,ok i zz σ then some (v (Classical.choose h.2),σ) else K.ask g zz σ
 mono:=fun g zz σ u σ' h=>by
  dsimp only at h;split at h
  ·cases h;exact AMono.refl _
  ·exact K.mono _ _ _ _ _ h
open Classical in
open Classical in
theorem Tbl.addP_at {K:Tbl} {f:FuncId} {ι:Type} {ok:ι→List Value→AS→Prop} {v:ι→Value} {zz:List Value} {σ:AS} {i:ι} (h:ok i zz σ) (hu:∀j,ok j zz σ→v j=v i):(K.addP f ok v).ask f zz σ=some (v i,σ):=by
 show dite _ _ _=_;have h1:f=f∧∃i,ok i zz σ:=⟨rfl,i,h⟩;rw [dif_pos h1,hu _ (Classical.choose_spec h1.2)]
open Classical in
theorem KOk.addP {P:Program} {K:Tbl} (hk:KOk P K) {f:FuncId} {ι:Type} {ok:ι→List Value→AS→Prop} {v:ι→Value} (hv:∀i,flat (v i)=true)
  (h:∀i zz σ G ρ w as',ok i zz σ→R G ρ σ w→LRel (VRel ρ) zz as'→ZjF P f as' w (v i)):KOk P (K.addP f ok v):=by
 intro G g zz σ u σ1 ρ w as' hu hR has;have hu:dite _ _ _=some (u,σ1):=hu;split at hu
 ·rename_i h1;obtain ⟨rfl,h2⟩:=h1;cases hu;obtain ⟨c1,c2⟩:=h _ zz σ G ρ w as' (Classical.choose_spec h2) hR has;exact ⟨c1,c2.mono fun e w' ⟨he,hs,hz,ho⟩=>⟨_,ρ,he,(ZaR (hv _)).2 rfl,Sim.grown hR hs hz ho⟩⟩
 ·exact hk G g zz σ u σ1 ρ w as' hu hR has
noncomputable def okM (m:Nat) (o:Option (Value×AS)) (v:Value):Bool:=match o with
 | some (u,σ)=>veq 9 u v&&Nat.ble m σ.low
 | none=>false
theorem R.reset {G:Nat} {ρ:Ren} {σ:AS} {w:World} (h:R G ρ σ w):R 0 ρ σ.reset w:=
 ⟨h.blk,h.inj,fun g hg=>absurd hg (Nat.not_lt_zero _),zH _⟩
theorem ZeX {P:Program} {K:Tbl} (hp:ProgOk P) (hk:KOk P K) {fuel f m G:Nat} {args zz as':List Value} {σm σ:AS} {β:Pairs} {v:Value} {ρ:Ren} {w:World}
  (hrun:okM m (ZcB P K 0 fuel f args σm) v=true) (hv:flat v=true) (hc:ConvR m σ.reset σ.reset β σm) (ha:veqL (vm 0 β 9) args zz=true) (hR:R G ρ σ w) (has:LRel (VRel ρ) zz as'):ZjF P f as' w v:=by
 obtain ⟨τc,h1,h2,h3⟩:=(Sim.refl hR.reset).convR (zA _) hc;unfold okM at hrun;split at hrun
 ·rename_i u s0 e0;simp only [Bool.and_eq_true,Nat.ble_eq] at hrun;obtain ⟨k1,k2⟩:=Zfo hp hk fuel f _ σm u s0 τc w as' e0 h1 (Zeb (fun _ _ _ h h'=>Zfr h2 9 h h') ha has);refine ⟨k1,k2.mono fun e w' ⟨v',τ,he,hv',hs⟩=>?_⟩;obtain rfl:=Zgv 9 _ _ hrun.1;refine ⟨by rw [he,(ZaR hv).1 hv'],h3 τ s0 w' hs hrun.2⟩
 ·cases hrun
noncomputable def famFind (n:Nat) (ix:List Value→Nat) (e:Nat→Memo) (zz:List Value) (σ:AS):Option (Value×AS):=
 bite (Nat.blt (ix zz) n&&veqL (veq 9) zz (e (ix zz)).1) (Zj0 (e (ix zz)).2.1 (e (ix zz)).2.2 σ) none
structure Ext (σ σ':AS):Prop where
 nxt:σ.next≤σ'.next
 get:∀i,i<σ.next→σ'.get i=σ.get i
 low:∀m,m≤σ.low→m≤σ.next→m≤σ'.low
theorem Ext.refl (σ:AS):Ext σ σ:=⟨zA _,fun _ _=>rfl,fun _ h _=>h⟩
theorem Ext.trans {σ σ' σ'':AS} (h:Ext σ σ') (k:Ext σ' σ''):Ext σ σ'':=
 ⟨zB h.nxt k.nxt,fun i hi=>by rw [k.get i (zC hi h.nxt),h.get i hi],fun m h1 h2=>k.low m (h.low m h1 h2) (zB h2 h.nxt)⟩
theorem Ext.new (σ:AS) (b:Blk):Ext σ (σ.new b):=
 ⟨Nat.le_succ _,fun i hi=>by rw [AS.get_new,if_neg (by omega)],fun _ h _=>h⟩
theorem Ext.put {σ σ':AS} (h:Ext σ σ') {i:Nat} (hi:σ.next≤i) (b:Blk):Ext σ (σ'.put i b):=
 ⟨h.nxt,fun j hj=>by rw [AS.get_put,if_neg (by omega),h.get j hj],fun m h1 h2=>Nat.le_min.2 ⟨h.low m h1 h2,zB h2 hi⟩⟩
theorem Ext.reset (σ:AS):Ext σ σ.reset:=⟨zA _,fun _ _=>rfl,fun _ _ h=>h⟩
theorem Ext.merge {σ s1:AS} (h:Ext σ.reset s1):Ext σ (σ.merge s1):=
 ⟨h.nxt,h.get,fun m h1 h2=>Nat.le_min.2 ⟨h1,h.low m h2 h2⟩⟩
theorem Ext.quiet {σ s1:AS} (h:Ext σ.reset s1):σ.next≤s1.low:=h.low _ (zA _) (zA _)
theorem Ext.lt {σ σ':AS} (h:Ext σ σ') {i:Nat} (hi:i<σ.next):i<σ'.next:=zC hi h.nxt
theorem Ext.cells {σ σ':AS} (h:Ext σ σ') {a:Addr} (ha:a.block<σ.next) (n:Nat):Zav σ' a n=Zav σ a n:=by
 unfold Zav;rw [h.get _ ha]
def RS {α:Type} (sz:Nat) (R:AS→List Value→α→Prop) (σ:AS) (v:Value) (l:List α):Prop:=
 ∃base cap,v=.slice base l.length cap∧(l≠[]→∃b off,base=some ⟨b,off,none⟩∧b<σ.next∧
  ∀(i:Nat) (x:α),l[i]?=some x→∃cs,Zav σ ⟨b,off+i*sz,none⟩ sz=some cs∧R σ cs x)
def ZnO {α:Type} (R:AS→List Value→α→Prop):Prop:=∀σ σ' cs x,Ext σ σ'→R σ cs x→R σ' cs x
theorem RS.ext {α:Type} {sz:Nat} {R:AS→List Value→α→Prop} (hR:ZnO R) {σ σ':AS} {v:Value} {l:List α} (he:Ext σ σ') (h:RS sz R σ v l):RS sz R σ' v l:=by
 obtain ⟨base,cap,e,hb⟩:=h;refine ⟨base,cap,e,fun hl=>?_⟩;obtain ⟨b,off,e1,e2,e3⟩:=hb hl;refine ⟨b,off,e1,he.lt e2,fun i x hi=>?_⟩;obtain ⟨cs,h1,h2⟩:=e3 i x hi;exact ⟨cs,by rw [he.cells (a:=⟨b,off+i*sz,none⟩) e2];exact h1,hR _ _ _ _ he h2⟩
theorem Zaw {P:Program} {σ:AS} {t:TypeId} {a:Addr} {d:TypeDesc} {v:Value} (hd:P.underlying t=some d) (hs:ZgE d=false) (h:Zav σ a 1=some [v]):Zat P σ t (.pointer (some a))=some v:=by
 unfold Zat;simp only [hd,hs,h];rfl
theorem ZbK {P:Program} {σ:AS} {t:TypeId} {a:Addr} {d:TypeDesc} {i:TypeInfo} {cs:List Value} (hd:P.underlying t=some d) (hs:ZgE d=true) (hi:P.info? t=some i) (h:Zav σ a i.size=some cs):Zat P σ t (.pointer (some a))=some (.agg cs.toArray):=by
 unfold Zat;simp only [hd,hs,hi,h];rfl
theorem reset_merge (σ s:AS):(σ.merge s).reset=s.reset:=rfl
theorem reset_reset (σ:AS):σ.reset.reset=σ.reset:=rfl
theorem reset_next (σ:AS):σ.reset.next=σ.next:=rfl
theorem reset_low (σ:AS):σ.reset.low=σ.next:=rfl
theorem merge_next (σ s:AS):(σ.merge s).next=s.next:=rfl
theorem new_low (σ:AS) (b:Blk):(σ.new b).low=σ.low:=rfl
theorem ZmC (σ:AS) (b:Blk):(σ.new b).next=σ.next+1:=rfl
theorem merge_idem (σ:AS):(σ.merge σ.reset).merge σ.reset=σ.merge σ.reset:=by
 show (⟨σ.next,Nat.min (Nat.min σ.low σ.next) σ.next,σ.heap⟩:AS)=⟨σ.next,Nat.min σ.low σ.next,σ.heap⟩
 congr 1
 show min (min σ.low σ.next) σ.next=min σ.low σ.next;omega
theorem ble_self (n:Nat):Nat.ble n n=true:=Nat.ble_eq_true_of_le (zA n)
theorem ZaD {P:Program} {t e:TypeId} {inf:TypeInfo} (hu:P.underlying t=some (.slice e)) (hi:P.info? e=some inf) {b off len cap i sz:Nat} {k:IntKind} (hs:inf.size=sz) (h:i<len) :
  Zal P t (.slice (some ⟨b,off,none⟩) len cap) (.int k (i:Int))=some (.pointer (some ⟨b,off+i*sz,none⟩)):=by
 subst hs;unfold Zal;simp only [hu,hi];rw [if_pos ((Zlr _ _).2 ⟨by omega,by omega⟩),zW,Zch rfl]
theorem ZdH {P:Program} {s:TypeId} {fs:Array Field} {f:Nat} {fd:Field} {inf:TypeInfo} (hu:P.underlying s=some (.struct fs)) (hf:fs[f]?=some fd) (hi:P.info? fd.type=some inf) (hs:Nat.beq inf.size 0=false) {b off:Nat} :
  Za4 P s f (.pointer (some ⟨b,off,none⟩))=some (.pointer (some ⟨b,off+fd.offset,none⟩)):=by
 unfold Za4;simp only [hu,hf,hi,hs];rw [Zch rfl];rfl
theorem Zaq {σ:AS} {b e s:Nat} {vals:List Value} {ents:List (Value×Value)} (h:σ.get b=⟨1,e,s,vals,ents⟩) {off n:Nat} {cs:List Value} (hc:(vals.drop off).take n=cs) (hn:off+n≤vals.length) :
  Zav σ ⟨b,off,none⟩ n=some cs:=by
 unfold Zav;simp only [h];rw [ZaJ,hc,if_pos];simp only [Bool.and_eq_true,Nat.ble_eq];exact ⟨rfl,hn⟩
theorem RS.of_block {α:Type} {sz:Nat} {R:AS→List Value→α→Prop} {σ:AS} {b e s cap:Nat} {vals:List Value} {ents:List (Value×Value)} {l:List α} (hb:b<σ.next) (h:σ.get b=⟨1,e,s,vals,ents⟩) (hn:l.length*sz≤vals.length)
  (hR:∀(i:Nat) (x:α),l[i]?=some x→R σ ((vals.drop (i*sz)).take sz) x):RS sz R σ (.slice (some ⟨b,0,none⟩) l.length cap) l:=by
 refine ⟨_,cap,rfl,fun _=>⟨b,0,rfl,hb,fun i x hx=>⟨_,Zaq h (by rw [Nat.zero_add]) ?_,hR i x hx⟩⟩⟩
 have:i<l.length:=(zE.1 hx).1;have h2:(i+1)*sz≤l.length*sz:=Nat.mul_le_mul_right _ this;rw [Nat.succ_mul] at h2;omega
theorem cells_two {σ:AS} {b off:Nat} {u v:Value} (h:Zav σ ⟨b,off,none⟩ 2=some [u,v]):Zav σ ⟨b,off,none⟩ 1=some [u]∧Zav σ ⟨b,off+1,none⟩ 1=some [v]:=by
 have key:∀(vals:List Value),(vals.drop off).take 2=[u,v]→(vals.drop off).take 1=[u]∧(vals.drop (off+1)).take 1=[v]:=fun vals h=>by
  have e:vals.drop off=u::v::vals.drop (off+2):=by
   have:=List.take_append_drop 2 (vals.drop off);rw [h,List.drop_drop] at this;simpa using this.symm
  refine ⟨by rw [e];rfl,?_⟩
  have e2:vals.drop (off+1)=(vals.drop off).drop 1:=by rw [List.drop_drop]
  rw [e2,e];rfl
 have hl:∀n,n≤1→∀vals:List Value,Nat.ble (off+2) vals.length=true→Nat.ble (off+n+1) vals.length=true:=fun n hn vals h=>by
  rw [Nat.ble_eq] at h ⊢;omega
 unfold Zav at h ⊢;simp only [ZaJ] at h ⊢;split at h
 ·rename_i hc;simp only [Bool.and_eq_true] at hc;obtain ⟨k1,k2⟩:=key _ (Option.some.inj h);have l0:=hl 0 (by omega) _ hc.2
  have l1:=hl 1 (by omega) _ hc.2
  simp only [hc.1,k1,k2,Bool.true_and];exact ⟨by rw [if_pos (by simpa using l0)],by rw [if_pos (by simpa using l1)]⟩
 ·rename_i hc;split at h
  ·rename_i h5;simp only [Bool.and_eq_true] at h5;obtain ⟨k1,k2⟩:=key _ (Option.some.inj h);have l0:=hl 0 (by omega) _ h5.1.2
   have l1:=hl 1 (by omega) _ h5.1.2
   have hn:Zcm (σ.get b)=false:=by
    cases hh:Zcm (σ.get b) with
    | false=>rfl
    | true=>rw [hh,h5.1.2] at hc;exact absurd rfl hc
   have h6:=h5.2;rw [Option.some.inj h] at h6;simp only [List.all_cons,List.all_nil,Bool.and_true,Bool.and_eq_true] at h6;simp only [hn,k1,k2,Bool.false_and,Bool.false_eq_true,if_false,h5.1.1,Bool.true_and,List.all_cons,List.all_nil,h6.1,h6.2,Bool.and_true];exact ⟨by rw [if_pos (by simpa using l0)],by rw [if_pos (by simpa using l1)]⟩
  ·cases h
theorem ZbO {α β:Type} (P:Program) (s:Sem α) (f:α→Sem β):ZaY P (s >>= f)=(ZaY P s).bind fun a=>ZaY P (f a):=by
 induction s<;>first|rfl|simp_all [Bind.bind,Sem.bind,ZaY]
theorem ZlS {α:Type} (P:Program) (a:α):ZaY P (pure a:Sem α)=some a:=rfl
theorem ZnE {α:Type} (P:Program) (c:Prop) [Decidable c] (s t:Sem α):ZaY P (if c then s else t)=if c then ZaY P s else ZaY P t:=by split<;>rfl
theorem ZgD {P:Program} {t:TypeId} {d:TypeDesc} (h:P.underlying t=some d):ZaY P (underlying t)=some d:=by
 unfold underlying;rw [ZbO];show (some P).bind _=_;simp only [Option.bind_some,h];rfl
theorem ZlT (P:Program):ZaY P program=some P:=rfl
noncomputable def Zc7 (P:Program) (d:Nat) (xs ys:Array Value):List Field→Option Bool
 | []=>some true
 | f::fs=>if f.name≠"_" then
   (ZaY P (part f.type xs f.offset)).bind fun a=>(ZaY P (part f.type ys f.offset)).bind fun b=>(ZaY P (Op.equalIn d f.type a b)).bind fun r=>if r=true then Zc7 P d xs ys fs else some false
  else Zc7 P d xs ys fs
theorem Zfl {P:Program} {t:TypeId} {fs:Array Field} (d:Nat) (xs ys:Array Value) (ht:P.underlying t=some (.struct fs)) (hp:P.stoodInHeld t=false) :
  ZaY P (Op.equalIn (d+1) t (.agg xs) (.agg ys))=Zc7 P d xs ys fs.toList:=by
 simp only [Op.equalIn,ZbO,ZgD ht,Option.bind_some,ZlT,hp,Bool.false_eq_true,if_false];rw [←Array.forIn_toList];generalize fs.toList=l;clear ht
 induction l with
 | nil=>rfl
 | cons f l ih=>
  simp only [List.forIn_cons,Zc7,ZbO,ZnE];split
  ·simp only [Option.bind_assoc]
   congr 1;funext a
   congr 1;funext b
   congr 1;funext r
   cases r
   ·rfl
   ·exact ih
  ·exact ih
theorem Zd6 {P:Program} {t:TypeId} {k k':IntKind} (d:Nat) (a b:Int) (h:P.underlying t=some (.int k')):ZaY P (Op.equalIn (d+1) t (.int k a) (.int k b))=some (a == b):=by
 simp only [Op.equalIn,ZbO,ZgD h,Option.bind_some];simp only [if_true,ZlS]
theorem Zh5 {P:Program} {t:TypeId} {fs:Array Field} {xs ys:Array Value} {b:Bool} (ht:P.underlying t=some (.struct fs)) (hp:P.stoodInHeld t=false) (hx:flat (.agg xs)=true) (hy:flat (.agg ys)=true)
  (he:Zc7 P 9999 xs ys fs.toList=some b) (hg:P.eqGuardType P.depth t=false) (xo yo:Operand) :
  aBin P .eql t xo yo (.agg xs) (.agg ys)=some (.bool b)∧aBin P .neq t xo yo (.agg xs) (.agg ys)=some (.bool (!b)):=by
 have e:ZaY P (Op.equal t (.agg xs) (.agg ys))=some b:=by
  show ZaY P (Op.equalIn (9999+1) t (.agg xs) (.agg ys))=_;rw [Zfl _ _ _ ht hp];exact he
 have h1:ZaY P (if (!P.eqGuardType P.depth t)=true then (pure ():Sem Unit) else (do if ←Op.eqGuardIn Op.maxDepth t (.agg xs) (.agg ys) then unsupported (.noEntry "binop/eql: two nil values of an interface type with methods, in a part of a struct or an array")))=some ():=by
  rw [hg];rfl
 have g1:ZaY P (eqGuard .eql t xo yo (.agg xs) (.agg ys))=some ():=h1;have g2:ZaY P (eqGuard .neq t xo yo (.agg xs) (.agg ys))=some ():=h1;have b1:binOp .eql t (.agg xs) (.agg ys)=(Op.equal t (.agg xs) (.agg ys) >>= fun r=>pure (.bool r)):=rfl;have b2:binOp .neq t (.agg xs) (.agg ys)=(Op.equal t (.agg xs) (.agg ys) >>= fun r=>pure (.bool !r)):=rfl
 constructor
 ·show Zdm P .eql t xo yo (.agg xs) (.agg ys)=_;unfold Zdm;rw [if_pos (by rw [hx,hy];rfl),ZbO,g1,Option.bind_some,b1,ZbO,e];rfl
 ·show Zdm P .neq t xo yo (.agg xs) (.agg ys)=_;unfold Zdm;rw [if_pos (by rw [hx,hy];rfl),ZbO,g2,Option.bind_some,b2,ZbO,e];rfl
set_option linter.defProp false
def zr:=And.intro @memb.eq_def <| And.intro @List.any_nil.{0} <| And.intro @List.any_cons.{0} <| And.intro @Bool.true_or <| And.intro @Bool.or_false <| And.intro @Bool.and_true <| And.intro @Bool.or_true <| And.intro @Bool.false_or <| And.intro @Bool.true_and <| And.intro @reset_merge <| And.intro @reset_reset <| And.intro @reset_next <| And.intro @reset_low <| And.intro @merge_next <| And.intro @merge_idem <| And.intro @new_low <| And.intro @ble_self <| And.intro @Bool.not_true <| @Bool.not_false
end Go.Proofs.YteangeffgjolpaaGreatDoor.Abs
namespace Go.Proofs.YteangeffgjolpaaGreatDoor.U
open Abs
theorem Zor:(Tryz.prog.funcs.toList.all fun fn=>!(fn.name == "runtime.NumGoroutine"))=true:=by kernel_rfl
theorem Zeh:ProgOk Tryz.prog where
 mixed:=by kernel_rfl
 names f fn h:=by
  have h1:=List.all_eq_true.1 Zor fn (zF (i:=f) (by simpa using h))
  simpa using h1
theorem Zng:Knows Tryz.prog 16 ([],.bool true,[]):=Knows.alike (fuel:=1000) Zeh (ZgS _) rfl (by kernel_rfl)
theorem event0:Knows Tryz.prog 191 ([.int .i64 0],.bool true,[]):=Knows.alike (fuel:=300) Zeh (ZgS _) rfl (by kernel_rfl)
theorem event1:Knows Tryz.prog 191 ([.int .i64 1],.bool true,[]):=Knows.alike (fuel:=300) Zeh (ZgS _) rfl (by kernel_rfl)
theorem event2:Knows Tryz.prog 191 ([.int .i64 2],.bool true,[]):=Knows.alike (fuel:=300) Zeh (ZgS _) rfl (by kernel_rfl)
theorem event3:Knows Tryz.prog 191 ([.int .i64 3],.bool true,[]):=Knows.alike (fuel:=300) Zeh (ZgS _) rfl (by kernel_rfl)
theorem event4:Knows Tryz.prog 191 ([.int .i64 4],.bool true,[]):=Knows.alike (fuel:=300) Zeh (ZgS _) rfl (by kernel_rfl)
theorem event5:Knows Tryz.prog 191 ([.int .i64 5],.bool true,[]):=Knows.alike (fuel:=300) Zeh (ZgS _) rfl (by kernel_rfl)
theorem event6:Knows Tryz.prog 191 ([.int .i64 1025],.bool true,[]):=Knows.alike (fuel:=300) Zeh (ZgS _) rfl (by kernel_rfl)
noncomputable def evM:List Memo:=[([.int .i64 0],.bool true,[]),([.int .i64 1],.bool true,[]),([.int .i64 2],.bool true,[]),([.int .i64 3],.bool true,[]),([.int .i64 4],.bool true,[]),([.int .i64 5],.bool true,[]),([.int .i64 1025],.bool true,[])]
theorem ZrR:KnowsAll Tryz.prog 191 evM:=⟨event0,event1,event2,event3,event4,event5,event6,trivial⟩
def okK (t:Nat) (xs:List Value) (σ:AS):Prop:=t<6∧∃b c,xs=[.slice (some ⟨b,0,none⟩) 2 c]∧b<σ.next∧((σ.get b).kind=1∨(σ.get b).kind=2)∧(σ.get b).elem=3∧Zav σ ⟨b,0,none⟩ 2=some [.int .i64 0,.int .i64 (t:Int)]
def keyN (t:Nat):Value:=.string ⟨#[48,44,UInt8.ofNat (48+t),44]⟩
def keyW (t:Nat):Value:=.string ⟨#[0,0,0,0,0,0,0,UInt8.ofNat t]⟩
theorem Zol {t u:Nat} {xs:List Value} {σ:AS} (h:okK t xs σ) (k:okK u xs σ):t=u:=by
 obtain ⟨-,a,c,rfl,-,-,-,h1⟩:=h;obtain ⟨-,b,d,e,-,-,-,h2⟩:=k;have hb:a=b:=by simp only [List.cons.injEq,Value.slice.injEq,Option.some.injEq,Addr.mk.injEq] at e;exact e.1.1.1
 subst hb;rw [h2] at h1;simp only [Option.some.injEq,List.cons.injEq,Value.int.injEq,and_true,true_and] at h1;omega
noncomputable def KB:Tbl:=(K0.memo 16 [([],.bool true,[])]).memo 191 evM
theorem ZpE:KnowsAll Tryz.prog 16 [([],.bool true,[])]:=⟨Zng,trivial⟩
theorem Zsh:KOk Tryz.prog KB:=KOk.memoAll (KOk.memoAll (ZgS _) ZpE) ZrR
noncomputable def gate (f:FuncId) (K1 K2:Tbl):Tbl where
 dfr:=K2.dfr
 ask:=fun g xs σ=>bite (Nat.beq g f) (K1.ask g xs σ) (K2.ask g xs σ)
 mono:=fun g xs σ u σ' h=>by
  dsimp only at h;rw [Zab] at h;split at h
  ·exact K1.mono _ _ _ _ _ h
  ·exact K2.mono _ _ _ _ _ h
theorem ZoO {P:Program} {f:FuncId} {K1 K2:Tbl} (h1:KOk P K1) (h2:KOk P K2):KOk P (gate f K1 K2):=by
 intro G g xs σ u σ1 ρ w xs' hu hR has;have hu:bite (Nat.beq g f) (K1.ask g xs σ) (K2.ask g xs σ)=some (u,σ1):=hu;rw [Zab] at hu;split at hu
 ·exact h1 G g xs σ u σ1 ρ w xs' hu hR has
 ·exact h2 G g xs σ u σ1 ρ w xs' hu hR has
noncomputable def KA:Tbl:=gate 23 (KB.addP 23 okK keyN) (gate 69 (KB.addP 69 okK keyW) KB)
theorem ka {f:Nat} (h1:Nat.beq f 16=false) (h2:(Nat.beq f 191||(Nat.beq f 23||Nat.beq f 69))=false) {args:List Value} {σ:AS}:KA.ask f args σ=none:=by
 simp only [Bool.or_eq_false_iff] at h2;show bite (Nat.beq f _) _ _=_;rw [h2.2.1];show bite (Nat.beq f _) _ _=_;rw [h2.2.2];show bite (Nat.beq f _) _ _=_;rw [h2.1];show bite (Nat.beq f _) _ _=_;rw [h1];rfl
theorem ZqC {σ:AS}:C Tryz.prog KA 0 16 [] σ fun u σ'=>u=.bool true∧Ext σ σ':=ZjG (σ':=σ) (v:=.bool true) (by kernel_rfl) ⟨rfl,Ext.refl _⟩
theorem ZrA {σ:AS} {t b c:Nat} (ht:t<6) (hb:b<σ.next) (hk:(σ.get b).kind=1∨(σ.get b).kind=2) (he:(σ.get b).elem=3) (h:Zav σ ⟨b,0,none⟩ 2=some [.int .i64 0,.int .i64 (t:Int)]):C Tryz.prog KA 0 23 [.slice (some ⟨b,0,none⟩) 2 c] σ fun u σ'=>u=keyN t∧Ext σ σ':=by
 refine ZjG (σ':=σ) (v:=keyN t) ?_ ⟨rfl,Ext.refl _⟩;have ok:okK t [.slice (some ⟨b,0,none⟩) 2 c] σ:=⟨ht,b,c,rfl,hb,hk,he,h⟩;show (KB.addP 23 okK keyN).ask _ _ _=_;exact Tbl.addP_at ok (fun j hj=>by rw [Zol hj ok])
theorem wkey_c {σ:AS} {t b c:Nat} (ht:t<6) (hb:b<σ.next) (hk:(σ.get b).kind=1∨(σ.get b).kind=2) (he:(σ.get b).elem=3) (h:Zav σ ⟨b,0,none⟩ 2=some [.int .i64 0,.int .i64 (t:Int)]):C Tryz.prog KA 0 69 [.slice (some ⟨b,0,none⟩) 2 c] σ fun u σ'=>u=keyW t∧Ext σ σ':=by
 refine ZjG (σ':=σ) (v:=keyW t) ?_ ⟨rfl,Ext.refl _⟩;have ok:okK t [.slice (some ⟨b,0,none⟩) 2 c] σ:=⟨ht,b,c,rfl,hb,hk,he,h⟩;show (KB.addP 69 okK keyW).ask _ _ _=_;exact Tbl.addP_at ok (fun j hj=>by rw [Zol hj ok])
end Go.Proofs.YteangeffgjolpaaGreatDoor.U
