/- The search over numbers that are given out as states are met finds what the search over the states finds. No program. -/
import Derived.Test.YteangeffgjolpaaGreatDoorNmUF
import Derived.Test.YteangeffgjolpaaGreatDoorNmV
import Derived.Test.YteangeffgjolpaaGreatDoorNmR
set_option linter.unusedSimpArgs false
set_option linter.unusedVariables false
set_option maxRecDepth 100000
set_option maxHeartbeats 64000000
namespace Go.Proofs.YteangeffgjolpaaGreatDoor.Nest
open Abs
def Zdo (D:List Nat) (t:Nat):List Nat:=if t∈D then D else D++[t]
def Za5 (D:List Nat):List Arc→List Nat
 | []=>D
 | a::l=>Za5 (Zdo D a.2.toNat) l
def numI (D:List Nat) (t:Nat):Int:=(D.idxOf t:Int)
def askD (L:Lts) (D:List Nat) (k:Nat):List Nat×List Arc:=
 (Za5 D (L.getD (D.getD k 0) []),(L.getD (D.getD k 0) []).map fun a=>(a.1,numI (Za5 D (L.getD (D.getD k 0) [])) a.2.toNat))
structure DOk (L:Lts) (D:List Nat):Prop where
 nd:D.Nodup
 lt:∀t∈D,t<L.length
theorem Zka (D:List Nat) (t:Nat):D <+: Zdo D t∧t∈Zdo D t:=by
 unfold Zdo;split
 ·rename_i h;exact ⟨List.prefix_rfl,h⟩
 ·exact ⟨List.prefix_append _ _,by simp⟩
theorem ZmJ {L:Lts} {D:List Nat} {t:Nat} (h:DOk L D) (ht:t<L.length):DOk L (Zdo D t):=by
 unfold Zdo;split
 ·exact h
 ·rename_i hn;refine ⟨List.nodup_append.2 ⟨h.nd,by simp,fun a ha b hb=>?_⟩,fun u hu=>?_⟩
  ·simp at hb;rintro rfl;exact hn (by rw [←hb];exact ha)
  ·rcases zR.1 hu with hu|hu
   ·exact h.lt u hu
   ·simp at hu;rw [hu];exact ht
theorem ZcW:∀(l:List Arc) (D:List Nat),D <+: Za5 D l∧∀a∈l,a.2.toNat∈Za5 D l
 | [],D=>⟨List.prefix_rfl,fun a ha=>(nomatch ha)⟩
 | a::l,D=>by
  obtain ⟨h1,h2⟩:=Zka D a.2.toNat;obtain ⟨h3,h4⟩:=ZcW l (Zdo D a.2.toNat);refine ⟨h1.trans h3,fun b hb=>?_⟩;rcases List.mem_cons.1 hb with rfl|hb
  ·exact h3.subset h2
  ·exact h4 b hb
theorem Zem {L:Lts}:∀(l:List Arc) (D:List Nat),DOk L D→(∀a∈l,a.2.toNat<L.length)→DOk L (Za5 D l)
 | [],D,h,_=>h
 | a::l,D,h,hl=>Zem l _ (ZmJ h (hl a List.mem_cons_self)) fun b hb=>hl b (List.mem_cons_of_mem _ hb)
theorem Zhy:∀(l:List Arc) (D:List Nat),(∀a∈l,a.2.toNat∈D)→Za5 D l=D
 | [],D,_=>rfl
 | a::l,D,h=>by
  unfold Za5 Zdo;rw [if_pos (h a List.mem_cons_self)];exact Zhy l D fun b hb=>h b (List.mem_cons_of_mem _ hb)
theorem Zei {D D':List Nat} (h:D <+: D') {k t:Nat} (hk:D[k]?=some t):D'[k]?=some t:=by
 obtain ⟨e,rfl⟩:=h;rw [zN (zE.1 hk).1];exact hk
theorem Zi5 {D:List Nat} {t:Nat} (h:t∈D):D[D.idxOf t]?=some t:=by
 have h1:=List.idxOf_lt_length_of_mem h;rw [zP h1,List.getElem_idxOf]
theorem ZdW {D:List Nat} (hd:D.Nodup) {k t:Nat} (h:D[k]?=some t):D.idxOf t=k:=by
 obtain ⟨h1,h2⟩:=zE.1 h;rw [←h2];exact hd.idxOf_getElem k h1
theorem num_pre {D D':List Nat} (h:D <+: D') (hd:D'.Nodup) {t:Nat} (ht:t∈D):D'.idxOf t=D.idxOf t:=ZdW hd (Zei h (Zi5 ht))
theorem Zdp {D:List Nat} {k t:Nat} (h:D[k]?=some t):D.getD k 0=t:=by rw [zL,h];rfl
theorem Zhc {D:List Nat} {k:Nat} (h:k<D.length):D[k]?=some (D.getD k 0):=by rw [zL,zP h];rfl
def arcD (L:Lts) (D:List Nat) (e:Arc):Arc:=(L.getD (D.getD e.1.toNat 0) []).getD e.2.toNat (0,0)
structure EdOk (L:Lts) (D:List Nat) (e:Arc):Prop where
 p1:0≤e.1
 p2:0≤e.2
 lt:e.1.toNat<D.length
 ix:e.2.toNat<(L.getD (D.getD e.1.toNat 0) []).length
def trI (D:List Nat) (k:Int):Int:=(D.getD k.toNat 0:Int)
theorem Zi0 {D D':List Nat} (h:D <+: D') {k:Nat} (hk:k<D.length):D'.getD k 0=D.getD k 0:=Zdp (Zei h (Zhc hk))
theorem EdOk.pre {L:Lts} {D D':List Nat} {e:Arc} (h:EdOk L D e) (p:D <+: D'):EdOk L D' e∧arcD L D' e=arcD L D e:=by
 have e1:=Zi0 p h.lt;refine ⟨⟨h.p1,h.p2,zC h.lt p.length_le,by rw [e1];exact h.ix⟩,by unfold arcD;rw [e1]⟩
structure Pth (L:Lts) (D:List Nat) (p q:List Arc):Prop where
 ok:∀e∈p,EdOk L D e
 map:p.map (arcD L D)=q
section
variable {L:Lts} {D D':List Nat} {p q:List Arc}
theorem Pth.pre (h:Pth L D p q) (k:D <+: D'):Pth L D' p q:=
 ⟨fun e he=>((h.ok e he).pre k).1,by rw [←h.map];exact List.map_congr_left fun e he=>((h.ok e he).pre k).2⟩
theorem Pth.push (h:Pth L D p q) {e:Arc} {a:Arc} (he:EdOk L D e) (ha:arcD L D e=a):Pth L D (p++[e]) (q++[a]):=
 ⟨fun x hx=>by rcases zR.1 hx with hx|hx;exact h.ok x hx;simp at hx;rw [hx];exact he,by rw [List.map_append,h.map,List.map_cons,ha,List.map_nil]⟩
theorem Pth.take (h:Pth L D p q) (k:Nat):Pth L D (p.take k) (q.take k):=⟨fun e he=>h.ok e (List.mem_of_mem_take he),by rw [List.map_take,h.map]⟩
theorem Pth.drop (h:Pth L D p q) (k:Nat):Pth L D (p.drop k) (q.drop k):=⟨fun e he=>h.ok e (List.mem_of_mem_drop he),by rw [List.map_drop,h.map]⟩
theorem Pth.app {p' q':List Arc} (h:Pth L D p q) (k:Pth L D p' q'):Pth L D (p++p') (q++q'):=
 ⟨fun e he=>by rcases zR.1 he with he|he;exact h.ok e he;exact k.ok e he,by rw [List.map_append,h.map,k.map]⟩
theorem Pth.last (h:Pth L D p q):Pth L D p.dropLast q.dropLast:=⟨fun e he=>h.ok e (List.dropLast_subset p he),by rw [List.map_dropLast,h.map]⟩
theorem Pth.nil:Pth L D [] []:=⟨fun _ h=>(nomatch h),rfl⟩
end
structure Mk (n:Nat) (D:List Nat) (m l:List Bool):Prop where
 ml:m.length=n
 ll:l.length=n
 at_:∀k t,D[k]?=some t→m.getD k false=l.getD t false
 out:∀t,t∉D→l.getD t false=false
 hi:∀k,D.length≤k→m.getD k false=false
section
variable {n:Nat} {D D':List Nat} {m l:List Bool}
theorem Mk.pre (h:Mk n D m l) (p:D <+: D') (hd:D'.Nodup):Mk n D' m l:=by
 obtain ⟨E,rfl⟩:=p;refine ⟨h.ml,h.ll,fun k t hk=>?_,fun t ht=>h.out t fun h2=>ht (zR.2 (.inl h2)),fun k hk=>h.hi k (by rw [zS] at hk;omega)⟩
 by_cases hl:k<D.length
 ·rw [zN hl] at hk;exact h.at_ k t hk
 ·have ht:t∉D:=fun ht=>by
   have h1:=Zi5 ht;have h2:=ZdW hd hk;have h3:=ZdW hd (Zei (List.prefix_append D E) h1);have:=List.idxOf_lt_length_of_mem ht;omega
  rw [h.out t ht];exact h.hi k (by omega)
theorem Zg1 {l:List Bool} {s k:Nat} (hs:s<l.length):(l.set s true).getD k false=if k=s then true else l.getD k false:=by
 rw [zL,zL];by_cases e:k=s
 ·subst e;rw [if_pos rfl,List.getElem?_set_self hs];rfl
 ·rw [if_neg e,List.getElem?_set_ne (fun h=>e h.symm)]
theorem Mk.set (h:Mk n D m l) (hd:D.Nodup) (hn:D.length≤n) {k t:Nat} (hk:D[k]?=some t) (ht:t<n):Mk n D (m.set k true) (l.set t true):=by
 have hkl:=(zE.1 hk).1;refine ⟨by rw [List.length_set];exact h.ml,by rw [List.length_set];exact h.ll,fun j u hj=>?_,fun u hu=>?_,fun j hj=>?_⟩
 ·rw [Zg1 (by rw [h.ml];omega),Zg1 (by rw [h.ll];exact ht)]
  by_cases e:j=k
  ·subst e;rw [hk] at hj;cases hj;rw [if_pos rfl,if_pos rfl]
  ·rw [if_neg e,if_neg (fun h2=>e (by rw [←ZdW hd hj,h2,ZdW hd hk])),h.at_ j u hj]
 ·rw [Zg1 (by rw [h.ll];exact ht),if_neg (fun h2=>hu (by rw [h2];exact zF hk)),h.out u hu]
 ·rw [Zg1 (by rw [h.ml];omega),if_neg (by omega),h.hi j hj]
theorem ZoN {l:List Bool} {k:Nat} (h:k<l.length):l.getD k true=l.getD k false:=by simp [List.getD,h]
theorem Mk.getT (h:Mk n D m l) (hn:D.length≤n) {k t:Nat} (hk:D[k]?=some t) (ht:t<n):m.getD k true=l.getD t true:=by
 have hkl:=(zE.1 hk).1;rw [ZoN (by rw [h.ml];omega),ZoN (by rw [h.ll];exact ht),h.at_ k t hk]
end
theorem ZmB:∀(n:Nat) (D:List Nat),D.Nodup→(∀t∈D,t<n)→D.length≤n
 | 0,[],_,_=>zA _
 | 0,t::D,_,h=>absurd (h t List.mem_cons_self) (by omega)
 | n+1,D,hd,h=>by
  have h1:=ZmB n (D.erase n) (hd.erase n) fun t ht=>by
   have h2:=h t (List.mem_of_mem_erase ht);have h3:t≠n:=fun e=>by rw [e] at ht;exact (List.Nodup.not_mem_erase hd) ht
   omega
  by_cases hn:n∈D
  ·rw [List.length_erase_of_mem hn] at h1;omega
  ·rw [List.erase_of_not_mem hn] at h1;omega
theorem ZdS {L:Lts} {D:List Nat} (h:DOk L D):D.length≤L.length:=ZmB _ _ h.nd h.lt
structure Rl (L:Lts) (D:List Nat) (x y:SS):Prop where
 found:x.found=y.found
 outer:Mk L.length D x.outer y.outer
 inner:Mk L.length D x.inner y.inner
 path:Pth L D x.path y.path
 stem:Pth L D x.stem y.stem
 loop:Pth L D x.loop y.loop
 on:x.on.map (trI D)=y.on
 onok:∀k∈x.on,0≤k∧k.toNat<D.length
theorem Rl.pre {L:Lts} {D D':List Nat} {x y:SS} (h:Rl L D x y) (p:D <+: D') (hd:D'.Nodup):Rl L D' x y:=
 ⟨h.found,h.outer.pre p hd,h.inner.pre p hd,h.path.pre p,h.stem.pre p,h.loop.pre p,by rw [←h.on];exact List.map_congr_left fun k hk=>by unfold trI;rw [Zi0 p (h.onok k hk).2],
  fun k hk=>⟨(h.onok k hk).1,zC (h.onok k hk).2 p.length_le⟩⟩
theorem Zko {D:List Nat} (hd:D.Nodup) {k t:Nat} (hk:D[k]?=some t):∀l:List Int,(∀j∈l,0≤j∧j.toNat<D.length)→findOn l (k:Int)=findOn (l.map (trI D)) (t:Int)
 | [],_=>rfl
 | j::l,h=>by
  have ih:=Zko hd hk l fun i hi=>h i (List.mem_cons_of_mem _ hi);obtain ⟨h1,h2⟩:=h j List.mem_cons_self;show (if j=(k:Int) then some 0 else (findOn l (k:Int)).map (·+1))=(if trI D j=(t:Int) then some 0 else (findOn (l.map (trI D)) (t:Int)).map (·+1))
  have e:j=(k:Int)↔trI D j=(t:Int):=by
   unfold trI
   constructor
   ·intro e;subst e;rw [zW,Zdp hk]
   ·intro e;have e2:D.getD j.toNat 0=t:=by omega
    have h3:=Zhc h2;rw [e2] at h3;have:=(ZdW hd h3).symm.trans (ZdW hd hk);omega
  by_cases hj:j=(k:Int)
  ·rw [if_pos hj,if_pos (e.1 hj)]
  ·rw [if_neg hj,if_neg (fun h=>hj (e.2 h)),ih]
def Sim2 (L:Lts) (D:List Nat) (r:List Nat×SS) (y:SS):Prop:=Rl L r.1 r.2 y∧D <+: r.1∧DOk L r.1
section
variable {L:Lts}
theorem ZqB {rec:List Nat×SS→Nat→List Nat×SS} {rec':SS→Nat→SS} (hrec:∀D x y k t,Rl L D x y→DOk L D→D[k]?=some t→Sim2 L D (rec (D,x) k) (rec' y t)) {D0:List Nat} {k t:Nat} {row:List Arc} (hrow:L.getD t []=row) :
  ∀(l:List Arc) (i:Nat) (D:List Nat) (x y:SS),row.drop i=l→Rl L D x y→DOk L D→D[k]?=some t→D0 <+: D→(∀a∈l,a.2.toNat∈D0∧0≤a.2)→
   Sim2 L D (mgo rec k i (l.map fun a=>(a.1,numI D0 a.2.toNat)) (D,x)) (Zcc rec' l y)
 | [],i,D,x,y,_,h,ho,_,_,_=>⟨h,List.prefix_rfl,ho⟩
 | a::l,i,D,x,y,hl,h,ho,hk,hp,hm=>by
  have hl2:row.drop (i+1)=l:=by rw [←List.tail_drop,hl];rfl
  have ih:=fun (D:List Nat) (x y:SS) (h1:Rl L D x y) (h2:DOk L D) (h3:D[k]?=some t) (h4:D0 <+: D)=>ZqB (D0:=D0) hrec hrow l (i+1) D x y hl2 h1 h2 h3 h4 fun b hb=>hm b (List.mem_cons_of_mem _ hb);obtain ⟨hm1,hm2⟩:=hm a List.mem_cons_self;have hnum:numI D0 a.2.toNat=(D.idxOf a.2.toNat:Int):=by unfold numI;rw [num_pre hp ho.nd hm1]
  have hin:a.2.toNat∈D:=hp.subset hm1;have hget:=Zi5 hin;have hnt:(numI D0 a.2.toNat).toNat=D.idxOf a.2.toNat:=by rw [hnum,zW]
  have ea:((a.2.toNat:Nat):Int)=a.2:=by omega
  have hai:row[i]?=some a:=by
   have:=congrArg (fun l=>l[0]?) hl;simpa [List.getElem?_drop] using this
  have hil:i<row.length:=(zE.1 hai).1;have hE:EdOk L D ((k:Int),(i:Int)):=⟨by show (0:Int)≤(k:Int);omega,by show (0:Int)≤(i:Int);omega,by show (k:Int).toNat<_;rw [zW];exact (zE.1 hk).1,by
   show (i:Int).toNat<_;rw [zW];show _<(L.getD (D.getD (k:Int).toNat 0) []).length;rw [zW,Zdp hk,hrow];exact hil⟩
  have hA:arcD L D ((k:Int),(i:Int))=a:=by
   unfold arcD;show (L.getD (D.getD (k:Int).toNat 0) []).getD (i:Int).toNat (0,0)=a;rw [zW,zW,Zdp hk,hrow,zL,hai];rfl
  have hNn:=ZdS ho;have hat:=ho.lt _ hin;show Sim2 L D (mgo rec k i ((a.1,numI D0 a.2.toNat)::l.map fun a=>(a.1,numI D0 a.2.toNat)) (D,x)) _;unfold mgo Zcc;dsimp only;cases hf:x.found with
  | true=>rw [if_pos rfl,if_pos (show y.found=true by rw [←h.found];exact hf)];exact ⟨h,List.prefix_rfl,ho⟩
  | false=>
   have hyf:y.found=false:=by rw [←h.found];exact hf
   rw [if_neg (show ¬(false=true) by decide),if_neg (show ¬(y.found=true) by rw [hyf];decide)]
   by_cases h0:a.1≠0
   ·rw [if_pos h0,if_pos h0];exact ih D x y h ho hk hp
   ·rw [if_neg h0,if_neg h0];have hfo:findOn x.on (numI D0 a.2.toNat)=findOn y.on a.2:=by
     rw [hnum,Zko ho.nd hget x.on h.onok,h.on,ea]
    rw [hfo];cases hq:findOn y.on a.2 with
    | some j=>
     dsimp only;exact ⟨⟨rfl,h.outer,h.inner,h.path,h.stem.app (h.path.take j),(h.path.drop j).push hE hA,h.on,h.onok⟩,List.prefix_rfl,ho⟩
    | none=>
     dsimp only;have hgi:x.inner.getD (numI D0 a.2.toNat).toNat true=y.inner.getD a.2.toNat true:=by rw [hnt];exact h.inner.getT hNn hget hat
     rw [hgi];by_cases hb:y.inner.getD a.2.toNat true=true
     ·rw [if_pos hb,if_pos hb];exact ih D x y h ho hk hp
     ·rw [if_neg hb,if_neg hb,hnt];have hR:Rl L D (push ((k:Int),(i:Int)) (numI D0 a.2.toNat) x) { y with path:=y.path++[a],on:=y.on++[a.2] }:=
       ⟨h.found,h.outer,h.inner,h.path.push hE hA,h.stem,h.loop,by
        show (x.on++[numI D0 a.2.toNat]).map (trI D)=y.on++[a.2];rw [List.map_append,h.on,List.map_cons,List.map_nil];unfold trI;rw [hnt,Zdp hget,ea],fun j hj=>by
        rcases zR.1 hj with hj|hj
        ·exact h.onok j hj
        ·simp at hj;rw [hj,hnum];exact ⟨by omega,by rw [zW];exact List.idxOf_lt_length_of_mem hin⟩⟩
      obtain ⟨g1,g2,g3⟩:=hrec D _ _ _ _ hR ho hget;generalize rec (D,push ((k:Int),(i:Int)) (numI D0 a.2.toNat) x) (D.idxOf a.2.toNat)=z at g1 g2 g3;generalize rec' { y with path:=y.path++[a],on:=y.on++[a.2] } a.2.toNat=w at g1
      obtain ⟨D2,z⟩:=z;dsimp only at g1 g2 g3;have go:∀z' w',Rl L D2 z' w'→Sim2 L D (mgo rec k (i+1) (l.map fun a=>(a.1,numI D0 a.2.toNat)) (D2,z')) (Zcc rec' l w'):=fun z' w' h2=>by
       obtain ⟨q1,q2,q3⟩:=ih D2 z' w' h2 g3 (Zei g2 hk) (hp.trans g2);exact ⟨q1,g2.trans q2,q3⟩
      have hff:=g1.found;cases hz:z.found with
      | true=>
       have hbk:back (D2,z)=(D2,z):=by unfold back;rw [if_pos hz]
       rw [hbk,if_pos (by rw [←hff];exact hz)]
       exact go z w g1
      | false=>
       have hbk:back (D2,z)=(D2,{ z with path:=z.path.dropLast,on:=z.on.dropLast }):=by unfold back;rw [if_neg (by rw [hz];decide)]
       rw [hbk,if_neg (by rw [←hff,hz];decide)]
       exact go _ _ ⟨g1.found,g1.outer,g1.inner,g1.path.last,g1.stem,g1.loop,by
        show z.on.dropLast.map (trI D2)=w.on.dropLast;rw [List.map_dropLast,g1.on],fun j hj=>g1.onok j (List.dropLast_subset _ hj)⟩
theorem ZjO (hw:∀row∈L,∀a∈row,0≤a.2∧a.2.toNat<L.length) (t:Nat):∀a∈L.getD t [],0≤a.2∧a.2.toNat<L.length:=fun a ha=>by
 rw [zL] at ha;cases hq:L[t]? with
 | none=>rw [hq] at ha;exact (nomatch ha)
 | some r=>rw [hq] at ha;exact hw r (zF hq) a ha
theorem ZjK (hw:∀row∈L,∀a∈row,0≤a.2∧a.2.toNat<L.length):∀(f:Nat) (D:List Nat) (x y:SS) (k t:Nat),Rl L D x y→DOk L D→D[k]?=some t→Sim2 L D (minner (askD L) f (D,x) k) (ZfF L f y t)
 | 0,D,x,y,k,t,h,ho,_=>⟨h,List.prefix_rfl,ho⟩
 | f+1,D,x,y,k,t,h,ho,hk=>by
  have hr:=ZjO hw t;have ht:=ho.lt t (zF hk);have e:askD L D k=(Za5 D (L.getD t []),(L.getD t []).map fun a=>(a.1,numI (Za5 D (L.getD t [])) a.2.toNat)):=by unfold askD;rw [Zdp hk]
  obtain ⟨p1,p2⟩:=ZcW (L.getD t []) D;have p3:=Zem (L.getD t []) D ho fun a ha=>(hr a ha).2;show Sim2 L D (mgo (minner (askD L) f) k 0 (askD L D k).2 ((askD L D k).1,{ x with inner:=x.inner.set k true })) (Zcc (ZfF L f) (L.getD t []) { y with inner:=y.inner.set t true })
  rw [e];have h1:Rl L D { x with inner:=x.inner.set k true } { y with inner:=y.inner.set t true }:=⟨h.found,h.outer,h.inner.set ho.nd (ZdS ho) hk ht,h.path,h.stem,h.loop,h.on,h.onok⟩
  obtain ⟨q1,q2,q3⟩:=ZqB (ZjK hw f) (row:=L.getD t []) rfl (L.getD t []) 0 _ _ _ rfl (h1.pre p1 p3.nd) p3 (Zei p1 hk) List.prefix_rfl fun a ha=>⟨p2 a ha,(hr a ha).1⟩;exact ⟨q1,p1.trans q2,q3⟩
theorem Zn7 (hw:∀row∈L,∀a∈row,0≤a.2∧a.2.toNat<L.length) (D:List Nat) (x y:SS) (k t:Nat) (h:Rl L D x y) (ho:DOk L D) (hk:D[k]?=some t):Sim2 L D (menter (askD L) L.length (D,x) k) (Zc8 L y t):=by
 have ht:=ho.lt t (zF hk);unfold menter Zc8;dsimp only;rw [h.inner.getT (ZdS ho) hk ht];split
 ·exact ⟨h,List.prefix_rfl,ho⟩
 ·exact ZjK hw L.length D _ _ k t ⟨h.found,h.outer,h.inner,Pth.nil,h.stem,h.loop,by
   show [trI D (k:Int)]=_;unfold trI;rw [zW,Zdp hk],fun j hj=>by
   simp at hj;rw [hj,zW];exact ⟨by omega,(zE.1 hk).1⟩⟩ ho hk
theorem Zn6 {rec:List Nat×SS→Nat→List Nat×SS} {rec':SS→Nat→SS} (hrec:∀D x y k t,Rl L D x y→DOk L D→D[k]?=some t→Sim2 L D (rec (D,x) k) (rec' y t)) {D0:List Nat} {k t:Nat} {row:List Arc} (hrow:L.getD t []=row) :
  ∀(l:List Arc) (i:Nat) (D:List Nat) (x y:SS),row.drop i=l→Rl L D x y→DOk L D→D[k]?=some t→D0 <+: D→(∀a∈l,a.2.toNat∈D0∧0≤a.2)→
   Sim2 L D (mogo rec k i (l.map fun a=>(a.1,numI D0 a.2.toNat)) (D,x)) (Zb1 rec' l y)
 | [],i,D,x,y,_,h,ho,_,_,_=>⟨h,List.prefix_rfl,ho⟩
 | a::l,i,D,x,y,hl,h,ho,hk,hp,hm=>by
  have hl2:row.drop (i+1)=l:=by rw [←List.tail_drop,hl];rfl
  have ih:=fun (D:List Nat) (x y:SS) (h1:Rl L D x y) (h2:DOk L D) (h3:D[k]?=some t) (h4:D0 <+: D)=>Zn6 (D0:=D0) hrec hrow l (i+1) D x y hl2 h1 h2 h3 h4 fun b hb=>hm b (List.mem_cons_of_mem _ hb);obtain ⟨hm1,hm2⟩:=hm a List.mem_cons_self;have hnum:numI D0 a.2.toNat=(D.idxOf a.2.toNat:Int):=by unfold numI;rw [num_pre hp ho.nd hm1]
  have hin:a.2.toNat∈D:=hp.subset hm1;have hget:=Zi5 hin;have hnt:(numI D0 a.2.toNat).toNat=D.idxOf a.2.toNat:=by rw [hnum,zW]
  have hai:row[i]?=some a:=by
   have:=congrArg (fun l=>l[0]?) hl;simpa [List.getElem?_drop] using this
  have hil:i<row.length:=(zE.1 hai).1;have hE:EdOk L D ((k:Int),(i:Int)):=⟨by show (0:Int)≤(k:Int);omega,by show (0:Int)≤(i:Int);omega,by show (k:Int).toNat<_;rw [zW];exact (zE.1 hk).1,by
   show (i:Int).toNat<_;rw [zW];show _<(L.getD (D.getD (k:Int).toNat 0) []).length;rw [zW,Zdp hk,hrow];exact hil⟩
  have hA:arcD L D ((k:Int),(i:Int))=a:=by
   unfold arcD;show (L.getD (D.getD (k:Int).toNat 0) []).getD (i:Int).toNat (0,0)=a;rw [zW,zW,Zdp hk,hrow,zL,hai];rfl
  have hNn:=ZdS ho;have hat:=ho.lt _ hin;show Sim2 L D (mogo rec k i ((a.1,numI D0 a.2.toNat)::l.map fun a=>(a.1,numI D0 a.2.toNat)) (D,x)) _;unfold mogo Zb1;dsimp only;cases hf:x.found with
  | true=>rw [if_pos rfl,if_pos (show y.found=true by rw [←h.found];exact hf)];exact ⟨h,List.prefix_rfl,ho⟩
  | false=>
   have hyf:y.found=false:=by rw [←h.found];exact hf
   rw [if_neg (show ¬(false=true) by decide),if_neg (show ¬(y.found=true) by rw [hyf];decide)]
   have hgi:x.outer.getD (numI D0 a.2.toNat).toNat true=y.outer.getD a.2.toNat true:=by rw [hnt];exact h.outer.getT hNn hget hat
   rw [hgi];by_cases hb:y.outer.getD a.2.toNat true=true
   ·rw [if_pos hb,if_pos hb];exact ih D x y h ho hk hp
   ·rw [if_neg hb,if_neg hb,hnt];have hR:Rl L D (Zd9 ((k:Int),(i:Int)) x) { y with stem:=y.stem++[a] }:=⟨h.found,h.outer,h.inner,h.path,h.stem.push hE hA,h.loop,h.on,h.onok⟩
    obtain ⟨g1,g2,g3⟩:=hrec D _ _ _ _ hR ho hget;generalize rec (D,Zd9 ((k:Int),(i:Int)) x) (D.idxOf a.2.toNat)=z at g1 g2 g3;generalize rec' { y with stem:=y.stem++[a] } a.2.toNat=w at g1
    obtain ⟨D2,z⟩:=z;dsimp only at g1 g2 g3;have go:∀z' w',Rl L D2 z' w'→Sim2 L D (mogo rec k (i+1) (l.map fun a=>(a.1,numI D0 a.2.toNat)) (D2,z')) (Zb1 rec' l w'):=fun z' w' h2=>by
     obtain ⟨q1,q2,q3⟩:=ih D2 z' w' h2 g3 (Zei g2 hk) (hp.trans g2);exact ⟨q1,g2.trans q2,q3⟩
    have hff:=g1.found;cases hz:z.found with
    | true=>
     have hbk:Zdq (D2,z)=(D2,z):=by unfold Zdq;rw [if_pos hz]
     rw [hbk,if_pos (by rw [←hff];exact hz)]
     exact go z w g1
    | false=>
     have hbk:Zdq (D2,z)=(D2,{ z with stem:=z.stem.dropLast }):=by unfold Zdq;rw [if_neg (by rw [hz];decide)]
     rw [hbk,if_neg (by rw [←hff,hz];decide)]
     exact go _ _ ⟨g1.found,g1.outer,g1.inner,g1.path,g1.stem.last,g1.loop,g1.on,g1.onok⟩
theorem Zhf (hw:∀row∈L,∀a∈row,0≤a.2∧a.2.toNat<L.length):∀(f:Nat) (D:List Nat) (x y:SS) (k t:Nat),Rl L D x y→DOk L D→D[k]?=some t→Sim2 L D (mouter (askD L) L.length f (D,x) k) (Zej L f y t)
 | 0,D,x,y,k,t,h,ho,_=>⟨h,List.prefix_rfl,ho⟩
 | f+1,D,x,y,k,t,h,ho,hk=>by
  have hr:=ZjO hw t;have ht:=ho.lt t (zF hk);have h1:Rl L D { x with outer:=x.outer.set k true } { y with outer:=y.outer.set t true }:=⟨h.found,h.outer.set ho.nd (ZdS ho) hk ht,h.inner,h.path,h.stem,h.loop,h.on,h.onok⟩
  obtain ⟨q1,q2,q3⟩:=Zn7 hw D _ _ k t h1 ho hk;show Sim2 L D (if (menter (askD L) L.length (D,{ x with outer:=x.outer.set k true }) k).2.found=true then menter (askD L) L.length (D,{ x with outer:=x.outer.set k true }) k else
   mogo (mouter (askD L) L.length f) k 0 (askD L (menter (askD L) L.length (D,{ x with outer:=x.outer.set k true }) k).1 k).2
    ((askD L (menter (askD L) L.length (D,{ x with outer:=x.outer.set k true }) k).1 k).1,(menter (askD L) L.length (D,{ x with outer:=x.outer.set k true }) k).2)) (Zb1 (Zej L f) (L.getD t []) (Zc8 L { y with outer:=y.outer.set t true } t))
  generalize menter (askD L) L.length (D,{ x with outer:=x.outer.set k true }) k=z at q1 q2 q3
  generalize Zc8 L { y with outer:=y.outer.set t true } t=w at q1
  obtain ⟨D2,z⟩:=z;dsimp only at q1 q2 q3 ⊢;have hk2:=Zei q2 hk;have e:askD L D2 k=(Za5 D2 (L.getD t []),(L.getD t []).map fun a=>(a.1,numI (Za5 D2 (L.getD t [])) a.2.toNat)):=by unfold askD;rw [Zdp hk2]
  obtain ⟨p1,p2⟩:=ZcW (L.getD t []) D2;have p3:=Zem (L.getD t []) D2 q3 fun a ha=>(hr a ha).2;cases hz:z.found with
  | true=>
   rw [if_pos rfl,Zcs _ (by rw [←q1.found];exact hz)]
   exact ⟨q1,q2,q3⟩
  | false=>
   rw [if_neg (by decide),e]
   obtain ⟨s1,s2,s3⟩:=Zn6 (Zhf hw f) (row:=L.getD t []) rfl (L.getD t []) 0 _ _ _ rfl (q1.pre p1 p3.nd) p3 (Zei p1 hk2) List.prefix_rfl fun a ha=>⟨p2 a ha,(hr a ha).1⟩;exact ⟨s1,q2.trans (p1.trans s2),s3⟩
end
open Abs
theorem arcs_c {σ:AS} {b1 b0 off0 len cap s:Nat} {rv:Value} (hb:BoxAt σ b1 (.slice (some ⟨b0,off0,none⟩) len cap)) (hs:s<len) (hrl:∀σ',Ext σ σ'→Zat Tryz.prog σ' 44 (.pointer (some ⟨b0,off0+s*1,none⟩))=some rv) :
  C Tryz.prog Kn 0 41 [.int .i64 (s:Int),.pointer (some ⟨b1,0,none⟩)] σ fun v σ'=>v=rv∧Ext σ σ':=by
 refine C_of (kn (by decide)) Tryz.func41 rfl (zD rfl) ?_
 show W _ _ _ 9 _ _ _ _;unfold Tryz.f41;dsimp only;repeat apply Zaa
 apply Zad;intro _;simp +decide only [zq,ZaI,↓Zab,↓reduceIte,aOp];rfl;repeat apply Zaa
 apply Zad;intro _;simp +decide only [zq,↓Zab,↓reduceIte,aOp,Zae,Zac,Zag,fldL,hb.out,Zia hs,hrl _ (Ext.refl _)];rfl;refine ZaL ⟨zA _,[rv],?_,rfl,Ext.refl _⟩;simp +decide only [zq,Zaj]
def lw (σ:AS):AS:=⟨σ.next,0,σ.heap⟩
theorem ZqR {σ0 σ:AS} (hn:σ0.next≤σ.next) (hg:∀i,i<σ0.next→σ.get i=σ0.get i):Ext (lw σ0) σ:=⟨hn,hg,fun m h _=>by have h1:m≤0:=h;omega⟩
theorem Znj {n t:Nat} (h:t<n):numI (List.range n) t=(t:Int):=by
 unfold numI;rw [ZdW List.nodup_range (k:=t) (t:=t) (by simp [h])]
theorem ZdE {L:Lts} (hw:∀row∈L,∀a∈row,0≤a.2∧a.2.toNat<L.length) {s:Nat} (hs:s<L.length):askD L (List.range L.length) s=(List.range L.length,L.getD s []):=by
 have e:(List.range L.length).getD s 0=s:=by rw [zL,List.getElem?_range hs];rfl
 unfold askD;rw [e,Zhy _ _ fun a ha=>List.mem_range.2 (ZjO hw s a ha).2]
 congr 1
 refine (List.map_congr_left fun a ha=>?_).trans (List.map_id _);obtain ⟨h1,h2⟩:=ZjO hw s a ha;rw [Znj h2];show (a.1,((a.2.toNat:Nat):Int))=a;rw [Int.toNat_of_nonneg h1]
def FER (L:Lts) (σ0:AS) (D:List Nat) (σ:AS):Prop:=D=List.range L.length∧σ0.next≤σ.next∧∀i,i<σ0.next→σ.get i=σ0.get i
theorem ZoS {σ0:AS} {b1 cap:Nat} {base:Option Addr} {L:Lts} (hr:RS 1 RRow σ0 (.slice base L.length cap) L) (hB1:BoxAt σ0 b1 (.slice base L.length cap)) (hw:∀row∈L,∀a∈row,0≤a.2∧a.2.toNat<L.length) :
  Prov [] σ0 L.length 41 #[] #[.pointer (some ⟨b1,0,none⟩)] (askD L) (fun D s=>D=List.range L.length∧s<L.length) (FER L σ0) where
 mono:=fun ⟨h1,h2,h3⟩ f=>⟨h1,zB h2 f.nxt,fun i hi=>(f.get i (zC hi h2) (.inl hi)).trans (h3 i hi)⟩
 call:=by
  rintro D σ s ⟨rfl,h2,h3⟩ ⟨-,hs⟩ - -;obtain ⟨row,hrow⟩:∃row,L[s]?=some row:=⟨L[s],by simp [hs]⟩
  have e:=ZqR h2 h3;have hr':RS 1 RRow (lw σ0) (.slice base L.length cap) L:=hr;have hB:BoxAt (lw σ0) b1 (.slice base L.length cap):=⟨hB1.lt,hB1.get⟩;obtain ⟨-,b0,off0,rv,rfl,-,hrl,hrv⟩:=ZiZ hr' hrow;have hgd:L.getD s []=row:=by simp [List.getD,hrow]
  refine (arcs_c (hB.ext e) hs fun σ' e'=>hrl _ (e.trans e')).mono fun v σ' ⟨hv,e1⟩=>?_;subst hv;rw [ZdE hw hs,hgd];have e2:=e.trans e1;refine ⟨⟨rfl,zB h2 e1.nxt,fun i hi=>(e1.get i (zC hi h2)).trans (h3 i hi)⟩,⟨hrv.ext RArc.keeps e2,fun hl b off n c hv=>?_⟩,⟨e1.nxt,fun i hi _=>e1.get i (zC hi h2),fun i _ hi _=>e1.get i hi,fun m h4 _ h5=>e1.low m h5 (zB h4 h2)⟩⟩;obtain ⟨base',cap',e3,h4⟩:=hrv;obtain ⟨b2,off2,e4,h5,-⟩:=h4 hl;rw [hv,e4] at e3;have:b=b2:=by simp only [Value.slice.injEq,Option.some.injEq,Addr.mk.injEq] at e3;exact e3.1.1
  exact .inl ⟨by rw [this];exact h5,fun h=>(nomatch h)⟩
theorem Zqa {L:Lts} (hw:∀row∈L,∀a∈row,0≤a.2∧a.2.toNat<L.length) (hasc:∀row∈L,∀i a,row[i]?=some a→a.1≠0→∀b∈row.drop i,b.1≠0) (hlen:∀row∈L,row.length≤100) :
  Ask L.length (askD L) (fun D s=>D=List.range L.length∧s<L.length):=by
 have mem:∀{s:Nat},s<L.length→L.getD s []∈L:=fun {s} hs=>by
  rw [zL,zP hs];exact List.getElem_mem hs
 refine ⟨fun {d s} ⟨h1,h2⟩ a ha=>?_,fun {d s k} ⟨h1,h2⟩ ⟨_,h3⟩=>?_,fun {d s} ⟨h1,h2⟩=>?_,fun {d s} ⟨h1,h2⟩=>?_⟩
 ·subst h1;rw [ZdE hw h2] at ha ⊢;obtain ⟨h3,h4⟩:=hw _ (mem h2) a ha;exact ⟨h3,by omega,rfl,h4⟩
 ·subst h1;rw [ZdE hw h2];exact ⟨rfl,h3⟩
 ·subst h1;rw [ZdE hw h2];exact hasc _ (mem h2)
 ·subst h1;rw [ZdE hw h2];exact hlen _ (mem h2)
open Abs
theorem ZrO {L:Lts} (hw:∀row∈L,∀a∈row,0≤a.2∧a.2.toNat<L.length) (hasc:∀row∈L,∀i a,row[i]?=some a→a.1≠0→∀b∈row.drop i,b.1≠0) (hlen:∀row∈L,row.length≤100) :
  Ask L.length (askD L) (fun D s=>DOk L D∧s<D.length):=by
 have up:∀{D:List Nat} (s:Nat),DOk L D→D <+: (askD L D s).1∧DOk L (askD L D s).1:=fun {D} s h=>
  ⟨(ZcW _ D).1,Zem _ D h fun a ha=>(ZjO hw _ a ha).2⟩
 have mem:∀{t:Nat},t<L.length→L.getD t []∈L:=fun {t} ht=>by
  rw [zL,zP ht];exact List.getElem_mem ht
 have lt:∀{D:List Nat} {s:Nat},DOk L D→s<D.length→D.getD s 0<L.length:=fun {D s} h hs=>h.lt _ (zF (Zhc hs));refine ⟨fun {d s} ⟨h1,h2⟩ a ha=>?_,fun {d s k} ⟨h1,h2⟩ ⟨_,h3⟩=>?_,fun {d s} ⟨h1,h2⟩=>?_,fun {d s} ⟨h1,h2⟩=>?_⟩
 ·obtain ⟨p,ok⟩:=up s h1;unfold askD at ha p ok ⊢;dsimp only at ha p ok ⊢;obtain ⟨x,hx,rfl⟩:=List.mem_map.1 ha;have hm:=(ZcW (L.getD (d.getD s 0) []) d).2 x hx;have h3:=List.idxOf_lt_length_of_mem hm;have h4:=ZdS ok;unfold numI;dsimp only;rw [zW];exact ⟨by omega,by omega,ok,h3⟩
 ·obtain ⟨p,ok⟩:=up s h1;exact ⟨ok,zC h3 p.length_le⟩
 ·intro i a ha hne b hb;unfold askD at ha hb;dsimp only at ha hb;rw [List.getElem?_map] at ha;rw [←List.map_drop] at hb;obtain ⟨y,hy,rfl⟩:=List.mem_map.1 hb;cases hx:(L.getD (d.getD s 0) [])[i]? with
  | none=>rw [hx] at ha;cases ha
  | some x=>
   rw [hx] at ha;cases ha;exact hasc _ (mem (lt h1 h2)) i x hx hne y hy
 ·unfold askD;dsimp only;rw [List.length_map];exact hlen _ (mem (lt h1 h2))
structure FrK (lo:Nat) (σ s:AS):Prop where
 nxt:σ.next≤s.next
 get:∀i,lo≤i→i<σ.next→(σ.get i).kind≠3→((σ.get i).elem=3∨(σ.get i).elem=125∨(σ.get i).elem=77)→s.get i=σ.get i
structure FrE (lo:Nat) (σ s:AS):Prop where
 nxt:σ.next≤s.next
 below:∀i,i<lo→i<σ.next→s.get i=σ.get i
 above:∀i,lo≤i→i<σ.next→(σ.get i).kind≠3→((σ.get i).elem=3∨(σ.get i).elem=125∨(σ.get i).elem=77∨(σ.get i).elem=22)→s.get i=σ.get i
section
variable {X:List Nat} {σ0 σ s S:AS} {lo:Nat}
theorem FrK.of_pfr (h:PFr X σ0 σ s) (hlo:σ0.next≤lo):FrK lo σ s:=
 ⟨h.nxt,fun i hi hn _ he=>h.hi i (zB hlo hi) hn fun h2=>by rcases he with he|he|he<;>exact absurd (he.symm.trans h2.2) (by decide)⟩
theorem FrK.of_ext (e:Ext σ s):FrK lo σ s:=⟨e.nxt,fun i _ hn _ _=>e.get i hn⟩
def RState (lo:Nat) (σ:AS) (cs:List Value) (t:Nat):Prop:=∃b c,cs=[slc b 2 c]∧lo≤b∧b<σ.next∧((σ.get b).kind=1∨(σ.get b).kind=2)∧(σ.get b).elem=3∧Zav σ ⟨b,0,none⟩ 2=some [.int .i64 0,.int .i64 (t:Int)]
theorem RState.keptE {E:Nat} (hE:E≠3):Kept E (RState lo):=fun σ s cs t h hn hg=>by
 obtain ⟨b,c,h1,h0,h2,h3,h4,h5⟩:=h;have e:=hg b h2 fun h7=>hE (h7.2.symm.trans h4);exact ⟨b,c,h1,h0,by omega,by rw [e];exact h3,by rw [e];exact h4,by rw [ZbL (a:=⟨b,0,none⟩) e];exact h5⟩
theorem RState.frk {cs:List Value} {t:Nat} (h:RState lo σ cs t) (k:FrK lo σ s):RState lo s cs t:=by
 obtain ⟨b,c,h1,h0,h2,h3,h4,h5⟩:=h;have e:=k.get b h0 h2 (by rcases h3 with h3|h3<;>rw [h3]<;>decide) (.inl h4)
 have:=k.nxt;exact ⟨b,c,h1,h0,by omega,by rw [e];exact h3,by rw [e];exact h4,by rw [ZbL (a:=⟨b,0,none⟩) e];exact h5⟩
theorem RSt.frk {cs:List Value} {a:Arc} (h:RSt lo σ cs a) (k:FrK lo σ s):RSt lo s cs a:=by
 obtain ⟨nb,nc,mb,mc,h,⟨a1,a2,a3,a4,a5⟩,b1,b2,b3,b4,b5⟩:=h;have e1:=k.get nb a1 a2 (by rcases a3 with a3|a3<;>rw [a3]<;>decide) (.inl a4)
 have e2:=k.get mb b1 b2 b3 (.inr (.inl b4));have:=k.nxt;exact ⟨nb,nc,mb,mc,h,⟨a1,by omega,by rw [e1];exact a3,by rw [e1];exact a4,by rw [ZbL (a:=⟨nb,0,none⟩) e1];exact a5⟩,b1,by omega,by rw [e2];exact b3,by rw [e2];exact b4,by rw [ZbL (a:=⟨mb,0,none⟩) e2];exact b5⟩
theorem ZhB {v:Value} {l:List Arc} (h:LV 77 3 (RSt lo) lo σ v l) (k:FrK lo σ s):LV 77 3 (RSt lo) lo s v l:=by
 obtain ⟨cs,h1,h2⟩:=h;exact ⟨cs,h1.keep k.nxt fun i ho hi=>k.get i (h1.own ho).1 hi (by rw [(h1.own ho).2.2.1];decide) (.inr (.inr (h1.own ho).2.2.2)),fun i x hi=>(h2 i x hi).frk k⟩
theorem FrE.of_fr (h:Fr σ0.next S s):FrE σ0.next S s:=
 ⟨h.nxt,fun i hi hn=>h.get i hn (.inl hi),fun i _ hn hk he=>h.get i hn (.inr ⟨hk,fun h2=>by rcases he with he|he|he|he<;>exact absurd (he.symm.trans h2) (by decide),fun h2=>by rcases he with he|he|he|he<;>exact absurd (he.symm.trans h2) (by decide)⟩)⟩
theorem FrE.frk (h:FrE σ0.next σ s) (hlo:σ0.next≤lo):FrK lo σ s:=⟨h.nxt,fun i hi hn hk he=>h.above i (zB hlo hi) hn hk (by rcases he with he|he|he<;>simp [he])⟩
theorem ls_fr {v:Value} {D:List Nat} (h:LV 22 1 (RState σ0.next) σ0.next S v D) (k:FrE σ0.next S s):LV 22 1 (RState σ0.next) σ0.next s v D:=by
 obtain ⟨cs,h1,h2⟩:=h;exact ⟨cs,h1.keep k.nxt fun i ho hi=>k.above i (h1.own ho).1 hi (by rw [(h1.own ho).2.2.1];decide) (.inr (.inr (.inr (h1.own ho).2.2.2))),fun i x hi=>(h2 i x hi).frk (k.frk (zA _))⟩
theorem PFr.refl:PFr X σ0 σ σ:=⟨zA _,fun _ _ _=>rfl,fun _ _ _ _=>rfl,fun _ _ _ h=>h⟩
theorem PFr.trans {σ':AS} (h:PFr X σ0 σ s) (k:PFr X σ0 s σ') (hlo:σ0.next≤σ.next):PFr X σ0 σ σ':=
 ⟨zB h.nxt k.nxt,fun i h1 h2=>(k.lo i h1 h2).trans (h.lo i h1 h2),fun i h1 h2 h3=>by
  have e:=h.hi i h1 h2 h3;exact (k.hi i h1 (zC h2 h.nxt) (by rw [e];exact h3)).trans e,fun m h1 h2 h3=>k.low m h1 h2 (h.low m h1 h2 h3)⟩
theorem PFr.of_ext (e:Ext σ s) (hlo:σ0.next≤σ.next):PFr X σ0 σ s:=
 ⟨e.nxt,fun i hi _=>e.get i (zC hi hlo),fun i _ hi _=>e.get i hi,fun m h1 _ h2=>e.low m h2 (zB h1 hlo)⟩
theorem PFr.put {i:Nat} (hi:i∈X) (h0:i<σ0.next) (B:Blk):PFr X σ0 σ (σ.put i B):=
 ⟨zA _,fun j _ hj=>by rw [AS.get_put,if_neg];rintro rfl;exact hj hi,fun j hj _ _=>by rw [AS.get_put,if_neg (by omega)],fun m _ h2 h3=>Nat.le_min.2 ⟨h3,h2 i hi⟩⟩
theorem PFr.push {v:Value} (hlo:σ0.next≤σ.next) (hn:σ.next≤s.next) (hg:∀i,i<σ.next→¬Own v i→s.get i=σ.get i) (hl:∀q,q≤σ0.next→q≤σ.low→q≤s.low) (ho:∀i,Own v i→σ0.next≤i∧(σ.get i).kind=2∧(σ.get i).elem=22):PFr X σ0 σ s:=
 ⟨hn,fun i hi _=>hg i (zC hi hlo) fun h2=>by have:=(ho i h2).1;omega,fun i _ hi hk=>hg i hi fun h2=>hk (ho i h2).2,fun m h1 _ h2=>hl m h1 h2⟩
end
def nuf (D:List Nat) (k:Int):Option Value:=if 0≤k∧k.toNat∈D then some (.int .i64 (numI D k.toNat)) else none
theorem Zoq {D:List Nat} {t:Nat} (h:t∉D):nuf (D++[t])=fun j=>if j=(t:Int) then some (.int .i64 (D.length:Int)) else nuf D j:=by
 funext j
 unfold nuf;by_cases e:j=(t:Int)
 ·subst e;rw [if_pos rfl,if_pos ⟨by omega,by simp⟩]
  unfold numI;rw [zW,List.idxOf_append,if_neg h];simp
 ·rw [if_neg e];by_cases hj:0≤j∧j.toNat∈D
  ·rw [if_pos hj,if_pos ⟨hj.1,zR.2 (.inl hj.2)⟩];unfold numI;rw [List.idxOf_append,if_pos hj.2]
  ·rw [if_neg hj,if_neg];rintro ⟨h1,h2⟩;rcases zR.1 h2 with h2|h2
   ·exact hj ⟨h1,h2⟩
   ·simp at h2;omega
def MD.ex (d:MD) (nm sm:Nat) (sv:Value):Blk:=⟨1,88,0,[slc d.bc 1 d.cc,slc d.bf 1 d.cf,.map (some nm),sv,.map (some sm)],[]⟩
structure ERep (L:Lts) (σm σ0:AS) (d:MD) (eb nm sm:Nat) (D:List Nat) (σ:AS) (sv:Value) (f:Int→Option Value):Prop where
 ok:DOk L D
 m:Ext σm σ
 m0:σm.low=0
 lo:eb<σ0.next∧nm<σ0.next∧sm<σ0.next∧nm≠sm
 hi:σm.next≤eb∧σm.next≤nm∧σm.next≤sm
 nx:σ0.next≤σ.next
 get:σ.get eb=d.ex nm sm sv
 st:LV 22 1 (RState σ0.next) σ0.next σ sv D
 nums:MapG U.encW U.D6 0 σ (.map (some nm)) (nuf D)
 steps:MapAt 0 σ (.map (some sm)) f
 at_:∀k v,f k=some v→0≤k∧k.toNat<D.length∧∃lo,σ0.next≤lo∧LV 77 3 (RSt lo) lo σ v (L.getD (D.getD k.toNat 0) [])
section
variable {L:Lts} {σm σ0 σ σ' S:AS} {d:MD} {eb nm sm:Nat} {D D':List Nat} {sv sv':Value} {f:Int→Option Value}
theorem ERep.ne (h:ERep L σm σ0 d eb nm sm D σ sv f):nm≠eb∧sm≠eb:=by
 have e:(σ.get eb).kind=1:=by rw [h.get];rfl
 constructor
 ·rintro rfl;have:=(h.nums.own (i:=nm) rfl).2.2;rw [e] at this;cases this
 ·rintro rfl;have:=(h.steps.own (i:=sm) rfl).2.2;rw [e] at this;cases this
theorem ERep.ext (h:ERep L σm σ0 d eb nm sm D σ sv f) (e:Ext σ σ'):ERep L σm σ0 d eb nm sm D σ' sv f:=
 ⟨h.ok,h.m.trans e,h.m0,h.lo,h.hi,zB h.nx e.nxt,(e.get eb (zC h.lo.1 h.nx)).trans h.get,h.st.ext (RState.keptE (E:=22) (by decide)) e,h.nums.keep e.nxt fun i _ hi=>e.get i hi,h.steps.keep e.nxt fun i _ hi=>e.get i hi,
  fun k v hk=>by obtain ⟨h1,h2,lo,h3,h4⟩:=h.at_ k v hk;exact ⟨h1,h2,lo,h3,h4.ext RSt.kept e⟩⟩
theorem ERep.fre (h:ERep L σm σ0 d eb nm sm D S sv f) (k:FrE σ0.next S σ):ERep L σm σ0 d eb nm sm D σ sv f:=by
 have g:∀i,i<σ0.next→σ.get i=S.get i:=fun i hi=>k.below i hi (zC hi h.nx);have hm:σm.next≤σ0.next:=zB h.hi.1 (Nat.le_of_lt h.lo.1);refine ⟨h.ok,⟨zB h.m.nxt k.nxt,fun i hi=>(g i (zC hi hm)).trans (h.m.get i hi),fun m h1 _=>by rw [h.m0] at h1;omega⟩,h.m0,h.lo,h.hi,zB h.nx k.nxt,(g eb h.lo.1).trans h.get,ls_fr h.st k,
  h.nums.keep k.nxt fun i ho _=>by cases ho;exact g nm h.lo.2.1,h.steps.keep k.nxt fun i ho _=>by cases ho;exact g sm h.lo.2.2.1,
  fun k' v hk=>by obtain ⟨h1,h2,lo,h3,h4⟩:=h.at_ k' v hk;exact ⟨h1,h2,lo,h3,ZhB h4 (k.frk h3)⟩⟩
theorem ERep.fr (h:ERep L σm σ0 d eb nm sm D S sv f) (k:Fr σ0.next S σ):ERep L σm σ0 d eb nm sm D σ sv f:=h.fre (FrE.of_fr k)
theorem ERep.grow (h:ERep L σm σ0 d eb nm sm D σ sv f) (k:PFr [eb,nm] σ0 σ σ') (g:σ'.get eb=d.ex nm sm sv') (s:LV 22 1 (RState σ0.next) σ0.next σ' sv' D') (n:MapG U.encW U.D6 0 σ' (.map (some nm)) (nuf D')) (p:D <+: D') (ok:DOk L D'):ERep L σm σ0 d eb nm sm D' σ' sv' f:=by
 obtain ⟨ne1,ne2⟩:=h.ne;have hm:σm.next≤σ0.next:=zB h.hi.1 (Nat.le_of_lt h.lo.1);refine ⟨ok,⟨zB h.m.nxt k.nxt,fun i hi=>(k.lo i (zC hi hm) ?_).trans (h.m.get i hi),fun m h1 _=>by rw [h.m0] at h1;omega⟩,h.m0,h.lo,h.hi,zB h.nx k.nxt,g,s,n,
  h.steps.keep k.nxt fun i ho _=>by cases ho;exact k.lo sm h.lo.2.2.1 (by simp;exact ⟨ne2,h.lo.2.2.2.symm⟩),
  fun k' v hk=>?_⟩
 ·have:=h.hi;simp;omega
 ·obtain ⟨h1,h2,lo,h3,h4⟩:=h.at_ k' v hk;exact ⟨h1,zC h2 p.length_le,lo,h3,by rw [Zi0 p h2];exact ZhB h4 (FrK.of_pfr k h3)⟩
theorem ERep.ldM (h:ERep L σm σ0 d eb nm sm D σ sv f):Zat Tryz.prog σ 35 (.pointer (some ⟨eb,0,none⟩))=some d.val:=
 ZbK Tryz.underlying35 rfl (i:=(Tryz.prog.info? 35).get!) (by kernel_rfl) (by rw [show ((Tryz.prog.info? 35).get!).size=2 by kernel_rfl];exact Zaq h.get rfl (by simp))
theorem ERep.ldN (h:ERep L σm σ0 d eb nm sm D σ sv f):Zat Tryz.prog σ 73 (.pointer (some ⟨eb,2,none⟩))=some (.map (some nm)):=Zaw Tryz.underlying73 rfl (Zaq h.get rfl (by simp))
theorem ERep.ldT (h:ERep L σm σ0 d eb nm sm D σ sv f):Zat Tryz.prog σ 37 (.pointer (some ⟨eb,3,none⟩))=some sv:=Zaw Tryz.underlying37 rfl (Zaq h.get rfl (by simp))
theorem ERep.ldS (h:ERep L σm σ0 d eb nm sm D σ sv f):Zat Tryz.prog σ 86 (.pointer (some ⟨eb,4,none⟩))=some (.map (some sm)):=Zaw Tryz.underlying86 rfl (Zaq h.get rfl (by simp))
end
theorem fldE0 {b:Nat}:Za4 Tryz.prog 88 0 (.pointer (some ⟨b,0,none⟩))=some (.pointer (some ⟨b,0,none⟩)):=by kernel_rfl
theorem ZrK {b:Nat}:Za4 Tryz.prog 88 1 (.pointer (some ⟨b,0,none⟩))=some (.pointer (some ⟨b,2,none⟩)):=by kernel_rfl
theorem ZrJ {b:Nat}:Za4 Tryz.prog 88 2 (.pointer (some ⟨b,0,none⟩))=some (.pointer (some ⟨b,3,none⟩)):=by kernel_rfl
theorem ZrI {b:Nat}:Za4 Tryz.prog 88 3 (.pointer (some ⟨b,0,none⟩))=some (.pointer (some ⟨b,4,none⟩)):=by kernel_rfl
theorem Zq7 {σ:AS} {eb nm sm:Nat} {d:MD} {sv v:Value} (h:σ.get eb=d.ex nm sm sv) (hv:∃a n c,v=.slice a n c):ZaK Tryz.prog σ 37 v (.pointer (some ⟨eb,3,none⟩))=some (σ.put eb (d.ex nm sm v)):=by
 obtain ⟨inf,hi2,hs⟩:∃inf,Tryz.prog.info? 37=some inf∧inf.size=1:=⟨(Tryz.prog.info? 37).get!,by kernel_rfl,by kernel_rfl⟩
 have hz:Nat.beq v.cells.size 1=true∧v.cells.toList=[v]∧one v=true:=by
  obtain ⟨a,n,c,rfl⟩:=hv;exact ⟨rfl,rfl,rfl⟩
 unfold ZaK;simp only [hi2,hs,hz.1,if_true,hz.2.1];unfold Zbc;simp only [h,MD.ex,ZaJ,List.length_cons,List.length_nil,Nat.zero_add,List.all_cons,List.all_nil,hz.2.2];rw [ZbF (by omega),ZaP,Zbe]
 rfl
theorem elSS:El Tryz.prog 37 22 1:=⟨Tryz.underlying37,⟨(Tryz.prog.info? 22).get!,(((Tryz.prog.info? 22).get!).zero).get!,by kernel_rfl,by kernel_rfl,zD (by kernel_rfl),by kernel_rfl,by kernel_rfl,by kernel_rfl⟩,by decide⟩
theorem Zpf {σ:AS} {b c:Nat}:Zaz Tryz.prog σ 37 1 [(0,slc b 2 c)]=some (slc σ.next 1 1,σ.new ⟨1,22,0,[slc b 2 c],[]⟩):=by kernel_rfl
theorem Zmx {L:Lts} {σm σ0 σ:AS} {d:MD} {eb nm sm b c t:Nat} {D:List Nat} {sv:Value} {f:Int→Option Value} (h:ERep L σm σ0 d eb nm sm D σ sv f) (ht:t<L.length) (h6:t<6) (hN:L.length≤6) (hs:RState σ0.next σ [slc b 2 c] t) :
  C Tryz.prog Kn 0 36 [.pointer (some ⟨eb,0,none⟩),slc b 2 c] σ fun u σ'=>u=.int .i64 (numI (Zdo D t) t)∧(∃sv',ERep L σm σ0 d eb nm sm (Zdo D t) σ' sv' f)∧PFr [eb,nm] σ0 σ σ':=by
 have hs':=hs;obtain ⟨b',c',e0,hb0,hb,hbk,hbe,hbc⟩:=hs;cases e0;refine C_of (kn (by decide)) Tryz.func36 rfl (zD rfl) ?_
 show W _ _ _ 43 _ _ _ _;unfold Tryz.f36;dsimp only;repeat apply Zaa
 apply Zad;intro _;simp +decide only [zq,ZaI,↓Zab,↓reduceIte,aOp];rfl;repeat apply Zaa
 apply ZaF;apply Zay 1;intro _;simp +decide only [zq,List.take,↓Zab,↓reduceIte,aOp];rfl;dsimp only [List.drop];refine ZaV (vs:=[slc b 2 c]) (by simp +decide only [zq,aevs]) (by decide) (C.mono (U.wkey_c h6 hb hbk hbe hbc) ?_)
 rintro u s ⟨rfl,e1⟩;apply ZaG;intro _;simp +decide only [zq,↓Zab,↓reduceIte,aOp];rfl;have h1:=h.ext e1;have hs1:=hs'.frk (FrK.of_ext e1);have p1:PFr [eb,nm] σ0 σ s:=PFr.of_ext e1 h.nx;generalize s=σ1 at e1 h1 hs1 p1;have ht6:U.D6 (t:Int):=⟨by omega,by omega⟩
 have hlk:=h1.nums.look U.keysW Tryz.underlying73 Zq4 rfl ht6 true;have hkt:U.encW (t:Int)=U.keyW t:=rfl;rw [hkt] at hlk;have ne2:=h1.ne;have hn0:=h1.nx;by_cases hD:t∈D
 ·have hf:nuf D (t:Int)=some (.int .i64 (numI D t)):=by unfold nuf;rw [if_pos ⟨by omega,by rw [zW];exact hD⟩,zW]
  have hmi:Zdo D t=D:=by unfold Zdo;rw [if_pos hD]
  rw [hf] at hlk;repeat apply Zaa
  apply Zad;intro _;simp +decide only [zq,↓Zab,↓reduceIte,aOp,Zac,Zag,Zbb,Zbo,ZrK,h1.ldN,Zba,hlk];rfl;repeat apply Zaa
  apply Zad;intro _;simp +decide only [zq,↓Zab,↓reduceIte,aOp,opUn];rfl;repeat apply Zaa
  refine ZaC (by simp +decide only [zq,Bool.not_true]) ?_
  apply Zak;repeat apply Zaa
  apply Zad;intro _;simp +decide only [zq,↓Zab,↓reduceIte,aOp,Bool.not_true];rfl;refine ZaL ⟨zA _,[.int .i64 (numI D t)],?_,by rw [hmi];rfl,⟨sv,by rw [hmi];exact h1⟩,p1⟩
  simp +decide only [zq,Zaj]
 have hf:nuf D (t:Int)=none:=by unfold nuf;rw [if_neg];rintro ⟨-,h2⟩;rw [zW] at h2;exact hD h2
 have hmi:Zdo D t=D++[t]:=by unfold Zdo;rw [if_neg hD]
 have hni:numI (D++[t]) t=(D.length:Int):=by unfold numI;rw [List.idxOf_append,if_neg hD];simp
 rw [hf] at hlk;have hok:DOk L (D++[t]):=by rw [←hmi];exact ZmJ h1.ok ht
 have hDl:=ZdS h1.ok;obtain ⟨sa,sc,hsv⟩:=h1.st.len;have hlT:=h1.ldT;rw [hsv] at hlT;repeat apply Zaa
 apply Zad;intro _;simp +decide only [zq,↓Zab,↓reduceIte,aOp,Zac,Zag,Zbb,Zbo,ZrK,h1.ldN,Zba,hlk];rfl;repeat apply Zaa
 apply Zad;intro _;simp +decide only [zq,↓Zab,↓reduceIte,aOp,opUn];rfl;repeat apply Zaa
 refine ZaQ (by simp +decide only [zq,Bool.not_false]) ?_
 repeat apply Zaa
 apply Zad;intro _;simp +decide only [zq,↓Zab,↓reduceIte,aOp,Zan,Zac,Zag,aevs,Zaf,Bool.not_false,Zbo,ZrJ,hlT,Tryz.underlying37,goInt,aLen];rfl;obtain ⟨mr,mB,e2,hB3,hup,hm2⟩:=h1.nums.upd U.keysW Tryz.underlying73 ht6 (.int .i64 (D.length:Int));cases e2;rw [hkt] at hup;rw [←Zoq hD] at hm2;have p2:PFr [eb,nm] σ0 σ1 (σ1.put nm mB):=PFr.put (by simp) h1.lo.2.1 mB
 repeat apply Zaa
 apply Zad;intro _;simp +decide only [zq,↓Zab,↓reduceIte,aOp,Zac,Zag,unn,Zbo,ZrK,h1.ldN,ZbG,hup];rfl;have g2:(σ1.put nm mB).get eb=d.ex nm sm sv:=by rw [AS.get_put,if_neg ne2.1];exact h1.get
 have st2:LV 22 1 (RState σ0.next) σ0.next (σ1.put nm mB) sv D:=by
  obtain ⟨cs,k1,k2⟩:=h1.st;refine ⟨cs,k1.keep (zA _) fun i ho hi=>?_,fun i x hi=>(k2 i x hi).frk (FrK.of_pfr p2 (zA _))⟩;rw [AS.get_put,if_neg];rintro rfl;have:=(k1.own ho).1;have:=h1.lo.2.1;omega
 have hs2:=hs1.frk (FrK.of_pfr p2 (zA _));have lT2:Zat Tryz.prog (σ1.put nm mB) 37 (.pointer (some ⟨eb,3,none⟩))=some sv:=Zaw Tryz.underlying37 rfl (Zaq g2 rfl (by simp))
 have n2:σ0.next≤(σ1.put nm mB).next:=hn0;generalize σ1.put nm mB=σ2 at p2 g2 st2 hs2 lT2 hm2 n2;have e3:=Ext.new σ2 ⟨1,22,0,[slc b 2 c],[]⟩;have g3:=(e3.get eb (zC h1.lo.1 n2)).trans g2;have st3:=st2.ext (RState.keptE (by decide)) e3
 have hs3:=hs2.frk (FrK.of_ext e3);have hm3:=hm2.keep e3.nxt fun i _ hi=>e3.get i hi;obtain ⟨v4,s4,q1,q2,q3,q4,q5,q6⟩:=st3.push (P:=Tryz.prog) (T:=37) elSS (RState.keptE (by decide)) (zB n2 e3.nxt) (x:=t) (y:=slc σ2.next 1 1) (new:=[slc b 2 c])
  (ZbV (Zaq (BxAt.new σ2 22 [slc b 2 c]).get rfl (zA _))) rfl rfl hs3 (by omega)
 have p3:PFr [eb,nm] σ0 σ2 (σ2.new ⟨1,22,0,[slc b 2 c],[]⟩):=PFr.of_ext e3 n2;have p4:PFr [eb,nm] σ0 (σ2.new ⟨1,22,0,[slc b 2 c],[]⟩) s4:=PFr.push (zB n2 e3.nxt) q3 q4 q5 fun i ho=>by
  have:=st3.own ho;exact ⟨this.1,this.2.2.1,this.2.2.2⟩
 have hne:∀i,i<σ0.next→¬Own sv i:=fun i hi ho=>by have:=(st3.own ho).1;omega
 have g4:s4.get eb=d.ex nm sm sv:=(q4 eb (zC h1.lo.1 (zB n2 e3.nxt)) (hne eb h1.lo.1)).trans g3;have hm4:=hm3.keep q3 fun i ho hi=>by
  cases ho;exact q4 nm hi (hne nm h1.lo.2.1)
 obtain ⟨va4,vc4,hv4⟩:=q2.len;have hst:=Zq7 (sm:=sm) g4 ⟨va4,_,vc4,hv4⟩;have P4:=p1.trans (p2.trans (p3.trans p4 n2) hn0) h.nx;repeat apply Zaa
 apply Zad;intro _;simp +decide only [zq,↓Zab,↓reduceIte,aOp,Zan,Zac,Zag,ZaE,Zar,aevs,ZaN,unn,Zaf,Zbo,ZrJ,lT2,Zpf,q1,hst];rfl;repeat apply Zaa
 apply Zad;intro _;simp +decide only [zq,↓Zab,↓reduceIte,aOp];rfl;have n4:σ0.next≤s4.next:=zB (zB n2 e3.nxt) q3;have p5:PFr [eb,nm] σ0 s4 (s4.put eb (d.ex nm sm v4)):=PFr.put (by simp) h1.lo.1 _
 refine ZaL ⟨zA _,[.int .i64 (D.length:Int)],?_,by rw [hmi,hni];rfl,⟨v4,?_⟩,P4.trans p5 h.nx⟩
 ·simp +decide only [zq,Zaj]
 ·rw [hmi];refine h.grow (P4.trans p5 h.nx) (by rw [AS.get_put,if_pos rfl]) ?_ (hm4.keep (zA _) fun i ho _=>by cases ho;rw [AS.get_put,if_neg ne2.1.symm]) (List.prefix_append _ _) hok
  obtain ⟨cs,k1,k2⟩:=q2;refine ⟨cs,k1.keep (zA _) fun i ho hi=>?_,fun i x hi=>(k2 i x hi).frk (FrK.of_pfr p5 (zA _))⟩;rw [AS.get_put,if_neg];rintro rfl;have:=(k1.own ho).1;have:=h1.lo.1;omega
end Go.Proofs.YteangeffgjolpaaGreatDoor.Nest
