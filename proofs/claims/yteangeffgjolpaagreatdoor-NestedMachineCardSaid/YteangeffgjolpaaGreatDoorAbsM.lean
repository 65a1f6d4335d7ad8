/- Regions whose order is open: whatever order the tape draws,the end is the text's. -/
import Derived.Test.YteangeffgjolpaaGreatDoorAbsK
import Derived.LoopN
import Derived.Scope
import Derived.Recover
set_option linter.unusedSimpArgs false
set_option linter.unusedVariables false
namespace Go.Proofs.YteangeffgjolpaaGreatDoor.Abs
theorem Zku {α:Type} {p q:α→Bool}:∀{l:List α} {x:α},(∀y∈l,q y=true→p y=true)→x∈l→p x=true→q x=false→l.countP q<l.countP p
 | [],x,_,hx,_,_=>by cases hx
 | a::l,x,h,hx,hp,hq=>by
  rw [List.countP_cons,List.countP_cons];have mono:l.countP q≤l.countP p:=List.countP_mono_left fun y hy=>h y (by simp [hy])
  rcases List.mem_cons.1 hx with rfl|hx
  ·rw [if_pos hp,if_neg (by rw [hq];simp)];omega
  ·have ih:=Zku (fun y hy=>h y (by simp [hy])) hx hp hq
   by_cases ha:q a=true
   ·rw [if_pos ha,if_pos (h a (by simp) ha)];omega
   ·rw [if_neg ha];split<;>omega
theorem Zru {p:Nat→Prop}:∀{n:Nat},(∃k,k<n∧¬p k)→∃k,k<n∧¬p k∧∀j,j<k→p j
 | 0,⟨k,hk,_⟩=>by omega
 | n+1,⟨k,hk,hp⟩=>by
  by_cases h:∃k,k<n∧¬p k
  ·obtain ⟨x,h1,h2,h3⟩:=Zru h;exact ⟨x,by omega,h2,h3⟩
  ·refine ⟨k,hk,hp,fun j hj=>?_⟩;by_cases hj':p j
   ·exact hj'
   ·exact absurd ⟨j,by omega,hj'⟩ h
noncomputable def Zhs (g:Nat→Blk):Nat→ZnP
 | 0=>.e
 | n+1=>hput (Zhs g n) n (g n)
theorem Zls (g:Nat→Blk):∀(n i:Nat),hget (Zhs g n) i=if i<n then g i else Blk.dead
 | 0,i=>by rw [if_neg (Nat.not_lt_zero _)];rfl
 | n+1,i=>by
  rw [Zhs,ZfG,Zls g n];by_cases e:n=i
  ·subst e;rw [if_pos rfl,if_pos (zG _)]
  ·rw [if_neg e];by_cases h:i<n
   ·rw [if_pos h,if_pos (by omega)]
   ·rw [if_neg h,if_neg (by omega)]
noncomputable def AS.only (σ:AS) (F:List Nat):AS:=⟨σ.next,σ.next,F.foldr (fun x h=>hput h x (σ.get x)) .e⟩
theorem Zfw (σ:AS) (F:List Nat) (x:Nat):(x∈F→(σ.only F).get x=σ.get x)∧(x∉F→(σ.only F).get x=Blk.dead):=by
 show (x∈F→hget (F.foldr (fun x h=>hput h x (σ.get x)) .e) x=σ.get x)∧(x∉F→hget (F.foldr (fun x h=>hput h x (σ.get x)) .e) x=Blk.dead)
 induction F with
 | nil=>exact ⟨fun h=>(nomatch h),fun _=>rfl⟩
 | cons a l ih=>
  rw [List.foldr_cons,ZfG];by_cases e:a=x
  ·subst e;rw [if_pos rfl];exact ⟨fun _=>rfl,fun h=>absurd (List.mem_cons_self) h⟩
  ·rw [if_neg e];exact ⟨fun h=>ih.1 ((List.mem_cons.1 h).resolve_left fun h=>e h.symm),fun h=>ih.2 fun h'=>h (List.mem_cons_of_mem _ h')⟩
theorem Zkk (σ:AS) (i:Nat):σ.reset.get i=σ.get i:=rfl
theorem Zb3 (σ s1:AS) (i:Nat):(σ.merge s1).get i=s1.get i:=rfl
theorem Zgf {σ s1:AS} (h:AMono σ.reset s1):AMono σ (σ.merge s1) where
 nxt:=h.nxt
 low:=Nat.min_le_left _ _
 keep i hi hl:=h.keep i hi (zC hl (Nat.min_le_right _ _))
 dead i hi h0:=h.dead i hi h0
 ro n hn hl hk:=by
  obtain ⟨h1,h2⟩:=h.ro n hn hn hk;exact ⟨Nat.le_min.2 ⟨hl,h1⟩,h2⟩
theorem below_iff {π:Ren} {n i b:Nat}:(π.below n).bl i=some b↔i<n∧π.bl i=some b:=by
 simp only [Ren.below];split
 ·rename_i h;simp [h]
 ·rename_i h;simp [h]
theorem ZgZ {τ:Ren} {n:Nat} (h:∀i b,τ.bl i=some b→i<n):τ.le (τ.below n):=fun i b hi=>⟨below_iff.2 ⟨h i b hi,hi⟩,rfl⟩
theorem Sim.congr {G:Nat} {ρ τ:Ren} {σ σ1 σ2:AS} {w w':World} (hn:σ2.next=σ1.next) (hl:σ2.low=σ1.low) (hg:∀x,x<σ1.next→σ2.get x=σ1.get x) (h:Sim G ρ σ w τ σ1 w'):Sim G ρ σ w τ σ2 w' where
 base:=h.base
 le:=h.le
 rel:=by
  refine ⟨?_,?_,h.rel.glob,by rw [hn];exact h.rel.globN⟩
  ·intro i b hi;obtain ⟨h1,o,ho,hb⟩:=h.rel.blk i b hi;exact ⟨by rw [hn];exact h1,o,ho,by rw [hg i h1];exact hb⟩
  ·intro i j b hi hj ki kj;rw [hg i (h.rel.blk i b hi).1] at ki;rw [hg j (h.rel.blk j b hj).1] at kj;exact h.rel.inj i j b hi hj ki kj
 frame:=h.frame
 hsz:=h.hsz
 nxt:=by rw [hn];exact h.nxt
 newid:=h.newid
 newblk i b h1 h2:=by
  rcases h.newblk i b h1 h2 with h3|⟨j,h3,h4,h5⟩
  ·exact .inl h3
  ·exact .inr ⟨j,h3,h4,by rw [hg j (zC (h.base.blk j b h3).1 h.nxt)];exact h5⟩
 low:=by rw [hl];exact h.low
 keep i hi hlo:=by rw [hg i (zC hi h.nxt)];exact h.keep i hi (by rw [←hl];exact hlo)
 dead i hi h0:=by rw [hg i (zC hi h.nxt)];exact h.dead i hi h0
 stay i b hi hk hlo:=h.stay i b hi hk (by rw [←hl];exact hlo)
 out:=h.out
section draw
variable {P:Program} {G:Nat} {callf:FuncId→List Value→AS→Option (Value×AS)} {n:Nat} {ops:Array Oper} {ds:List Deferred}
variable {ρ:Ren} {w0:World} {rS:Nat→Regs} {sS:Nat→AS} {vS:Nat→Value} {sj:List Nat} {fS:Nat→Bool} {fp:Nat→Option (List Nat)} {Q:Exit→Act→World→Prop}
def Wn (sS:Nat→AS) (fS:Nat→Bool) (fp:Nat→Option (List Nat)) (k x:Nat):Prop:=fS k=true∧x<(sS k).next∧∀l,fp k=some l→x∈l.take 1
def Wr (sS:Nat→AS) (fS:Nat→Bool) (fp:Nat→Option (List Nat)) (k x:Nat):Prop:=fS k=true∧x<(sS k).next∧(∀l,fp k=some l→x∈l.take 1)∧(sS (k+1)).get x≠(sS k).get x
def Rd (fp:Nat→Option (List Nat)) (k x:Nat):Prop:=∀l,fp k=some l→x∈l
theorem Wr.rd {k x:Nat} (h:Wr sS fS fp k x):Rd fp k x:=fun l hl=>List.mem_of_mem_take (h.2.2.1 l hl)
theorem Wr.wn {k x:Nat} (h:Wr sS fS fp k x):Wn sS fS fp k x:=⟨h.1,h.2.1,h.2.2.1⟩
theorem Wn.rd {k x:Nat} (h:Wn sS fS fp k x):Rd fp k x:=fun l hl=>List.mem_of_mem_take (h.2.2 l hl)
theorem Zfa {k:Nat} (hk:k<ops.size):∃o,ops.toList[k]?=some o:=⟨ops[k],by simp [hk]⟩
structure Run (P:Program) (G:Nat) (callf:FuncId→List Value→AS→Option (Value×AS)) (n:Nat) (ops:Array Oper) (sj:List Nat) (rS:Nat→Regs) (sS:Nat→AS) (vS:Nat→Value) (fS:Nat→Bool) (fp:Nat→Option (List Nat)):Prop where
 st:Static ops
 at_:∀k o,ops.toList[k]?=some o→At P G callf n ops rS sS vS fS k o
 mono:∀k,k<ops.size→AMono (sS k) (sS (k+1))
 fpk:∀k o,ops.toList[k]?=some o→fp k=bite (ZbJ P ops sj k||!aWanted ops (rS k) o) (some []) (fpOf P G (rS k) o.op)
 still:∀k o,ops.toList[k]?=some o→(ZbJ P ops sj k=true∨aWanted ops (rS k) o=false)→fS k=false∧(sS (k+1)).next=(sS k).next
 unch:∀k x,k<ops.size→x<(sS k).next→¬Wr sS fS fp k x→(sS (k+1)).get x=(sS k).get x
 conf:∀k j,k<ops.size→j<ops.size→j≠k→Zbu (Zbp ops) k j=true∨Zbu (Zbp ops) j k=true∨∀x,Wn sS fS fp k x→¬Rd fp j x∧((sS (k+1)).get x≠(sS k).get x→¬((sS j).next≤x∧x<(sS (j+1)).next))
 steady:∀k o,ops.toList[k]?=some o→memb sj k=true→Zck o.op=true∧(aWanted ops (rS k) o=true→vsc (sS k).next 9 (vS k)=true∧
  ∃F,fpOf P G (rS k) o.op=some F∧(F=[]∨∃x,F=[x]∧∀m,m≤ops.size→x<(sS m).next→(∀q,q<ops.size→Zbu (Zbp ops) k q=true→Wn sS fS fp q x→q<m)→
   (∀q,q<m→Zbu (Zbp ops) q k=true→¬Wn sS fS fp q x)→∃s1,Zb5 P G callf (rS k) (sS m).reset o.op=some (vS k,s1)))
theorem Ze6 {r:Regs} {σ s1 S:AS} {op:Op} {v:Value} {F:List Nat} (hb:Zck op=true) (h:Zb5 P G callf r σ op=some (v,s1)) (hf:fpOf P G r op=some F) (hg:∀x∈F,S.get x=σ.get x) :
  Zb5 P G callf r S op=some (v,S):=by
 have hA:Agree F σ ⟨σ.next,σ.low,S.heap⟩:=⟨rfl,rfl,hg⟩;cases op<;>(try (simp [Zck] at hb;done))<;>simp only [fpOf] at hf<;>simp only [aStep_eq,aStepOld,aOp,Zag,Zba] at h ⊢
 case load t x=>
  split at h
  ·rename_i u hu;obtain rfl:=Zb9 hu hf;obtain ⟨h1,_⟩:=ZaT h;have e:Zat P S t u=Zat P σ t u:=Zh0 (S:=⟨σ.next,σ.low,S.heap⟩) hA fun x hx=>hx;rw [e,h1];rfl
  ·cases h
 case lookup t x ix ok=>
  split at h
  ·rename_i u1 u2 h1 h2;obtain rfl:=Zb9 h1 hf;obtain ⟨h3,_⟩:=ZaT h;have e:ZbX P S t u1 u2 ok=ZbX P σ t u1 u2 ok:=Zf3 (S:=⟨σ.next,σ.low,S.heap⟩) hA fun x hx=>hx;rw [e,h3];rfl
  ·cases h
theorem memb_iff {l:List Nat} {x:Nat}:memb l x=true↔x∈l:=by
 refine ⟨ZgY,fun h=>?_⟩;unfold memb;rw [List.any_eq_true];exact ⟨x,h,Nat.beq_refl x⟩
theorem Run.of (hcm:ZbI callf) {sj:List Nat} {fS:Nat→Bool} (st:Static ops) (at_:∀k o,ops.toList[k]?=some o→At P G callf n ops rS sS vS fS k o)
  (hok:Zdz P G callf ops (Zbp ops) ops.size sj ((List.range ops.size).map fun i=>⟨sS i,rS i,vS i,fS i⟩) (sS ops.size)=true) :
  ∃fp,Run P G callf n ops sj rS sS vS fS fp:=by
 generalize hL:((List.range ops.size).map fun i=>(⟨sS i,rS i,vS i,fS i⟩:Ent))=L at hok;have hLk:∀m,m<ops.size→L[m]?=some ⟨sS m,rS m,vS m,fS m⟩:=fun m hm=>by
  rw [←hL,List.getElem?_map,List.getElem?_range hm];rfl
 have hN:∀m,m≤ops.size→Zcj L (sS ops.size) m=sS m:=fun m hm=>by
  unfold Zcj;rcases Nat.lt_or_ge m ops.size with h|h
  ·rw [hLk m h]
  ·obtain rfl:m=ops.size:=by omega
   rw [zV (by rw [←hL];simp)]
 have hlt:∀{k:Nat} {o:Oper},ops.toList[k]?=some o→k<ops.size:=fun ho=>by have:=(zE.1 ho).1;simpa using this
 let fp:Nat→Option (List Nat):=fun k=>ZcR P G ops sj L k
 have fpk:∀k o,ops.toList[k]?=some o→fp k=bite (ZbJ P ops sj k||!aWanted ops (rS k) o) (some []) (fpOf P G (rS k) o.op):=fun k o ho=>by
  have ho':ops[k]?=some o:=by simpa using ho
  show ZcR P G ops sj L k=_;unfold ZcR;rw [ho',hLk k (hlt ho)]
 unfold Zdz at hok;rw [Bool.and_eq_true,Zab] at hok;have hwr:∀k,k<ops.size→Zih L k=fS k:=fun k hk=>by unfold Zih;rw [hLk k hk]
 have hmono:∀k,k<ops.size→AMono (sS k) (sS (k+1)):=fun k hk=>by
  obtain ⟨o,ho⟩:=Zfa hk;have A:=at_ k o ho;cases hw:aWanted ops (rS k) o with
  | true=>obtain ⟨s1,h1,h0,h3⟩:=A.yes hw;rw [h3];exact Zgf (Zcq hcm h1)
  | false=>rw [(A.no hw).2.1];exact AMono.refl _
 have hq:∀k j,k<ops.size→j<ops.size→fS k=true→j≠k→Zbu (Zbp ops) k j=true∨Zbu (Zbp ops) j k=true∨ZdB P G ops sj L (sS ops.size) k j=true:=fun k j hk hj hf hne=>by
  have hany:L.any (·.f)=true:=by
   rw [List.any_eq_true];exact ⟨_,zF (hLk k hk),hf⟩
  have h1:=hok.1;rw [if_pos hany] at h1;unfold Zlc at h1;have h2:=List.all_eq_true.1 h1 k (List.mem_range.2 hk);rw [hwr k hk,hf] at h2;simp only [Bool.not_true,Bool.false_or] at h2;have h3:=List.all_eq_true.1 h2 j (List.mem_range.2 hj);simp only [Bool.or_eq_true] at h3;rcases h3 with ((h3|h3)|h3)|h3
  ·exact absurd (zK h3) hne
  ·exact .inl h3
  ·exact .inr (.inl h3)
  ·exact .inr (.inr h3)
 have hstd:∀k o,ops.toList[k]?=some o→memb sj k=true→ZcE P G callf ops (Zbp ops) ops.size sj L (sS ops.size) k=true:=fun k o ho hm=>List.all_eq_true.1 hok.2 k (ZgY hm);have hsto:∀k o,ops.toList[k]?=some o→memb sj k=true→Zck o.op=true:=fun k o ho hm=>by
  have h1:=hstd k o ho hm;have ho':ops[k]?=some o:=by simpa using ho
  unfold ZcE at h1;rw [hLk k (hlt ho),ho'] at h1;simp only [Bool.and_eq_true] at h1;exact h1.1
 have hstill:∀k o,ops.toList[k]?=some o→(ZbJ P ops sj k=true∨aWanted ops (rS k) o=false)→fS k=false∧sS (k+1)=(sS k).merge (sS k).reset∨fS k=false∧sS (k+1)=sS k:=fun k o ho h=>by
  have A:=at_ k o ho;cases hw:aWanted ops (rS k) o with
  | true=>
   obtain ⟨s1,h1,h0,h3⟩:=A.yes hw;have h:=h.resolve_right (by rw [hw];simp)
   have e:s1=(sS k).reset:=by
    unfold ZbJ at h;rw [Bool.or_eq_true] at h;rcases h with h|h
    ·have hbo:Zc1 P o.op=true:=by
      unfold ZhT at h;have ho':ops[k]?=some o:=by simpa using ho
      rw [ho'] at h;exact h
     exact ZiH hbo h1
    ·exact Zij (hsto k o ho h) h1
   refine .inl ⟨?_,by rw [h3,e]⟩
   rw [h0,e];simp [AS.reset]
  | false=>exact .inr ⟨(A.no hw).2.2,(A.no hw).2.1⟩
 refine ⟨fp,st,at_,hmono,fpk,?_,?_,?_,?_⟩
 ·intro k o ho h;rcases hstill k o ho h with ⟨h1,h2⟩|⟨h1,h2⟩
  ·exact ⟨h1,by rw [h2];rfl⟩
  ·exact ⟨h1,by rw [h2]⟩
 ·intro k x hk hx hnw;refine Classical.byContradiction fun hch=>hch ?_
  replace hnw:¬Wn sS fS fp k x:=fun h=>hnw ⟨h.1,h.2.1,h.2.2,hch⟩
  obtain ⟨o,ho⟩:=Zfa hk;have A:=at_ k o ho;by_cases hst:ZbJ P ops sj k=true∨aWanted ops (rS k) o=false
  ·rcases hstill k o ho hst with ⟨_,h2⟩|⟨_,h2⟩<;>rw [h2]<;>rfl
  ·have h1:ZbJ P ops sj k=false:=by
    cases h:ZbJ P ops sj k with
    | true=>exact absurd (.inl h) hst
    | false=>rfl
   have h2:aWanted ops (rS k) o=true:=by
    cases h:aWanted ops (rS k) o with
    | true=>rfl
    | false=>exact absurd (.inr h) hst
   obtain ⟨s1,hs1,h0,h3⟩:=A.yes h2;rw [h3,Zb3];cases hf:fS k with
   | false=>
    have hb:Nat.ble (sS k).next s1.low=true:=by
     rw [h0] at hf;simpa using hf
    exact (Zcq hcm hs1).keep x hx (zC hx (zD hb))
   | true=>
    have hfk:=fpk k o ho;rw [h1,h2] at hfk;have hfk:fp k=fpOf P G (rS k) o.op:=hfk;cases hF:fp k with
    | none=>exact absurd ⟨hf,hx,fun l hl=>by rw [hF] at hl;cases hl⟩ hnw
    | some F=>
     rw [hF] at hfk;obtain ⟨S1,_,M⟩:=Zix hfk.symm hs1 (S:=(sS k).reset) ⟨rfl,rfl,fun _ _=>rfl⟩;refine (M.rest x (fun hm=>hnw ⟨hf,hx,fun l hl=>?_⟩) hx).1;rw [hF] at hl;cases hl;exact hm
 ·intro k j hk hj hne;cases hf:fS k with
  | false=>exact .inr (.inr fun x hx=>by have:=hx.1;rw [hf] at this;cases this)
  | true=>
   rcases hq k j hk hj hf hne with h|h|h
   ·exact .inl h
   ·exact .inr (.inl h)
   ·refine .inr (.inr fun x hx=>?_);unfold ZdB at h;split at h
    ·rename_i hF;have:=hx.2.2 _ hF;simp at this
    ·rename_i y t F hF hF2;have hxy:x=y:=by have:=hx.2.2 _ hF;simpa using this
     subst hxy;simp only [Bool.and_eq_true,Bool.not_eq_true',Bool.and_eq_false_iff] at h;refine ⟨fun hr=>?_,fun _ ⟨h1,h2⟩=>?_⟩
     ·have:=memb_iff.2 (hr F hF2);rw [h.1] at this;cases this
     ·rw [hN j (by omega),hN (j+1) (by omega)] at h
      rcases h.2 with h3|h3
      ·rw [Nat.ble_eq_true_of_le h1] at h3;cases h3
      ·rw [show Nat.blt x (sS (j+1)).next=true from by rw [Nat.blt_eq];exact h2] at h3;cases h3
    ·rename_i hF hF2;refine ⟨fun hr=>(nomatch hr _ hF2),fun hch ⟨h1,h2⟩=>?_⟩;simp only [Bool.or_eq_true,Nat.blt_eq,Nat.beq_eq] at h;rcases h with h|h|h
     ·have hkj:(sS k).next≤(sS j).next:=by
       have:∀i,k≤i→i≤ops.size→(sS k).next≤(sS i).next:=fun i hki=>by
        induction hki with
        | refl=>intro _;exact zA _
        | step _ ih=>intro hi;exact zB (ih (by omega)) (hmono _ (by omega)).nxt
       exact this j (by omega) (by omega)
      have:=hx.2.1;omega
     ·rw [hN j (by omega),hN (j+1) (by omega)] at h
      omega
     ·simp only [ZpA,decide_eq_true_eq] at h;rw [hN j (by omega),hN (j+1) (by omega),hN k (by omega),hN (k+1) (by omega)] at h
      exact hch (h x h1 h2)
    ·cases h
    ·cases h
 ·intro k o ho hmem;have hk:=hlt ho;have ho':ops[k]?=some o:=by simpa using ho
  have h1:=hstd k o ho hmem;unfold ZcE at h1;rw [hLk k hk,ho'] at h1;simp only [Bool.and_eq_true,Bool.or_eq_true,Bool.not_eq_true'] at h1;refine ⟨h1.1,fun hw=>?_⟩;have h2:=h1.2.resolve_left (by rw [hw];simp)
  refine ⟨h2.1,?_⟩;have h3:=h2.2;split at h3
  ·rename_i hF;exact ⟨_,hF,.inl rfl⟩
  ·rename_i x hF;refine ⟨_,hF,.inr ⟨x,rfl,fun m hm hxm hq1 hq2=>?_⟩⟩;have h4:=List.all_eq_true.1 h3 m (List.mem_range.2 (by omega))
   rw [Bool.or_eq_true] at h4;have hwrAt:∀q,q<ops.size→wrAt P G ops sj L (sS ops.size) q x=true→Wn sS fS fp q x:=fun q hq h=>by
    unfold wrAt at h;simp only [Bool.and_eq_true,Nat.blt_eq] at h;rw [hwr q hq,hN q (by omega)] at h
    refine ⟨h.1.1,h.1.2,fun l hl=>?_⟩;have h5:=h.2;have hl:ZcR P G ops sj L q=some l:=hl;rw [hl] at h5;unfold ZmO at h5;cases l with
    | nil=>cases h5
    | cons y t=>simp only [Nat.beq_eq] at h5;simp [h5]
   have hnp:Zin P G ops (Zbp ops) ops.size sj L (sS ops.size) k m x=false:=by
    unfold Zin;rw [Bool.or_eq_false_iff,Bool.or_eq_false_iff];refine ⟨⟨?_,?_⟩,?_⟩
    ·rw [hN m hm];cases h5:Nat.ble (sS m).next x with
     | false=>rfl
     | true=>have:=zD h5;omega
    ·rw [List.any_eq_false];intro q hqr;rw [List.mem_range] at hqr;simp only [Bool.and_eq_true,Nat.ble_eq,not_and,Bool.not_eq_true];intro h5;cases h6:wrAt P G ops sj L (sS ops.size) q x with
     | false=>rfl
     | true=>have:=hq1 q hqr h5.1 (hwrAt q hqr h6);omega
    ·rw [List.any_eq_false];intro q hqr;rw [List.mem_range] at hqr;simp only [Bool.and_eq_true,not_and,Bool.not_eq_true];intro h5;cases h6:wrAt P G ops sj L (sS ops.size) q x with
     | false=>rfl
     | true=>exact absurd (hwrAt q (by omega) h6) (hq2 q hqr h5)
   rw [hnp] at h4;have h6:=h4.resolve_left (by simp)
   rw [hN m hm] at h6;unfold Zk9 at h6;split at h6
   ·rename_i u s1 hu;exact ⟨s1,by rw [hu,Zgv _ _ _ h6]⟩
   ·cases h6
  ·cases h3
section run
variable (T:Run P G callf n ops sj rS sS vS fS fp)
include T
theorem Run.next_le {i j:Nat} (hij:i≤j) (hj:j≤ops.size):(sS i).next≤(sS j).next:=by
 induction hij with
 | refl=>exact zA _
 | step _ ih=>exact zB (ih (by omega)) (T.mono _ (by omega)).nxt
theorem Run.monos {i j:Nat} (hij:i≤j) (hj:j≤ops.size):AMono (sS i) (sS j):=by
 induction hij with
 | refl=>exact AMono.refl _
 | step _ ih=>exact (ih (by omega)).trans (T.mono _ (by omega))
theorem Run.keeps {i m x:Nat} (him:i≤m) (hm:m≤ops.size) (hx:x<(sS i).next) (hb:∀j,i≤j→j<m→¬Wr sS fS fp j x):(sS m).get x=(sS i).get x:=by
 induction him with
 | refl=>rfl
 | step h ih=>
  rw [T.unch _ x (by omega) (zC hx (T.next_le h (by omega))) (hb _ h (zG _)),ih (by omega) (fun j h1 h2=>hb j h1 (by omega))]
theorem Run.reg_writer {j k:Nat} {o:Oper} {t:Tmp} (ho:ops.toList[j]?=some o) (hd:o.dst=some t) (hjk:j<k) (hk:k≤ops.size):rget (rS k) t=vS j:=by
 induction k with
 | zero=>omega
 | succ k ih=>
  obtain ⟨ok,hok⟩:=Zfa (ops:=ops) (k:=k) (by omega)
  have hp:=(T.at_ k ok hok).put;by_cases e:k=j
  ·subst e;obtain rfl:o=ok:=by rw [ho] at hok;exact Option.some.inj hok
   rw [hd] at hp;simp only [aPut,Zab] at hp;split at hp
   ·rw [←Option.some.inj hp,rget_rput,if_pos rfl]
   ·cases hp
  ·have hne:ok.dst≠some t:=fun h=>e (T.st.uniq j o k ok t ho hok hd h);rw [←ih (by omega) (by omega)]
   cases hdk:ok.dst with
   | none=>rw [hdk] at hp;rw [←Option.some.inj hp]
   | some d=>
    rw [hdk] at hp;simp only [aPut,Zab] at hp;split at hp
    ·rw [←Option.some.inj hp,rget_rput,if_neg (fun h=>hne (by rw [hdk,h]))]
    ·cases hp
theorem Run.reg_rest {k:Nat} {t:Tmp} (h:∀(j:Nat) (o:Oper),j<k→ops.toList[j]?=some o→o.dst≠some t) (hk:k≤ops.size):rget (rS k) t=rget (rS 0) t:=by
 induction k with
 | zero=>rfl
 | succ k ih=>
  obtain ⟨ok,hok⟩:=Zfa (ops:=ops) (k:=k) (by omega)
  have hp:=(T.at_ k ok hok).put;rw [←ih (fun j o hj=>h j o (by omega)) (by omega)]
  cases hdk:ok.dst with
  | none=>rw [hdk] at hp;rw [←Option.some.inj hp]
  | some d=>
   rw [hdk] at hp;simp only [aPut,Zab] at hp;split at hp
   ·rw [←Option.some.inj hp,rget_rput,if_neg (fun e=>h k ok (zG _) hok (by rw [hdk,e]))]
   ·cases hp
end run
theorem Ze9 (st:Static ops) {k j:Nat} {o:Oper} (ho:ops.toList[k]?=some o) (hj:Zbu (Zbp ops) k j=true):j<k:=
 Zc5 (D:=fun x=>x<k) (fun x ox hx hlt e he=>Nat.lt_trans (st.back x ox hx e he) hlt) ho (fun e he=>st.back k o ho e he) hj
def Cur (N:Nat) (sS:Nat→AS) (fS:Nat→Bool) (fp:Nat→Option (List Nat)) (D:Nat→Prop) (x k:Nat):Prop:=
 k≤N∧x<(sS k).next∧(∀j,j<k→Wr sS fS fp j x→D j)∧(∀j,k≤j→j<N→Wr sS fS fp j x→¬D j)
def CurN (N:Nat) (sS:Nat→AS) (fS:Nat→Bool) (fp:Nat→Option (List Nat)) (D:Nat→Prop) (x k:Nat):Prop:=
 k≤N∧x<(sS k).next∧(∀j,j<k→Wn sS fS fp j x→D j)∧(∀j,k≤j→j<N→Wn sS fS fp j x→¬D j)
theorem CurN.cur {N:Nat} {D:Nat→Prop} {x k:Nat} (h:CurN N sS fS fp D x k):Cur N sS fS fp D x k:=
 ⟨h.1,h.2.1,fun j hj hw=>h.2.2.1 j hj hw.wn,fun j h1 h2 hw=>h.2.2.2 j h1 h2 hw.wn⟩
open Classical in
noncomputable def Zqj (N:Nat) (sS:Nat→AS) (fS:Nat→Bool) (fp:Nat→Option (List Nat)) (D:Nat→Prop) (x:Nat):Nat:=if h:∃k,Cur N sS fS fp D x k then Classical.choose h else 0
noncomputable def mix (N:Nat) (sS:Nat→AS) (fS:Nat→Bool) (fp:Nat→Option (List Nat)) (D:Nat→Prop):AS:=
 ⟨(sS N).next,(sS N).low,Zhs (fun x=>(sS (Zqj N sS fS fp D x)).get x) (sS N).next⟩
def Closed (ops:Array Oper) (D:Nat→Prop):Prop:=∀k o,ops.toList[k]?=some o→D k→∀e∈bindsOn o,D e
theorem Closed.pred {D:Nat→Prop} (h:Closed ops D) {k j:Nat} (hk:k<ops.size) (hd:D k) (hj:Zbu (Zbp ops) k j=true):D j:=by
 obtain ⟨o,ho⟩:=Zfa hk;exact Zc5 h ho (h k o ho hd) hj
section mixes
variable (T:Run P G callf n ops sj rS sS vS fS fp) {D:Nat→Prop}
include T
theorem Run.cur_le {x k k':Nat} (h:Cur ops.size sS fS fp D x k) (h':Cur ops.size sS fS fp D x k') (hkk:k≤k'):(sS k').get x=(sS k).get x:=
 T.keeps hkk h'.1 h.2.1 fun j h1 h2 hw=>h.2.2.2 j h1 (zC h2 h'.1) hw (h'.2.2.1 j h2 hw)
theorem Run.mix_get {x k:Nat} (h:Cur ops.size sS fS fp D x k):(mix ops.size sS fS fp D).get x=(sS k).get x:=by
 have hex:∃k,Cur ops.size sS fS fp D x k:=⟨k,h⟩;have hlt:x<(sS ops.size).next:=zC h.2.1 (T.next_le h.1 (zA _));show hget (Zhs _ _) x=_;rw [Zls,if_pos hlt];have hc:Cur ops.size sS fS fp D x (Zqj ops.size sS fS fp D x):=by
  unfold Zqj;rw [dif_pos hex];exact Classical.choose_spec hex
 rcases Nat.le_total (Zqj ops.size sS fS fp D x) k with h1|h1
 ·exact (T.cur_le hc h h1).symm
 ·exact T.cur_le h hc h1
theorem Run.curN_exists (hcl:Closed ops D) {x:Nat} (hx:x<(sS ops.size).next):∃k,CurN ops.size sS fS fp D x k:=by
 by_cases h:∃k,k<ops.size∧¬¬(¬D k∧Wn sS fS fp k x)
 ·obtain ⟨k,h1,h2,h3⟩:=Zru (p:=fun k=>¬(¬D k∧Wn sS fS fp k x)) h;have h2:¬D k∧Wn sS fS fp k x:=Classical.not_not.1 h2;refine ⟨k,Nat.le_of_lt h1,h2.2.2.1,fun j hj hw=>?_,fun j hj hjN hw hD=>?_⟩
  ·exact Classical.byContradiction fun hd=>h3 j hj ⟨hd,hw⟩
  ·have hne:j≠k:=fun e=>h2.1 (e▸hD);rcases T.conf k j h1 hjN hne with hp|hp|hp
   ·obtain ⟨ok,hok⟩:=Zfa h1;have:=Ze9 T.st hok hp;omega
   ·exact h2.1 (hcl.pred hjN hD hp)
   ·exact (hp x h2.2).1 hw.rd
 ·refine ⟨ops.size,zA _,hx,fun j hj hw=>?_,fun j hj hjN=>by omega⟩
  exact Classical.byContradiction fun hd=>h ⟨j,hj,fun hn=>hn ⟨hd,hw⟩⟩
theorem Run.cur_exists (hcl:Closed ops D) {x:Nat} (hx:x<(sS ops.size).next):∃k,Cur ops.size sS fS fp D x k:=
 let ⟨k,h⟩:=T.curN_exists hcl hx
 ⟨k,h.cur⟩
theorem Run.cur_ready (hcl:Closed ops D) {k:Nat} {o:Oper} (ho:ops.toList[k]?=some o) (hnd:¬D k) (hready:∀e∈bindsOn o,D e) {x:Nat} (hx:x<(sS k).next) (hr:Rd fp k x):Cur ops.size sS fS fp D x k:=by
 have hk:k<ops.size:=by have:=(zE.1 ho).1;simpa using this
 refine ⟨Nat.le_of_lt hk,hx,fun j hj hw=>?_,fun j hj hjN hw hD=>?_⟩
 ·rcases T.conf j k (by omega) hk (by omega) with hp|hp|hp
  ·obtain ⟨oj,hoj⟩:=Zfa (ops:=ops) (k:=j) (by omega)
   have:=Ze9 T.st hoj hp;omega
  ·exact Zc5 hcl ho hready hp
  ·exact absurd hr (hp x hw.wn).1
 ·have hne:j≠k:=fun e=>hnd (e▸hD);rcases T.conf j k hjN hk (fun e=>hne e.symm) with hp|hp|hp
  ·exact hnd (hcl.pred hjN hD hp)
  ·have:=Ze9 T.st ho hp;omega
  ·exact (hp x hw.wn).1 hr
omit T in
theorem Zkt {k x c:Nat} (h:Cur ops.size sS fS fp D x c) (hw:¬Wr sS fS fp k x):Cur ops.size sS fS fp (fun y=>D y∨y=k) x c:=
 ⟨h.1,h.2.1,fun j hj hwj=>.inl (h.2.2.1 j hj hwj),fun j hj hjN hwj hD=>by
  rcases hD with hD|rfl
  ·exact h.2.2.2 j hj hjN hwj hD
  ·exact hw hwj⟩
theorem Run.cur_step (hcl:Closed ops D) {k:Nat} {o:Oper} (ho:ops.toList[k]?=some o) (hnd:¬D k) (hready:∀e∈bindsOn o,D e) {x:Nat}
  (hx:Wr sS fS fp k x∨((sS k).next≤x∧x<(sS (k+1)).next)):Cur ops.size sS fS fp (fun y=>D y∨y=k) x (k+1):=by
 have hk:k<ops.size:=by have:=(zE.1 ho).1;simpa using this
 rcases hx with hx|hx
 ·have h:=T.cur_ready hcl ho hnd hready hx.2.1 hx.rd;refine ⟨hk,zC hx.2.1 (T.mono k hk).nxt,fun j hj hw=>?_,fun j hj hjN hw hD=>?_⟩
  ·rcases Nat.lt_or_ge j k with hlt|hge
   ·exact .inl (h.2.2.1 j hlt hw)
   ·exact .inr (by omega)
  ·rcases hD with hD|hD
   ·exact h.2.2.2 j (by omega) hjN hw hD
   ·omega
 ·refine ⟨hk,hx.2,fun j hj hw=>?_,fun j hj hjN hw hD=>?_⟩
  ·have h1:=hw.2.1;have:=T.next_le (i:=j) (j:=k) (by omega) (Nat.le_of_lt hk)
   omega
  ·rcases hD with hD|hD
   ·rcases T.conf j k hjN hk (by omega) with hp|hp|hp
    ·exact hnd (hcl.pred hjN hD hp)
    ·have:=Ze9 T.st ho hp;omega
    ·exact (hp x hw.wn).2 hw.2.2.2 hx
   ·omega
end mixes
structure DInv (P:Program) (G:Nat) (n:Nat) (ops:Array Oper) (ds:List Deferred) (fS:Nat→Bool) (fp:Nat→Option (List Nat)) (ρ:Ren) (w0:World) (rS:Nat→Regs) (sS:Nat→AS) (vS:Nat→Value) (D:Nat→Prop) (π:Ren) (a:Act) (w:World):Prop where
 closed:Closed ops D
 sim:Sim G ρ (sS 0) w0 π (mix ops.size sS fS fp D) w
 gap:∀i b,π.bl i=some b→∀k,k<ops.size→¬D k→¬((sS k).next≤i∧i<(sS (k+1)).next)
 size:a.tmps.size=n
 defers:a.defers=ds
 rest:∀t,(∀(k:Nat) (o:Oper),ops.toList[k]?=some o→D k→o.dst≠some t)→VRel (π.below (sS 0).next) (rget (rS 0) t) (a.tmps.getD t undef)
 done:∀(k:Nat) (o:Oper) (t:Tmp),ops.toList[k]?=some o→D k→o.dst=some t→VRel (π.below (sS (k+1)).next) (vS k) (a.tmps.getD t undef)
 known:∀x b k,k≤ops.size→π.bl x=some b→x<(sS k).next→(∀j,j<ops.size→D j→Wr sS fS fp j x→j<k)→BSc (π.below (sS k).next) ((mix ops.size sS fS fp D).get x)
section inv
variable {D:Nat→Prop} {π:Ren} {a:Act} {w:World}
theorem DInv.reg (T:Run P G callf n ops sj rS sS vS fS fp) (I:DInv P G n ops ds fS fp ρ w0 rS sS vS D π a w) {k:Nat} {o:Oper}
  (ho:ops.toList[k]?=some o) (hnd:¬D k) (hb:∀e∈bindsOn o,D e) {t:Tmp} (ht:t∈o.looksAt ops):VRel (π.below (sS k).next) (rget (rS k) t) (a.tmps.getD t undef):=by
 have hk:k<ops.size:=by have:=(zE.1 ho).1;simpa using this
 by_cases h:∃(j:Nat) (o':Oper),ops.toList[j]?=some o'∧o'.dst=some t
 ·obtain ⟨j,o',hj,hd⟩:=h;have hjl:j<ops.size:=by have:=(zE.1 hj).1;simpa using this
  by_cases hp:Zbu (Zbp ops) k j=true
  ·have hlt:=Ze9 T.st ho hp;rw [T.reg_writer hj hd hlt (by omega)]
   exact (I.done j o' t hj (Zc5 I.closed ho hb hp) hd).ext (Ren.below_mono (Ren.le_refl π) (T.next_le (by omega) (by omega)))
  ·have hkj:k≤j∧¬D j:=by
    rcases T.st.reads k o t j o' ho ht hj hd with h1|h1|h1
    ·exact absurd h1 hp
    ·exact ⟨Nat.le_of_lt (Ze9 T.st hj h1),fun hD=>hnd (I.closed.pred hjl hD h1)⟩
    ·subst h1;exact ⟨zA _,hnd⟩
   rw [T.reg_rest (fun x ox hx hox he=>by have:=T.st.uniq j o' x ox t hj hox hd he;omega) (by omega)]
   refine (I.rest t fun x ox hox hD he=>?_).ext (Ren.below_mono (Ren.le_refl π) (T.next_le (zH _) (by omega)))
   have:=T.st.uniq j o' x ox t hj hox hd he;subst this;exact hkj.2 hD
 ·have h':∀(j:Nat) (o':Oper),ops.toList[j]?=some o'→o'.dst≠some t:=fun j o' hj hd=>h ⟨j,o',hj,hd⟩;rw [T.reg_rest (fun j o' _=>h' j o') (by omega)]
  exact (I.rest t fun j o' hj _=>h' j o' hj).ext (Ren.below_mono (Ren.le_refl π) (T.next_le (zH _) (by omega)))
theorem DInv.stepR (T:Run P G callf n ops sj rS sS vS fS fp) (I:DInv P G n ops ds fS fp ρ w0 rS sS vS D π a w) {k:Nat} {o:Oper} (ho:ops.toList[k]?=some o) (hready:∀e∈bindsOn o,D e)
  (hf:fS k=false) (hnx:(sS (k+1)).next=(sS k).next) {v':Value} (hv:VRel (π.below (sS k).next) (vS k) v') (hdst:∀d,o.dst=some d→d<n) :
  DInv P G n ops ds fS fp ρ w0 rS sS vS (fun x=>D x∨x=k) π (a.put o.dst v') w:=by
 have hk:k<ops.size:=by have:=(zE.1 ho).1;simpa using this
 have hnw:∀x,¬Wr sS fS fp k x:=fun x h=>by have:=h.1;rw [hf] at this;cases this
 have hmix:∀x,x<(sS ops.size).next→(mix ops.size sS fS fp fun x=>D x∨x=k).get x=(mix ops.size sS fS fp D).get x:=fun x hx=>by
  obtain ⟨c,hc⟩:=T.cur_exists I.closed hx;rw [T.mix_get hc,T.mix_get (Zkt hc (hnw x))]
 exact {
  closed:=fun x ox hx hd e he=>by
   rcases hd with hd|rfl
   ·exact .inl (I.closed x ox hx hd e he)
   ·obtain rfl:ox=o:=by rw [ho] at hx;exact (Option.some.inj hx).symm
    exact .inl (hready e he)
  sim:=Sim.congr (σ1:=mix ops.size sS fS fp D) rfl rfl hmix I.sim
  gap:=fun i b hi x hx hd=>I.gap i b hi x hx fun h=>hd (.inl h)
  size:=by rw [ZcC];exact I.size
  defers:=by rw [ZbT];exact I.defers
  rest:=fun t ht=>by
   have e:(a.put o.dst v').tmps.getD t undef=a.tmps.getD t undef:=by
    cases hd:o.dst with
    | none=>rfl
    | some d=>rw [ZdP (by rw [I.size];exact hdst d hd),if_neg (fun e=>ht k o ho (.inr rfl) (by rw [hd,e]))]
   rw [e];exact I.rest t fun x ox hx hD=>ht x ox hx (.inl hD)
  done:=fun x ox t hx hd ht=>by
   by_cases e:x=k
   ·subst e;obtain rfl:ox=o:=by rw [ho] at hx;exact (Option.some.inj hx).symm
    rw [ht,ZdP (by rw [I.size];exact hdst t ht),if_pos rfl,hnx]
    exact hv
   ·have hd':=hd.resolve_right e;have e2:(a.put o.dst v').tmps.getD t undef=a.tmps.getD t undef:=by
     cases hdo:o.dst with
     | none=>rfl
     | some d=>rw [ZdP (by rw [I.size];exact hdst d hdo),if_neg (fun e3=>e (T.st.uniq k o x ox t ho hx (by rw [hdo,e3]) ht))]
    rw [e2];exact I.done x ox t hx hd' ht
  known:=fun x b m hm hb hx hj=>by
   rw [hmix x (zC hx (T.next_le hm (zA _)))];exact I.known x b m hm hb hx fun j h1 h2 h3=>hj j h1 (.inl h2) h3 }
theorem DInv.sees (T:Run P G callf n ops sj rS sS vS fS fp) (I:DInv P G n ops ds fS fp ρ w0 rS sS vS D π a w) {k:Nat} {o:Oper} (ho:ops.toList[k]?=some o) (hnd:¬D k) (hready:∀e∈bindsOn o,D e)
  {S:AS} (hS:S.next=(sS k).next) (hget:∀x,x<(sS k).next→Rd fp k x→S.get x=(sS k).get x) (hdead:∀x,x<(sS k).next→¬Rd fp k x→(S.get x).kind=0):R G (π.below (sS k).next) S w:=by
 have hk:k<ops.size:=by have:=(zE.1 ho).1;simpa using this
 refine ⟨fun i b hi=>?_,fun i j b hi hj ki kj=>?_,fun g hg=>?_,?_⟩
 ·obtain ⟨h1,h2⟩:=below_iff.1 hi;obtain ⟨_,o',ho',hb⟩:=I.sim.rel.blk i b h2;refine ⟨by rw [hS];exact h1,o',ho',?_⟩
  by_cases hr:Rd fp k i
  ·have hc:=T.cur_ready I.closed ho hnd hready h1 hr;have hkn:=I.known i b k (Nat.le_of_lt hk) h2 h1 fun j hj hD hw=>by
    rcases Nat.lt_or_ge j k with h|h
    ·exact h
    ·exact absurd hD (hc.2.2.2 j h hj hw)
   rw [T.mix_get hc] at hb hkn;rw [hget i h1 hr];exact hb.back (Ren.below_le π _) rfl hkn
  ·unfold BRel;rw [hdead i h1 hr];trivial
 ·obtain ⟨h1,h2⟩:=below_iff.1 hi;obtain ⟨h3,h4⟩:=below_iff.1 hj;have hri:Rd fp k i:=Classical.byContradiction fun h=>ki (hdead i h1 h);have hrj:Rd fp k j:=Classical.byContradiction fun h=>kj (hdead j h3 h);refine I.sim.rel.inj i j b h2 h4 ?_ ?_
  ·rw [T.mix_get (T.cur_ready I.closed ho hnd hready h1 hri),←hget i h1 hri];exact ki
  ·rw [T.mix_get (T.cur_ready I.closed ho hnd hready h3 hrj),←hget j h3 hrj];exact kj
 ·exact below_iff.2 ⟨zC hg (zB I.sim.base.globN (T.next_le (zH _) (Nat.le_of_lt hk))),I.sim.rel.glob g hg⟩
 ·rw [hS];exact zB I.sim.base.globN (T.next_le (zH _) (Nat.le_of_lt hk))
theorem DInv.stepX (T:Run P G callf n ops sj rS sS vS fS fp) (I:DInv P G n ops ds fS fp ρ w0 rS sS vS D π a w) {k:Nat} {o:Oper} (ho:ops.toList[k]?=some o) (hnd:¬D k) (hready:∀e∈bindsOn o,D e)
  {S S1:AS} {τ:Ren} {w':World} {v':Value} (hsim:Sim G (π.below (sS k).next) S w τ S1 w') (hS:S.next=(sS k).next) (hS1:S1.next=(sS (k+1)).next)
  (hget:∀x,x<(sS k).next→Rd fp k x→S.get x=(sS k).get x∧S1.get x=(sS (k+1)).get x) (hdead:∀x,x<(sS k).next→¬Rd fp k x→(S.get x).kind=0)
  (hmade:∀x,(sS k).next≤x→x<(sS (k+1)).next→S1.get x=(sS (k+1)).get x) (hlw:(sS (k+1)).low≤S1.low) (hv:VRel τ (vS k) v') (hdst:∀d,o.dst=some d→d<n) :
  ∃π',DInv P G n ops ds fS fp ρ w0 rS sS vS (fun x=>D x∨x=k) π' (a.put o.dst v') w':=by
 have hks:k<ops.size:=by have:=(zE.1 ho).1;simpa using this
 have hlo:(sS k).next≤(sS (k+1)).next:=T.next_le (Nat.le_succ _) hks;have hhm:(sS (k+1)).next≤(sS ops.size).next:=T.next_le hks (zA _);have M:=T.mono k hks
 let Mo:=mix ops.size sS fS fp D
 let Mn:=mix ops.size sS fS fp fun x=>D x∨x=k
 have hMo:∀x,x<(sS k).next→Rd fp k x→Mo.get x=(sS k).get x:=fun x hx hr=>T.mix_get (T.cur_ready I.closed ho hnd hready hx hr);have hMw:∀x,Wr sS fS fp k x→Mn.get x=(sS (k+1)).get x:=fun x hx=>T.mix_get (T.cur_step I.closed ho hnd hready (.inl hx));have hMm:∀x,(sS k).next≤x→x<(sS (k+1)).next→Mn.get x=(sS (k+1)).get x:=fun x h1 h2=>T.mix_get (T.cur_step I.closed ho hnd hready (.inr ⟨h1,h2⟩));have hMr:∀x,x<(sS ops.size).next→¬Wr sS fS fp k x→Mn.get x=Mo.get x:=fun x hx hw=>by
  obtain ⟨c,hc⟩:=T.cur_exists I.closed hx;show (mix _ _ _ _ _).get x=(mix _ _ _ _ _).get x;rw [T.mix_get hc,T.mix_get (Zkt hc hw)]
 have hdd:∀x,x<(sS ops.size).next→(Mo.get x).kind=0→(Mn.get x).kind=0:=fun x hx h=>by
  by_cases hw:Wr sS fS fp k x
  ·rw [hMw x hw];rw [hMo x hw.2.1 hw.rd] at h;exact M.dead x hw.2.1 h
  ·rw [hMr x hx hw];exact h
 have hMn:∀x,x<(sS k).next→Rd fp k x→Mn.get x=S1.get x:=fun x hx hr=>by
  rw [(hget x hx hr).2];by_cases hw:Wr sS fS fp k x
  ·exact hMw x hw
  ·rw [hMr x (by omega) hw,hMo x hx hr,T.unch k x hks hx hw]
 have hMn0:∀x,¬((sS k).next≤x∧x<(sS (k+1)).next)→x<(sS ops.size).next→¬(x<(sS k).next∧Rd fp k x)→Mn.get x=Mo.get x:=fun x h1 h2 h3=>hMr x h2 fun hw=>h3 ⟨hw.2.1,hw.rd⟩
 let π':Ren:=⟨fun i=>if (sS k).next≤i∧i<(sS (k+1)).next then τ.bl i else π.bl i,fun i=>if (sS k).next≤i∧i<(sS (k+1)).next then τ.sz i else π.sz i⟩
 have bl_in:∀i,(sS k).next≤i∧i<(sS (k+1)).next→π'.bl i=τ.bl i∧π'.sz i=τ.sz i:=fun i hi=>⟨if_pos hi,if_pos hi⟩;have bl_out:∀i,¬((sS k).next≤i∧i<(sS (k+1)).next)→π'.bl i=π.bl i∧π'.sz i=π.sz i:=fun i hi=>⟨if_neg hi,if_neg hi⟩;have le1:π.le π':=fun i b hi=>by
  obtain ⟨e1,e2⟩:=bl_out i (I.gap i b hi k hks hnd);exact ⟨by rw [e1];exact hi,e2⟩
 have hπlt:∀i b,π.bl i=some b→i<(sS ops.size).next:=fun i b hi=>(I.sim.rel.blk i b hi).1;have hτlt:∀i b,τ.bl i=some b→i<(sS (k+1)).next:=fun i b hi=>by rw [←hS1];exact (hsim.rel.blk i b hi).1
 have hτold:∀i b,τ.bl i=some b→i<(sS k).next→π.bl i=some b∧τ.sz i=π.sz i:=fun i b hi hlt=>by
  cases hp:(π.below (sS k).next).bl i with
  | none=>have:=hsim.newid i b hi hp;rw [hS] at this;omega
  | some b'=>
   obtain ⟨e1,e2⟩:=hsim.le i b' hp;rw [hi] at e1;cases e1;exact ⟨(below_iff.1 hp).2,e2⟩
 have le2:τ.le π':=fun i b hi=>by
  by_cases h:(sS k).next≤i∧i<(sS (k+1)).next
  ·obtain ⟨e1,e2⟩:=bl_in i h;exact ⟨by rw [e1];exact hi,e2⟩
  ·have hlt:i<(sS k).next:=by have:=hτlt i b hi;omega
   obtain ⟨e1,e2⟩:=bl_out i h;obtain ⟨e3,e4⟩:=hτold i b hi hlt;exact ⟨by rw [e1];exact e3,by rw [e2,e4]⟩
 have hlive:∀i,i<(sS k).next→(S.get i).kind≠0→Rd fp k i∧(Mo.get i).kind≠0:=fun i hi hz=>by
  have hr:Rd fp k i:=Classical.byContradiction fun h=>hz (hdead i hi h);exact ⟨hr,by rw [hMo i hi hr,←(hget i hi hr).1];exact hz⟩
 have hfr:∀b,b<w.heap.size→(∀i',π.bl i'=some b→i'<(sS k).next→Rd fp k i'→(Mo.get i').kind=0)→w'.heap[b]?=w.heap[b]?:=fun b hb h=>
  hsim.frame b hb fun i' hi'=>by
   obtain ⟨h1,h2⟩:=below_iff.1 hi';by_cases hz:(S.get i').kind=0
   ·exact hz
   ·obtain ⟨hr,hz'⟩:=hlive i' h1 hz;exact absurd (h i' h2 h1 hr) hz'
 have hnewb:∀i b,τ.bl i=some b→(sS k).next≤i→w.heap.size≤b∨∃j,j<(sS k).next∧π.bl j=some b∧(Mo.get j).kind≠0∧(Mn.get j).kind=0:=fun i b hi hge=>by
  have hp:(π.below (sS k).next).bl i=none:=by
   simp only [Ren.below];rw [if_neg (by omega)]
  rcases hsim.newblk i b hi hp with h|⟨j,h1,h2,h3⟩
  ·exact .inl h
  ·obtain ⟨h4,h5⟩:=below_iff.1 h1;obtain ⟨hr,hz⟩:=hlive j h4 h2;exact .inr ⟨j,h4,h5,hz,by rw [hMn j h4 hr];exact h3⟩
 have rel:R G π' Mn w':=by
  refine ⟨?_,?_,fun g hg=>(le1 g g (I.sim.rel.glob g hg)).1,I.sim.rel.globN⟩
  ·intro i b hi;by_cases h:(sS k).next≤i∧i<(sS (k+1)).next
   ·rw [(bl_in i h).1] at hi;obtain ⟨h1,o',h2,h3⟩:=hsim.rel.blk i b hi;refine ⟨zC h.2 hhm,o',h2,?_⟩;rw [hMm i h.1 h.2,←hmade i h.1 h.2];exact h3.ext le2 (bl_in i h).2
   ·rw [(bl_out i h).1] at hi;obtain ⟨h1,o',h2,h3⟩:=I.sim.rel.blk i b hi;refine ⟨h1,?_⟩;by_cases hlt:i<(sS k).next∧Rd fp k i
    ·have hτ:=(hsim.le i b (below_iff.2 ⟨hlt.1,hi⟩)).1;obtain ⟨_,o2,h4,h5⟩:=hsim.rel.blk i b hτ;refine ⟨o2,h4,?_⟩;rw [hMn i hlt.1 hlt.2];exact h5.ext le2 (le2 i b hτ).2
    ·rw [hMn0 i h h1 hlt];by_cases hz:(Mo.get i).kind=0
     ·have hb:=zC (I.sim.rel.lt hi) hsim.hsz;refine ⟨w'.heap[b],by simp [hb],?_⟩
      unfold BRel;rw [hz];trivial
     ·have hf:=hfr b (I.sim.rel.lt hi) fun i' h4 h5 h6=>by
       by_cases hz':(Mo.get i').kind=0
       ·exact hz'
       ·have:=I.sim.rel.inj i' i b h4 hi hz' hz;subst this;exact absurd ⟨h5,h6⟩ hlt
      exact ⟨o',by rw [hf];exact h2,h3.ext le1 (bl_out i h).2⟩
  ·have old:∀i j b,((sS k).next≤i∧i<(sS (k+1)).next)→τ.bl i=some b→π.bl j=some b→(Mn.get j).kind≠0→False:=fun i j b hi h1 h2 h3=>by
    have hj0:(Mo.get j).kind≠0:=fun h=>h3 (hdd j (hπlt j b h2) h);rcases hnewb i b h1 hi.1 with h|⟨j',h4,h5,h6,h7⟩
    ·have:=I.sim.rel.lt h2;omega
    ·have:=I.sim.rel.inj j j' b h2 h5 hj0 h6;subst this;exact h3 h7
   intro i j b hi hj ki kj;by_cases h1:(sS k).next≤i∧i<(sS (k+1)).next
   ·rw [(bl_in i h1).1] at hi;by_cases h2:(sS k).next≤j∧j<(sS (k+1)).next
    ·rw [(bl_in j h2).1] at hj;rw [hMm i h1.1 h1.2,←hmade i h1.1 h1.2] at ki;rw [hMm j h2.1 h2.2,←hmade j h2.1 h2.2] at kj;exact hsim.rel.inj i j b hi hj ki kj
    ·rw [(bl_out j h2).1] at hj;exact (old i j b h1 hi hj kj).elim
   ·rw [(bl_out i h1).1] at hi;by_cases h2:(sS k).next≤j∧j<(sS (k+1)).next
    ·rw [(bl_in j h2).1] at hj;exact (old j i b h2 hj hi ki).elim
    ·rw [(bl_out j h2).1] at hj;exact I.sim.rel.inj i j b hi hj (fun h=>ki (hdd i (hπlt i b hi) h)) (fun h=>kj (hdd j (hπlt j b hj) h))
 have bel:∀x,(π.below x).le (π'.below x):=fun x=>Ren.below_mono le1 (zA _);have hcl:Closed ops fun x=>D x∨x=k:=fun x ox hx hd e he=>by
  rcases hd with hd|rfl
  ·exact .inl (I.closed x ox hx hd e he)
  ·obtain rfl:ox=o:=by rw [ho] at hx;exact (Option.some.inj hx).symm
   exact .inl (hready e he)
 refine ⟨π',?_⟩;exact {
  closed:=hcl
  sim:={
   base:=I.sim.base
   le:=Ren.le_trans I.sim.le le1
   rel:=rel
   frame:=fun b hb hd=>by
    rw [hfr b (zC hb I.sim.hsz) (fun i' h4 h5 h6=>?_),I.sim.frame b hb hd];cases hρ:ρ.bl i' with
    | some b'=>
     have:=(I.sim.le i' b' hρ).1;rw [h4] at this;cases this;exact I.sim.dead i' (I.sim.base.blk i' b hρ).1 (hd i' hρ)
    | none=>
     exfalso
     rcases I.sim.newblk i' b h4 hρ with h|⟨j,h6,h7,_⟩
     ·omega
     ·exact h7 (hd j h6)
   hsz:=zB I.sim.hsz hsim.hsz
   nxt:=I.sim.nxt
   newid:=fun i b hi hn=>by
    by_cases h:(sS k).next≤i∧i<(sS (k+1)).next
    ·exact zB (T.next_le (zH _) (Nat.le_of_lt hks)) h.1
    ·rw [(bl_out i h).1] at hi;exact I.sim.newid i b hi hn
   newblk:=fun i b hi hn=>by
    have up:∀j,π.bl j=some b→(∃l,ρ.bl l=some b∧((sS 0).get l).kind≠0∧(Mo.get l).kind=0)→w0.heap.size≤b∨∃l,ρ.bl l=some b∧((sS 0).get l).kind≠0∧(Mn.get l).kind=0:=fun j hj ⟨l,h1,h2,h3⟩=>
     .inr ⟨l,h1,h2,hdd l (hπlt l b (I.sim.le l b h1).1) h3⟩
    by_cases h:(sS k).next≤i∧i<(sS (k+1)).next
    ·rw [(bl_in i h).1] at hi;rcases hnewb i b hi h.1 with h1|⟨j,h2,h3,h4,h5⟩
     ·exact .inl (zB I.sim.hsz h1)
     ·cases hρ:ρ.bl j with
      | some b'=>
       have:=(I.sim.le j b' hρ).1;rw [h3] at this;cases this;exact .inr ⟨j,hρ,fun h0=>h4 (I.sim.dead j (I.sim.base.blk j b hρ).1 h0),h5⟩
      | none=>
       rcases I.sim.newblk j b h3 hρ with h6|h6
       ·exact .inl h6
       ·exact up j h3 h6
    ·rw [(bl_out i h).1] at hi;rcases I.sim.newblk i b hi hn with h6|h6
     ·exact .inl h6
     ·exact up i hi h6
   low:=I.sim.low
   keep:=fun i hi hl=>by
    obtain ⟨c,hc⟩:=T.cur_exists hcl (x:=i) (zC hi (T.next_le (zH _) (zA _)));rw [T.mix_get hc];exact (T.monos (zH c) hc.1).keep i hi (zC hl (T.monos hc.1 (zA _)).low)
   dead:=fun i hi h0=>by
    obtain ⟨c,hc⟩:=T.cur_exists hcl (x:=i) (zC hi (T.next_le (zH _) (zA _)));rw [T.mix_get hc];exact (T.monos (zH c) hc.1).dead i hi h0
   stay:=fun i b hi hk hl=>by
    have hπ:=(I.sim.le i b hi).1;have hi0:=(I.sim.base.blk i b hi).1;have hMi:Mo.get i=(sS 0).get i:=I.sim.keep i hi0 hl;have hik:i<(sS k).next:=zC hi0 (T.next_le (zH _) (Nat.le_of_lt hks));rw [←I.sim.stay i b hi hk hl];by_cases hz:(S.get i).kind=0
    ·refine hfr b (I.sim.rel.lt hπ) fun i' h4 h5 h6=>?_;by_cases hz':(Mo.get i').kind=0
     ·exact hz'
     ·have:=I.sim.rel.inj i' i b h4 hπ hz' (by show (Mo.get i).kind≠0;rw [hMi];exact hk)
      subst this;rw [hMo i' h5 h6,←(hget i' h5 h6).1];exact hz
    ·refine hsim.stay i b (below_iff.2 ⟨hik,hπ⟩) hz (zC ?_ hlw);exact zC hl (T.monos hks (zA _)).low
   out:=⟨hsim.out.1.trans I.sim.out.1,hsim.out.2.trans I.sim.out.2⟩ }
  gap:=fun i b hi x hx hd=>by
   by_cases h:(sS k).next≤i∧i<(sS (k+1)).next
   ·intro h2;have hne:x≠k:=fun e=>hd (.inr e);rcases Nat.lt_or_ge x k with hlt|hge
    ·have:=T.next_le (i:=x+1) (j:=k) hlt (Nat.le_of_lt hks);omega
    ·have:=T.next_le (i:=k+1) (j:=x) (by omega) (Nat.le_of_lt hx);omega
   ·rw [(bl_out i h).1] at hi;exact I.gap i b hi x hx fun h=>hd (.inl h)
  size:=by rw [ZcC];exact I.size
  defers:=by rw [ZbT];exact I.defers
  rest:=fun t ht=>by
   have e:(a.put o.dst v').tmps.getD t undef=a.tmps.getD t undef:=by
    cases hd:o.dst with
    | none=>rfl
    | some d=>rw [ZdP (by rw [I.size];exact hdst d hd),if_neg (fun e=>ht k o ho (.inr rfl) (by rw [hd,e]))]
   rw [e];exact (I.rest t fun x ox hx hD=>ht x ox hx (.inl hD)).ext (bel _)
  done:=fun x ox t hx hd ht=>by
   by_cases e:x=k
   ·subst e;obtain rfl:ox=o:=by rw [ho] at hx;exact (Option.some.inj hx).symm
    rw [ht,ZdP (by rw [I.size];exact hdst t ht),if_pos rfl]
    exact hv.ext (Ren.le_trans (ZgZ hτlt) (Ren.below_mono le2 (zA _)))
   ·have hd':=hd.resolve_right e;have e2:(a.put o.dst v').tmps.getD t undef=a.tmps.getD t undef:=by
     cases hdo:o.dst with
     | none=>rfl
     | some d=>rw [ZdP (by rw [I.size];exact hdst d hdo),if_neg (fun e3=>e (T.st.uniq k o x ox t ho hx (by rw [hdo,e3]) ht))]
    rw [e2];exact (I.done x ox t hx hd' ht).ext (bel _)
  known:=fun x b m hm hb hx hj=>by
   have up:k<m→∀blk,BSc τ blk→BSc (π'.below (sS m).next) blk:=fun hkm blk h=>h.ext (Ren.le_trans (ZgZ hτlt) (Ren.below_mono le2 (T.next_le hkm hm)));by_cases h:(sS k).next≤x∧x<(sS (k+1)).next
   ·have hkm:k<m:=by
     rcases Nat.lt_or_ge k m with h3|h3
     ·exact h3
     ·have:=T.next_le (i:=m) (j:=k) h3 (Nat.le_of_lt hks);omega
    rw [(bl_in x h).1] at hb;obtain ⟨_,o',_,h5⟩:=hsim.rel.blk x b hb;show BSc _ (Mn.get x);rw [hMm x h.1 h.2,←hmade x h.1 h.2];exact up hkm _ h5.sc
   ·rw [(bl_out x h).1] at hb;by_cases hw:Wr sS fS fp k x
    ·have hkm:k<m:=hj k hks (.inr rfl) hw;have hτ:=(hsim.le x b (below_iff.2 ⟨hw.2.1,hb⟩)).1;obtain ⟨_,o',_,h5⟩:=hsim.rel.blk x b hτ;show BSc _ (Mn.get x);rw [hMn x hw.2.1 hw.rd];exact up hkm _ h5.sc
    ·show BSc _ (Mn.get x);rw [hMr x (hπlt x b hb) hw];exact (I.known x b m hm hb hx fun j h1 h2 h3=>hj j h1 (.inl h2) h3).ext (bel _) }
end inv
noncomputable def Dn (listed:Array Bool) (k:Nat):Prop:=listed.getD k false=true
theorem Zpq {listed:Array Bool} {k:Nat} (hk:k<listed.size):Dn (listed.setIfInBounds k true)=fun x=>Dn listed x∨x=k:=by
 funext x
 unfold Dn;apply propext;simp only [Array.getD_eq_getD_getElem?,Array.getElem?_setIfInBounds];by_cases e:k=x
 ·subst e;simp [hk]
 ·simp [e];intro h;exact absurd h.symm e
theorem DInv.finish (T:Run P G callf n ops sj rS sS vS fS fp) {D:Nat→Prop} {π:Ren} {a:Act} {w:World} (I:DInv P G n ops ds fS fp ρ w0 rS sS vS D π a w) (hall:∀k,k<ops.size→D k)
  (hQ:∀τ a' w',RegsRel τ (rS ops.size) a'.tmps→a'.tmps.size=n→a'.defers=ds→Sim G ρ (sS 0) w0 τ (sS ops.size) w'→Q .normal a' w'):Q .normal a w:=by
 refine hQ π a w (fun t=>?_) I.size I.defers (Sim.congr (σ1:=mix ops.size sS fS fp D) rfl rfl (fun x hx=>?_) I.sim)
 ·by_cases h:∃(j:Nat) (o':Oper),ops.toList[j]?=some o'∧o'.dst=some t
  ·obtain ⟨j,o',hj,hd⟩:=h;have hlt:j<ops.size:=by have:=(zE.1 hj).1;simpa using this
   rw [T.reg_writer hj hd hlt (zA _)];exact (I.done j o' t hj (hall j hlt) hd).ext (Ren.below_le π _)
  ·have h':∀(j:Nat) (o':Oper),ops.toList[j]?=some o'→o'.dst≠some t:=fun j o' hj hd=>h ⟨j,o',hj,hd⟩;rw [T.reg_rest (fun j o' _=>h' j o') (zA _)];exact (I.rest t fun j o' hj _=>h' j o' hj).ext (Ren.below_le π _)
 ·exact (T.mix_get (D:=D) ⟨zA _,hx,fun j hj _=>hall j hj,fun j h1 h2=>by omega⟩).symm
theorem Zqf (hc:ZbC P G callf) (hcm:ZbI callf) (T:Run P G callf n ops sj rS sS vS fS fp)
  (hQ:∀τ a' w',RegsRel τ (rS ops.size) a'.tmps→a'.tmps.size=n→a'.defers=ds→Sim G ρ (sS 0) w0 τ (sS ops.size) w'→Q .normal a' w') :
  ∀(fuel:Nat) (listed:Array Bool) (π:Ren) (a:Act) (w:World),listed.size=ops.size→(List.range ops.size).countP (fun k=>!listed.getD k false)≤fuel→
   DInv P G n ops ds fS fp ρ w0 rS sS vS (Dn listed) π a w→wpAny P .any ops Q fuel listed a w:=by
 have done_of_ready:∀listed:Array Bool,listed.size=ops.size→Region.ready .any ops listed=[]→∀k,k<ops.size→Dn listed k:=by
  intro listed hsz hr k hk;by_cases h:∃k,k<ops.size∧¬Dn listed k
  ·exfalso
   obtain ⟨x,h1,h2,h3⟩:=Zru h;obtain ⟨o,ho⟩:=Zfa h1;have hmem:x∈Region.ready .any ops listed:=by
    rw [mem_ready];refine ⟨?_,o,by simpa using ho,fun e he hb=>?_⟩
    ·have hx:x<listed.size:=by omega
     unfold Dn at h2;simp only [Array.getD_eq_getD_getElem?,Array.getElem?_eq_getElem hx,Option.getD_some] at h2 ⊢;simpa using h2
    ·exact h3 e.on (T.st.back x o ho e.on (bindsOn_mem.2 ⟨e,he,hb,rfl⟩))
   rw [hr] at hmem;cases hmem
  ·by_cases hd:Dn listed k
   ·exact hd
   ·exact absurd ⟨k,hk,hd⟩ h
 intro fuel
 induction fuel with
 | zero=>
  intro listed π a w hsz hcnt I;have hall:∀k,k<ops.size→Dn listed k:=fun k hk=>by
   have h0:(List.range ops.size).countP (fun k=>!listed.getD k false)=0:=Nat.le_zero.1 hcnt;rw [List.countP_eq_zero] at h0;have:=h0 k (List.mem_range.2 hk);unfold Dn;simpa using this
  refine ⟨?_,I.finish T hall hQ⟩;cases hr:Region.ready .any ops listed with
  | nil=>rfl
  | cons x l=>
   exfalso
   have hx:x∈Region.ready .any ops listed:=by rw [hr];simp
   rw [mem_ready] at hx;obtain ⟨h1,o,ho,_⟩:=hx;have hlt:x<ops.size:=(Array.getElem?_eq_some_iff.1 ho).1;have h2:=hall x hlt;unfold Dn at h2;have hxl:x<listed.size:=by omega
   simp only [Array.getD_eq_getD_getElem?,Array.getElem?_eq_getElem hxl,Option.getD_some] at h1 h2;rw [h1] at h2;cases h2
 | succ fuel ih=>
  intro listed π a w hsz hcnt I;refine ⟨fun hr=>I.finish T (done_of_ready listed hsz hr) hQ,fun k hk=>?_⟩;rw [mem_ready] at hk;obtain ⟨h1,o,ho',hr⟩:=hk;have hlt:k<ops.size:=(Array.getElem?_eq_some_iff.1 ho').1;have hkl:k<listed.size:=by omega
  have ho:ops.toList[k]?=some o:=by simpa using ho'
  have hnd:¬Dn listed k:=by
   unfold Dn;simp only [Array.getD_eq_getD_getElem?,Array.getElem?_eq_getElem hkl,Option.getD_some] at h1 ⊢;rw [h1];simp
  have hready:∀e∈bindsOn o,Dn listed e:=fun e he=>by
   obtain ⟨x,hx1,hx2,rfl⟩:=bindsOn_mem.1 he;exact hr x hx1 hx2
  have hcnt':(List.range ops.size).countP (fun j=>!(listed.setIfInBounds k true).getD j false)≤fuel:=by
   have:(List.range ops.size).countP (fun j=>!(listed.setIfInBounds k true).getD j false)<(List.range ops.size).countP (fun j=>!listed.getD j false):=by
    refine Zku (x:=k) (fun j _ hj=>?_) (List.mem_range.2 hlt) (by unfold Dn at hnd;simpa using hnd) ?_
    ·have h2:¬Dn (listed.setIfInBounds k true) j:=by unfold Dn;simpa using hj
     rw [Zpq hkl] at h2;have h3:¬Dn listed j:=fun h=>h2 (.inl h);unfold Dn at h3;simpa using h3
    ·have h2:Dn (listed.setIfInBounds k true) k:=by rw [Zpq hkl];exact .inr rfl
     unfold Dn at h2;simp only [h2,Bool.not_true]
   omega
  have A:=T.at_ k o ho;have hdst:∀d,o.dst=some d→d<n:=fun d hd=>by
   have hp:=A.put;rw [hd] at hp;simp only [aPut,Zab] at hp;split at hp
   ·rename_i h;simpa [Nat.blt_eq] using h
   ·cases hp
  have go:∀π' a' w',DInv P G n ops ds fS fp ρ w0 rS sS vS (fun x=>Dn listed x∨x=k) π' a' w'→wpAny P .any ops Q fuel (listed.setIfInBounds k true) a' w':=fun π' a' w' I'=>
   ih _ π' a' w' (by simpa using hsz) hcnt' (by rw [Zpq hkl];exact I')
  have hks:=Nat.le_of_lt hlt;have hwt:aWanted ops (rS k) o=Region.wanted o (yielded ops a.tmps):=ZeM (ρ:=π.below (sS k).next) fun j b t hg hd=>by
   refine I.reg T ho hnd hready ?_;unfold Oper.looksAt;rw [hg];simp [hd]
  have hopsR:∀{υ:Ren},(π.below (sS k).next).le υ→(∀g,g<G→υ.bl g=some g)→OpRel G υ (rS k) a o.op.operands:=fun {υ} hle hgl x hx v hv=>by
   cases x with
   | tmp t=>
    cases hv;refine (I.reg T ho hnd hready ?_).ext hle;unfold Oper.looksAt;rw [zR];exact .inl (List.mem_filterMap.2 ⟨.tmp t,hx,rfl⟩)
   | const c=>
    simp only [aev] at hv;split at hv
    ·rename_i hf;cases hv;exact (ZaR hf).2 rfl
    ·cases hv
   | global g=>
    simp only [aev] at hv;split at hv
    ·rename_i hg;cases hv;exact vrel_ptr.2 ⟨g,hgl g hg,rfl,rfl⟩
    ·cases hv
   | func f=>cases hv;exact vrel_func.2 ⟨[],[],trivial,trivial,rfl⟩
  unfold wpOp;rw [ho'];simp only [];rw [←hwt];have hglob:∀g,g<G→(π.below (sS k).next).bl g=some g:=fun g hg=>
   below_iff.2 ⟨zC hg (zB I.sim.base.globN (T.next_le (zH _) hks)),I.sim.rel.glob g hg⟩
  cases hw:aWanted ops (rS k) o with
  | false=>
   rw [if_neg (by simp)]
   obtain ⟨hf,hnx⟩:=T.still k o ho (.inr hw);exact go π _ w (I.stepR T ho hready hf hnx (by rw [(A.no hw).1];exact Zb8) hdst)
  | true=>
   rw [if_pos rfl];refine .inl ?_;obtain ⟨s1,hs1,_,hs3⟩:=A.yes hw;by_cases hblk:ZbJ P ops sj k=true
   ·obtain ⟨hf,hnx⟩:=T.still k o ho (.inl hblk);unfold Oper.wp;have hor:ZhT P ops k=true∨memb sj k=true:=by unfold ZbJ at hblk;simpa using hblk
    rcases hor with hbl|hmem
    ·
     have hbo:Zc1 P o.op=true:=by
      unfold ZhT at hbl;rw [ho'] at hbl;exact hbl
     obtain ⟨_,v',h2,h3⟩:=ZlN (π:=π.below (sS k).next) hbo hs1 (hopsR (Ren.le_refl _) hglob) w;rw [h2,Oper.upon_value];exact go π _ w (I.stepR T ho hready hf hnx h3 hdst)
    ·
     obtain ⟨hso,hst⟩:=T.steady k o ho hmem;obtain ⟨hsc,F,hF,hst⟩:=hst hw;have hRm:=I.sim.rel;have hRr:R G π (mix ops.size sS fS fp (Dn listed)).reset w:=⟨hRm.blk,hRm.inj,hRm.glob,hRm.globN⟩;have hrun:Zb5 P G callf (rS k) (mix ops.size sS fS fp (Dn listed)).reset o.op=some (vS k,(mix ops.size sS fS fp (Dn listed)).reset):=by
      rcases hst with rfl|⟨x,rfl,hst⟩
      ·exact Ze6 hso hs1 hF fun x hx=>by cases hx
      ·have hxN:x<(sS ops.size).next:=by
        rcases Nat.lt_or_ge x (sS ops.size).next with h|h
        ·exact h
        ·exfalso
         obtain ⟨b,hb⟩:=Znu (hopsR (Ren.le_refl _) hglob) hF hso hs1 x (by simp)
         have:=(I.sim.rel.blk x b (below_iff.1 hb).2).1;have h2:(mix ops.size sS fS fp (Dn listed)).next=(sS ops.size).next:=rfl;omega
       obtain ⟨c,hcurN⟩:=T.curN_exists I.closed hxN;have hcur:=hcurN.cur;obtain ⟨s2,hs2⟩:=hst c hcur.1 hcur.2.1 (fun q hq hp hwq=>by
         rcases Nat.lt_or_ge q c with h|h
         ·exact h
         ·exact absurd (Zc5 I.closed ho hready hp) (hcurN.2.2.2 q h hq hwq)) (fun q hq hp hwq=>by
         have hqN:q<ops.size:=zC hq hcur.1;exact hnd (I.closed.pred hqN (hcurN.2.2.1 q hq hwq) hp))
       refine Ze6 hso hs2 hF fun y hy=>?_;obtain rfl:y=x:=by simpa using hy
       rw [Zkk,Zkk];exact T.mix_get hcur
     obtain ⟨v',h2,n',h3⟩:=Zk7 hso hrun (hopsR (Ren.below_le π _) hRm.glob) hRr;rw [h2,Oper.upon_value];exact go π _ w (I.stepR T ho hready hf hnx ⟨n',Zg7 9 _ _ _ hsc h3⟩ hdst)
   ·have hbf:ZbJ P ops sj k=false:=by
     cases h:ZbJ P ops sj k with
     | true=>exact absurd h hblk
     | false=>rfl
    have hfk:=T.fpk k o ho;rw [hbf,hw] at hfk;have hfk:fp k=fpOf P G (rS k) o.op:=hfk;cases hF:fp k with
    | none=>
     have hrd:∀x,Rd fp k x:=fun x l hl=>by rw [hF] at hl;cases hl
     have hR:=I.sees T ho hnd hready (S:=(sS k).reset) rfl (fun x _ _=>rfl) (fun x _ h=>absurd (hrd x) h);refine ZfY hc hs1 hR (hopsR (Ren.le_refl _) hglob) fun v' τ w' hv hsim=>?_;obtain ⟨π',I2⟩:=I.stepX T ho hnd hready hsim rfl (by rw [hs3];rfl) (fun x _ _=>⟨rfl,by rw [hs3];rfl⟩) (fun x _ h=>absurd (hrd x) h) (fun x _ _=>by rw [hs3];rfl) (by rw [hs3];exact Nat.min_le_right _ _) hv hdst
     exact go π' _ w' I2
    | some F=>
     rw [hF] at hfk;obtain ⟨S1,hS1,M⟩:=Zix hfk.symm hs1 (S:=(sS k).reset.only F) ⟨rfl,rfl,fun x hx=>(Zfw _ _ _).1 hx⟩;have hrd:∀x,Rd fp k x↔x∈F:=fun x=>⟨fun h=>h F hF,fun h l hl=>by rw [hF] at hl;cases hl;exact h⟩
     have hR:=I.sees T ho hnd hready (S:=(sS k).reset.only F) rfl (fun x _ hr=>(Zfw _ _ _).1 ((hrd x).1 hr)) (fun x _ hr=>by
      rw [(Zfw _ _ _).2 fun h=>hr ((hrd x).2 h)];rfl)
     refine ZfY hc hS1 hR (hopsR (Ren.le_refl _) hglob) fun v' τ w' hv hsim=>?_;obtain ⟨π',I2⟩:=I.stepX T ho hnd hready hsim rfl (by rw [M.next,hs3];rfl) (fun x _ hr=>⟨(Zfw _ _ _).1 ((hrd x).1 hr),by rw [M.foot x ((hrd x).1 hr),hs3];rfl⟩)
      (fun x _ hr=>by rw [(Zfw _ _ _).2 fun h=>hr ((hrd x).2 h)];rfl) (fun x h1 h2=>by
       rw [hs3] at h2;rw [M.made x h1 h2,hs3];rfl) (by rw [M.low,hs3];exact Nat.min_le_right _ _) hv hdst
     exact go π' _ w' I2
theorem Zqv (hm:P.follows .mixedOrders=true) (hc:ZbC P G callf) (hcm:ZbI callf) {id:Nat} {r r':Regs} {σ σ':AS} {w:World} {a:Act} (h:Zid P G callf n ops r σ=some (r',σ'))
  (hR:R G ρ σ w) (hr:RegsRel ρ r a.tmps) (hn:a.tmps.size=n) (hd:a.defers=ds)
  (hQ:∀τ a' w',RegsRel τ r' a'.tmps→a'.tmps.size=n→a'.defers=ds→Sim G ρ σ w τ σ' w'→Q .normal a' w'):(Code.region id ops true).wp P Q a w:=by
 unfold Zid at h;split at h
 ·rename_i hst;obtain ⟨rS,sS,vS,fS,e1,e2,e3,e4,hat,hsd⟩:=Zf4 _ 0 _ _ _ h (fun i=>by simp)
  simp only [Nat.zero_add,Array.length_toList] at e3 e4;simp only [Nat.zero_add,Array.length_toList,List.reverse_nil,List.nil_append,←e4] at hsd;obtain ⟨fp,T⟩:=Run.of (n:=n) hcm (Static.of hst) (fun k o ho=>hat k o (zH _) ho) hsd;have hR':R G ρ σ ({ w with drawn:=w.drawn+1 }:World):=R.of_heap (w:=w) rfl hR
  refine wp_region_any hm (Zqf (ds:=ds) (ρ:=ρ) (w0:={ w with drawn:=w.drawn+1 }) hc hcm T ?_ ops.size _ ρ a _ (by simp) ?_ ?_)
  ·intro τ a' w' h1 h2 h3 h4;rw [e2,e4] at h4;rw [e3] at h1;exact hQ τ a' w' h1 h2 h3 (Sim.of_heap0 (w:=w) (w0:={ w with drawn:=w.drawn+1 }) rfl ⟨rfl,rfl⟩ h4)
  ·refine zB List.countP_le_length (by simp)
  ·have hnone:∀k,¬Dn (Array.replicate ops.size false) k:=fun k h=>by
    unfold Dn at h;simp only [Array.getD_eq_getD_getElem?,Array.getElem?_replicate] at h;split at h<;>simp at h
   have hlt0:∀i b,ρ.bl i=some b→i<(sS 0).next:=fun i b hi=>by rw [e2];exact (hR.blk i b hi).1
   have hcl:Closed ops (Dn (Array.replicate ops.size false)):=fun k o ho hd=>absurd hd (hnone k);have hmix:∀x,x<(sS 0).next→(mix ops.size sS fS fp (Dn (Array.replicate ops.size false))).get x=(sS 0).get x:=fun x hx=>
    T.mix_get ⟨zH _,hx,fun j hj=>by omega,fun j _ _ _=>hnone j⟩
   have M:=T.monos (zH ops.size) (zA _);have hsim0:Sim G ρ (sS 0) ({ w with drawn:=w.drawn+1 }:World) ρ (mix ops.size sS fS fp (Dn (Array.replicate ops.size false))) ({ w with drawn:=w.drawn+1 }:World):=by
    have h0:Sim G ρ (sS 0) ({ w with drawn:=w.drawn+1 }:World) ρ (sS 0) ({ w with drawn:=w.drawn+1 }:World):=by rw [e2];exact Sim.refl hR'
    exact {
     base:=h0.base
     le:=h0.le
     rel:=by
      refine ⟨fun i b hi=>?_,fun i j b hi hj ki kj=>?_,h0.rel.glob,zB h0.rel.globN M.nxt⟩
      ·obtain ⟨h1,o,ho,hb⟩:=h0.rel.blk i b hi;exact ⟨zC h1 M.nxt,o,ho,by rw [hmix i h1];exact hb⟩
      ·rw [hmix i (hlt0 i b hi)] at ki;rw [hmix j (hlt0 j b hj)] at kj;exact h0.rel.inj i j b hi hj ki kj
     frame:=h0.frame
     hsz:=h0.hsz
     nxt:=M.nxt
     newid:=h0.newid
     newblk:=fun i b h1 h2=>by rw [h1] at h2;cases h2
     low:=M.low
     keep:=fun i hi _=>hmix i hi
     dead:=fun i hi h1=>by rw [hmix i hi];exact h1
     stay:=fun _ _ _ _ _=>rfl
     out:=h0.out }
   exact {
    closed:=hcl
    sim:=hsim0
    gap:=fun i b hi k hk _ h=>by
     have h1:=hlt0 i b hi;have:=T.next_le (zH k) (Nat.le_of_lt hk);omega
    size:=hn
    defers:=hd
    rest:=fun t _=>by
     rw [e1,e2];exact (hr t).ext (ZgZ fun i b hi=>(hR.blk i b hi).1)
    done:=fun k o t ho hd=>absurd hd (hnone k)
    known:=fun x b k hk hb hx _=>by
     have h1:=hlt0 x b hb;rw [hmix x h1,e2];obtain ⟨_,o',_,h5⟩:=hR.blk x b hb;refine h5.sc.ext (Ren.le_trans (ZgZ fun i b hi=>?_) (Ren.below_mono (Ren.le_refl _) (T.next_le (zH k) hk)));exact hlt0 i b hi }
 ·cases h
theorem ZeC (hcm:ZbI callf) {pb:List Nat} {N:Nat}:∀(l:List Oper) (r:Regs) (σ:AS) (acc:List Ent) {r':Regs} {σ':AS},ZbQ P G callf n ops pb N sj l r σ acc=some (r',σ')→AMono σ σ'
 | [],r,σ,acc,r',σ',h=>by
  simp only [ZbQ,Zab] at h;split at h
  ·cases h;exact AMono.refl _
  ·cases h
 | o::l,r,σ,acc,r',σ',h=>by
  simp only [ZbQ,Zab] at h;split at h
  ·split at h
   ·rename_i v s1 hst;split at h
    ·exact (Zgf (Zcq hcm hst)).trans (ZeC hcm l _ _ _ h)
    ·cases h
   ·cases h
  ·split at h
   ·exact ZeC hcm l _ _ _ h
   ·cases h
theorem ZnK (hcm:ZbI callf) {r r':Regs} {σ σ':AS} (h:Zid P G callf n ops r σ=some (r',σ')):AMono σ σ':=by
 unfold Zid at h;split at h
 ·exact ZeC hcm _ _ _ _ h
 ·cases h
end draw
noncomputable def Zaj (P:Program) (σ:AS) (r:Regs):List ResultVar→Option (List Value)
 | []=>some []
 | .tmp t::l=>match Zaj P σ r l with
  | some vs=>some (rget r t::vs)
  | none=>none
 | .cell x t::l=>match Zat P σ t (rget r x) with
  | some v=>match Zaj P σ r l with
   | some vs=>some (v::vs)
   | none=>none
  | none=>none
noncomputable def Zbw:List Value→Value
 | [v]=>v
 | vs=>.tuple vs.toArray
structure Tbl where
 ask:FuncId→List Value→AS→Option (Value×AS)
 mono:ZbI ask
 dfr:FuncId→Bool:=fun _=>false
noncomputable def Zci (P:Program) (code:Nat→Code→Regs→AS→Option (Nat×Regs×AS)) (f:FuncId) (args:List Value) (σ:AS):Option (Value×AS):=
 match P.funcs[f]? with
 | some fn=>match fn.body with
  | some c=>if Nat.ble args.length fn.ntmps then match code fn.ntmps c (ZaI args 0 .e) σ with
    | some (x,r',σ')=>if Nat.ble x 1 then match Zaj P σ' r' fn.results.toList with
      | some vs=>some (Zbw vs,σ')
      | none=>none
     else none
    | none=>none
   else none
  | none=>none
 | none=>none
abbrev ADef:Type:=Nat×List Value
noncomputable def ZrC:Op→Bool
 | .defer _=>true
 | _=>false
noncomputable def Zdf:Nat→Code→Bool
 | 0,_=>true
 | k+1,c=>match c with
  | .seq x y=>Zdf k x||Zdf k y
  | .cond _ x y=>Zdf k x||Zdf k y
  | .block _ x=>Zdf k x
  | .loop x=>Zdf k x
  | .scope x=>Zdf k x
  | .region _ ops _=>ops.toList.any fun o=>ZrC o.op
  | _=>false
noncomputable def ZrX (G:Nat) (r:Regs) (c:Call):Option ADef:=
 match c.callee with
 | .value f=>match aev G r f with
  | some (.func (.func g) first captured)=>match aevs G r c.args.toList with
   | some vs=>some (g,first.toList++vs++captured.toList)
   | none=>none
  | _=>none
 | _=>none
noncomputable def dOps (P:Program) (G:Nat) (callf:FuncId→List Value→AS→Option (Value×AS)) (n:Nat) (ops:Array Oper):List Oper→Regs→AS→List ADef→Option (Regs×AS×List ADef)
 | [],r,σ,ds=>some (r,σ,ds)
 | o::l,r,σ,ds=>
  if aWanted ops r o then
   (match o.op with
   | .defer c=>match ZrX G r c with
    | some d=>match aPut n r o.dst undef with
     | some r'=>dOps P G callf n ops l r' σ (d::ds)
     | none=>none
    | none=>none
   | _=>match Zb5 P G callf r σ o.op with
    | some (v,σ')=>match aPut n r o.dst v with
     | some r'=>dOps P G callf n ops l r' σ' ds
     | none=>none
    | none=>none)
  else match aPut n r o.dst undef with
   | some r'=>dOps P G callf n ops l r' σ ds
   | none=>none
noncomputable def Zgm (P:Program) (G:Nat) (callf:FuncId→List Value→AS→Option (Value×AS)) (code:Nat→Code→Regs→AS→Option (Nat×Regs×AS)):Nat→Nat→Code→Regs→AS→List ADef→Option (Nat×Regs×AS×List ADef)
 | 0,_,_,_,_,_=>none
 | k+1,n,c,r,σ,ds=>
  if Zdf 200 c then
   (match c with
   | .seq x y=>match Zgm P G callf code k n x r σ ds with
    | some (e,r',σ',ds')=>if Nat.beq e 0 then Zgm P G callf code k n y r' σ' ds' else some (e,r',σ',ds')
    | none=>none
   | .cond x t e=>match aev G r x with
    | some (.bool b)=>Zgm P G callf code k n (if b then t else e) r σ ds
    | _=>none
   | .block id x=>match Zgm P G callf code k n x r σ ds with
    | some (e,r',σ',ds')=>if Nat.beq e (id+2) then some (0,r',σ',ds') else some (e,r',σ',ds')
    | none=>none
   | .scope x=>Zgm P G callf code k n x r σ ds
   | .region _ ops false=>match dOps P G callf n ops ops.toList r σ ds with
    | some (r',σ',ds')=>some (0,r',σ',ds')
    | none=>none
   | _=>none)
  else match code n c r σ with
   | some (e,r',σ')=>some (e,r',σ',ds)
   | none=>none
noncomputable def Zrg (o:Oper):Bool:=match o.guard with
 | some _=>false
 | none=>match o.op with
  | .call c=>match c.callee with
   | .builtin .recover=>Nat.beq c.args.size 0
   | _=>false
  | _=>false
noncomputable def Zrh:Code→Bool
 | .seq (.region _ ops false) _=>match ops.toList with
  | o::_=>Zrg o
  | []=>false
 | _=>false
noncomputable def dRec (P:Program) (G:Nat) (callf:FuncId→List Value→AS→Option (Value×AS)) (code:Nat→Code→Regs→AS→Option (Nat×Regs×AS)) (f:FuncId) (args:List Value) (σ:AS):Option AS:=
 match P.funcs[f]? with
 | some fn=>match fn.body with
  | some (.seq (.region _ ops false) y)=>match ops.toList with
   | o::l=>if Zrg o&&Nat.ble args.length fn.ntmps then
     match aPut fn.ntmps (ZaI args 0 .e) o.dst .nilIface with
     | some r0=>match aOps P G callf fn.ntmps ops l r0 σ with
      | some (r1,σ1)=>match code fn.ntmps y r1 σ1 with
       | some (x,r2,σ2)=>if Nat.ble x 1 then match Zaj P σ2 r2 fn.results.toList with
         | some _=>some σ2
         | none=>none
        else none
       | none=>none
      | none=>none
     | none=>none
    else none
   | []=>none
  | _=>none
 | none=>none
noncomputable def isRec (P:Program) (f:FuncId):Bool:=match P.funcs[f]? with
 | some fn=>match fn.body with
  | some c=>Zrh c
  | none=>false
 | none=>false
noncomputable def Zca (P:Program) (K:Tbl) (code:Nat→Code→Regs→AS→Option (Nat×Regs×AS)) (f:FuncId) (args:List Value) (σ:AS):Option (Value×AS):=
 match K.ask f args σ with
 | some x=>some x
 | none=>Zci P code f args σ
noncomputable def dRun (P:Program) (G:Nat) (callf:FuncId→List Value→AS→Option (Value×AS)) (code:Nat→Code→Regs→AS→Option (Nat×Regs×AS)):List ADef→AS→Option AS
 | [],σ=>some σ
 | d::ds,σ=>bite (isRec P d.1)
   (match dRec P G callf code d.1 d.2 σ with
   | some σ'=>dRun P G callf code ds σ'
   | none=>none)
   (match Zci P code d.1 d.2 σ with
   | some (_,σ')=>dRun P G callf code ds σ'
   | none=>none)
noncomputable def Zjy (P:Program) (K:Tbl) (G:Nat) (code:Nat→Code→Regs→AS→Option (Nat×Regs×AS)) (f:FuncId) (args:List Value) (σ:AS):Option (Value×AS):=
 match P.funcs[f]? with
 | some fn=>match fn.body with
  | some c=>if Nat.ble args.length fn.ntmps then match Zgm P G (Zca P K code) code 40 fn.ntmps c (ZaI args 0 .e) σ [] with
    | some (x,r',σ',ds)=>if Nat.ble x 1 then match dRun P G (Zca P K code) code ds σ' with
      | some σ''=>match Zaj P σ'' r' fn.results.toList with
       | some vs=>some (Zbw vs,σ'')
       | none=>none
      | none=>none
     else none
    | none=>none
   else none
  | none=>none
 | none=>none
noncomputable def ZbY (P:Program) (K:Tbl) (G:Nat) (code:Nat→Code→Regs→AS→Option (Nat×Regs×AS)) (f:FuncId) (args:List Value) (σ:AS):Option (Value×AS):=
 match K.ask f args σ with
 | some x=>some x
 | none=>bite (K.dfr f) (Zjy P K G code f args σ) (Zci P code f args σ)
abbrev ZgT:Type:=Nat→Code→Regs→AS→Option (Nat×Regs×AS)
noncomputable def cSeq (run:ZgT) (n:Nat) (y:Code):Option (Nat×Regs×AS)→Option (Nat×Regs×AS)
 | some (e,r',σ')=>if Nat.beq e 0 then run n y r' σ' else some (e,r',σ')
 | none=>none
noncomputable def Zkz (run:ZgT) (n:Nat) (t e:Code) (r:Regs) (σ:AS):Option Value→Option (Nat×Regs×AS)
 | some (.bool b)=>run n (if b then t else e) r σ
 | _=>none
noncomputable def ZkA (id:Nat):Option (Nat×Regs×AS)→Option (Nat×Regs×AS)
 | some (e,r',σ')=>if Nat.beq e (id+2) then some (0,r',σ') else some (e,r',σ')
 | none=>none
noncomputable def Zjh:Option (Regs×AS)→Option (Nat×Regs×AS)
 | some (r',σ')=>some (0,r',σ')
 | none=>none
noncomputable def ZdY (P:Program) (K:Tbl) (G:Nat) (run:ZgT) (n:Nat) (c:Code) (r:Regs) (σ:AS):Option (Nat×Regs×AS):=
 match c with
 | .skip=>some (0,r,σ)
 | .label _=>some (0,r,σ)
 | .exit id=>some (id+2,r,σ)
 | .ret=>some (1,r,σ)
 | .seq x y=>cSeq run n y (run n x r σ)
 | .cond x t e=>Zkz run n t e r σ (aev G r x)
 | .block id x=>ZkA id (run n x r σ)
 | .loop x=>cSeq run n (.loop x) (run n x r σ)
 | .scope x=>run n x r σ
 | .region _ ops true=>Zjh (Zid P G (ZbY P K G run) n ops r σ)
 | .region _ ops false=>Zjh (aOps P G (ZbY P K G run) n ops ops.toList r σ)
 | _=>none
noncomputable def Zbf (P:Program) (K:Tbl) (G:Nat):Nat→ZgT
 | 0=>fun _ _ _ _=>none
 | fuel+1=>fun n c r σ=>ZdY P K G (Zbf P K G fuel) n c r σ
noncomputable def ZcB (P:Program) (K:Tbl) (G fuel:Nat) (f:FuncId) (args:List Value) (σ:AS):Option (Value×AS):=ZbY P K G (Zbf P K G fuel) f args σ
noncomputable def K0:Tbl where
 ask:=fun _ _ _=>none
 mono:=fun _ _ _ _ _ h=>nomatch h
section code
variable {P:Program} {K:Tbl} {G:Nat}
noncomputable def ZfK:Nat→Exit
 | 0=>.normal
 | 1=>.ret
 | x+2=>.exit x
noncomputable def Zd3 (code:Nat→Code→Regs→AS→Option (Nat×Regs×AS)):Prop:=∀n c r σ x r' σ',code n c r σ=some (x,r',σ')→AMono σ σ'
theorem Zeu {code:Nat→Code→Regs→AS→Option (Nat×Regs×AS)} (h:Zd3 code):ZbI (Zci P code):=by
 intro f args σ v σ' hc;unfold Zci at hc;split at hc
 ·split at hc
  ·split at hc
   ·split at hc
    ·rename_i x r' σ1 hx;split at hc
     ·split at hc
      ·cases hc;exact h _ _ _ _ _ _ _ hx
      ·cases hc
     ·cases hc
    ·cases hc
   ·cases hc
  ·cases hc
 ·cases hc
theorem ZeZ {code:Nat→Code→Regs→AS→Option (Nat×Regs×AS)} (h:Zd3 code):ZbI (Zca P K code):=by
 intro f args σ v σ' hc;unfold Zca at hc;split at hc
 ·rename_i x hx;cases hc;exact K.mono _ _ _ _ _ hx
 ·exact Zeu h _ _ _ _ _ hc
theorem ZfN {callf:FuncId→List Value→AS→Option (Value×AS)} (hc:ZbI callf) {n:Nat} {ops:Array Oper}:∀(l:List Oper) (r:Regs) (σ:AS) (ds:List ADef) {r':Regs} {σ':AS} {ds':List ADef},dOps P G callf n ops l r σ ds=some (r',σ',ds')→AMono σ σ'
 | [],r,σ,ds,r',σ',ds',h=>by cases h;exact AMono.refl _
 | o::l,r,σ,ds,r',σ',ds',h=>by
  unfold dOps at h;split at h
  ·split at h
   ·split at h
    ·split at h
     ·exact ZfN hc l _ _ _ h
     ·cases h
    ·cases h
   ·split at h
    ·rename_i hs;split at h
     ·exact (Zcq hc hs).trans (ZfN hc l _ _ _ h)
     ·cases h
    ·cases h
  ·split at h
   ·exact ZfN hc l _ _ _ h
   ·cases h
theorem Zcz {callf:FuncId→List Value→AS→Option (Value×AS)} (hc:ZbI callf) {code:Nat→Code→Regs→AS→Option (Nat×Regs×AS)} (hk:Zd3 code):∀(k n:Nat) (c:Code) (r:Regs) (σ:AS) (ds:List ADef) {x:Nat} {r':Regs} {σ':AS} {ds':List ADef},Zgm P G callf code k n c r σ ds=some (x,r',σ',ds')→AMono σ σ'
 | 0,n,c,r,σ,ds,x,r',σ',ds',h=>by cases h
 | k+1,n,c,r,σ,ds,x,r',σ',ds',h=>by
  unfold Zgm at h;split at h
  ·split at h
   ·split at h
    ·rename_i h1;split at h
     ·exact (Zcz hc hk k _ _ _ _ _ h1).trans (Zcz hc hk k _ _ _ _ _ h)
     ·cases h;exact Zcz hc hk k _ _ _ _ _ h1
    ·cases h
   ·split at h
    ·exact Zcz hc hk k _ _ _ _ _ h
    ·cases h
   ·split at h
    ·rename_i h1;split at h<;>(cases h;exact Zcz hc hk k _ _ _ _ _ h1)
    ·cases h
   ·exact Zcz hc hk k _ _ _ _ _ h
   ·split at h
    ·rename_i h1;cases h;exact ZfN hc _ _ _ _ h1
    ·cases h
   ·cases h
  ·split at h
   ·rename_i h1;cases h;exact hk _ _ _ _ _ _ _ h1
   ·cases h
theorem Zo1 {callf:FuncId→List Value→AS→Option (Value×AS)} (hc:ZbI callf) {code:Nat→Code→Regs→AS→Option (Nat×Regs×AS)} (hk:Zd3 code) {f:FuncId} {args:List Value} {σ σ':AS} (h:dRec P G callf code f args σ=some σ'):AMono σ σ':=by
 unfold dRec at h;split at h
 ·split at h
  ·split at h
   ·split at h
    ·split at h
     ·split at h
      ·rename_i h1;split at h
       ·rename_i h2;split at h
        ·split at h
         ·cases h;exact (Zf0 hc _ _ _ h1).trans (hk _ _ _ _ _ _ _ h2)
         ·cases h
        ·cases h
       ·cases h
      ·cases h
     ·cases h
    ·cases h
   ·cases h
  ·cases h
 ·cases h
theorem ZhL {callf:FuncId→List Value→AS→Option (Value×AS)} (hc:ZbI callf) {code:Nat→Code→Regs→AS→Option (Nat×Regs×AS)} (hk:Zd3 code):∀(ds:List ADef) (σ:AS) {σ':AS},dRun P G callf code ds σ=some σ'→AMono σ σ'
 | [],σ,σ',h=>by cases h;exact AMono.refl _
 | d::ds,σ,σ',h=>by
  simp only [dRun,Zab] at h;split at h
  ·split at h
   ·rename_i h1;exact (Zo1 hc hk h1).trans (ZhL hc hk ds _ h)
   ·cases h
  ·split at h
   ·rename_i h1;exact (Zeu hk _ _ _ _ _ h1).trans (ZhL hc hk ds _ h)
   ·cases h
theorem Zda {code:Nat→Code→Regs→AS→Option (Nat×Regs×AS)} (h:Zd3 code):ZbI (ZbY P K G code):=by
 intro f args σ v σ' hc;unfold ZbY at hc;split at hc
 ·rename_i x hx;cases hc;exact K.mono _ _ _ _ _ hx
 rw [Zab] at hc;split at hc
 ·unfold Zjy at hc;split at hc
  ·split at hc
   ·split at hc
    ·split at hc
     ·rename_i x r' σ1 ds hx;split at hc
      ·split at hc
       ·rename_i σ2 h2;split at hc
        ·cases hc;exact (Zcz (ZeZ h) h _ _ _ _ _ _ hx).trans (ZhL (ZeZ h) h _ _ h2)
        ·cases hc
       ·cases hc
      ·cases hc
     ·cases hc
    ·cases hc
   ·cases hc
  ·cases hc
 ·exact Zeu h _ _ _ _ _ hc
theorem ZeN:∀fuel,Zd3 (Zbf P K G fuel)
 | 0=>fun n c r σ x r' σ' h=>by simp [Zbf] at h
 | fuel+1=>fun n c r σ x r' σ' h=>by
  have ih:=ZeN fuel;simp only [Zbf] at h;cases c<;>simp only [ZdY,cSeq,Zkz,ZkA,Zjh] at h
  case skip=>cases h;exact AMono.refl _
  case label=>cases h;exact AMono.refl _
  case exit=>cases h;exact AMono.refl _
  case ret=>cases h;exact AMono.refl _
  case seq c1 c2=>
   split at h
   ·rename_i e r1 σ1 h1;split at h
    ·exact (ih _ _ _ _ _ _ _ h1).trans (ih _ _ _ _ _ _ _ h)
    ·cases h;exact ih _ _ _ _ _ _ _ h1
   ·cases h
  case cond=>
   split at h
   ·exact ih _ _ _ _ _ _ _ h
   ·cases h
  case block=>
   split at h
   ·rename_i e r1 σ1 h1;split at h
    ·cases h;exact ih _ _ _ _ _ _ _ h1
    ·cases h;exact ih _ _ _ _ _ _ _ h1
   ·cases h
  case loop=>
   split at h
   ·rename_i e r1 σ1 h1;split at h
    ·exact (ih _ _ _ _ _ _ _ h1).trans (ih _ _ _ _ _ _ _ h)
    ·cases h;exact ih _ _ _ _ _ _ _ h1
   ·cases h
  case scope=>exact ih _ _ _ _ _ _ _ h
  case region id ops draw=>
   cases draw with
   | true=>
    simp only [] at h;split at h
    ·rename_i r1 σ1 h1;cases h;exact ZnK (Zda ih) h1
    ·cases h
   | false=>
    simp only [] at h;split at h
    ·rename_i r1 σ1 h1;cases h;exact Zf0 (Zda ih) _ _ _ h1
    ·cases h
  all_goals cases h
structure ProgOk (P:Program):Prop where
 mixed:P.follows .mixedOrders=true
 names:∀(f:Nat) fn,P.funcs[f]?=some fn→(fn.name == "runtime.NumGoroutine")=false
def KOk (P:Program) (K:Tbl):Prop:=∀G,ZbC P G K.ask
theorem ZgS (P:Program):KOk P K0:=fun _ _ _ _ _ _ _ _ _ h=>nomatch h
theorem Sim.grown {ρ:Ren} {σ:AS} {w w':World} (hR:R G ρ σ w) (hh:∀b,b<w.heap.size→w'.heap[b]?=w.heap[b]?) (hs:w.heap.size≤w'.heap.size) (ho:w'.os=w.os∧w'.output=w.output):Sim G ρ σ w ρ σ w' where
 base:=hR
 le:=Ren.le_refl ρ
 rel:=⟨fun i b hi=>by
  obtain ⟨h1,o,h2,h3⟩:=hR.blk i b hi;exact ⟨h1,o,by rw [hh b (hR.lt hi)];exact h2,h3⟩,hR.inj,hR.glob,hR.globN⟩
 frame:=fun b hb _=>hh b hb
 hsz:=hs
 nxt:=zA _
 newid:=fun i b h h'=>by rw [h] at h';cases h'
 newblk:=fun i b h h'=>by rw [h] at h';cases h'
 low:=zA _
 keep:=fun _ _ _=>rfl
 dead:=fun _ _ h=>h
 stay:=fun i b hi _ _=>hh b (hR.lt hi)
 out:=ho
theorem ZmV {ρ:Ren}:∀{l l':List Value},(∀x∈l,flat x=true)→LRel (VRel ρ) l l'→l'=l
 | [],[],_,_=>rfl
 | a::l,b::l',h,hr=>by rw [(ZaR (h a (by simp))).1 hr.1,ZmV (fun x hx=>h x (by simp [hx])) hr.2]
 | [],_::_,_,h=>h.elim
 | _::_,[],_,h=>h.elim
noncomputable def ZcN (P:Program) (G:Nat) (code:Nat→Code→Regs→AS→Option (Nat×Regs×AS)):Prop:=
 ∀n c r σ x r' σ' ρ w a (Q:Exit→Act→World→Prop) {ds:List Deferred},code n c r σ=some (x,r',σ')→R G ρ σ w→RegsRel ρ r a.tmps→a.tmps.size=n→a.defers=ds→
  (∀τ a' w',RegsRel τ r' a'.tmps→a'.tmps.size=n→a'.defers=ds→Sim G ρ σ w τ σ' w'→Q (ZfK x) a' w')→c.wp P Q a w
theorem Zil:∀(l:List Value) (i:Nat) (r:Regs) (t:Nat),rget (ZaI l i r) t=if i≤t then (match l[t-i]? with|some v=>v|none=>rget r t) else rget r t
 | [],i,r,t=>by simp [ZaI]
 | v::l,i,r,t=>by
  rw [ZaI,Zil l (i+1),rget_rput];by_cases h:i≤t
  ·by_cases e:i=t
   ·subst e;simp;intro h;omega
   ·rw [if_pos (show i+1≤t by omega),if_pos h,show t-i=(t-(i+1))+1 by omega,List.getElem?_cons_succ,if_neg e]
  ·rw [if_neg (by omega),if_neg h,if_neg (by omega)]
theorem Zms (t:Nat):rget .e t=undef:=by
 rfl
theorem ZdO {ρ:Ren} {σ:AS} {w:World} {r:Regs} {tmps:Array Value} {g:ResultVar→Sem Value} (g1:∀t,g (.tmp t)=pure (tmps.getD t undef))
  (g2:∀x t,g (.cell x t)=do loadVar t (←asAddr (tmps.getD x undef))) (hR:R G ρ σ w) (hr:RegsRel ρ r tmps):∀{l:List ResultVar} {vs:List Value},Zaj P σ r l=some vs→
  ∃us,(l.mapM g).run P w=.ok us w∧LRel (VRel ρ) vs us
 | [],vs,h=>by cases h;exact ⟨[],rfl,trivial⟩
 | .tmp t::l,vs,h=>by
  simp only [Zaj] at h;split at h
  ·rename_i vs' h';cases h;obtain ⟨us,h1,h2⟩:=ZdO g1 g2 hR hr h';refine ⟨tmps.getD t undef::us,?_,hr t,h2⟩;rw [List.mapM_cons,g1];simp only [Sem.run_bind,Sem.run_pure,Result.andThen_ok,h1]
  ·cases h
 | .cell x t::l,vs,h=>by
  simp only [Zaj] at h;split at h
  ·rename_i v hv;split at h
   ·rename_i vs' h';cases h;obtain ⟨us,h1,h2⟩:=ZdO g1 g2 hR hr h';obtain ⟨v',h3,h4⟩:=Zfn (P:=P) hv hR (hr x);refine ⟨v'::us,?_,h4,h2⟩;have hp:∃y,rget r x=.pointer (some y):=by
     unfold Zat at hv;split at hv
     ·rename_i y e;exact ⟨y,e⟩
     ·cases hv
    obtain ⟨y,hy⟩:=hp;have hx:=hr x;rw [hy] at hx;obtain ⟨b,_,_,e⟩:=vrel_ptr.1 hx;rw [e] at h3;have h5:(g (.cell x t)).run P w=.ok v' w:=by
     rw [g2,e];simpa [Instr.loadAt,Instr.sureAddr,asAddr] using h3
    rw [List.mapM_cons,Sem.run_bind,h5,Result.andThen_ok,Sem.run_bind,h1];rfl
   ·cases h
  ·cases h
theorem Zjr {ρ:Ren} {args args':List Value} {m:Nat} (ha:LRel (VRel ρ) args args'):RegsRel ρ (ZaI args 0 .e) (args'.toArray++Array.replicate m undef):=by
 intro t;rw [Zil,if_pos (zH _),Nat.sub_zero,Zms];simp only [Array.getD_eq_getD_getElem?,Array.getElem?_append,List.size_toArray,List.getElem?_toArray,Array.getElem?_replicate];split
 ·rename_i u hu;obtain ⟨u',h1,h2⟩:=ha.get t hu;have hlt:t<args'.length:=(zE.1 h1).1;rw [if_pos hlt,h1];exact h2
 ·rename_i hu;have hge:args.length≤t:=List.getElem?_eq_none_iff.1 hu;rw [if_neg (by rw [←ha.length];omega)]
  split<;>exact Zb8
theorem Ze8 {τ:Ren} {σ:AS} {w':World} {r:Regs} {tmps:Array Value} {fn:Func} {vs:List Value} (hvs:Zaj P σ r fn.results.toList=some vs) (hR:R G τ σ w') (hr:RegsRel τ r tmps):∃u,(results fn tmps).run P w'=.ok u w'∧VRel τ (Zbw vs) u:=by
 have hrs:=fun (g:ResultVar→Sem Value) (g1:∀t,g (.tmp t)=pure (tmps.getD t undef)) (g2:∀x t,g (.cell x t)=do loadVar t (←asAddr (tmps.getD x undef)))=>
  ZdO (P:=P) g1 g2 hR hr hvs
 have h56:∃us,(results fn tmps).run P w'=.ok (if h:us.toArray.size=1 then us.toArray[0] else .tuple us.toArray) w'∧LRel (VRel τ) vs us:=by
  unfold results;rw [Sem.run_bind,Array.mapM_eq_mapM_toList,Sem.run_map];obtain ⟨us,h5,h6⟩:=hrs (fun x=>match x with | .tmp t=>pure (tmps.getD t undef) | .cell a t=>do loadVar t (←asAddr (tmps.getD a undef))) (fun t=>rfl) (fun x t=>rfl)
  exact ⟨us,by erw [h5];rfl,h6⟩
 obtain ⟨us,h5,h6⟩:=h56;refine ⟨_,h5,?_⟩
 match vs,us,h6 with
 | [],[],_=>exact vrel_tuple.2 ⟨[],trivial,rfl⟩
 | [v1],[u1],h6=>simpa [Zbw] using h6.1
 | v1::v2::vs,u1::u2::us,h6=>simpa [Zbw] using vrel_tuple.2 ⟨_,h6,rfl⟩
theorem ZqE {code:Nat→Code→Regs→AS→Option (Nat×Regs×AS)} (h:ZcN P G code) {f:FuncId} {args:List Value} {σ:AS} {v:Value} {σ':AS} (hc:Zci P code f args σ=some (v,σ')) :
  ∃fn c,P.funcs[f]?=some fn∧fn.body=some c∧∀{ρ:Ren} {w:World} {args':List Value},R G ρ σ w→LRel (VRel ρ) args args'→
   c.wp P (bodyPost P fn fun e w'=>∃v' τ,e=.returned v'∧VRel τ v v'∧Sim G ρ σ w τ σ' w') { tmps:=args'.toArray++Array.replicate (fn.ntmps-args'.toArray.size) undef,defers:=[] } w:=by
 unfold Zci at hc;split at hc
 ·rename_i fn hfn;split at hc
  ·rename_i c hb;split at hc
   ·rename_i hlen;have hlen:args.length≤fn.ntmps:=by simpa [Nat.ble_eq] using hlen
    split at hc
    ·rename_i x r' σ1 hx;split at hc
     ·rename_i hx1;have hx1:x≤1:=by simpa [Nat.ble_eq] using hx1
      split at hc
      ·rename_i vs hvs;cases hc;refine ⟨fn,c,hfn,hb,fun {ρ w args'} hR ha=>?_⟩;refine h _ _ _ _ _ _ _ ρ w _ _ hx hR (Zjr ha) ?_ rfl ?_
       ·simp [←ha.length];omega
       ·intro τ a' w' h1 h2 h3 h4;obtain ⟨u,h5,h6⟩:=Ze8 hvs h4.rel h1
        match x,hx1 with
        | 0,_=>exact ⟨h3,u,h5,u,τ,rfl,h6,h4⟩
        | 1,_=>exact ⟨h3,u,h5,u,τ,rfl,h6,h4⟩
      ·cases hc
     ·cases hc
    ·cases hc
   ·cases hc
  ·cases hc
 ·cases hc
theorem Zdi (hp:ProgOk P) {f:FuncId} {fn:Func} {c:Code} (hfn:P.funcs[f]?=some fn) (hb:fn.body=some c) (args:Array Value) (w:World):(callFunc f args).run P w=.ok (.enter f args) w:=by
 have hne:¬fn.name="runtime.NumGoroutine":=by simpa using hp.names f fn hfn
 simp [callFunc,hfn,hne,hb]
theorem ZfQ (hp:ProgOk P) {code:Nat→Code→Regs→AS→Option (Nat×Regs×AS)} (h:ZcN P G code):ZbC P G (Zci P code):=by
 intro f args σ v σ' ρ w args' hc hR ha;obtain ⟨fn,c,hfn,hb,hw⟩:=ZqE h hc;exact ⟨Zdi hp hfn hb _ _,calls_of_wp hfn hb (hw hR ha)⟩
theorem Zev (hp:ProgOk P) (hk:KOk P K) {code:Nat→Code→Regs→AS→Option (Nat×Regs×AS)} (h:ZcN P G code):ZbC P G (Zca P K code):=by
 intro f args σ v σ' ρ w args' hc hR ha;unfold Zca at hc;split at hc
 ·rename_i u hu;cases hc;exact hk G f args σ v σ' ρ w args' hu hR ha
 ·exact ZfQ hp h f args σ v σ' ρ w args' hc hR ha
def DRel (ρ:Ren) (x:ADef) (d:Deferred):Prop:=∃cap zz,d=⟨.fn (.func x.1) cap,zz⟩∧LRel (VRel ρ) x.2 (zz++cap).toList
theorem DRel.ext {ρ τ:Ren} (h:ρ.le τ) {l:List ADef} {m:List Deferred} (hl:LRel (DRel ρ) l m):LRel (DRel τ) l m:=
 hl.mono fun _ _ ⟨cap,zz,e,hr⟩=>⟨cap,zz,e,hr.mono fun _ _ hv=>hv.ext h⟩
theorem ZlE {ρ:Ren} {σ:AS} {w:World} {r:Regs} {a:Act} {c:Call} {d:ADef} {ty:TypeId} (h:ZrX G r c=some d) (hR:R G ρ σ w) (hr:RegsRel ρ r a.tmps):∃d',(resolve a.eval c ty).run P w=.ok d' w∧DRel ρ d d':=by
 unfold ZrX at h;split at h
 ·rename_i f hcal;split at h
  ·rename_i g first captured hf
   split at h
   ·rename_i vs hvs;cases h;obtain ⟨f',c',h1,h2,e⟩:=vrel_func.1 (Zez hf hR hr);have h3:=ZcU (ρ:=ρ) (a:=a) hvs fun x _ v hx=>Zez hx hR hr;refine ⟨⟨.fn (.func g) c'.toArray,f'.toArray++c.args.map a.eval⟩,?_,_,_,rfl,?_⟩
    ·unfold resolve;rw [hcal];simp only [Deferred.ofValue,e];rfl
    ·simpa using (h1.append h3).append h2
   ·cases h
  ·cases h
 ·cases h
theorem Zjd {callf:FuncId→List Value→AS→Option (Value×AS)} (hc:ZbC P G callf) {n:Nat} {ops:Array Oper} {Q:Exit→Act→World→Prop}:∀(l:List Oper) (r:Regs) (σ:AS) (ds:List ADef) (ρ:Ren) (w:World) (a:Act) {r':Regs} {σ':AS} {ds':List ADef},dOps P G callf n ops l r σ ds=some (r',σ',ds')→
  R G ρ σ w→RegsRel ρ r a.tmps→a.tmps.size=n→LRel (DRel ρ) ds a.defers→
  (∀τ a' w',RegsRel τ r' a'.tmps→a'.tmps.size=n→LRel (DRel τ) ds' a'.defers→Sim G ρ σ w τ σ' w'→Q .normal a' w')→wpList P ops Q l a w
 | [],r,σ,ds,ρ,w,a,r',σ',ds',h,hR,hr,hn,hd,hQ=>by cases h;exact hQ ρ a w hr hn hd (Sim.refl hR)
 | o::l,r,σ,ds,ρ,w,a,r',σ',ds',h,hR,hr,hn,hd,hQ=>by
  have hw:aWanted ops r o=Region.wanted o (yielded ops a.tmps):=ZeM fun _ _ t _ _=>hr t;unfold dOps at h;unfold wpList;rw [←hw];split at h
  ·rename_i hwt;rw [if_pos hwt];split at h
   ·rename_i c hop;split at h
    ·rename_i d hpush;split at h
     ·rename_i r1 hput;obtain ⟨d',h1,h2⟩:=ZlE (P:=P) (ty:=o.type) hpush hR hr;refine .inl ?_;have hex:(execOp a.eval o).run P w=.ok (.defer d') w:=by
       unfold execOp;rw [hop];simp only [Sem.run_bind,h1,Result.andThen_ok];rfl
      unfold Oper.wp;rw [hex,Oper.upon_defer];refine Zjd hc l r1 σ (d::ds) ρ w _ h hR (Zdk (a:={ a with defers:=d'::a.defers }) hput hr Zb8 hn) (by rw [ZcC];exact hn) (by rw [ZbT];exact ⟨h2,hd⟩) hQ
     ·cases h
    ·cases h
   ·split at h
    ·rename_i v σ1 hst;split at h
     ·rename_i r1 hput;refine .inl (ZfY hc hst hR (OpRel.of_regs hR hr) fun v' τ w' hv hs=>?_);exact Zjd hc l r1 σ1 ds τ w' _ h hs.rel (Zdk hput (hr.ext hs.le) hv hn) (by rw [ZcC];exact hn) (by rw [ZbT];exact DRel.ext hs.le hd)
       fun τ' a' w'' h1 h2 h3 h4=>hQ τ' a' w'' h1 h2 h3 (hs.trans h4)
     ·cases h
    ·cases h
  ·rename_i hwt;rw [if_neg hwt];split at h
   ·rename_i r1 hput;exact Zjd hc l r1 σ ds ρ w _ h hR (Zdk hput hr Zb8 hn) (by rw [ZcC];exact hn) (by rw [ZbT];exact hd) hQ
   ·cases h
theorem ZeJ {callf:FuncId→List Value→AS→Option (Value×AS)} (hc:ZbC P G callf) {code:Nat→Code→Regs→AS→Option (Nat×Regs×AS)} (hk:ZcN P G code) {n:Nat}:∀(k:Nat) (c:Code) (r:Regs) (σ:AS) (ds:List ADef) (ρ:Ren) (w:World) (a:Act) (Q:Exit→Act→World→Prop) {x:Nat} {r':Regs} {σ':AS} {ds':List ADef},Zgm P G callf code k n c r σ ds=some (x,r',σ',ds')→
  R G ρ σ w→RegsRel ρ r a.tmps→a.tmps.size=n→LRel (DRel ρ) ds a.defers→
  (∀τ a' w',RegsRel τ r' a'.tmps→a'.tmps.size=n→LRel (DRel τ) ds' a'.defers→Sim G ρ σ w τ σ' w'→Q (ZfK x) a' w')→c.wp P Q a w
 | 0,c,r,σ,ds,ρ,w,a,Q,x,r',σ',ds',h,hR,hr,hn,hd,hQ=>by cases h
 | k+1,c,r,σ,ds,ρ,w,a,Q,x,r',σ',ds',h,hR,hr,hn,hd,hQ=>by
  unfold Zgm at h;split at h
  ·split at h
   ·split at h
    ·rename_i e r1 σ1 ds1 h1;refine wp_seq (ZeJ hc hk k _ _ _ _ ρ w a _ h1 hR hr hn hd fun τ a' w' k1 k2 k3 k4=>?_);split at h
     ·rename_i he;have he:=zK he;subst he;exact ZeJ hc hk k _ _ _ _ τ w' a' Q h k4.rel k1 k2 k3 fun τ' a'' w'' l1 l2 l3 l4=>hQ τ' a'' w'' l1 l2 l3 (k4.trans l4)
     ·rename_i he;cases h;have he:x≠0:=fun h=>he (by rw [h];rfl)
      match x,he with
      | 1,_=>exact hQ τ a' w' k1 k2 k3 k4
      | y+2,_=>exact hQ τ a' w' k1 k2 k3 k4
    ·cases h
   ·split at h
    ·rename_i b hb;have hv:=vrel_bool.1 (Zez hb hR hr);exact wp_cond hv (ZeJ hc hk k _ _ _ _ ρ w a Q h hR hr hn hd hQ)
    ·cases h
   ·rename_i id cb hdf;split at h
    ·rename_i e r1 σ1 ds1 h1;refine wp_block (ZeJ hc hk k _ _ _ _ ρ w a _ h1 hR hr hn hd fun τ a' w' k1 k2 k3 k4=>?_);split at h
     ·rename_i he;have he:=zK he;subst he;cases h;simp only [ZfK,Exit.inBlock,if_true];exact hQ τ a' w' k1 k2 k3 k4
     ·rename_i he;cases h;have he:x≠id+2:=fun h=>he (by rw [h];simp [])
      match x,he with
      | 0,_=>exact hQ τ a' w' k1 k2 k3 k4
      | 1,_=>exact hQ τ a' w' k1 k2 k3 k4
      | y+2,he=>
       simp only [ZfK,Exit.inBlock];rw [if_neg (by omega)]
       exact hQ τ a' w' k1 k2 k3 k4
    ·cases h
   ·refine wp_scope_straight (ZeJ hc hk k _ _ _ _ ρ w a _ h hR hr hn hd fun τ a' w' k1 k2 k3 k4=>?_)
    match x with
    | 0=>exact hQ τ a' w' k1 k2 k3 k4
    | 1=>exact hQ τ a' w' k1 k2 k3 k4
    | y+2=>exact hQ τ a' w' k1 k2 k3 k4
   ·split at h
    ·rename_i r1 σ1 ds1 h1;cases h;exact wp_region_list (Zjd hc _ _ _ _ _ _ _ h1 hR hr hn hd hQ)
    ·cases h
   ·cases h
  ·split at h
   ·rename_i e r1 σ1 h1;cases h;exact hk _ _ _ _ _ _ _ ρ w a Q h1 hR hr hn rfl fun τ a' w' k1 k2 k3 k4=>hQ τ a' w' k1 k2 (by rw [k3];exact DRel.ext k4.le hd) k4
   ·cases h
theorem Zgb {callf:FuncId→List Value→AS→Option (Value×AS)} (hc:ZbC P G callf) {n:Nat} {ops:Array Oper} {cs:List Frame} {Q:Exit→Act→List Frame→World→Prop} {r':Regs} {σ':AS}:∀(l:List Oper) (k:Nat),(∀j,l[j]?=ops[k+j]?)→∀(r:Regs) (σ:AS) (ρ:Ren) (w:World) (a:Act),
  aOps P G callf n ops l r σ=some (r',σ')→R G ρ σ w→RegsRel ρ r a.tmps→a.tmps.size=n→a.defers=[]→
  (∀τ a' w',RegsRel τ r' a'.tmps→a'.tmps.size=n→a'.defers=[]→Sim G ρ σ w τ σ' w'→Q .normal a' cs w')→wpOpsS P ops Q (List.range' k l.length) a cs w
 | [],k,_,r,σ,ρ,w,a,h,hR,hr,hn,hd,hQ=>by cases h;exact hQ ρ a w hr hn hd (Sim.refl hR)
 | o::l,k,hl,r,σ,ρ,w,a,h,hR,hr,hn,hd,hQ=>by
  have ho:ops[k]?=some o:=by simpa using (hl 0).symm
  have hl':∀j,l[j]?=ops[k+1+j]?:=fun j=>by have:=hl (j+1);simpa [Nat.add_assoc,Nat.add_comm 1 j] using this
  have hw:aWanted ops r o=Region.wanted o (yielded ops a.tmps):=ZeM fun _ _ t _ _=>hr t;simp only [aOps,Zab] at h;simp only [List.length_cons,List.range'_succ,wpOpsS,ho];rw [←hw];split at h
  ·rename_i hwt;rw [if_pos hwt];split at h
   ·rename_i v σ1 hst;split at h
    ·rename_i r1 hput;have key:o.wp P a w (fun a' w'=>wpOpsS P ops Q (List.range' (k+1) l.length) a' cs w') (fun e a' w'=>Q e a' cs w'):=
      ZfY hc hst hR (OpRel.of_regs hR hr) fun v' τ w' hv hs=>
       Zgb hc l (k+1) hl' r1 σ1 τ w' _ h hs.rel (Zdk hput (hr.ext hs.le) hv hn) (by rw [ZcC];exact hn) (by rw [ZbT];exact hd)
        fun τ' a' w'' h1 h2 h3 h4=>hQ τ' a' w'' h1 h2 h3 (hs.trans h4)
     unfold Oper.wp at key;split
     ·rename_i w1 hex;rw [hex] at key;exact key.elim
     ·exact key
    ·cases h
   ·cases h
  ·rename_i hwt;rw [if_neg hwt];split at h
   ·rename_i r1 hput;exact Zgb hc l (k+1) hl' r1 σ ρ w _ h hR (Zdk hput hr Zb8 hn) (by rw [ZcC];exact hn) (by rw [ZbT];exact hd) hQ
   ·cases h
theorem Zod {callf:FuncId→List Value→AS→Option (Value×AS)} (hc:ZbC P G callf) {code:Nat→Code→Regs→AS→Option (Nat×Regs×AS)} (hk:ZcN P G code) {f:FuncId} {args:List Value} {σ σ':AS} (h:dRec P G callf code f args σ=some σ') :
  ∃fn c,P.funcs[f]?=some fn∧fn.body=some c∧∀{ρ:Ren} {w:World} {args':List Value},R G ρ σ w→LRel (VRel ρ) args args'→
   CallsD P f args'.toArray .returning w fun e u' w'=>(∃v,e=.returned v)∧u'=.returning∧∃τ,Sim G ρ σ w τ σ' w':=by
 unfold dRec at h;split at h
 ·rename_i fn hfn;split at h
  ·rename_i id ops y hb;split at h
   ·rename_i o l hops;split at h
    ·rename_i hcond;rw [Bool.and_eq_true] at hcond;have hlen:args.length≤fn.ntmps:=by simpa [Nat.ble_eq] using hcond.2
     split at h
     ·rename_i r0 hput;split at h
      ·rename_i r1 σ1 h1;split at h
       ·rename_i x r2 σ2 h2;split at h
        ·rename_i hx1;have hx1:x≤1:=by simpa [Nat.ble_eq] using hx1
         split at h
         ·rename_i vs hvs;cases h;refine ⟨fn,_,hfn,hb,fun {ρ w args'} hR ha=>callsD_of_wpS hfn hb fun c₀ cs hm=>?_⟩;have hc0:({ c₀ with mode:=.returning }:Frame)=c₀:=by rw [←hm]
          have hsize:(args'.toArray++Array.replicate (fn.ntmps-args'.toArray.size) undef).size=fn.ntmps:=by simp [←ha.length];omega
          have hg:o.guard=none∧∃c,o.op=.call c∧c.callee=.builtin .recover∧c.args.size=0:=by
           have h3:=hcond.1;unfold Zrg at h3;split at h3
           ·cases h3
           ·rename_i hg;split at h3
            ·rename_i c hop;split at h3
             ·rename_i hcal;exact ⟨hg,c,hop,hcal,zK h3⟩
             ·cases h3
            ·cases h3
          obtain ⟨hg,c,hop,hcal,hca⟩:=hg;have hex:∀a:Act,(execOp a.eval o).run P w=.ok .recover w:=fun a=>by
           unfold execOp;rw [hop];simp only [resolve,hcal,Sem.run_bind,Sem.run_pure,Result.andThen_ok,invoke];have:c.args=#[]:=Array.eq_empty_of_size_eq_zero hca;rw [this];rfl
          refine wpS_seq (wpS_region ?_);have hsz:ops.size=l.length+1:=by rw [←Array.length_toList,hops];rfl
          have ho:ops[0]?=some o:=by rw [←Array.getElem?_toList,hops];rfl
          have hl':∀j,l[j]?=ops[0+1+j]?:=fun j=>by rw [←Array.getElem?_toList,hops,show 0+1+j=j+1 by omega];rfl
          rw [List.range_eq_range',hsz,List.range'_succ];simp only [wpOpsS,ho];rw [show Region.wanted o (yielded ops (args'.toArray++Array.replicate (fn.ntmps-args'.toArray.size) undef))=true by unfold Region.wanted;rw [hg],if_pos rfl,hex]
          have hrec:recoverD (c₀::cs)=none:=by simp only [recoverD,hm]
          simp only [hrec];refine Zgb hc l (0+1) hl' r0 σ ρ w _ h1 hR (Zdk (a:={ tmps:=args'.toArray++Array.replicate (fn.ntmps-args'.toArray.size) undef,defers:=[] }) hput (Zjr ha) (vrel_nilIface.2 rfl) hsize) (by rw [ZcC];exact hsize) (by rw [ZbT]) fun τ a' w' k1 k2 k3 k4=>?_
          refine wpS_of_wp (hk _ _ _ _ _ _ _ τ w' a' _ h2 k4.rel k1 k2 k3 fun τ' a'' w'' l1 l2 l3 l4=>?_);obtain ⟨u,h5,h6⟩:=Ze8 hvs l4.rel l1
          match x,hx1 with
          | 0,_=>exact ⟨l3,.returning,by rw [hc0],u,h5,⟨u,rfl⟩,rfl,τ',k4.trans l4⟩
          | 1,_=>exact ⟨l3,.returning,by rw [hc0],u,h5,⟨u,rfl⟩,rfl,τ',k4.trans l4⟩
         ·cases h
        ·cases h
       ·cases h
      ·cases h
     ·cases h
    ·cases h
   ·cases h
  ·cases h
 ·cases h
theorem Zfj (hp:ProgOk P) {callf:FuncId→List Value→AS→Option (Value×AS)} (hc:ZbC P G callf) {code:Nat→Code→Regs→AS→Option (Nat×Regs×AS)} (hk:ZcN P G code) {fn:Func} {tmps:Array Value} {r:Regs} {vs:List Value} {σe:AS} (hvs:Zaj P σe r fn.results.toList=some vs) :
  ∀(ds:List ADef) (l:List Deferred) (ρ:Ren) (σ:AS) (w:World) {R':Ending→World→Prop},dRun P G callf code ds σ=some σe→R G ρ σ w→LRel (DRel ρ) ds l→RegsRel ρ r tmps→
   (∀v' τ w',VRel τ (Zbw vs) v'→Sim G ρ σ w τ σe w'→R' (.returned v') w')→Leaves P fn tmps R' l .returning w
 | [],[],ρ,σ,w,R',h,hR,_,hr,hQ=>by
  cases h;obtain ⟨u,h5,h6⟩:=Ze8 hvs hR hr;exact ⟨u,h5,hQ u ρ w h6 (Sim.refl hR)⟩
 | d::ds,d'::l,ρ,σ,w,R',h,hR,hd,hr,hQ=>by
  obtain ⟨⟨cap,zz,e,h1⟩,h2⟩:=hd;subst e;simp only [dRun,Zab] at h;split at h
  ·split at h
   ·rename_i σ1 hd1;obtain ⟨gn,gc,h3,h4,h5⟩:=Zod hc hk hd1;have h6:=h5 hR h1;rw [Array.toArray_toList] at h6;refine leaves_cons (by simp) (Zdi hp h3 h4 _ _) (h6.mono fun e u' w' ⟨⟨v,e1⟩,e2,τ,hs⟩=>?_)
    subst e1 e2;exact Zfj hp hc hk hvs ds l τ σ1 w' h hs.rel (DRel.ext hs.le h2) (hr.ext hs.le) fun v'' τ' w'' k1 k2=>hQ v'' τ' w'' k1 (hs.trans k2)
   ·cases h
  ·split at h
   ·rename_i v σ1 hrun;obtain ⟨gn,gc,h3,h4,h5⟩:=ZqE hk hrun;have h6:=h5 hR h1;rw [Array.toArray_toList] at h6;refine leaves_cons (by simp) (Zdi hp h3 h4 _ _) ((callsD_of_wp h3 h4 h6).mono fun e u' w' ⟨e2,v',τ,e1,_,hs⟩=>?_)
    subst e1 e2;exact Zfj hp hc hk hvs ds l τ σ1 w' h hs.rel (DRel.ext hs.le h2) (hr.ext hs.le) fun v'' τ' w'' k1 k2=>hQ v'' τ' w'' k1 (hs.trans k2)
   ·cases h
 | [],_::_,_,_,_,_,_,_,hd,_,_=>hd.elim
 | _::_,[],_,_,_,_,_,_,hd,_,_=>hd.elim
theorem Zew (hp:ProgOk P) (hk:KOk P K) {code:Nat→Code→Regs→AS→Option (Nat×Regs×AS)} (h:ZcN P G code):ZbC P G (ZbY P K G code):=by
 intro f args σ v σ' ρ w args' hc hR ha;unfold ZbY at hc;split at hc
 ·rename_i u hu;cases hc;exact hk G f args σ v σ' ρ w args' hu hR ha
 rw [Zab] at hc;split at hc
 ·unfold Zjy at hc;split at hc
  ·rename_i fn hfn;split at hc
   ·rename_i c hb;split at hc
    ·rename_i hlen;have hlen:args.length≤fn.ntmps:=by simpa [Nat.ble_eq] using hlen
     split at hc
     ·rename_i x r' σ1 ds hx;split at hc
      ·rename_i hx1;have hx1:x≤1:=by simpa [Nat.ble_eq] using hx1
       split at hc
       ·rename_i σ2 h2;split at hc
        ·rename_i vs hvs;cases hc;refine ⟨Zdi hp hfn hb _ _,calls_of_wp_defers hfn hb ?_⟩;refine ZeJ (Zev hp hk h) h 40 c _ σ [] ρ w _ _ hx hR (Zjr ha) (by simp [←ha.length];omega) trivial fun τ a' w' k1 k2 k3 k4=>?_
         have hlv:Leaves P fn a'.tmps (fun e w'=>∃v' τ,e=.returned v'∧VRel τ (Zbw vs) v'∧Sim G ρ σ w τ σ' w') a'.defers .returning w':=
          Zfj hp (Zev hp hk h) h hvs ds a'.defers τ σ1 w' h2 k4.rel k3 k1 fun v' τ' w'' l1 l2=>⟨v',τ',rfl,l1,k4.trans l2⟩
         match x,hx1 with
         | 0,_=>exact hlv
         | 1,_=>exact hlv
        ·cases hc
       ·cases hc
      ·cases hc
     ·cases hc
    ·cases hc
   ·cases hc
  ·cases hc
 ·exact ZfQ hp h f args σ v σ' ρ w args' hc hR ha
theorem Zh4 (hp:ProgOk P) (hk:KOk P K):∀fuel,ZcN P G (Zbf P K G fuel)∧
  (∀n c r σ x r' σ' ρ w a (Q:Exit→Act→World→Prop) {ds:List Deferred},Zbf P K G fuel n (.loop c) r σ=some (x,r',σ')→R G ρ σ w→RegsRel ρ r a.tmps→a.tmps.size=n→a.defers=ds→
   (∀τ a' w',RegsRel τ r' a'.tmps→a'.tmps.size=n→a'.defers=ds→Sim G ρ σ w τ σ' w'→Q (ZfK x) a' w')→Code.rounds P c Q fuel a w)
 | 0=>⟨by intro n c r σ x r' σ' ρ w a Q ds h;simp [Zbf] at h,by intro n c r σ x r' σ' ρ w a Q ds h;simp [Zbf] at h⟩
 | fuel+1=>by
  obtain ⟨ihA,ihB⟩:=Zh4 hp hk fuel;have B:∀n c r σ x r' σ' ρ w a (Q:Exit→Act→World→Prop) {ds:List Deferred},Zbf P K G (fuel+1) n (.loop c) r σ=some (x,r',σ')→R G ρ σ w→RegsRel ρ r a.tmps→a.tmps.size=n→a.defers=ds→
   (∀τ a' w',RegsRel τ r' a'.tmps→a'.tmps.size=n→a'.defers=ds→Sim G ρ σ w τ σ' w'→Q (ZfK x) a' w')→Code.rounds P c Q (fuel+1) a w:=by
   intro n c r σ x r' σ' ρ w a Q ds h hR hr hn hd hQ;simp only [Zbf,ZdY,cSeq] at h;rw [rounds_succ];split at h
   ·rename_i e r1 σ1 h1;split at h
    ·rename_i he;have he:=zK he;subst he;refine ihA _ _ _ _ _ _ _ ρ w a _ h1 hR hr hn hd fun τ a' w' k1 k2 k3 k4=>?_;exact ihB _ _ _ _ _ _ _ τ w' a' Q h k4.rel k1 k2 k3 fun τ' a'' w'' l1 l2 l3 l4=>hQ τ' a'' w'' l1 l2 l3 (k4.trans l4)
    ·rename_i he;cases h;have he:x≠0:=fun h=>he (by rw [h];rfl)
     refine ihA _ _ _ _ _ _ _ ρ w a _ h1 hR hr hn hd fun τ a' w' k1 k2 k3 k4=>?_
     match x,he with
     | 1,_=>exact hQ τ a' w' k1 k2 k3 k4
     | y+2,_=>exact hQ τ a' w' k1 k2 k3 k4
   ·cases h
  refine ⟨?_,B⟩;intro n c r σ x r' σ' ρ w a Q ds h hR hr hn hd hQ;cases c
  case loop c=>exact wp_loop_rounds (fuel+1) (B n c r σ x r' σ' ρ w a Q h hR hr hn hd hQ)
  all_goals simp only [Zbf,ZdY,cSeq,Zkz,ZkA,Zjh] at h
  case skip=>cases h;exact wp_skip (hQ ρ a w hr hn hd (Sim.refl hR))
  case label=>cases h;exact wp_label (hQ ρ a w hr hn hd (Sim.refl hR))
  case exit=>cases h;exact wp_exit (hQ ρ a w hr hn hd (Sim.refl hR))
  case ret=>cases h;exact wp_ret (hQ ρ a w hr hn hd (Sim.refl hR))
  case seq c1 c2=>
   split at h
   ·rename_i e r1 σ1 h1;refine wp_seq (ihA _ _ _ _ _ _ _ ρ w a _ h1 hR hr hn hd fun τ a' w' k1 k2 k3 k4=>?_);split at h
    ·rename_i he;have he:=zK he;subst he;exact ihA _ _ _ _ _ _ _ τ w' a' Q h k4.rel k1 k2 k3 fun τ' a'' w'' l1 l2 l3 l4=>hQ τ' a'' w'' l1 l2 l3 (k4.trans l4)
    ·rename_i he;cases h;have he:x≠0:=fun h=>he (by rw [h];rfl)
     match x,he with
     | 1,_=>exact hQ τ a' w' k1 k2 k3 k4
     | y+2,_=>exact hQ τ a' w' k1 k2 k3 k4
   ·cases h
  case cond v c1 c2=>
   split at h
   ·rename_i b hb;have hv:=vrel_bool.1 (Zez hb hR hr);exact wp_cond hv (ihA _ _ _ _ _ _ _ ρ w a Q h hR hr hn hd hQ)
   ·cases h
  case block id c=>
   split at h
   ·rename_i e r1 σ1 h1;refine wp_block (ihA _ _ _ _ _ _ _ ρ w a _ h1 hR hr hn hd fun τ a' w' k1 k2 k3 k4=>?_);split at h
    ·rename_i he;have he:=zK he;subst he;cases h;simp only [ZfK,Exit.inBlock,if_true];exact hQ τ a' w' k1 k2 k3 k4
    ·rename_i he;cases h;have he:x≠id+2:=fun h=>he (by rw [h];simp [])
     match x,he with
     | 0,_=>exact hQ τ a' w' k1 k2 k3 k4
     | 1,_=>exact hQ τ a' w' k1 k2 k3 k4
     | y+2,he=>
      simp only [ZfK,Exit.inBlock];rw [if_neg (by omega)]
      exact hQ τ a' w' k1 k2 k3 k4
   ·cases h
  case scope c=>
   refine wp_scope_straight (ihA _ _ _ _ _ _ _ ρ w a _ h hR hr hn hd fun τ a' w' k1 k2 k3 k4=>?_)
   match x with
   | 0=>exact hQ τ a' w' k1 k2 k3 k4
   | 1=>exact hQ τ a' w' k1 k2 k3 k4
   | y+2=>exact hQ τ a' w' k1 k2 k3 k4
  case region id ops draw=>
   cases draw with
   | true=>
    simp only [] at h;split at h
    ·rename_i r1 σ1 h1;cases h;exact Zqv hp.mixed (Zew hp hk ihA) (Zda (ZeN fuel)) h1 hR hr hn hd hQ
    ·cases h
   | false=>
    simp only [] at h;split at h
    ·rename_i r1 σ1 h1;cases h;exact wp_region_list (Zl1 (Zew hp hk ihA) _ _ _ _ _ _ h1 hR hr hn hd hQ)
    ·cases h
  all_goals cases h
theorem Zfo (hp:ProgOk P) (hk:KOk P K) (fuel:Nat):ZbC P G (ZcB P K G fuel):=Zew hp hk (Zh4 hp hk fuel).1
noncomputable def Tbl.defers (K:Tbl) (l:List Nat):Tbl where
 ask:=K.ask
 mono:=K.mono
 dfr:=fun f=>l.any (Nat.beq f)
end code
end Go.Proofs.YteangeffgjolpaaGreatDoor.Abs
