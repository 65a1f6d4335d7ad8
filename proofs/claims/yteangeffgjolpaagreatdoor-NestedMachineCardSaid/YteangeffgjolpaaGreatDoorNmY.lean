/- Steps that are sorted already. -/
import Derived.Test.YteangeffgjolpaaGreatDoorNmSB
import Derived.Test.YteangeffgjolpaaGreatDoorNmR
import Derived.Test.YteangeffgjolpaaGreatDoorNmEx
import Derived.Test.YteangeffgjolpaaGreatDoorNmV
set_option linter.unusedSimpArgs false
set_option linter.unusedVariables false
set_option maxRecDepth 100000
set_option maxHeartbeats 64000000
namespace Go.Proofs.YteangeffgjolpaaGreatDoor.Nest
open Abs
theorem ZlR:∀{l:List Arc} {i:Nat} {x y:Arc},asc l=true→l[i]?=some y→l[i+1]?=some x→Zb2 y x=true
 | [],_,_,_,_,h,_=>by simp at h
 | [a],i,_,_,_,_,h=>by simp at h
 | a::b::l,0,x,y,h,h1,h2=>by
  unfold asc at h;rw [Bool.and_eq_true] at h;simp at h1 h2;rw [←h1,←h2];exact h.1
 | a::b::l,i+1,x,y,h,h1,h2=>by
  unfold asc at h;rw [Bool.and_eq_true] at h;exact ZlR (l:=b::l) (i:=i) h.2 (by simpa using h1) (by simpa using h2)
theorem Zo7 {x y:Arc} (h:Zb2 y x=true):cmpA x y=1:=by
 unfold Zb2 at h;simp only [Bool.or_eq_true,Bool.and_eq_true,decide_eq_true_eq] at h;show orI [cmpI x.1 y.1,cmpI x.2 y.2]=1;rcases h with h|⟨h1,h2⟩
 ·have e:cmpI x.1 y.1=1:=by unfold cmpI;rw [if_neg (show ¬x.1<y.1 by omega),if_pos h]
  simp [orI,e]
 ·have e1:cmpI x.1 y.1=0:=by unfold cmpI;rw [if_neg (show ¬x.1<y.1 by omega),if_neg (show ¬y.1<x.1 by omega)]
  have e2:cmpI x.2 y.2=1:=by unfold cmpI;rw [if_neg (show ¬x.2<y.2 by omega),if_pos h2]
  simp [orI,e1,e2]
def Zpr (cf:FuncId):Prop:=∀{lo lo':Nat} {σ:AS} {cx cy:List Value} {a b:Arc},RSt lo σ cx a→RSt lo' σ cy b→C Tryz.prog Kn 0 cf [.agg cx.toArray,.agg cy.toArray] σ fun v σ'=>v=.int .i64 (cmpA a b)∧Ext σ σ'
def Zsi (cf:FuncId):Prop:=∀{lo lo':Nat} {σ:AS} {cx cy:List Value} {a b:Arc},RSt lo σ cx a→RSt lo' σ cy b→C Tryz.prog Kn 0 cf [.agg cx.toArray,.agg cy.toArray] σ fun v σ'=>v=.bool (cmpA a b == 0)∧Ext σ σ'
theorem stAt {lo:Nat} {σ:AS} {v:Value} {l:List Arc} (h:LV 77 3 (RSt lo) lo σ v l) {i:Nat} {x:Arc} (hi:l[i]?=some x):∃b c cs,v=slc b l.length c∧RSt lo σ cs x∧∀σ',Ext σ σ'→Zat Tryz.prog σ' 77 (.pointer (some ⟨b,i*3,none⟩))=some (.agg cs.toArray):=by
 obtain ⟨b,c,cs,e,h1,h2,h3,h4⟩:=h.at hi;refine ⟨b,c,cs,e,h4,fun σ' e'=>?_⟩;rw [Nat.zero_add] at h3;exact ZbK Tryz.underlying77 rfl (i:=(Tryz.prog.info? 77).get!) (by kernel_rfl) (by rw [show ((Tryz.prog.info? 77).get!).size=3 by kernel_rfl,e'.cells (a:=⟨b,i*3,none⟩) h2];exact h3)
theorem ZnT:Zsi 106:=by
 intro lo lo' σ cx cy a b hx hy;have hx':=id hx;have hy':=id hy;obtain ⟨xn,xc,xm,xd,rfl,-,-⟩:=hx';obtain ⟨yn,yc,ym,yd,rfl,-,-⟩:=hy';show C Tryz.prog Kn 0 _ [vSt a.1 xn xc xm xd,vSt b.1 yn yc ym yd] σ _;refine C_of (kn (by decide)) Tryz.func106 rfl (zD rfl) ?_
 show W _ _ _ 9 _ _ _ _;unfold Tryz.f106;dsimp only;repeat apply Zaa
 apply Zad;intro _;simp +decide only [zq,ZaI,↓Zab,↓reduceIte,aOp,Zbm,aRow];rfl;have e1:=(Ext.new σ ⟨1,77,0,(vSt a.1 xn xc xm xd).cells.toList,[]⟩).trans (Ext.new (σ.new ⟨1,77,0,(vSt a.1 xn xc xm xd).cells.toList,[]⟩) ⟨1,77,0,(vSt b.1 yn yc ym yd).cells.toList,[]⟩);have A1:=(BxAt.new σ 77 (vSt a.1 xn xc xm xd).cells.toList).ext (Ext.new (σ.new ⟨1,77,0,(vSt a.1 xn xc xm xd).cells.toList,[]⟩) ⟨1,77,0,(vSt b.1 yn yc ym yd).cells.toList,[]⟩);have B1:=BxAt.new (σ.new ⟨1,77,0,(vSt a.1 xn xc xm xd).cells.toList,[]⟩) 77 (vSt b.1 yn yc ym yd).cells.toList;generalize hn2:(σ.new ⟨1,77,0,(vSt a.1 xn xc xm xd).cells.toList,[]⟩).next=n2 at B1;generalize hn1:σ.next=n1 at A1;generalize (σ.new ⟨1,77,0,(vSt a.1 xn xc xm xd).cells.toList,[]⟩).new ⟨1,77,0,(vSt b.1 yn yc ym yd).cells.toList,[]⟩=σ1 at e1 A1 B1;have lv:∀(e:Int) (p q u w n:Nat),BxAt σ1 77 n (vSt e p q u w).cells.toList→Zat Tryz.prog σ1 77 (.pointer (some ⟨n,0,none⟩))=some (vSt e p q u w):=fun e p q u w n h=>ZbK Tryz.underlying77 rfl (i:=(Tryz.prog.info? 77).get!) (by kernel_rfl) (by rw [show ((Tryz.prog.info? 77).get!).size=3 by kernel_rfl];exact Zaq h.get rfl (zA _))
 have va:=lv _ _ _ _ _ _ A1;have vb:=lv _ _ _ _ _ _ B1;repeat apply Zaa
 apply ZaF;apply Zay 2;intro _;simp +decide only [zq,List.take,↓Zab,↓reduceIte,aOp,Zag,va,vb];rfl;dsimp only [List.drop];refine ZaV (vs:=[vSt a.1 xn xc xm xd,vSt b.1 yn yc ym yd]) (by simp +decide only [zq,aevs]) (by decide) (C.mono (ZgU (RSt.kept.ext e1 hx) (RSt.kept.ext e1 hy)) ?_)
 rintro u s ⟨rfl,e2⟩;apply ZaG;intro _;simp +decide only [zq,↓Zab,↓reduceIte,aOp,Zah,U.eqII];rfl;refine ZaL ⟨zA _,[.bool (cmpA a b == 0)],?_,rfl,e1.trans e2⟩;simp +decide only [zq,Zaj]
theorem Zrn:Zsi 61:=by
 intro lo lo' σ cx cy a b hx hy;have hx':=id hx;have hy':=id hy;obtain ⟨xn,xc,xm,xd,rfl,-,-⟩:=hx';obtain ⟨yn,yc,ym,yd,rfl,-,-⟩:=hy';show C Tryz.prog Kn 0 _ [vSt a.1 xn xc xm xd,vSt b.1 yn yc ym yd] σ _;refine C_of (kn (by decide)) Tryz.func61 rfl (zD rfl) ?_
 show W _ _ _ 9 _ _ _ _;unfold Tryz.f61;dsimp only;repeat apply Zaa
 apply Zad;intro _;simp +decide only [zq,ZaI,↓Zab,↓reduceIte,aOp,Zbm,aRow];rfl;have e1:=(Ext.new σ ⟨1,77,0,(vSt a.1 xn xc xm xd).cells.toList,[]⟩).trans (Ext.new (σ.new ⟨1,77,0,(vSt a.1 xn xc xm xd).cells.toList,[]⟩) ⟨1,77,0,(vSt b.1 yn yc ym yd).cells.toList,[]⟩);have A1:=(BxAt.new σ 77 (vSt a.1 xn xc xm xd).cells.toList).ext (Ext.new (σ.new ⟨1,77,0,(vSt a.1 xn xc xm xd).cells.toList,[]⟩) ⟨1,77,0,(vSt b.1 yn yc ym yd).cells.toList,[]⟩);have B1:=BxAt.new (σ.new ⟨1,77,0,(vSt a.1 xn xc xm xd).cells.toList,[]⟩) 77 (vSt b.1 yn yc ym yd).cells.toList;generalize hn2:(σ.new ⟨1,77,0,(vSt a.1 xn xc xm xd).cells.toList,[]⟩).next=n2 at B1;generalize hn1:σ.next=n1 at A1;generalize (σ.new ⟨1,77,0,(vSt a.1 xn xc xm xd).cells.toList,[]⟩).new ⟨1,77,0,(vSt b.1 yn yc ym yd).cells.toList,[]⟩=σ1 at e1 A1 B1;have lv:∀(e:Int) (p q u w n:Nat),BxAt σ1 77 n (vSt e p q u w).cells.toList→Zat Tryz.prog σ1 77 (.pointer (some ⟨n,0,none⟩))=some (vSt e p q u w):=fun e p q u w n h=>ZbK Tryz.underlying77 rfl (i:=(Tryz.prog.info? 77).get!) (by kernel_rfl) (by rw [show ((Tryz.prog.info? 77).get!).size=3 by kernel_rfl];exact Zaq h.get rfl (zA _))
 have va:=lv _ _ _ _ _ _ A1;have vb:=lv _ _ _ _ _ _ B1;repeat apply Zaa
 apply ZaF;apply Zay 2;intro _;simp +decide only [zq,List.take,↓Zab,↓reduceIte,aOp,Zag,va,vb];rfl;dsimp only [List.drop];refine ZaV (vs:=[vSt a.1 xn xc xm xd,vSt b.1 yn yc ym yd]) (by simp +decide only [zq,aevs]) (by decide) (C.mono (ZmD (RSt.kept.ext e1 hx) (RSt.kept.ext e1 hy)) ?_)
 rintro u s ⟨rfl,e2⟩;apply ZaG;intro _;simp +decide only [zq,↓Zab,↓reduceIte,aOp,Zah,U.eqII];rfl;refine ZaL ⟨zA _,[.bool (cmpA a b == 0)],?_,rfl,e1.trans e2⟩;simp +decide only [zq,Zaj]
theorem ZrD {cf:FuncId} (hcf:Zpr cf) {lo:Nat} {σ:AS} {v:Value} {l:List Arc} (h:LV 77 3 (RSt lo) lo σ v l) (hasc:asc l=true) (hn:l.length≤12):C Tryz.prog Kn 0 128 [v,.int .i64 0,.int .i64 (l.length:Int),.func (.func cf) #[] #[]] σ fun _ σ'=>Ext σ σ':=by
 obtain ⟨va,vc,rfl⟩:=h.len;refine C_of (kn (by decide)) Tryz.func128 rfl (zD rfl) ?_
 show W _ _ _ 53 _ _ _ _;unfold Tryz.f128;dsimp only;have w01:IntKind.i64.wrap (0+1)=((1:Nat):Int):=by rw [Zas _ (by omega) (by omega)];rfl
 repeat apply Zaa
 apply Zad;intro _;simp +decide only [zq,ZaI,↓Zab,↓reduceIte,aOp,Zah,U.addI,w01];rfl;refine Zao ?_;repeat apply Zaa
 refine Zdc (fun (i:Nat) r s=>1≤i∧i≤l.length+1∧Ext σ s∧rget r 0=.slice va l.length vc∧rget r 1=.int .i64 0∧rget r 2=.int .i64 (l.length:Int)∧rget r 3=.func (.func cf) #[] #[]∧rget r 8=.int .i64 (i:Int)) (fun i=>l.length+1-i) ?_ 1 ?_;rotate_left
 ·refine ⟨zA _,by omega,Ext.refl _,?_,?_,?_,?_,?_⟩<;>simp +decide only [zq]<;>first|exact True.intro|rfl
 rintro i r σ1 ⟨hi1,hi,e1,h0,h1,h2,h3,h8⟩;have w6:IntKind.i64.wrap ((i:Int)+1)=((i+1:Nat):Int):=by rw [Zas _ (by omega) (by omega)];omega
 by_cases hlt:i<l.length
 rotate_left
 ·have d1:decide ((i:Int)<(l.length:Int))=false:=zI (by omega)
  repeat apply Zaa
  apply Zad;intro _;simp +decide only [zq,↓Zab,↓reduceIte,aOp,Zah,h2,h8,d1,U.lssI];rfl;repeat apply Zaa
  refine ZaC (by simp +decide only [zq]) ?_
  refine ZaA ⟨fun h=>(nomatch h),fun _=>?_,fun h1 h2=>absurd rfl h2⟩;refine Zap ⟨zH _,[],rfl,e1⟩
 have d1:decide ((i:Int)<(l.length:Int))=true:=zM (by omega)
 repeat apply Zaa
 apply Zad;intro _;simp +decide only [zq,↓Zab,↓reduceIte,aOp,Zah,h2,h8,d1,U.lssI];rfl;repeat apply Zaa
 refine ZaQ (by simp +decide only [zq]) ?_
 apply Zak;refine ZaM ?_;repeat apply Zaa
 apply Zad;intro _;simp +decide only [zq,↓Zab,↓reduceIte,aOp,h8];rfl;refine Zao ?_;repeat apply Zaa
 refine ZaM (Zbk ?_);have d2:decide ((i:Int)>0)=true:=zM (by omega)
 have w7:IntKind.i64.wrap ((i:Int)-1)=((i-1:Nat):Int):=by rw [Zas _ (by omega) (by omega)];omega
 obtain ⟨x,hx⟩:∃x,l[i]?=some x:=⟨l[i],by simp [hlt]⟩
 obtain ⟨y,hy⟩:∃y,l[i-1]?=some y:=⟨l[i-1]'(by omega),by simp [show i-1<l.length by omega]⟩
 have hgt:=Zo7 (ZlR (i:=i-1) hasc hy (by rw [show i-1+1=i by omega];exact hx))
 obtain ⟨b,c,cx,hv,hcx,ldx⟩:=stAt h hx;obtain ⟨b',c',cy,hv',hcy,ldy⟩:=stAt h hy;rw [hv] at hv' h0;have hbb:b'=b:=by simp only [Value.slice.injEq,Option.some.injEq,Addr.mk.injEq] at hv';exact hv'.1.1.symm
 subst hbb;have ix:=Zi8 (b:=b') (cap:=c) hlt;have iy:=Zi8 (b:=b') (cap:=c) (show i-1<l.length by omega)
 have lx:=ldx _ (e1.trans (Ext.reset σ1));have ly:=ldy _ (e1.trans (Ext.reset σ1));have dneg:decide ((1:Int)<0)=false:=by decide
 repeat apply Zaa
 refine Za8 [] [] (by kernel_rfl) (by kernel_rfl) ?_
 apply Zau 14;intro _;simp +decide only [zq,zr,List.take,aQ,↓Zab,↓reduceIte,aOp,Zah,Zae,Zag,beq_self_eq_true,h0,h1,h3,U.gtrI,U.subI,d2,w7,ix,iy,lx,ly];rfl;dsimp only [List.drop,List.take,List.length];have e2:Ext σ1 (σ1.merge σ1.reset):=(Ext.refl _).merge;generalize σ1.merge σ1.reset=σ2 at e2;refine U.Zmb (fid:=cf) (vs:=[.agg cx.toArray,.agg cy.toArray]) (by simp +decide only [zq]) (by simp +decide only [zq,beq_self_eq_true]) (by simp +decide only [zq,aevs]) (by decide) rfl (C.mono (hcf (RSt.kept.ext (e1.trans (e2.trans (Ext.reset _))) hcx) (RSt.kept.ext (e1.trans (e2.trans (Ext.reset _))) hcy)) ?_)
 rintro w s1 ⟨rfl,e3⟩;refine ⟨e3.quiet,?_⟩;rw [hgt];have e4:=e2.trans e3.merge;generalize σ2.merge s1=σ3 at e4;apply ZaO;intro _;simp +decide only [zq,zr,aQ,↓Zab,↓reduceIte,aOp,Zah,ZaH,beq_self_eq_true,U.lssI,ZaH];rfl;have e5:Ext σ3 (σ3.merge σ3.reset):=(Ext.refl _).merge;generalize σ3.merge σ3.reset=σ4 at e5;have E4:=e1.trans (e4.trans e5);show W _ _ _ 53 _ _ _ _;repeat apply Zaa
 refine ZaC (by simp +decide only [zq,decide_false]) ?_
 refine ZaA ⟨fun h=>(nomatch h),fun _=>⟨fun _=>?_,fun h1 h2=>absurd rfl h2⟩⟩;refine Zap ⟨fun _=>?_,fun h=>absurd rfl h⟩;refine Zao ?_;repeat apply Zaa
 apply Zad;intro _;simp +decide only [zq,↓Zab,↓reduceIte,aOp,Zah,h8,U.addI,w6];rfl;refine Zap ⟨fun _=>⟨i+1,by omega,by omega,by omega,E4,?_,?_,?_,?_,?_⟩,fun h=>(nomatch h),fun h=>absurd rfl h⟩<;>simp +decide only [zq,h0,h1,h2,h3,hv]
theorem Zri {cf:FuncId} (hcf:Zpr cf) {lo:Nat} {σ:AS} {v:Value} {l:List Arc} {k:Int} (h:LV 77 3 (RSt lo) lo σ v l) (hasc:asc l=true) (hn:l.length≤12):C Tryz.prog Kn 0 91 [v,.int .i64 0,.int .i64 (l.length:Int),.int .i64 k,.func (.func cf) #[] #[]] σ fun _ σ'=>Ext σ σ':=by
 refine C_of (kn (by decide)) Tryz.func91 rfl (zD rfl) ?_
 show W _ _ _ 148 _ _ _ _;unfold Tryz.f91;dsimp only;repeat apply Zaa
 apply Zad;intro _;simp +decide only [zq,ZaI,↓Zab,↓reduceIte,aOp];rfl;repeat apply Zaa
 apply Zad;intro _;simp +decide only [zq,↓Zab,↓reduceIte,aOp];rfl;refine Zao ?_;repeat apply Zaa
 have w0:IntKind.i64.wrap ((l.length:Int)-0)=(l.length:Int):=by rw [Zas _ (by omega) (by omega)];omega
 have d1:decide ((l.length:Int)≤12)=true:=zM (by omega)
 refine Zdc (fun (_:Unit) r s=>s=σ∧rget r 0=v∧rget r 1=.int .i64 0∧rget r 2=.int .i64 (l.length:Int)∧rget r 4=.func (.func cf) #[] #[]) (fun _=>0) ?_ () ?_;rotate_left
 ·refine ⟨rfl,?_,?_,?_,?_⟩<;>simp +decide only [zq]<;>first|exact True.intro|rfl
 rintro _ r s ⟨rfl,h0,h1,h2,h4⟩;refine Zao ?_;repeat apply Zaa
 refine ZaM ?_;repeat apply Zaa
 apply Zad;intro _;simp +decide only [zq,↓Zab,↓reduceIte,aOp,Zah,h1,h2,U.subI,w0];rfl;repeat apply Zaa
 apply Zad;intro _;simp +decide only [zq,↓Zab,↓reduceIte,aOp,Zah,U.leqI,d1];rfl;repeat apply Zaa
 refine ZaQ (by simp +decide only [zq]) ?_
 repeat apply Zaa
 apply ZaF;apply Zay 4;intro _;simp +decide only [zq,List.take,↓Zab,↓reduceIte,aOp,h0,h1,h2,h4];rfl;dsimp only [List.drop];refine ZaV (vs:=[v,.int .i64 0,.int .i64 (l.length:Int),.func (.func cf) #[] #[]]) (by simp +decide only [zq,aevs]) (by decide) (C.mono (ZrD hcf h hasc hn) ?_)
 rintro u s1 e1;apply ZaG;intro _;simp +decide only [aOps];rfl;refine Zbj ⟨fun h=>h.elim (fun h=>(nomatch h)) (fun h=>(nomatch h)),fun _ _=>⟨fun h=>(nomatch h),fun h=>(nomatch h),fun _ _=>⟨zA _,[],rfl,e1⟩⟩⟩
theorem ZiX {cf:FuncId} (hcf:Zpr cf):Zl9 cf:=by
 intro lo σ v l h hasc hn;obtain ⟨va,vc,rfl⟩:=h.len;refine C_of (kn (by decide)) Tryz.func57 rfl (zD rfl) ?_
 show W _ _ _ 14 _ _ _ _;unfold Tryz.f57;dsimp only;repeat apply Zaa
 apply Zad;intro _;simp +decide only [zq,ZaI,↓Zab,↓reduceIte,aOp,Zan,aevs,Zaf,Tryz.underlying41,goInt,aLen];rfl;refine Zao ?_;obtain ⟨k,hk⟩:=U.Zoy (σ:=σ) l.length (by omega)
 repeat apply Zaa
 apply ZaF;apply Zay 4;intro _;simp +decide only [zq,List.take,↓Zab,↓reduceIte,aOp,ZcO,Zct,U.Zo2 l.length (by omega)];rfl
 dsimp only [List.drop];refine ZaV (vs:=[.int .u64 (l.length:Int)]) (by simp +decide only [zq,aevs]) (by decide) (C.mono (ZnQ (Q:=fun v s1=>v=.int .i64 k∧s1=σ) hk ⟨rfl,rfl⟩) ?_)
 rintro u s1 ⟨rfl,rfl⟩;apply Zay 1;intro _;simp +decide only [zq,List.take,↓Zab,↓reduceIte,aOp];rfl;dsimp only [List.drop];refine ZaV (vs:=[.slice va l.length vc,.int .i64 0,.int .i64 (l.length:Int),.int .i64 k,.func (.func cf) #[] #[]]) (by simp +decide only [zq,aevs]) (by decide) (C.mono (Zri hcf h hasc hn) ?_)
 rintro u s2 e1;apply ZaG;intro _;simp +decide only [aOps];rfl;refine Zap ⟨zH _,[],rfl,e1⟩
theorem Zje {cf:FuncId} (hcf:Zsi cf):Zmc cf:=by
 intro lo σ v l h hasc hn;obtain ⟨va,vc,rfl⟩:=h.len;refine C_of (kn (by decide)) Tryz.func60 rfl (zD rfl) ?_
 show W _ _ _ 66 _ _ _ _;unfold Tryz.f60;dsimp only;repeat apply Zaa
 apply Zad;intro _;simp +decide only [zq,ZaI,↓Zab,↓reduceIte,aOp];rfl;by_cases h2:l.length<2
 ·have d1:decide ((l.length:Int)<2)=true:=zM (by omega)
  repeat apply Zaa
  apply Zad;intro _;simp +decide only [zq,↓Zab,↓reduceIte,aOp,Zah,Zan,aevs,Zaf,Tryz.underlying41,goInt,aLen,U.lssI,d1];rfl;repeat apply Zaa
  refine ZaQ (by simp +decide only [zq]) ?_
  repeat apply Zaa
  apply Zad;intro _;simp +decide only [zq,↓Zab,↓reduceIte,aOp];rfl;refine Zbj ⟨zA _,[.slice va l.length vc],?_,rfl,Ext.refl _⟩;simp +decide only [zq,Zaj]
 have d1:decide ((l.length:Int)<2)=false:=zI (by omega)
 repeat apply Zaa
 apply Zad;intro _;simp +decide only [zq,↓Zab,↓reduceIte,aOp,Zah,Zan,aevs,Zaf,Tryz.underlying41,goInt,aLen,U.lssI,d1];rfl;repeat apply Zaa
 refine ZaC (by simp +decide only [zq]) ?_
 apply Zak;repeat apply Zaa
 apply Zad;intro _;simp +decide only [zq,↓Zab,↓reduceIte,aOp];rfl;repeat apply Zaa
 refine Zbs (fun (i:Nat) r s=>1≤i∧i≤l.length∧Ext σ s∧rget r 0=.slice va l.length vc∧rget r 1=.func (.func cf) #[] #[]∧rget r 5=.int .i64 (i:Int)) (fun i=>l.length-i) (fun r s=>Ext σ s∧rget r 0=.slice va l.length vc) ?_ ?_ 1 ?_;rotate_left 2
 ·refine ⟨zA _,by omega,Ext.refl _,?_,?_,?_⟩<;>simp +decide only [zq]<;>first|exact True.intro|rfl
 rotate_left
 ·rintro r s ⟨e1,h0⟩;repeat apply Zaa
  apply Zad;intro _;simp +decide only [zq,↓Zab,↓reduceIte,aOp,h0];rfl;refine ZaL ⟨zA _,[.slice va l.length vc],?_,rfl,e1⟩;simp +decide only [zq,Zaj]
 rintro i r σ1 ⟨hi1,hi,e1,h0,h1,h5⟩;have w6:IntKind.i64.wrap ((i:Int)+1)=((i+1:Nat):Int):=by rw [Zas _ (by omega) (by omega)];omega
 by_cases hlt:i<l.length
 rotate_left
 ·have d1:decide ((i:Int)<(l.length:Int))=false:=zI (by omega)
  repeat apply Zaa
  apply Zad;intro _;simp +decide only [zq,↓Zab,↓reduceIte,aOp,Zah,Zan,aevs,Zaf,h0,h5,Tryz.underlying41,goInt,aLen,U.lssI,d1];rfl;repeat apply Zaa
  refine ZaC (by simp +decide only [zq]) ?_
  refine ZaA ⟨fun h=>(nomatch h),fun _=>⟨e1,?_⟩,fun h1 h2=>absurd rfl h2⟩;simp +decide only [zq,h0]
 have d1:decide ((i:Int)<(l.length:Int))=true:=zM (by omega)
 repeat apply Zaa
 apply Zad;intro _;simp +decide only [zq,↓Zab,↓reduceIte,aOp,Zah,Zan,aevs,Zaf,h0,h5,Tryz.underlying41,goInt,aLen,U.lssI,d1];rfl;repeat apply Zaa
 refine ZaQ (by simp +decide only [zq]) ?_
 apply Zak;refine ZaM ?_;have w7:IntKind.i64.wrap ((i:Int)-1)=((i-1:Nat):Int):=by rw [Zas _ (by omega) (by omega)];omega
 obtain ⟨x,hx⟩:∃x,l[i]?=some x:=⟨l[i],by simp [hlt]⟩
 obtain ⟨y,hy⟩:∃y,l[i-1]?=some y:=⟨l[i-1]'(by omega),by simp [show i-1<l.length by omega]⟩
 have hgt:=Zo7 (ZlR (i:=i-1) hasc hy (by rw [show i-1+1=i by omega];exact hx))
 obtain ⟨b,c,cx,hv,hcx,ldx⟩:=stAt h hx;obtain ⟨b',c',cy,hv',hcy,ldy⟩:=stAt h hy;rw [hv] at hv' h0;have hbb:b'=b:=by simp only [Value.slice.injEq,Option.some.injEq,Addr.mk.injEq] at hv';exact hv'.1.1.symm
 subst hbb;have ix:=Zi8 (b:=b') (cap:=c) hlt;have iy:=Zi8 (b:=b') (cap:=c) (show i-1<l.length by omega)
 have lx:=ldx _ (e1.trans (Ext.reset σ1));have ly:=ldy _ (e1.trans (Ext.reset σ1));have hne:((1:Int) == 0)=false:=by decide
 repeat apply Zaa
 refine Za8 [] [] (by kernel_rfl) (by kernel_rfl) ?_
 apply Zau 10;intro _;simp +decide only [zq,zr,List.take,aQ,↓Zab,↓reduceIte,aOp,Zah,Zae,Zag,h0,h1,h5,U.subI,w7,ix,iy,lx,ly];rfl;dsimp only [List.drop,List.take,List.length];have e2:Ext σ1 (σ1.merge σ1.reset):=(Ext.refl _).merge;generalize σ1.merge σ1.reset=σ2 at e2;refine U.Zmb (fid:=cf) (vs:=[.agg cx.toArray,.agg cy.toArray]) (by simp +decide only [zq]) (by simp +decide only [aWanted]) (by simp +decide only [zq,aevs]) (by decide) rfl (C.mono (hcf (RSt.kept.ext (e1.trans (e2.trans (Ext.reset _))) hcx) (RSt.kept.ext (e1.trans (e2.trans (Ext.reset _))) hcy)) ?_)
 rintro w s1 ⟨rfl,e3⟩;refine ⟨e3.quiet,?_⟩;rw [hgt,hne];have e4:=e2.trans e3.merge;generalize σ2.merge s1=σ3 at e4;apply ZaO;intro _;simp +decide only [aQ];rfl;have E4:=e1.trans e4;show W _ _ _ 66 _ _ _ _;refine Zao ?_;repeat apply Zaa
 refine ZaC (by simp +decide only [zq]) ?_
 apply Zak;refine Zap ⟨fun _=>?_,fun h=>absurd rfl h⟩;refine Zao ?_;repeat apply Zaa
 apply Zad;intro _;simp +decide only [zq,↓Zab,↓reduceIte,aOp,Zah,h5,U.addI,w6];rfl;refine Zap ⟨fun _=>⟨i+1,by omega,by omega,by omega,E4,?_,?_,?_⟩,fun h=>(nomatch h),fun h=>absurd rfl h⟩<;>simp +decide only [zq,h0,h1,hv]
open Abs
theorem ZiC {e:Int}:∀{l:List Arc},l.Pairwise (fun a b=>a.1≤b.1)→(∀a∈l,e≤a.1)→l.filter (fun a=>decide (a.1=e))++l.filter (fun a=>decide (a.1≠e))=l
 | [],_,_=>rfl
 | a::l,h,hm=>by
  obtain ⟨h1,h2⟩:=List.pairwise_cons.1 h;have hml:∀b∈l,e≤b.1:=fun b hb=>hm b (List.mem_cons_of_mem _ hb);by_cases ha:a.1=e
  ·have ih:=ZiC h2 hml;simp only [List.filter_cons,ha,decide_true,if_true,ne_eq,not_true,decide_false,Bool.false_eq_true,if_false,List.cons_append];rw [ih]
  ·have ha2:=hm a List.mem_cons_self;have e1:(a::l).filter (fun a=>decide (a.1=e))=[]:=by
    rw [List.filter_eq_nil_iff];intro b hb;rcases List.mem_cons.1 hb with rfl|hb
    ·simpa using ha
    ·have:=h1 b hb;simp;omega
   have e2:(a::l).filter (fun a=>decide (a.1≠e))=a::l:=by
    rw [List.filter_eq_self];intro b hb;rcases List.mem_cons.1 hb with rfl|hb
    ·simpa using ha
    ·have:=h1 b hb;simp;omega
   rw [e1,e2,List.nil_append]
theorem ZhH:∀{E:List Int} {l:List Arc},E.Pairwise (·<·)→l.Pairwise (fun a b=>a.1≤b.1)→(∀a∈l,a.1∈E)→(E.flatMap fun e=>l.filter fun a=>a.1=e)=l
 | [],l,_,_,h=>by
  cases l with
  | nil=>rfl
  | cons a l=>exact absurd (h a List.mem_cons_self) (by simp)
 | e::E,l,hE,hl,h=>by
  obtain ⟨h1,h2⟩:=List.pairwise_cons.1 hE;have hge:∀a∈l,e≤a.1:=fun a ha=>by
   rcases List.mem_cons.1 (h a ha) with h3|h3
   ·omega
   ·have:=h1 _ h3;omega
  have ih:=ZhH (E:=E) (l:=l.filter fun a=>decide (a.1≠e)) h2 (hl.filter _) fun a ha=>by
   obtain ⟨h3,h4⟩:=List.mem_filter.1 ha;rcases List.mem_cons.1 (h a h3) with h5|h5
   ·simp at h4;exact absurd h5 h4
   ·exact h5
  have e2:(E.flatMap fun x=>(l.filter fun a=>decide (a.1≠e)).filter fun a=>a.1=x)=E.flatMap fun x=>l.filter fun a=>a.1=x:=by
   have h5:∀x∈E,((l.filter fun a=>decide (a.1≠e)).filter fun a=>decide (a.1=x))=l.filter fun a=>decide (a.1=x):=fun x hx=>by
    rw [List.filter_filter];refine List.filter_congr fun a _=>?_;have:=h1 x hx;by_cases ha:a.1=x
    ·simp [ha];omega
    ·simp [ha]
   rw [List.flatMap_def,List.flatMap_def,List.map_congr_left h5]
  rw [List.flatMap_cons,←e2,ih];exact ZiC hl hge
theorem ZpL {row:List Arc} {E:List Int} (hE:E.Pairwise (·<·)) (hl:row.Pairwise (fun a b=>a.1≤b.1)) (h:∀a∈row,a.1∈E):outL row E E.length=row:=by
 unfold outL;rw [List.take_length];exact ZhH hE hl h
open Abs
theorem Zp1 {a b:Arc} (h:Zb2 a b=true):a.1≤b.1:=by
 unfold Zb2 at h;simp only [Bool.or_eq_true,Bool.and_eq_true,decide_eq_true_eq] at h;omega
theorem ZqZ {l:List Arc} (h:asc l=true):l.Pairwise (fun a b=>a.1≤b.1):=(asc_pair.1 h).imp fun h=>Zp1 h
theorem ZkF {l:List Arc} {i:Nat} {a:Arc} (h:asc l=true) (hp:∀b∈l,0≤b.1) (ha:l[i]?=some a) (hne:a.1≠0):∀b∈l.drop i,b.1≠0:=fun b hb=>by
 have h1:=ZqZ h;have hlt:=(zE.1 ha).1;have e:=List.drop_eq_getElem_cons hlt;rw [(zE.1 ha).2] at e;have h2:=hp a (zF ha);have h3:(l.drop i).Pairwise (fun a b=>a.1≤b.1):=h1.sublist (List.drop_sublist i l);rw [e] at hb h3;rcases List.mem_cons.1 hb with rfl|hb
 ·exact hne
 ·have:=(List.pairwise_cons.1 h3).1 b hb;omega
structure LOk (L:Lts) (E:List Int):Prop where
 hN:L.length≤6
 hw:∀row∈L,∀a∈row,0≤a.2∧a.2.toNat<L.length
 hl:∀row∈L,row.length≤12
 asc:∀row∈L,asc row=true
 ev:∀row∈L,∀a∈row,a.1∈E
 E0:∀e∈E,0≤e
 El:E.length≤2000
 Es:E.Pairwise (·<·)
theorem LOk.out {L:Lts} {E:List Int} (h:LOk L E) {row:List Arc} (hr:row∈L):outL row E E.length=row:=ZpL h.Es (ZqZ (h.asc row hr)) (h.ev row hr)
theorem LOk.tau {L:Lts} {E:List Int} (h:LOk L E):∀row∈L,∀i a,row[i]?=some a→a.1≠0→∀b∈row.drop i,b.1≠0:=fun row hr _ _ ha hne=>ZkF (h.asc row hr) (fun b hb=>h.E0 _ (h.ev row hr b hb)) ha hne
theorem RArc.kept {E:Nat}:Kept E RArc:=fun _ _ _ _ h _ _=>h
theorem lva_rs {lo:Nat} {σ:AS} {v:Value} {l:List Arc} (h:LV 57 2 RArc lo σ v l):RS 2 RArc σ v l:=by
 obtain ⟨a,c,hv⟩:=h.len;refine ⟨a,c,hv,fun hl=>?_⟩;obtain ⟨x,hx⟩:∃x,l[0]?=some x:=by
  cases l with
  | nil=>exact absurd rfl hl
  | cons x l=>exact ⟨x,rfl⟩
 obtain ⟨b,c1,cs,e1,-,h2,-,-⟩:=h.at hx;rw [hv] at e1;cases e1;refine ⟨b,0,rfl,h2,fun i y hy=>?_⟩;obtain ⟨b',c',cs',e2,-,-,h5,h6⟩:=h.at hy;rw [hv] at e2;cases e2;exact ⟨cs',h5,h6⟩
theorem Zrq {X:List Nat} {σ0 σ s:AS} {lo:Nat} {v:Value} {l:List Arc} (h:LV 57 2 RArc lo σ v l) (k:PFr X σ0 σ s) (hlo:σ0.next≤lo):LV 57 2 RArc lo s v l:=by
 obtain ⟨cs,h1,h2⟩:=h;exact ⟨cs,h1.keep k.nxt fun i ho hi=>k.hi i (zB hlo (h1.own ho).1) hi fun h3=>absurd ((h1.own ho).2.2.2.symm.trans h3.2) (by decide),h2⟩
theorem ZlY {σ:AS}:Zcl Tryz.prog σ 77=some (.pointer (some ⟨σ.next,0,none⟩),σ.new ⟨1,77,0,[.int .i64 0,.slice none 0 0,.slice none 0 0],[]⟩):=by kernel_rfl
theorem Zk5 {σ:AS} {e:Int} {nb nc mb mc:Nat}:ZaK Tryz.prog (σ.new ⟨1,77,0,[.int .i64 0,.slice none 0 0,.slice none 0 0],[]⟩) 77 (.agg #[.int .i64 e,slc nb 2 nc,slc mb 1 mc]) (.pointer (some ⟨σ.next,0,none⟩))=some (dcl σ 77 [.int .i64 0,.slice none 0 0,.slice none 0 0] [.int .i64 e,slc nb 2 nc,slc mb 1 mc]):=
 Zer (n:=3) ⟨(Tryz.prog.info? 77).get!,by kernel_rfl,by kernel_rfl⟩ rfl (by decide) rfl rfl rfl
theorem ZnR:∃inf,Tryz.prog.info? 41=some inf∧inf.zero=some (.slice none 0 0):=⟨(Tryz.prog.info? 41).get!,by kernel_rfl,by kernel_rfl⟩
theorem PFr.sub {X Y:List Nat} {σ0 σ s:AS} (h:PFr X σ0 σ s) (hx:∀x∈X,x∈Y):PFr Y σ0 σ s:=⟨h.nxt,fun i h1 h2=>h.lo i h1 fun h3=>h2 (hx i h3),h.hi,fun m h1 h2 h3=>h.low m h1 (fun x h4=>h2 x (hx x h4)) h3⟩
theorem PFr.merge {X:List Nat} {σ0 σ s:AS} (h:PFr X σ0 σ.reset s) (hlo:σ0.next≤σ.next):PFr X σ0 σ (σ.merge s):=⟨h.nxt,h.lo,h.hi,fun m h1 h2 h3=>Nat.le_min.2 ⟨h3,h.low m h1 h2 (zB h1 hlo)⟩⟩
section
variable {L:Lts} {σm σ0 σ σ' S:AS} {d:MD} {eb nm sm:Nat} {D D':List Nat} {sv sv':Value} {f:Int→Option Value}
theorem ERep.put (h:ERep L σm σ0 d eb nm sm D σ sv f) {k:Nat} (hk:k<D.length) {v:Value} {lo:Nat} (hlo:σ0.next≤lo) (hv:LV 77 3 (RSt lo) lo σ v (L.getD (D.getD k 0) [])) :
  ∃B,Zce Tryz.prog σ 86 (.map (some sm)) (.int .i64 (k:Int)) v=some (σ.put sm B)∧ERep L σm σ0 d eb nm sm D (σ.put sm B) sv (fun j=>if j=(k:Int) then some v else f j):=by
 obtain ⟨mr,B,e,hB,hup,hm⟩:=h.steps.upd Tryz.underlying86 (k:Int) v;cases e;obtain ⟨ne1,ne2⟩:=h.ne;have p:PFr [sm] σ0 σ (σ.put sm B):=PFr.put (by simp) h.lo.2.2.1 B
 refine ⟨B,hup,h.ok,⟨zB h.m.nxt p.nxt,fun i hi=>?_,fun m h1 _=>by rw [h.m0] at h1;omega⟩,h.m0,h.lo,h.hi,h.nx,by rw [AS.get_put,if_neg ne2];exact h.get,?_,h.nums.keep (zA _) fun i ho _=>by cases ho;rw [AS.get_put,if_neg h.lo.2.2.2.symm],hm,fun j w hj=>?_⟩
 ·rw [AS.get_put,if_neg (by have:=h.hi;omega)];exact h.m.get i hi
 ·obtain ⟨cs,k1,k2⟩:=h.st;refine ⟨cs,k1.keep (zA _) fun i ho hi=>?_,fun i x hi=>(k2 i x hi).frk (FrK.of_pfr p (zA _))⟩;rw [AS.get_put,if_neg];rintro rfl;have:=(k1.own ho).1;have:=h.lo.2.2.1;omega
 ·split at hj
  ·rename_i e;cases hj;subst e;exact ⟨by omega,by rw [zW];exact hk,lo,hlo,by rw [zW];exact ZhB hv (FrK.of_pfr p hlo)⟩
  ·obtain ⟨h1,h2,lo',h3,h4⟩:=h.at_ j w hj;exact ⟨h1,h2,lo',h3,ZhB h4 (FrK.of_pfr p h3)⟩
end
theorem Zhx:∀{l:List Arc} {i:Nat} {a:Arc} (D:List Nat),l[i]?=some a→Za5 D (l.take (i+1))=Zdo (Za5 D (l.take i)) a.2.toNat
 | [],_,_,_,h=>by simp at h
 | b::l,0,a,D,h=>by cases h;rfl
 | b::l,i+1,a,D,h=>by
  show Za5 (Zdo D b.2.toNat) (l.take (i+1))=Zdo (Za5 (Zdo D b.2.toNat) (l.take i)) a.2.toNat;exact Zhx _ (by simpa using h)
theorem Zhz (l:List Arc) (i:Nat) (D:List Nat):Za5 D (l.take i) <+: Za5 D l:=by
 have e:∀(l m:List Arc) (D:List Nat),Za5 D (l++m)=Za5 (Za5 D l) m:=fun l=>by
  induction l with
  | nil=>intro m D;rfl
  | cons a l ih=>intro m D;exact ih m _
 have h:=e (l.take i) (l.drop i) D;rw [List.take_append_drop] at h;rw [h];exact (ZcW _ _).1
theorem Znw {L:Lts} {E:List Int} {σm σ0 σ:AS} {d:MD} {eb nm sm k:Nat} {D:List Nat} {sv:Value} {f:Int→Option Value} (O:LOk L E) (hM:Mach σm d L E) (h:ERep L σm σ0 d eb nm sm D σ sv f) (hk:k<D.length) :
  C Tryz.prog Kn 0 34 [.pointer (some ⟨eb,0,none⟩),.int .i64 (k:Int)] σ fun u σ'=>(∃sv' f',ERep L σm σ0 d eb nm sm (askD L D k).1 σ' sv' f'∧(∀j,f j≠none→f' j≠none)∧f' k≠none)∧RowK [eb,nm,sm] σ0 σ' u (askD L D k).2∧PFr [eb,nm,sm] σ0 σ σ':=by
 have ht:D.getD k 0<L.length:=h.ok.lt _ (zF (Zhc hk));obtain ⟨row,hrow⟩:∃row,L[D.getD k 0]?=some row:=⟨L[D.getD k 0],by simp []⟩
 have hgd:L.getD (D.getD k 0) []=row:=by rw [zL,hrow];rfl
 have hrm:row∈L:=zF hrow;have hN:=O.hN;have hrl:=O.hl row hrm;have hwr:=O.hw row hrm;have hn0:=h.nx;have hask:askD L D k=(Za5 D row,row.map fun a=>(a.1,numI (Za5 D row) a.2.toNat)):=by unfold askD;rw [hgd]
 rw [hask];dsimp only;have hlk:=h.steps.look Tryz.underlying86 ZnR rfl (k:Int) true;obtain ⟨xa,xn,xc,xb,hlk2,hcase⟩:∃a n c b,ZbX Tryz.prog σ 86 (.map (some sm)) (.int .i64 (k:Int)) true=some (.tuple #[.slice a n c,.bool b])∧((b=true∧f k=some (.slice a n c))∨(b=false∧f k=none)):=by
  cases hfk:f k with
  | none=>rw [hfk] at hlk;exact ⟨none,0,0,false,hlk,.inr ⟨rfl,rfl⟩⟩
  | some v=>
   rw [hfk] at hlk;obtain ⟨-,-,lo,hlo,hlv⟩:=h.at_ k v hfk;obtain ⟨a,c,rfl⟩:=hlv.len;exact ⟨a,_,c,true,hlk,.inl ⟨rfl,rfl⟩⟩
 refine C_of (kn (by decide)) Tryz.func34 rfl (zD rfl) ?_
 show W _ _ _ 57 _ _ _ _;unfold Tryz.f34;dsimp only;repeat apply Zaa
 apply Zad;intro _;simp +decide only [zq,ZaI,↓Zab,↓reduceIte,aOp];rfl;obtain ⟨sb0,sc0,cs0,hsv,-,hsb,hsc,hR0⟩:=h.st.at (Zhc hk);obtain ⟨tb,tc,rfl,ht0,ht1,ht2,ht3,ht4⟩:=hR0;have hlT:=h.ldT;rw [hsv] at hlT;have ixs:Zal Tryz.prog 37 (slc sb0 D.length sc0) (.int .i64 (k:Int))=some (.pointer (some ⟨sb0,k*1,none⟩)):=by
  have:=ZaD (b:=sb0) (off:=0) (cap:=sc0) (k:=.i64) (inf:=(Tryz.prog.info? 22).get!) (sz:=1) Tryz.underlying37 (by kernel_rfl) (by kernel_rfl) hk
  rwa [Nat.zero_add] at this
 have lds:Zat Tryz.prog σ 22 (.pointer (some ⟨sb0,k*1,none⟩))=some (slc tb 2 tc):=Zaw Tryz.underlying22 rfl (by rw [Nat.zero_add] at hsc;exact hsc)
 repeat apply Zaa
 apply Zad;intro _;simp +decide only [zq,↓Zab,↓reduceIte,aOp,Zac,Zag,Zbb,Zbo,ZrI,h.ldS,Zba,hlk2];rfl;repeat apply Zaa
 apply Zad;intro _;simp +decide only [zq,↓Zab,↓reduceIte,aOp,opUn,flat,ZcO,not_b];rfl;repeat apply Zaa
 refine Zk1 (b:=!xb) (fun r' σ'=>(∃v f' sv' lo,rget r' 5=v∧ERep L σm σ0 d eb nm sm D σ' sv' f'∧f' k=some v∧(∀j,f j≠none→f' j≠none)∧(σ0.next≤lo∧LV 77 3 (RSt lo) lo σ' v row))∧PFr [eb,nm,sm] σ0 σ σ'∧rget r' 0=.pointer (some ⟨eb,0,none⟩)) ?_ (fun hb=>?_) (fun hb=>?_) ?_
 ·simp +decide only [zq]
 ·obtain ⟨rfl,hfk⟩:xb=false∧f k=none:=by
   rcases hcase with ⟨rfl,h1⟩|h1
   ·cases hb
   ·exact h1
  refine Zao ?_;have hQ:=h.ext (Ext.reset σ);have hlTQ:Zat Tryz.prog σ.reset 37 (.pointer (some ⟨eb,3,none⟩))=some (slc sb0 D.length sc0):=hlT;have ldsQ:Zat Tryz.prog σ.reset 22 (.pointer (some ⟨sb0,k*1,none⟩))=some (slc tb 2 tc):=lds;repeat apply Zaa
  refine Za8 [] [] (by kernel_rfl) (by kernel_rfl) ?_
  apply Zau 11;intro _;simp +decide only [zq,zr,List.take,aQ,↓Zab,↓reduceIte,aOp,Zae,Zac,Zag,Zbo,fldE0,hQ.ldM,ZrJ,hlTQ,ixs,ldsQ];rfl;dsimp only [List.drop,List.take,List.length];have e1:Ext σ (σ.merge σ.reset):=(Ext.refl _).merge;generalize σ.merge σ.reset=σ1 at e1;have h1:=h.ext (e1.trans (Ext.reset σ1));have e1r:=e1.trans (Ext.reset σ1);refine Zbx (vs:=[d.val,slc tb 2 tc]) (by simp +decide only [zq,aevs]) (by decide) rfl (C.mono (Zmd (ZiX ZgU) (Zje ZnT) (hM.ext h1.m) ⟨tb,tc,rfl,e1r.lt ht1,by rw [e1r.cells (a:=⟨tb,0,none⟩) ht1];exact ht4⟩ hrow hrl O.E0 O.El (O.out hrm) (O.asc row hrm)) ?_)
  rintro v s ⟨⟨lo,hlo,hlv⟩,e2⟩;refine ⟨e2.quiet,?_⟩;have E2:Ext σ (σ1.merge s):=e1.trans (Ext.merge e2);have hlv2:LV 77 3 (RSt lo) lo (σ1.merge s) v row:=hlv;have hlo:σ1.next≤lo:=hlo;have hlo1:=zB (zB h.nx e1.nxt) hlo;obtain ⟨va,vc,rfl⟩:=hlv.len;generalize σ1.merge s=σ2 at E2 hlv2;apply ZaO;intro _;simp +decide only [zq,zr,aQ,↓Zab,↓reduceIte,aOp];rfl;have e3:Ext σ2 (σ2.merge σ2.reset):=(Ext.refl _).merge;generalize σ2.merge σ2.reset=σ3 at e3;have E3:=E2.trans e3;have hlv3:=hlv2.ext RSt.kept e3;have h3:=h.ext E3;obtain ⟨B,hup,h4⟩:=h3.put hk hlo1 (by rw [hgd];exact hlv3)
  show W _ _ _ 57 _ _ _ _;repeat apply Zaa
  apply Zad;intro _;simp +decide only [zq,↓Zab,↓reduceIte,aOp,Zac,Zag,unn,Zbo,ZrI,h3.ldS,ZbG,hup];rfl;have p3:PFr [eb,nm,sm] σ0 σ3 (σ3.put sm B):=PFr.put (by simp) h3.lo.2.2.1 B
  refine Zap ⟨rfl,⟨.slice va row.length vc,_,sv,lo,?_,h4,if_pos rfl,fun j hj=>?_,hlo1,ZhB hlv3 (FrK.of_pfr p3 hlo1)⟩,(PFr.of_ext E3 h.nx).trans p3 h.nx,?_⟩;rotate_left
  ·split
   ·exact fun h=>nomatch h
   ·exact hj
  all_goals simp +decide only [zq]
 ·obtain ⟨rfl,hfk⟩:xb=true∧f k=some (.slice xa xn xc):=by
   rcases hcase with h1|⟨rfl,h1⟩
   ·exact h1
   ·cases hb
  obtain ⟨-,-,lo,hlo,hlv⟩:=h.at_ k _ hfk;rw [zW,hgd] at hlv;refine Zap ⟨rfl,⟨_,f,sv,lo,?_,h,hfk,fun _ h=>h,hlo,hlv⟩,PFr.refl,?_⟩<;>simp +decide only [zq]
 rintro r σ5 ⟨⟨v,f',sv',lo,h5,h,hfk',hff,hlo,hlv⟩,p5,h0⟩;obtain ⟨va,vc,hve⟩:=hlv.len;rw [hve] at h5;repeat apply Zaa
 apply Zad;intro _;simp +decide only [zq,↓Zab,↓reduceIte,aOp];rfl;repeat apply Zaa
 apply Zad;intro _;simp +decide only [zq,↓Zab,↓reduceIte,aOp,Zan,aevs,Zaf,h5,Tryz.underlying41,goInt,aLen];rfl;have n5:σ0.next≤σ5.next:=h.nx;have hok:DOk L (Za5 D row):=Zem _ _ h.ok fun a ha=>(hwr a ha).2;repeat apply Zaa
 refine Zbs (fun (i:Nat) r σ'=>i≤row.length∧(∃sv',ERep L σm σ0 d eb nm sm (Za5 D (row.take i)) σ' sv' f')∧PFr [eb,nm,sm] σ0 σ5 σ'∧(∃w,rget r 7=w∧LV 57 2 RArc σ5.next σ' w ((row.take i).map fun a=>(a.1,numI (Za5 D row) a.2.toNat)))∧rget r 0=.pointer (some ⟨eb,0,none⟩)∧rget r 39=.slice va row.length vc∧rget r 40=.int .i64 (row.length:Int)∧rget r 41=.int .i64 (i:Int))
  (fun i=>row.length-i) (fun r σ'=>(∃sv',ERep L σm σ0 d eb nm sm (Za5 D row) σ' sv' f')∧PFr [eb,nm,sm] σ0 σ5 σ'∧(∃w,rget r 7=w∧LV 57 2 RArc σ5.next σ' w (row.map fun a=>(a.1,numI (Za5 D row) a.2.toNat)))) ?_ ?_ 0 ?_
 rotate_left 2
 ·simp +decide only [zq,h0];refine ⟨zH _,⟨sv',h⟩,PFr.refl,⟨_,rfl,LV.nil⟩,?_,?_,?_,?_⟩<;>first|exact True.intro|rfl
 rotate_left
 ·rintro r σ6 ⟨⟨sv6,h6⟩,p6,w,h7,hw⟩;repeat apply Zaa
  apply Zad;intro _;simp +decide only [zq,↓Zab,↓reduceIte,aOp,h7];rfl;refine ZaL ⟨zA _,[w],?_,⟨sv6,f',h6,hff,by rw [hfk'];exact fun h=>nomatch h⟩,⟨lva_rs hw,fun _ b off n c e=>.inr ?_⟩,p5.trans p6 hn0⟩
  ·simp +decide only [zq,Zaj]
  ·have hwo:=hw;obtain ⟨cs,q1,q2⟩:=hw;subst e;obtain ⟨c1,c2,⟨hq,-⟩|⟨b',n',vals,hq,-,hq2,hq3,hq4,-⟩⟩:=q1
   ·cases hq
   ·cases hq;exact ⟨zB n5 hq2,by rw [hq4];exact (by decide:(2:Nat)≠3),by rw [hq4];exact (by decide:(57:Nat)≠99),by rw [hq4];exact (by decide:(57:Nat)≠102),by rw [hq4];exact (by decide:(57:Nat)≠22)⟩
 rintro i r σ6 ⟨hi,⟨sv6,h6⟩,p6,⟨w,h7,hw⟩,h0,h39,h40,h41⟩;have w6:IntKind.i64.wrap ((i:Int)+1)=((i+1:Nat):Int):=by rw [Zas _ (by omega) (by omega)];omega
 by_cases hlt:i<row.length
 rotate_left
 ·have d1:decide ((i:Int)<(row.length:Int))=false:=zI (by omega)
  repeat apply Zaa
  apply Zad;intro _;simp +decide only [zq,↓Zab,↓reduceIte,aOp,Zah,h40,h41,U.lssI,d1];rfl;repeat apply Zaa
  refine ZaC (by simp +decide only [zq]) ?_
  refine ZaA ⟨fun h=>(nomatch h),fun _=>⟨⟨sv6,?_⟩,p6,w,?_,?_⟩,fun h1 h2=>absurd rfl h2⟩
  ·rw [zJ (by omega)] at h6;exact h6
  ·simp +decide only [zq,h7]
  ·rw [zJ (by omega)] at hw;exact hw
 have d1:decide ((i:Int)<(row.length:Int))=true:=zM (by omega)
 repeat apply Zaa
 apply Zad;intro _;simp +decide only [zq,↓Zab,↓reduceIte,aOp,Zah,h40,h41,U.lssI,d1];rfl;repeat apply Zaa
 refine ZaQ (by simp +decide only [zq]) ?_
 apply Zak;refine ZaM ?_;obtain ⟨a,ha⟩:∃a,row[i]?=some a:=⟨row[i],by simp [hlt]⟩
 have ha2:=hwr a (zF ha);have hlv6:=ZhB hlv (FrK.of_pfr p6 hlo);obtain ⟨b0,c0,cs0,e0,hRs,hld⟩:=stAt hlv6 ha;have hRs':=hRs;obtain ⟨nb,nc,mb,mc,rfl,⟨a1,a2,a3,a4,a5⟩,-⟩:=hRs;rw [hve] at e0;cases e0;have ld:=hld _ (Ext.refl _);have ix:Zal Tryz.prog 41 (slc b0 row.length vc) (.int .i64 (i:Int))=some (.pointer (some ⟨b0,i*3,none⟩)):=by
  have:=Zi8 (b:=b0) (cap:=vc) hlt
  rwa [Nat.zero_add] at this
 have hmt:=Zhx D ha;have hnum:numI (Zdo (Za5 D (row.take i)) a.2.toNat) a.2.toNat=numI (Za5 D row) a.2.toNat:=by
  unfold numI;have h1:=Zhz row (i+1) D;rw [hmt] at h1;rw [num_pre h1 hok.nd (Zka _ _).2]
 repeat apply Zaa
 apply Zad;intro _;simp +decide only [zq,↓Zab,↓reduceIte,aOp,Zae,Zag,ZaE,unn,h39,h41,ix,ld,ZlY,Zk5];rfl;have ed:=Zcn σ6 77 [.int .i64 0,.slice none 0 0,.slice none 0 0] [.int .i64 a.1,slc nb 2 nc,slc mb 1 mc];have AY:=Zc9 σ6 77 [.int .i64 0,.slice none 0 0,.slice none 0 0] [.int .i64 a.1,slc nb 2 nc,slc mb 1 mc];generalize hab:σ6.next=ab at AY;generalize dcl σ6 77 [.int .i64 0,.slice none 0 0,.slice none 0 0] [.int .i64 a.1,slc nb 2 nc,slc mb 1 mc]=σ7 at ed AY;have ld2:=Zaw (P:=Tryz.prog) (t:=22) Tryz.underlying22 rfl (AY.cell (i:=1) rfl);have hab0:σ0.next≤ab:=by rw [←hab];exact zB n5 p6.nxt
 refine Zao ?_;repeat apply Zaa
 refine Za8 [2] [ab] (by kernel_rfl) (by kernel_rfl) ?_
 apply Zau 2;intro _;simp +decide only [zq,zr,List.take,aQ,↓Zab,↓reduceIte,aOp,Zac,h7,ZgB];rfl;dsimp only [List.drop,List.take,List.length];have e8:Ext σ7 (σ7.merge σ7.reset):=(Ext.refl _).merge;generalize σ7.merge σ7.reset=σ8 at e8;have A8:=AY.ext e8;refine ZaZ (b:=ab) (off:=0) (v:=.int .i64 a.1) (by simp +decide only [zq]) (Zaw Tryz.underlying3 rfl ((A8.ext (Ext.reset σ8)).cell (i:=0) rfl)) (by rw [ZgV,ZgW];simp) A8.lt (by simp [memb]) (by decide) ?_
 have e9:Ext σ8 (σ8.merge σ8.reset):=(Ext.refl _).merge;generalize σ8.merge σ8.reset=σ9 at e9;have A9:=A8.ext (e9.trans (Ext.reset σ9));have ld9:=Zaw (P:=Tryz.prog) (t:=22) Tryz.underlying22 rfl (A9.cell (i:=1) rfl);apply Zau 3;intro _;simp +decide only [zq,zr,List.take,aQ,↓Zab,↓reduceIte,aOp,Zac,Zag,h0,ZfH,ld9];rfl;dsimp only [List.drop,List.take,List.length];have e10:Ext σ9 (σ9.merge σ9.reset):=(Ext.refl _).merge;generalize σ9.merge σ9.reset=σ10 at e10;have E10:=ed.trans (e8.trans (e9.trans e10));have E10r:=E10.trans (Ext.reset σ10);have h10:=h6.ext E10r;have A10:=(A8.ext e9).ext e10;have hst10:RState σ0.next σ10.reset [slc nb 2 nc] a.2.toNat:=by
  have e:=E10r.get nb a2;exact ⟨nb,nc,rfl,zB hlo a1,E10r.lt a2,by rw [e];exact a3,by rw [e];exact a4,by rw [ZbL (a:=⟨nb,0,none⟩) e,a5,Int.toNat_of_nonneg ha2.1]⟩
 refine ZiR (vs:=[.pointer (some ⟨eb,0,none⟩),slc nb 2 nc]) (by simp +decide only [zq,aevs]) (by decide) (by kernel_rfl) (by kernel_rfl) (C.mono (Zmx h10 ha2.2 (by omega) hN hst10) ?_)
 rintro u s ⟨rfl,⟨sv11,h11⟩,p11⟩;have n10:σ0.next≤σ10.next:=zB (zB n5 p6.nxt) E10.nxt;have gab:s.get ab=σ10.get ab:=p11.hi ab hab0 A10.lt fun h2=>by
  have h3:(σ10.reset.get ab).kind=1:=by rw [show σ10.reset.get ab=σ10.get ab from rfl,A10.get]
  rw [h3] at h2;exact absurd h2.1 (by decide)
 refine ⟨fun x hx _=>by rw [List.mem_singleton.1 hx];exact gab,?_⟩
 have P11:PFr [eb,nm] σ0 σ10 (σ10.merge s):=p11.merge n10;have h11:ERep L σm σ0 d eb nm sm (Zdo (Za5 D (row.take i)) a.2.toNat) (σ10.merge s) sv11 f':=h11.fr ⟨zA _,fun _ _ _=>rfl⟩;have hw11:=Zrq (hw.ext RArc.kept E10) P11 n5;have Q11:=p6.trans ((PFr.of_ext E10 (zB n5 p6.nxt)).trans (P11.sub (Y:=[eb,nm,sm]) (by simp)) (zB n5 p6.nxt)) n5
 have n11:σ5.next≤(σ10.merge s).next:=Q11.nxt;have A11:BxAt (σ10.merge s) 77 ab [.int .i64 a.1,slc nb 2 nc,slc mb 1 mc]:=⟨zC A10.lt p11.nxt,gab.trans A10.get⟩;generalize σ10.merge s=σ11 at h11 hw11 Q11 n11 A11;clear P11 gab;rw [hnum];apply Zau 1;intro _;simp +decide only [zq,zr,List.take,aQ,↓Zab,↓reduceIte,aOp,Zbl,ZaN,ZhR];rfl;dsimp only [List.drop,List.take,List.length];have e12:Ext σ11 (σ11.merge σ11.reset):=(Ext.refl _).merge;generalize σ11.merge σ11.reset=σ12 at e12;have hb13:Zaz Tryz.prog σ12.reset 44 1 [(0,vArc (a.1,numI (Za5 D row) a.2.toNat))]=_:=Zhe;apply Zau 1;intro _;simp +decide only [zq,zr,List.take,aQ,↓Zab,↓reduceIte,aOp,Zar,ZaN,hb13];rfl;dsimp only [List.drop,List.take,List.length];have e13:Ext σ12 (σ12.merge (σ12.reset.new ⟨1,57,0,[.int .i64 a.1,.int .i64 (numI (Za5 D row) a.2.toNat)],[]⟩)):=Ext.merge (Ext.new _ _);have B13:BxAt (σ12.merge (σ12.reset.new ⟨1,57,0,[.int .i64 a.1,.int .i64 (numI (Za5 D row) a.2.toNat)],[]⟩)) 57 σ12.next [.int .i64 a.1,.int .i64 (numI (Za5 D row) a.2.toNat)]:=⟨zG _,(AS.get_new σ12.reset _ σ12.reset.next).trans (if_pos rfl)⟩;generalize hlc:σ12.next=lc at B13;generalize σ12.merge (σ12.reset.new ⟨1,57,0,[.int .i64 a.1,.int .i64 (numI (Za5 D row) a.2.toNat)],[]⟩)=σ13 at e13 B13;have E13:=e12.trans e13;have E13r:=E13.trans (Ext.reset σ13);have hw13:=hw11.ext RArc.kept E13r;obtain ⟨v2,s2,q1,q2,q3,q4,q5,q6⟩:=hw13.push (P:=Tryz.prog) (T:=44) el27 RArc.kept (zB n11 E13r.nxt) (x:=(a.1,numI (Za5 D row) a.2.toNat)) (y:=slc lc 1 1) (new:=[.int .i64 a.1,.int .i64 (numI (Za5 D row) a.2.toNat)])
  (ZbV (by rw [(Ext.reset σ13).cells (a:=⟨lc,0,none⟩) B13.lt];exact Zaq B13.get rfl (zA _))) rfl rfl rfl (by rw [List.length_map,zX];omega)
 have hown:∀j,Own w j→σ5.next≤j∧(σ13.reset.get j).kind=2∧(σ13.reset.get j).elem=57:=fun j ho=>by
  have:=hw13.own ho;exact ⟨this.1,this.2.2.1,this.2.2.2⟩
 have A13:=A11.ext E13r;refine Zq2 (v:=v2) (s1:=s2) (by intro callf;simp +decide only [zq,↓reduceIte,aOp,Zan,aevs,Zaf,q1]) (by decide) rfl (by kernel_rfl) (fun x hx hlt=>by
  rw [List.mem_singleton.1 hx];refine q4 ab A13.lt fun ho=>?_;have h1:=(hown ab ho).2.1;rw [A13.get] at h1;exact absurd (show (1:Nat)=2 from h1) (by decide)) ?_
 have n13:=zB n11 E13.nxt;have n5s:=zB n5 (zB p6.nxt E10.nxt);have k14:FrE σ0.next σ13 (σ13.merge s2):=⟨q3,fun i hi hn=>q4 i hn fun ho=>by have:=(hown i ho).1;omega,fun i _ hn _ he=>q4 i hn fun ho=>by
  have h3:=(hown i ho).2.2;have he:(σ13.reset.get i).elem=3∨(σ13.reset.get i).elem=125∨(σ13.reset.get i).elem=77∨(σ13.reset.get i).elem=22:=he;rw [h3] at he;rcases he with he|he|he|he<;>exact absurd he (by decide)⟩
 have h14:=(h11.ext E13).fre k14;have Q13:=Q11.trans (PFr.of_ext E13 (zB n5 n11)) n5;have Q14:PFr [eb,nm,sm] σ0 σ5 (σ13.merge s2):=⟨zB n13 q3,fun i h1 h2=>(q4 i (zC h1 (zB n5 n13)) fun ho=>by have:=(hown i ho).1;omega).trans (Q13.lo i h1 h2),fun i h1 h2 h3=>(q4 i (zC h2 n13) fun ho=>by have:=(hown i ho).1;omega).trans (Q13.hi i h1 h2 h3),fun m h1 h2 h3=>Nat.le_min.2 ⟨Q13.low m h1 h2 h3,q5 m (zB h1 n5) (zB h1 (zB n5 n13))⟩⟩
 have hw14:LV 57 2 RArc σ5.next (σ13.merge s2) v2 ((row.take i).map (fun a=>(a.1,numI (Za5 D row) a.2.toNat))++[(a.1,numI (Za5 D row) a.2.toNat)]):=q2;generalize σ13.merge s2=σ14 at h14 Q14 hw14;apply ZaO;intro _;simp +decide only [zq,zr,aQ,↓Zab,↓reduceIte,aOp];rfl;have e15:Ext σ14 (σ14.merge σ14.reset):=(Ext.refl _).merge;generalize σ14.merge σ14.reset=σ15 at e15;show W _ _ _ 57 _ _ _ _;refine Zap ⟨fun _=>?_,fun h=>absurd rfl h⟩;refine Zao ?_;repeat apply Zaa
 apply Zad;intro _;simp +decide only [zq,↓Zab,↓reduceIte,aOp,Zah,h41,U.addI,w6];rfl;refine Zap ⟨fun _=>⟨i+1,by omega,hlt,⟨sv11,?_⟩,Q14.trans (PFr.of_ext e15 (zB n5 Q14.nxt)) n5,⟨v2,?_,?_⟩,?_,?_,?_,?_⟩,fun h=>(nomatch h),fun h=>absurd rfl h⟩
 rotate_left 2
 ·rw [show (row.take (i+1)).map (fun a:Arc=>(a.1,numI (Za5 D row) a.2.toNat))=(row.take i).map (fun a=>(a.1,numI (Za5 D row) a.2.toNat))++[(a.1,numI (Za5 D row) a.2.toNat)] by rw [zT,ha];simp]
  exact hw14.ext RArc.kept e15
 rotate_right 2
 ·rw [hmt];exact h14.ext e15
 all_goals simp +decide only [zq,h0,h39,h40]
open Abs
structure EdgeAt (σ:AS) (b:Nat) (x:Arc):Prop where
 lt:b<σ.next
 get:σ.get b=⟨1,102,0,(vArc x).cells.toList,[]⟩
theorem EdgeAt.ext {σ σ':AS} {b:Nat} {x:Arc} (h:EdgeAt σ b x) (e:Ext σ σ'):EdgeAt σ' b x:=⟨e.lt h.lt,by rw [e.get b h.lt,h.get]⟩
theorem EdgeAt.from_ {σ:AS} {b:Nat} {x:Arc} (h:EdgeAt σ b x):Zat Tryz.prog σ 3 (.pointer (some ⟨b,0,none⟩))=some (.int .i64 x.1):=Zaw Tryz.underlying3 rfl (Zaq h.get rfl (Nat.le_succ _))
theorem EdgeAt.index {σ:AS} {b:Nat} {x:Arc} (h:EdgeAt σ b x):Zat Tryz.prog σ 3 (.pointer (some ⟨b,1,none⟩))=some (.int .i64 x.2):=Zaw Tryz.underlying3 rfl (Zaq h.get rfl (zA _))
noncomputable def Zny (σ:AS) (x:Arc):AS:=(σ.new ⟨1,102,0,[.int .i64 0,.int .i64 0],[]⟩).put σ.next ⟨1,102,0,(vArc x).cells.toList,[]⟩
theorem Zks (σ:AS) (x:Arc):Ext σ (Zny σ x):=Ext.put (Ext.new σ _) (zA _) _
theorem ZmY (σ:AS) (x:Arc):EdgeAt (Zny σ x) σ.next x:=⟨zG _,by unfold Zny;rw [AS.get_put,if_pos rfl]⟩
theorem Zpj {σ:AS}:Zcl Tryz.prog σ 102=some (.pointer (some ⟨σ.next,0,none⟩),σ.new ⟨1,102,0,[.int .i64 0,.int .i64 0],[]⟩):=by kernel_rfl
theorem Zn3 {σ:AS} {x:Arc}:ZaK Tryz.prog (σ.new ⟨1,102,0,[.int .i64 0,.int .i64 0],[]⟩) 102 (vArc x) (.pointer (some ⟨σ.next,0,none⟩))=some (Zny σ x):=by
 obtain ⟨inf,hi,hs⟩:∃inf,Tryz.prog.info? 102=some inf∧inf.size=2:=⟨(Tryz.prog.info? 102).get!,by kernel_rfl,by kernel_rfl⟩
 have hz:Nat.beq (vArc x).cells.size 2=true:=rfl;have g:(σ.new ⟨1,102,0,[.int .i64 0,.int .i64 0],[]⟩).get σ.next=⟨1,102,0,[.int .i64 0,.int .i64 0],[]⟩:=by rw [AS.get_new,if_pos rfl]
 unfold ZaK;simp only [hi,hs,hz,if_true];unfold Zbc;simp only [g];rfl
theorem ZqL {σ:AS} {b off:Nat} {x:Arc} (h:Zav σ ⟨b,off,none⟩ 2=some [.int .i64 x.1,.int .i64 x.2]):Zat Tryz.prog σ 102 (.pointer (some ⟨b,off,none⟩))=some (vArc x):=
 ZbK Tryz.underlying102 rfl (i:=(Tryz.prog.info? 102).get!) (by kernel_rfl) (by rw [show ((Tryz.prog.info? 102).get!).size=2 by kernel_rfl];exact h)
theorem ZqP {b:Nat}:Za4 Tryz.prog 102 0 (.pointer (some ⟨b,0,none⟩))=some (.pointer (some ⟨b,0,none⟩)):=by kernel_rfl
theorem ZqO {b:Nat}:Za4 Tryz.prog 102 1 (.pointer (some ⟨b,0,none⟩))=some (.pointer (some ⟨b,1,none⟩)):=by kernel_rfl
theorem idx51 {b off len cap i:Nat} (h:i<len):Zal Tryz.prog 97 (.slice (some ⟨b,off,none⟩) len cap) (.int .i64 (i:Int))=some (.pointer (some ⟨b,off+i*2,none⟩)):=
 ZaD (inf:=(Tryz.prog.info? 102).get!) Tryz.underlying97 (by kernel_rfl) (by kernel_rfl) h
theorem ZiE {l:List Arc} {i:Nat} {e:Arc} (h:l[i]?=some e):((cellsOf l).drop (i*2)).take 2=[.int .i64 e.1,.int .i64 e.2]:=by
 obtain ⟨h1,h2⟩:=zE.1 h;have e1:cellsOf (l.drop i)=(cellsOf l).drop (i*2):=(ZcK l i).symm;rw [←e1,List.drop_eq_getElem_cons h1,h2];rfl
theorem LV.lower {α:Type} {E z lo lo':Nat} {R:AS→List Value→α→Prop} {σ:AS} {v:Value} {l:List α} (h:LV E z R lo σ v l) (hl:lo'≤lo):LV E z R lo' σ v l:=by
 obtain ⟨cs,⟨h1,h2,h3⟩,h4⟩:=h;refine ⟨cs,⟨h1,h2,h3.imp_right fun ⟨b,n,vals,e1,e2,e3,e4⟩=>⟨b,n,vals,e1,e2,by omega,e4⟩⟩,h4⟩
theorem RSt.lower {lo lo':Nat} {σ:AS} {cs:List Value} {a:Arc} (h:RSt lo σ cs a) (hl:lo'≤lo):RSt lo' σ cs a:=by
 obtain ⟨nb,nc,mb,mc,h,⟨a1,a2⟩,b1,b2⟩:=h;exact ⟨nb,nc,mb,mc,h,⟨by omega,a2⟩,by omega,b2⟩
theorem ZmX {σ:AS} {lo b1 cap:Nat} {base:Option Addr} {L:Lts} {D:List Nat} {pv:Value} {l:List Arc} (hD:D=List.range L.length) (hB:BoxAt σ b1 (.slice base L.length cap)) (hr:RS 1 RRow σ (.slice base L.length cap) L) (hp:Stk lo 102 2 σ pv l.length (cellsOf l)) (hl:l.length≤10000) (hok:∀e∈l,EdOk L D e) :
  C Tryz.prog Kn 0 42 [pv,.pointer (some ⟨b1,0,none⟩)] σ fun v σ'=>LV 57 2 RArc σ.next σ' v (l.map (arcD L D))∧Ext σ σ':=by
 obtain ⟨pa,pc,hpv⟩:=hp.len;subst hpv;refine C_of (kn (by decide)) Tryz.func42 rfl (zD rfl) ?_
 show W _ _ _ 28 _ _ _ _;unfold Tryz.f42;dsimp only;repeat apply Zaa
 apply Zad;intro _;simp +decide only [zq,ZaI,↓Zab,↓reduceIte,aOp];rfl;repeat apply Zaa
 apply Zad;intro _;simp +decide only [zq,↓Zab,↓reduceIte,aOp];rfl;repeat apply Zaa
 apply Zad;intro _;simp +decide only [zq,↓Zab,↓reduceIte,aOp,Zan,aevs,Zaf,Tryz.underlying97,goInt,aLen];rfl;repeat apply Zaa
 refine Zbs (fun (i:Nat) r s=>i≤l.length∧Ext σ s∧(∃v,rget r 4=v∧LV 57 2 RArc σ.next s v ((l.take i).map (arcD L D)))∧rget r 1=.pointer (some ⟨b1,0,none⟩)∧rget r 7=.slice pa l.length pc∧rget r 8=.int .i64 (l.length:Int)∧rget r 9=.int .i64 (i:Int)) (fun i=>l.length-i) (fun r s=>Ext σ s∧∃v,rget r 4=v∧LV 57 2 RArc σ.next s v (l.map (arcD L D))) ?_ ?_ 0 ?_;rotate_left 2
 ·simp +decide only [zq];refine ⟨zH _,Ext.refl _,⟨_,rfl,LV.nil⟩,?_,?_,?_,?_⟩<;>first|exact True.intro|rfl
 rotate_left
 ·rintro r s ⟨e1,v,h4,hv⟩;repeat apply Zaa
  apply Zad;intro _;simp +decide only [zq,↓Zab,↓reduceIte,aOp,h4];rfl;refine ZaL ⟨zA _,[v],?_,hv,e1⟩;simp +decide only [zq,Zaj]
 rintro i r σ1 ⟨hi,e1,⟨v,h4,hv⟩,hx,h7,h8,h9⟩;have w6:IntKind.i64.wrap ((i:Int)+1)=((i+1:Nat):Int):=by rw [Zas _ (by omega) (by omega)];omega
 by_cases hlt:i<l.length
 rotate_left
 ·have d1:decide ((i:Int)<(l.length:Int))=false:=zI (by omega)
  repeat apply Zaa
  apply Zad;intro _;simp +decide only [zq,↓Zab,↓reduceIte,aOp,Zah,h8,h9,U.lssI,d1];rfl;repeat apply Zaa
  refine ZaC (by simp +decide only [zq]) ?_
  refine ZaA ⟨fun h=>(nomatch h),fun _=>⟨e1,v,?_,?_⟩,fun h1 h2=>absurd rfl h2⟩
  ·simp +decide only [zq,h4]
  ·rw [zJ (by omega)] at hv;exact hv
 have d1:decide ((i:Int)<(l.length:Int))=true:=zM (by omega)
 repeat apply Zaa
 apply Zad;intro _;simp +decide only [zq,↓Zab,↓reduceIte,aOp,Zah,h8,h9,U.lssI,d1];rfl;repeat apply Zaa
 refine ZaQ (by simp +decide only [zq]) ?_
 apply Zak;refine ZaM ?_;obtain ⟨e,he⟩:∃e,l[i]?=some e:=⟨l[i],by simp [hlt]⟩
 have htk:(l.take (i+1)).map (arcD L D)=(l.take i).map (arcD L D)++[arcD L D e]:=by rw [zT,he];simp
 obtain ⟨pb,pc2,hpe,hpb,hcell⟩:=StkC.at (.inr hp) (i:=i) hlt;rw [ZiE he] at hcell;cases hpe;have hld:Zat Tryz.prog σ1 102 (.pointer (some ⟨pb,i*2,none⟩))=some (vArc e):=ZqL (by rw [e1.cells (a:=⟨pb,i*2,none⟩) hpb];exact hcell)
 have ixe:Zal Tryz.prog 97 (slc pb l.length pc) (.int .i64 (i:Int))=some (.pointer (some ⟨pb,i*2,none⟩)):=by
  have:=idx51 (b:=pb) (off:=0) (cap:=pc) hlt
  rwa [Nat.zero_add] at this
 repeat apply Zaa
 apply Zad;intro _;simp +decide only [zq,↓Zab,↓reduceIte,aOp,Zae,Zag,ZaE,unn,h7,h9,ixe,hld,Zpj,Zn3];rfl;have AY:=ZmY σ1 e;have ed:=Zks σ1 e;generalize hab:σ1.next=ab at AY;generalize Zny σ1 e=σ2 at AY ed;have eQ:=e1.trans (ed.trans (Ext.reset σ2));have AQ:=AY.ext (Ext.reset σ2);have frm:Zat Tryz.prog σ2.reset 3 (.pointer (some ⟨ab,0,none⟩))=some (.int .i64 e.1):=AQ.from_;have idx:Zat Tryz.prog σ2.reset 3 (.pointer (some ⟨ab,1,none⟩))=some (.int .i64 e.2):=AQ.index;obtain ⟨ek1,ek2,ek3,ek4⟩:=hok e (zF he);have ek3:e.1.toNat<L.length:=by rw [hD,List.length_range] at ek3;exact ek3
 have edg:D.getD e.1.toNat 0=e.1.toNat:=by rw [hD,zL,List.getElem?_range ek3];rfl
 rw [edg] at ek4;obtain ⟨row,hrow⟩:∃row,L[e.1.toNat]?=some row:=⟨L[e.1.toNat],by simp [ek3]⟩
 have hgd:L.getD e.1.toNat []=row:=by rw [zL,hrow];rfl
 rw [hgd] at ek4;obtain ⟨hlen,b0,off0,rv,rfl,-,hrl2,hrv⟩:=ZiZ hr hrow;obtain ⟨rb,rc,rfl,-⟩:=id hrv;have ix1:Zal Tryz.prog 25 (.slice (some ⟨b0,off0,none⟩) L.length cap) (.int .i64 e.1)=some (.pointer (some ⟨b0,off0+e.1.toNat*1,none⟩)):=by
  have:=Zia (b:=b0) (off:=off0) (cap:=cap) ek3;rw [show ((e.1.toNat:Nat):Int)=e.1 by omega] at this;exact this
 obtain ⟨y,hy⟩:∃y,row[e.2.toNat]?=some y:=⟨row[e.2.toNat],by simp [ek4]⟩
 obtain ⟨-,rb1,roff,rfl,-,hat⟩:=Zfm hrv hy;have ix2:Zal Tryz.prog 44 (.slice (some ⟨rb1,roff,none⟩) row.length rc) (.int .i64 e.2)=some (.pointer (some ⟨rb1,roff+e.2.toNat*2,none⟩)):=by
  have:=Zfh (b:=rb1) (off:=roff) (cap:=rc) ek4;rw [show ((e.2.toNat:Nat):Int)=e.2 by omega] at this;exact this
 have hyD:arcD L D e=y:=by unfold arcD;rw [edg,hgd,zL,hy];rfl
 have BQ:=hB.ext eQ;refine Zao ?_;repeat apply Zaa
 refine Za8 [] [] (by kernel_rfl) (by kernel_rfl) ?_
 apply Zau 11;intro _;simp +decide only [zq,zr,List.take,aQ,↓Zab,↓reduceIte,aOp,Zae,Zac,Zag,h4,hx,ZqP,ZqO,frm,idx,fldL,BQ.out,ix1,hrl2 _ eQ,ix2,(hat _ eQ).1];rfl;dsimp only [List.drop,List.take,List.length];have f3:Ext σ2 (σ2.merge σ2.reset):=(Ext.refl _).merge;generalize σ2.merge σ2.reset=σ3 at f3;apply Zau 1;intro _;simp +decide only [zq,zr,List.take,aQ,↓Zab,↓reduceIte,aOp,Zar,ZaN,Zhe];rfl;dsimp only [List.drop,List.take,List.length];have f4:Ext σ3 (σ3.merge (σ3.reset.new ⟨1,57,0,[.int .i64 y.1,.int .i64 y.2],[]⟩)):=Ext.merge (Ext.new _ _);have B4:BxAt (σ3.merge (σ3.reset.new ⟨1,57,0,[.int .i64 y.1,.int .i64 y.2],[]⟩)) 57 σ3.next [.int .i64 y.1,.int .i64 y.2]:=⟨zG _,(AS.get_new σ3.reset _ σ3.reset.next).trans (if_pos rfl)⟩;generalize hlc:σ3.next=lc at B4;generalize σ3.merge (σ3.reset.new ⟨1,57,0,[.int .i64 y.1,.int .i64 y.2],[]⟩)=σ4 at f4 B4;have f24:=f3.trans (f4.trans (Ext.reset σ4));have f14:=ed.trans f24;have e4r:=e1.trans f14;have hv4:=hv.ext RArc.kept f14;obtain ⟨v2,s2,q1,q2,q3,q4,q5,q6⟩:=hv4.push (P:=Tryz.prog) (T:=44) el27 RArc.kept (e4r.nxt) (x:=arcD L D e) (y:=slc lc 1 1) (new:=[.int .i64 y.1,.int .i64 y.2])
  (ZbV (by rw [(Ext.reset σ4).cells (a:=⟨lc,0,none⟩) B4.lt];exact Zaq B4.get rfl (zA _))) rfl rfl (by rw [hyD];rfl) (by rw [List.length_map,zX];omega)
 have E5:Ext σ s2:=Zbt e4r q3 q4 q5 fun q hq=>(hv4.own hq).1;refine Lg_op (v:=v2) (s1:=s2) (by intro callf;simp +decide only [zq,↓reduceIte,aOp,Zan,aevs,Zaf,q1]) (by decide) (by kernel_rfl) ?_
 have E6:Ext σ (σ4.merge s2):=ZfJ (σ:=σ4) (e1.trans (ed.trans (f3.trans f4))) E5;have hv6:LV 57 2 RArc σ.next (σ4.merge s2) v2 ((l.take i).map (arcD L D)++[arcD L D e]):=q2;generalize σ4.merge s2=σ6 at E6 hv6;apply ZaO;intro _;simp +decide only [zq,zr,aQ,↓Zab,↓reduceIte,aOp];rfl;have f7:Ext σ6 (σ6.merge σ6.reset):=(Ext.refl _).merge;generalize σ6.merge σ6.reset=σ7 at f7;show W _ _ _ 28 _ _ _ _;refine Zap ⟨fun _=>?_,fun h=>absurd rfl h⟩;refine Zao ?_;repeat apply Zaa
 apply Zad;intro _;simp +decide only [zq,↓Zab,↓reduceIte,aOp,Zah,h9,U.addI,w6];rfl;refine Zap ⟨fun _=>⟨i+1,by omega,hlt,E6.trans f7,⟨v2,?_,?_⟩,?_,?_,?_,?_⟩,fun h=>(nomatch h),fun h=>absurd rfl h⟩
 rotate_left
 ·rw [htk];exact hv6.ext RArc.kept f7
 all_goals simp +decide only [zq,hx,h7,h8]
theorem ZqH {L:Lts} {σm σ0 σ:AS} {d:MD} {eb nm sm lo0:Nat} {D:List Nat} {sv pv:Value} {f:Int→Option Value} {l:List Arc} (h:ERep L σm σ0 d eb nm sm D σ sv f) (hp:Stk lo0 102 2 σ pv l.length (cellsOf l)) (hl:l.length≤10000) (hok:∀e∈l,EdOk L D e∧f e.1≠none) :
  C Tryz.prog Kn 0 39 [.pointer (some ⟨eb,0,none⟩),pv] σ fun v σ'=>LV 77 3 (RSt σ0.next) σ.next σ' v (l.map (arcD L D))∧Ext σ σ':=by
 obtain ⟨pa,pc,hpv⟩:=hp.len;subst hpv;refine C_of (kn (by decide)) Tryz.func39 rfl (zD rfl) ?_
 show W _ _ _ 30 _ _ _ _;unfold Tryz.f39;dsimp only;repeat apply Zaa
 apply Zad;intro _;simp +decide only [zq,ZaI,↓Zab,↓reduceIte,aOp];rfl;repeat apply Zaa
 apply Zad;intro _;simp +decide only [zq,↓Zab,↓reduceIte,aOp];rfl;repeat apply Zaa
 apply Zad;intro _;simp +decide only [zq,↓Zab,↓reduceIte,aOp,Zan,aevs,Zaf,Tryz.underlying97,goInt,aLen];rfl;repeat apply Zaa
 refine Zbs (fun (i:Nat) r s=>i≤l.length∧Ext σ s∧(∃v,rget r 5=v∧LV 77 3 (RSt σ0.next) σ.next s v ((l.take i).map (arcD L D)))∧rget r 0=.pointer (some ⟨eb,0,none⟩)∧rget r 8=.slice pa l.length pc∧rget r 9=.int .i64 (l.length:Int)∧rget r 10=.int .i64 (i:Int)) (fun i=>l.length-i) (fun r s=>Ext σ s∧∃v,rget r 5=v∧LV 77 3 (RSt σ0.next) σ.next s v (l.map (arcD L D))) ?_ ?_ 0 ?_;rotate_left 2
 ·simp +decide only [zq];refine ⟨zH _,Ext.refl _,⟨_,rfl,LV.nil⟩,?_,?_,?_,?_⟩<;>first|exact True.intro|rfl
 rotate_left
 ·rintro r s ⟨e1,v,h4,hv⟩;repeat apply Zaa
  apply Zad;intro _;simp +decide only [zq,↓Zab,↓reduceIte,aOp,h4];rfl;refine ZaL ⟨zA _,[v],?_,hv,e1⟩;simp +decide only [zq,Zaj]
 rintro i r σ1 ⟨hi,e1,⟨v,h4,hv⟩,hx,h7,h8,h9⟩;have w6:IntKind.i64.wrap ((i:Int)+1)=((i+1:Nat):Int):=by rw [Zas _ (by omega) (by omega)];omega
 by_cases hlt:i<l.length
 rotate_left
 ·have d1:decide ((i:Int)<(l.length:Int))=false:=zI (by omega)
  repeat apply Zaa
  apply Zad;intro _;simp +decide only [zq,↓Zab,↓reduceIte,aOp,Zah,h8,h9,U.lssI,d1];rfl;repeat apply Zaa
  refine ZaC (by simp +decide only [zq]) ?_
  refine ZaA ⟨fun h=>(nomatch h),fun _=>⟨e1,v,?_,?_⟩,fun h1 h2=>absurd rfl h2⟩
  ·simp +decide only [zq,h4]
  ·rw [zJ (by omega)] at hv;exact hv
 have d1:decide ((i:Int)<(l.length:Int))=true:=zM (by omega)
 repeat apply Zaa
 apply Zad;intro _;simp +decide only [zq,↓Zab,↓reduceIte,aOp,Zah,h8,h9,U.lssI,d1];rfl;repeat apply Zaa
 refine ZaQ (by simp +decide only [zq]) ?_
 apply Zak;refine ZaM ?_;obtain ⟨e,he⟩:∃e,l[i]?=some e:=⟨l[i],by simp [hlt]⟩
 have htk:(l.take (i+1)).map (arcD L D)=(l.take i).map (arcD L D)++[arcD L D e]:=by rw [zT,he];simp
 obtain ⟨pb,pc2,hpe,hpb,hcell⟩:=StkC.at (.inr hp) (i:=i) hlt;rw [ZiE he] at hcell;cases hpe;have hld:Zat Tryz.prog σ1 102 (.pointer (some ⟨pb,i*2,none⟩))=some (vArc e):=ZqL (by rw [e1.cells (a:=⟨pb,i*2,none⟩) hpb];exact hcell)
 have ixe:Zal Tryz.prog 97 (slc pb l.length pc) (.int .i64 (i:Int))=some (.pointer (some ⟨pb,i*2,none⟩)):=by
  have:=idx51 (b:=pb) (off:=0) (cap:=pc) hlt
  rwa [Nat.zero_add] at this
 repeat apply Zaa
 apply Zad;intro _;simp +decide only [zq,↓Zab,↓reduceIte,aOp,Zae,Zag,ZaE,unn,h7,h9,ixe,hld,Zpj,Zn3];rfl;have AY:=ZmY σ1 e;have ed:=Zks σ1 e;generalize hab:σ1.next=ab at AY;generalize Zny σ1 e=σ2 at AY ed;have eQ:=e1.trans (ed.trans (Ext.reset σ2));have AQ:=AY.ext (Ext.reset σ2);have frm:Zat Tryz.prog σ2.reset 3 (.pointer (some ⟨ab,0,none⟩))=some (.int .i64 e.1):=AQ.from_;have idx:Zat Tryz.prog σ2.reset 3 (.pointer (some ⟨ab,1,none⟩))=some (.int .i64 e.2):=AQ.index;obtain ⟨⟨ek1,ek2,ek3,ek4⟩,hfe⟩:=hok e (zF he);obtain ⟨w,hw⟩:∃w,f e.1=some w:=by cases hq:f e.1 with|none=>exact absurd hq hfe|some w=>exact ⟨w,rfl⟩
 have h2:=h.ext eQ;obtain ⟨-,-,lo1,hlo1,hlw⟩:=h2.at_ e.1 w hw;obtain ⟨y,hy⟩:∃y,(L.getD (D.getD e.1.toNat 0) [])[e.2.toNat]?=some y:=⟨_,zP ek4⟩;have hyD:arcD L D e=y:=by unfold arcD;rw [zL,hy];rfl
 obtain ⟨sb1,sc1,cs1,hwe,hR1,hlds⟩:=stAt hlw hy;have hlk:=h2.steps.look Tryz.underlying86 ZnR rfl e.1 false;rw [hw,hwe] at hlk;have hR1':=hR1;obtain ⟨nb,nc,mb,mc,rfl,-⟩:=hR1;have ixs:Zal Tryz.prog 41 (slc sb1 (L.getD (D.getD e.1.toNat 0) []).length sc1) (.int .i64 e.2)=some (.pointer (some ⟨sb1,e.2.toNat*3,none⟩)):=by
  have:=Zi8 (b:=sb1) (cap:=sc1) ek4;rw [show ((e.2.toNat:Nat):Int)=e.2 by omega,Nat.zero_add] at this;exact this
 have hlk:ZbX Tryz.prog σ2.reset 86 (.map (some sm)) (.int .i64 e.1) false=some (slc sb1 (L.getD (D.getD e.1.toNat 0) []).length sc1):=hlk;have lds:=hlds _ (Ext.refl _);refine Zao ?_;repeat apply Zaa
 refine Za8 [] [] (by kernel_rfl) (by kernel_rfl) ?_
 apply Zau 12;intro _;simp +decide only [zq,zr,List.take,aQ,↓Zab,↓reduceIte,aOp,Zae,Zac,Zag,Zbo,h4,hx,ZqP,ZqO,frm,idx,ZrI,h2.ldS,Zba,hlk,ixs,lds];rfl;dsimp only [List.drop,List.take,List.length];have f3:Ext σ2 (σ2.merge σ2.reset):=(Ext.refl _).merge;generalize σ2.merge σ2.reset=σ3 at f3;apply Zau 1;intro _;simp +decide only [zq,zr,List.take,aQ,↓Zab,↓reduceIte,aOp,Zar,ZaN,Zpe];rfl;dsimp only [List.drop,List.take,List.length];have f4:Ext σ3 (σ3.merge (σ3.reset.new ⟨1,77,0,[.int .i64 y.1,slc nb 2 nc,slc mb 1 mc],[]⟩)):=Ext.merge (Ext.new _ _);have B4:BxAt (σ3.merge (σ3.reset.new ⟨1,77,0,[.int .i64 y.1,slc nb 2 nc,slc mb 1 mc],[]⟩)) 77 σ3.next [.int .i64 y.1,slc nb 2 nc,slc mb 1 mc]:=⟨zG _,(AS.get_new σ3.reset _ σ3.reset.next).trans (if_pos rfl)⟩;generalize hlc:σ3.next=lc at B4;generalize σ3.merge (σ3.reset.new ⟨1,77,0,[.int .i64 y.1,slc nb 2 nc,slc mb 1 mc],[]⟩)=σ4 at f4 B4;have f24:=f3.trans (f4.trans (Ext.reset σ4));have f14:=ed.trans f24;have e4r:=e1.trans f14;have hv4:=hv.ext RSt.kept f14;obtain ⟨v2,s2,q1,q2,q3,q4,q5,q6⟩:=hv4.push (P:=Tryz.prog) (T:=41) elSt RSt.kept (e4r.nxt) (x:=arcD L D e) (y:=slc lc 1 1) (new:=[.int .i64 y.1,slc nb 2 nc,slc mb 1 mc])
  (ZbV (by rw [(Ext.reset σ4).cells (a:=⟨lc,0,none⟩) B4.lt];exact Zaq B4.get rfl (zA _))) rfl rfl (by rw [hyD];exact (hR1'.lower hlo1).frk ⟨f24.nxt,fun i _ hi _ _=>f24.get i hi⟩) (by rw [List.length_map,zX];omega)
 have E5:Ext σ s2:=Zbt e4r q3 q4 q5 fun q hq=>(hv4.own hq).1;refine Lg_op (v:=v2) (s1:=s2) (by intro callf;simp +decide only [zq,↓reduceIte,aOp,Zan,aevs,Zaf,q1]) (by decide) (by kernel_rfl) ?_
 have E6:Ext σ (σ4.merge s2):=ZfJ (σ:=σ4) (e1.trans (ed.trans (f3.trans f4))) E5;have hv6:LV 77 3 (RSt σ0.next) σ.next (σ4.merge s2) v2 ((l.take i).map (arcD L D)++[arcD L D e]):=q2;generalize σ4.merge s2=σ6 at E6 hv6;apply ZaO;intro _;simp +decide only [zq,zr,aQ,↓Zab,↓reduceIte,aOp];rfl;have f7:Ext σ6 (σ6.merge σ6.reset):=(Ext.refl _).merge;generalize σ6.merge σ6.reset=σ7 at f7;show W _ _ _ 30 _ _ _ _;refine Zap ⟨fun _=>?_,fun h=>absurd rfl h⟩;refine Zao ?_;repeat apply Zaa
 apply Zad;intro _;simp +decide only [zq,↓Zab,↓reduceIte,aOp,Zah,h9,U.addI,w6];rfl;refine Zap ⟨fun _=>⟨i+1,by omega,hlt,E6.trans f7,⟨v2,?_,?_⟩,?_,?_,?_,?_⟩,fun h=>(nomatch h),fun h=>absurd rfl h⟩
 rotate_left
 ·rw [htk];exact hv6.ext RSt.kept f7
 all_goals simp +decide only [zq,hx,h7,h8]
open Abs
theorem appMv {σ:AS} {b:Nat} {x y z:Value} (hb:σ.get b=⟨1,125,0,[x,y,z],[]⟩):ZaU Tryz.prog σ #[75,75] (slc b 1 1) (.slice none 0 0)=some (slc b 1 1,σ):=by
 obtain ⟨inf,zz,h1,h2,h3,h4,h5,h6⟩:=elMo.info;have hs:Zbd Tryz.prog σ false inf (.slice none 0 0)=some (0,[]):=rfl;have d1:Nat.beq (3:Nat) 0=false:=rfl;have d2:Nat.beq (3:Nat) 3=true:=rfl;have d3:Nat.ble ((4*1+4000)*inf.bytes) 281474976710656=true:=ZbF (by omega)
 have d4:Nat.ble 1 1000000000000=true:=rfl;have d5:Zc6 1=false:=by kernel_rfl
 have d6:Nat.ble 1 1=true:=rfl;have hw:Zb4 σ ⟨b,0+1*3,none⟩ []=some σ:=by
  rw [ZgF];unfold Zbc;simp only [hb];rfl
 unfold ZaU;simp only [List.getElem?_toArray,List.getElem?_cons_zero,List.getElem?_cons_succ,Tryz.underlying75,h1,h2,h4,h5,h6,hs,d1,d2,List.length_nil,Nat.add_zero,d3,d4,d5,d6,Nat.zero_mul,Bool.not_true,Bool.or_false,Bool.false_eq_true,if_false,Nat.beq_refl,if_true];rw [hw]
theorem Zlg {σ:AS} {d:MD} {s:Value} {pb pc:Nat} {e:Int}:C Tryz.prog Kn 0 55 [d.val,s,vRu pb pc e,.int .i64 1] σ fun u σ'=>(∃b,u=slc b 1 1∧BxAt σ' 75 b [.slice none 0 0]∧σ.next≤b)∧Ext σ σ':=by
 refine C_of (kn (by decide)) Tryz.func55 rfl (zD rfl) ?_
 show W _ _ _ 88 _ _ _ _;unfold Tryz.f55;dsimp only;repeat apply Zaa
 apply Zad;intro _;simp +decide only [zq,ZaI,↓Zab,↓reduceIte,aOp,Zbm,aRow];rfl;have e1:Ext σ ((σ.new ⟨1,35,0,d.val.cells.toList,[]⟩).new ⟨1,69,0,(vRu pb pc e).cells.toList,[]⟩):=(Ext.new σ _).trans (Ext.new _ _);have B1:BxAt ((σ.new ⟨1,35,0,d.val.cells.toList,[]⟩).new ⟨1,69,0,(vRu pb pc e).cells.toList,[]⟩) 35 σ.next d.cells:=(BxAt.new σ _ _).ext (Ext.new _ _);have R1:BxAt ((σ.new ⟨1,35,0,d.val.cells.toList,[]⟩).new ⟨1,69,0,(vRu pb pc e).cells.toList,[]⟩) 69 (σ.new ⟨1,35,0,d.val.cells.toList,[]⟩).next [slc pb 1 pc,.int .i64 e,.int .i64 0]:=BxAt.new _ _ _;generalize hrx:(σ.new ⟨1,35,0,d.val.cells.toList,[]⟩).next=rx at R1;generalize hnx:σ.next=xb at B1;generalize (σ.new ⟨1,35,0,d.val.cells.toList,[]⟩).new ⟨1,69,0,(vRu pb pc e).cells.toList,[]⟩=σ1 at e1 B1 R1;have lp1:Zat Tryz.prog σ1 22 (.pointer (some ⟨rx,0,none⟩))=some (slc pb 1 pc):=Zaw Tryz.underlying22 rfl (R1.cell (i:=0) rfl);have q11:((1:Int) == ((1:Nat):Int))=true:=by decide
 repeat apply Zaa
 apply Zad;intro _;simp +decide only [zq,↓Zab,↓reduceIte,aOp,Zah,Zan,Zac,Zag,aevs,Zaf,ZeU,lp1,Tryz.underlying22,goInt,aLen,U.eqII,q11];rfl;repeat apply Zaa
 refine ZaQ (by simp +decide only [zq]) ?_
 repeat apply Zaa
 apply Zad;intro _;simp +decide only [zq,↓Zab,↓reduceIte,aOp,Zar,ZaN,ZqY];rfl;refine Zbj ⟨zA _,[slc σ1.next 1 1],?_,⟨σ1.next,rfl,BxAt.new σ1 75 [.slice none 0 0],by rw [←hnx];exact e1.nxt⟩,e1.trans (Ext.new _ _)⟩
 simp +decide only [zq,Zaj]
theorem Znm {σ:AS} {d:MD} {L:Lts} {E:List Int} {s:Value} {t pb pc:Nat} {e:Int} {row:List Arc} (hM:Mach σ d L E) (hs:St σ s t) (hp1:pb<σ.next) (hp2:Zav σ ⟨pb,0,none⟩ 1=some [.int .i64 e]) (he:0≤e) (hrow:L[t]?=some row) (hl:row.length≤100) :
  C Tryz.prog Kn 0 55 [d.val,s,vRu pb pc e,.int .i64 0] σ fun u σ'=>LV 75 1 (RMv σ.next) σ.next σ' u (row.filter fun a=>a.1=e)∧Ext σ σ':=by
 obtain ⟨sb,sc,rfl,hs1,hs2⟩:=hs;obtain ⟨lb0,lc0,hlv,-⟩:=id hM.rows;refine C_of (kn (by decide)) Tryz.func55 rfl (zD rfl) ?_
 show W _ _ _ 88 _ _ _ _;unfold Tryz.f55;dsimp only;repeat apply Zaa
 apply Zad;intro _;simp +decide only [zq,ZaI,↓Zab,↓reduceIte,aOp,Zbm,aRow];rfl;have e1:Ext σ ((σ.new ⟨1,35,0,d.val.cells.toList,[]⟩).new ⟨1,69,0,(vRu pb pc e).cells.toList,[]⟩):=(Ext.new σ _).trans (Ext.new _ _);have B1:BxAt ((σ.new ⟨1,35,0,d.val.cells.toList,[]⟩).new ⟨1,69,0,(vRu pb pc e).cells.toList,[]⟩) 35 σ.next d.cells:=(BxAt.new σ _ _).ext (Ext.new _ _);have R1:BxAt ((σ.new ⟨1,35,0,d.val.cells.toList,[]⟩).new ⟨1,69,0,(vRu pb pc e).cells.toList,[]⟩) 69 (σ.new ⟨1,35,0,d.val.cells.toList,[]⟩).next [slc pb 1 pc,.int .i64 e,.int .i64 0]:=BxAt.new _ _ _;generalize hrx:(σ.new ⟨1,35,0,d.val.cells.toList,[]⟩).next=rx at R1;generalize hnx:σ.next=xb at B1;generalize (σ.new ⟨1,35,0,d.val.cells.toList,[]⟩).new ⟨1,69,0,(vRu pb pc e).cells.toList,[]⟩=σ1 at e1 B1 R1;have lp1:Zat Tryz.prog σ1 22 (.pointer (some ⟨rx,0,none⟩))=some (slc pb 1 pc):=Zaw Tryz.underlying22 rfl (R1.cell (i:=0) rfl);have q01:((0:Int) == ((1:Nat):Int))=false:=by decide
 have w01:IntKind.i64.wrap (0+1)=1:=by decide
 have d11:decide ((1:Int)<((1:Nat):Int))=false:=by decide
 have lt1:(0:Int)<1:=by decide
 have ne1:(e == -1)=false:=by rw [beq_eq_false_iff_ne];omega
 have ge0:decide ((t:Int)<0)=false:=zI (by omega)
 have ixp:Zal Tryz.prog 22 (slc pb 1 pc) (.int .i64 0)=some (.pointer (some ⟨pb,0,none⟩)):=idxI (i:=0) (by omega)
 have ixs:Zal Tryz.prog 22 (slc sb 2 sc) (.int .i64 1)=some (.pointer (some ⟨sb,1,none⟩)):=idxI (i:=1) (by omega)
 have lru:Zat Tryz.prog σ1 69 (.pointer (some ⟨rx,0,none⟩))=some (vRu pb pc e):=ZbK Tryz.underlying69 rfl (i:=(Tryz.prog.info? 69).get!) (by kernel_rfl) (by rw [show ((Tryz.prog.info? 69).get!).size=3 by kernel_rfl];exact Zaq R1.get rfl (zA _))
 repeat apply Zaa
 apply Zad;intro _;simp +decide only [zq,↓Zab,↓reduceIte,aOp,Zah,Zan,Zac,Zag,aevs,Zaf,ZeU,lp1,Tryz.underlying22,goInt,aLen,U.eqII,q01];rfl;repeat apply Zaa
 refine ZaC (by simp +decide only [zq]) ?_
 apply Zak;repeat apply Zaa
 apply ZaF;apply Zay 5;intro _;simp +decide only [zq,List.take,↓Zab,↓reduceIte,aOp,Zah,Zag,Mach.ldM B1,lru,U.addI,w01];rfl;dsimp only [List.drop];refine ZaV (vs:=[d.val,slc sb 2 sc,vRu pb pc e,.int .i64 1]) (by simp +decide only [zq,aevs]) (by decide) (C.mono (Zlg) ?_)
 rintro u s ⟨⟨ob,rfl,B2,hob⟩,e2⟩;apply ZaG;intro _;simp +decide only [zq,↓Zab,↓reduceIte,aOp];rfl;have hob:σ.next≤ob:=zB e1.nxt hob;have B1:=B1.ext e2;have R2:=R1.ext e2;have e2:=e1.trans e2;generalize s=σ2 at e2 B1 B2 R2;have lp2:Zat Tryz.prog σ2 22 (.pointer (some ⟨rx,0,none⟩))=some (slc pb 1 pc):=Zaw Tryz.underlying22 rfl (R2.cell (i:=0) rfl);have le2:Zat Tryz.prog σ2 3 (.pointer (some ⟨pb,0,none⟩))=some (.int .i64 e):=Zaw Tryz.underlying3 rfl (by rw [e2.cells (a:=⟨pb,0,none⟩) hp1];exact hp2)
 have ls2:Zat Tryz.prog σ2 3 (.pointer (some ⟨sb,1,none⟩))=some (.int .i64 (t:Int)):=Zaw Tryz.underlying3 rfl (Zbq (by rw [e2.cells (a:=⟨sb,0,none⟩) hs1];exact hs2) (i:=1) rfl (by omega))
 repeat apply Zaa
 apply Zad;intro _;simp +decide only [zq,↓Zab,↓reduceIte,aOp,Zah,Zae,Zac,Zag,ZeU,lp2,ixp,le2,U.eqII,ne1];rfl;repeat apply Zaa
 refine ZaC (by simp +decide only [zq]) ?_
 apply Zak;repeat apply Zaa
 apply Zad;intro _;simp +decide only [zq,↓Zab,↓reduceIte,aOp,Zah,Zae,Zag,U.addI,w01,ixs,ls2,U.lssI,ge0];rfl;repeat apply Zaa
 refine ZaC (by simp +decide only [zq]) ?_
 apply Zak;repeat apply Zaa
 apply Zad;intro _;simp +decide only [zq,↓Zab,↓reduceIte,aOp];rfl;have HM:=hM.ext (e2.trans (Ext.reset σ2));have BM:=B1.ext (Ext.reset σ2);have ixc:Zal Tryz.prog 32 (slc d.bc 1 d.cc) (.int .i64 0)=some (.pointer (some ⟨d.bc,0,none⟩)):=ZoL (i:=0) (by omega)
 have lds:Zat Tryz.prog σ2.reset 3 (.pointer (some ⟨sb,1,none⟩))=some (.int .i64 (t:Int)):=ls2;have hlv2:=hM.rows;rw [hlv] at hlv2;obtain ⟨-,b0,off0,rw0,rfl,-,hld,hrw⟩:=ZiZ hlv2 hrow;obtain ⟨rb,rc,rfl,-⟩:=id hrw;have ht:t<L.length:=(zE.1 hrow).1;have ixt:=Zia (b:=b0) (off:=off0) (cap:=lc0) ht;have lvv:=HM.lv;rw [hlv] at lvv;repeat apply Zaa
 refine Za8 [] [] (by kernel_rfl) (by kernel_rfl) ?_
 apply ZaO;intro _;simp +decide only [zq,zr,aQ,↓Zab,↓reduceIte,aOp,Zah,Zan,Zae,Zac,Zag,aevs,Zaf,ZgC,Mach.ldC BM,ixc,ZmU,fldL,lvv,U.addI,w01,ixs,lds,ixt,hld _ (e2.trans (Ext.reset σ2)),Tryz.underlying44,goInt,aLen];rfl;have e3:Ext σ2 (σ2.merge σ2.reset):=(Ext.refl _).merge;generalize σ2.merge σ2.reset=σ3 at e3;have B3:=B2.ext e3;have R3:=R2.ext e3;have e3:=e2.trans e3;show W _ _ _ 88 _ _ _ _;repeat apply Zaa
 refine Zbs (fun (i:Nat) r σ'=>i≤row.length∧Ext σ3 σ'∧(∃v,rget r 10=v∧LV 75 1 (RMv σ.next) σ3.next σ' v ((row.take i).filter fun a=>a.1=e))∧rget r 3=.int .i64 0∧rget r 6=.pointer (some ⟨rx,0,none⟩)∧rget r 9=slc ob 1 1∧rget r 53=.slice rb row.length rc∧rget r 54=.int .i64 (row.length:Int)∧rget r 55=.int .i64 (i:Int))
  (fun i=>row.length-i) (fun r σ'=>Ext σ3 σ'∧∃v,rget r 10=v∧LV 75 1 (RMv σ.next) σ3.next σ' v (row.filter fun a=>a.1=e)) ?_ ?_ 0 ?_
 rotate_left 2
 ·simp +decide only [zq];refine ⟨zH _,Ext.refl _,⟨_,rfl,LV.nil⟩,?_,?_,?_,?_,?_,?_⟩<;>first|exact True.intro|rfl
 rotate_left
 ·rintro r s ⟨e4,v,h10,hv⟩;repeat apply Zaa
  apply Zad;intro _;simp +decide only [zq,↓Zab,↓reduceIte,aOp,h10];rfl;refine ZaL ⟨zA _,[v],?_,by rw [←hnx];exact hv.lower e3.nxt,e3.trans e4⟩
  simp +decide only [zq,Zaj]
 rintro i r σ4 ⟨hi,e4,⟨v,h10,hv⟩,h3,h6,h9,h53,h54,h55⟩;have w2:IntKind.i64.wrap ((i:Int)+1)=((i+1:Nat):Int):=by rw [Zas _ (by omega) (by omega)];omega
 by_cases hlt:i<row.length
 rotate_left
 ·have dl:decide ((i:Int)<(row.length:Int))=false:=zI (by omega)
  repeat apply Zaa
  apply Zad;intro _;simp +decide only [zq,↓Zab,↓reduceIte,aOp,Zah,h54,h55,dl,U.lssI];rfl;repeat apply Zaa
  refine ZaC (by simp +decide only [zq]) ?_
  refine ZaA ⟨fun h=>(nomatch h),fun _=>⟨e4,v,?_,?_⟩,fun h1 h2=>absurd rfl h2⟩
  ·simp +decide only [zq,h10]
  ·rw [zJ (by omega)] at hv;exact hv
 have dl:decide ((i:Int)<(row.length:Int))=true:=zM (by omega)
 repeat apply Zaa
 apply Zad;intro _;simp +decide only [zq,↓Zab,↓reduceIte,aOp,Zah,h54,h55,dl,U.lssI];rfl;repeat apply Zaa
 refine ZaQ (by simp +decide only [zq]) ?_
 apply Zak;refine ZaM ?_;obtain ⟨a,ha⟩:∃a,row[i]?=some a:=⟨row[i],by simp [hlt]⟩
 obtain ⟨-,b1,off1,rfl,-,hat⟩:=Zfm hrw ha;have htk:row.take (i+1)=row.take i++[a]:=by rw [zT,ha];rfl
 repeat apply Zaa
 apply Zad;intro _;simp +decide only [zq,↓Zab,↓reduceIte,aOp,Zae,Zag,ZaE,unn,h53,h55,Zfh hlt,(hat _ (e3.trans e4)).1,Zgp,Zf6];rfl;have AY:=decl_at σ4 a;have ed:=decl_ext σ4 a;generalize hab:σ4.next=ab at AY;generalize decl σ4 a=σ5 at AY ed;have e5:=e4.trans ed;have e5r:=e5.trans (Ext.reset σ5);have X5:=e3.trans e5r;have A5:=AY.ext (Ext.reset σ5);have R5:=R3.ext e5r;have lp5:Zat Tryz.prog σ5.reset 22 (.pointer (some ⟨rx,0,none⟩))=some (slc pb 1 pc):=Zaw Tryz.underlying22 rfl (R5.cell (i:=0) rfl);have le5:Zat Tryz.prog σ5.reset 3 (.pointer (some ⟨pb,0,none⟩))=some (.int .i64 e):=Zaw Tryz.underlying3 rfl (by rw [X5.cells (a:=⟨pb,0,none⟩) hp1];exact hp2)
 have hv5:=hv.ext RMv.kept ed;by_cases hev:a.1=e;rotate_left
 ·have dq:(a.1 != e)=true:=by rw [bne_iff_ne];exact hev
  repeat apply Zaa
  refine Za8 [] [] (by kernel_rfl) (by kernel_rfl) ?_
  apply ZaO;intro _;simp +decide only [zq,zr,aQ,↓Zab,↓reduceIte,aOp,Zah,Zae,Zac,Zag,fld0,A5.ev,ZeU,h3,h6,lp5,ixp,le5,U.neII,dq];rfl;have e6:Ext σ5 (σ5.merge σ5.reset):=(Ext.refl _).merge;generalize σ5.merge σ5.reset=σ6 at e6;have hv6:=hv5.ext RMv.kept e6;show W _ _ _ 88 _ _ _ _;repeat apply Zaa
  refine ZaQ (by simp +decide only [zq]) ?_
  refine ZaA ⟨fun _=>?_,fun h1 h2=>absurd rfl h2⟩;refine Zao ?_;repeat apply Zaa
  apply Zad;intro _;simp +decide only [zq,↓Zab,↓reduceIte,aOp,Zah,h55,U.addI,w2];rfl;refine Zap ⟨fun _=>⟨i+1,by omega,hlt,e5.trans e6,⟨v,?_,?_⟩,?_,?_,?_,?_,?_,?_⟩,fun h=>(nomatch h),fun h=>absurd rfl h⟩
  rotate_left
  ·rw [htk,List.filter_append];have:[a].filter (fun a=>decide (a.1=e))=[]:=by simp [hev]
   rw [this,List.append_nil];exact hv6
  all_goals simp +decide only [zq,h3,h6,h9,h10,h53,h54]
 have dq:(a.1 != e)=false:=by rw [bne_eq_false_iff_eq];exact hev
 repeat apply Zaa
 refine Za8 [] [] (by kernel_rfl) (by kernel_rfl) ?_
 apply ZaO;intro _;simp +decide only [zq,zr,aQ,↓Zab,↓reduceIte,aOp,Zah,Zae,Zac,Zag,fld0,A5.ev,ZeU,h3,h6,lp5,ixp,le5,U.neII,dq];rfl;have e6:Ext σ5 (σ5.merge σ5.reset):=(Ext.refl _).merge;generalize σ5.merge σ5.reset=σ6 at e6;have hv6:=hv5.ext RMv.kept e6;have A6:=AY.ext e6;have B6:=(B3.ext e5).ext e6;have e6:=e5.trans e6;show W _ _ _ 88 _ _ _ _;repeat apply Zaa
 refine ZaC (by simp +decide only [zq]) ?_
 apply Zak;repeat apply Zaa
 apply Zad;intro _;simp +decide only [zq,↓Zab,↓reduceIte,aOp,Zan,aevs,Zaf,h9,Tryz.underlying121,goInt,aLen];rfl;refine Zao ?_;repeat apply Zaa
 refine ZaM (Zbk ?_);repeat apply Zaa
 apply Zad;intro _;simp +decide only [zq,↓Zab,↓reduceIte,aOp,Zah,U.lssI];rfl;repeat apply Zaa
 refine ZaQ (by simp +decide only [zq,decide_true]) ?_
 apply Zak;refine ZaM ?_;have ixo:Zal Tryz.prog 121 (slc ob 1 1) (.int .i64 0)=some (.pointer (some ⟨ob,0,none⟩)):=Zp6 (i:=0) (by omega)
 have ldo:Zat Tryz.prog σ6 75 (.pointer (some ⟨ob,0,none⟩))=some (.slice none 0 0):=Zaw Tryz.underlying75 rfl (B6.cell (i:=0) rfl);repeat apply Zaa
 apply Zad;intro _;simp +decide only [zq,↓Zab,↓reduceIte,aOp,Zae,Zag,ixo,ldo];rfl;have e7:=Ext.new σ6 ⟨1,125,0,[.int .i64 0,.int .i64 a.1,.int .i64 a.2],[]⟩;have B7:BxAt (σ6.new ⟨1,125,0,[.int .i64 0,.int .i64 a.1,.int .i64 a.2],[]⟩) 125 σ6.next [.int .i64 0,.int .i64 a.1,.int .i64 a.2]:=BxAt.new σ6 _ _;have ap:=appMv B7.get;have e8:=Ext.new (σ6.new ⟨1,125,0,[.int .i64 0,.int .i64 a.1,.int .i64 a.2],[]⟩) ⟨1,75,0,[slc σ6.next 1 1],[]⟩;have B8:=BxAt.new (σ6.new ⟨1,125,0,[.int .i64 0,.int .i64 a.1,.int .i64 a.2],[]⟩) 75 [slc σ6.next 1 1];have BM7:=B7.ext e8;have hv8:=hv6.ext RMv.kept (e7.trans e8);have hM8:RMv σ.next ((σ6.new ⟨1,125,0,[.int .i64 0,.int .i64 a.1,.int .i64 a.2],[]⟩).new ⟨1,75,0,[slc σ6.next 1 1],[]⟩) [slc σ6.next 1 1] a:=
  ⟨σ6.next,1,rfl,(e3.trans e6).nxt,BM7.lt,by rw [BM7.get];exact (by decide:(1:Nat)≠3),by rw [BM7.get],Zaq BM7.get rfl (zA _)⟩
 obtain ⟨v2,s2,p1,p2,p3,p4,p5,p6⟩:=hv8.push (P:=Tryz.prog) (T:=121) elMs RMv.kept ((e6.trans (e7.trans e8)).nxt) (x:=a) (y:=slc (σ6.new ⟨1,125,0,[.int .i64 0,.int .i64 a.1,.int .i64 a.2],[]⟩).next 1 1) (new:=[slc σ6.next 1 1])
  (ZbV (Zaq B8.get rfl (zA _))) rfl rfl hM8 (by have:=List.length_filter_le (fun a:Arc=>decide (a.1=e)) (row.take i);have:=List.length_take_le i row;omega)
 have E9:Ext σ3 s2:=Zbt (e6.trans (e7.trans e8)) p3 p4 p5 fun j hj=>(hv8.own hj).1;refine Zao ?_;repeat apply Zaa
 apply Zad;intro _;simp +decide only [zq,↓Zab,↓reduceIte,aOp,Zan,Zac,Zag,Zar,Zbl,aevs,ZaN,Zaf,h3,h10,fld0,fld1,A6.ev,A6.to,bldMv,ZqW,ap,ZqX,p1];rfl;refine Zap ⟨fun _=>?_,fun h=>absurd rfl h⟩;refine Zao ?_;repeat apply Zaa
 apply Zad;intro _;simp +decide only [zq,↓Zab,↓reduceIte,aOp,Zah,U.addI,w01];rfl;refine Zap ⟨fun _=>?_,fun h=>absurd rfl h⟩;refine Zbk ?_;repeat apply Zaa
 apply Zad;intro _;simp +decide only [zq,↓Zab,↓reduceIte,aOp,Zah,U.lssI];rfl;repeat apply Zaa
 refine ZaC (by simp +decide only [zq,decide_true,decide_false]) ?_
 refine ZaA ⟨fun h=>(nomatch h),fun _=>⟨fun _=>?_,fun h1 h2=>absurd rfl h2⟩⟩;refine Zap ⟨fun _=>?_,fun h=>absurd rfl h⟩;refine Zao ?_;repeat apply Zaa
 apply Zad;intro _;simp +decide only [zq,↓Zab,↓reduceIte,aOp,Zah,h55,U.addI,w2];rfl;refine Zap ⟨fun _=>⟨i+1,by omega,hlt,E9,⟨v2,?_,?_⟩,?_,?_,?_,?_,?_,?_⟩,fun h=>(nomatch h),fun h=>absurd rfl h⟩
 rotate_left
 ·rw [htk,List.filter_append];have:[a].filter (fun a=>decide (a.1=e))=[a]:=by simp [hev]
  rw [this];exact p2
 all_goals simp +decide only [zq,h3,h6,h9,h53,h54]
theorem LV.clip {α:Type} {P:Program} {E z lo T:Nat} {R:AS→List Value→α→Prop} {σ:AS} {v:Value} {l:List α} (el:El P T E z) (h:LV E z R lo σ v l) (hn:l.length≤1000000) :
  ∃a c,v=.slice a l.length c∧Zbv P σ T v none (some (.int .i64 (l.length:Int))) (some (.int .i64 (l.length:Int)))=some (.slice a l.length l.length):=by
 obtain ⟨cs,⟨h1,h2,h3⟩,h4⟩:=h;obtain ⟨inf,zz,i1,i2,-⟩:=el.info;have hO:Nat.ble Zax l.length=false:=Zjj (by unfold Zax;omega)
 have hb:ZeA (.int .i64 (l.length:Int)) l.length=some l.length:=abound_at _ _ (zA _);rcases h3 with ⟨rfl,h0⟩|⟨b,n,vals,rfl,h5,h6,h7,h8,h9⟩
 ·refine ⟨none,0,by rw [h0],?_⟩
  rw [h0] at hO hb ⊢;have hc:ZdX 0=0:=by kernel_rfl
  unfold Zbv;simp only [el.und,i1,ZbR,Bool.false_eq_true,if_false,Zbg,hc,hb,ZbW,hO];rfl
 ·refine ⟨_,_,rfl,?_⟩;unfold Zbv;simp only [el.und,i1,Zbn,h8,Nat.beq_refl,i2,Bool.and_true,if_true,Zbg,Zcb];rw [abound_at _ _ h5];simp only [hb,ZbW,hO,Bool.false_eq_true,if_false,Nat.sub_zero];by_cases hz:l.length=0
  ·rw [hz];rfl
  ·rw [ZlP hz];simp [Addr.add]
theorem Zqn {σ:AS} {lo lo':Nat} {v:Value} {l:List Arc} (h:LV 77 3 (RSt lo) lo' σ v l) (hn:l.length≤1000):C Tryz.prog Kn 0 59 [v] σ fun u σ'=>(∃a c,v=.slice a l.length c∧u=.slice a l.length l.length)∧Ext σ σ':=by
 obtain ⟨a,c,rfl,hcl⟩:=h.clip (P:=Tryz.prog) (T:=41) elSt (by omega)
 refine C_of (kn (by decide)) Tryz.func59 rfl (zD rfl) ?_
 show W _ _ _ 9 _ _ _ _;unfold Tryz.f59;dsimp only;repeat apply Zaa
 apply Zad;intro _;simp +decide only [zq,ZaI,↓Zab,↓reduceIte,aOp];rfl;repeat apply Zaa
 apply Zad;intro _;simp +decide only [zq,↓Zab,↓reduceIte,aOp,Zan,ZbE,aevs,Zaf,Tryz.underlying41,goInt,aLen,aopt,hcl];rfl;refine ZaL ⟨zA _,[.slice a l.length l.length],?_,⟨a,c,rfl,rfl⟩,Ext.refl _⟩;simp +decide only [zq,Zaj]
theorem ZpO (hsort:Zl9 58) (hcomp:Zmc 61) {σ:AS} {d:MD} {L:Lts} {E:List Int} {s:Value} {t:Nat} {row:List Arc} (hM:Mach σ d L E) (hs:St σ s t) (hrow:L[t]?=some row) (hl:row.length≤12) (hE:∀e∈E,0≤e) (hEl:E.length≤2000) (hout:outL row E E.length=row) (hasc:asc row=true) :
  C Tryz.prog Kn 0 24 [d.val,s] σ fun u σ'=>(∃lo v a c,σ.next≤lo∧LV 77 3 (RSt lo) lo σ' v row∧v=.slice a row.length c∧u=.slice a row.length row.length)∧Ext σ σ':=by
 refine C_of (kn (by decide)) Tryz.func24 rfl (zD rfl) ?_
 show W _ _ _ 92 _ _ _ _;unfold Tryz.f24;dsimp only;obtain ⟨sb,sc,rfl,hs1,hs2⟩:=hs;obtain ⟨base,cap,hrv,-⟩:=id hM.rules;repeat apply Zaa
 apply Zad;intro _;simp +decide only [zq,ZaI,↓Zab,↓reduceIte,aOp,Zbm,aRow];rfl;have e1:Ext σ (σ.new ⟨1,35,0,d.val.cells.toList,[]⟩):=Ext.new σ _;have B1:BxAt (σ.new ⟨1,35,0,d.val.cells.toList,[]⟩) 35 σ.next d.cells:=BxAt.new σ _ _;generalize hnx:σ.next=xb at B1;generalize σ.new ⟨1,35,0,d.val.cells.toList,[]⟩=σ1 at e1 B1;repeat apply Zaa
 apply Zad;intro _;simp +decide only [zq,↓Zab,↓reduceIte,aOp];rfl;have HM:=hM.ext (e1.trans (Ext.reset σ1));have BM:=B1.ext (Ext.reset σ1);have ixf:Zal Tryz.prog 33 (slc d.bf 1 d.cf) (.int .i64 0)=some (.pointer (some ⟨d.bf,0,none⟩)):=ZoK (i:=0) (by omega)
 have ixs:Zal Tryz.prog 22 (slc sb 2 sc) (.int .i64 0)=some (.pointer (some ⟨sb,0,none⟩)):=idxI (i:=0) (by omega)
 have lds:Zat Tryz.prog σ1.reset 3 (.pointer (some ⟨sb,0,none⟩))=some (.int .i64 0):=Zaw Tryz.underlying3 rfl (Zbq (by rw [(e1.trans (Ext.reset σ1)).cells (a:=⟨sb,0,none⟩) hs1];exact hs2) (i:=0) rfl (by omega))
 have lrv:=HM.rv;rw [hrv] at lrv;repeat apply Zaa
 refine Za8 [] [] (by kernel_rfl) (by kernel_rfl) ?_
 apply ZaO;intro _;simp +decide only [zq,zr,aQ,↓Zab,↓reduceIte,aOp,Zan,Zae,Zac,Zag,aevs,Zaf,ZeV,Mach.ldF BM,ixs,lds,ixf,ZiA,lrv,Tryz.underlying64,goInt,aLen];rfl;have e2:Ext σ1 (σ1.merge σ1.reset):=(Ext.refl _).merge;generalize σ1.merge σ1.reset=σ2 at e2;show W _ _ _ 92 _ _ _ _;have hne:75≠77:=by decide
 have dlen:∀e:Int,(row.filter fun a=>decide (a.1=e)).length≤12:=fun e=>zB (List.length_filter_le _ _) hl;repeat apply Zaa
 refine Zbs (fun (j:Nat) r σ'=>j≤E.length∧Ext σ1 σ'∧(∃v,rget r 5=v∧LV 77 3 (RSt σ1.next) σ1.next σ' v (outL row E j)∧(outL row E j).length≤j*12)∧rget r 1=slc sb 2 sc∧rget r 2=.pointer (some ⟨xb,0,none⟩)∧rget r 22=.slice base E.length cap∧rget r 23=.int .i64 (E.length:Int)∧rget r 24=.int .i64 (j:Int))
  (fun j=>E.length-j) (fun r σ'=>Ext σ1 σ'∧∃v,rget r 5=v∧LV 77 3 (RSt σ1.next) σ1.next σ' v (outL row E E.length)) ?_ ?_ 0 ?_
 rotate_left 2
 ·simp +decide only [zq];refine ⟨zH _,e2,⟨_,rfl,LV.nil,zA _⟩,?_,?_,?_,?_,?_⟩<;>first|exact True.intro|rfl
 rotate_left
 ·rintro r σ3 ⟨e3,v,h5,hv⟩;rw [hout] at hv;obtain ⟨va,vc,rfl⟩:=hv.len;repeat apply Zaa
  apply ZaF;apply Zay 1;intro _;simp +decide only [zq,List.take,↓Zab,↓reduceIte,aOp,h5];rfl;dsimp only [List.drop];refine ZaV (vs:=[.slice va row.length vc,.func (.func 58) #[] #[]]) (by simp +decide only [zq,aevs]) (by decide) (C.mono (hsort hv hasc hl) ?_)
  rintro u s e4;apply ZaG;intro _;simp +decide only [aOps];rfl;have hv4:=hv.ext RSt.kept e4;generalize s=σ4 at e4 hv4;repeat apply Zaa
  apply ZaF;apply Zay 1;intro _;simp +decide only [zq,List.take,↓Zab,↓reduceIte,aOp,h5];rfl;dsimp only [List.drop];refine ZaV (vs:=[.slice va row.length vc,.func (.func 61) #[] #[]]) (by simp +decide only [zq,aevs]) (by decide) (C.mono (hcomp hv4 hasc hl) ?_)
  rintro u s ⟨rfl,e5⟩;refine ZaV (vs:=[.slice va row.length vc]) (by simp +decide only [zq,aevs]) (by decide) (C.mono (Zqn (lo:=σ1.next) (hv4.ext RSt.kept e5) (by omega)) ?_)
  rintro u s ⟨⟨a6,c6,hve,hue⟩,e6⟩;apply ZaG;intro _;simp +decide only [zq,↓Zab,↓reduceIte,aOp];rfl;refine ZaL ⟨zA _,[u],?_,⟨σ1.next,_,a6,c6,by rw [←hnx];exact e1.nxt,hv4.ext RSt.kept (e5.trans e6),hve,hue⟩,e1.trans (e3.trans (e4.trans (e5.trans e6)))⟩
  simp +decide only [zq,Zaj]
 rintro j r σ3 ⟨hj,e3,⟨v,h5,hv,hvl⟩,h1,h2,h22,h23,h24⟩;have w2:∀i:Nat,i<100000→IntKind.i64.wrap ((i:Int)+1)=((i+1:Nat):Int):=fun i hi=>by rw [Zas _ (by omega) (by omega)];omega
 by_cases hlt:j<E.length
 rotate_left
 ·have dl:decide ((j:Int)<(E.length:Int))=false:=zI (by omega)
  repeat apply Zaa
  apply Zad;intro _;simp +decide only [zq,↓Zab,↓reduceIte,aOp,Zah,h23,h24,dl,U.lssI];rfl;repeat apply Zaa
  refine ZaC (by simp +decide only [zq]) ?_
  refine ZaA ⟨fun h=>(nomatch h),fun _=>⟨e3,v,?_,?_⟩,fun h1 h2=>absurd rfl h2⟩
  ·simp +decide only [zq,h5]
  ·rw [show E.length=j by omega];exact hv
 have dl:decide ((j:Int)<(E.length:Int))=true:=zM (by omega)
 repeat apply Zaa
 apply Zad;intro _;simp +decide only [zq,↓Zab,↓reduceIte,aOp,Zah,h23,h24,dl,U.lssI];rfl;repeat apply Zaa
 refine ZaQ (by simp +decide only [zq]) ?_
 apply Zak;refine ZaM ?_;obtain ⟨e,he⟩:∃e,E[j]?=some e:=⟨E[j],by simp [hlt]⟩
 have he0:=hE e (zF he);have hru:=hM.rules;rw [hrv] at hru;obtain ⟨-,rb0,ro0,p,cp,rfl,-,hp1,hp2,hldr⟩:=Zmq hru he;repeat apply Zaa
 apply Zad;intro _;simp +decide only [zq,↓Zab,↓reduceIte,aOp,Zae,Zag,ZaE,unn,h22,h24,Zp5 hlt,hldr _ (e1.trans e3),Zjo,ZiU];rfl;have ed:=Zcn σ3 69 [.slice none 0 0,.int .i64 0,.int .i64 0] [slc p 1 cp,.int .i64 e,.int .i64 0];have BR:=Zc9 σ3 69 [.slice none 0 0,.int .i64 0,.int .i64 0] [slc p 1 cp,.int .i64 e,.int .i64 0];generalize hrb:σ3.next=rb at BR;generalize dcl σ3 69 [.slice none 0 0,.int .i64 0,.int .i64 0] [slc p 1 cp,.int .i64 e,.int .i64 0]=σ4 at ed BR;have E4:=e3.trans ed;have B4:=B1.ext E4;have HM4:=hM.ext (e1.trans E4);have ldrr:Zat Tryz.prog σ4 69 (.pointer (some ⟨rb,0,none⟩))=some (vRu p cp e):=ZbK Tryz.underlying69 rfl (i:=(Tryz.prog.info? 69).get!) (by kernel_rfl) (by rw [show ((Tryz.prog.info? 69).get!).size=3 by kernel_rfl];exact Zaq BR.get rfl (zA _))
 repeat apply Zaa
 apply ZaF;apply Zay 3;intro _;simp +decide only [zq,List.take,↓Zab,↓reduceIte,aOp,Zag,h1,h2,Mach.ldM B4,ldrr];rfl;dsimp only [List.drop];refine ZaV (vs:=[d.val,slc sb 2 sc,vRu p cp e,.int .i64 0]) (by simp +decide only [zq,aevs]) (by decide) (C.mono (Znm HM4 ⟨sb,sc,rfl,(e1.trans E4).lt hs1,by rw [(e1.trans E4).cells (a:=⟨sb,0,none⟩) hs1];exact hs2⟩ ((e1.trans E4).lt hp1) (by rw [(e1.trans E4).cells (a:=⟨p,0,none⟩) hp1];exact hp2) he0 hrow (by omega)) ?_)
 rintro mv s ⟨hmv,e5⟩;obtain ⟨ma,mc0,hmve⟩:=hmv.len;subst hmve;generalize s=σ5 at hmv e5;apply ZaG;intro _;simp +decide only [zq,↓Zab,↓reduceIte,aOp,Zan,aevs,Zaf,Tryz.underlying121,goInt,aLen];rfl;have hv5:=hv.ext RSt.kept (ed.trans e5);have E5:=E4.trans e5;have BR5:=BR.ext e5;have hfl:=dlen e;have hos:=ZjX (row:=row) he;generalize hF:(row.filter fun a=>decide (a.1=e))=F at hmv hfl hos;have hFe:∀x∈F,x.1=e:=fun x hx=>by rw [←hF] at hx;simpa using (List.mem_filter.1 hx).2
 refine Zao ?_;repeat apply Zaa
 refine Zbs (fun (i:Nat) r σ'=>i≤F.length∧Ext σ1 σ'∧FK 77 σ5 σ'∧(∃v,rget r 5=v∧LV 77 3 (RSt σ1.next) σ1.next σ' v (outL row E j++F.take i))∧rget r 1=slc sb 2 sc∧rget r 2=.pointer (some ⟨xb,0,none⟩)∧rget r 7=.pointer (some ⟨rb,0,none⟩)∧rget r 22=.slice (some ⟨rb0,ro0,none⟩) E.length cap∧rget r 23=.int .i64 (E.length:Int)∧rget r 24=.int .i64 (j:Int)∧rget r 31=.slice ma F.length mc0∧rget r 32=.int .i64 (F.length:Int)∧rget r 33=.int .i64 (i:Int))
  (fun i=>F.length-i) (fun r σ'=>Ext σ1 σ'∧(∃v,rget r 5=v∧LV 77 3 (RSt σ1.next) σ1.next σ' v (outL row E (j+1)))∧rget r 1=slc sb 2 sc∧rget r 2=.pointer (some ⟨xb,0,none⟩)∧rget r 22=.slice (some ⟨rb0,ro0,none⟩) E.length cap∧rget r 23=.int .i64 (E.length:Int)∧rget r 24=.int .i64 (j:Int)) ?_ ?_ 0 ?_
 rotate_left 2
 ·simp +decide only [zq,h1,h2,h5,h22,h23,h24];refine ⟨zH _,E5,FK.of (Ext.refl _),⟨_,rfl,by rw [List.take_zero,List.append_nil];exact hv5⟩,?_,?_,?_,?_,?_,?_,?_,?_,?_⟩<;>first|exact True.intro|rfl
 rotate_left
 ·rintro r σ6 ⟨e6,⟨v,h5,hv⟩,h1,h2,h22,h23,h24⟩;have hw:=w2 j (by omega)
  refine Zap ⟨fun _=>?_,fun h=>absurd rfl h⟩;refine Zao ?_;repeat apply Zaa
  apply Zad;intro _;simp +decide only [zq,↓Zab,↓reduceIte,aOp,Zah,h24,U.addI,hw];rfl;refine Zap ⟨fun _=>⟨j+1,by omega,hlt,e6,⟨v,?_,hv,?_⟩,?_,?_,?_,?_,?_⟩,fun h=>(nomatch h),fun h=>absurd rfl h⟩
  rotate_left
  ·rw [hos,zS];omega
  all_goals simp +decide only [zq,h1,h2,h5,h22,h23,h24]
 rintro i r σ6 ⟨hi,e6,k6,⟨v,h5,hv⟩,h1,h2,h7,h22,h23,h24,h32,h33,h34⟩;by_cases hlt2:i<F.length;rotate_left
 ·have dl:decide ((i:Int)<(F.length:Int))=false:=zI (by omega)
  repeat apply Zaa
  apply Zad;intro _;simp +decide only [zq,↓Zab,↓reduceIte,aOp,Zah,h33,h34,dl,U.lssI];rfl;repeat apply Zaa
  refine ZaC (by simp +decide only [zq]) ?_
  refine ZaA ⟨fun h=>(nomatch h),fun _=>⟨e6,⟨v,?_,?_⟩,?_,?_,?_,?_,?_⟩,fun h1 h2=>absurd rfl h2⟩;rotate_left
  ·rw [zJ (by omega),←hos] at hv;exact hv
  all_goals simp +decide only [zq,h1,h2,h5,h22,h23,h24]
 have dl:decide ((i:Int)<(F.length:Int))=true:=zM (by omega)
 repeat apply Zaa
 apply Zad;intro _;simp +decide only [zq,↓Zab,↓reduceIte,aOp,Zah,h33,h34,dl,U.lssI];rfl;repeat apply Zaa
 refine ZaQ (by simp +decide only [zq]) ?_
 apply Zak;refine ZaM ?_;obtain ⟨a,ha⟩:∃a,F[i]?=some a:=⟨F[i],by simp [hlt2]⟩
 have hae:=hFe a (zF ha);have htk:F.take (i+1)=F.take i++[a]:=by rw [zT,ha];rfl
 have hmv6:=k6.lv hne (RMv.keptE (by decide)) hmv
 have BR6:=k6.bx BR5;obtain ⟨mvb,mvc,mcs,hmve,hml,hmb,hmc,mb,mc,rfl,hmb1,hmb2,hmb3,hmb4,hmb5⟩:=hmv6.at ha;have ldmv:Zat Tryz.prog σ6 75 (.pointer (some ⟨mvb,i*1,none⟩))=some (slc mb 1 mc):=Zaw Tryz.underlying75 rfl (by rw [Nat.zero_add] at hmc;exact hmc)
 repeat apply Zaa
 apply Zad;intro _;simp +decide only [zq,↓Zab,↓reduceIte,aOp,Zae,Zag,h32,h34,hmve,Zp6 hlt2,ldmv];rfl;repeat apply Zaa
 apply ZaF;apply Zay 1;intro _;simp +decide only [zq,List.take,↓Zab,↓reduceIte,aOp,h1];rfl;dsimp only [List.drop];refine ZaV (vs:=[slc sb 2 sc]) (by simp +decide only [zq,aevs]) (by decide) (C.mono (Zm3 ((e1.trans e6).lt hs1) (by rw [(e1.trans e6).cells (a:=⟨sb,0,none⟩) hs1];exact hs2) (by omega) (by omega) rfl rfl) ?_)
 rintro nx s ⟨hn,e7⟩;apply ZaG;intro _;simp +decide only [zq,↓Zab,↓reduceIte,aOp];rfl;generalize s=σ7 at hn e7;obtain ⟨nb,nc,NB,rfl,hnb1,hnb2,hst0,hn8⟩:=ZgX hn (i:=0) (by omega) 0
 have BR7:=BR6.ext e7;have ixn0:Zal Tryz.prog 22 (slc nb 2 nc) (.int .i64 0)=some (.pointer (some ⟨nb,0,none⟩)):=idxI (i:=0) (by omega)
 have ldr2:Zat Tryz.prog σ7 3 (.pointer (some ⟨rb,2,none⟩))=some (.int .i64 0):=Zaw Tryz.underlying3 rfl (BR7.cell (i:=2) rfl);repeat apply Zaa
 apply Zad;intro _;simp +decide only [zq,↓Zab,↓reduceIte,aOp,Zae,Zac,Zag,ZaE,unn,h7,ZfI,ldr2,ixn0,hst0];rfl;have e8:Ext σ6 (σ7.put nb NB):=Ext.put e7 hnb1 _;generalize σ7.put nb NB=σ8 at e8 hn8;repeat apply Zaa
 apply Zad;intro _;simp +decide only [zq,↓Zab,↓reduceIte,aOp,Zan,aevs,Zaf,Tryz.underlying75,goInt,aLen];rfl;repeat apply Zaa
 refine ZaM (Zbk ?_);have d01:decide ((0:Int)<((1:Nat):Int))=true:=by decide
 have d11:decide ((1:Int)<((1:Nat):Int))=false:=by decide
 have w01:IntKind.i64.wrap (0+1)=1:=by decide
 have w10:IntKind.i64.wrap (1+0)=1:=by decide
 repeat apply Zaa
 apply Zad;intro _;simp +decide only [zq,↓Zab,↓reduceIte,aOp,Zah,U.lssI];rfl;repeat apply Zaa
 refine ZaQ (by simp +decide only [zq,decide_true]) ?_
 apply Zak;refine ZaM ?_;have ixm:Zal Tryz.prog 75 (slc mb 1 mc) (.int .i64 0)=some (.pointer (some ⟨mb,0,none⟩)):=Zp7 (i:=0) (by omega)
 have ldm:Zat Tryz.prog σ8 125 (.pointer (some ⟨mb,0,none⟩))=some (vMv 0 a.1 a.2):=ZbK Tryz.underlying125 rfl (i:=(Tryz.prog.info? 125).get!) (by kernel_rfl) (by rw [show ((Tryz.prog.info? 125).get!).size=3 by kernel_rfl,e8.cells (a:=⟨mb,0,none⟩) hmb2];exact hmb5)
 repeat apply Zaa
 apply Zad;intro _;simp +decide only [zq,↓Zab,↓reduceIte,aOp,Zae,Zag,ZaE,unn,ixm,ldm,Zjp,ZiW];rfl;have e9:=Zcn σ8 125 [.int .i64 0,.int .i64 0,.int .i64 0] [.int .i64 0,.int .i64 a.1,.int .i64 a.2];have BV:=Zc9 σ8 125 [.int .i64 0,.int .i64 0,.int .i64 0] [.int .i64 0,.int .i64 a.1,.int .i64 a.2];generalize hvb:σ8.next=vb at BV;generalize dcl σ8 125 [.int .i64 0,.int .i64 0,.int .i64 0] [.int .i64 0,.int .i64 a.1,.int .i64 a.2]=σ9 at e9 BV;have hn9:=hn8.keep e9.nxt fun q _ hq=>e9.get q hq;obtain ⟨nb',nc',NB2,hnbe,hnb3,hnb4,hst1,hn10⟩:=ZgX hn9 (i:=1) (by omega) a.2
 cases hnbe;have ldv0:Zat Tryz.prog σ9 3 (.pointer (some ⟨vb,0,none⟩))=some (.int .i64 0):=Zaw Tryz.underlying3 rfl (BV.cell (i:=0) rfl);have ldv2:Zat Tryz.prog σ9 3 (.pointer (some ⟨vb,2,none⟩))=some (.int .i64 a.2):=Zaw Tryz.underlying3 rfl (BV.cell (i:=2) rfl);have ixn1:Zal Tryz.prog 22 (slc nb 2 nc) (.int .i64 1)=some (.pointer (some ⟨nb,1,none⟩)):=idxI (i:=1) (by omega)
 refine Zao ?_;repeat apply Zaa
 apply Zad;intro _;simp +decide only [zq,↓Zab,↓reduceIte,aOp,Zah,Zae,Zac,Zag,ZaE,unn,Ziz,Ziy,ldv0,ldv2,U.addI,w01,ixn1,hst1];rfl;have e10:Ext σ6 (σ9.put nb NB2):=Ext.put (e8.trans e9) hnb1 _;generalize σ9.put nb NB2=σ10 at e10 hn10;refine Zap ⟨fun _=>?_,fun h=>absurd rfl h⟩;refine Zao ?_;repeat apply Zaa
 apply Zad;intro _;simp +decide only [zq,↓Zab,↓reduceIte,aOp,Zah,U.addI,w01];rfl;refine Zap ⟨fun _=>?_,fun h=>absurd rfl h⟩;refine Zbk ?_;repeat apply Zaa
 apply Zad;intro _;simp +decide only [zq,↓Zab,↓reduceIte,aOp,Zah,U.lssI];rfl;repeat apply Zaa
 refine ZaC (by simp +decide only [zq,decide_true,decide_false]) ?_
 refine ZaA ⟨fun h=>(nomatch h),fun _=>⟨fun _=>?_,fun h1 h2=>absurd rfl h2⟩⟩;have E10:=e6.trans e10;have B10:=B1.ext E10;have BR10:=BR6.ext e10;have HM10:=hM.ext (e1.trans E10);have ldr:Zat Tryz.prog σ10 3 (.pointer (some ⟨rb,2,none⟩))=some (.int .i64 0):=Zaw Tryz.underlying3 rfl (BR10.cell (i:=2) rfl);repeat apply Zaa
 apply Zad;intro _;simp +decide only [zq,↓Zab,↓reduceIte,aOp,Zan,Zae,Zac,Zag,aevs,Zaf,h2,h7,ZeV,Mach.ldF B10,ZfI,ldr,ixf,Zkn,HM10.al,Tryz.underlying62,goInt,aLen];rfl;repeat apply Zaa
 refine ZaM (Zbk ?_);repeat apply Zaa
 apply Zad;intro _;simp +decide only [zq,↓Zab,↓reduceIte,aOp,Zah,U.lssI];rfl;repeat apply Zaa
 refine ZaQ (by simp +decide only [zq,decide_true,decide_false]) ?_
 apply Zak;refine ZaM ?_;have ixb:Zal Tryz.prog 62 (slc d.ba 1 d.ca) (.int .i64 0)=some (.pointer (some ⟨d.ba,0,none⟩)):=idxB (i:=0) (by omega)
 repeat apply Zaa
 apply Zad;intro _;simp +decide only [zq,↓Zab,↓reduceIte,aOp,Zae,Zag,ixb,HM10.al0];rfl;repeat apply Zaa
 apply Zad;intro _;simp +decide only [zq,↓Zab,↓reduceIte,aOp,opUn,Bool.not_true,not_b];rfl;refine Zao ?_;repeat apply Zaa
 refine ZaC (by simp +decide only [zq,decide_true,decide_false]) ?_
 apply Zak;refine Zap ⟨fun _=>?_,fun h=>absurd rfl h⟩;refine Zao ?_;repeat apply Zaa
 apply Zad;intro _;simp +decide only [zq,↓Zab,↓reduceIte,aOp,Zah,U.addI,w01];rfl;refine Zap ⟨fun _=>?_,fun h=>absurd rfl h⟩;refine Zbk ?_;repeat apply Zaa
 apply Zad;intro _;simp +decide only [zq,↓Zab,↓reduceIte,aOp,Zah,U.lssI];rfl;repeat apply Zaa
 refine ZaC (by simp +decide only [zq,decide_true,decide_false]) ?_
 refine ZaA ⟨fun h=>(nomatch h),fun _=>⟨fun _=>?_,fun h1 h2=>absurd rfl h2⟩⟩;have lde:Zat Tryz.prog σ10 3 (.pointer (some ⟨rb,1,none⟩))=some (.int .i64 e):=Zaw Tryz.underlying3 rfl (BR10.cell (i:=1) rfl);have e11:=Ext.new σ10 ⟨1,77,0,[.int .i64 e,slc nb 2 nc,slc mb 1 mc],[]⟩;have B11:=BxAt.new σ10 77 [.int .i64 e,slc nb 2 nc,slc mb 1 mc];have hno:=hn10.own (i:=nb) ⟨_,_,rfl⟩;have hnc:=ZjI hn10 (by omega)
 have S10:RSt σ1.next σ10 [.int .i64 e,slc nb 2 nc,slc mb 1 mc] a:=⟨nb,nc,mb,mc,by rw [hae],⟨zB e6.nxt hnb1,hno.2.1,.inr hno.2.2.1,hno.2.2.2,hnc⟩,
  ⟨zB E4.nxt hmb1,e10.lt hmb2,by rw [e10.get mb hmb2];exact hmb3,by rw [e10.get mb hmb2];exact hmb4,by rw [e10.cells (a:=⟨mb,0,none⟩) hmb2];exact hmb5⟩⟩
 have hv11:=hv.ext RSt.kept (e10.trans e11);obtain ⟨v2,s2,p1,p2,p3,p4,p5,p6⟩:=hv11.push (T:=41) elSt RSt.kept (E10.trans e11).nxt (x:=a) (y:=slc σ10.next 1 1) (new:=[.int .i64 e,slc nb 2 nc,slc mb 1 mc])
  (ZbV (Zaq B11.get rfl (zA _))) rfl rfl (RSt.kept.ext e11 S10) (by rw [zS,zX];omega)
 have E12:Ext σ1 s2:=Zbt (E10.trans e11) p3 p4 p5 fun q hq=>(hv11.own hq).1;have K12:FK 77 σ5 s2:=k6.trans ((FK.of (e10.trans e11)).trans ⟨p3,fun q hq hn=>p4 q hq fun ho=>hn ⟨(hv11.own ho).2.2.1,(hv11.own ho).2.2.2⟩⟩);refine Zao ?_;repeat apply Zaa
 apply Zad;intro _;simp +decide only [zq,↓Zab,↓reduceIte,aOp,Zan,Zac,Zag,Zar,Zbl,aevs,ZaN,Zaf,h5,h7,Zkm,lde,bldSt,Zpe,p1];rfl;refine Zap ⟨fun _=>?_,fun h=>absurd rfl h⟩;refine Zao ?_;have hw:=w2 i (by omega)
 repeat apply Zaa
 apply Zad;intro _;simp +decide only [zq,↓Zab,↓reduceIte,aOp,Zah,h34,U.addI,hw];rfl;refine Zap ⟨fun _=>⟨i+1,by omega,hlt2,E12,K12,⟨v2,?_,?_⟩,?_,?_,?_,?_,?_,?_,?_,?_,?_⟩,fun h=>(nomatch h),fun h=>absurd rfl h⟩
 rotate_left
 ·rw [htk,←List.append_assoc];exact p2
 all_goals simp +decide only [zq,h1,h2,h7,h22,h23,h24,h32,h33]
open Abs
theorem ZmA {σ:AS} {d:MD}:C Tryz.prog Kn 0 22 [d.val] σ fun u σ'=>(∃b,u=slc b 2 2∧σ.next≤b∧σ'.get b=⟨1,3,0,[.int .i64 0,.int .i64 0],[]⟩∧b<σ'.next)∧Ext σ σ':=by
 refine C_of (kn (by decide)) Tryz.func22 rfl (zD rfl) ?_
 show W _ _ _ 8 _ _ _ _;unfold Tryz.f22;dsimp only;repeat apply Zaa
 apply Zad;intro _;simp +decide only [zq,ZaI,↓Zab,↓reduceIte,aOp,Zbm,aRow];rfl;have e1:=Ext.new σ ⟨1,35,0,d.val.cells.toList,[]⟩;have B1:BxAt (σ.new ⟨1,35,0,d.val.cells.toList,[]⟩) 35 σ.next d.cells:=BxAt.new σ _ _;generalize hnx:σ.next=xb at B1;generalize σ.new ⟨1,35,0,d.val.cells.toList,[]⟩=σ1 at e1 B1;have w:IntKind.i64.wrap (((1:Nat):Int)+1)=2:=by decide
 repeat apply Zaa
 apply Zad;intro _;simp +decide only [zq,↓Zab,↓reduceIte,aOp,Zah,Zan,Zac,Zag,aevs,Zaf,ZgC,Mach.ldC B1,Tryz.underlying32,goInt,aLen,U.addI,w,ZbN];rfl;refine ZaL ⟨zA _,[slc σ1.next 2 2],?_,⟨σ1.next,rfl,by rw [←hnx];exact e1.nxt,(AS.get_new _ _ _).trans ((if_pos rfl).trans (by kernel_rfl)),zG _⟩,e1.trans (Ext.new _ _)⟩
 simp +decide only [zq,Zaj];rfl
theorem Zme {σ:AS} {d:MD}:C Tryz.prog Kn 0 37 [d.val] σ fun u σ'=>(∃b,u=slc b 2 2∧σ.next≤b∧σ'.get b=⟨1,3,0,[.int .i64 0,.int .i64 0],[]⟩∧b<σ'.next)∧Ext σ σ':=by
 refine C_of (kn (by decide)) Tryz.func37 rfl (zD rfl) ?_
 show W _ _ _ 8 _ _ _ _;unfold Tryz.f37;dsimp only;repeat apply Zaa
 apply Zad;intro _;simp +decide only [zq,ZaI,↓Zab,↓reduceIte,aOp,Zbm,aRow];rfl;have e1:=Ext.new σ ⟨1,35,0,d.val.cells.toList,[]⟩;have B1:BxAt (σ.new ⟨1,35,0,d.val.cells.toList,[]⟩) 35 σ.next d.cells:=BxAt.new σ _ _;generalize hnx:σ.next=xb at B1;generalize σ.new ⟨1,35,0,d.val.cells.toList,[]⟩=σ1 at e1 B1;have w:IntKind.i64.wrap (1+((1:Nat):Int))=2:=by decide
 repeat apply Zaa
 apply Zad;intro _;simp +decide only [zq,↓Zab,↓reduceIte,aOp,Zah,Zan,Zac,Zag,aevs,Zaf,ZgC,Mach.ldC B1,Tryz.underlying32,goInt,aLen,U.addI,w,ZbN];rfl;refine ZaL ⟨zA _,[slc σ1.next 2 2],?_,⟨σ1.next,rfl,by rw [←hnx];exact e1.nxt,(AS.get_new _ _ _).trans ((if_pos rfl).trans (by kernel_rfl)),zG _⟩,e1.trans (Ext.new _ _)⟩
 simp +decide only [zq,Zaj];rfl
end Go.Proofs.YteangeffgjolpaaGreatDoor.Nest
