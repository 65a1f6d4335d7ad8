/- Steps are compared. -/
import Derived.Test.YteangeffgjolpaaGreatDoorNmR
set_option linter.unusedSimpArgs false
set_option linter.unusedVariables false
set_option maxRecDepth 100000
set_option maxHeartbeats 64000000
namespace Go.Proofs.YteangeffgjolpaaGreatDoor.Nest
open Abs
structure Prs (σ:AS) (a b:Nat) (x0 x1 y0 y1:Int):Prop where
 a1:a<σ.next
 a2:Zav σ ⟨a,0,none⟩ 2=some [.int .i64 x0,.int .i64 x1]
 b1:b<σ.next
 b2:Zav σ ⟨b,0,none⟩ 2=some [.int .i64 y0,.int .i64 y1]
section
variable {σ σ':AS} {a b:Nat} {x0 x1 y0 y1:Int}
theorem Prs.ext (h:Prs σ a b x0 x1 y0 y1) (e:Ext σ σ'):Prs σ' a b x0 x1 y0 y1:=⟨e.lt h.a1,by rw [e.cells (a:=⟨a,0,none⟩) h.a1];exact h.a2,e.lt h.b1,by rw [e.cells (a:=⟨b,0,none⟩) h.b1];exact h.b2⟩
theorem Prs.la0 (h:Prs σ a b x0 x1 y0 y1):Zat Tryz.prog σ 3 (.pointer (some ⟨a,0,none⟩))=some (.int .i64 x0):=Zaw Tryz.underlying3 rfl (Zbq h.a2 (i:=0) rfl (by omega))
theorem Prs.la1 (h:Prs σ a b x0 x1 y0 y1):Zat Tryz.prog σ 3 (.pointer (some ⟨a,1,none⟩))=some (.int .i64 x1):=Zaw Tryz.underlying3 rfl (Zbq h.a2 (i:=1) rfl (by omega))
theorem Prs.lb0 (h:Prs σ a b x0 x1 y0 y1):Zat Tryz.prog σ 3 (.pointer (some ⟨b,0,none⟩))=some (.int .i64 y0):=Zaw Tryz.underlying3 rfl (Zbq h.b2 (i:=0) rfl (by omega))
theorem Prs.lb1 (h:Prs σ a b x0 x1 y0 y1):Zat Tryz.prog σ 3 (.pointer (some ⟨b,1,none⟩))=some (.int .i64 y1):=Zaw Tryz.underlying3 rfl (Zbq h.b2 (i:=1) rfl (by omega))
end
theorem Zkw {σ:AS} {a b ca cb:Nat} {x y:Int} (h:Prs σ a b 0 x 0 y):C Tryz.prog Kn 0 92 [slc a 2 ca,slc b 2 cb] σ fun v σ'=>v=.int .i64 (cmpI x y)∧Ext σ σ':=by
 refine C_of (kn (by decide)) Tryz.func92 rfl (zD rfl) ?_
 show W _ _ _ 36 _ _ _ _;unfold Tryz.f92;dsimp only;have dl0:decide ((0:Int)<((2:Nat):Int))=true:=by decide
 have dl1:decide ((1:Int)<((2:Nat):Int))=true:=by decide
 have dl2:decide ((2:Int)<((2:Nat):Int))=false:=by decide
 have dl3:decide (((2:Nat):Int)<((2:Nat):Int))=false:=by decide
 have dg0:decide ((0:Int)≥((2:Nat):Int))=false:=by decide
 have dg1:decide ((1:Int)≥((2:Nat):Int))=false:=by decide
 have w1:IntKind.i64.wrap (0+1)=1:=by decide
 have w2:IntKind.i64.wrap (1+1)=2:=by decide
 have ixa0:Zal Tryz.prog 22 (slc a 2 ca) (.int .i64 0)=some (.pointer (some ⟨a,0,none⟩)):=idxI (i:=0) (by omega)
 have ixa1:Zal Tryz.prog 22 (slc a 2 ca) (.int .i64 1)=some (.pointer (some ⟨a,1,none⟩)):=idxI (i:=1) (by omega)
 have ixb0:Zal Tryz.prog 22 (slc b 2 cb) (.int .i64 0)=some (.pointer (some ⟨b,0,none⟩)):=idxI (i:=0) (by omega)
 have ixb1:Zal Tryz.prog 22 (slc b 2 cb) (.int .i64 1)=some (.pointer (some ⟨b,1,none⟩)):=idxI (i:=1) (by omega)
 have q0:cmpI 0 0=0:=by decide
 have n0:((0:Int) != 0)=false:=by decide
 repeat apply Zaa
 apply Zad;intro _;simp +decide only [zq,ZaI,↓Zab,↓reduceIte,aOp];rfl;repeat apply Zaa
 apply Zad;intro _;simp +decide only [zq,↓Zab,↓reduceIte,aOp,Zan,aevs,Zaf,Tryz.underlying22,goInt,aLen];rfl;repeat apply Zaa
 refine ZaM (Zbk ?_);repeat apply Zaa
 apply Zad;intro _;simp +decide only [zq,↓Zab,↓reduceIte,aOp,Zah,U.lssI];rfl;repeat apply Zaa
 refine ZaQ (by simp +decide only [zq,decide_true]) ?_
 apply Zak;refine ZaM ?_;repeat apply Zaa
 apply Zad;intro _;simp +decide only [zq,↓Zab,↓reduceIte,aOp,Zae,Zag,ixa0,h.la0];rfl;repeat apply Zaa
 apply Zad;intro _;simp +decide only [zq,↓Zab,↓reduceIte,aOp,Zah,Zan,aevs,Zaf,Tryz.underlying22,goInt,aLen,U.geqI];rfl;repeat apply Zaa
 refine ZaC (by simp +decide only [zq,decide_true,decide_false]) ?_
 apply Zak;repeat apply Zaa
 apply Zad;intro _;simp +decide only [zq,↓Zab,↓reduceIte,aOp,Zae,Zag,ixb0,h.lb0];rfl;repeat apply Zaa
 apply ZaF;apply Zay 2;intro _;simp +decide only [zq,List.take,↓Zab,↓reduceIte,aOp];rfl;dsimp only [List.drop];refine ZaV (vs:=[.int .i64 0,.int .i64 0]) (by simp +decide only [zq,aevs]) (by decide) (C.mono (Za7 0 0) ?_)
 rintro u s ⟨rfl,e1⟩;apply ZaG;intro _;simp +decide only [zq,↓Zab,↓reduceIte,aOp];rfl;generalize s=σ1 at e1;rw [q0];have h1:=h.ext e1;repeat apply Zaa
 apply Zad;intro _;simp +decide only [zq,↓Zab,↓reduceIte,aOp,Zah,U.neII,n0];rfl;refine Zao ?_;repeat apply Zaa
 refine ZaC (by simp +decide only [zq,decide_true,decide_false]) ?_
 apply Zak;refine Zap ⟨fun _=>?_,fun h=>absurd rfl h⟩;refine Zao ?_;repeat apply Zaa
 apply Zad;intro _;simp +decide only [zq,↓Zab,↓reduceIte,aOp,Zah,U.addI,w1];rfl;refine Zap ⟨fun _=>?_,fun h=>absurd rfl h⟩;refine Zbk ?_;repeat apply Zaa
 apply Zad;intro _;simp +decide only [zq,↓Zab,↓reduceIte,aOp,Zah,U.lssI];rfl;repeat apply Zaa
 refine ZaQ (by simp +decide only [zq,decide_true,decide_false]) ?_
 apply Zak;refine ZaM ?_;repeat apply Zaa
 apply Zad;intro _;simp +decide only [zq,↓Zab,↓reduceIte,aOp,Zae,Zag,ixa1,h1.la1];rfl;repeat apply Zaa
 apply Zad;intro _;simp +decide only [zq,↓Zab,↓reduceIte,aOp,Zah,Zan,aevs,Zaf,Tryz.underlying22,goInt,aLen,U.geqI];rfl;repeat apply Zaa
 refine ZaC (by simp +decide only [zq,decide_true,decide_false]) ?_
 apply Zak;repeat apply Zaa
 apply Zad;intro _;simp +decide only [zq,↓Zab,↓reduceIte,aOp,Zae,Zag,ixb1,h1.lb1];rfl;repeat apply Zaa
 apply ZaF;apply Zay 2;intro _;simp +decide only [zq,List.take,↓Zab,↓reduceIte,aOp];rfl;dsimp only [List.drop];refine ZaV (vs:=[.int .i64 x,.int .i64 y]) (by simp +decide only [zq,aevs]) (by decide) (C.mono (Za7 x y) ?_)
 rintro u s ⟨rfl,e2⟩;apply ZaG;intro _;simp +decide only [zq,↓Zab,↓reduceIte,aOp];rfl;generalize s=σ2 at e2;have E2:=e1.trans e2;by_cases hz:cmpI x y=0;rotate_left
 ·have nz:(cmpI x y != 0)=true:=by rw [bne_iff_ne];exact hz
  repeat apply Zaa
  apply Zad;intro _;simp +decide only [zq,↓Zab,↓reduceIte,aOp,Zah,U.neII,nz];rfl;refine Zao ?_;repeat apply Zaa
  refine ZaQ (by simp +decide only [zq,decide_true,decide_false]) ?_
  repeat apply Zaa
  apply Zad;intro _;simp +decide only [zq,↓Zab,↓reduceIte,aOp];rfl;refine Zbj ⟨fun h=>h.elim (fun h=>(nomatch h)) (fun h=>(nomatch h)),fun _ _=>⟨fun h=>(nomatch h),fun _=>⟨fun h=>h.elim (fun h=>(nomatch h)) (fun h=>(nomatch h)),fun _ _=>⟨zA _,[.int .i64 (cmpI x y)],?_,?_,E2⟩⟩⟩⟩
  ·simp +decide only [zq,Zaj]
  ·rfl
 have nz:(cmpI x y != 0)=false:=by rw [bne_eq_false_iff_eq];exact hz
 repeat apply Zaa
 apply Zad;intro _;simp +decide only [zq,↓Zab,↓reduceIte,aOp,Zah,U.neII,nz];rfl;refine Zao ?_;repeat apply Zaa
 refine ZaC (by simp +decide only [zq,decide_true,decide_false]) ?_
 apply Zak;refine Zap ⟨fun _=>?_,fun h=>absurd rfl h⟩;refine Zao ?_;repeat apply Zaa
 apply Zad;intro _;simp +decide only [zq,↓Zab,↓reduceIte,aOp,Zah,U.addI,w2];rfl;refine Zap ⟨fun _=>?_,fun h=>absurd rfl h⟩;refine Zbk ?_;repeat apply Zaa
 apply Zad;intro _;simp +decide only [zq,↓Zab,↓reduceIte,aOp,Zah,U.lssI];rfl;repeat apply Zaa
 refine ZaC (by simp +decide only [zq,decide_true,decide_false]) ?_
 refine ZaA ⟨fun h=>(nomatch h),fun _=>⟨fun _=>?_,fun h1 h2=>absurd rfl h2⟩⟩;repeat apply Zaa
 apply Zad;intro _;simp +decide only [zq,↓Zab,↓reduceIte,aOp,Zah,Zan,aevs,Zaf,Tryz.underlying22,goInt,aLen,U.lssI];rfl;repeat apply Zaa
 refine ZaC (by simp +decide only [zq,decide_true,decide_false]) ?_
 apply Zak;repeat apply Zaa
 apply Zad;intro _;simp +decide only [zq,↓Zab,↓reduceIte,aOp];rfl;refine ZaL ⟨zA _,[.int .i64 0],?_,by rw [hz];rfl,E2⟩
 simp +decide only [zq,Zaj]
theorem ZoV {σ:AS} (x y z:Int):Zaz Tryz.prog σ 22 3 [(0,.int .i64 x),(1,.int .i64 y),(2,.int .i64 z)]=some (.slice (some ⟨σ.next,0,none⟩) 3 3,σ.new ⟨1,3,0,[.int .i64 x,.int .i64 y,.int .i64 z],[]⟩):=by kernel_rfl
theorem sv_i {n:Nat} {x:Int}:(vsc n 9 (.int .i64 x)&&veq 9 (.int .i64 x) (.int .i64 x))=true:=by rw [ZgV,ZgW];rfl
theorem addr_off {b o:Nat}:(⟨b,o,none⟩:Addr)=⟨b,o,none⟩:=rfl
theorem RS3 {σ:AS} {b:Nat} {x y z:Int} (h:BxAt σ 3 b [.int .i64 x,.int .i64 y,.int .i64 z]):RS 1 RInt σ (slc b 3 3) [x,y,z]:=
 RS.of_block (l:=[x,y,z]) h.lt h.get (zA _) fun i u hx=>by
  match i,hx with
  | 0,hx=>cases hx;rfl
  | 1,hx=>cases hx;rfl
  | 2,hx=>cases hx;rfl
  | i+3,hx=>simp at hx
theorem orI_0 {l:List Int}:orI (cmpI 0 0::l)=orI l:=by
 rw [show cmpI 0 0=0 by decide]
 simp [orI]
theorem Zk2 {σ:AS} (a b:Arc):C Tryz.prog Kn 0 109 [vMv 0 a.1 a.2,vMv 0 b.1 b.2] σ fun v σ'=>v=.int .i64 (cmpA a b)∧Ext σ σ':=by
 refine C_of (kn (by decide)) Tryz.func109 rfl (zD rfl) ?_
 show W _ _ _ 22 _ _ _ _;unfold Tryz.f109;dsimp only;repeat apply Zaa
 apply Zad;intro _;simp +decide only [zq,ZaI,↓Zab,↓reduceIte,aOp,Zbm,aRow];rfl;have e1:=(Ext.new σ ⟨1,125,0,(vMv 0 a.1 a.2).cells.toList,[]⟩).trans (Ext.new (σ.new ⟨1,125,0,(vMv 0 a.1 a.2).cells.toList,[]⟩) ⟨1,125,0,(vMv 0 b.1 b.2).cells.toList,[]⟩);have A1:BxAt ((σ.new ⟨1,125,0,(vMv 0 a.1 a.2).cells.toList,[]⟩).new ⟨1,125,0,(vMv 0 b.1 b.2).cells.toList,[]⟩) 125 σ.next [.int .i64 0,.int .i64 a.1,.int .i64 a.2]:=(BxAt.new σ 125 [.int .i64 0,.int .i64 a.1,.int .i64 a.2]).ext (Ext.new (σ.new ⟨1,125,0,(vMv 0 a.1 a.2).cells.toList,[]⟩) ⟨1,125,0,(vMv 0 b.1 b.2).cells.toList,[]⟩);have B1:BxAt ((σ.new ⟨1,125,0,(vMv 0 a.1 a.2).cells.toList,[]⟩).new ⟨1,125,0,(vMv 0 b.1 b.2).cells.toList,[]⟩) 125 (σ.new ⟨1,125,0,(vMv 0 a.1 a.2).cells.toList,[]⟩).next [.int .i64 0,.int .i64 b.1,.int .i64 b.2]:=BxAt.new (σ.new ⟨1,125,0,(vMv 0 a.1 a.2).cells.toList,[]⟩) 125 [.int .i64 0,.int .i64 b.1,.int .i64 b.2];generalize hn2:(σ.new ⟨1,125,0,(vMv 0 a.1 a.2).cells.toList,[]⟩).next=n2 at B1;generalize hn1:σ.next=n1 at A1;generalize (σ.new ⟨1,125,0,(vMv 0 a.1 a.2).cells.toList,[]⟩).new ⟨1,125,0,(vMv 0 b.1 b.2).cells.toList,[]⟩=σ1 at e1 A1 B1;repeat apply Zaa
 refine Za8 [6,8,11,13] [n1,n2] (by kernel_rfl) (by kernel_rfl) ?_
 apply Zau 1;intro _;simp +decide only [zq,zr,List.take,aQ,↓Zab,↓reduceIte,aOp,Zac,Ziz];rfl;dsimp only [List.drop,List.take,List.length];have q2:Ext σ1 (σ1.merge σ1.reset):=(Ext.refl _).merge;generalize σ1.merge σ1.reset=σ2 at q2;have e1:=e1.trans q2;have A1:=A1.ext q2;have B1:=B1.ext q2;have ld:Zat Tryz.prog σ2.reset 3 (.pointer (some ⟨n1,0,none⟩))=some (.int .i64 0):=Zaw Tryz.underlying3 rfl ((A1.ext (Ext.reset _)).cell (i:=0) rfl);apply Zau 1;intro _;simp +decide only [zq,zr,List.take,aQ,↓Zab,↓reduceIte,aOp,Zag,ld];rfl;dsimp only [List.drop,List.take,List.length];have q3:Ext σ2 (σ2.merge σ2.reset):=(Ext.refl _).merge;generalize σ2.merge σ2.reset=σ3 at q3;have e1:=e1.trans q3;have A1:=A1.ext q3;have B1:=B1.ext q3;apply Zau 1;intro _;simp +decide only [zq,zr,List.take,aQ,↓Zab,↓reduceIte,aOp,Zac,Ziz];rfl;dsimp only [List.drop,List.take,List.length];have q4:Ext σ3 (σ3.merge σ3.reset):=(Ext.refl _).merge;generalize σ3.merge σ3.reset=σ4 at q4;have e1:=e1.trans q4;have A1:=A1.ext q4;have B1:=B1.ext q4;have ld:Zat Tryz.prog σ4.reset 3 (.pointer (some ⟨n2,0,none⟩))=some (.int .i64 0):=Zaw Tryz.underlying3 rfl ((B1.ext (Ext.reset _)).cell (i:=0) rfl);apply Zau 1;intro _;simp +decide only [zq,zr,List.take,aQ,↓Zab,↓reduceIte,aOp,Zag,ld];rfl;dsimp only [List.drop,List.take,List.length];have q5:Ext σ4 (σ4.merge σ4.reset):=(Ext.refl _).merge;generalize σ4.merge σ4.reset=σ5 at q5;have e1:=e1.trans q5;have A1:=A1.ext q5;have B1:=B1.ext q5;refine Zbx (vs:=[.int .i64 0,.int .i64 0]) (by simp +decide only [zq,aevs]) (by decide) rfl (C.mono (Za7 0 0) ?_)
 rintro v s1 ⟨rfl,e2⟩;refine ⟨e2.quiet,?_⟩;have q6:=e2.merge;generalize σ5.merge s1=σ6 at q6;have e1:=e1.trans q6;have A1:=A1.ext q6;have B1:=B1.ext q6;apply Zau 1;intro _;simp +decide only [zq,zr,List.take,aQ,↓Zab,↓reduceIte,aOp,Zac,ZmT];rfl;dsimp only [List.drop,List.take,List.length];have q7:Ext σ6 (σ6.merge σ6.reset):=(Ext.refl _).merge;generalize σ6.merge σ6.reset=σ7 at q7;have e1:=e1.trans q7;have A1:=A1.ext q7;have B1:=B1.ext q7;refine ZaZ (b:=n1) (off:=1) (v:=.int .i64 a.1) (by simp +decide only [zq]) (Zaw Tryz.underlying3 rfl ((A1.ext (Ext.reset _)).cell (i:=1) rfl)) (sv_i) A1.lt (by simp [memb]) (by decide) ?_
 have q8:Ext σ7 (σ7.merge σ7.reset):=(Ext.refl _).merge;generalize σ7.merge σ7.reset=σ8 at q8;have e1:=e1.trans q8;have A1:=A1.ext q8;have B1:=B1.ext q8;apply Zau 1;intro _;simp +decide only [zq,zr,List.take,aQ,↓Zab,↓reduceIte,aOp,Zac,ZmT];rfl;dsimp only [List.drop,List.take,List.length];have q9:Ext σ8 (σ8.merge σ8.reset):=(Ext.refl _).merge;generalize σ8.merge σ8.reset=σ9 at q9;have e1:=e1.trans q9;have A1:=A1.ext q9;have B1:=B1.ext q9;refine ZaZ (b:=n2) (off:=1) (v:=.int .i64 b.1) (by simp +decide only [zq]) (Zaw Tryz.underlying3 rfl ((B1.ext (Ext.reset _)).cell (i:=1) rfl)) (sv_i) B1.lt (by simp [memb]) (by decide) ?_
 have q10:Ext σ9 (σ9.merge σ9.reset):=(Ext.refl _).merge;generalize σ9.merge σ9.reset=σ10 at q10;have e1:=e1.trans q10;have A1:=A1.ext q10;have B1:=B1.ext q10;refine Zbx (vs:=[.int .i64 a.1,.int .i64 b.1]) (by simp +decide only [zq,aevs]) (by decide) rfl (C.mono (Za7 a.1 b.1) ?_)
 rintro v s1 ⟨rfl,e2⟩;refine ⟨e2.quiet,?_⟩;have q11:=e2.merge;generalize σ10.merge s1=σ11 at q11;have e1:=e1.trans q11;have A1:=A1.ext q11;have B1:=B1.ext q11;apply Zau 1;intro _;simp +decide only [zq,zr,List.take,aQ,↓Zab,↓reduceIte,aOp,Zac,Ziy];rfl;dsimp only [List.drop,List.take,List.length];have q12:Ext σ11 (σ11.merge σ11.reset):=(Ext.refl _).merge;generalize σ11.merge σ11.reset=σ12 at q12;have e1:=e1.trans q12;have A1:=A1.ext q12;have B1:=B1.ext q12;refine ZaZ (b:=n1) (off:=2) (v:=.int .i64 a.2) (by simp +decide only [zq]) (Zaw Tryz.underlying3 rfl ((A1.ext (Ext.reset _)).cell (i:=2) rfl)) (sv_i) A1.lt (by simp [memb]) (by decide) ?_
 have q13:Ext σ12 (σ12.merge σ12.reset):=(Ext.refl _).merge;generalize σ12.merge σ12.reset=σ13 at q13;have e1:=e1.trans q13;have A1:=A1.ext q13;have B1:=B1.ext q13;apply Zau 1;intro _;simp +decide only [zq,zr,List.take,aQ,↓Zab,↓reduceIte,aOp,Zac,Ziy];rfl;dsimp only [List.drop,List.take,List.length];have q14:Ext σ13 (σ13.merge σ13.reset):=(Ext.refl _).merge;generalize σ13.merge σ13.reset=σ14 at q14;have e1:=e1.trans q14;have A1:=A1.ext q14;have B1:=B1.ext q14;refine ZaZ (b:=n2) (off:=2) (v:=.int .i64 b.2) (by simp +decide only [zq]) (Zaw Tryz.underlying3 rfl ((B1.ext (Ext.reset _)).cell (i:=2) rfl)) (sv_i) B1.lt (by simp [memb]) (by decide) ?_
 have q15:Ext σ14 (σ14.merge σ14.reset):=(Ext.refl _).merge;generalize σ14.merge σ14.reset=σ15 at q15;have e1:=e1.trans q15;have A1:=A1.ext q15;have B1:=B1.ext q15;refine Zbx (vs:=[.int .i64 a.2,.int .i64 b.2]) (by simp +decide only [zq,aevs]) (by decide) rfl (C.mono (Za7 a.2 b.2) ?_)
 rintro v s1 ⟨rfl,e2⟩;refine ⟨e2.quiet,?_⟩;have q16:=e2.merge;generalize σ15.merge s1=σ16 at q16;have e1:=e1.trans q16;have A1:=A1.ext q16;have B1:=B1.ext q16;apply Zau 1;intro _;simp +decide only [zq,zr,List.take,aQ,↓Zab,↓reduceIte,aOp,Zar,ZaN,ZoV];rfl;dsimp only [List.drop,List.take,List.length];have e3:=e1.trans ((Ext.new σ16.reset ⟨1,3,0,[.int .i64 (cmpI 0 0),.int .i64 (cmpI a.1 b.1),.int .i64 (cmpI a.2 b.2)],[]⟩).merge);have B3:BxAt (σ16.merge (σ16.reset.new ⟨1,3,0,[.int .i64 (cmpI 0 0),.int .i64 (cmpI a.1 b.1),.int .i64 (cmpI a.2 b.2)],[]⟩)) 3 σ16.next [.int .i64 (cmpI 0 0),.int .i64 (cmpI a.1 b.1),.int .i64 (cmpI a.2 b.2)]:=⟨zG _,(AS.get_new σ16.reset _ σ16.reset.next).trans (if_pos rfl)⟩;generalize hn3:σ16.next=n3 at B3;generalize σ16.merge (σ16.reset.new ⟨1,3,0,[.int .i64 (cmpI 0 0),.int .i64 (cmpI a.1 b.1),.int .i64 (cmpI a.2 b.2)],[]⟩)=τ at e3 B3;refine Zbx (vs:=[slc n3 3 3]) (by simp +decide only [zq,aevs]) (by decide) rfl (C.mono (Zga (RS3 (B3.ext (Ext.reset _))) (by simp)) ?_)
 rintro v s1 ⟨rfl,e4⟩;refine ⟨e4.quiet,?_⟩;apply ZaO;intro _;simp +decide only [zq,zr,aQ,↓Zab,↓reduceIte,aOp];rfl;refine ZaL ⟨zA _,[.int .i64 (orI [cmpI 0 0,cmpI a.1 b.1,cmpI a.2 b.2])],?_,?_,e3.trans (e4.merge.trans ?_)⟩
 ·simp +decide only [zq,Zaj]
 ·rw [orI_0];rfl
 ·exact (Ext.refl _).merge
theorem Zlf {σ:AS} (a b:Arc):C Tryz.prog Kn 0 94 [vMv 0 a.1 a.2,vMv 0 b.1 b.2] σ fun v σ'=>v=.int .i64 (cmpA a b)∧Ext σ σ':=by
 refine C_of (kn (by decide)) Tryz.func94 rfl (zD rfl) ?_
 show W _ _ _ 22 _ _ _ _;unfold Tryz.f94;dsimp only;repeat apply Zaa
 apply Zad;intro _;simp +decide only [zq,ZaI,↓Zab,↓reduceIte,aOp,Zbm,aRow];rfl;have e1:=(Ext.new σ ⟨1,125,0,(vMv 0 a.1 a.2).cells.toList,[]⟩).trans (Ext.new (σ.new ⟨1,125,0,(vMv 0 a.1 a.2).cells.toList,[]⟩) ⟨1,125,0,(vMv 0 b.1 b.2).cells.toList,[]⟩);have A1:BxAt ((σ.new ⟨1,125,0,(vMv 0 a.1 a.2).cells.toList,[]⟩).new ⟨1,125,0,(vMv 0 b.1 b.2).cells.toList,[]⟩) 125 σ.next [.int .i64 0,.int .i64 a.1,.int .i64 a.2]:=(BxAt.new σ 125 [.int .i64 0,.int .i64 a.1,.int .i64 a.2]).ext (Ext.new (σ.new ⟨1,125,0,(vMv 0 a.1 a.2).cells.toList,[]⟩) ⟨1,125,0,(vMv 0 b.1 b.2).cells.toList,[]⟩);have B1:BxAt ((σ.new ⟨1,125,0,(vMv 0 a.1 a.2).cells.toList,[]⟩).new ⟨1,125,0,(vMv 0 b.1 b.2).cells.toList,[]⟩) 125 (σ.new ⟨1,125,0,(vMv 0 a.1 a.2).cells.toList,[]⟩).next [.int .i64 0,.int .i64 b.1,.int .i64 b.2]:=BxAt.new (σ.new ⟨1,125,0,(vMv 0 a.1 a.2).cells.toList,[]⟩) 125 [.int .i64 0,.int .i64 b.1,.int .i64 b.2];generalize hn2:(σ.new ⟨1,125,0,(vMv 0 a.1 a.2).cells.toList,[]⟩).next=n2 at B1;generalize hn1:σ.next=n1 at A1;generalize (σ.new ⟨1,125,0,(vMv 0 a.1 a.2).cells.toList,[]⟩).new ⟨1,125,0,(vMv 0 b.1 b.2).cells.toList,[]⟩=σ1 at e1 A1 B1;repeat apply Zaa
 refine Za8 [6,8,11,13] [n1,n2] (by kernel_rfl) (by kernel_rfl) ?_
 apply Zau 1;intro _;simp +decide only [zq,zr,List.take,aQ,↓Zab,↓reduceIte,aOp,Zac,Ziz];rfl;dsimp only [List.drop,List.take,List.length];have q2:Ext σ1 (σ1.merge σ1.reset):=(Ext.refl _).merge;generalize σ1.merge σ1.reset=σ2 at q2;have e1:=e1.trans q2;have A1:=A1.ext q2;have B1:=B1.ext q2;have ld:Zat Tryz.prog σ2.reset 3 (.pointer (some ⟨n1,0,none⟩))=some (.int .i64 0):=Zaw Tryz.underlying3 rfl ((A1.ext (Ext.reset _)).cell (i:=0) rfl);apply Zau 1;intro _;simp +decide only [zq,zr,List.take,aQ,↓Zab,↓reduceIte,aOp,Zag,ld];rfl;dsimp only [List.drop,List.take,List.length];have q3:Ext σ2 (σ2.merge σ2.reset):=(Ext.refl _).merge;generalize σ2.merge σ2.reset=σ3 at q3;have e1:=e1.trans q3;have A1:=A1.ext q3;have B1:=B1.ext q3;apply Zau 1;intro _;simp +decide only [zq,zr,List.take,aQ,↓Zab,↓reduceIte,aOp,Zac,Ziz];rfl;dsimp only [List.drop,List.take,List.length];have q4:Ext σ3 (σ3.merge σ3.reset):=(Ext.refl _).merge;generalize σ3.merge σ3.reset=σ4 at q4;have e1:=e1.trans q4;have A1:=A1.ext q4;have B1:=B1.ext q4;have ld:Zat Tryz.prog σ4.reset 3 (.pointer (some ⟨n2,0,none⟩))=some (.int .i64 0):=Zaw Tryz.underlying3 rfl ((B1.ext (Ext.reset _)).cell (i:=0) rfl);apply Zau 1;intro _;simp +decide only [zq,zr,List.take,aQ,↓Zab,↓reduceIte,aOp,Zag,ld];rfl;dsimp only [List.drop,List.take,List.length];have q5:Ext σ4 (σ4.merge σ4.reset):=(Ext.refl _).merge;generalize σ4.merge σ4.reset=σ5 at q5;have e1:=e1.trans q5;have A1:=A1.ext q5;have B1:=B1.ext q5;refine Zbx (vs:=[.int .i64 0,.int .i64 0]) (by simp +decide only [zq,aevs]) (by decide) rfl (C.mono (Za7 0 0) ?_)
 rintro v s1 ⟨rfl,e2⟩;refine ⟨e2.quiet,?_⟩;have q6:=e2.merge;generalize σ5.merge s1=σ6 at q6;have e1:=e1.trans q6;have A1:=A1.ext q6;have B1:=B1.ext q6;apply Zau 1;intro _;simp +decide only [zq,zr,List.take,aQ,↓Zab,↓reduceIte,aOp,Zac,ZmT];rfl;dsimp only [List.drop,List.take,List.length];have q7:Ext σ6 (σ6.merge σ6.reset):=(Ext.refl _).merge;generalize σ6.merge σ6.reset=σ7 at q7;have e1:=e1.trans q7;have A1:=A1.ext q7;have B1:=B1.ext q7;refine ZaZ (b:=n1) (off:=1) (v:=.int .i64 a.1) (by simp +decide only [zq]) (Zaw Tryz.underlying3 rfl ((A1.ext (Ext.reset _)).cell (i:=1) rfl)) (sv_i) A1.lt (by simp [memb]) (by decide) ?_
 have q8:Ext σ7 (σ7.merge σ7.reset):=(Ext.refl _).merge;generalize σ7.merge σ7.reset=σ8 at q8;have e1:=e1.trans q8;have A1:=A1.ext q8;have B1:=B1.ext q8;apply Zau 1;intro _;simp +decide only [zq,zr,List.take,aQ,↓Zab,↓reduceIte,aOp,Zac,ZmT];rfl;dsimp only [List.drop,List.take,List.length];have q9:Ext σ8 (σ8.merge σ8.reset):=(Ext.refl _).merge;generalize σ8.merge σ8.reset=σ9 at q9;have e1:=e1.trans q9;have A1:=A1.ext q9;have B1:=B1.ext q9;refine ZaZ (b:=n2) (off:=1) (v:=.int .i64 b.1) (by simp +decide only [zq]) (Zaw Tryz.underlying3 rfl ((B1.ext (Ext.reset _)).cell (i:=1) rfl)) (sv_i) B1.lt (by simp [memb]) (by decide) ?_
 have q10:Ext σ9 (σ9.merge σ9.reset):=(Ext.refl _).merge;generalize σ9.merge σ9.reset=σ10 at q10;have e1:=e1.trans q10;have A1:=A1.ext q10;have B1:=B1.ext q10;refine Zbx (vs:=[.int .i64 a.1,.int .i64 b.1]) (by simp +decide only [zq,aevs]) (by decide) rfl (C.mono (Za7 a.1 b.1) ?_)
 rintro v s1 ⟨rfl,e2⟩;refine ⟨e2.quiet,?_⟩;have q11:=e2.merge;generalize σ10.merge s1=σ11 at q11;have e1:=e1.trans q11;have A1:=A1.ext q11;have B1:=B1.ext q11;apply Zau 1;intro _;simp +decide only [zq,zr,List.take,aQ,↓Zab,↓reduceIte,aOp,Zac,Ziy];rfl;dsimp only [List.drop,List.take,List.length];have q12:Ext σ11 (σ11.merge σ11.reset):=(Ext.refl _).merge;generalize σ11.merge σ11.reset=σ12 at q12;have e1:=e1.trans q12;have A1:=A1.ext q12;have B1:=B1.ext q12;refine ZaZ (b:=n1) (off:=2) (v:=.int .i64 a.2) (by simp +decide only [zq]) (Zaw Tryz.underlying3 rfl ((A1.ext (Ext.reset _)).cell (i:=2) rfl)) (sv_i) A1.lt (by simp [memb]) (by decide) ?_
 have q13:Ext σ12 (σ12.merge σ12.reset):=(Ext.refl _).merge;generalize σ12.merge σ12.reset=σ13 at q13;have e1:=e1.trans q13;have A1:=A1.ext q13;have B1:=B1.ext q13;apply Zau 1;intro _;simp +decide only [zq,zr,List.take,aQ,↓Zab,↓reduceIte,aOp,Zac,Ziy];rfl;dsimp only [List.drop,List.take,List.length];have q14:Ext σ13 (σ13.merge σ13.reset):=(Ext.refl _).merge;generalize σ13.merge σ13.reset=σ14 at q14;have e1:=e1.trans q14;have A1:=A1.ext q14;have B1:=B1.ext q14;refine ZaZ (b:=n2) (off:=2) (v:=.int .i64 b.2) (by simp +decide only [zq]) (Zaw Tryz.underlying3 rfl ((B1.ext (Ext.reset _)).cell (i:=2) rfl)) (sv_i) B1.lt (by simp [memb]) (by decide) ?_
 have q15:Ext σ14 (σ14.merge σ14.reset):=(Ext.refl _).merge;generalize σ14.merge σ14.reset=σ15 at q15;have e1:=e1.trans q15;have A1:=A1.ext q15;have B1:=B1.ext q15;refine Zbx (vs:=[.int .i64 a.2,.int .i64 b.2]) (by simp +decide only [zq,aevs]) (by decide) rfl (C.mono (Za7 a.2 b.2) ?_)
 rintro v s1 ⟨rfl,e2⟩;refine ⟨e2.quiet,?_⟩;have q16:=e2.merge;generalize σ15.merge s1=σ16 at q16;have e1:=e1.trans q16;have A1:=A1.ext q16;have B1:=B1.ext q16;apply Zau 1;intro _;simp +decide only [zq,zr,List.take,aQ,↓Zab,↓reduceIte,aOp,Zar,ZaN,ZoV];rfl;dsimp only [List.drop,List.take,List.length];have e3:=e1.trans ((Ext.new σ16.reset ⟨1,3,0,[.int .i64 (cmpI 0 0),.int .i64 (cmpI a.1 b.1),.int .i64 (cmpI a.2 b.2)],[]⟩).merge);have B3:BxAt (σ16.merge (σ16.reset.new ⟨1,3,0,[.int .i64 (cmpI 0 0),.int .i64 (cmpI a.1 b.1),.int .i64 (cmpI a.2 b.2)],[]⟩)) 3 σ16.next [.int .i64 (cmpI 0 0),.int .i64 (cmpI a.1 b.1),.int .i64 (cmpI a.2 b.2)]:=⟨zG _,(AS.get_new σ16.reset _ σ16.reset.next).trans (if_pos rfl)⟩;generalize hn3:σ16.next=n3 at B3;generalize σ16.merge (σ16.reset.new ⟨1,3,0,[.int .i64 (cmpI 0 0),.int .i64 (cmpI a.1 b.1),.int .i64 (cmpI a.2 b.2)],[]⟩)=τ at e3 B3;refine Zbx (vs:=[slc n3 3 3]) (by simp +decide only [zq,aevs]) (by decide) rfl (C.mono (Zga (RS3 (B3.ext (Ext.reset _))) (by simp)) ?_)
 rintro v s1 ⟨rfl,e4⟩;refine ⟨e4.quiet,?_⟩;apply ZaO;intro _;simp +decide only [zq,zr,aQ,↓Zab,↓reduceIte,aOp];rfl;refine ZaL ⟨zA _,[.int .i64 (orI [cmpI 0 0,cmpI a.1 b.1,cmpI a.2 b.2])],?_,?_,e3.trans (e4.merge.trans ?_)⟩
 ·simp +decide only [zq,Zaj]
 ·rw [orI_0];rfl
 ·exact (Ext.refl _).merge
def CmpMvC (cf:FuncId):Prop:=∀{σ:AS} (a b:Arc),C Tryz.prog Kn 0 cf [vMv 0 a.1 a.2,vMv 0 b.1 b.2] σ fun v σ'=>v=.int .i64 (cmpA a b)∧Ext σ σ'
theorem Zm1 {cf:FuncId} (hcf:CmpMvC cf) {σ:AS} {p q cp cq:Nat} {a b:Arc} (ha1:p<σ.next) (ha2:Zav σ ⟨p,0,none⟩ 3=some [.int .i64 0,.int .i64 a.1,.int .i64 a.2]) (hb1:q<σ.next) (hb2:Zav σ ⟨q,0,none⟩ 3=some [.int .i64 0,.int .i64 b.1,.int .i64 b.2]) :
  C Tryz.prog Kn 0 93 [slc p 1 cp,slc q 1 cq,.func (.func cf) #[] #[]] σ fun v σ'=>v=.int .i64 (cmpA a b)∧Ext σ σ':=by
 refine C_of (kn (by decide)) Tryz.func93 rfl (zD rfl) ?_
 show W _ _ _ 39 _ _ _ _;unfold Tryz.f93;dsimp only;have dl0:decide ((0:Int)<((1:Nat):Int))=true:=by decide
 have dl1:decide ((1:Int)<((1:Nat):Int))=false:=by decide
 have dl3:decide (((1:Nat):Int)<((1:Nat):Int))=false:=by decide
 have dg0:decide ((0:Int)≥((1:Nat):Int))=false:=by decide
 have w1:IntKind.i64.wrap (0+1)=1:=by decide
 have ixa:Zal Tryz.prog 75 (slc p 1 cp) (.int .i64 0)=some (.pointer (some ⟨p,0,none⟩)):=Zp7 (i:=0) (by omega)
 have ixb:Zal Tryz.prog 75 (slc q 1 cq) (.int .i64 0)=some (.pointer (some ⟨q,0,none⟩)):=Zp7 (i:=0) (by omega)
 repeat apply Zaa
 apply Zad;intro _;simp +decide only [zq,ZaI,↓Zab,↓reduceIte,aOp];rfl;repeat apply Zaa
 apply Zad;intro _;simp +decide only [zq,↓Zab,↓reduceIte,aOp,Zan,aevs,Zaf,Tryz.underlying75,goInt,aLen];rfl;repeat apply Zaa
 refine ZaM (Zbk ?_);repeat apply Zaa
 apply Zad;intro _;simp +decide only [zq,↓Zab,↓reduceIte,aOp,Zah,U.lssI];rfl;repeat apply Zaa
 refine ZaQ (by simp +decide only [zq,decide_true]) ?_
 apply Zak;refine ZaM ?_;have lda:Zat Tryz.prog σ 125 (.pointer (some ⟨p,0,none⟩))=some (vMv 0 a.1 a.2):=ZbK Tryz.underlying125 rfl (i:=(Tryz.prog.info? 125).get!) (by kernel_rfl) (by rw [show ((Tryz.prog.info? 125).get!).size=3 by kernel_rfl];exact ha2)
 repeat apply Zaa
 apply Zad;intro _;simp +decide only [zq,↓Zab,↓reduceIte,aOp,Zae,Zag,ZaE,unn,ixa,lda,Zjp,ZiW];rfl;have e1:=Zcn σ 125 [.int .i64 0,.int .i64 0,.int .i64 0] [.int .i64 0,.int .i64 a.1,.int .i64 a.2];have Ba:=Zc9 σ 125 [.int .i64 0,.int .i64 0,.int .i64 0] [.int .i64 0,.int .i64 a.1,.int .i64 a.2];generalize hna:σ.next=na at Ba;generalize dcl σ 125 [.int .i64 0,.int .i64 0,.int .i64 0] [.int .i64 0,.int .i64 a.1,.int .i64 a.2]=σ1 at e1 Ba;repeat apply Zaa
 apply Zad;intro _;simp +decide only [zq,↓Zab,↓reduceIte,aOp,Zah,Zan,aevs,Zaf,Tryz.underlying75,goInt,aLen,U.geqI];rfl;repeat apply Zaa
 refine ZaC (by simp +decide only [zq,decide_true,decide_false]) ?_
 apply Zak;have ldb:Zat Tryz.prog σ1 125 (.pointer (some ⟨q,0,none⟩))=some (vMv 0 b.1 b.2):=ZbK Tryz.underlying125 rfl (i:=(Tryz.prog.info? 125).get!) (by kernel_rfl) (by rw [show ((Tryz.prog.info? 125).get!).size=3 by kernel_rfl];exact (by rw [e1.cells (a:=⟨q,0,none⟩) hb1];exact hb2))
 repeat apply Zaa
 apply Zad;intro _;simp +decide only [zq,↓Zab,↓reduceIte,aOp,Zae,Zag,ZaE,unn,ixb,ldb,Zjp,ZiW];rfl;have e2:=Zcn σ1 125 [.int .i64 0,.int .i64 0,.int .i64 0] [.int .i64 0,.int .i64 b.1,.int .i64 b.2];have Bb:=Zc9 σ1 125 [.int .i64 0,.int .i64 0,.int .i64 0] [.int .i64 0,.int .i64 b.1,.int .i64 b.2];generalize hnb:σ1.next=nb at Bb;generalize dcl σ1 125 [.int .i64 0,.int .i64 0,.int .i64 0] [.int .i64 0,.int .i64 b.1,.int .i64 b.2]=σ2 at e2 Bb;have Ba:=Ba.ext e2;have lv:∀(x:Arc) (n:Nat),BxAt σ2 125 n [.int .i64 0,.int .i64 x.1,.int .i64 x.2]→Zat Tryz.prog σ2 125 (.pointer (some ⟨n,0,none⟩))=some (vMv 0 x.1 x.2):=fun x n h=>ZbK Tryz.underlying125 rfl (i:=(Tryz.prog.info? 125).get!) (by kernel_rfl) (by rw [show ((Tryz.prog.info? 125).get!).size=3 by kernel_rfl];exact Zaq h.get rfl (zA _))
 have va:=lv a na Ba;have vb:=lv b nb Bb;repeat apply Zaa
 apply ZaF;apply Zay 3;intro _;simp +decide only [zq,List.take,↓Zab,↓reduceIte,aOp,Zag,va,vb];rfl;dsimp only [List.drop];refine Zfp (first:=#[]) (captured:=#[]) (fid:=cf) (vs:=[vMv 0 a.1 a.2,vMv 0 b.1 b.2]) (by simp +decide only [zq]) (by simp +decide only [zq,aevs]) (by decide) (C.mono (hcf a b) ?_)
 rintro u s ⟨rfl,e3⟩;apply ZaG;intro _;simp +decide only [zq,↓Zab,↓reduceIte,aOp];rfl;generalize s=σ3 at e3;have E3:=e1.trans (e2.trans e3);by_cases hz:cmpA a b=0;rotate_left
 ·have nz:(cmpA a b != 0)=true:=by rw [bne_iff_ne];exact hz
  repeat apply Zaa
  apply Zad;intro _;simp +decide only [zq,↓Zab,↓reduceIte,aOp,Zah,U.neII,nz];rfl;refine Zao ?_;repeat apply Zaa
  refine ZaQ (by simp +decide only [zq,decide_true,decide_false]) ?_
  repeat apply Zaa
  apply Zad;intro _;simp +decide only [zq,↓Zab,↓reduceIte,aOp];rfl;refine Zbj ⟨fun h=>h.elim (fun h=>(nomatch h)) (fun h=>(nomatch h)),fun _ _=>⟨fun h=>(nomatch h),fun _=>⟨fun h=>h.elim (fun h=>(nomatch h)) (fun h=>(nomatch h)),fun _ _=>⟨zA _,[.int .i64 (cmpA a b)],?_,?_,E3⟩⟩⟩⟩
  ·simp +decide only [zq,Zaj]
  ·rfl
 have nz:(cmpA a b != 0)=false:=by rw [bne_eq_false_iff_eq];exact hz
 repeat apply Zaa
 apply Zad;intro _;simp +decide only [zq,↓Zab,↓reduceIte,aOp,Zah,U.neII,nz];rfl;refine Zao ?_;repeat apply Zaa
 refine ZaC (by simp +decide only [zq,decide_true,decide_false]) ?_
 apply Zak;refine Zap ⟨fun _=>?_,fun h=>absurd rfl h⟩;refine Zao ?_;repeat apply Zaa
 apply Zad;intro _;simp +decide only [zq,↓Zab,↓reduceIte,aOp,Zah,U.addI,w1];rfl;refine Zap ⟨fun _=>?_,fun h=>absurd rfl h⟩;refine Zbk ?_;repeat apply Zaa
 apply Zad;intro _;simp +decide only [zq,↓Zab,↓reduceIte,aOp,Zah,U.lssI];rfl;repeat apply Zaa
 refine ZaC (by simp +decide only [zq,decide_true,decide_false]) ?_
 refine ZaA ⟨fun h=>(nomatch h),fun _=>⟨fun _=>?_,fun h1 h2=>absurd rfl h2⟩⟩;repeat apply Zaa
 apply Zad;intro _;simp +decide only [zq,↓Zab,↓reduceIte,aOp,Zah,Zan,aevs,Zaf,Tryz.underlying75,goInt,aLen,U.lssI];rfl;repeat apply Zaa
 refine ZaC (by simp +decide only [zq,decide_true,decide_false]) ?_
 apply Zak;repeat apply Zaa
 apply Zad;intro _;simp +decide only [zq,↓Zab,↓reduceIte,aOp];rfl;refine ZaL ⟨zA _,[.int .i64 0],?_,by rw [hz];rfl,E3⟩
 simp +decide only [zq,Zaj]
theorem orI_3 {x y:Int}:orI [x,y,orI [x,y]]=orI [x,y]:=by
 simp only [orI];by_cases h1:x=0
 ·by_cases h2:y=0
  ·simp [h1,h2]
  ·simp [h1,h2]
 ·simp [h1]
def vSt (e:Int) (nb nc mb mc:Nat):Value:=.agg #[.int .i64 e,slc nb 2 nc,slc mb 1 mc]
theorem ZgU {lo lo':Nat} {σ:AS} {cx cy:List Value} {a b:Arc} (hx:RSt lo σ cx a) (hy:RSt lo' σ cy b):C Tryz.prog Kn 0 74 [.agg cx.toArray,.agg cy.toArray] σ fun v σ'=>v=.int .i64 (cmpA a b)∧Ext σ σ':=by
 obtain ⟨xn,xc,xm,xd,rfl,⟨-,x1,-,-,x2⟩,-,x3,-,-,x4⟩:=hx;obtain ⟨yn,yc,ym,yd,rfl,⟨-,y1,-,-,y2⟩,-,y3,-,-,y4⟩:=hy;have hP:Prs σ xn yn 0 a.2 0 b.2:=⟨x1,x2,y1,y2⟩;show C Tryz.prog Kn 0 _ [vSt a.1 xn xc xm xd,vSt b.1 yn yc ym yd] σ _;refine C_of (kn (by decide)) Tryz.func74 rfl (zD rfl) ?_
 show W _ _ _ 22 _ _ _ _;unfold Tryz.f74;dsimp only;repeat apply Zaa
 apply Zad;intro _;simp +decide only [zq,ZaI,↓Zab,↓reduceIte,aOp,Zbm,aRow];rfl;have e1:=(Ext.new σ ⟨1,77,0,(vSt a.1 xn xc xm xd).cells.toList,[]⟩).trans (Ext.new (σ.new ⟨1,77,0,(vSt a.1 xn xc xm xd).cells.toList,[]⟩) ⟨1,77,0,(vSt b.1 yn yc ym yd).cells.toList,[]⟩);have A1:BxAt ((σ.new ⟨1,77,0,(vSt a.1 xn xc xm xd).cells.toList,[]⟩).new ⟨1,77,0,(vSt b.1 yn yc ym yd).cells.toList,[]⟩) 77 σ.next [.int .i64 a.1,slc xn 2 xc,slc xm 1 xd]:=(BxAt.new σ 77 [.int .i64 a.1,slc xn 2 xc,slc xm 1 xd]).ext (Ext.new (σ.new ⟨1,77,0,(vSt a.1 xn xc xm xd).cells.toList,[]⟩) ⟨1,77,0,(vSt b.1 yn yc ym yd).cells.toList,[]⟩);have B1:BxAt ((σ.new ⟨1,77,0,(vSt a.1 xn xc xm xd).cells.toList,[]⟩).new ⟨1,77,0,(vSt b.1 yn yc ym yd).cells.toList,[]⟩) 77 (σ.new ⟨1,77,0,(vSt a.1 xn xc xm xd).cells.toList,[]⟩).next [.int .i64 b.1,slc yn 2 yc,slc ym 1 yd]:=BxAt.new (σ.new ⟨1,77,0,(vSt a.1 xn xc xm xd).cells.toList,[]⟩) 77 [.int .i64 b.1,slc yn 2 yc,slc ym 1 yd];generalize hn2:(σ.new ⟨1,77,0,(vSt a.1 xn xc xm xd).cells.toList,[]⟩).next=n2 at B1;generalize hn1:σ.next=n1 at A1;generalize (σ.new ⟨1,77,0,(vSt a.1 xn xc xm xd).cells.toList,[]⟩).new ⟨1,77,0,(vSt b.1 yn yc ym yd).cells.toList,[]⟩=σ1 at e1 A1 B1;repeat apply Zaa
 refine Za8 [6,8,11,13] [n1,n2] (by kernel_rfl) (by kernel_rfl) ?_
 apply Zau 1;intro _;simp +decide only [zq,zr,List.take,aQ,↓Zab,↓reduceIte,aOp,Zac,ZgB];rfl;dsimp only [List.drop,List.take,List.length];have q2:Ext σ1 (σ1.merge σ1.reset):=(Ext.refl _).merge;generalize σ1.merge σ1.reset=σ2 at q2;have e1:=e1.trans q2;have A1:=A1.ext q2;have B1:=B1.ext q2;have ld:Zat Tryz.prog σ2.reset 3 (.pointer (some ⟨n1,0,none⟩))=some (.int .i64 a.1):=Zaw Tryz.underlying3 rfl ((A1.ext (Ext.reset _)).cell (i:=0) rfl);apply Zau 1;intro _;simp +decide only [zq,zr,List.take,aQ,↓Zab,↓reduceIte,aOp,Zag,ld];rfl;dsimp only [List.drop,List.take,List.length];have q3:Ext σ2 (σ2.merge σ2.reset):=(Ext.refl _).merge;generalize σ2.merge σ2.reset=σ3 at q3;have e1:=e1.trans q3;have A1:=A1.ext q3;have B1:=B1.ext q3;apply Zau 1;intro _;simp +decide only [zq,zr,List.take,aQ,↓Zab,↓reduceIte,aOp,Zac,ZgB];rfl;dsimp only [List.drop,List.take,List.length];have q4:Ext σ3 (σ3.merge σ3.reset):=(Ext.refl _).merge;generalize σ3.merge σ3.reset=σ4 at q4;have e1:=e1.trans q4;have A1:=A1.ext q4;have B1:=B1.ext q4;have ld:Zat Tryz.prog σ4.reset 3 (.pointer (some ⟨n2,0,none⟩))=some (.int .i64 b.1):=Zaw Tryz.underlying3 rfl ((B1.ext (Ext.reset _)).cell (i:=0) rfl);apply Zau 1;intro _;simp +decide only [zq,zr,List.take,aQ,↓Zab,↓reduceIte,aOp,Zag,ld];rfl;dsimp only [List.drop,List.take,List.length];have q5:Ext σ4 (σ4.merge σ4.reset):=(Ext.refl _).merge;generalize σ4.merge σ4.reset=σ5 at q5;have e1:=e1.trans q5;have A1:=A1.ext q5;have B1:=B1.ext q5;refine Zbx (vs:=[.int .i64 a.1,.int .i64 b.1]) (by simp +decide only [zq,aevs]) (by decide) rfl (C.mono (Za7 a.1 b.1) ?_)
 rintro v s1 ⟨rfl,e2⟩;refine ⟨e2.quiet,?_⟩;have q6:=e2.merge;generalize σ5.merge s1=σ6 at q6;have e1:=e1.trans q6;have A1:=A1.ext q6;have B1:=B1.ext q6;apply Zau 1;intro _;simp +decide only [zq,zr,List.take,aQ,↓Zab,↓reduceIte,aOp,Zac,ZfH];rfl;dsimp only [List.drop,List.take,List.length];have q7:Ext σ6 (σ6.merge σ6.reset):=(Ext.refl _).merge;generalize σ6.merge σ6.reset=σ7 at q7;have e1:=e1.trans q7;have A1:=A1.ext q7;have B1:=B1.ext q7;refine ZaZ (b:=n1) (off:=1) (v:=slc xn 2 xc) (by simp +decide only [zq]) (Zaw Tryz.underlying22 rfl ((A1.ext (Ext.reset _)).cell (i:=1) rfl)) (ZbA (e1.lt x1)) A1.lt (by simp [memb]) (by decide) ?_
 have q8:Ext σ7 (σ7.merge σ7.reset):=(Ext.refl _).merge;generalize σ7.merge σ7.reset=σ8 at q8;have e1:=e1.trans q8;have A1:=A1.ext q8;have B1:=B1.ext q8;apply Zau 1;intro _;simp +decide only [zq,zr,List.take,aQ,↓Zab,↓reduceIte,aOp,Zac,ZfH];rfl;dsimp only [List.drop,List.take,List.length];have q9:Ext σ8 (σ8.merge σ8.reset):=(Ext.refl _).merge;generalize σ8.merge σ8.reset=σ9 at q9;have e1:=e1.trans q9;have A1:=A1.ext q9;have B1:=B1.ext q9;refine ZaZ (b:=n2) (off:=1) (v:=slc yn 2 yc) (by simp +decide only [zq]) (Zaw Tryz.underlying22 rfl ((B1.ext (Ext.reset _)).cell (i:=1) rfl)) (ZbA (e1.lt y1)) B1.lt (by simp [memb]) (by decide) ?_
 have q10:Ext σ9 (σ9.merge σ9.reset):=(Ext.refl _).merge;generalize σ9.merge σ9.reset=σ10 at q10;have e1:=e1.trans q10;have A1:=A1.ext q10;have B1:=B1.ext q10;refine Zbx (vs:=[slc xn 2 xc,slc yn 2 yc]) (by simp +decide only [zq,aevs]) (by decide) rfl (C.mono (Zkw (hP.ext (e1.trans (Ext.reset _)))) ?_)
 rintro v s1 ⟨rfl,e2⟩;refine ⟨e2.quiet,?_⟩;have q11:=e2.merge;generalize σ10.merge s1=σ11 at q11;have e1:=e1.trans q11;have A1:=A1.ext q11;have B1:=B1.ext q11;apply Zau 1;intro _;simp +decide only [zq,zr,List.take,aQ,↓Zab,↓reduceIte,aOp,Zac,ZmS];rfl;dsimp only [List.drop,List.take,List.length];have q12:Ext σ11 (σ11.merge σ11.reset):=(Ext.refl _).merge;generalize σ11.merge σ11.reset=σ12 at q12;have e1:=e1.trans q12;have A1:=A1.ext q12;have B1:=B1.ext q12;refine ZaZ (b:=n1) (off:=2) (v:=slc xm 1 xd) (by simp +decide only [zq]) (Zaw Tryz.underlying75 rfl ((A1.ext (Ext.reset _)).cell (i:=2) rfl)) (ZbA (e1.lt x3)) A1.lt (by simp [memb]) (by decide) ?_
 have q13:Ext σ12 (σ12.merge σ12.reset):=(Ext.refl _).merge;generalize σ12.merge σ12.reset=σ13 at q13;have e1:=e1.trans q13;have A1:=A1.ext q13;have B1:=B1.ext q13;apply Zau 1;intro _;simp +decide only [zq,zr,List.take,aQ,↓Zab,↓reduceIte,aOp,Zac,ZmS];rfl;dsimp only [List.drop,List.take,List.length];have q14:Ext σ13 (σ13.merge σ13.reset):=(Ext.refl _).merge;generalize σ13.merge σ13.reset=σ14 at q14;have e1:=e1.trans q14;have A1:=A1.ext q14;have B1:=B1.ext q14;refine ZaZ (b:=n2) (off:=2) (v:=slc ym 1 yd) (by simp +decide only [zq]) (Zaw Tryz.underlying75 rfl ((B1.ext (Ext.reset _)).cell (i:=2) rfl)) (ZbA (e1.lt y3)) B1.lt (by simp [memb]) (by decide) ?_
 have q15:Ext σ14 (σ14.merge σ14.reset):=(Ext.refl _).merge;generalize σ14.merge σ14.reset=σ15 at q15;have e1:=e1.trans q15;have A1:=A1.ext q15;have B1:=B1.ext q15;refine Zbx (vs:=[slc xm 1 xd,slc ym 1 yd,.func (.func 109) #[] #[]]) (by simp +decide only [zq,aevs]) (by decide) rfl (C.mono (Zm1 (a:=a) (b:=b) Zk2 ((e1.trans (Ext.reset _)).lt x3) (by rw [(e1.trans (Ext.reset _)).cells (a:=⟨xm,0,none⟩) x3];exact x4) ((e1.trans (Ext.reset _)).lt y3) (by rw [(e1.trans (Ext.reset _)).cells (a:=⟨ym,0,none⟩) y3];exact y4)) ?_)
 rintro v s1 ⟨rfl,e2⟩;refine ⟨e2.quiet,?_⟩;have q16:=e2.merge;generalize σ15.merge s1=σ16 at q16;have e1:=e1.trans q16;have A1:=A1.ext q16;have B1:=B1.ext q16;apply Zau 1;intro _;simp +decide only [zq,zr,List.take,aQ,↓Zab,↓reduceIte,aOp,Zar,ZaN,ZoV];rfl;dsimp only [List.drop,List.take,List.length];have e3:=e1.trans ((Ext.new σ16.reset ⟨1,3,0,[.int .i64 (cmpI a.1 b.1),.int .i64 (cmpI a.2 b.2),.int .i64 (cmpA a b)],[]⟩).merge);have B3:BxAt (σ16.merge (σ16.reset.new ⟨1,3,0,[.int .i64 (cmpI a.1 b.1),.int .i64 (cmpI a.2 b.2),.int .i64 (cmpA a b)],[]⟩)) 3 σ16.next [.int .i64 (cmpI a.1 b.1),.int .i64 (cmpI a.2 b.2),.int .i64 (cmpA a b)]:=⟨zG _,(AS.get_new σ16.reset _ σ16.reset.next).trans (if_pos rfl)⟩;generalize hn3:σ16.next=n3 at B3;generalize σ16.merge (σ16.reset.new ⟨1,3,0,[.int .i64 (cmpI a.1 b.1),.int .i64 (cmpI a.2 b.2),.int .i64 (cmpA a b)],[]⟩)=τ at e3 B3;refine Zbx (vs:=[slc n3 3 3]) (by simp +decide only [zq,aevs]) (by decide) rfl (C.mono (Zga (RS3 (B3.ext (Ext.reset _))) (by simp)) ?_)
 rintro v s1 ⟨rfl,e4⟩;refine ⟨e4.quiet,?_⟩;apply ZaO;intro _;simp +decide only [zq,zr,aQ,↓Zab,↓reduceIte,aOp];rfl;refine ZaL ⟨zA _,[.int .i64 (orI [cmpI a.1 b.1,cmpI a.2 b.2,cmpA a b])],?_,?_,e3.trans (e4.merge.trans ?_)⟩
 ·simp +decide only [zq,Zaj]
 ·unfold cmpA;rw [orI_3];rfl
 ·exact (Ext.refl _).merge
end Go.Proofs.YteangeffgjolpaaGreatDoor.Nest
