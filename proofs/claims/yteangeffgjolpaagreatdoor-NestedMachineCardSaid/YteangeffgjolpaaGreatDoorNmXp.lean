/- A machine of one component is accepted. -/
import Derived.Test.YteangeffgjolpaaGreatDoorNmV
import Derived.Test.YteangeffgjolpaaGreatDoorNmY
import Derived.Test.YteangeffgjolpaaGreatDoorNmEx
set_option linter.unusedSimpArgs false
set_option linter.unusedVariables false
set_option maxRecDepth 100000
set_option maxHeartbeats 64000000
namespace Go.Proofs.YteangeffgjolpaaGreatDoor.Nest
open Abs
theorem Zma {P:Program} {K:Tbl} {G n:Nat} {ops:Array Oper} {sj X:List Nat} {Q Q':Regs→AS→Prop} (hq:∀r σ,Q r σ→Q' r σ):∀(l:List Oper) (k:Nat) (r:Regs) (σ:AS),Lg P K G n ops sj X k l r σ Q→Lg P K G n ops sj X k l r σ Q'
 | [],_,r,σ,h=>hq r σ h
 | o::l,k,r,σ,h=>by
  refine ⟨fun hw=>?_,fun hw=>?_⟩
  ·obtain ⟨v,s,N,h1,h2,r',h3,h4⟩:=h.1 hw;exact ⟨v,s,N,h1,h2,r',h3,Zma hq l _ _ _ h4⟩
  ·obtain ⟨r',h3,h4⟩:=h.2 hw;exact ⟨r',h3,Zma hq l _ _ _ h4⟩
theorem W_drwM {P:Program} {K:Tbl} {G n id:Nat} {ops:Array Oper} {r:Regs} {σ:AS} {d:Code} {Q:Nat→Regs→AS→Prop} (sj X:List Nat) (M:Regs→AS→Prop) (hst:Zdy ops (Zbp ops)=true) (hsj:Zf9 ops (Zbp ops) ops.size=sj)
  (hM:∀r' σ',M r' σ'→W P K G n d r' σ' Q) (h:Lg P K G n ops sj X 0 ops.toList r σ M) (hnew:ZoC ops sj=true∨σ.next∈X:=by first|with_reducible exact .inr (List.Mem.head _)|exact .inl (by kernel_rfl)):W P K G n (.seq (.region id ops true) d) r σ Q:=
 Za8 sj X hst hsj (Zma hM _ _ _ _ h) hnew
theorem Zoj {σ:AS} {d:MD} {L:Lts} {E:List Int} (hM:Mach σ d L E) (hE:∀e∈E,0≤e∧e≤1025) (hEs:E.Pairwise (·<·)) (hEl:E.length≤2000):C Tryz.prog Kn 0 123 [d.fmt,slc d.bf 1 d.cf] σ fun v σ'=>v=.bool true∧Ext σ σ':=by
 obtain ⟨rb,rc,hrv,-⟩:=id hM.rules;unfold MD.fmt;rw [hrv];refine C_of (kn (by decide)) Tryz.func123 rfl (zD rfl) ?_
 show W _ _ _ 101 _ _ _ _;unfold Tryz.f123;dsimp only;repeat apply Zaa
 apply Zad;intro _;simp +decide only [zq,ZaI,↓Zab,↓reduceIte,aOp,Zbm,aRow];rfl;have e1:Ext σ (σ.new ⟨1,66,0,(.agg #[.string ⟨#[]⟩,slc d.ba 1 d.ca,.slice rb E.length rc]:Value).cells.toList,[]⟩):=Ext.new σ _;have B1:BxAt (σ.new ⟨1,66,0,(.agg #[.string ⟨#[]⟩,slc d.ba 1 d.ca,.slice rb E.length rc]:Value).cells.toList,[]⟩) 66 σ.next [.string ⟨#[]⟩,slc d.ba 1 d.ca,.slice rb E.length rc]:=BxAt.new σ _ _;generalize hnx:σ.next=fb at B1;generalize σ.new ⟨1,66,0,(.agg #[.string ⟨#[]⟩,slc d.ba 1 d.ca,.slice rb E.length rc]:Value).cells.toList,[]⟩=σ1 at e1 B1;have lr0:Zat Tryz.prog σ1 64 (.pointer (some ⟨fb,2,none⟩))=some (.slice rb E.length rc):=Zaw Tryz.underlying64 rfl (B1.cell (i:=2) rfl);repeat apply Zaa
 apply Zad;intro _;simp +decide only [zq,↓Zab,↓reduceIte,aOp,Zan,Zac,Zag,aevs,Zaf,ZiA,lr0,Tryz.underlying64,goInt,aLen];rfl;repeat apply Zaa
 refine Zbs (fun (j:Nat) r s=>j≤E.length∧Ext σ1 s∧rget r 1=slc d.bf 1 d.cf∧rget r 2=.pointer (some ⟨fb,0,none⟩)∧rget r 10=.slice rb E.length rc∧rget r 11=.int .i64 (E.length:Int)∧rget r 12=.int .i64 (j:Int)) (fun j=>E.length-j) (fun r s=>Ext σ1 s) ?_ ?_ 0 ?_;rotate_left 2
 ·refine ⟨zH _,Ext.refl _,?_,?_,?_,?_,?_⟩<;>simp +decide only [zq]<;>first|exact True.intro|rfl
 rotate_left
 ·rintro r s e3;repeat apply Zaa
  apply Zad;intro _;simp +decide only [zq,↓Zab,↓reduceIte,aOp];rfl;refine ZaL ⟨zA _,[.bool true],?_,rfl,e1.trans e3⟩;simp +decide only [zq,Zaj]
 rintro j r σ2 ⟨hj,e3,h1,h2,h10,h11,h12⟩;have w6:IntKind.i64.wrap ((j:Int)+1)=((j+1:Nat):Int):=by rw [Zas _ (by omega) (by omega)];omega
 by_cases hlt:j<E.length
 rotate_left
 ·have d1:decide ((j:Int)<(E.length:Int))=false:=zI (by omega)
  repeat apply Zaa
  apply Zad;intro _;simp +decide only [zq,↓Zab,↓reduceIte,aOp,Zah,h11,h12,U.lssI,d1];rfl;repeat apply Zaa
  refine ZaC (by simp +decide only [zq]) ?_
  exact ZaA ⟨fun h=>(nomatch h),fun _=>e3,fun h1 h2=>absurd rfl h2⟩
 have d1:decide ((j:Int)<(E.length:Int))=true:=zM (by omega)
 repeat apply Zaa
 apply Zad;intro _;simp +decide only [zq,↓Zab,↓reduceIte,aOp,Zah,h11,h12,U.lssI,d1];rfl;repeat apply Zaa
 refine ZaQ (by simp +decide only [zq]) ?_
 apply Zak;refine ZaM ?_;obtain ⟨e,he⟩:∃e,E[j]?=some e:=⟨E[j],by simp [hlt]⟩
 obtain ⟨he0,he1⟩:=hE e (zF he);have hru:=hM.rules;rw [hrv] at hru;obtain ⟨-,rb0,ro0,p,cp,rfl,hrb0,hp1,hp2,hldr⟩:=Zmq hru he;repeat apply Zaa
 apply Zad;intro _;simp +decide only [zq,↓Zab,↓reduceIte,aOp,Zae,Zag,ZaE,unn,h10,h12,Zp5 hlt,hldr _ (e1.trans e3),Zjo,ZiU];rfl;have ed:=Zcn σ2 69 [.slice none 0 0,.int .i64 0,.int .i64 0] [slc p 1 cp,.int .i64 e,.int .i64 0];have BR:=Zc9 σ2 69 [.slice none 0 0,.int .i64 0,.int .i64 0] [slc p 1 cp,.int .i64 e,.int .i64 0];generalize hrx:σ2.next=rx at BR;generalize dcl σ2 69 [.slice none 0 0,.int .i64 0,.int .i64 0] [slc p 1 cp,.int .i64 e,.int .i64 0]=σ3 at ed BR;have d00:decide ((0:Int)<0)=false:=by decide
 have d01:decide ((0:Int)≥((1:Nat):Int))=false:=by decide
 have n11:(((1:Nat):Int) != ((1:Nat):Int))=false:=by decide
 have d0f:decide ((-1:Int)≥0)=false:=by decide
 have BR0:=BR;have BF0:=B1;have BR:=BR0.ext (Ext.reset σ3);have lev:Zat Tryz.prog σ3.reset 3 (.pointer (some ⟨rx,1,none⟩))=some (.int .i64 e):=Zaw Tryz.underlying3 rfl (BR.cell (i:=1) rfl);have lnx:Zat Tryz.prog σ3.reset 3 (.pointer (some ⟨rx,2,none⟩))=some (.int .i64 0):=Zaw Tryz.underlying3 rfl (BR.cell (i:=2) rfl);have lpt:Zat Tryz.prog σ3.reset 22 (.pointer (some ⟨rx,0,none⟩))=some (slc p 1 cp):=Zaw Tryz.underlying22 rfl (BR.cell (i:=0) rfl);have lru:Zat Tryz.prog σ3.reset 69 (.pointer (some ⟨rx,0,none⟩))=some (vRu p cp e):=ZbK Tryz.underlying69 rfl (i:=(Tryz.prog.info? 69).get!) (by kernel_rfl) (by rw [show ((Tryz.prog.info? 69).get!).size=3 by kernel_rfl];exact Zaq BR.get rfl (zA _))
 have B1:=BF0.ext (e3.trans (ed.trans (Ext.reset σ3)));have lal:Zat Tryz.prog σ3.reset 62 (.pointer (some ⟨fb,1,none⟩))=some (slc d.ba 1 d.ca):=Zaw Tryz.underlying62 rfl (B1.cell (i:=1) rfl);have lrs:Zat Tryz.prog σ3.reset 64 (.pointer (some ⟨fb,2,none⟩))=some (.slice (some ⟨rb0,ro0,none⟩) E.length rc):=Zaw Tryz.underlying64 rfl (B1.cell (i:=2) rfl);have HM:=hM.ext (e1.trans (e3.trans (ed.trans (Ext.reset σ3))));have la0:=HM.al0;have laf:=HM.al;repeat apply Zaa
 refine W_drwM [] [] (fun r' s=>Ext σ3 s∧rget r' 1=slc d.bf 1 d.cf∧rget r' 2=.pointer (some ⟨fb,0,none⟩)∧rget r' 6=.pointer (some ⟨rx,0,none⟩)∧rget r' 10=.slice (some ⟨rb0,ro0,none⟩) E.length rc∧rget r' 11=.int .i64 (E.length:Int)∧rget r' 12=.int .i64 (j:Int)∧rget r' 56=.bool false) (by kernel_rfl) (by kernel_rfl) ?_ ?_
 rotate_left
 ·apply Zau 2;intro _;simp +decide only [zq,zr,List.take,aQ,↓Zab,↓reduceIte,aOp,Zac,Zag,Zkm,lev];rfl;dsimp only [List.drop,List.take,List.length];have e4:Ext σ3 (σ3.merge σ3.reset):=(Ext.refl _).merge;generalize σ3.merge σ3.reset=σ4 at e4;refine Zbx (vs:=[.int .i64 e]) (by simp +decide only [zq,aevs]) (by decide) rfl (C.mono (evt_c he0 he1) ?_)
  rintro u s ⟨rfl,e5⟩;refine ⟨e5.quiet,?_⟩;have e5:=e4.trans (e5.merge);generalize σ4.merge s=σ5 at e5;have BRq:=BR0.ext (e5.trans (Ext.reset σ5));have levq:Zat Tryz.prog σ5.reset 3 (.pointer (some ⟨rx,1,none⟩))=some (.int .i64 e):=Zaw Tryz.underlying3 rfl (BRq.cell (i:=1) rfl);have lnxq:Zat Tryz.prog σ5.reset 3 (.pointer (some ⟨rx,2,none⟩))=some (.int .i64 0):=Zaw Tryz.underlying3 rfl (BRq.cell (i:=2) rfl);have lptq:Zat Tryz.prog σ5.reset 22 (.pointer (some ⟨rx,0,none⟩))=some (slc p 1 cp):=Zaw Tryz.underlying22 rfl (BRq.cell (i:=0) rfl);have lruq:Zat Tryz.prog σ5.reset 69 (.pointer (some ⟨rx,0,none⟩))=some (vRu p cp e):=ZbK Tryz.underlying69 rfl (i:=(Tryz.prog.info? 69).get!) (by kernel_rfl) (by rw [show ((Tryz.prog.info? 69).get!).size=3 by kernel_rfl];exact Zaq BRq.get rfl (zA _))
  have B1q:=BF0.ext (e3.trans (ed.trans (e5.trans (Ext.reset σ5))));have lalq:Zat Tryz.prog σ5.reset 62 (.pointer (some ⟨fb,1,none⟩))=some (slc d.ba 1 d.ca):=Zaw Tryz.underlying62 rfl (B1q.cell (i:=1) rfl);have lrsq:Zat Tryz.prog σ5.reset 64 (.pointer (some ⟨fb,2,none⟩))=some (.slice (some ⟨rb0,ro0,none⟩) E.length rc):=Zaw Tryz.underlying64 rfl (B1q.cell (i:=2) rfl);have HMq:=hM.ext (e1.trans (e3.trans (ed.trans (e5.trans (Ext.reset σ5)))));have la0q:=HMq.al0;have lafq:=HMq.al;apply Zau 6;intro _;simp +decide only [zq,zr,List.take,aQ,↓Zab,↓reduceIte,aOp,Zah,opUn,Zac,Zag,ZaH,beq_self_eq_true,not_b,ZfI,lnxq,U.lssI];rfl;dsimp only [List.drop,List.take,List.length];apply Zau 8;intro _;simp +decide only [zq,zr,List.take,aQ,↓Zab,↓reduceIte,aOp,Zah,Zan,Zac,Zag,ZaH,aevs,Zaf,ZfI,lnxq,h1,Tryz.underlying33,goInt,aLen,U.geqI];rfl;dsimp only [List.drop,List.take,List.length];apply Zau 9;intro _;simp +decide only [zq,zr,List.take,aQ,↓Zab,↓reduceIte,aOp,Zah,Zan,Zac,Zag,ZaH,aevs,Zaf,ZeU,Zkn,lptq,lalq,h2,Tryz.underlying62,Tryz.underlying22,goInt,aLen,U.neII,n11];rfl;dsimp only [List.drop,List.take,List.length];by_cases hj0:j=0
  ·have dgj:decide ((j:Int)>0)=false:=zI (by omega)
   apply ZaO;intro _;simp +decide only [zq,zr,aQ,↓Zab,↓reduceIte,aOp,Zah,ZaH,beq_self_eq_true,Bool.false_beq,U.gtrI,dgj];rfl;refine ⟨e5.trans (Ext.refl _).merge,?_,?_,?_,?_,?_,?_,?_⟩<;>simp +decide only [zq,h1,h2,h10,h11,h12]
  have dgj:decide ((j:Int)>0)=true:=zM (by omega)
  obtain ⟨j',rfl⟩:∃j',j=j'+1:=⟨j-1,by omega⟩
  have w7:IntKind.i64.wrap (((j'+1:Nat):Int)-1)=(j':Int):=by rw [Zas _ (by omega) (by omega)];omega
  obtain ⟨e',he'⟩:∃e',E[j']?=some e':=⟨E[j']'(by omega),zP (by omega)⟩
  obtain ⟨-,rb1,ro1,p',cp',hrb1,-,hp1',hp2',hldr'⟩:=Zmq hru he';cases hrb1;have hlt':e'<e:=by
   obtain ⟨q1,q2⟩:=zE.1 he';obtain ⟨q3,q4⟩:=zE.1 he;rw [←q2,←q4];exact List.pairwise_iff_getElem.1 hEs j' (j'+1) q1 q3 (by omega)
  have ixp:=Zp5 (b:=rb0) (off:=ro0) (cap:=rc) (len:=E.length) (i:=j') (by omega)
  have ldp:=hldr' _ (e1.trans (e3.trans (ed.trans (e5.trans (Ext.reset σ5)))));have X5:=e1.trans (e3.trans (ed.trans e5));apply Zau 5;intro _;simp +decide only [zq,zr,List.take,aQ,↓Zab,↓reduceIte,aOp,Zah,Zac,Zag,beq_self_eq_true,ZiA,lrsq,h2,U.gtrI,dgj];rfl;dsimp only [List.drop,List.take,List.length];apply Zau 5;intro _;simp +decide only [zq,zr,List.take,aQ,↓Zab,↓reduceIte,aOp,Zah,Zae,Zag,beq_self_eq_true,U.subI,ixp,ldp,w7,lruq];rfl;dsimp only [List.drop,List.take,List.length];have e6:Ext σ5 (σ5.merge σ5.reset):=(Ext.refl _).merge;generalize σ5.merge σ5.reset=σ6 at e6;refine Zpo (vs:=[vRu p' cp' e',vRu p cp e]) (by simp +decide only [zq,beq_self_eq_true]) (by simp +decide only [zq,aevs];rfl) (by decide) rfl (C.mono (Zr1 hlt' ((X5.trans (e6.trans (Ext.reset σ6))).lt hp1') (by rw [(X5.trans (e6.trans (Ext.reset σ6))).cells (a:=⟨p',0,none⟩) hp1'];exact hp2') ((X5.trans (e6.trans (Ext.reset σ6))).lt hp1) (by rw [(X5.trans (e6.trans (Ext.reset σ6))).cells (a:=⟨p,0,none⟩) hp1];exact hp2)) ?_)
  rintro u s ⟨rfl,e7⟩;refine ⟨e7.quiet,?_⟩;have e7:=e5.trans (e6.trans e7.merge);generalize σ6.merge s=σ7 at e7;apply ZaO;intro _;simp +decide only [zq,zr,aQ,↓Zab,↓reduceIte,aOp,Zah,ZaH,beq_self_eq_true,U.geqI];rfl;refine ⟨e7.trans (Ext.refl _).merge,?_,?_,?_,?_,?_,?_,?_⟩<;>simp +decide only [zq,h1,h2,h10,h11,h12,decide_false]
 rintro r' σ4 ⟨e4,h1,h2,h6,h10,h11,h12,h56⟩;clear lev lnx lpt lru lal lrs la0 laf;have BR:=BR0.ext (e4);have lev:Zat Tryz.prog σ4 3 (.pointer (some ⟨rx,1,none⟩))=some (.int .i64 e):=Zaw Tryz.underlying3 rfl (BR.cell (i:=1) rfl);have lnx:Zat Tryz.prog σ4 3 (.pointer (some ⟨rx,2,none⟩))=some (.int .i64 0):=Zaw Tryz.underlying3 rfl (BR.cell (i:=2) rfl);have lpt:Zat Tryz.prog σ4 22 (.pointer (some ⟨rx,0,none⟩))=some (slc p 1 cp):=Zaw Tryz.underlying22 rfl (BR.cell (i:=0) rfl);have lru:Zat Tryz.prog σ4 69 (.pointer (some ⟨rx,0,none⟩))=some (vRu p cp e):=ZbK Tryz.underlying69 rfl (i:=(Tryz.prog.info? 69).get!) (by kernel_rfl) (by rw [show ((Tryz.prog.info? 69).get!).size=3 by kernel_rfl];exact Zaq BR.get rfl (zA _))
 have B1:=BF0.ext (e3.trans (ed.trans (e4)));have lal:Zat Tryz.prog σ4 62 (.pointer (some ⟨fb,1,none⟩))=some (slc d.ba 1 d.ca):=Zaw Tryz.underlying62 rfl (B1.cell (i:=1) rfl);have lrs:Zat Tryz.prog σ4 64 (.pointer (some ⟨fb,2,none⟩))=some (.slice (some ⟨rb0,ro0,none⟩) E.length rc):=Zaw Tryz.underlying64 rfl (B1.cell (i:=2) rfl);have HM:=hM.ext (e1.trans (e3.trans (ed.trans (e4))));have la0:=HM.al0;have laf:=HM.al;show W _ _ _ 101 _ _ _ _;repeat apply Zaa
 refine W_if (b:=false) ?_ ?_ ?_
 ·simp only [aev];exact congrArg some h56
 ·intro h;cases h
 intro _;apply Zak;repeat apply Zaa
 apply Zad;intro _;simp +decide only [zq,↓Zab,↓reduceIte,aOp,Zan,Zac,Zag,aevs,Zaf,h6,ZeU,lpt,Tryz.underlying22,goInt,aLen];rfl;have d1:decide ((0:Int)<((1:Nat):Int))=true:=by decide
 have d11:decide ((1:Int)<((1:Nat):Int))=false:=by decide
 have w01:IntKind.i64.wrap (0+1)=1:=by decide
 have lt1:(0:Int)<1:=by decide
 have ixp0:Zal Tryz.prog 22 (slc p 1 cp) (.int .i64 0)=some (.pointer (some ⟨p,0,none⟩)):=idxI (i:=0) (by omega)
 have ixb0:Zal Tryz.prog 62 (slc d.ba 1 d.ca) (.int .i64 0)=some (.pointer (some ⟨d.ba,0,none⟩)):=idxB (i:=0) (by omega)
 have ixf0:Zal Tryz.prog 33 (slc d.bf 1 d.cf) (.int .i64 0)=some (.pointer (some ⟨d.bf,0,none⟩)):=ZoK (i:=0) (by omega)
 have lp0:Zat Tryz.prog σ4 3 (.pointer (some ⟨p,0,none⟩))=some (.int .i64 e):=Zaw Tryz.underlying3 rfl (by rw [(e1.trans (e3.trans (ed.trans e4))).cells (a:=⟨p,0,none⟩) hp1];exact hp2)
 have nm1:(e != -1)=true:=by rw [bne_iff_ne];omega
 refine Zao ?_;repeat apply Zaa
 refine ZaM (Zbk ?_);repeat apply Zaa
 apply Zad;intro _;simp +decide only [zq,↓Zab,↓reduceIte,aOp,Zah,U.lssI];rfl;repeat apply Zaa
 refine ZaQ (by simp +decide only [zq,decide_true]) ?_
 apply Zak;refine ZaM ?_;repeat apply Zaa
 apply Zad;intro _;simp +decide only [zq,↓Zab,↓reduceIte,aOp,Zae,Zag,ixp0,lp0];rfl;repeat apply Zaa
 apply ZaF;apply Zay 4;intro _;simp +decide only [zq,List.take,↓Zab,↓reduceIte,aOp,Zah,beq_self_eq_true,U.neII,nm1];rfl;dsimp only [List.drop];refine Zb7 (vs:=[.int .i64 e]) (by simp +decide only [zq,beq_self_eq_true]) (by simp +decide only [zq,aevs]) (by decide) (C.mono (evt_c he0 he1) ?_)
 rintro u s ⟨rfl,e5⟩;have BRs:=BR0.ext (e4.trans e5);have levs:Zat Tryz.prog s 3 (.pointer (some ⟨rx,1,none⟩))=some (.int .i64 e):=Zaw Tryz.underlying3 rfl (BRs.cell (i:=1) rfl);have lnxs:Zat Tryz.prog s 3 (.pointer (some ⟨rx,2,none⟩))=some (.int .i64 0):=Zaw Tryz.underlying3 rfl (BRs.cell (i:=2) rfl);have lpts:Zat Tryz.prog s 22 (.pointer (some ⟨rx,0,none⟩))=some (slc p 1 cp):=Zaw Tryz.underlying22 rfl (BRs.cell (i:=0) rfl);have lrus:Zat Tryz.prog s 69 (.pointer (some ⟨rx,0,none⟩))=some (vRu p cp e):=ZbK Tryz.underlying69 rfl (i:=(Tryz.prog.info? 69).get!) (by kernel_rfl) (by rw [show ((Tryz.prog.info? 69).get!).size=3 by kernel_rfl];exact Zaq BRs.get rfl (zA _))
 have B1s:=BF0.ext (e3.trans (ed.trans (e4.trans e5)));have lals:Zat Tryz.prog s 62 (.pointer (some ⟨fb,1,none⟩))=some (slc d.ba 1 d.ca):=Zaw Tryz.underlying62 rfl (B1s.cell (i:=1) rfl);have lrss:Zat Tryz.prog s 64 (.pointer (some ⟨fb,2,none⟩))=some (.slice (some ⟨rb0,ro0,none⟩) E.length rc):=Zaw Tryz.underlying64 rfl (B1s.cell (i:=2) rfl);have HMs:=hM.ext (e1.trans (e3.trans (ed.trans (e4.trans e5))));have la0s:=HMs.al0;have lafs:=HMs.al;apply ZaG;intro _;simp +decide only [zq,↓Zab,↓reduceIte,aOp,opUn,Zae,Zac,Zag,ZaH,beq_self_eq_true,Bool.not_true,h6,ixb0,ixf0,not_b,ZfI,Zkn,lnxs,lals,la0s,lafs,h1,h2];rfl;generalize s=σ5 at e5;refine Zao ?_;repeat apply Zaa
 refine ZaC (by simp +decide only [zq,decide_true]) ?_
 apply Zak;refine Zap ⟨fun _=>?_,fun h=>absurd rfl h⟩;refine Zao ?_;repeat apply Zaa
 apply Zad;intro _;simp +decide only [zq,↓Zab,↓reduceIte,aOp,Zah,U.addI,w01];rfl;refine Zap ⟨fun _=>?_,fun h=>absurd rfl h⟩;refine Zbk ?_;repeat apply Zaa
 apply Zad;intro _;simp +decide only [zq,↓Zab,↓reduceIte,aOp,Zah,U.lssI];rfl;repeat apply Zaa
 refine ZaC (by simp +decide only [zq,decide_true,decide_false]) ?_
 refine ZaA ⟨fun h=>(nomatch h),fun _=>⟨fun _=>?_,fun h1 h2=>absurd rfl h2⟩⟩;refine Zap ⟨fun _=>?_,fun h=>absurd rfl h⟩;refine Zao ?_;repeat apply Zaa
 apply Zad;intro _;simp +decide only [zq,↓Zab,↓reduceIte,aOp,Zah,h12,U.addI,w6];rfl;refine Zap ⟨fun _=>⟨j+1,by omega,hlt,e3.trans (ed.trans (e4.trans e5)),?_,?_,?_,?_,?_⟩,fun h=>(nomatch h),fun h=>absurd rfl h⟩<;>simp +decide only [zq,h1,h2,h10,h11]
theorem idxB_c {σ:AS} {d:MD} {L:Lts} {E:List Int} (hM:Mach σ d L E):C Tryz.prog Kn 0 161 [slc d.ba 1 d.ca,.bool false] σ fun v σ'=>v=.int .i64 (-1)∧Ext σ σ':=by
 refine C_of (kn (by decide)) Tryz.func161 rfl (zD rfl) ?_
 show W _ _ _ 19 _ _ _ _;unfold Tryz.f161;dsimp only;have d1:decide ((0:Int)<((1:Nat):Int))=true:=by decide
 have d11:decide ((1:Int)<((1:Nat):Int))=false:=by decide
 have w01:IntKind.i64.wrap (0+1)=1:=by decide
 have lt1:(0:Int)<1:=by decide
 have ixb0:Zal Tryz.prog 62 (slc d.ba 1 d.ca) (.int .i64 0)=some (.pointer (some ⟨d.ba,0,none⟩)):=idxB (i:=0) (by omega)
 have la0:=hM.al0;have eb:∀xo yo:Operand,aBin Tryz.prog .eql 4 xo yo (.bool false) (.bool true)=some (.bool false):=fun xo yo=>by kernel_rfl
 repeat apply Zaa
 apply Zad;intro _;simp +decide only [zq,ZaI,↓Zab,↓reduceIte,aOp];rfl;repeat apply Zaa
 apply Zad;intro _;simp +decide only [zq,↓Zab,↓reduceIte,aOp,Zan,aevs,Zaf,Tryz.underlying62,goInt,aLen];rfl;repeat apply Zaa
 refine ZaM (Zbk ?_);repeat apply Zaa
 apply Zad;intro _;simp +decide only [zq,↓Zab,↓reduceIte,aOp,Zah,U.lssI];rfl;repeat apply Zaa
 refine ZaQ (by simp +decide only [zq,decide_true]) ?_
 apply Zak;refine ZaM ?_;repeat apply Zaa
 apply Zad;intro _;simp +decide only [zq,↓Zab,↓reduceIte,aOp];rfl;repeat apply Zaa
 apply Zad;intro _;simp +decide only [zq,↓Zab,↓reduceIte,aOp,Zah,Zae,Zag,ixb0,la0,eb];rfl;refine Zao ?_;repeat apply Zaa
 refine ZaC (by simp +decide only [zq,decide_true]) ?_
 apply Zak;refine Zap ⟨fun _=>?_,fun h=>absurd rfl h⟩;refine Zao ?_;repeat apply Zaa
 apply Zad;intro _;simp +decide only [zq,↓Zab,↓reduceIte,aOp,Zah,U.addI,w01];rfl;refine Zap ⟨fun _=>?_,fun h=>absurd rfl h⟩;refine Zbk ?_;repeat apply Zaa
 apply Zad;intro _;simp +decide only [zq,↓Zab,↓reduceIte,aOp,Zah,U.lssI];rfl;repeat apply Zaa
 refine ZaC (by simp +decide only [zq,decide_true,decide_false]) ?_
 refine ZaA ⟨fun h=>(nomatch h),fun _=>⟨fun _=>?_,fun h1 h2=>absurd rfl h2⟩⟩;repeat apply Zaa
 apply Zad;intro _;simp +decide only [zq,↓Zab,↓reduceIte,aOp];rfl;refine ZaL ⟨zA _,[.int .i64 (-1)],?_,rfl,Ext.refl _⟩;simp +decide only [zq,Zaj]
theorem conB_c {σ:AS} {d:MD} {L:Lts} {E:List Int} (hM:Mach σ d L E):C Tryz.prog Kn 0 121 [slc d.ba 1 d.ca,.bool false] σ fun v σ'=>v=.bool false∧Ext σ σ':=by
 refine C_of (kn (by decide)) Tryz.func121 rfl (zD rfl) ?_
 show W _ _ _ 9 _ _ _ _;unfold Tryz.f121;dsimp only;have dg:decide ((-1:Int)≥0)=false:=by decide
 repeat apply Zaa
 apply Zad;intro _;simp +decide only [zq,ZaI,↓Zab,↓reduceIte,aOp];rfl;repeat apply Zaa
 apply ZaF;apply Zay 2;intro _;simp +decide only [zq,List.take,↓Zab,↓reduceIte,aOp];rfl;dsimp only [List.drop];refine ZaV (vs:=[slc d.ba 1 d.ca,.bool false]) (by simp +decide only [zq,aevs]) (by decide) (C.mono (idxB_c hM) ?_)
 rintro u s ⟨rfl,e1⟩;apply ZaG;intro _;simp +decide only [zq,↓Zab,↓reduceIte,aOp,Zah,U.geqI];rfl;refine ZaL ⟨zA _,[.bool false],?_,rfl,e1⟩;simp +decide only [zq,Zaj,decide_false]
theorem Zn9 {σ:AS} {d:MD} {L:Lts} {E:List Int} {xb:Nat} (hM:Mach σ d L E) (hB:BxAt σ 35 xb d.cells) (hE:∀e∈E,0≤e∧e≤1025) (hEs:E.Pairwise (·<·)) (hEl:E.length≤2000):C Tryz.prog Kn 0 122 [d.fmt,.pointer (some ⟨xb,0,none⟩)] σ fun v σ'=>v=.bool false∧Ext σ σ':=by
 obtain ⟨rb,rc,hrv,-⟩:=id hM.rules;have hof:=fun s (e:Ext σ s)=>Zoj (hM.ext e) hE hEs hEl;unfold MD.fmt at hof ⊢;rw [hrv] at hof ⊢;refine C_of (kn (by decide)) Tryz.func122 rfl (zD rfl) ?_
 show W _ _ _ 9 _ _ _ _;unfold Tryz.f122;dsimp only;repeat apply Zaa
 apply Zad;intro _;simp +decide only [zq,ZaI,↓Zab,↓reduceIte,aOp,Zbm,aRow];rfl;have e1:Ext σ (σ.new ⟨1,66,0,(.agg #[.string ⟨#[]⟩,slc d.ba 1 d.ca,.slice rb E.length rc]:Value).cells.toList,[]⟩):=Ext.new σ _;have B1:BxAt (σ.new ⟨1,66,0,(.agg #[.string ⟨#[]⟩,slc d.ba 1 d.ca,.slice rb E.length rc]:Value).cells.toList,[]⟩) 66 σ.next [.string ⟨#[]⟩,slc d.ba 1 d.ca,.slice rb E.length rc]:=BxAt.new σ _ _;generalize hnx:σ.next=fb at B1;generalize σ.new ⟨1,66,0,(.agg #[.string ⟨#[]⟩,slc d.ba 1 d.ca,.slice rb E.length rc]:Value).cells.toList,[]⟩=σ1 at e1 B1;have lf:Zat Tryz.prog σ1 66 (.pointer (some ⟨fb,0,none⟩))=some (.agg #[.string ⟨#[]⟩,slc d.ba 1 d.ca,.slice rb E.length rc]:Value):=ZbK Tryz.underlying66 rfl (i:=(Tryz.prog.info? 66).get!) (by kernel_rfl) (by rw [show ((Tryz.prog.info? 66).get!).size=3 by kernel_rfl];exact Zaq B1.get rfl (zA _))
 have BX:=hB.ext e1;repeat apply Zaa
 apply ZaF;apply Zay 3;intro _;simp +decide only [zq,List.take,↓Zab,↓reduceIte,aOp,Zac,Zag,lf,ZeV,Mach.ldF BX];rfl;dsimp only [List.drop];refine ZaV (vs:=[(.agg #[.string ⟨#[]⟩,slc d.ba 1 d.ca,.slice rb E.length rc]:Value),slc d.bf 1 d.cf]) (by simp +decide only [zq,aevs]) (by decide) (C.mono (hof σ1 e1) ?_)
 rintro u s ⟨rfl,e2⟩;apply ZaG;intro _;simp +decide only [zq,↓Zab,↓reduceIte,aOp,opUn,Bool.not_true,not_b];rfl;refine ZaL ⟨zA _,[.bool false],?_,rfl,e1.trans e2⟩;simp +decide only [zq,Zaj]
theorem Zrf {σ:AS} {d:MD} {L:Lts} {E:List Int} (hM:Mach σ d L E) (hE:∀e∈E,0≤e∧e≤1025) (hEs:E.Pairwise (·<·)) (hEl:E.length≤2000) (hcan:∀s,Ext σ s→C Tryz.prog Kn 0 120 [.agg #[d.lv]] s fun v s'=>v=.bool true∧Ext s s'):C Tryz.prog Kn 0 84 [d.val] σ fun v σ'=>v=.bool true∧Ext σ σ':=by
 obtain ⟨lb,lc,hlv,-⟩:=id hM.rows;obtain ⟨rb,rc,hrv,-⟩:=id hM.rules;refine C_of (kn (by decide)) Tryz.func84 rfl (zD rfl) ?_
 show W _ _ _ 79 _ _ _ _;unfold Tryz.f84;dsimp only;repeat apply Zaa
 apply Zad;intro _;simp +decide only [zq,ZaI,↓Zab,↓reduceIte,aOp,Zbm,aRow];rfl;have e1:Ext σ (σ.new ⟨1,35,0,d.val.cells.toList,[]⟩):=Ext.new σ _;have B1:BxAt (σ.new ⟨1,35,0,d.val.cells.toList,[]⟩) 35 σ.next d.cells:=BxAt.new σ _ _;generalize hnx:σ.next=xb at B1;generalize σ.new ⟨1,35,0,d.val.cells.toList,[]⟩=σ1 at e1 B1;have d1:decide ((0:Int)<((1:Nat):Int))=true:=by decide
 have d11:decide ((1:Int)<((1:Nat):Int))=false:=by decide
 have w01:IntKind.i64.wrap (0+1)=1:=by decide
 have lt1:(0:Int)<1:=by decide
 have ixc:Zal Tryz.prog 32 (slc d.bc 1 d.cc) (.int .i64 0)=some (.pointer (some ⟨d.bc,0,none⟩)):=ZoL (i:=0) (by omega)
 have ixf:Zal Tryz.prog 33 (slc d.bf 1 d.cf) (.int .i64 0)=some (.pointer (some ⟨d.bf,0,none⟩)):=ZoK (i:=0) (by omega)
 have hMQ:=hM.ext (e1.trans (Ext.reset σ1));have BQ:=B1.ext (Ext.reset σ1);have c1:decide (((1:Nat):Int)<1)=false:=by decide
 have c2:decide (((1:Nat):Int)>12)=false:=by decide
 have c3:decide (((1:Nat):Int)>64)=false:=by decide
 repeat apply Zaa
 refine Za8 [] [] (by kernel_rfl) (by kernel_rfl) ?_
 apply ZaO;intro _;simp +decide only [zq,zr,aQ,↓Zab,↓reduceIte,aOp,Zan,Zac,Zag,aevs,Zaf,ZgC,ZeV,Mach.ldC BQ,Mach.ldF BQ,Tryz.underlying32,Tryz.underlying33,goInt,aLen];rfl;have e2:Ext σ1 (σ1.merge σ1.reset):=(Ext.refl _).merge;generalize σ1.merge σ1.reset=σ2 at e2;have e2:=e1.trans e2;show W _ _ _ 79 _ _ _ _;repeat apply Zaa
 apply Zad;intro _;simp +decide only [zq,↓Zab,↓reduceIte,aOp,Zah,ZaH,U.lssI,U.gtrI];rfl;repeat apply Zaa
 refine ZaC (by simp +decide only [zq,decide_false]) ?_
 apply Zak;have hM2:=hM.ext e2;have B2:BxAt σ2 35 xb d.cells:=B1.ext (by assumption)
 have lco:=hM2.ldCo;unfold MD.cmp at lco;rw [hlv] at lco;repeat apply Zaa
 apply Zad;intro _;simp +decide only [zq,↓Zab,↓reduceIte,aOp,Zan,Zac,Zag,aevs,Zaf,ZgC,Mach.ldC B2,Tryz.underlying32,goInt,aLen];rfl;repeat apply Zaa
 refine ZaM (Zbk ?_);repeat apply Zaa
 apply Zad;intro _;simp +decide only [zq,↓Zab,↓reduceIte,aOp,Zah,U.lssI];rfl;repeat apply Zaa
 refine ZaQ (by simp +decide only [zq,decide_true,decide_false]) ?_
 apply Zak;refine ZaM ?_;repeat apply Zaa
 apply Zad;intro _;simp +decide only [zq,↓Zab,↓reduceIte,aOp,Zae,Zag,ZaE,unn,ixc,lco,Zpi,Zn2];rfl;have e3:=Zcn σ2 61 [.slice none 0 0,.slice none 0 0] [.slice lb L.length lc,.slice none 0 0];have BC:=Zc9 σ2 61 [.slice none 0 0,.slice none 0 0] [.slice lb L.length lc,.slice none 0 0];generalize hcb:σ2.next=cb at BC;generalize dcl σ2 61 [.slice none 0 0,.slice none 0 0] [.slice lb L.length lc,.slice none 0 0]=σ3 at e3 BC;have lL:Zat Tryz.prog σ3 27 (.pointer (some ⟨cb,0,none⟩))=some (.agg #[.slice lb L.length lc]):=ZbK Tryz.underlying27 rfl (i:=(Tryz.prog.info? 27).get!) (by kernel_rfl) (by rw [show ((Tryz.prog.info? 27).get!).size=1 by kernel_rfl];exact Zaq BC.get rfl (by simp))
 repeat apply Zaa
 apply ZaF;apply Zay 2;intro _;simp +decide only [zq,List.take,↓Zab,↓reduceIte,aOp,Zac,Zag,ZmU,lL];rfl;dsimp only [List.drop];refine ZaV (vs:=[.agg #[.slice lb L.length lc]]) (by simp +decide only [zq,aevs]) (by decide) (C.mono ((by have:=hcan σ3 (e2.trans e3);rw [hlv] at this;exact this:C Tryz.prog Kn 0 _ _ _ _)) ?_)
 rintro u s ⟨rfl,e4⟩;apply ZaG;intro _;simp +decide only [zq,↓Zab,↓reduceIte,aOp,opUn,Bool.not_true,not_b];rfl;have B4:=B2.ext (e3.trans e4);have e4:=e2.trans (e3.trans e4);generalize s=σ4 at e4 B4;refine Zao ?_;repeat apply Zaa
 refine ZaC (by simp +decide only [zq,decide_true,decide_false]) ?_
 apply Zak;refine Zap ⟨fun _=>?_,fun h=>absurd rfl h⟩;refine Zao ?_;repeat apply Zaa
 apply Zad;intro _;simp +decide only [zq,↓Zab,↓reduceIte,aOp,Zah,U.addI,w01];rfl;refine Zap ⟨fun _=>?_,fun h=>absurd rfl h⟩;refine Zbk ?_;repeat apply Zaa
 apply Zad;intro _;simp +decide only [zq,↓Zab,↓reduceIte,aOp,Zah,U.lssI];rfl;repeat apply Zaa
 refine ZaC (by simp +decide only [zq,decide_true,decide_false]) ?_
 refine ZaA ⟨fun h=>(nomatch h),fun _=>⟨fun _=>?_,fun h1 h2=>absurd rfl h2⟩⟩;repeat apply Zaa
 apply Zad;intro _;simp +decide only [zq,↓Zab,↓reduceIte,aOp];rfl;have hM4:=hM.ext e4;have lfo:=hM4.ldFo;unfold MD.fmt at lfo;rw [hrv] at lfo;repeat apply Zaa
 apply Zad;intro _;simp +decide only [zq,↓Zab,↓reduceIte,aOp,Zan,Zac,Zag,aevs,Zaf,ZeV,Mach.ldF B4,Tryz.underlying33,goInt,aLen];rfl;repeat apply Zaa
 refine ZaM (Zbk ?_);repeat apply Zaa
 apply Zad;intro _;simp +decide only [zq,↓Zab,↓reduceIte,aOp,Zah,U.lssI];rfl;repeat apply Zaa
 refine ZaQ (by simp +decide only [zq,decide_true,decide_false]) ?_
 apply Zak;refine ZaM ?_;repeat apply Zaa
 apply Zad;intro _;simp +decide only [zq,↓Zab,↓reduceIte,aOp,Zae,Zag,ZaE,unn,ixf,lfo,Zph,Zn1];rfl;have e5:=Zcn σ4 66 [.string ⟨#[]⟩,.slice none 0 0,.slice none 0 0] [.string ⟨#[]⟩,slc d.ba 1 d.ca,.slice rb E.length rc];have BF:=Zc9 σ4 66 [.string ⟨#[]⟩,.slice none 0 0,.slice none 0 0] [.string ⟨#[]⟩,slc d.ba 1 d.ca,.slice rb E.length rc];generalize hfb:σ4.next=fb at BF;generalize dcl σ4 66 [.string ⟨#[]⟩,.slice none 0 0,.slice none 0 0] [.string ⟨#[]⟩,slc d.ba 1 d.ca,.slice rb E.length rc]=σ5 at e5 BF;have B5:=B4.ext e5;have e5:=e4.trans e5;have hM5:=hM.ext e5;have lrs:Zat Tryz.prog σ5 64 (.pointer (some ⟨fb,2,none⟩))=some (.slice rb E.length rc):=Zaw Tryz.underlying64 rfl (BF.cell (i:=2) rfl);have lal:Zat Tryz.prog σ5 62 (.pointer (some ⟨fb,1,none⟩))=some (slc d.ba 1 d.ca):=Zaw Tryz.underlying62 rfl (BF.cell (i:=1) rfl);have wE:IntKind.i64.wrap (0+(E.length:Int))=(E.length:Int):=by rw [Zas _ (by omega) (by omega)];omega
 have n11:(((1:Nat):Int) != ((1:Nat):Int))=false:=by decide
 repeat apply Zaa
 apply Zad;intro _;simp +decide only [zq,↓Zab,↓reduceIte,aOp,Zah,Zan,Zac,Zag,aevs,Zaf,ZiA,lrs,Tryz.underlying64,goInt,aLen,U.addI,wE];rfl;repeat apply Zaa
 apply ZaF;apply Zay 11;intro _;simp +decide only [zq,List.take,↓Zab,↓reduceIte,aOp,Zah,Zan,Zac,Zag,aevs,Zaf,beq_self_eq_true,Zkn,lal,Tryz.underlying62,goInt,aLen,U.neII,n11,U.eqII];rfl;dsimp only [List.drop];refine Zb7 (vs:=[slc d.ba 1 d.ca,.bool false]) (by simp +decide only [zq,beq_self_eq_true]) (by simp +decide only [zq,aevs]) (by decide) (C.mono (conB_c hM5) ?_)
 rintro u s ⟨rfl,e6⟩;apply ZaG;intro _;simp +decide only [zq,↓Zab,↓reduceIte,aOp,ZaH,beq_self_eq_true];rfl;have B6:=B5.ext e6;have e6:=e5.trans e6;generalize s=σ6 at e6 B6;refine Zao ?_;repeat apply Zaa
 refine ZaC (by simp +decide only [zq,decide_true,decide_false]) ?_
 apply Zak;refine Zap ⟨fun _=>?_,fun h=>absurd rfl h⟩;refine Zao ?_;repeat apply Zaa
 apply Zad;intro _;simp +decide only [zq,↓Zab,↓reduceIte,aOp,Zah,U.addI,w01];rfl;refine Zap ⟨fun _=>?_,fun h=>absurd rfl h⟩;refine Zbk ?_;repeat apply Zaa
 apply Zad;intro _;simp +decide only [zq,↓Zab,↓reduceIte,aOp,Zah,U.lssI];rfl;repeat apply Zaa
 refine ZaC (by simp +decide only [zq,decide_true,decide_false]) ?_
 refine ZaA ⟨fun h=>(nomatch h),fun _=>⟨fun _=>?_,fun h1 h2=>absurd rfl h2⟩⟩;have hM6:=hM.ext e6;have cE:decide ((E.length:Int)≤16384)=true:=zM (by omega)
 repeat apply Zaa
 apply ZaF;apply Zay 6;intro _;simp +decide only [zq,List.take,↓Zab,↓reduceIte,aOp,Zah,Zac,Zag,aevs,beq_self_eq_true,U.leqI,cE,Zd4,ZeV,Mach.ldF B6];rfl;dsimp only [List.drop];refine Zb7 (vs:=[slc d.bf 1 d.cf,.func (.func 122) #[] #[.pointer (some ⟨xb,0,none⟩)]]) (by simp +decide only [zq,beq_self_eq_true]) (by simp +decide only [zq,aevs]) (by decide) (C.mono (Zo3 hM6 fun s e=>by
  have:(#[]:Array Value).toList++[d.fmt]++(#[.pointer (some ⟨xb,0,none⟩)]:Array Value).toList=[d.fmt,.pointer (some ⟨xb,0,none⟩)]:=rfl;rw [this];exact Zn9 (hM6.ext e) (B6.ext e) hE hEs hEl) ?_)
 rintro u s ⟨rfl,e7⟩;apply ZaG;intro _;simp +decide only [zq,↓Zab,↓reduceIte,aOp,opUn,ZaH,beq_self_eq_true,Bool.not_false,not_b];rfl;refine ZaL ⟨zA _,[.bool true],?_,rfl,e6.trans e7⟩;simp +decide only [zq,Zaj]
theorem bare_c {σ:AS} {d:MD} {L:Lts} {E:List Int} (hM:Mach σ d L E) (hru:∀s,Ext σ s→C Tryz.prog Kn 0 84 [d.val] s fun v s'=>v=.bool true∧Ext s s'):C Tryz.prog Kn 0 51 [d.val] σ fun v σ'=>v=.bool true∧Ext σ σ':=by
 refine C_of (kn (by decide)) Tryz.func51 rfl (zD rfl) ?_
 show W _ _ _ 17 _ _ _ _;unfold Tryz.f51;dsimp only;repeat apply Zaa
 apply Zad;intro _;simp +decide only [zq,ZaI,↓Zab,↓reduceIte,aOp,Zbm,aRow];rfl;have e1:Ext σ (σ.new ⟨1,35,0,d.val.cells.toList,[]⟩):=Ext.new σ _;have B1:BxAt (σ.new ⟨1,35,0,d.val.cells.toList,[]⟩) 35 σ.next d.cells:=BxAt.new σ _ _;generalize hnx:σ.next=xb at B1;generalize σ.new ⟨1,35,0,d.val.cells.toList,[]⟩=σ1 at e1 B1;have hM1:=hM.ext e1;repeat apply Zaa
 apply ZaF;apply Zay 2;intro _;simp +decide only [zq,List.take,↓Zab,↓reduceIte,aOp,Zac,Zag,ZgC,Mach.ldC B1];rfl;dsimp only [List.drop];refine ZaV (vs:=[slc d.bc 1 d.cc,.func (.func 86) #[] #[]]) (by simp +decide only [zq,aevs]) (by decide) (C.mono (ZrZ hM1 (fid:=86) (cs:=#[]) (fun s e=>Zqs (hM1.ext e))) ?_)
 rintro u s ⟨rfl,e2⟩;have B2:=B1.ext e2;have e2:=e1.trans e2;generalize s=σ2 at e2 B2;apply Zay 4;intro _;simp +decide only [zq,List.take,↓Zab,↓reduceIte,aOp,opUn,Zac,Zag,beq_self_eq_true,Bool.not_false,not_b,ZeV,Mach.ldF B2];rfl;dsimp only [List.drop];refine Zb7 (vs:=[slc d.bf 1 d.cf,.func (.func 88) #[] #[]]) (by simp +decide only [zq,beq_self_eq_true]) (by simp +decide only [zq,aevs]) (by decide) (C.mono (Zo3 (hM.ext e2) (fid:=88) (cs:=#[]) (fun s e=>Zqr ((hM.ext e2).ext e))) ?_)
 rintro u s ⟨rfl,e3⟩;have B3:=B2.ext e3;have e3:=e2.trans e3;generalize s=σ3 at e3 B3;apply Zay 4;intro _;simp +decide only [zq,List.take,↓Zab,↓reduceIte,aOp,opUn,Zag,ZaH,beq_self_eq_true,Bool.not_false,not_b,Mach.ldM B3];rfl;dsimp only [List.drop];refine Zb7 (vs:=[d.val]) (by simp +decide only [zq,beq_self_eq_true]) (by simp +decide only [zq,aevs]) (by decide) (C.mono (hru σ3 e3) ?_)
 rintro u s ⟨rfl,e4⟩;apply ZaG;intro _;simp +decide only [zq,↓Zab,↓reduceIte,aOp,ZaH];rfl;refine ZaL ⟨zA _,[.bool true],?_,rfl,e3.trans e4⟩;simp +decide only [zq,Zaj]
theorem ZqD {σ:AS} {d:MD} {L:Lts} {E:List Int} (hM:Mach σ d L E) (hpos:0<L.length) (hru:∀s,Ext σ s→C Tryz.prog Kn 0 84 [d.val] s fun v s'=>v=.bool true∧Ext s s'):C Tryz.prog Kn 0 21 [d.val] σ fun v σ'=>v=.bool true∧Ext σ σ':=by
 refine C_of (kn (by decide)) Tryz.func21 rfl (zD rfl) ?_
 show W _ _ _ 9 _ _ _ _;unfold Tryz.f21;dsimp only;repeat apply Zaa
 apply Zad;intro _;simp +decide only [zq,ZaI,↓Zab,↓reduceIte,aOp,Zbm,aRow];rfl;have e1:Ext σ (σ.new ⟨1,35,0,d.val.cells.toList,[]⟩):=Ext.new σ _;have B1:BxAt (σ.new ⟨1,35,0,d.val.cells.toList,[]⟩) 35 σ.next d.cells:=BxAt.new σ _ _;generalize hnx:σ.next=xb at B1;generalize σ.new ⟨1,35,0,d.val.cells.toList,[]⟩=σ1 at e1 B1;have hM1:=hM.ext e1;repeat apply Zaa
 apply ZaF;apply Zay 1;intro _;simp +decide only [zq,List.take,↓Zab,↓reduceIte,aOp,Zag,Mach.ldM B1];rfl;dsimp only [List.drop];refine ZaV (vs:=[d.val]) (by simp +decide only [zq,aevs]) (by decide) (C.mono (Zpw hM1 hpos) ?_)
 rintro u s ⟨rfl,e2⟩;have B2:=B1.ext e2;have e2:=e1.trans e2;generalize s=σ2 at e2 B2;apply Zay 2;intro _;simp +decide only [zq,List.take,↓Zab,↓reduceIte,aOp,Zag,beq_self_eq_true,Mach.ldM B2];rfl;dsimp only [List.drop];refine Zb7 (vs:=[d.val]) (by simp +decide only [zq,beq_self_eq_true]) (by simp +decide only [zq,aevs]) (by decide) (C.mono (bare_c (hM.ext e2) fun s e=>hru s (e2.trans e)) ?_)
 rintro u s ⟨rfl,e3⟩;apply ZaG;intro _;simp +decide only [zq,↓Zab,↓reduceIte,aOp,ZaH];rfl;refine ZaL ⟨zA _,[.bool true],?_,rfl,e2.trans e3⟩;simp +decide only [zq,Zaj]
theorem ZpR {σ:AS} {d:MD} {L:Lts} {E:List Int} (hM:Mach σ d L E) (hpos:0<L.length) (hru:∀s,Ext σ s→C Tryz.prog Kn 0 84 [d.val] s fun v s'=>v=.bool true∧Ext s s'):C Tryz.prog Kn 0 65 [d.val] σ fun v σ'=>(∃b,v=slc b 2 2)∧Ext σ σ':=by
 refine C_of (kn (by decide)) Tryz.func65 rfl (zD rfl) ?_
 show W _ _ _ 8 _ _ _ _;unfold Tryz.f65;dsimp only;repeat apply Zaa
 apply Zad;intro _;simp +decide only [zq,ZaI,↓Zab,↓reduceIte,aOp,Zbm,aRow];rfl;have e1:Ext σ (σ.new ⟨1,35,0,d.val.cells.toList,[]⟩):=Ext.new σ _;have B1:BxAt (σ.new ⟨1,35,0,d.val.cells.toList,[]⟩) 35 σ.next d.cells:=BxAt.new σ _ _;generalize hnx:σ.next=xb at B1;generalize σ.new ⟨1,35,0,d.val.cells.toList,[]⟩=σ1 at e1 B1;repeat apply Zaa
 apply ZaF;apply Zay 1;intro _;simp +decide only [zq,List.take,↓Zab,↓reduceIte,aOp,Zag,Mach.ldM B1];rfl;dsimp only [List.drop];refine ZaV (vs:=[d.val]) (by simp +decide only [zq,aevs]) (by decide) (C.mono (ZqD (hM.ext e1) hpos fun s e=>hru s (e1.trans e)) ?_)
 rintro u s ⟨rfl,e2⟩;apply ZaG;intro _;simp +decide only [zq,↓Zab,↓reduceIte,aOp,opUn,Bool.not_true,not_b];rfl;have B2:=B1.ext e2;have e2:=e1.trans e2;generalize s=σ2 at e2 B2;repeat apply Zaa
 refine ZaC (by simp +decide only [zq]) ?_
 apply Zak;repeat apply Zaa
 apply ZaF;apply Zay 1;intro _;simp +decide only [zq,List.take,↓Zab,↓reduceIte,aOp,Zag,Mach.ldM B2];rfl;dsimp only [List.drop];refine ZaV (vs:=[d.val]) (by simp +decide only [zq,aevs]) (by decide) (C.mono (ZmA) ?_)
 rintro u s ⟨⟨b,rfl,hb,hg,hl⟩,e3⟩;apply ZaG;intro _;simp +decide only [zq,↓Zab,↓reduceIte,aOp];rfl;refine ZaL ⟨zA _,[slc b 2 2],?_,⟨b,rfl⟩,e2.trans e3⟩;simp +decide only [zq,Zaj]
theorem ZnF {σ:AS} {d:MD} {L:Lts} {E:List Int} (hM:Mach σ d L E) (hpos:0<L.length) (hru:∀s,Ext σ s→C Tryz.prog Kn 0 84 [d.val] s fun v s'=>v=.bool true∧Ext s s'):C Tryz.prog Kn 0 32 [d.val] σ fun v σ'=>v=.bool true∧Ext σ σ':=by
 refine C_of (kn (by decide)) Tryz.func32 rfl (zD rfl) ?_
 show W _ _ _ 7 _ _ _ _;unfold Tryz.f32;dsimp only;repeat apply Zaa
 apply Zad;intro _;simp +decide only [zq,ZaI,↓Zab,↓reduceIte,aOp,Zbm,aRow];rfl;have e1:Ext σ (σ.new ⟨1,35,0,d.val.cells.toList,[]⟩):=Ext.new σ _;have B1:BxAt (σ.new ⟨1,35,0,d.val.cells.toList,[]⟩) 35 σ.next d.cells:=BxAt.new σ _ _;generalize hnx:σ.next=xb at B1;generalize σ.new ⟨1,35,0,d.val.cells.toList,[]⟩=σ1 at e1 B1;have d2:decide (((2:Nat):Int)>0)=true:=by decide
 repeat apply Zaa
 apply ZaF;apply Zay 1;intro _;simp +decide only [zq,List.take,↓Zab,↓reduceIte,aOp,Zag,Mach.ldM B1];rfl;dsimp only [List.drop];refine ZaV (vs:=[d.val]) (by simp +decide only [zq,aevs]) (by decide) (C.mono (ZpR (hM.ext e1) hpos fun s e=>hru s (e1.trans e)) ?_)
 rintro u s ⟨⟨b,rfl⟩,e2⟩;apply ZaG;intro _;simp +decide only [zq,↓Zab,↓reduceIte,aOp,Zah,Zan,aevs,Zaf,Tryz.underlying22,goInt,aLen,U.gtrI];rfl;refine ZaL ⟨zA _,[.bool true],?_,rfl,e1.trans e2⟩;simp +decide only [zq,Zaj,decide_true]
open Abs
abbrev D2:Type:=List Nat×List Nat
def ask2 (L:Lts) (d:D2) (k:Nat):D2×List Arc:=(((askD L d.1 k).1,k::d.2),(askD L d.1 k).2)
def edg (x:SS):List Arc:=x.path++(x.stem++x.loop)
structure Pr (z:D2×SS) (y:List Nat×SS):Prop where
 d:z.1.1=y.1
 x:z.2=y.2
 ed:∀e∈edg y.2,e.1.toNat∈z.1.2
def Go2 (A:List Nat) (z:D2×SS) (y:List Nat×SS):Prop:=Pr z y∧∀k∈A,k∈z.1.2
theorem edg_mem {x:SS} {e:Arc}:e∈edg x↔e∈x.path∨e∈x.stem∨e∈x.loop:=by unfold edg;simp
section
variable {L:Lts}
theorem ZmG {rec:D2×SS→Nat→D2×SS} {rec':List Nat×SS→Nat→List Nat×SS} (hrec:∀z y t,Pr z y→Go2 z.1.2 (rec z t) (rec' y t)) {s:Nat} :
  ∀(row:List Arc) (i:Nat) (z:D2×SS) (y:List Nat×SS),Pr z y→s∈z.1.2→Go2 z.1.2 (mgo rec s i row z) (mgo rec' s i row y)
 | [],_,z,y,h,_=>⟨h,fun _ h=>h⟩
 | a::l,i,z,y,h,hs=>by
  unfold mgo;rw [h.x];by_cases h1:y.2.found=true
  ·rw [if_pos h1,if_pos h1];exact ⟨h,fun _ h=>h⟩
  ·rw [if_neg h1,if_neg h1];by_cases h2:a.1≠0
   ·rw [if_pos h2,if_pos h2];exact ZmG hrec l _ z y h hs
   ·rw [if_neg h2,if_neg h2];cases hf:findOn y.2.on a.2 with
    | some k=>
     refine ⟨⟨h.d,rfl,fun e he=>?_⟩,fun _ h=>h⟩;have he:=edg_mem.1 he;unfold won at he;dsimp only at he;have hp:∀e,e∈y.2.path→e.1.toNat∈z.1.2:=fun e h3=>h.ed e (edg_mem.2 (.inl h3));rcases he with he|he|he
     ·exact hp e he
     ·rcases zR.1 he with he|he
      ·exact h.ed e (edg_mem.2 (.inr (.inl he)))
      ·exact hp e (List.mem_of_mem_take he)
     ·rcases zR.1 he with he|he
      ·exact hp e (List.mem_of_mem_drop he)
      ·rw [List.mem_singleton.1 he];simpa using hs
    | none=>
     dsimp only;by_cases h3:y.2.inner.getD a.2.toNat true=true
     ·rw [if_pos h3,if_pos h3];exact ZmG hrec l _ z y h hs
     ·rw [if_neg h3,if_neg h3];have h4:=hrec (z.1,push ((s:Int),(i:Int)) a.2 y.2) (y.1,push ((s:Int),(i:Int)) a.2 y.2) a.2.toNat ⟨h.d,rfl,fun e he=>by
       have he:=edg_mem.1 he;unfold push at he;dsimp only at he;rcases he with he|he
       ·rcases zR.1 he with he|he
        ·exact h.ed e (edg_mem.2 (.inl he))
        ·rw [List.mem_singleton.1 he];simpa using hs
       ·exact h.ed e (edg_mem.2 (.inr he))⟩
      generalize rec (z.1,push ((s:Int),(i:Int)) a.2 y.2) a.2.toNat=z2 at h4;generalize rec' (y.1,push ((s:Int),(i:Int)) a.2 y.2) a.2.toNat=y2 at h4;obtain ⟨h5,h6⟩:=h4;have h7:Pr (back z2) (back y2):=by
       unfold back;rw [h5.x];split
       ·exact h5
       ·refine ⟨h5.d,rfl,fun e he=>h5.ed e (edg_mem.2 ?_)⟩;have he:=edg_mem.1 he;dsimp only at he;exact he.imp_left fun h=>List.dropLast_subset _ h
      have h8:(back z2).1=z2.1:=by unfold back;split<;>rfl
      obtain ⟨h9,h10⟩:=ZmG hrec l (i+1) (back z2) (back y2) h7 (by rw [h8];exact h6 s hs)
      exact ⟨h9,fun k hk=>h10 k (by rw [h8];exact h6 k hk)⟩
theorem Zj6:∀(f:Nat) (z:D2×SS) (y:List Nat×SS) (s:Nat),Pr z y→Go2 z.1.2 (minner (ask2 L) f z s) (minner (askD L) f y s)
 | 0,z,y,s,h=>⟨h,fun _ h=>h⟩
 | f+1,z,y,s,h=>by
  unfold minner;have e:(ask2 L z.1 s).2=(askD L y.1 s).2:=by unfold ask2;rw [h.d]
  rw [e];obtain ⟨h1,h2⟩:=ZmG (fun z y t h=>Zj6 f z y t h) (s:=s) (askD L y.1 s).2 0 ((ask2 L z.1 s).1,{ z.2 with inner:=z.2.inner.set s true }) ((askD L y.1 s).1,{ y.2 with inner:=y.2.inner.set s true })
   ⟨by show (askD L z.1.1 s).1=_;rw [h.d],by rw [h.x],fun e he=>List.mem_cons_of_mem _ (h.ed e he)⟩ List.mem_cons_self
  exact ⟨h1,fun k hk=>h2 k (List.mem_cons_of_mem _ hk)⟩
theorem Zot (N:Nat) (z:D2×SS) (y:List Nat×SS) (s:Nat) (h:Pr z y):Go2 z.1.2 (menter (ask2 L) N z s) (menter (askD L) N y s):=by
 unfold menter;rw [h.x];split
 ·exact ⟨h,fun _ h=>h⟩
 ·refine Zj6 N (z.1,{ y.2 with path:=[],on:=[(s:Int)] }) (y.1,{ y.2 with path:=[],on:=[(s:Int)] }) s ⟨h.d,rfl,fun e he=>h.ed e (edg_mem.2 ?_)⟩
  have he:=edg_mem.1 he;dsimp only at he;exact he.elim (fun h=>nomatch h) .inr
theorem Zlh {rec:D2×SS→Nat→D2×SS} {rec':List Nat×SS→Nat→List Nat×SS} (hrec:∀z y t,Pr z y→Go2 z.1.2 (rec z t) (rec' y t)) {s:Nat} :
  ∀(row:List Arc) (i:Nat) (z:D2×SS) (y:List Nat×SS),Pr z y→s∈z.1.2→Go2 z.1.2 (mogo rec s i row z) (mogo rec' s i row y)
 | [],_,z,y,h,_=>⟨h,fun _ h=>h⟩
 | a::l,i,z,y,h,hs=>by
  unfold mogo;rw [h.x];by_cases h1:y.2.found=true
  ·rw [if_pos h1,if_pos h1];exact ⟨h,fun _ h=>h⟩
  ·rw [if_neg h1,if_neg h1];by_cases h3:y.2.outer.getD a.2.toNat true=true
   ·rw [if_pos h3,if_pos h3];exact Zlh hrec l _ z y h hs
   ·rw [if_neg h3,if_neg h3];have h4:=hrec (z.1,Zd9 ((s:Int),(i:Int)) y.2) (y.1,Zd9 ((s:Int),(i:Int)) y.2) a.2.toNat ⟨h.d,rfl,fun e he=>by
     have he:=edg_mem.1 he;unfold Zd9 at he;dsimp only at he;rcases he with he|he|he
     ·exact h.ed e (edg_mem.2 (.inl he))
     ·rcases zR.1 he with he|he
      ·exact h.ed e (edg_mem.2 (.inr (.inl he)))
      ·rw [List.mem_singleton.1 he];simpa using hs
     ·exact h.ed e (edg_mem.2 (.inr (.inr he)))⟩
    generalize rec (z.1,Zd9 ((s:Int),(i:Int)) y.2) a.2.toNat=z2 at h4;generalize rec' (y.1,Zd9 ((s:Int),(i:Int)) y.2) a.2.toNat=y2 at h4;obtain ⟨h5,h6⟩:=h4;have h7:Pr (Zdq z2) (Zdq y2):=by
     unfold Zdq;rw [h5.x];split
     ·exact h5
     ·refine ⟨h5.d,rfl,fun e he=>h5.ed e (edg_mem.2 ?_)⟩;have he:=edg_mem.1 he;dsimp only at he;exact he.imp_right fun h=>h.imp_left fun h=>List.dropLast_subset _ h
    have h8:(Zdq z2).1=z2.1:=ZhV z2;obtain ⟨h9,h10⟩:=Zlh hrec l (i+1) (Zdq z2) (Zdq y2) h7 (by rw [h8];exact h6 s hs)
    exact ⟨h9,fun k hk=>h10 k (by rw [h8];exact h6 k hk)⟩
theorem Zj2 (N:Nat):∀(f:Nat) (z:D2×SS) (y:List Nat×SS) (s:Nat),Pr z y→Go2 z.1.2 (mouter (ask2 L) N f z s) (mouter (askD L) N f y s)
 | 0,z,y,s,h=>⟨h,fun _ h=>h⟩
 | f+1,z,y,s,h=>by
  unfold mouter;have h0:Pr (z.1,{ z.2 with outer:=z.2.outer.set s true }) (y.1,{ y.2 with outer:=y.2.outer.set s true }):=⟨h.d,by rw [h.x],fun e he=>h.ed e he⟩
  obtain ⟨h1,h2⟩:=Zot (L:=L) N _ _ s h0;generalize menter (ask2 L) N (z.1,{ z.2 with outer:=z.2.outer.set s true }) s=z1 at h1 h2
  generalize menter (askD L) N (y.1,{ y.2 with outer:=y.2.outer.set s true }) s=y1 at h1
  rw [h1.x];split
  ·exact ⟨h1,h2⟩
  ·have e:(ask2 L z1.1 s).2=(askD L y1.1 s).2:=by unfold ask2;rw [h1.d]
   rw [e];obtain ⟨h3,h4⟩:=Zlh (fun z y t h=>Zj2 N f z y t h) (s:=s) (askD L y1.1 s).2 0 ((ask2 L z1.1 s).1,y1.2) ((askD L y1.1 s).1,y1.2)
    ⟨by show (askD L z1.1.1 s).1=_;rw [h1.d],rfl,fun e he=>List.mem_cons_of_mem _ (h1.ed e he)⟩ List.mem_cons_self
   exact ⟨h3,fun k hk=>h4 k (List.mem_cons_of_mem _ (h2 k hk))⟩
end
open Abs
theorem Zk4 {L:Lts} (h:Zec L=true):Zco L=true:=by
 unfold Zec at h;rw [Bool.and_eq_true] at h;exact h.1
theorem Zow {L:Lts} (h:Zco L=true):0<L.length:=by
 unfold Zco at h;simp only [Bool.and_eq_true,decide_eq_true_eq] at h;omega
theorem ZpY {L:Lts} (h:Zco L=true) (hz:Small L):WF L:=by
 refine ⟨hz.len,fun r hr=>zB (hz.row r hr) (by decide),fun r hr a ha=>?_⟩
 unfold Zco at h;simp only [Bool.and_eq_true,List.all_eq_true] at h;have:=h.2 r hr a ha;unfold okA at this;simp only [Bool.and_eq_true,decide_eq_true_eq] at this;omega
theorem Stk.svE {lo k:Nat} {σ:AS} {v:Value} {cs:List Value} (h:Stk lo 102 2 σ v k cs) {n:Nat} (hn:σ.next≤n):(vsc n 9 v&&veq 9 v v)=true:=by
 obtain ⟨_,_,⟨rfl,_⟩|⟨b,m,vals,rfl,_,_,hb,_⟩⟩:=h
 ·exact ZnX
 ·exact ZbA (by omega)
def Zcu (N:Nat):SS:=⟨List.replicate N false,List.replicate N false,[],[],[],[],false⟩
def outY (L:Lts):SS:=Zej L L.length (Zcu L.length) 0
def ZgO (L:Lts):List Arc:=if (outY L).found=true then (outY L).stem else []
def loopF (L:Lts):List Arc:=if (outY L).found=true then (outY L).loop else []
theorem Zdd (N k:Nat):(List.replicate N false).getD k false=false:=by
 rw [zL,List.getElem?_replicate];split<;>rfl
theorem Zoa (L:Lts) (D:List Nat):Rl L D (Zcu L.length) (Zcu L.length):=
 ⟨rfl,⟨by simp [Zcu],by simp [Zcu],fun _ _ _=>by unfold Zcu;rw [Zdd,Zdd],fun _ _=>Zdd _ _,fun _ _=>Zdd _ _⟩,⟨by simp [Zcu],by simp [Zcu],fun _ _ _=>by unfold Zcu;rw [Zdd,Zdd],fun _ _=>Zdd _ _,fun _ _=>Zdd _ _⟩,Pth.nil,Pth.nil,Pth.nil,rfl,fun _ h=>(nomatch h)⟩
theorem ZmR {L:Lts} {D:List Nat} {x:SS} (h:Rl L D x (outY L)) (hN:L.length≤400) (hf:x.found=true):(outY L).found=true∧x.stem.map (arcD L D)=ZgO L∧x.loop.map (arcD L D)=loopF L∧(∀e∈x.stem++x.loop,EdOk L D e)∧x.stem.length≤2000∧x.loop.length≤2000:=by
 have h1:(outY L).found=true:=by rw [←h.found];exact hf
 have hop:=(ZdQ L hN L.length (Zcu L.length) 0 rfl (by show 0+L.length≤1000;omega)).yes h1
 have l1:=congrArg List.length h.stem.map;have l2:=congrArg List.length h.loop.map;rw [List.length_map] at l1 l2;have hop1:(outY L).stem.length≤2000:=hop.1;have hop2:(outY L).loop.length≤1001:=hop.2;refine ⟨h1,by unfold ZgO;rw [if_pos h1];exact h.stem.map,by unfold loopF;rw [if_pos h1];exact h.loop.map,fun e he=>?_,by omega,by omega⟩
 rcases zR.1 he with he|he
 ·exact h.stem.ok e he
 ·exact h.loop.ok e he
theorem ZjZ {L:Lts} {D:List Nat} {x:SS} (h:Rl L D x (outY L)) (hf:x.found=false):(outY L).found=false∧ZgO L=[]∧loopF L=[]:=by
 have h1:(outY L).found=false:=by rw [←h.found];exact hf
 exact ⟨h1,by unfold ZgO;rw [if_neg (by rw [h1];decide)],by unfold loopF;rw [if_neg (by rw [h1];decide)]⟩
theorem PRepC.widen {X Y:List Nat} {σ0 S σ:AS} {xb N:Nat} {x:PD} {d:FP} (h:PRepC X σ0 S σ xb N x d) (hx:∀i∈X,i∈Y):PRepC Y σ0 S σ xb N x d:=
 ⟨h.ext.sub hx,h.fr,h.lo,h.lt,h.el,h.kd,h.ol,h.il,h.outer,h.inner,h.place,h.oi,h.op,h.ip,h.path,h.inside,h.ps,h.stem,h.loop⟩
theorem PMid.widen {X Y:List Nat} {σ0 S σ:AS} {xb N M c:Nat} {fv:Value} {x:PD} {d d':FP} (h:PMid X σ0 S σ xb N M fv c x d d') (hx:∀i∈X,i∈Y):PMid Y σ0 S σ xb N M fv c x d d':=⟨h.c.widen hx,h.get⟩
theorem Zdx {σ σ':AS} (h:ExtX [] σ σ'):Ext σ σ':=⟨h.nxt,fun i hi=>h.get i hi (by simp),fun m h1 h2=>h.low m h1 h2 (by simp)⟩
theorem find_c {σ:AS} {s:Value} {L:Lts} (hs:RS 1 RRow σ s L) (hz:Small L) (hv:Zec L=true) (hN:L.length≤400) (hlen:∀row∈L,row.length≤100) :
  C Tryz.prog Kn 0 11 [.agg #[s]] σ fun v σ'=>(∃pv qv lo lo',v=.tuple #[pv,qv,.bool (outY L).found,.int .i64 0]∧LV 57 2 RArc lo σ' pv (ZgO L)∧LV 57 2 RArc lo' σ' qv (loopF L))∧Ext σ σ':=by
 obtain ⟨sb,sc,rfl,-⟩:=id hs;refine C_of (kn (by decide)) Tryz.func11 rfl (zD rfl) ?_
 show W _ _ _ 33 _ _ _ _;unfold Tryz.f11;dsimp only;have AT:=LtsAt.new hs;have e0:=Ext.new σ ⟨1,27,0,(Value.agg #[.slice sb L.length sc]).cells.toList,[]⟩;repeat apply Zaa
 apply Zad;intro _;simp +decide only [zq,ZaI,↓Zab,↓reduceIte,aOp,Zbm,aRow];rfl;generalize hb1:σ.next=b1 at AT;generalize σ.new ⟨1,27,0,(Value.agg #[.slice sb L.length sc]).cells.toList,[]⟩=σ1 at AT e0;repeat apply Zaa
 apply ZaF;apply Zay 1;intro _;simp +decide only [zq,List.take,↓Zab,↓reduceIte,aOp,Zag,AT.load];rfl;dsimp only [List.drop];refine ZaV (vs:=[.agg #[.slice sb L.length sc]]) (by simp +decide only [zq,aevs]) (by decide) (C.mono (Znd AT.rd hz) ?_)
 rintro v σ' ⟨rfl,e1⟩;rw [hv];apply ZaG;intro _;simp +decide only [zq,↓Zab,↓reduceIte,aOp,opUn];rfl;have AT:=AT.ext e1;have e0:=e0.trans e1;generalize σ'=σ2 at AT e0;repeat apply Zaa
 refine ZaC (by simp +decide only [zq,Bool.not_true]) ?_
 apply Zak;have hlo:=Zk4 hv;have hpos:=Zow hlo;have hwf:=ZpY hlo hz;have hw:∀row∈L,∀a∈row,0≤a.2∧a.2.toNat<L.length:=fun row hr a ha=>by
  have:=hwf.to row hr a ha;omega
 have hasc:∀row∈L,asc row=true:=by
  unfold Zec at hv;rw [Bool.and_eq_true] at hv;exact List.all_eq_true.1 hv.2
 have hev:∀row∈L,∀a∈row,0≤a.1:=fun row hr a ha=>by
  unfold Zco at hlo;simp only [Bool.and_eq_true] at hlo;have h1:=List.all_eq_true.1 (List.all_eq_true.1 hlo.2 row hr) a ha;unfold okA at h1;simp only [Bool.and_eq_true,decide_eq_true_eq] at h1;exact h1.1.1.1
 have BX:BoxAt σ2 b1 (.slice sb L.length sc):=⟨AT.lt,AT.get⟩;repeat apply Zaa
 apply ZaF;apply Zay 4;intro _;simp +decide only [zq,List.take,↓Zab,↓reduceIte,aOp,Zan,Zac,Zag,aevs,Zaf,Bool.not_true,Zd4,AT.out,fldL,Tryz.underlying25,goInt,aLen];rfl;dsimp only [List.drop];refine ZaV (vs:=[(.func (.func 41) #[] #[.pointer (some ⟨b1,0,none⟩)]),.int .i64 (L.length:Int)]) (by simp +decide only [zq,aevs]) (by decide) (C.mono (Zhp (σ:=σ2) (N:=L.length) (M:=L.length) (fid:=41) (fs:=#[]) (cs:=#[.pointer (some ⟨b1,0,none⟩)])) ?_)
 rintro v σ' ⟨xb,d,rfl,R3,hnil⟩;apply ZaG;intro _;simp +decide only [zq,↓Zab,↓reduceIte,aOp];rfl;generalize σ'=σ3 at R3;have PV:=ZoS AT.rd BX hw;have AK:=Zqa hw (fun row hr _ _ ha hne=>ZkF (hasc row hr) (fun b hb=>hev row hr b hb) ha hne) hlen;have e3:=Zdx R3.c.ext;have CC:=out_c PV AK hN (zA L.length) L.length (σ:=σ3) (dl:=List.range L.length) (x:=Zcu L.length) (s:=0) ⟨d,R3.anew,hnil,rfl,e3.nxt,fun i hi=>e3.get i hi⟩ ⟨rfl,hpos⟩ hpos rfl rfl (by simp [Zcu];exact zB (Zm0 _) (by simp)) (by simp [Zcu,hpos]) (by show 0+L.length≤900;omega)
 have hsim:=Zhf hw L.length (List.range L.length) (Zcu L.length) (Zcu L.length) 0 0 (Zoa L _) ⟨List.nodup_range,fun t ht=>List.mem_range.1 ht⟩ (by simp [hpos])
 have hrl:Rl L (mouter (askD L) L.length L.length (List.range L.length,Zcu L.length) 0).1 (mouter (askD L) L.length L.length (List.range L.length,Zcu L.length) 0).2 (outY L):=hsim.1;generalize hy:mouter (askD L) L.length L.length (List.range L.length,Zcu L.length) 0=y at CC hrl;repeat apply Zaa
 apply ZaF;apply Zay 1;intro _;simp +decide only [zq,List.take,↓Zab,↓reduceIte,aOp];rfl;dsimp only [List.drop];refine ZaV (vs:=[.pointer (some ⟨xb,0,none⟩),.int .i64 0]) (by simp +decide only [zq,aevs]) (by decide) (C.mono (CC) ?_)
 rintro v σ' ⟨rfl,-,hno,hyes⟩;apply ZaG;intro _;simp +decide only [zq,↓Zab,↓reduceIte,aOp];rfl;generalize σ'=σ4 at hno hyes;have key:∃d z c D,D=List.range L.length∧PMid [] σ2 σ4 σ4 xb L.length L.length (.func (.func 41) #[] #[.pointer (some ⟨b1,0,none⟩)]) c z d d∧z.stem.map (arcD L D)=ZgO L∧z.loop.map (arcD L D)=loopF L∧(∀e∈z.stem++z.loop,EdOk L D e)∧z.stem.length≤2000∧z.loop.length≤2000∧y.2.found=(outY L).found:=by
  cases hyf:y.2.found with
  | false=>
   obtain ⟨d4,R4,-,hD,-⟩:=hno hyf;obtain ⟨h1,h2,h3⟩:=ZjZ hrl hyf;exact ⟨d4,_,_,y.1,hD,R4,by rw [h2];rfl,by rw [h3];rfl,fun e he=>(nomatch he),zH _,zH _,h1.symm⟩
  | true=>
   obtain ⟨d4,z,c,R4,h1,h2,-,hD,-⟩:=hyes hyf;obtain ⟨h3,h4,h5,h6,h7,h8⟩:=ZmR hrl hN hyf;exact ⟨d4,z,c,y.1,hD,R4,by rw [h1];exact h4,by rw [h2];exact h5,by rw [h1,h2];exact h6,by rw [h1];exact h7,by rw [h2];exact h8,h3.symm⟩
 obtain ⟨d4,z,c,D,hD,R4,hz1,hz2,hz3,hl1,hl2,hfd⟩:=key;rw [hfd];clear hno hyes R3 CC;repeat apply Zaa
 apply Zad;intro _;simp +decide only [zq,↓Zab,↓reduceIte,aOp,aevs,Zd4];rfl;have RQ:=R4.ext (Ext.reset σ4);repeat apply Zaa
 refine Za8 [10] [xb] (by kernel_rfl) (by kernel_rfl) ?_
 apply Zau 5;intro _;simp +decide only [zq,zr,List.take,aQ,↓Zab,↓reduceIte,aOp,Zac,Zag,Zbo,Zlw,RQ.ld8];rfl;dsimp only [List.drop,List.take,List.length];have e5:Ext σ4 (σ4.merge σ4.reset):=(Ext.refl _).merge;generalize σ4.merge σ4.reset=σ5 at e5;have R5:=R4.ext e5;have R5Q:=R5.ext (Ext.reset σ5);have E5:=Zdx R5Q.c.ext;refine ZjE (first:=#[]) (captured:=#[.pointer (some ⟨b1,0,none⟩)]) (fid:=42) (vs:=[d4.sv]) (by simp +decide only [zq]) (by simp +decide only [zq,aevs]) (by decide) rfl (C.mono (ZmX hD (BX.ext E5) (AT.rd.ext RRow.keeps E5) R5Q.c.stem (by omega) (fun e he=>hz3 e (zR.2 (.inl he)))) ?_)
 rintro v s1 ⟨RS1,eC⟩;refine ⟨.inl eC.quiet,?_⟩;have e6:=eC.merge;have RS1:LV 57 2 RArc σ5.next (σ5.merge s1) v (z.stem.map (arcD L D)):=RS1;generalize σ5.merge s1=σ6 at e6 RS1;have R6:=R5.ext e6;apply Zau 4;intro _;simp +decide only [zq,zr,List.take,aQ,↓Zab,↓reduceIte,aOp,Zac,Zbo,Zlv];rfl;dsimp only [List.drop,List.take,List.length];have e7:Ext σ6 (σ6.merge σ6.reset):=(Ext.refl _).merge;generalize σ6.merge σ6.reset=σ7 at e7;have R7:=R6.ext e7;refine ZaZ (b:=xb) (off:=9) (v:=d4.lv) (by simp +decide only [zq]) (R7.ext (Ext.reset σ7)).ld9 (Stk.svE R7.c.loop (zA _)) R7.c.lt (by simp [memb]) (by decide) ?_
 have e8:Ext σ7 (σ7.merge σ7.reset):=(Ext.refl _).merge;generalize σ7.merge σ7.reset=σ8 at e8;have R8:=R7.ext e8;have R8Q:=R8.ext (Ext.reset σ8);have E8:=Zdx R8Q.c.ext;refine ZjE (first:=#[]) (captured:=#[.pointer (some ⟨b1,0,none⟩)]) (fid:=42) (vs:=[d4.lv]) (by simp +decide only [zq]) (by simp +decide only [zq,aevs]) (by decide) rfl (C.mono (ZmX hD (BX.ext E8) (AT.rd.ext RRow.keeps E8) R8Q.c.loop (by omega) (fun e he=>hz3 e (zR.2 (.inr he)))) ?_)
 rintro v2 s1 ⟨RS2,eC⟩;refine ⟨.inl eC.quiet,?_⟩;have e9:=eC.merge;have RS2:LV 57 2 RArc σ8.next (σ8.merge s1) v2 (z.loop.map (arcD L D)):=RS2;generalize σ8.merge s1=σ9 at e9 RS2;have R9:=R8.ext e9;apply ZaO;intro _;simp +decide only [zq,zr,aQ,↓Zab,↓reduceIte,aOp];rfl;have e10:Ext σ9 (σ9.merge σ9.reset):=(Ext.refl _).merge;generalize σ9.merge σ9.reset=σ10 at e10;rw [hz1] at RS1;rw [hz2] at RS2;refine ZaL ⟨zA _,[v,v2,.bool (outY L).found,.int .i64 0],?_,⟨v,v2,_,_,rfl,RS1.ext RArc.kept (((e7.trans e8).trans e9).trans e10),RS2.ext RArc.kept e10⟩,e0.trans (Zdx (R9.ext e10).c.ext)⟩;simp +decide only [zq,Zaj]
open Abs
def Zbr (l:List Can.Arc):List Arc:=l.map fun a=>((a.1:Int),(a.2:Int))
def castL (L:List (List Can.Arc)):Lts:=L.map Zbr
theorem Zjg {l:List Can.Arc} {i:Nat} {a:Can.Arc} (h:l[i]?=some a):(Zbr l)[i]?=some ((a.1:Int),(a.2:Int)):=by unfold Zbr;rw [List.getElem?_map,h];rfl
theorem Zm4 {L:List (List Can.Arc)} {i:Nat} {l:List Can.Arc} (h:L[i]?=some l):(castL L)[i]?=some (Zbr l):=by unfold castL;rw [List.getElem?_map,h];rfl
def RRw (lo:Nat) (σ:AS) (cs:List Value) (l:List Can.Arc):Prop:=∃v,cs=[v]∧U.RowV σ v l∧∀i,U.In v i→lo≤i∧i<σ.next∧(σ.get i).kind=2∧(σ.get i).elem=57
structure FI (σ s:AS):Prop where
 nxt:σ.next≤s.next
 get:∀i,i<σ.next→(σ.get i).kind≠3→(σ.get i).elem≠22→s.get i=σ.get i
section
variable {α:Type} {P:Program} {σ0 σ σ' s:AS} {lo E z:Nat} {v:Value} {R:AS→List Value→α→Prop} {l:List α}
theorem FI.refl:FI σ σ:=⟨zA _,fun _ _ _ _=>rfl⟩
theorem FI.ext (h:FI σ0 σ) (e:Ext σ σ'):FI σ0 σ':=⟨zB h.nxt e.nxt,fun i hi hk he=>(e.get i (zC hi h.nxt)).trans (h.get i hi hk he)⟩
theorem FI.of (e:Ext σ σ'):FI σ σ':=FI.refl.ext e
theorem FI.put (h:FI σ0 σ) {m:Nat} (hm:(σ.get m).kind=3) (B:Blk):FI σ0 (σ.put m B):=
 ⟨h.nxt,fun i hi hk he=>by
  rw [AS.get_put,if_neg,h.get i hi hk he];rintro rfl;rw [h.get m hi hk he] at hm;exact hk hm⟩
theorem FI.push (h:FI σ0 σ) (hn:σ.next≤s.next) (hg:∀i,i<σ.next→¬Own v i→s.get i=σ.get i) (ho:∀i,Own v i→σ0.next≤i∨(σ.get i).elem=22):FI σ0 s:=
 ⟨zB h.nxt hn,fun i hi hk he=>by
  have h1:=h.get i hi hk he;rw [hg i (zC hi h.nxt) fun h2=>?_,h1];rcases ho i h2 with h3|h3
  ·omega
  ·rw [h1] at h3;exact he h3⟩
theorem FI.bx {t b:Nat} {cs:List Value} (h:FI σ s) (k:BxAt σ t b cs) (ht:t≠22):BxAt s t b cs:=
 ⟨zC k.lt h.nxt,(h.get b k.lt (by rw [k.get];exact (by decide:(1:Nat)≠3)) (by rw [k.get];exact ht)).trans k.get⟩
theorem FI.st {a:List Arc} (h:FI σ s) (k:LV 77 3 (RSt lo) lo σ v a):LV 77 3 (RSt lo) lo s v a:=
 ZhB k ⟨h.nxt,fun i _ hi hk he=>h.get i hi hk (by rcases he with he|he|he<;>rw [he]<;>decide)⟩
theorem RRw.fi {cs:List Value} {a:List Can.Arc} (h:RRw lo σ cs a) (k:FI σ s):RRw lo s cs a:=by
 obtain ⟨v,h1,h2,h3⟩:=h;have e:∀i,U.In v i→s.get i=σ.get i:=fun i hi=>k.get i (h3 i hi).2.1 (by rw [(h3 i hi).2.2.1];decide) (by rw [(h3 i hi).2.2.2];decide)
 exact ⟨v,h1,h2.keep k.nxt fun i hi _=>e i hi,fun i hi=>⟨(h3 i hi).1,zC (h3 i hi).2.1 k.nxt,by rw [e i hi];exact (h3 i hi).2.2⟩⟩
theorem RRw.kept:Kept 44 (RRw lo):=fun σ s cs a h hn hg=>by
 obtain ⟨v,h1,h2,h3⟩:=h;have e:∀i,U.In v i→s.get i=σ.get i:=fun i hi=>hg i (h3 i hi).2.1 fun h4=>absurd ((h3 i hi).2.2.2.symm.trans h4.2) (by decide)
 exact ⟨v,h1,h2.keep hn fun i hi _=>e i hi,fun i hi=>⟨(h3 i hi).1,zC (h3 i hi).2.1 hn,by rw [e i hi];exact (h3 i hi).2.2⟩⟩
theorem FI.out {L:List (List Can.Arc)} (h:FI σ s) (k:LV 44 1 (RRw lo) lo σ v L):LV 44 1 (RRw lo) lo s v L:=by
 obtain ⟨cs,h1,h2⟩:=k;exact ⟨cs,h1.keep h.nxt fun i ho hi=>h.get i hi (by rw [(h1.own ho).2.2.1];decide) (by rw [(h1.own ho).2.2.2];decide),fun i x hi=>(h2 i x hi).fi h⟩
def LS (lo:Nat) (σ:AS) (v:Value) (D:List Nat):Prop:=∃cs,StkC lo 22 1 σ v D.length cs∧∀i x,D[i]?=some x→RState lo σ ((cs.drop (i*1)).take 1) x
variable {D:List Nat}
theorem LS.own (h:LS lo σ v D) {i:Nat} (ho:Own v i):lo≤i∧i<σ.next∧(σ.get i).elem=22∧(σ.get i).kind≠3:=by
 obtain ⟨cs,h1,h2⟩:=h;have h3:=h1.own ho;refine ⟨h3.1,h3.2.1,h3.2.2,?_⟩;rcases h1 with ⟨h0,h1,h2,b,rfl,h3,h4,h5⟩|h1
 ·obtain ⟨_,_,e⟩:=ho;cases e;rw [h5];exact (by decide:(1:Nat)≠3)
 ·rw [(h1.own ho).2.2.1];decide
theorem LS.len (h:LS lo σ v D):∃a c,v=.slice a D.length c:=by obtain ⟨cs,h1,h2⟩:=h;exact h1.len
theorem LS.frk (h:LS lo σ v D) (k:FrK lo σ s) (ho:∀i,Own v i→i<σ.next→s.get i=σ.get i):LS lo s v D:=by
 obtain ⟨cs,h1,h2⟩:=h;exact ⟨cs,h1.keep k.nxt ho,fun i x hi=>(h2 i x hi).frk k⟩
theorem LS.ext (h:LS lo σ v D) (e:Ext σ s):LS lo s v D:=h.frk (FrK.of_ext e) fun i _ hi=>e.get i hi
theorem LS.put (h:LS lo σ v D) {m:Nat} (hm:(σ.get m).kind=3) (B:Blk):LS lo (σ.put m B) v D:=
 h.frk ⟨zA _,fun i _ _ hk _=>by rw [AS.get_put,if_neg];rintro rfl;exact hk hm⟩ fun i ho _=>by rw [AS.get_put,if_neg];rintro rfl;exact (h.own ho).2.2.2 hm
theorem LS.arcs (h:LS lo σ v D) {w:Value} (hn:σ.next≤s.next) (hg:∀i,i<σ.next→¬Own w i→s.get i=σ.get i) (hw:∀i,Own w i→(σ.get i).elem=57∨(σ.get i).elem=44):LS lo s v D:=
 h.frk ⟨hn,fun i _ hi _ he=>hg i hi fun h2=>by rcases hw i h2 with h3|h3<;>rw [h3] at he<;>exact absurd he (by decide)⟩ fun i ho hi=>hg i hi fun h2=>by rcases hw i h2 with h3|h3<;>exact absurd (h3.symm.trans (h.own ho).2.2.1) (by decide)
theorem LS.at (h:LS lo σ v D) {i:Nat} {x:Nat} (hi:D[i]?=some x):∃b c sb sc,v=slc b D.length c∧b<σ.next∧Zav σ ⟨b,i*1,none⟩ 1=some [slc sb 2 sc]∧RState lo σ [slc sb 2 sc] x:=by
 obtain ⟨cs,h1,h2⟩:=h;obtain ⟨b,c,e,h3,h4⟩:=StkC.at h1 (i:=i) (zE.1 hi).1;have h5:=h2 i x hi;have h6:=h5;obtain ⟨sb,sc,e2,-⟩:=h6;rw [e2] at h5 h4;exact ⟨b,c,sb,sc,e,h3,h4,h5⟩
theorem LS.push (h:LS lo σ v D) (hlo:lo≤σ.next) {x:Nat} {y:Value} {sb sc:Nat} (hy:∀inf:TypeInfo,inf.size=1→Zbd Tryz.prog σ false inf y=some (1,[slc sb 2 sc])) (hx:RState lo σ [slc sb 2 sc] x) (hl:D.length+1≤1000000) :
  ∃v' s,ZaU Tryz.prog σ #[37,37] v y=some (v',s)∧LS lo s v' (D++[x])∧σ.next≤s.next∧(∀i,i<σ.next→¬Own v i→s.get i=σ.get i)∧(∀q,q≤lo→q≤σ.low→q≤s.low):=by
 have ho:=fun i (hi:Own v i)=>h.own hi;obtain ⟨cs,h2,h3⟩:=h;obtain ⟨v',s,a1,a2,a3,a4,a5,a6⟩:=StkC.push (P:=Tryz.prog) elSS h2 hlo (x:=y) (m:=1) (new:=[slc sb 2 sc]) hy rfl rfl hl (by omega)
 have hk:FrK lo σ s:=⟨a3,fun i _ hi _ he=>a4 i hi fun h4=>by have:=(ho i h4).2.2.1;rw [this] at he;exact absurd he (by decide)⟩
 refine ⟨v',s,a1,⟨cs++[slc sb 2 sc],.inr (by rw [zS];exact a2),fun i y hi=>?_⟩,a3,a4,a5⟩
 have hc:cs.length=D.length*1:=by
  rcases h2 with ⟨h0,h1,-⟩|h2
  ·rw [h0,h1]
  ·exact h2.1
 by_cases hlt:i<D.length
 ·rw [zN hlt] at hi;rw [List.drop_append_of_le_length (by omega),List.take_append_of_le_length (by rw [List.length_drop];omega)]
  exact (h3 i y hi).frk hk
 ·have hi2:=(zE.1 hi).1;rw [zS] at hi2;have e:i=D.length:=by simp at hi2;omega
  subst e;rw [zO (zA _),Nat.sub_self] at hi;simp at hi;subst hi;rw [←hc,List.drop_left,zJ (by simp)]
  exact hx.frk hk
end
theorem Zop {k:Nat} {t:Nat}:nuf (List.range k) (t:Int)=if t<k then some (.int .i64 (t:Int)) else none:=by
 unfold nuf;by_cases h:t<k
 ·rw [if_pos ⟨by omega,by rw [zW];exact List.mem_range.2 h⟩,if_pos h,zW]
  unfold numI;rw [ZdW List.nodup_range (k:=t) (t:=t) (by simp [h])]
 ·rw [if_neg (fun h2=>h (by have:=List.mem_range.1 h2.2;rw [zW] at this;exact this)),if_neg h]
theorem Zmz {k:Nat}:(fun j=>if j=(k:Int) then some (.int .i64 (k:Int)) else nuf (List.range k) j)=nuf (List.range (k+1)):=by
 rw [List.range_succ,Zoq (by simp)]
 funext j
 rw [List.length_range]
section
variable {lo:Nat} {σ:AS} {v:Value} {l:List Can.Arc}
theorem Zra (h:U.AL lo σ v l) (h0:l=[]→v=.slice none 0 0) (hlo:lo≤σ.next) (hn:l.length≤12):C Tryz.prog Kn 0 25 [v,.func (.func 26) #[] #[]] σ fun _ σ'=>∃l',U.AL lo σ' v l'∧l'.length=l.length∧(∀x,x∈l'↔x∈l)∧U.Chg lo σ σ' v∧U.Ord l' l'.length:=by
 by_cases hl:l=[]
 ·rw [h0 hl] at h ⊢;subst hl;exact ZnQ (σ':=σ) (N:=300) (v:=undef) (by kernel_rfl) ⟨[],h,rfl,fun _=>Iff.rfl,U.Chg.of hlo (Ext.refl _),fun p q a b _ hq=>absurd hq (Nat.not_lt_zero _)⟩
 ·refine (U.sort_c h hlo hl hn).mono fun _ σ' ⟨l',h1,h2⟩=>⟨l',h1.al,h1.len,h1.mem,h1.chg,by rw [h1.len];exact h2⟩
theorem Zr0 (h:U.AL lo σ v l) (h0:l=[]→v=.slice none 0 0) (hlo:lo≤σ.next) (hn:l.length≤12) (ho:U.Ord l l.length):C Tryz.prog Kn 0 30 [v] σ fun u σ'=>U.AL lo σ' u (Can.srt l)∧(∀i,Own u i→Own v i)∧U.Chg lo σ σ' v∧(l=[]→u=.slice none 0 0):=by
 by_cases hl:l=[]
 ·rw [h0 hl] at h ⊢;subst hl;exact ZnQ (σ':=σ) (N:=300) (v:=.slice none 0 0) (by kernel_rfl) ⟨h,fun _ h=>h,U.Chg.of hlo (Ext.refl _),fun _=>rfl⟩
 ·exact (U.Zo4 h hlo hl (by omega) ho).mono fun u σ' ⟨h1,h2,h3⟩=>⟨h1,h2,h3,fun h=>absurd h hl⟩
theorem Zr4 (h:U.AL lo σ v l) (h0:l=[]→v=.slice none 0 0) (hn:l.length≤12):C Tryz.prog Kn 0 29 [v] σ fun u σ'=>U.RowV σ' u l∧(∀i,U.In u i→lo≤i∧i<σ'.next∧(σ'.get i).kind=2∧(σ'.get i).elem=57)∧(∃a,u=.slice a l.length l.length)∧Ext σ σ':=by
 by_cases hl:l=[]
 ·rw [h0 hl] at h ⊢;subst hl;exact ZnQ (σ':=σ) (N:=300) (v:=.slice none 0 0) (by kernel_rfl) ⟨.inl ⟨rfl,rfl⟩,fun i h=>(by obtain ⟨_,_,_,e⟩:=h;cases e),⟨none,rfl⟩,Ext.refl _⟩
 ·refine (U.clip_c h hl (by omega)).mono fun u σ' hq=>?_
  obtain ⟨e,b,-,h2,h3,h4,h5,h6,h7⟩:=hq;subst e;subst h2;exact ⟨h7,fun i hi=>by obtain ⟨_,_,_,e⟩:=hi;cases e;exact ⟨h3,h4,h5,h6⟩,⟨_,rfl⟩,Ext.refl _⟩
theorem Zqo {D:List Nat} (h:LS lo σ v D) (hn:D.length≤1000):C Tryz.prog Kn 0 31 [v] σ fun u σ'=>(∃a n c,u=.slice a n c)∧Ext σ σ':=by
 obtain ⟨a,c,rfl,hcl⟩:∃a c,v=.slice a D.length c∧Zbv Tryz.prog σ 37 v none (some (.int .i64 (D.length:Int))) (some (.int .i64 (D.length:Int)))=some (.slice a D.length D.length):=by
  obtain ⟨cs,h1,h2⟩:=h;rcases h1 with ⟨h0,h1,h2,b,rfl,h3,h4,h5⟩|h1
  ·rw [h0];exact ⟨_,_,rfl,by kernel_rfl⟩
  ·have hL:LV 22 1 (fun _ _ _=>True) lo σ v D:=⟨cs,h1,fun _ _ _=>trivial⟩;exact hL.clip (P:=Tryz.prog) elSS (by omega)
 refine C_of (kn (by decide)) Tryz.func31 rfl (zD rfl) ?_
 show W _ _ _ 9 _ _ _ _;unfold Tryz.f31;dsimp only;repeat apply Zaa
 apply Zad;intro _;simp +decide only [zq,ZaI,↓Zab,↓reduceIte,aOp];rfl;repeat apply Zaa
 apply Zad;intro _;simp +decide only [zq,↓Zab,↓reduceIte,aOp,Zan,ZbE,aevs,Zaf,Tryz.underlying37,goInt,aLen,aopt,hcl];rfl;refine ZaL ⟨zA _,[.slice a D.length D.length],?_,⟨_,_,_,rfl⟩,Ext.refl _⟩;simp +decide only [zq,Zaj]
end
open Abs
theorem ZlO {σ:AS} {a:Option Addr} {n c:Nat}:Zaz Tryz.prog σ 25 1 [(0,.slice a n c)]=some (slc σ.next 1 1,σ.new ⟨1,44,0,[.slice a n c],[]⟩):=by kernel_rfl
theorem elRs:El Tryz.prog 25 44 1:=⟨Tryz.underlying25,⟨(Tryz.prog.info? 44).get!,(((Tryz.prog.info? 44).get!).zero).get!,by kernel_rfl,by kernel_rfl,zD (by kernel_rfl),by kernel_rfl,by kernel_rfl,by kernel_rfl⟩,by decide⟩
theorem ZiV {σ:AS} {b:Nat} {x:Value} {p:Option Addr} {n c:Nat} (h:σ.get b=⟨1,27,0,[x],[]⟩) :
  ZaK Tryz.prog σ 25 (.slice p n c) (.pointer (some ⟨b,0,none⟩))=some (σ.put b ⟨1,27,0,[.slice p n c],[]⟩):=by
 obtain ⟨inf,hi2,hs⟩:∃inf,Tryz.prog.info? 25=some inf∧inf.size=1:=⟨(Tryz.prog.info? 25).get!,by kernel_rfl,by kernel_rfl⟩
 have hz:Nat.beq (Value.slice p n c).cells.size 1=true:=rfl;have hc:(Value.slice p n c).cells.toList=[.slice p n c]:=rfl;unfold ZaK;simp only [hi2,hs,hz,if_true,hc];unfold Zbc;simp only [h,ZaJ,List.length_cons,List.length_nil,Nat.zero_add];rfl
def kno (L:List (List Can.Arc)) (i:Nat):Nat:=Can.knows 1 (L.take i).flatten
theorem Zrw {L:List (List Can.Arc)} {i:Nat} {l:List Can.Arc} (h:L[i]?=some l):kno L (i+1)=Can.knows (kno L i) l:=by
 unfold kno;rw [zT,h];simp [Can.ZcJ]
theorem Znt {m:Nat} {l:List Can.Arc} {j:Nat} {a:Can.Arc} (h:l[j]?=some a):Can.knows m (l.take (j+1))=max (Can.knows m (l.take j)) (a.2+1):=by
 rw [zT,h,Option.toList_some,Can.ZcJ];rfl
theorem kn_le {L:List (List Can.Arc)} (hpos:0<L.length) (h:∀l∈L,∀a∈l,a.2<L.length) (i:Nat):kno L i≤L.length:=
 Can.Zeo hpos fun a ha=>by
  obtain ⟨l,h1,h2⟩:=List.mem_flatten.1 ha;exact h l (List.mem_of_mem_take h1) a h2
theorem ZoE {L:List (List Can.Arc)} (h:∀l∈L,∀a∈l,a.2<L.length) {i m:Nat} {l:List Can.Arc} (hl:L[i]?=some l) (hm:m≤L.length) (j:Nat):Can.knows m (l.take j)≤L.length:=
 Can.Zeo hm fun a ha=>h l (zF hl) a (List.mem_of_mem_take ha)
structure XM (LN:List (List Can.Arc)) (d:MD) (xb rx nr ob:Nat) (i:Nat) (σ:AS) (sv ov:Value):Prop where
 B:BxAt σ 35 xb d.cells
 R:BxAt σ 27 rx [.slice none 0 0]
 og:BxAt σ 27 ob [ov]
 st:LS xb σ sv (List.range (kno LN i))
 nums:MapG U.encN U.D6 xb σ (.map (some nr)) (nuf (List.range (kno LN i)))
 out:LV 44 1 (RRw xb) xb σ ov (LN.take i)
theorem Zq6 {n lb l c:Nat} (h:lb<n):(vsc n 9 (.agg #[.slice (some ⟨lb,0,none⟩) l c])&&veq 9 (.agg #[.slice (some ⟨lb,0,none⟩) l c]) (.agg #[.slice (some ⟨lb,0,none⟩) l c]))=true:=by
 unfold vsc veq;simp [vsc,veq,veqL,h]
theorem ZqF {σ:AS} {v:Value} {l:List Can.Arc} (h:U.RowV σ v l):RS 2 RArc σ v (Zbr l):=by
 have hcl:(Zbr l).length=l.length:=by unfold Zbr;rw [List.length_map]
 rcases h with ⟨rfl,rfl⟩|⟨h0,b,off,c,rfl,h1,h2⟩
 ·exact ⟨none,0,rfl,fun h=>absurd rfl h⟩
 ·refine ⟨_,_,by rw [hcl],fun _=>⟨b,off,rfl,h1,fun i x hx=>?_⟩⟩
  unfold Zbr at hx;rw [List.getElem?_map] at hx;cases hy:l[i]? with
  | none=>rw [hy] at hx;cases hx
  | some y=>
   rw [hy] at hx;cases hx;have hi:=(zE.1 hy).1;exact ⟨_,U.Zes h2 (by omega),U.Zr5 hy⟩
theorem Zoi {lo lo2:Nat} {σ:AS} {v:Value} {LN:List (List Can.Arc)} (h:LV 44 1 (RRw lo2) lo σ v LN):RS 1 RRow σ v (castL LN):=by
 have hcl:(castL LN).length=LN.length:=by unfold castL;rw [List.length_map]
 obtain ⟨a,c,hv⟩:=h.len;refine ⟨a,c,by rw [hcl];exact hv,fun hl=>?_⟩
 have hl:LN≠[]:=fun e=>hl (by rw [e];rfl)
 obtain ⟨x,hx⟩:∃x,LN[0]?=some x:=by
  cases LN with
  | nil=>exact absurd rfl hl
  | cons x l=>exact ⟨x,rfl⟩
 obtain ⟨b,c1,cs,q1,-,q2,-,-⟩:=h.at hx;rw [hv] at q1;cases q1;refine ⟨b,0,rfl,q2,fun i y hy=>?_⟩;unfold castL at hy;rw [List.getElem?_map] at hy;cases hz:LN[i]? with
 | none=>rw [hz] at hy;cases hy
 | some z=>
  rw [hz] at hy;cases hy;obtain ⟨b',c',cs',q3,-,-,q5,w,q6,q7,-⟩:=h.at hz;rw [hv] at q3;cases q3;exact ⟨cs',q5,w,q6,ZqF q7⟩
theorem ZpJ {lo lo2:Nat} {σ:AS} {v:Value} {LN:List (List Can.Arc)} (h:LV 44 1 (RRw lo2) lo σ v LN) (hl:LN≠[]):U.OutR σ v LN:=by
 obtain ⟨cs,⟨h1,h2,h3⟩,h4⟩:=h;rcases h3 with ⟨_,h0⟩|⟨b,n,vals,rfl,h5,h6,h7,h8,h9⟩
 ·exact absurd (List.length_eq_zero_iff.1 h0) hl
 ·rw [Nat.mul_one] at h1;obtain ⟨h9a,h9⟩:=h9;rw [Nat.mul_one] at h9 h9a;refine ⟨hl,b,0,_,cs,rfl,h7,?_,h1,fun i v l hv hl2=>?_⟩
  ·unfold Zav;simp only [h8,ZaJ,Nat.zero_add];rw [ZbF (by omega),List.drop_zero,h9]
   rfl
  ·obtain ⟨w,e,h10,-⟩:=h4 i l hl2;have hi:=(zE.1 hv).1;rw [Nat.mul_one,List.drop_eq_getElem_cons hi,(zE.1 hv).2] at e;simp at e;rw [e];exact h10
theorem ZoW {σ:AS} {d:MD} {L:Lts} {LN:List (List Can.Arc)} {E:List Int} (hL:L=castL LN) (O:LOk L E) (hM:Mach σ d L E) (hS:U.Small LN) (hC:U.ZiS 0 1 LN) (hru:∀s,Ext σ s→C Tryz.prog Kn 0 84 [d.val] s fun v s'=>v=.bool true∧Ext s s') :
  C Tryz.prog Kn 0 9 [d.val,.int .i64 16384] σ fun v σ'=>(∃ov u,v=.tuple #[.agg #[ov],u,.int .i64 0]∧RS 1 RRow σ' ov L)∧Ext σ σ':=by
 have hN6:=O.hN;have hlen:L.length=LN.length:=by rw [hL];unfold castL;rw [List.length_map]
 have hpN:0<LN.length:=List.length_pos_iff.2 hS.pos;have hpos:0<L.length:=by omega
 refine C_of (kn (by decide)) Tryz.func9 rfl (zD rfl) ?_
 show W _ _ _ 111 _ _ _ _;unfold Tryz.f9;dsimp only;repeat apply Zaa
 apply Zad;intro _;simp +decide only [zq,ZaI,↓Zab,↓reduceIte,aOp,Zbm,aRow,ZcP];rfl;have e1:Ext σ ((σ.new ⟨1,35,0,d.val.cells.toList,[]⟩).new ⟨1,27,0,[.slice none 0 0],[]⟩):=(Ext.new σ _).trans (Ext.new _ _);have B1:BxAt ((σ.new ⟨1,35,0,d.val.cells.toList,[]⟩).new ⟨1,27,0,[.slice none 0 0],[]⟩) 35 σ.next d.cells:=(BxAt.new σ _ _).ext (Ext.new _ _);have R1:BxAt ((σ.new ⟨1,35,0,d.val.cells.toList,[]⟩).new ⟨1,27,0,[.slice none 0 0],[]⟩) 27 (σ.new ⟨1,35,0,d.val.cells.toList,[]⟩).next [.slice none 0 0]:=BxAt.new _ _ _;have hxl:σ.next≤(σ.new ⟨1,35,0,d.val.cells.toList,[]⟩).next:=Nat.le_succ _;generalize hrx:(σ.new ⟨1,35,0,d.val.cells.toList,[]⟩).next=rx at R1 hxl;generalize hnx:σ.next=xb at B1 hxl;generalize (σ.new ⟨1,35,0,d.val.cells.toList,[]⟩).new ⟨1,27,0,[.slice none 0 0],[]⟩=σ1 at e1 B1 R1;have c1:decide ((16384:Int)<1)=false:=by decide
 have c2:decide ((16384:Int)>16384)=false:=by decide
 repeat apply Zaa
 apply ZaF;apply Zay 1;intro _;simp +decide only [zq,List.take,↓Zab,↓reduceIte,aOp,Zag,Mach.ldM B1];rfl;dsimp only [List.drop];refine ZaV (vs:=[d.val]) (by simp +decide only [zq,aevs]) (by decide) (C.mono (ZqD (hM.ext e1) hpos fun s e=>hru s (e1.trans e)) ?_)
 rintro u s ⟨rfl,e2⟩;apply ZaG;intro _;simp +decide only [zq,↓Zab,↓reduceIte,aOp,Zah,opUn,ZaH,beq_self_eq_true,Bool.not_true,not_b,U.lssI,U.gtrI];rfl;have B2:=B1.ext e2;have R2:=R1.ext e2;have e2:=e1.trans e2;generalize s=σ2 at e2 B2 R2;repeat apply Zaa
 refine ZaC (by simp +decide only [zq,decide_false]) ?_
 apply Zak;repeat apply Zaa
 apply ZaF;apply Zay 1;intro _;simp +decide only [zq,List.take,↓Zab,↓reduceIte,aOp,Zag,Mach.ldM B2];rfl;dsimp only [List.drop];refine ZaV (vs:=[d.val]) (by simp +decide only [zq,aevs]) (by decide) (C.mono (ZmA) ?_)
 rintro u s ⟨⟨b,rfl,hb,hbg,hbl⟩,e3⟩;have B3:=B2.ext e3;have R3:=R2.ext e3;have hb0:xb≤b:=by rw [←hnx];exact zB e2.nxt hb
 have e3:=e2.trans e3;generalize s=σ3 at e3 B3 R3 hbg hbl;apply ZaG;intro _;simp +decide only [zq,↓Zab,↓reduceIte,aOp,Zar,ZaN,Zpf];rfl;have e4:=Ext.new σ3 ⟨1,22,0,[slc b 2 2],[]⟩;have S4:BxAt (σ3.new ⟨1,22,0,[slc b 2 2],[]⟩) 22 σ3.next [slc b 2 2]:=BxAt.new _ _ _;have B4:=B3.ext e4;have R4:=R3.ext e4;have hst4:RState xb (σ3.new ⟨1,22,0,[slc b 2 2],[]⟩) [slc b 2 2] 0:=⟨b,2,rfl,hb0,e4.lt hbl,by rw [e4.get b hbl,hbg];exact .inl rfl,by rw [e4.get b hbl,hbg],by rw [ZbL (a:=⟨b,0,none⟩) (e4.get b hbl)];exact Zaq hbg rfl (zA _)⟩
 have hsx:xb≤σ3.next:=by rw [←hnx];exact e3.nxt
 generalize hsb:σ3.next=sb at S4 hsx;have e4:=e3.trans e4;generalize σ3.new ⟨1,22,0,[slc b 2 2],[]⟩=σ4 at e4 B4 R4 S4 hst4;have ls4:Zat Tryz.prog (σ4.new ⟨3,0,0,[],[]⟩) 22 (.pointer (some ⟨sb,0,none⟩))=some (slc b 2 2):=Zaw Tryz.underlying22 rfl ((S4.ext (Ext.new _ _)).cell (i:=0) rfl);have ix4:Zal Tryz.prog 37 (slc sb 1 1) (.int .i64 0)=some (.pointer (some ⟨sb,0,none⟩)):=ZaD (b:=sb) (off:=0) (cap:=1) (k:=.i64) (i:=0) (inf:=(Tryz.prog.info? 22).get!) (sz:=1) Tryz.underlying37 (by kernel_rfl) (by kernel_rfl) (by omega)
 have hst4':=hst4.frk (FrK.of_ext (Ext.new σ4 ⟨3,0,0,[],[]⟩));obtain ⟨b4,c4,eb4,hc0,hc1,hc2,hc3,hc4⟩:=id hst4';cases eb4;repeat apply Zaa
 apply ZaF;apply Zay 4;intro _;simp +decide only [zq,List.take,↓Zab,↓reduceIte,aOp,Zae,Zag,ix4,ls4];rfl;dsimp only [List.drop];refine ZaV (vs:=[slc b 2 2]) (by simp +decide only [zq,aevs]) (by decide) (C.mono (U.ZrA (t:=0) (by omega) hc1 hc2 hc3 hc4) ?_)
 rintro u s ⟨rfl,e5⟩;have e5:=(Ext.new σ4 ⟨3,0,0,[],[]⟩).trans e5;have hm5:MapG U.encN U.D6 xb s (.map (some σ4.next)) (fun _=>none):=by
  have h1:(σ4.new ⟨3,0,0,[],[]⟩).get σ4.next=⟨3,0,0,[],[]⟩:=(AS.get_new _ _ _).trans (if_pos rfl);have h2:s.get σ4.next=⟨3,0,0,[],[]⟩:=((by assumption:Ext (σ4.new ⟨3,0,0,[],[]⟩) s).get _ (zG _)).trans h1
  exact ⟨σ4.next,[],rfl,by rw [←hnx];exact e4.nxt,zC (zG _) (by assumption:Ext (σ4.new ⟨3,0,0,[],[]⟩) s).nxt,by rw [h2],by rw [h2];rfl,List.nodup_nil,fun _=>rfl,fun _ h=>(nomatch h)⟩
 generalize hnr:σ4.next=nr at hm5 ⊢;obtain ⟨nr',NB,enr,hNB3,hup,hm6⟩:=hm5.upd U.Zrx Tryz.underlying73 (k:=0) ⟨by omega,by omega⟩ (.int .i64 0)
 cases enr;have hkn:U.encN 0=U.keyN 0:=rfl;rw [hkn] at hup;have hNB3':=(hm5.own (i:=nr) rfl).2.2;have hm5':=hm5;apply ZaG;intro _;simp +decide only [zq,↓Zab,↓reduceIte,aOp,unn,ZbG,hup];rfl;have f6:FI σ4 (s.put nr NB):=(FI.of e5).put hNB3' NB;have e6:Ext σ (s.put nr NB):=Ext.put (e4.trans e5) (by rw [hnx];exact (hm5'.own rfl).1) NB
 have B6:=f6.bx B4 (by decide)
 have R6:=f6.bx R4 (by decide)
 have L4:LS xb σ4 (slc sb 1 1) [0]:=⟨[slc b 2 2],.inl ⟨rfl,rfl,rfl,sb,rfl,hsx,S4.lt,S4.get⟩,fun i x hi=>by
  cases i with
  | zero=>cases hi;exact hst4
  | succ i=>simp at hi⟩
 have L6:=(L4.ext e5).put hNB3' NB;have hfe:(fun j:Int=>if j=0 then some (Value.int .i64 0) else none)=nuf (List.range 1):=by
  rw [←Zmz]
  funext j
  have:nuf (List.range 0) j=none:=by unfold nuf;rw [if_neg];rintro ⟨-,h⟩;cases h
  rw [this];rfl
 rw [hfe] at hm6;generalize s.put nr NB=σ6 at f6 e6 B6 R6 L6 hm6;repeat apply Zaa
 apply Zad;intro _;simp +decide only [zq,↓Zab,↓reduceIte,aOp,ZcP];rfl;have e7:=Ext.new σ6 ⟨1,27,0,[.slice none 0 0],[]⟩;have O7:BxAt (σ6.new ⟨1,27,0,[.slice none 0 0],[]⟩) 27 σ6.next [.slice none 0 0]:=BxAt.new _ _ _;have hob:xb≤σ6.next:=by rw [←hnx];exact e6.nxt
 have hxr:rx≠σ6.next:=fun e=>by have:=R6.lt;omega
 generalize σ6.next=ob at O7 hob hxr;have X7:XM LN d xb rx nr ob 0 (σ6.new ⟨1,27,0,[.slice none 0 0],[]⟩) (slc sb 1 1) (.slice none 0 0):=⟨B6.ext e7,R6.ext e7,O7,L6.ext e7,hm6.keep e7.nxt fun i _ hi=>e7.get i hi,LV.nil⟩;have e7:=e6.trans e7;generalize σ6.new ⟨1,27,0,[.slice none 0 0],[]⟩=σ7 at e7 X7;clear f6 e6 B6 R6 L6 hm6 L4 S4 hst4 B4 R4 e4 e5 hup hm5' hst4' hc0 hc1 hc2 hc3 hc4 ls4;repeat apply Zaa
 apply Zad;intro _;simp +decide only [zq,↓Zab,↓reduceIte,aOp];rfl;repeat apply Zaa
 apply Zad;intro _;simp +decide only [zq,↓Zab,↓reduceIte,aOp];rfl;repeat apply Zaa
 refine Zbs (fun (i:Nat) r s=>i≤LN.length∧Ext σ s∧(∃sv ov,rget r 7=sv∧XM LN d xb rx nr ob i s sv ov)∧(∃cnt:Int,rget r 10=.int .i64 cnt∧0≤cnt∧cnt≤12*i)∧rget r 11=.int .i64 (i:Int)∧rget r 1=.int .i64 16384∧rget r 2=.pointer (some ⟨xb,0,none⟩)∧rget r 4=.pointer (some ⟨rx,0,none⟩)∧rget r 8=.map (some nr)∧rget r 9=.pointer (some ⟨ob,0,none⟩))
  (fun i=>LN.length-i) (fun r s=>Ext σ s∧(∃sv ov,rget r 7=sv∧XM LN d xb rx nr ob LN.length s sv ov)∧rget r 4=.pointer (some ⟨rx,0,none⟩)∧rget r 9=.pointer (some ⟨ob,0,none⟩)) ?_ ?_ 0 ?_
 rotate_left 2
 ·refine ⟨zH _,e7,⟨_,_,?_,X7⟩,⟨0,?_,by decide,by decide⟩,?_,?_,?_,?_,?_,?_⟩<;>simp +decide only [zq]<;>first|exact True.intro|rfl
 rotate_left
 ·rintro r s ⟨E9,⟨sv,ov,h7,X9⟩,h4,h9⟩;obtain ⟨ob2,oc2,ocs,hove,-,hob2,-,-⟩:=X9.out.at (i:=0) (x:=LN[0]'hpN) (by simp [hpN])
  have hkN:kno LN LN.length≤LN.length:=kn_le hpN hS.to _;rw [zJ (zA _)] at hove;repeat apply Zaa
  refine Za8 [0] [ob] (by kernel_rfl) (by kernel_rfl) ?_
  have lo:Zat Tryz.prog s.reset 27 (.pointer (some ⟨ob,0,none⟩))=some (.agg #[ov]):=ZbK Tryz.underlying27 rfl (i:=(Tryz.prog.info? 27).get!) (by kernel_rfl) (by rw [show ((Tryz.prog.info? 27).get!).size=1 by kernel_rfl];exact Zaq (X9.og.ext (Ext.reset s)).get rfl (by simp))
  refine ZaZ (b:=ob) (off:=0) (v:=.agg #[ov]) (by simp +decide only [aev,h9]) lo (by rw [hove];exact Zq6 hob2) X9.og.lt (by simp [memb]) (by decide) ?_
  have e10:Ext s (s.merge s.reset):=(Ext.refl _).merge;generalize s.merge s.reset=σ10 at e10;apply Zau 1;intro _;simp +decide only [zq,zr,List.take,aQ,↓Zab,↓reduceIte,aOp,h7];rfl;dsimp only [List.drop,List.take,List.length];have e11:Ext σ10 (σ10.merge σ10.reset):=(Ext.refl _).merge;generalize σ10.merge σ10.reset=σ11 at e11;have e11:=e10.trans e11;have st11:=X9.st.ext (e11.trans (Ext.reset σ11));refine Zbx (vs:=[sv]) (by simp +decide only [zq,aevs]) (by decide) rfl (C.mono (Zqo st11 (by rw [List.length_range];omega)) ?_)
  rintro u s1 ⟨⟨ua,un,uc,rfl⟩,e12⟩;refine ⟨e12.quiet,?_⟩;have e12:=e11.trans e12.merge;generalize σ11.merge s1=σ12 at e12;have R12:=X9.R.ext (e12.trans (Ext.reset σ12));have hst:ZaK Tryz.prog σ12.reset 27 (.agg #[ov]) (.pointer (some ⟨rx,0,none⟩))=some (σ12.reset.put rx ⟨1,27,0,[ov],[]⟩):=by
   rw [hove];exact ZdM R12.get
  refine Zf5 (b:=rx) (off:=0) (v:=.agg #[ov]) (by simp +decide only [zq,h4]) (by simp +decide only [zq]) hst (fun y hy=>by rw [AS.get_put,if_neg (fun e=>hy e.symm)];rfl) rfl (by kernel_rfl) (by kernel_rfl) ?_
  have E13:Ext σ (σ12.merge (σ12.reset.put rx ⟨1,27,0,[ov],[]⟩)):=ZfJ (E9.trans e12) (Ext.put ((E9.trans e12).trans (Ext.reset _)) (by rw [hnx];exact hxl) _)
  have R13:BxAt (σ12.merge (σ12.reset.put rx ⟨1,27,0,[ov],[]⟩)) 27 rx [ov]:=⟨R12.lt,(AS.get_put _ _ _ _).trans (if_pos rfl)⟩;have hne:∀q,(σ12.get q).kind=2→(σ12.merge (σ12.reset.put rx ⟨1,27,0,[ov],[]⟩)).get q=σ12.get q:=fun q hq=>(AS.get_put _ _ _ _).trans (if_neg (by
   rintro rfl;rw [show σ12.get rx=σ12.reset.get rx from rfl,R12.get] at hq;exact absurd (show (1:Nat)=2 from hq) (by decide)))
  have out12:=X9.out.ext RRw.kept e12;have out13:LV 44 1 (RRw xb) xb (σ12.merge (σ12.reset.put rx ⟨1,27,0,[ov],[]⟩)) ov (LN.take LN.length):=by
   obtain ⟨cs,k1,k2⟩:=out12;refine ⟨cs,k1.keep (zA _) fun q ho _=>hne q (k1.own ho).2.2.1,fun q x hq=>?_⟩;obtain ⟨v,g1,g2,g3⟩:=k2 q x hq;exact ⟨v,g1,g2.keep (zA _) fun q hq _=>hne q (g3 q hq).2.2.1,fun q hq=>⟨(g3 q hq).1,(g3 q hq).2.1,by rw [hne q (g3 q hq).2.2.1];exact (g3 q hq).2.2⟩⟩
  generalize σ12.merge (σ12.reset.put rx ⟨1,27,0,[ov],[]⟩)=σ13 at E13 R13 out13;apply ZaO;intro _;simp +decide only [zq,zr,aQ,↓Zab,↓reduceIte,aOp];rfl;have e14:Ext σ13 (σ13.merge σ13.reset):=(Ext.refl _).merge;generalize σ13.merge σ13.reset=σ14 at e14;have R14:=R13.ext e14;have out14:=out13.ext RRw.kept e14;rw [zJ (zA _)] at out14;have ll:Zat Tryz.prog σ14 27 (.pointer (some ⟨rx,0,none⟩))=some (.agg #[ov]):=ZbK Tryz.underlying27 rfl (i:=(Tryz.prog.info? 27).get!) (by kernel_rfl) (by rw [show ((Tryz.prog.info? 27).get!).size=1 by kernel_rfl];exact Zaq R14.get rfl (by simp))
  refine ZaL ⟨zA _,[.agg #[ov],.slice ua un uc,.int .i64 0],?_,⟨ov,_,rfl,by rw [hL];exact Zoi out14⟩,E13.trans e14⟩
  simp +decide only [zq,Zaj,h4,ll]
 rintro i r σ8 ⟨hi,e8,⟨sv,ov,h7,X8⟩,⟨cnt,h10,hct0,hct1⟩,h11,h1,h2,h4,h8,h9⟩;have hkl:kno LN i≤LN.length:=kn_le hpN hS.to i;obtain ⟨sa,sc,hsv⟩:=X8.st.len;rw [List.length_range] at hsv;by_cases hlt:i<LN.length;rotate_left
 ·have hi2:i=LN.length:=by omega
  have d1:decide ((i:Int)<(kno LN i:Int))=false:=zI (by omega)
  repeat apply Zaa
  apply Zad;intro _;simp +decide only [zq,↓Zab,↓reduceIte,aOp,Zah,Zan,aevs,Zaf,h7,h11,hsv,Tryz.underlying37,goInt,aLen,U.lssI,d1];rfl;repeat apply Zaa
  refine ZaC (by simp +decide only [zq]) ?_
  subst hi2;refine ZaA ⟨fun h=>(nomatch h),fun _=>⟨e8,⟨sv,ov,?_,X8⟩,?_,?_⟩,fun h1 h2=>absurd rfl h2⟩<;>simp +decide only [zq,h4,h7,h9,hsv]
 obtain ⟨rowN,hrN⟩:∃rowN,LN[i]?=some rowN:=⟨LN[i],by simp [hlt]⟩
 have hCi:=U.ZhO hC hrN;rw [Nat.zero_add] at hCi;obtain ⟨hki,hasN,hord⟩:=hCi;have hki:i<kno LN i:=hki;have hrow:L[i]?=some (Zbr rowN):=by rw [hL];exact Zm4 hrN
 have hrm:Zbr rowN∈L:=zF hrow;have hrl:rowN.length≤12:=hS.rows _ (zF hrN);have hcl:(Zbr rowN).length=rowN.length:=by unfold Zbr;rw [List.length_map]
 have d1:decide ((i:Int)<(kno LN i:Int))=true:=zM (by omega)
 repeat apply Zaa
 apply Zad;intro _;simp +decide only [zq,↓Zab,↓reduceIte,aOp,Zah,Zan,aevs,Zaf,h7,h11,hsv,Tryz.underlying37,goInt,aLen,U.lssI,d1];rfl;repeat apply Zaa
 refine ZaQ (by simp +decide only [zq]) ?_
 apply Zak;refine ZaM ?_;repeat apply Zaa
 apply Zad;intro _;simp +decide only [zq,↓Zab,↓reduceIte,aOp];rfl;obtain ⟨stb,stc,nb0,nc0,hsv2,hstb,hstc,hRi⟩:=X8.st.at (i:=i) (x:=i) (by rw [List.getElem?_range hki])
 rw [List.length_range] at hsv2;have hRi':=hRi;obtain ⟨q1,q2,q3,hq0,hq1,hq2,hq3,hq4⟩:=hRi;cases q3;have xQ:=Ext.reset σ8;have ldM:=Mach.ldM (X8.B.ext xQ);have lst:Zat Tryz.prog σ8.reset 22 (.pointer (some ⟨stb,i*1,none⟩))=some (slc nb0 2 nc0):=Zaw Tryz.underlying22 rfl hstc;have ixs:Zal Tryz.prog 37 (slc stb (kno LN i) stc) (.int .i64 (i:Int))=some (.pointer (some ⟨stb,i*1,none⟩)):=by
  have:=ZaD (b:=stb) (off:=0) (cap:=stc) (k:=.i64) (inf:=(Tryz.prog.info? 22).get!) (sz:=1) Tryz.underlying37 (by kernel_rfl) (by kernel_rfl) hki
  rwa [Nat.zero_add] at this
 rw [hsv2] at h7;repeat apply Zaa
 refine Za8 [] [] (by kernel_rfl) (by kernel_rfl) ?_
 apply Zau 5;intro _;simp +decide only [zq,zr,List.take,aQ,↓Zab,↓reduceIte,aOp,Zae,Zag,h2,h7,h11,ldM,ixs,lst];rfl;dsimp only [List.drop,List.take,List.length];have e9:Ext σ8 (σ8.merge σ8.reset):=(Ext.refl _).merge;generalize σ8.merge σ8.reset=σ9 at e9;have e9r:=e9.trans (Ext.reset σ9);refine Zbx (vs:=[d.val,slc nb0 2 nc0]) (by simp +decide only [zq,aevs]) (by decide) rfl (C.mono (ZpO (ZiX ZmD) (Zje Zrn) (hM.ext (e8.trans e9r)) ⟨nb0,nc0,rfl,e9r.lt hq1,by rw [e9r.cells (a:=⟨nb0,0,none⟩) hq1];exact hq4⟩ hrow (by omega) O.E0 O.El (O.out hrm) (O.asc _ hrm)) ?_)
 rintro u s ⟨⟨lo,vst,a0,c0,hlo,hvs,hve,rfl⟩,e10⟩;refine ⟨e10.quiet,?_⟩;have e10:Ext σ8 (σ9.merge s):=e9.trans e10.merge;have hvs:LV 77 3 (RSt lo) lo (σ9.merge s) vst (Zbr rowN):=hvs;have hlo:σ8.next≤lo:=zB e9.nxt hlo;generalize σ9.merge s=σ10 at e10 hvs;apply ZaO;intro _;simp +decide only [zq,zr,aQ,↓Zab,↓reduceIte,aOp,Zan,aevs,Zaf,Tryz.underlying41,goInt,aLen];rfl;have e11:Ext σ10 (σ10.merge σ10.reset):=(Ext.refl _).merge;generalize σ10.merge σ10.reset=σ11 at e11;have hvs:=hvs.ext RSt.kept e11;have e11:=e10.trans e11;have E11:=e8.trans e11;have hxb:xb≤σ8.next:=by rw [←hnx];exact e8.nxt
 have X11:XM LN d xb rx nr ob i σ11 sv ov:=⟨X8.B.ext e11,X8.R.ext e11,X8.og.ext e11,X8.st.ext e11,X8.nums.keep e11.nxt fun i _ hi=>e11.get i hi,X8.out.ext RRw.kept e11⟩;rw [hcl];show W _ _ _ 111 _ _ _ _;have hw1:=Zrw hrN;repeat apply Zaa
 refine Zbs (fun (j:Nat) r s=>j≤rowN.length∧(Ext σ s∧FI σ11 s∧(∃sv,rget r 7=sv∧LS xb s sv (List.range (Can.knows (kno LN i) (rowN.take j))))∧MapG U.encN U.D6 xb s (.map (some nr)) (nuf (List.range (Can.knows (kno LN i) (rowN.take j))))∧(∃w,rget r 12=w∧U.AL σ11.next s w (rowN.take j)∧(rowN.take j=[]→w=.slice none 0 0))∧rget r 10=.int .i64 cnt∧rget r 11=.int .i64 (i:Int)∧rget r 1=.int .i64 16384∧rget r 2=.pointer (some ⟨xb,0,none⟩)∧rget r 4=.pointer (some ⟨rx,0,none⟩)∧rget r 8=.map (some nr)∧rget r 9=.pointer (some ⟨ob,0,none⟩))∧rget r 49=.slice a0 rowN.length rowN.length∧rget r 50=.int .i64 (rowN.length:Int)∧rget r 51=.int .i64 (j:Int))
  (fun j=>rowN.length-j) (fun r s=>Ext σ s∧FI σ11 s∧(∃sv,rget r 7=sv∧LS xb s sv (List.range (kno LN (i+1))))∧MapG U.encN U.D6 xb s (.map (some nr)) (nuf (List.range (kno LN (i+1))))∧(∃w,rget r 12=w∧U.AL σ11.next s w (rowN)∧(rowN=[]→w=.slice none 0 0))∧rget r 10=.int .i64 cnt∧rget r 11=.int .i64 (i:Int)∧rget r 1=.int .i64 16384∧rget r 2=.pointer (some ⟨xb,0,none⟩)∧rget r 4=.pointer (some ⟨rx,0,none⟩)∧rget r 8=.map (some nr)∧rget r 9=.pointer (some ⟨ob,0,none⟩)) ?_ ?_ 0 ?_
 rotate_left 2
 ·refine ⟨zH _,⟨E11,FI.refl,⟨sv,?_,X11.st⟩,X11.nums,⟨_,?_,U.AL.nil,fun _=>rfl⟩,?_,?_,?_,?_,?_,?_,?_⟩,?_,?_,?_⟩<;>simp +decide only [zq,h1,h2,h4,h7,h8,h9,h10,h11,hsv2]<;>first|exact True.intro|rfl
 rotate_left
 ·rintro r s ⟨E12,f12,⟨sv2,h7,st12⟩,nm12,⟨w,h12,al12,hw0⟩,h10,h11,h1,h2,h4,h8,h9⟩;obtain ⟨wa,wc,hwe⟩:=Stk.len al12;rw [hwe] at al12 h12 hw0;clear hwe;have hrs:Can.srt rowN=rowN:=Can.ZjJ hasN;repeat apply Zaa
  apply ZaF;apply Zay 1;intro _;simp +decide only [zq,List.take,↓Zab,↓reduceIte,aOp,h12];rfl;dsimp only [List.drop];refine ZaV (vs:=[.slice wa rowN.length wc,.func (.func 26) #[] #[]]) (by simp +decide only [zq,aevs]) (by decide) (C.mono (Zra al12 hw0 f12.nxt hrl) ?_)
  rintro u s2 ⟨l',al13,hl',hm',ch13,ho'⟩;apply ZaG;intro _;simp +decide only [aOps];rfl;have hown:∀q,Own (.slice wa rowN.length wc) q→σ11.next≤q∧(s.get q).elem=57∧(s.get q).kind=2:=fun q ho=>by have:=al12.own ho;exact ⟨this.1,this.2.2.2,this.2.2.1⟩
  have f13:FI σ11 s2:=f12.push ch13.nxt ch13.get fun q ho=>.inl (hown q ho).1;have E13:Ext σ s2:=Zbt E12 ch13.nxt ch13.get (fun q h1 h2=>ch13.low q (zB h1 E11.nxt) h2) fun q ho=>zB E11.nxt (hown q ho).1;have st13:=st12.arcs ch13.nxt ch13.get fun q ho=>.inl (hown q ho).2.1;have nm13:=nm12.keep ch13.nxt fun q ho hq=>ch13.get q hq fun h=>by
   have h1:=(nm12.own ho).2.2;rw [(hown q h).2.2] at h1;cases h1
  have hw1':l'=[]→(Value.slice wa rowN.length wc)=.slice none 0 0:=fun h=>hw0 (List.length_eq_zero_iff.1 (by rw [←hl',h];rfl))
  have hsr:Can.srt l'=rowN:=(Can.Zmh hasN fun x=>(hm' x).symm).symm;clear hown E12 f12 st12 nm12;generalize s2=σ13 at al13 f13 E13 st13 nm13;repeat apply Zaa
  apply ZaF;apply Zay 1;intro _;simp +decide only [zq,List.take,↓Zab,↓reduceIte,aOp,h12];rfl;dsimp only [List.drop];refine ZaV (vs:=[.slice wa rowN.length wc]) (by simp +decide only [zq,aevs]) (by decide) (C.mono (Zr0 al13 hw1' f13.nxt (by omega) ho') ?_)
  rintro u s2 ⟨al14,hou,ch14,hu0⟩;rw [hsr] at al14;have hown:∀q,Own (.slice wa rowN.length wc) q→σ11.next≤q∧(σ13.get q).elem=57∧(σ13.get q).kind=2:=fun q ho=>by have:=al13.own ho;exact ⟨this.1,this.2.2.2,this.2.2.1⟩
  have f14:FI σ11 s2:=f13.push ch14.nxt ch14.get fun q ho=>.inl (hown q ho).1;have E14:Ext σ s2:=Zbt E13 ch14.nxt ch14.get (fun q h1 h2=>ch14.low q (zB h1 E11.nxt) h2) fun q ho=>zB E11.nxt (hown q ho).1;have st14:=st13.arcs ch14.nxt ch14.get fun q ho=>.inl (hown q ho).2.1;have nm14:=nm13.keep ch14.nxt fun q ho hq=>ch14.get q hq fun h=>by
   have h1:=(nm13.own ho).2.2;rw [(hown q h).2.2] at h1;cases h1
  clear hown E13 f13 st13 nm13;generalize s2=σ14 at al14 f14 E14 st14 nm14;refine ZaV (vs:=[u]) (by simp +decide only [zq,aevs]) (by decide) (C.mono (Zr4 al14 (fun h=>hu0 (List.length_eq_zero_iff.1 (by rw [hl',h];rfl))) hrl) ?_)
  rintro x s2 ⟨hRV,hIn,⟨xa,hxe⟩,e15⟩;apply ZaG;intro _;simp +decide only [zq,↓Zab,↓reduceIte,aOp];rfl;have f15:=f14.ext e15;have E15:=E14.trans e15;have st15:=st14.ext e15;have nm15:=nm14.keep e15.nxt fun q _ hq=>e15.get q hq;generalize s2=σ15 at f15 E15 st15 nm15 hRV hIn;subst hxe;obtain ⟨oa,oc,hove⟩:=X11.out.len;rw [zX,Nat.min_eq_left (by omega)] at hove
  have hL6:LN.length≤6:=by omega
  have hwc:IntKind.i64.wrap (cnt+(rowN.length:Int))=cnt+(rowN.length:Int):=Zas _ (by omega) (by omega)
  have dcnt:decide (cnt+(rowN.length:Int)>262144)=false:=zI (by omega)
  repeat apply Zaa
  apply Zad;intro _;simp +decide only [zq,↓Zab,↓reduceIte,aOp,Zah,Zan,aevs,Zaf,h10,Tryz.underlying44,goInt,aLen,U.addI,hwc];rfl;repeat apply Zaa
  apply Zad;intro _;simp +decide only [zq,↓Zab,↓reduceIte,aOp,Zah,U.gtrI,dcnt];rfl;repeat apply Zaa
  refine ZaC (by simp +decide only [zq]) ?_
  apply Zak;have hB:=f15.bx X11.B (by decide)
  have hR:=f15.bx X11.R (by decide)
  have hO:=f15.bx X11.og (by decide)
  have hout:=f15.out X11.out;have lov:Zat Tryz.prog σ15 25 (.pointer (some ⟨ob,0,none⟩))=some ov:=Zaw Tryz.underlying25 rfl (hO.cell (i:=0) rfl);have e16:=Ext.new σ15 ⟨1,44,0,[.slice xa rowN.length rowN.length],[]⟩;have hout16:=hout.ext RRw.kept e16;have hRw:RRw xb σ15 [.slice xa rowN.length rowN.length] rowN:=⟨_,rfl,hRV,fun q hq=>by
   obtain ⟨q1,q2⟩:=hIn q hq;exact ⟨zB (by rw [←hnx];exact E11.nxt) q1,q2⟩⟩
  obtain ⟨v17,s17,p1,p2,p3,p4,p5,p6⟩:=hout16.push (P:=Tryz.prog) (T:=25) elRs RRw.kept (by rw [←hnx];exact (E15.trans e16).nxt) (x:=rowN) (y:=slc σ15.next 1 1) (new:=[.slice xa rowN.length rowN.length])
   (ZbV (Zaq (BxAt.new σ15 44 [.slice xa rowN.length rowN.length]).get rfl (zA _))) rfl rfl (RRw.kept.ext e16 hRw) (by rw [zX];omega)
  have htk:LN.take (i+1)=LN.take i++[rowN]:=by rw [zT,hrN];rfl
  rw [←htk] at p2;have hown:∀q,Own ov q→xb≤q∧((σ15.new ⟨1,44,0,[.slice xa rowN.length rowN.length],[]⟩).get q).elem=44∧((σ15.new ⟨1,44,0,[.slice xa rowN.length rowN.length],[]⟩).get q).kind=2:=fun q ho=>by have:=hout16.own ho;exact ⟨this.1,this.2.2.2,this.2.2.1⟩
  have E17:Ext σ s17:=Zbt (E15.trans e16) p3 p4 (by rw [hnx];exact p5) fun q ho=>by rw [hnx];exact (hown q ho).1
  have st17:=(st15.ext e16).arcs p3 p4 fun q ho=>.inr (hown q ho).2.1;have nm17:=(nm15.keep e16.nxt fun q _ hq=>e16.get q hq).keep p3 fun q ho hq=>p4 q hq fun h=>by
   have h1:=((nm15.keep e16.nxt fun q _ hq=>e16.get q hq).own ho).2.2;rw [(hown q h).2.2] at h1;cases h1
  have bx17:∀{t b:Nat} {cs:List Value},BxAt σ15 t b cs→BxAt s17 t b cs:=fun {t b cs} hb=>⟨zC (hb.ext e16).lt p3,(p4 b (hb.ext e16).lt fun h=>by
   have h1:=(hown b h).2.2;rw [(hb.ext e16).get] at h1;exact absurd (show (1:Nat)=2 from h1) (by decide)).trans (hb.ext e16).get⟩
  have B17:=bx17 hB;have R17:=bx17 hR;have O17:=bx17 hO;obtain ⟨va,vc,hve2⟩:=p2.len;have hso:=ZiV (p:=va) (n:=(LN.take (i+1)).length) (c:=vc) O17.get;rw [←hve2] at hso;have hbo:∀{t b:Nat} {cs:List Value},BxAt s17 t b cs→b≠ob→BxAt (s17.put ob ⟨1,27,0,[v17],[]⟩) t b cs:=fun {t b cs} hb hne=>⟨hb.lt,by rw [AS.get_put,if_neg (fun e=>hne e.symm)];exact hb.get⟩
  have hxo:xb≠ob:=by
   rintro rfl;have h1:=B17.get;rw [O17.get] at h1;exact absurd (show (27:Nat)=35 from congrArg Blk.elem h1) (by decide)
  refine Zao ?_;repeat apply Zaa
  apply Zad;intro _;simp +decide only [zq,↓Zab,↓reduceIte,aOp,Zan,Zac,Zag,ZaE,Zar,aevs,ZaN,unn,Zaf,h9,fldL,lov,ZlO,p1,hso];rfl;have X18:XM LN d xb rx nr ob (i+1) (s17.put ob ⟨1,27,0,[v17],[]⟩) sv2 v17:=by
   refine ⟨hbo B17 hxo,hbo R17 fun e=>?_,⟨O17.lt,by rw [AS.get_put,if_pos rfl]⟩,?_,nm17.keep (zA _) fun q ho _=>?_,?_⟩
   ·exact hxr e
   ·refine st17.frk ⟨zA _,fun q _ _ _ he=>?_⟩ fun q ho _=>?_
    ·rw [AS.get_put,if_neg];rintro rfl;rw [O17.get] at he;exact absurd he (by simp)
    ·rw [AS.get_put,if_neg];rintro rfl;have h1:=(st17.own ho).2.2.1;rw [O17.get] at h1;exact absurd (show (27:Nat)=22 from h1) (by decide)
   ·rw [AS.get_put,if_neg];rintro rfl;have h1:=(nm17.own ho).2.2;rw [O17.get] at h1;exact absurd (show (1:Nat)=3 from h1) (by decide)
   ·obtain ⟨cs,k1,k2⟩:=p2;have hne:∀q,(s17.get q).kind=2→(s17.put ob ⟨1,27,0,[v17],[]⟩).get q=s17.get q:=fun q hq=>by
     rw [AS.get_put,if_neg];rintro rfl;rw [O17.get] at hq;exact absurd (show (1:Nat)=2 from hq) (by decide)
    refine ⟨cs,k1.keep (zA _) fun q ho _=>hne q (k1.own ho).2.2.1,fun q x hq=>?_⟩;obtain ⟨v,g1,g2,g3⟩:=k2 q x hq;exact ⟨v,g1,g2.keep (zA _) fun q hq _=>hne q (g3 q hq).2.2.1,fun q hq=>⟨(g3 q hq).1,(g3 q hq).2.1,by rw [hne q (g3 q hq).2.2.1];exact (g3 q hq).2.2⟩⟩
  have E18:Ext σ (s17.put ob ⟨1,27,0,[v17],[]⟩):=Ext.put E17 (by rw [hnx];exact hob) _
  generalize s17.put ob ⟨1,27,0,[v17],[]⟩=σ18 at E18 X18;have w9:IntKind.i64.wrap ((i:Int)+1)=((i+1:Nat):Int):=by rw [Zas _ (by omega) (by omega)];omega
  refine Zap ⟨fun _=>?_,fun h=>absurd rfl h⟩;refine Zao ?_;repeat apply Zaa
  apply Zad;intro _;simp +decide only [zq,↓Zab,↓reduceIte,aOp,Zah,h11,U.addI,w9];rfl;refine Zap ⟨fun _=>⟨i+1,by omega,hlt,E18,⟨sv2,v17,?_,X18⟩,⟨cnt+(rowN.length:Int),?_,by omega,by omega⟩,?_,?_,?_,?_,?_,?_⟩,fun h=>(nomatch h),fun h=>absurd rfl h⟩<;>simp +decide only [zq,h1,h2,h4,h7,h8,h9]
 rintro j r σ12 ⟨hj,⟨e12,f12,⟨sv2,h7,st12⟩,nm12,⟨w,h12,al12,hw0⟩,h10,h11,h1,h2,h4,h8,h9⟩,h49,h50,h51⟩;have w6:IntKind.i64.wrap ((j:Int)+1)=((j+1:Nat):Int):=by rw [Zas _ (by omega) (by omega)];omega
 by_cases hlj:j<rowN.length
 rotate_left
 ·have d1:decide ((j:Int)<(rowN.length:Int))=false:=zI (by omega)
  have ht:rowN.take j=rowN:=zJ (by omega)
  rw [ht] at st12 nm12 al12 hw0;rw [←hw1] at st12 nm12;repeat apply Zaa
  apply Zad;intro _;simp +decide only [zq,↓Zab,↓reduceIte,aOp,Zah,h50,h51,U.lssI,d1];rfl;repeat apply Zaa
  refine ZaC (by simp +decide only [zq]) ?_
  refine ZaA ⟨fun h=>(nomatch h),fun _=>⟨e12,f12,⟨sv2,?_,st12⟩,nm12,⟨w,?_,al12,hw0⟩,?_,?_,?_,?_,?_,?_,?_⟩,fun h1 h2=>absurd rfl h2⟩<;>simp +decide only [zq,h1,h2,h4,h7,h8,h9,h10,h11,h12]
 have d1:decide ((j:Int)<(rowN.length:Int))=true:=zM (by omega)
 repeat apply Zaa
 apply Zad;intro _;simp +decide only [zq,↓Zab,↓reduceIte,aOp,Zah,h50,h51,U.lssI,d1];rfl;repeat apply Zaa
 refine ZaQ (by simp +decide only [zq]) ?_
 apply Zak;refine ZaM ?_;obtain ⟨a,ha⟩:∃a,rowN[j]?=some a:=⟨rowN[j],by simp [hlj]⟩
 have haL:a.2<LN.length:=hS.to _ (zF hrN) a (zF ha);have hks:=Znt (m:=kno LN i) ha;have hok:a.2≤(Can.knows (kno LN i) (rowN.take j)):=hord (rowN.take j) a (rowN.drop (j+1)) (by
  conv=>lhs;rw [←List.take_append_drop j rowN]
  rw [List.drop_eq_getElem_cons hlj,(zE.1 ha).2])
 have hkL:(Can.knows (kno LN i) (rowN.take j))≤LN.length:=ZoE hS.to hrN hkl j;generalize hK:(Can.knows (kno LN i) (rowN.take j))=k at st12 nm12 hks hok hkL;have hvs12:=f12.st hvs;obtain ⟨b0,c1,cs0,e0,hRs,hld⟩:=stAt hvs12 (Zjg ha);have hRs':=hRs;obtain ⟨nb,nc,mb,mc,rfl,⟨a1,a2,a3,a4,a5⟩,-⟩:=hRs;rw [hve] at e0;rw [hcl] at e0;cases e0;have ld:=hld _ (Ext.refl _);have ix:Zal Tryz.prog 41 (slc b0 rowN.length rowN.length) (.int .i64 (j:Int))=some (.pointer (some ⟨b0,j*3,none⟩)):=by
  have:=Zi8 (b:=b0) (cap:=rowN.length) hlj
  rwa [Nat.zero_add] at this
 repeat apply Zaa
 apply Zad;intro _;simp +decide only [zq,↓Zab,↓reduceIte,aOp,Zae,Zag,ZaE,unn,h49,h51,ix,ld,ZlY,Zk5];rfl;have ed:=Zcn σ12 77 [.int .i64 0,.slice none 0 0,.slice none 0 0] [.int .i64 (a.1:Int),slc nb 2 nc,slc mb 1 mc];have AY:=Zc9 σ12 77 [.int .i64 0,.slice none 0 0,.slice none 0 0] [.int .i64 (a.1:Int),slc nb 2 nc,slc mb 1 mc];generalize hab:σ12.next=ab at AY;generalize dcl σ12 77 [.int .i64 0,.slice none 0 0,.slice none 0 0] [.int .i64 (a.1:Int),slc nb 2 nc,slc mb 1 mc]=σ13 at ed AY;have hab0:σ11.next≤ab:=by rw [←hab];exact f12.nxt
 have hlo11:xb≤lo:=zB hxb hlo;have hSt:RState xb σ13 [slc nb 2 nc] a.2:=⟨nb,nc,rfl,zB hlo11 a1,ed.lt a2,by rw [ed.get nb a2];exact a3,by rw [ed.get nb a2];exact a4,by rw [ZbL (a:=⟨nb,0,none⟩) (ed.get nb a2)];exact a5⟩
 obtain ⟨r1,r2,r3,s0,s1,s2,s3,s4⟩:=id hSt;cases r3;have ld2:=Zaw (P:=Tryz.prog) (t:=22) Tryz.underlying22 rfl (AY.cell (i:=1) rfl);have ht6:U.D6 (a.2:Int):=⟨by omega,by omega⟩
 have hkt:U.encN (a.2:Int)=U.keyN a.2:=rfl;repeat apply Zaa
 apply ZaF;apply Zay 3;intro _;simp +decide only [zq,List.take,↓Zab,↓reduceIte,aOp,Zac,Zag,h8,ZfH,ld2];rfl;dsimp only [List.drop];refine ZaV (vs:=[slc nb 2 nc]) (by simp +decide only [zq,aevs]) (by decide) (C.mono (U.ZrA (t:=a.2) (by omega) s1 s2 s3 s4) ?_)
 rintro u s ⟨rfl,e14⟩;have A14:=AY.ext e14;have hSt14:=hSt.frk (FrK.of_ext e14);have e14:=ed.trans e14;have nm14:=nm12.keep e14.nxt fun q _ hq=>e14.get q hq;have hlk:=nm14.look U.Zrx Tryz.underlying73 Zq4 rfl ht6 true;rw [hkt,Zop] at hlk;obtain ⟨kb,kx,hkb,hlk2⟩:∃(kb:Bool) (kx:Int),(kb=true↔a.2<k)∧(kb=true→kx=(a.2:Int))∧ZbX Tryz.prog s 73 (.map (some nr)) (U.keyN a.2) true=some (.tuple #[.int .i64 kx,.bool kb]):=by
  by_cases h:a.2<k
  ·rw [if_pos h] at hlk;exact ⟨true,a.2,⟨fun _=>h,fun _=>rfl⟩,fun _=>rfl,hlk⟩
  ·rw [if_neg h] at hlk;exact ⟨false,0,⟨fun h2=>(nomatch h2),fun h2=>absurd h2 h⟩,fun h2=>(nomatch h2),hlk⟩
 obtain ⟨hkx,hlk2⟩:=hlk2;apply ZaG;intro _;simp +decide only [zq,↓Zab,↓reduceIte,aOp,Zbb,Zba,hlk2];rfl;have E14:=e12.trans e14;have f14:=f12.ext e14;have st14:=st12.ext e14;have al14:=al12.ext e14;generalize s=σ14 at e14 E14 f14 st14 al14 nm14 A14 hSt14;clear hSt s0 s1 s2 s3 s4 hlk hlk2 ld2 ld hld hvs12;obtain ⟨sa2,sc2,hsv2'⟩:=st14.len;rw [List.length_range] at hsv2';repeat apply Zaa
 apply Zad;intro _;simp +decide only [zq,↓Zab,↓reduceIte,aOp,opUn,flat,ZcO,not_b];rfl;repeat apply Zaa
 refine Zk1 (b:=!kb) (fun r s=>(Ext σ s∧FI σ11 s∧(∃sv,rget r 7=sv∧LS xb s sv (List.range (Can.knows (kno LN i) (rowN.take (j+1)))))∧MapG U.encN U.D6 xb s (.map (some nr)) (nuf (List.range (Can.knows (kno LN i) (rowN.take (j+1)))))∧(∃w,rget r 12=w∧U.AL σ11.next s w (rowN.take j)∧(rowN.take j=[]→w=.slice none 0 0))∧rget r 10=.int .i64 cnt∧rget r 11=.int .i64 (i:Int)∧rget r 1=.int .i64 16384∧rget r 2=.pointer (some ⟨xb,0,none⟩)∧rget r 4=.pointer (some ⟨rx,0,none⟩)∧rget r 8=.map (some nr)∧rget r 9=.pointer (some ⟨ob,0,none⟩))∧rget r 49=.slice (some ⟨b0,0,none⟩) rowN.length rowN.length∧rget r 50=.int .i64 (rowN.length:Int)∧rget r 51=.int .i64 (j:Int)∧rget r 14=.pointer (some ⟨ab,0,none⟩)∧rget r 15=.int .i64 (a.2:Int)∧BxAt s 77 ab [.int .i64 (a.1:Int),slc nb 2 nc,slc mb 1 mc]) ?_ (fun hb=>?_) (fun hb=>?_) ?_
 ·simp +decide only [zq]
 ·have hkf:kb=false:=by cases kb with|true=>cases hb|false=>rfl
  have hak:a.2=k:=by
   have:¬a.2<k:=fun h=>by rw [hkb.2 h] at hkf;cases hkf
   omega
  have hkn:(Can.knows (kno LN i) (rowN.take (j+1)))=k+1:=by rw [hks];omega
  rw [hkn];subst hkf;have dk:((k:Int) == 16384)=false:=by rw [beq_eq_false_iff_ne];omega
  refine Zao ?_;repeat apply Zaa
  apply Zad;intro _;simp +decide only [zq,↓Zab,↓reduceIte,aOp,Zah,Zan,aevs,Zaf,Bool.not_false,h1,h7,hsv2',Tryz.underlying37,goInt,aLen,U.eqII,dk];rfl;repeat apply Zaa
  refine ZaC (by simp +decide only [zq]) ?_
  apply Zak;repeat apply Zaa
  apply Zad;intro _;simp +decide only [zq,↓Zab,↓reduceIte,aOp,Zan,aevs,Zaf,h7,hsv2',Tryz.underlying37,goInt,aLen];rfl;obtain ⟨r1,r2,r3,s0,s1,s2,s3,s4⟩:=id hSt14;cases r3;have ld2:=Zaw (P:=Tryz.prog) (t:=22) Tryz.underlying22 rfl (A14.cell (i:=1) rfl);repeat apply Zaa
  apply ZaF;apply Zay 3;intro _;simp +decide only [zq,List.take,↓Zab,↓reduceIte,aOp,Zac,Zag,h8,ZfH,ld2];rfl;dsimp only [List.drop];refine ZaV (vs:=[slc nb 2 nc]) (by simp +decide only [zq,aevs]) (by decide) (C.mono (U.ZrA (t:=a.2) (by omega) s1 s2 s3 s4) ?_)
  rintro u s ⟨rfl,e15⟩;have nm15:=nm14.keep e15.nxt fun q _ hq=>e15.get q hq;obtain ⟨nr',NB2,enr,hNB3,hup,nm16⟩:=nm15.upd U.Zrx Tryz.underlying73 ht6 (.int .i64 (k:Int));cases enr;rw [hkt] at hup;rw [hak,Zmz] at nm16;have nk3:=(nm15.own (i:=nr) rfl).2.2;apply ZaG;intro _;simp +decide only [zq,↓Zab,↓reduceIte,aOp,unn,ZbG,hup];rfl;have f16:=(f14.ext e15).put nk3 NB2;have E16:Ext σ (s.put nr NB2):=Ext.put (E14.trans e15) (by rw [hnx];exact (nm15.own rfl).1) NB2
  have st16:=(st14.ext e15).put nk3 NB2;have al16:U.AL σ11.next (s.put nr NB2) w (rowN.take j):=(al14.ext e15).keep (zA _) fun q ho _=>by
   rw [AS.get_put,if_neg];rintro rfl;have:=((al14.ext e15).own ho).2.2.1;rw [nk3] at this;cases this
  have A16:BxAt (s.put nr NB2) 77 ab [.int .i64 (a.1:Int),slc nb 2 nc,slc mb 1 mc]:=⟨(A14.ext e15).lt,by
   rw [AS.get_put,if_neg,(A14.ext e15).get];rintro rfl;rw [(A14.ext e15).get] at nk3;cases nk3⟩
  have hSt16:RState xb (s.put nr NB2) [slc nb 2 nc] a.2:=(hSt14.frk (FrK.of_ext e15)).frk ⟨zA _,fun q _ _ hk3 _=>by rw [AS.get_put,if_neg];rintro rfl;exact hk3 nk3⟩
  generalize s.put nr NB2=σ16 at f16 E16 st16 al16 A16 hSt16 nm16;have ld16:=Zaw (P:=Tryz.prog) (t:=22) Tryz.underlying22 rfl (A16.cell (i:=1) rfl);have e17:=Ext.new σ16 ⟨1,22,0,[slc nb 2 nc],[]⟩;have hSt17:=hSt16.frk (FrK.of_ext e17);have st17:=st16.ext e17;obtain ⟨v18,s18,p1,st18,p3,p4,p5⟩:=st17.push (by rw [←hnx];exact (E16.trans e17).nxt) (x:=a.2) (y:=slc σ16.next 1 1) (ZbV (Zaq (BxAt.new σ16 22 [slc nb 2 nc]).get rfl (zA _))) hSt17 (by rw [List.length_range];omega)
  have hown:∀q,Own sv2 q→xb≤q∧((σ16.new ⟨1,22,0,[slc nb 2 nc],[]⟩).get q).elem=22∧((σ16.new ⟨1,22,0,[slc nb 2 nc],[]⟩).get q).kind≠3:=fun q ho=>by have:=st17.own ho;exact ⟨this.1,this.2.2.1,this.2.2.2⟩
  have f18:FI σ11 s18:=(f16.ext e17).push p3 p4 fun q ho=>.inr (hown q ho).2.1;have E18:Ext σ s18:=Zbt (E16.trans e17) p3 p4 (by rw [hnx];exact p5) fun q ho=>by rw [hnx];exact (hown q ho).1
  have al18:U.AL σ11.next s18 w (rowN.take j):=(al16.ext e17).keep p3 fun q ho hq=>p4 q hq fun h=>by
   have h1:=((al16.ext e17).own ho).2.2.2;rw [(hown q h).2.1] at h1;exact absurd h1 (by decide)
  have nm18:=(nm16.keep e17.nxt fun q _ hq=>e17.get q hq).keep p3 fun q ho hq=>p4 q hq fun h=>(hown q h).2.2 ((nm16.keep e17.nxt fun q _ hq=>e17.get q hq).own ho).2.2;have A18:BxAt s18 77 ab [.int .i64 (a.1:Int),slc nb 2 nc,slc mb 1 mc]:=⟨zC (A16.ext e17).lt p3,(p4 ab (A16.ext e17).lt fun h=>by
   have h1:=(hown ab h).2.1;rw [(A16.ext e17).get] at h1;exact absurd (show (77:Nat)=22 from h1) (by decide)).trans (A16.ext e17).get⟩
  rw [hak,←List.range_succ] at st18;repeat apply Zaa
  apply Zad;intro _;simp +decide only [zq,↓Zab,↓reduceIte,aOp,Zan,Zac,Zag,Zar,aevs,ZaN,Zaf,h7,ZfH,ld16,Zpf,p1];rfl;refine Zap ⟨rfl,⟨E18,f18,⟨v18,?_,st18⟩,nm18,⟨w,?_,al18,hw0⟩,?_,?_,?_,?_,?_,?_,?_⟩,?_,?_,?_,?_,?_,A18⟩<;>simp +decide only [zq,h1,h2,h4,h8,h9,h10,h11,h12,h49,h50,h51,hak]
 ·have hkf:kb=true:=by cases kb with|true=>rfl|false=>cases hb
  have hak:=hkb.1 hkf;have hkn:(Can.knows (kno LN i) (rowN.take (j+1)))=k:=by rw [hks];omega
  rw [hkn];subst hkf;refine Zap ⟨rfl,⟨E14,f14,⟨sv2,?_,st14⟩,nm14,⟨w,?_,al14,hw0⟩,?_,?_,?_,?_,?_,?_,?_⟩,?_,?_,?_,?_,?_,A14⟩<;>simp +decide only [zq,h1,h2,h4,h7,h8,h9,h10,h11,h12,h49,h50,h51,hkx rfl]
 clear h1 h2 h4 h7 h8 h9 h10 h11 h12 h49 h50 h51 A14 E14 f14 st14 al14 nm14 hSt14 e14 ed AY;rintro r σ15 ⟨⟨E15,f15,⟨sv3,h7,st15⟩,nm15,⟨w',h12,al15,hw0'⟩,h10,h11,h1,h2,h4,h8,h9⟩,h49,h50,h51,h14,h15,A15⟩;have htk:rowN.take (j+1)=rowN.take j++[a]:=by rw [zT,ha];rfl
 have le15:Zat Tryz.prog σ15 3 (.pointer (some ⟨ab,0,none⟩))=some (.int .i64 (a.1:Int)):=Zaw Tryz.underlying3 rfl (A15.cell (i:=0) rfl);have sl:∀s:AS,Zaz Tryz.prog s 44 1 [(0,vArc ((a.1:Int),(a.2:Int)))]=some (.slice (some ⟨s.next,0,none⟩) 1 1,s.new ⟨1,57,0,[.int .i64 (a.1:Int),.int .i64 (a.2:Int)],[]⟩):=fun s=>Zhe;have e16:=Ext.new σ15 ⟨1,57,0,[.int .i64 (a.1:Int),.int .i64 (a.2:Int)],[]⟩;have al16:=al15.ext e16;obtain ⟨v17,s17,p1,p2,p3,p4,p5,p6⟩:=U.Stk.push1 (P:=Tryz.prog) U.elA al16 (zB f15.nxt e16.nxt) (BxAt.new σ15 57 [.int .i64 (a.1:Int),.int .i64 (a.2:Int)]).get rfl rfl (by rw [zX];omega)
 have hown:∀q,Own w' q→σ11.next≤q∧((σ15.new ⟨1,57,0,[.int .i64 (a.1:Int),.int .i64 (a.2:Int)],[]⟩).get q).elem=57∧((σ15.new ⟨1,57,0,[.int .i64 (a.1:Int),.int .i64 (a.2:Int)],[]⟩).get q).kind=2:=fun q ho=>by have:=al16.own ho;exact ⟨this.1,this.2.2.2,this.2.2.1⟩
 have f17:FI σ11 s17:=(f15.ext e16).push p3 p4 fun q ho=>.inl (hown q ho).1;have E17:Ext σ s17:=Zbt (E15.trans e16) p3 p4 (fun q h1 h2=>p5 q (zB h1 E11.nxt) h2) fun q ho=>zB E11.nxt (hown q ho).1;have st17:=(st15.ext e16).arcs p3 p4 fun q ho=>.inl (hown q ho).2.1;have nm17:=(nm15.keep e16.nxt fun q _ hq=>e16.get q hq).keep p3 fun q ho hq=>p4 q hq fun h=>by
  have h1:=((nm15.keep e16.nxt fun q _ hq=>e16.get q hq).own ho).2.2;rw [(hown q h).2.2] at h1;cases h1
 have al17:U.AL σ11.next s17 v17 (rowN.take (j+1)):=by
  unfold U.AL;rw [htk,U.ZkC,zS];exact p2
 refine Zao ?_;repeat apply Zaa
 apply Zad;intro _;simp +decide only [zq,↓Zab,↓reduceIte,aOp,Zan,Zac,Zag,Zar,Zbl,aevs,ZaN,Zaf,h12,h14,h15,ZgB,le15,ZhR,sl,p1];rfl;refine Zap ⟨fun _=>?_,fun h=>absurd rfl h⟩;refine Zao ?_;repeat apply Zaa
 apply Zad;intro _;simp +decide only [zq,↓Zab,↓reduceIte,aOp,Zah,h51,U.addI,w6];rfl;refine Zap ⟨fun _=>⟨j+1,by omega,hlj,⟨E17,f17,⟨sv3,?_,st17⟩,nm17,⟨v17,?_,al17,fun h=>by rw [htk] at h;simp at h⟩,?_,?_,?_,?_,?_,?_,?_⟩,?_,?_,?_⟩,fun h=>(nomatch h),fun h=>absurd rfl h⟩<;>simp +decide only [zq,h1,h2,h4,h7,h8,h9,h10,h11,h49,h50]
end Go.Proofs.YteangeffgjolpaaGreatDoor.Nest
