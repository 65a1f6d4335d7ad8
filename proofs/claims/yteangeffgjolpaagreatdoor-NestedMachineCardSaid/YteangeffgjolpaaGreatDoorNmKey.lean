/- nested.FindMachine. -/
import Derived.Test.YteangeffgjolpaaGreatDoorNmXp
import Derived.Test.YteangeffgjolpaaGreatDoorNmR
import Derived.Test.YteangeffgjolpaaGreatDoorNmCc
import Derived.Test.YteangeffgjolpaaGreatDoorNmK
import Derived.Test.YteangeffgjolpaaGreatDoorNmUF
import Derived.Carry
import Derived.SizedLaws
import Derived.ChangeArms
import Derived.Test.YteangeffgjolpaaGreatDoorProg
import Derived.Lib.Builder
import Derived.Lib.UnsafeStr
import Derived.Lib.Walk
import Derived.Laws.Externs
import Derived.WalkKit
set_option linter.unusedSimpArgs false
set_option linter.unusedVariables false
set_option maxRecDepth 100000
set_option maxHeartbeats 64000000
namespace Go.Proofs.YteangeffgjolpaaGreatDoor.Nest
open Abs
def ER2 (L:Lts) (σm σ0:AS) (d:MD) (eb nm sm:Nat) (dl:D2) (σ:AS):Prop:=∃sv f,ERep L σm σ0 d eb nm sm dl.1 σ sv f∧∀k∈dl.2,f ((k:Nat):Int)≠none
def Kw2 (L:Lts) (dl:D2) (s:Nat):Prop:=DOk L dl.1∧s<dl.1.length
theorem Zqd {L:Lts} {E:List Int} (O:LOk L E):Ask L.length (ask2 L) (Kw2 L):=by
 have A:=ZrO O.hw O.tau fun row hr=>zB (O.hl row hr) (by omega)
 exact ⟨fun h=>A.to h,fun h k=>A.up h k,fun h=>A.tau h,fun h=>A.len h⟩
theorem Zqc {L:Lts} {E:List Int} {σm σ0:AS} {d:MD} {eb nm sm:Nat} (O:LOk L E) (hM:Mach σm d L E):Prov [eb,nm,sm] σ0 L.length 34 #[.pointer (some ⟨eb,0,none⟩)] #[] (ask2 L) (Kw2 L) (ER2 L σm σ0 d eb nm sm) where
 mono:=fun ⟨sv,f,h,hf⟩ k=>⟨sv,f,h.fr k,hf⟩
 call:=by
  rintro dl σ s ⟨sv,f,h,hf⟩ ⟨-,hs⟩ - -;have e:(#[Value.pointer (some ⟨eb,0,none⟩)]:Array Value).toList++[.int .i64 (s:Int)]++(#[]:Array Value).toList=[.pointer (some ⟨eb,0,none⟩),.int .i64 (s:Int)]:=rfl;rw [e];refine (Znw O hM h hs).mono fun v σ' ⟨⟨sv',f',h1,h2,h3⟩,h4,h5⟩=>⟨⟨sv',f',h1,fun k hk=>?_⟩,h4,h5⟩;rcases List.mem_cons.1 hk with rfl|hk
  ·exact h3
  ·exact h2 _ (hf k hk)
theorem bldEx {d:MD} {a b:Nat}:Zdb Tryz.prog 88 [(0,d.val),(1,.map (some a)),(3,.map (some b))]=some (.agg #[slc d.bc 1 d.cc,slc d.bf 1 d.cf,.map (some a),.slice none 0 0,.map (some b)]):=by kernel_rfl
def AccC (σ:AS) (d:MD):Prop:=∀s,Ext σ s→C Tryz.prog Kn 0 32 [d.val] s fun v s'=>v=.bool true∧Ext s s'
theorem Zrp {σ:AS} {d:MD} {L:Lts} {E:List Int} (h:Mach σ d L E):Mach (lw σ) d L E:=⟨h.c1,h.c2,h.f1,h.f2,h.a1,h.a2,h.rows,h.rules⟩
theorem ZrN {σ:AS} {d:MD} {L:Lts} {E:List Int} {M:Nat} (O:LOk L E) (hpos:0<L.length) (hM:Mach σ d L E) (hacc:AccC σ d) (hM1:1≤M) (hML:L.length≤M) :
  C Tryz.prog Kn 0 10 [d.val,.int .i64 (M:Int)] σ fun v σ'=>(∃pv qv lo lo1 lo2,v=.tuple #[pv,qv,.bool (outY L).found,.int .i64 0]∧LV 77 3 (RSt lo) lo1 σ' pv (ZgO L)∧LV 77 3 (RSt lo) lo2 σ' qv (loopF L)∧σ.next≤lo∧σ.next≤lo1∧σ.next≤lo2)∧Ext σ σ':=by
 refine C_of (kn (by decide)) Tryz.func10 rfl (zD rfl) ?_
 show W _ _ _ 48 _ _ _ _;unfold Tryz.f10;dsimp only;repeat apply Zaa
 apply Zad;intro _;simp +decide only [zq,ZaI,↓Zab,↓reduceIte,aOp,Zbm,aRow];rfl;have e1:Ext σ (σ.new ⟨1,35,0,d.val.cells.toList,[]⟩):=Ext.new σ _;have B1:BxAt (σ.new ⟨1,35,0,d.val.cells.toList,[]⟩) 35 σ.next d.cells:=BxAt.new σ _ _;generalize hnx:σ.next=mb at B1;generalize σ.new ⟨1,35,0,d.val.cells.toList,[]⟩=σ1 at e1 B1;have dM:decide ((M:Int)<1)=false:=zI (by omega)
 repeat apply Zaa
 apply ZaF;apply Zay 1;intro _;simp +decide only [zq,List.take,↓Zab,↓reduceIte,aOp,Zag,Mach.ldM B1];rfl;dsimp only [List.drop];refine ZaV (vs:=[d.val]) (by simp +decide only [zq,aevs]) (by decide) (C.mono (hacc σ1 e1) ?_)
 rintro u s ⟨rfl,e2⟩;apply ZaG;intro _;simp +decide only [zq,↓Zab,↓reduceIte,aOp,Zah,opUn,ZaH,U.lssI,dM];rfl;have B2:=B1.ext e2;have e2:=e1.trans e2;generalize s=σ2 at B2 e2;repeat apply Zaa
 refine ZaC (by simp +decide only [zq,Bool.not_true]) ?_
 apply Zak;repeat apply Zaa
 apply Zad;intro _;simp +decide only [zq,↓Zab,↓reduceIte,aOp,Zbm,Zag,Zbl,aRow,ZaN,Bool.not_true,Mach.ldM B2,bldEx];rfl;have ge:Ext σ2 (((σ2.new ⟨3,0,0,[],[]⟩).new ⟨3,0,0,[],[]⟩).new (d.ex σ2.next (σ2.next+1) (.slice none 0 0))):=((Ext.new _ _).trans (Ext.new _ _)).trans (Ext.new _ _);have g0:(((σ2.new ⟨3,0,0,[],[]⟩).new ⟨3,0,0,[],[]⟩).new (d.ex σ2.next (σ2.next+1) (.slice none 0 0))).get σ2.next=⟨3,0,0,[],[]⟩:=by
  rw [AS.get_new,if_neg (by show σ2.next+1+1≠_;omega),AS.get_new,if_neg (by show σ2.next+1≠_;omega),AS.get_new,if_pos rfl]
 have g1:(((σ2.new ⟨3,0,0,[],[]⟩).new ⟨3,0,0,[],[]⟩).new (d.ex σ2.next (σ2.next+1) (.slice none 0 0))).get (σ2.next+1)=⟨3,0,0,[],[]⟩:=by
  rw [AS.get_new,if_neg (by show σ2.next+1+1≠_;omega),AS.get_new,if_pos (by rfl)]
 have g2:(((σ2.new ⟨3,0,0,[],[]⟩).new ⟨3,0,0,[],[]⟩).new (d.ex σ2.next (σ2.next+1) (.slice none 0 0))).get (σ2.next+1+1)=d.ex σ2.next (σ2.next+1) (.slice none 0 0):=by
  rw [AS.get_new,if_pos (by rfl)]
 have gn:(((σ2.new ⟨3,0,0,[],[]⟩).new ⟨3,0,0,[],[]⟩).new (d.ex σ2.next (σ2.next+1) (.slice none 0 0))).next=σ2.next+3:=rfl;have e3:=e2.trans ge;show W Tryz.prog Kn 0 48 _ (rput (rput _ 22 (.pointer (some ⟨σ2.next+1+1,0,none⟩))) 8 (.pointer (some ⟨σ2.next+1+1,0,none⟩))) (((σ2.new ⟨3,0,0,[],[]⟩).new ⟨3,0,0,[],[]⟩).new (d.ex σ2.next (σ2.next+1) (.slice none 0 0))) _;have B3:=B2.ext ge;have hmn:=e2.nxt;generalize ((σ2.new ⟨3,0,0,[],[]⟩).new ⟨3,0,0,[],[]⟩).new (d.ex σ2.next (σ2.next+1) (.slice none 0 0))=σ3 at g0 g1 g2 gn e3 B3;generalize heb:σ2.next+1+1=eb at g2;generalize hsm:σ2.next+1=sm at g1 g2;generalize hnm:σ2.next=nm at g0 g1 g2 gn hmn hsm;have hR3:ERep L (lw σ) σ3 d eb nm sm [] σ3 (.slice none 0 0) (fun _=>none):=
  ⟨⟨List.nodup_nil,fun _ h=>(nomatch h)⟩,ZqR e3.nxt e3.get,rfl,by omega,by show σ.next≤_∧σ.next≤_∧σ.next≤_;omega,zA _,g2,LV.nil,
   ⟨nm,[],rfl,zH _,by omega,by rw [g0],by rw [g0];rfl,List.nodup_nil,⟨fun k=>(show (none:Option Value)=nuf [] k from by unfold nuf;rw [if_neg];rintro ⟨-,h⟩;cases h),fun _ h=>(nomatch h)⟩⟩,MapAt.empty (zH _) (by omega) g1,fun _ _ h=>(nomatch h)⟩
 repeat apply Zaa
 apply ZaF;apply Zay 3;intro _;simp +decide only [zq,List.take,↓Zab,↓reduceIte,aOp,aevs,Zd4];rfl;dsimp only [List.drop];refine ZaV (vs:=[(.func (.func 34) #[.pointer (some ⟨eb,0,none⟩)] #[]),.int .i64 (M:Int)]) (by simp +decide only [zq,aevs]) (by decide) (C.mono (Zhp (σ:=σ3) (N:=L.length) (M:=M) (fid:=34) (fs:=#[.pointer (some ⟨eb,0,none⟩)]) (cs:=#[])) ?_)
 rintro v s ⟨xb,fp,rfl,R4,hnil⟩;apply ZaG;intro _;simp +decide only [zq,↓Zab,↓reduceIte,aOp];rfl;generalize s=σ4 at R4;have x4:=Zdx R4.c.ext;have hR4:=hR3.ext x4;have B4:=B3.ext x4;have lM:Zat Tryz.prog σ4 35 (.pointer (some ⟨mb,0,none⟩))=some d.val:=Mach.ldM B4;repeat apply Zaa
 apply ZaF;apply Zay 3;intro _;simp +decide only [zq,List.take,↓Zab,↓reduceIte,aOp,Zag,lM];rfl;dsimp only [List.drop];refine ZaV (vs:=[d.val]) (by simp +decide only [zq,aevs]) (by decide) (C.mono (Zme) ?_)
 rintro v s ⟨⟨b5,rfl,hb5,hg5,hl5⟩,x5⟩;have R5:=(R4.widen (Y:=[eb,nm,sm]) (by simp)).ext x5
 have hR5:=hR4.ext x5;have hs5:RState σ3.next s [slc b5 2 2] 0:=⟨b5,2,rfl,zB x4.nxt hb5,hl5,.inl (by rw [hg5]),by rw [hg5],Zaq hg5 rfl (zA _)⟩
 generalize s=σ5 at R5 hR5 hs5 hg5 hl5 x5;refine ZaV (vs:=[.pointer (some ⟨eb,0,none⟩),slc b5 2 2]) (by simp +decide only [zq,aevs]) (by decide) (C.mono (Zmx hR5 hpos (by omega) O.hN hs5) ?_)
 rintro v s ⟨rfl,⟨sv6,hR6⟩,p6⟩;have hmi:Zdo ([]:List Nat) 0=[0]:=rfl;rw [hmi] at hR6 ⊢;have hn0:numI [0] 0=0:=by decide
 rw [hn0];have R6:=R5.prov (p6.sub (Y:=[eb,nm,sm]) (by simp))
 generalize s=σ6 at R6 hR6 p6;have hMl:=Zrp hM;have hrl:=Zoa L [0];have hD0:DOk L [0]:=⟨by simp,fun t ht=>by rw [List.mem_singleton.1 ht];exact hpos⟩
 have CC:=out_c (Zqc (σ0:=σ3) (eb:=eb) (nm:=nm) (sm:=sm) O hMl) (Zqd O) (zB O.hN (by omega)) hML L.length (σ:=σ6) (dl:=([0],[])) (x:=Zcu L.length) (s:=0) (xb:=xb) ⟨fp,R6,hnil,sv6,_,hR6,fun _ h=>(nomatch h)⟩ ⟨hD0,by simp⟩ hpos rfl rfl (by simp [Zcu];exact zB (Zm0 _) (by simp)) (by simp [Zcu,hpos]) (by have:=O.hN;show 0+L.length≤900;omega)
 have hpr:=(Zj2 (L:=L) L.length L.length (([0],[]),Zcu L.length) ([0],Zcu L.length) 0 ⟨rfl,rfl,fun _ h=>(nomatch h)⟩).1;have hsim:=(Zhf O.hw L.length [0] (Zcu L.length) (Zcu L.length) 0 0 hrl hD0 rfl).1;generalize mouter (askD L) L.length L.length ([0],Zcu L.length) 0=y at hpr hsim;have hsim:Rl L y.1 y.2 (outY L):=hsim;generalize mouter (ask2 L) L.length L.length (([0],[]),Zcu L.length) 0=z at CC hpr;obtain ⟨zd,zx,zed⟩:=hpr;rw [←zd,←zx] at hsim;rw [←zx] at zed;refine ZaV (vs:=[.pointer (some ⟨xb,0,none⟩),.int .i64 0]) (by simp +decide only [zq,aevs]) (by decide) (C.mono (CC) ?_)
 rintro v s ⟨rfl,-,hno,hyes⟩;apply ZaG;intro _;simp +decide only [zq,↓Zab,↓reduceIte,aOp];rfl;generalize s=σ7 at hno hyes;have key:∃d' z' c sv f D,PMid [eb,nm,sm] σ3 σ7 σ7 xb L.length M (.func (.func 34) #[.pointer (some ⟨eb,0,none⟩)] #[]) c z' d' d'∧c≤M∧ERep L (lw σ) σ3 d eb nm sm D σ7 sv f∧z'.stem.map (arcD L D)=ZgO L∧z'.loop.map (arcD L D)=loopF L∧(∀e∈z'.stem++z'.loop,EdOk L D e∧f e.1≠none)∧z'.stem.length≤2000∧z'.loop.length≤2000∧z.2.found=(outY L).found:=by
  cases hyf:z.2.found with
  | false=>
   obtain ⟨d4,R7,-,sv,f,hR7,-⟩:=hno hyf;obtain ⟨h1,h2,h3⟩:=ZjZ hsim hyf;exact ⟨d4,_,_,sv,f,_,R7,zB (ZlL _ _) (zB (Nat.le_of_eq R7.c.ol) hML),hR7,by rw [h2];rfl,by rw [h3];rfl,fun e he=>(nomatch he),zH _,zH _,h1.symm⟩
  | true=>
   obtain ⟨d4,z',c,R7,h1,h2,hc,sv,f,hR7,hf⟩:=hyes hyf;obtain ⟨h3,h4,h5,h6,h7,h8⟩:=ZmR hsim (zB O.hN (by omega)) hyf
   refine ⟨d4,z',c,sv,f,_,R7,zB hc hML,hR7,by rw [h1];exact h4,by rw [h2];exact h5,fun e he=>?_,by rw [h1];exact h7,by rw [h2];exact h8,h3.symm⟩
   rw [h1,h2] at he;have h9:=h6 e he;have h10:=hf _ (zed e (edg_mem.2 (.inr (zR.1 he))));rw [Int.toNat_of_nonneg h9.p1] at h10;exact ⟨h9,h10⟩
 obtain ⟨fp,z',c,sv,f,D,R7,hcM,hR7,hz1,hz2,hz3,hl1,hl2,hfd⟩:=key;rw [hfd];clear hno hyes CC R4 R5 R6 hR4 hR5 hR6;repeat apply Zaa
 apply ZaF;apply Zay 1;intro _;simp +decide only [zq,List.take,↓Zab,↓reduceIte,aOp];rfl;dsimp only [List.drop];refine ZaV (vs:=[.pointer (some ⟨xb,0,none⟩)]) (by simp +decide only [zq,aevs]) (by decide) (C.mono (ZoP R7 hcM) ?_)
 rintro v s ⟨rfl,x8⟩;apply ZaG;intro _;simp +decide only [aOps];rfl;have R8:=R7.ext x8;have hR8:=hR7.ext x8;generalize s=σ8 at R8 hR8 x8;repeat apply Zaa
 refine ZaC (by simp +decide only [zq]) ?_
 apply Zak;have RQ:=R8.ext (Ext.reset σ8);repeat apply Zaa
 refine Za8 [10] [xb] (by kernel_rfl) (by kernel_rfl) ?_
 apply Zau 5;intro _;simp +decide only [zq,zr,List.take,aQ,↓Zab,↓reduceIte,aOp,Zac,Zag,Zbo,Zlw,RQ.ld8];rfl;dsimp only [List.drop,List.take,List.length];have e9:Ext σ8 (σ8.merge σ8.reset):=(Ext.refl _).merge;generalize σ8.merge σ8.reset=σ9 at e9;have R9:=R8.ext e9;have R9Q:=R9.ext (Ext.reset σ9);have hR9:=hR8.ext e9;refine Zbx (vs:=[.pointer (some ⟨eb,0,none⟩),fp.sv]) (by simp +decide only [zq,aevs]) (by decide) rfl (C.mono (ZqH (hR9.ext (Ext.reset σ9)) R9Q.c.stem (by omega) (fun e he=>hz3 e (zR.2 (.inl he)))) ?_)
 rintro v s1 ⟨RS1,eC⟩;refine ⟨eC.quiet,?_⟩;have e10:=eC.merge;have RS1:LV 77 3 (RSt σ3.next) σ9.next (σ9.merge s1) v (z'.stem.map (arcD L D)):=RS1;generalize σ9.merge s1=σ10 at e10 RS1;have R10:=R9.ext e10;have hR10:=hR9.ext e10;apply Zau 4;intro _;simp +decide only [zq,zr,List.take,aQ,↓Zab,↓reduceIte,aOp,Zac,Zbo,Zlv];rfl;dsimp only [List.drop,List.take,List.length];have e11:Ext σ10 (σ10.merge σ10.reset):=(Ext.refl _).merge;generalize σ10.merge σ10.reset=σ11 at e11;have R11:=R10.ext e11;have hR11:=hR10.ext e11;refine ZaZ (b:=xb) (off:=9) (v:=fp.lv) (by simp +decide only [zq]) (R11.ext (Ext.reset σ11)).ld9 (Stk.svE R11.c.loop (zA _)) R11.c.lt (by simp [memb]) (by decide) ?_
 have e12:Ext σ11 (σ11.merge σ11.reset):=(Ext.refl _).merge;generalize σ11.merge σ11.reset=σ12 at e12;have R12:=R11.ext e12;have R12Q:=R12.ext (Ext.reset σ12);have hR12:=hR11.ext e12;refine Zbx (vs:=[.pointer (some ⟨eb,0,none⟩),fp.lv]) (by simp +decide only [zq,aevs]) (by decide) rfl (C.mono (ZqH (hR12.ext (Ext.reset σ12)) R12Q.c.loop (by omega) (fun e he=>hz3 e (zR.2 (.inr he)))) ?_)
 rintro v2 s1 ⟨RS2,eC⟩;refine ⟨eC.quiet,?_⟩;have e13:=eC.merge;have RS2:LV 77 3 (RSt σ3.next) σ12.next (σ12.merge s1) v2 (z'.loop.map (arcD L D)):=RS2;generalize σ12.merge s1=σ13 at e13 RS2;have R13:=R12.ext e13;apply ZaO;intro _;simp +decide only [zq,zr,aQ,↓Zab,↓reduceIte,aOp];rfl;have e14:Ext σ13 (σ13.merge σ13.reset):=(Ext.refl _).merge;generalize σ13.merge σ13.reset=σ14 at e14;rw [hz1] at RS1;rw [hz2] at RS2;have R14:=R13.ext e14;have hfin:Ext σ σ14:=⟨zB e3.nxt R14.c.ext.nxt,fun i hi=>(R14.c.ext.get i (zC hi e3.nxt) (by simp;omega)).trans (e3.get i hi),fun m h1 h2=>R14.c.ext.low m (e3.low m h1 h2) (zB h2 e3.nxt) (by intro x hx;simp at hx;omega)⟩
 refine ZaL ⟨zA _,[v,v2,.bool (outY L).found,.int .i64 0],?_,⟨v,v2,σ3.next,_,_,rfl,RS1.ext RSt.kept (((e11.trans e12).trans e13).trans e14),RS2.ext RSt.kept e14,by rw [←hnx];exact e3.nxt,by rw [←hnx];exact zB e3.nxt R9.c.ext.nxt,by rw [←hnx];exact zB e3.nxt R12.c.ext.nxt⟩,hfin⟩
 simp +decide only [zq,Zaj]
open Abs
theorem Zcy {L:Lts}:∀{k e:Nat} {p q:List Arc},Za6 L k p=(e,true)→Za6 L k (p++q)=Za6 L e q
 | k,e,[],q,h=>by cases h;rfl
 | k,e,a::p,q,h=>by
  unfold Za6 at h;split at h
  ·rename_i hm;rw [List.cons_append]
   conv=>lhs;unfold Za6
   rw [if_pos hm];exact Zcy h
  ·cases h
theorem Zfi {L:Lts} {s:Nat} {a:Arc} (h:a∈L.getD s []):Za6 L s [a]=(a.2.toNat,true):=by
 unfold Za6;rw [if_pos h];rfl
theorem ZiB:∀{l:List Int} {t:Int} {k:Nat},findOn l t=some k→l[k]?=some t
 | [],_,_,h=>by cases h
 | x::l,t,k,h=>by
  unfold findOn at h;split at h
  ·rename_i e;cases h;rw [e];rfl
  ·cases hq:findOn l t with
   | none=>rw [hq] at h;cases h
   | some q=>
    rw [hq] at h;cases h;rw [List.getElem?_cons_succ];exact ZiB hq
structure LI (L:Lts) (x:SS) (b:Nat):Prop where
 w:∀k t,x.on[k]?=some t→Za6 L b (x.path.take k)=(t.toNat,true)
 len:x.on.length=x.path.length+1
 tau:∀a∈x.path,a.1=0
 stem:Za6 L 0 x.stem=(b,true)
def Las (L:Lts) (y:SS):Prop:=∃e,Za6 L 0 y.stem=(e,true)∧y.loop≠[]∧(∀a∈y.loop,a.1=0)∧Za6 L e y.loop=(e,true)
theorem LI.push {L:Lts} {x:SS} {b s:Nat} {a:Arc} (h:LI L x b) (hl:x.on.getLast?=some (s:Int)) (ha:a∈L.getD s []) (h0:a.1=0):LI L { x with path:=x.path++[a],on:=x.on++[a.2] } b:=by
 have hlen:=h.len;have hlast:x.on[x.path.length]?=some (s:Int):=by
  rw [List.getLast?_eq_getElem?] at hl;rw [show x.path.length=x.on.length-1 by omega];exact hl
 have hw:=h.w _ _ hlast;rw [List.take_length,zW] at hw;refine ⟨fun k t hk=>?_,by simp;omega,fun c hc=>?_,h.stem⟩
 ·dsimp only at hk ⊢;by_cases hkl:k<x.on.length
  ·rw [zN hkl] at hk;rw [List.take_append_of_le_length (by omega)]
   exact h.w k t hk
  ·have hkl2:=(zE.1 hk).1;simp at hkl2;obtain rfl:k=x.on.length:=by omega
   rw [zO (zA _),Nat.sub_self] at hk;cases hk;rw [zJ (by simp;omega),Zcy hw,Zfi ha]
 ·rcases zR.1 hc with hc|hc
  ·exact h.tau c hc
  ·rw [List.mem_singleton.1 hc];exact h0
theorem ZhE {L:Lts} {rec:SS→Nat→SS} {f b s:Nat} (hsp:∀z t,z.found=false→z.path.length+f≤1000→IPost z (rec z t))
  (hrec:∀(z:SS) (t:Nat),z.found=false→LI L z b→z.on.getLast?=some (t:Int)→z.path.length+f≤1000→(rec z t).found=true→Las L (rec z t)) :
  ∀(row:List Arc) (x:SS),x.found=false→LI L x b→x.on.getLast?=some (s:Int)→(∀a∈row,a∈L.getD s []∧0≤a.2)→x.path.length+f+1≤1000→(Zcc rec row x).found=true→Las L (Zcc rec row x)
 | [],x,hf,_,_,_,_,hy=>by unfold Zcc at hy;rw [hf] at hy;cases hy
 | a::l,x,hf,hd,hl,hr,hb,hy=>by
  have ih:=ZhE (s:=s) hsp hrec l;have hrl:∀a∈l,a∈L.getD s []∧0≤a.2:=fun b hb=>hr b (by simp [hb])
  obtain ⟨ha,ha2⟩:=hr a (by simp)
  unfold Zcc at hy ⊢;rw [if_neg (by rw [hf];decide)] at hy ⊢
  by_cases h0:a.1=0
  rotate_left
  ·rw [if_pos h0] at hy ⊢;exact ih x hf hd hl hrl hb hy
  rw [if_neg (by simpa using h0)] at hy ⊢
  have hlen:=hd.len;have hlast:x.on[x.path.length]?=some (s:Int):=by
   rw [List.getLast?_eq_getElem?] at hl;rw [show x.path.length=x.on.length-1 by omega];exact hl
  have hw:=hd.w _ _ hlast;rw [List.take_length,zW] at hw;cases hfn:findOn x.on a.2 with
  | some k=>
   dsimp only;have hk:=hd.w _ _ (ZiB hfn);have hd2:Za6 L a.2.toNat (x.path.drop k)=(s,true):=by
    have:=Zcy (q:=x.path.drop k) hk;rw [List.take_append_drop,hw] at this;exact this.symm
   refine ⟨a.2.toNat,?_,by simp,fun c hc=>?_,?_⟩
   ·show Za6 L 0 (x.stem++x.path.take k)=_;rw [Zcy hd.stem,hk]
   ·rcases zR.1 hc with hc|hc
    ·exact hd.tau c (List.mem_of_mem_drop hc)
    ·rw [List.mem_singleton.1 hc];exact h0
   ·show Za6 L a.2.toNat (x.path.drop k++[a])=_;rw [Zcy hd2,Zfi ha]
  | none=>
   rw [hfn] at hy;dsimp only at hy ⊢;by_cases hm:x.inner.getD a.2.toNat true=true
   ·rw [if_pos hm] at hy ⊢;exact ih x hf hd hl hrl hb hy
   ·rw [if_neg hm] at hy ⊢;have et:((a.2.toNat:Nat):Int)=a.2:=by omega
    have hz:=hrec { x with path:=x.path++[a],on:=x.on++[a.2] } a.2.toNat hf (hd.push hl ha h0) (by show (x.on++[a.2]).getLast?=_;rw [et];simp) (by show (x.path++[a]).length+f≤1000;simp;omega)
    have hp:=hsp { x with path:=x.path++[a],on:=x.on++[a.2] } a.2.toNat hf (by show (x.path++[a]).length+f≤1000;simp;omega)
    generalize rec { x with path:=x.path++[a],on:=x.on++[a.2] } a.2.toNat=z at hz hp hy
    by_cases hzt:z.found=true
    ·rw [if_pos hzt,ZfE _ hzt];exact hz hzt
    ·have hzf:z.found=false:=by simpa using hzt
     rw [if_neg hzt] at hy ⊢;obtain ⟨g1,g2,g3,g4⟩:=hp.no hzf;dsimp only at g1 g2 g3;have e1:z.path.dropLast=x.path:=by rw [g1];simp
     have e2:z.on.dropLast=x.on:=by rw [g2];simp
     exact ih { z with path:=z.path.dropLast,on:=z.on.dropLast } hzf ⟨by show ∀k t,z.on.dropLast[k]?=some t→Za6 L b (z.path.dropLast.take k)=_;rw [e1,e2];exact hd.w,by show z.on.dropLast.length=z.path.dropLast.length+1;rw [e1,e2];exact hlen,by show ∀a∈z.path.dropLast,_;rw [e1];exact hd.tau,by show Za6 L 0 z.stem=_;rw [g3];exact hd.stem⟩ (by show z.on.dropLast.getLast?=_;rw [e2];exact hl) hrl (by show z.path.dropLast.length+f+1≤1000;rw [e1];exact hb) hy
theorem Zmr {L:Lts} (hw:WF L) {s:Nat}:∀a∈L.getD s [],a∈L.getD s []∧0≤a.2:=fun a ha=>by
 refine ⟨ha,?_⟩;rw [zL] at ha;cases hq:L[s]? with
 | none=>rw [hq] at ha;exact absurd ha (by simp)
 | some row=>rw [hq] at ha;exact (hw.to row (zF hq) a ha).1
theorem Ziu {L:Lts} (hw:WF L) {b:Nat}:∀(f:Nat) (x:SS) (s:Nat),x.found=false→LI L x b→x.on.getLast?=some (s:Int)→x.path.length+f≤1000→(ZfF L f x s).found=true→Las L (ZfF L f x s)
 | 0,x,s,hf,_,_,_,hy=>by unfold ZfF at hy;rw [hf] at hy;cases hy
 | f+1,x,s,hf,hd,hl,hb,hy=>
  ZhE (s:=s) (Zfg L f) (Ziu hw f) (L.getD s []) { x with inner:=x.inner.set s true } hf ⟨hd.w,hd.len,hd.tau,hd.stem⟩ hl (Zmr hw) (by show x.path.length+f+1≤1000;omega) hy
theorem Znx {L:Lts} (hw:WF L) (hN:L.length≤400) {x:SS} {s:Nat} (hf:x.found=false) (hs:Za6 L 0 x.stem=(s,true)) (hy:(Zc8 L x s).found=true):Las L (Zc8 L x s):=by
 unfold Zc8 at hy ⊢;split
 ·rename_i h;rw [if_pos h,hf] at hy;cases hy
 ·rename_i h;rw [if_neg h] at hy;refine Ziu hw (b:=s) L.length { x with path:=[],on:=[(s:Int)] } s hf ⟨fun k t hk=>?_,rfl,fun a ha=>(nomatch ha),hs⟩ rfl (by show 0+L.length≤1000;omega) hy
  have hk2:=(zE.1 hk).1;obtain rfl:k=0:=by simpa using hk2
  cases hk;rfl
theorem Zhl {L:Lts} {rec:SS→Nat→SS} {f s:Nat} (hsp:∀z t,z.found=false→z.stem.length+f≤1000→OPost z (rec z t))
  (hrec:∀(z:SS) (t:Nat),z.found=false→Za6 L 0 z.stem=(t,true)→z.stem.length+f≤1000→(rec z t).found=true→Las L (rec z t)) :
  ∀(row:List Arc) (x:SS),x.found=false→Za6 L 0 x.stem=(s,true)→(∀a∈row,a∈L.getD s []∧0≤a.2)→x.stem.length+f+1≤1000→(Zb1 rec row x).found=true→Las L (Zb1 rec row x)
 | [],x,hf,_,_,_,hy=>by unfold Zb1 at hy;rw [hf] at hy;cases hy
 | a::l,x,hf,hd,hr,hb,hy=>by
  have ih:=Zhl (s:=s) hsp hrec l;have hrl:∀a∈l,a∈L.getD s []∧0≤a.2:=fun b hb=>hr b (by simp [hb])
  obtain ⟨ha,ha2⟩:=hr a (by simp)
  unfold Zb1 at hy ⊢;rw [if_neg (by rw [hf];decide)] at hy ⊢
  by_cases hm:x.outer.getD a.2.toNat true=true
  ·rw [if_pos hm] at hy ⊢;exact ih x hf hd hrl hb hy
  ·rw [if_neg hm] at hy ⊢;have hz:=hrec { x with stem:=x.stem++[a] } a.2.toNat hf (by show Za6 L 0 (x.stem++[a])=_;rw [Zcy hd,Zfi ha]) (by show (x.stem++[a]).length+f≤1000;simp;omega)
   have hp:=hsp { x with stem:=x.stem++[a] } a.2.toNat hf (by show (x.stem++[a]).length+f≤1000;simp;omega)
   generalize rec { x with stem:=x.stem++[a] } a.2.toNat=z at hz hp hy
   by_cases hzt:z.found=true
   ·rw [if_pos hzt,Zcs _ hzt];exact hz hzt
   ·have hzf:z.found=false:=by simpa using hzt
    rw [if_neg hzt] at hy ⊢;obtain ⟨g3,g4⟩:=hp.no hzf;dsimp only at g3;have e1:z.stem.dropLast=x.stem:=by rw [g3];simp
    exact ih { z with stem:=z.stem.dropLast } hzf (by show Za6 L 0 z.stem.dropLast=_;rw [e1];exact hd) hrl (by show z.stem.dropLast.length+f+1≤1000;rw [e1];exact hb) hy
theorem Zio {L:Lts} (hw:WF L) (hN:L.length≤400):∀(f:Nat) (x:SS) (s:Nat),x.found=false→Za6 L 0 x.stem=(s,true)→x.stem.length+f≤1000→(Zej L f x s).found=true→Las L (Zej L f x s)
 | 0,x,s,hf,_,_,hy=>by unfold Zej at hy;rw [hf] at hy;cases hy
 | f+1,x,s,hf,hs,hb,hy=>by
  have e:Zej L (f+1) x s=Zb1 (Zej L f) (L.getD s []) (Zc8 L { x with outer:=x.outer.set s true } s):=rfl
  rw [e] at hy ⊢;have hl:=Znx hw hN (x:={ x with outer:=x.outer.set s true }) (s:=s) hf hs
  have hp:=ZhJ L hN (x:={ x with outer:=x.outer.set s true }) (s:=s) hf (by show x.stem.length≤1000;omega)
  generalize Zc8 L { x with outer:=x.outer.set s true } s=z at hl hp hy
  by_cases hzt:z.found=true
  ·rw [Zcs _ hzt];exact hl hzt
  ·have hzf:z.found=false:=by simpa using hzt
   have hst:z.stem=x.stem:=(hp.no hzf).1;exact Zhl (s:=s) (ZdQ L hN f) (Zio hw hN f) (L.getD s []) z hzf (by rw [hst];exact hs) (Zmr hw) (by rw [hst];omega) hy
theorem ZpK {L:Lts} (hw:WF L) (hN:L.length≤400) (h:(outY L).found=true):Las L (outY L):=
 Zio hw hN L.length (Zcu L.length) 0 rfl rfl (by show 0+L.length≤1000;omega) h
open Abs
theorem ZmK {σ:AS} {lo lo1 m:Nat} {v:Value} {l:List Arc} (h:LV 77 3 (RSt lo) lo1 σ v l) (h1:m≤lo) (h2:m≤lo1):LV 77 3 (RSt m) m σ v l:=by
 obtain ⟨cs,k1,k2⟩:=h.lower h2;exact ⟨cs,k1,fun i x hi=>(k2 i x hi).lower h1⟩
theorem cmpI_zero {x y:Int}:cmpI x y=0↔x=y:=by
 unfold cmpI
 constructor
 ·intro h;split at h
  ·cases h
  ·split at h
   ·cases h
   ·omega
 ·rintro rfl;rw [if_neg (by omega),if_neg (by omega)]
theorem Zo6 {a b:Arc}:(cmpA a b == 0)=decide (a=b):=by
 have:cmpA a b=0↔a=b:=by
  unfold cmpA orI orI orI
  constructor
  ·intro h;split at h
   ·rename_i h1;split at h
    ·rename_i h2;exact Prod.ext (cmpI_zero.1 h1) (cmpI_zero.1 h2)
    ·exact Prod.ext (cmpI_zero.1 h1) (cmpI_zero.1 h)
   ·rename_i h1;exact absurd h h1
  ·rintro rfl;rw [if_pos (cmpI_zero.2 rfl),if_pos (cmpI_zero.2 rfl)]
 by_cases h:a=b
 ·rw [zM h,beq_iff_eq];exact this.2 h
 ·rw [zI h,beq_eq_false_iff_ne];exact fun h2=>h (this.1 h2)
theorem Zp4 {σ:AS} {lo:Nat} {v:Value} {l:List Arc} {fid:FuncId} {cs:Array Value} (hv:LV 77 3 (RSt lo) lo σ v l) (hl:l.length≤10000) (p:Arc→Bool) (hf:∀s cells a,Ext σ s→RSt lo s cells a→C Tryz.prog Kn 0 fid ((#[]:Array Value).toList++[.agg cells.toArray]++cs.toList) s fun v s'=>v=.bool (p a)∧Ext s s') :
  C Tryz.prog Kn 0 72 [v,.func (.func fid) #[] cs] σ fun u σ'=>(∃k:Int,u=.int .i64 k∧decide (k≥0)=l.any p)∧Ext σ σ':=by
 obtain ⟨va,vc,hve⟩:=hv.len;refine C_of (kn (by decide)) Tryz.func72 rfl (zD rfl) ?_
 show W _ _ _ 19 _ _ _ _;unfold Tryz.f72;dsimp only;rw [hve];repeat apply Zaa
 apply Zad;intro _;simp +decide only [zq,ZaI,↓Zab,↓reduceIte,aOp];rfl;repeat apply Zaa
 apply Zad;intro _;simp +decide only [zq,↓Zab,↓reduceIte,aOp,Zan,aevs,Zaf,Tryz.underlying41,goInt,aLen];rfl;repeat apply Zaa
 refine Zbs (fun (i:Nat) r s=>i≤l.length∧Ext σ s∧(∀a∈l.take i,p a=false)∧rget r 0=.slice va l.length vc∧rget r 1=.func (.func fid) #[] cs∧rget r 7=.int .i64 (l.length:Int)∧rget r 8=.int .i64 (i:Int)) (fun i=>l.length-i) (fun r s=>Ext σ s∧l.any p=false) ?_ ?_ 0 ?_;rotate_left 2
 ·refine ⟨zH _,Ext.refl _,fun a ha=>(nomatch ha),?_,?_,?_,?_⟩<;>simp +decide only [zq]<;>first|exact True.intro|rfl
 rotate_left
 ·rintro r s ⟨e1,hn⟩;repeat apply Zaa
  apply Zad;intro _;simp +decide only [zq,↓Zab,↓reduceIte,aOp];rfl;refine ZaL ⟨zA _,[.int .i64 (-1)],?_,⟨-1,rfl,by rw [hn];rfl⟩,e1⟩
  simp +decide only [zq,Zaj]
 rintro i r σ1 ⟨hi,e1,hn,h0,h1,h7,h8⟩;have w6:IntKind.i64.wrap ((i:Int)+1)=((i+1:Nat):Int):=by rw [Zas _ (by omega) (by omega)];omega
 by_cases hlt:i<l.length
 rotate_left
 ·have d1:decide ((i:Int)<(l.length:Int))=false:=zI (by omega)
  rw [zJ (by omega)] at hn
  repeat apply Zaa
  apply Zad;intro _;simp +decide only [zq,↓Zab,↓reduceIte,aOp,Zah,h7,h8,U.lssI,d1];rfl;repeat apply Zaa
  refine ZaC (by simp +decide only [zq]) ?_
  exact ZaA ⟨fun h=>(nomatch h),fun _=>⟨e1,List.any_eq_false.2 fun a ha=>by rw [hn a ha];decide⟩,fun h1 h2=>absurd rfl h2⟩
 have d1:decide ((i:Int)<(l.length:Int))=true:=zM (by omega)
 repeat apply Zaa
 apply Zad;intro _;simp +decide only [zq,↓Zab,↓reduceIte,aOp,Zah,h7,h8,U.lssI,d1];rfl;repeat apply Zaa
 refine ZaQ (by simp +decide only [zq]) ?_
 apply Zak;refine ZaM ?_;obtain ⟨a,ha⟩:∃a,l[i]?=some a:=⟨l[i],by simp [hlt]⟩
 obtain ⟨b0,c0,cells,e0,hRs,hld⟩:=stAt (hv.ext RSt.kept e1) ha;rw [hve] at e0;cases e0;have ld:=hld _ (Ext.refl _);have ix:Zal Tryz.prog 41 (slc b0 l.length vc) (.int .i64 (i:Int))=some (.pointer (some ⟨b0,i*3,none⟩)):=by
  have:=Zi8 (b:=b0) (cap:=vc) hlt
  rwa [Nat.zero_add] at this
 repeat apply Zaa
 apply Zad;intro _;simp +decide only [zq,↓Zab,↓reduceIte,aOp,h8];rfl;repeat apply Zaa
 apply ZaF;apply Zay 5;intro _;simp +decide only [zq,List.take,↓Zab,↓reduceIte,aOp,Zae,Zag,h0,h1,ix,ld];rfl;dsimp only [List.drop];refine Zfp (first:=#[]) (captured:=cs) (fid:=fid) (vs:=[.agg cells.toArray]) (by simp +decide only [zq]) (by simp +decide only [zq,aevs]) (by decide) (C.mono (hf σ1 cells a e1 hRs) ?_)
 rintro u s ⟨rfl,e2⟩;apply ZaG;intro _;simp +decide only [aOps];rfl;have e2:=e1.trans e2;generalize s=σ2 at e2;cases hp:p a with
 | true=>
  refine Zao ?_;repeat apply Zaa
  refine ZaQ (by simp +decide only [zq]) ?_
  repeat apply Zaa
  apply Zad;intro _;simp +decide only [zq,↓Zab,↓reduceIte,aOp];rfl;refine Zbj ⟨fun h=>h.elim (fun h=>(nomatch h)) (fun h=>(nomatch h)),fun _ _=>⟨fun h=>(nomatch h),fun h=>(nomatch h),fun _ _=>⟨zA _,[.int .i64 (i:Int)],?_,⟨i,rfl,?_⟩,e2⟩⟩⟩
  ·simp +decide only [zq,Zaj]
  ·rw [List.any_eq_true.2 ⟨a,zF ha,hp⟩];exact zM (by omega)
 | false=>
  refine Zao ?_;repeat apply Zaa
  refine ZaC (by simp +decide only [zq]) ?_
  apply Zak;refine Zap ⟨fun _=>?_,fun h=>absurd rfl h⟩;refine Zao ?_;repeat apply Zaa
  apply Zad;intro _;simp +decide only [zq,↓Zab,↓reduceIte,aOp,Zah,h8,U.addI,w6];rfl;refine Zap ⟨fun _=>⟨i+1,by omega,hlt,e2,fun b hb=>?_,?_,?_,?_,?_⟩,fun h=>(nomatch h),fun h=>absurd rfl h⟩
  ·rw [zT,ha] at hb;rcases zR.1 hb with hb|hb
   ·exact hn b hb
   ·simp at hb;rw [hb];exact hp
  all_goals simp +decide only [zq,h0,h1,h7]
theorem ZmZ {σ:AS} {lo:Nat} {v:Value} {l:List Arc} {fid:FuncId} {cs:Array Value} (hv:LV 77 3 (RSt lo) lo σ v l) (hl:l.length≤10000) (p:Arc→Bool) (hf:∀s cells a,Ext σ s→RSt lo s cells a→C Tryz.prog Kn 0 fid ((#[]:Array Value).toList++[.agg cells.toArray]++cs.toList) s fun v s'=>v=.bool (p a)∧Ext s s') :
  C Tryz.prog Kn 0 43 [v,.func (.func fid) #[] cs] σ fun u σ'=>u=.bool (l.any p)∧Ext σ σ':=by
 refine C_of (kn (by decide)) Tryz.func43 rfl (zD rfl) ?_
 show W _ _ _ 9 _ _ _ _;unfold Tryz.f43;dsimp only;obtain ⟨va,vc,hve⟩:=hv.len;repeat apply Zaa
 apply Zad;intro _;simp +decide only [zq,ZaI,↓Zab,↓reduceIte,aOp];rfl;repeat apply Zaa
 apply ZaF;apply Zay 2;intro _;simp +decide only [zq,List.take,↓Zab,↓reduceIte,aOp];rfl;dsimp only [List.drop];refine ZaV (vs:=[v,.func (.func fid) #[] cs]) (by simp +decide only [zq,aevs]) (by decide) (C.mono (Zp4 hv hl p hf) ?_)
 rintro u s ⟨⟨k,rfl,hk⟩,e1⟩;apply ZaG;intro _;simp +decide only [zq,↓Zab,↓reduceIte,aOp,Zah,U.geqI,hk];rfl;refine ZaL ⟨zA _,[.bool (l.any p)],?_,rfl,e1⟩;simp +decide only [zq,Zaj]
theorem ZpP {σ:AS} {lo:Nat} {cells:List Value} {a:Arc} (h:RSt lo σ cells a):C Tryz.prog Kn 0 44 [.agg cells.toArray] σ fun v σ'=>v=.bool (a.1 != 0)∧Ext σ σ':=by
 obtain ⟨nb,nc,mb,mc,rfl,-⟩:=h;refine C_of (kn (by decide)) Tryz.func44 rfl (zD rfl) ?_
 show W _ _ _ 6 _ _ _ _;unfold Tryz.f44;dsimp only;repeat apply Zaa
 apply Zad;intro _;simp +decide only [zq,ZaI,↓Zab,↓reduceIte,aOp,Zbm,aRow];rfl;have B1:BxAt (σ.new ⟨1,77,0,(Value.agg [.int .i64 a.1,slc nb 2 nc,slc mb 1 mc].toArray).cells.toList,[]⟩) 77 σ.next [.int .i64 a.1,slc nb 2 nc,slc mb 1 mc]:=BxAt.new σ _ _;have e1:=Ext.new σ ⟨1,77,0,(Value.agg [.int .i64 a.1,slc nb 2 nc,slc mb 1 mc].toArray).cells.toList,[]⟩;generalize σ.next=xb at B1;generalize σ.new ⟨1,77,0,(Value.agg [.int .i64 a.1,slc nb 2 nc,slc mb 1 mc].toArray).cells.toList,[]⟩=σ1 at B1 e1;have l0:Zat Tryz.prog σ1 3 (.pointer (some ⟨xb,0,none⟩))=some (.int .i64 a.1):=Zaw Tryz.underlying3 rfl (B1.cell (i:=0) rfl);repeat apply Zaa
 apply Zad;intro _;simp +decide only [zq,↓Zab,↓reduceIte,aOp,Zah,Zac,Zag,ZgB,l0,U.neII];rfl;refine ZaL ⟨zA _,[.bool (a.1 != 0)],?_,rfl,e1⟩;simp +decide only [zq,Zaj]
theorem Zpv {σ:AS} {lo lo' xb:Nat} {cells xs:List Value} {a x:Arc} (hB:BxAt σ 77 xb xs) (hx:RSt lo' σ xs x) (h:RSt lo σ cells a):C Tryz.prog Kn 0 73 [.agg cells.toArray,.pointer (some ⟨xb,0,none⟩)] σ fun v σ'=>v=.bool (decide (x=a))∧Ext σ σ':=by
 obtain ⟨nb,nc,mb,mc,rfl,hn,hm⟩:=h;refine C_of (kn (by decide)) Tryz.func73 rfl (zD rfl) ?_
 show W _ _ _ 8 _ _ _ _;unfold Tryz.f73;dsimp only;repeat apply Zaa
 apply Zad;intro _;simp +decide only [zq,ZaI,↓Zab,↓reduceIte,aOp,Zbm,aRow];rfl;have B1:BxAt (σ.new ⟨1,77,0,(Value.agg [.int .i64 a.1,slc nb 2 nc,slc mb 1 mc].toArray).cells.toList,[]⟩) 77 σ.next [.int .i64 a.1,slc nb 2 nc,slc mb 1 mc]:=BxAt.new σ _ _;have e1:=Ext.new σ ⟨1,77,0,(Value.agg [.int .i64 a.1,slc nb 2 nc,slc mb 1 mc].toArray).cells.toList,[]⟩;generalize σ.next=yb at B1;generalize σ.new ⟨1,77,0,(Value.agg [.int .i64 a.1,slc nb 2 nc,slc mb 1 mc].toArray).cells.toList,[]⟩=σ1 at B1 e1;have lst:∀(b:Nat) (cs:List Value),BxAt σ1 77 b cs→cs.length=3→Zat Tryz.prog σ1 77 (.pointer (some ⟨b,0,none⟩))=some (.agg cs.toArray):=fun b cs hb hl=>ZbK Tryz.underlying77 rfl (i:=(Tryz.prog.info? 77).get!) (by kernel_rfl) (by rw [show ((Tryz.prog.info? 77).get!).size=3 by kernel_rfl];exact Zaq hb.get (by rw [List.drop_zero,zJ (by omega)]) (by omega))
 have hx1:=RSt.kept.ext e1 hx;have hy1:RSt lo σ1 [.int .i64 a.1,slc nb 2 nc,slc mb 1 mc] a:=RSt.kept.ext e1 ⟨nb,nc,mb,mc,rfl,hn,hm⟩;have hxl:xs.length=3:=by obtain ⟨_,_,_,_,rfl,_⟩:=hx;rfl
 repeat apply Zaa
 apply ZaF;apply Zay 2;intro _;simp +decide only [zq,List.take,↓Zab,↓reduceIte,aOp,Zag,lst _ _ (hB.ext e1) hxl,lst _ _ B1 rfl];rfl;dsimp only [List.drop];refine ZaV (vs:=[.agg xs.toArray,.agg [.int .i64 a.1,slc nb 2 nc,slc mb 1 mc].toArray]) (by simp +decide only [zq,aevs]) (by decide) (C.mono (ZgU hx1 hy1) ?_)
 rintro u s ⟨rfl,e2⟩;apply ZaG;intro _;simp +decide only [zq,↓Zab,↓reduceIte,aOp,Zah,U.eqII,Zo6];rfl;refine ZaL ⟨zA _,[.bool (decide (x=a))],?_,rfl,e1.trans e2⟩;simp +decide only [zq,Zaj]
theorem Zqx {σ:AS} {d:MD} {L:Lts} {E:List Int} {s v:Value} {t e lo:Nat} {l:List Arc} (O:LOk L E) (hM:Mach σ d L E) (hs:St σ s t) (hv:LV 77 3 (RSt lo) lo σ v l) (hl:l.length≤10000) (hf:Za6 L t l=(e,true)) :
  C Tryz.prog Kn 0 45 [d.val,s,v] σ fun u σ'=>(∃s',u=.tuple #[s',.bool true]∧St σ' s' e)∧Ext σ σ':=by
 obtain ⟨va,vc,hve⟩:=hv.len;refine C_of (kn (by decide)) Tryz.func45 rfl (zD rfl) ?_
 show W _ _ _ 27 _ _ _ _;unfold Tryz.f45;dsimp only;rw [hve];repeat apply Zaa
 apply Zad;intro _;simp +decide only [zq,ZaI,↓Zab,↓reduceIte,aOp,Zbm,aRow];rfl;have e1:Ext σ (σ.new ⟨1,35,0,d.val.cells.toList,[]⟩):=Ext.new σ _;have B1:BxAt (σ.new ⟨1,35,0,d.val.cells.toList,[]⟩) 35 σ.next d.cells:=BxAt.new σ _ _;generalize hnx:σ.next=xb at B1;generalize σ.new ⟨1,35,0,d.val.cells.toList,[]⟩=σ1 at e1 B1;repeat apply Zaa
 apply Zad;intro _;simp +decide only [zq,↓Zab,↓reduceIte,aOp,Zan,aevs,Zaf,Tryz.underlying41,goInt,aLen];rfl;repeat apply Zaa
 refine Zbs (fun (i:Nat) r s'=>i≤l.length∧Ext σ1 s'∧(∃t',Za6 L t' (l.drop i)=(e,true)∧∃sv,rget r 1=sv∧St s' sv t')∧rget r 3=.pointer (some ⟨xb,0,none⟩)∧rget r 10=.slice va l.length vc∧rget r 11=.int .i64 (l.length:Int)∧rget r 12=.int .i64 (i:Int)) (fun i=>l.length-i) (fun r s'=>Ext σ1 s'∧∃sv,rget r 1=sv∧St s' sv e) ?_ ?_ 0 ?_;rotate_left 2
 ·refine ⟨zH _,Ext.refl _,⟨t,hf,_,?_,hs.ext e1⟩,?_,?_,?_,?_⟩<;>simp +decide only [zq]<;>first|exact True.intro|rfl
 rotate_left
 ·rintro r s' ⟨e2,sv,h1,hst⟩;repeat apply Zaa
  apply Zad;intro _;simp +decide only [zq,↓Zab,↓reduceIte,aOp,h1];rfl;refine ZaL ⟨zA _,[sv,.bool true],?_,⟨sv,rfl,hst⟩,e1.trans e2⟩;simp +decide only [zq,Zaj]
 rintro i r σ2 ⟨hi,e2,⟨t',hf',sv,h1,hst⟩,h3,h10,h11,h12⟩;have w6:IntKind.i64.wrap ((i:Int)+1)=((i+1:Nat):Int):=by rw [Zas _ (by omega) (by omega)];omega
 by_cases hlt:i<l.length
 rotate_left
 ·have d1:decide ((i:Int)<(l.length:Int))=false:=zI (by omega)
  rw [List.drop_eq_nil_of_le (by omega)] at hf'
  have hte:t'=e:=by unfold Za6 at hf';exact congrArg Prod.fst hf'
  subst hte;repeat apply Zaa
  apply Zad;intro _;simp +decide only [zq,↓Zab,↓reduceIte,aOp,Zah,h11,h12,U.lssI,d1];rfl;repeat apply Zaa
  refine ZaC (by simp +decide only [zq]) ?_
  refine ZaA ⟨fun h=>(nomatch h),fun _=>⟨e2,sv,?_,hst⟩,fun h1 h2=>absurd rfl h2⟩;simp +decide only [zq,h1]
 have d1:decide ((i:Int)<(l.length:Int))=true:=zM (by omega)
 repeat apply Zaa
 apply Zad;intro _;simp +decide only [zq,↓Zab,↓reduceIte,aOp,Zah,h11,h12,U.lssI,d1];rfl;repeat apply Zaa
 refine ZaQ (by simp +decide only [zq]) ?_
 apply Zak;refine ZaM ?_;obtain ⟨a,ha⟩:∃a,l[i]?=some a:=⟨l[i],by simp [hlt]⟩
 have hdr:l.drop i=a::l.drop (i+1):=by rw [List.drop_eq_getElem_cons hlt,(zE.1 ha).2]
 rw [hdr] at hf';unfold Za6 at hf';have har:a∈L.getD t' []:=by
  by_cases h:a∈L.getD t' []
  ·exact h
  ·rw [if_neg h] at hf';cases hf'
 rw [if_pos har] at hf';have ht':t'<L.length:=by
  by_cases h:t'<L.length
  ·exact h
  ·rw [zL,zV (by omega)] at har;cases har
 obtain ⟨row,hrow⟩:∃row,L[t']?=some row:=⟨L[t'],by simp [ht']⟩
 have hgd:L.getD t' []=row:=by rw [zL,hrow];rfl
 rw [hgd] at har;have hrm:row∈L:=zF hrow;obtain ⟨b0,c0,cells,e0,hRs,hld⟩:=stAt (hv.ext RSt.kept (e1.trans e2)) ha;rw [hve] at e0;cases e0;have ld:=hld _ (Ext.refl _);have ix:Zal Tryz.prog 41 (slc b0 l.length vc) (.int .i64 (i:Int))=some (.pointer (some ⟨b0,i*3,none⟩)):=by
  have:=Zi8 (b:=b0) (cap:=vc) hlt
  rwa [Nat.zero_add] at this
 have hRs':=hRs;obtain ⟨nb,nc,mb,mc,rfl,⟨a1,a2,a3,a4,a5⟩,-⟩:=hRs;repeat apply Zaa
 apply Zad;intro _;simp +decide only [zq,↓Zab,↓reduceIte,aOp,Zae,Zag,ZaE,unn,h10,h12,ix,ld,ZlY,Zk5];rfl;have ed:=Zcn σ2 77 [.int .i64 0,.slice none 0 0,.slice none 0 0] [.int .i64 a.1,slc nb 2 nc,slc mb 1 mc];have AY:=Zc9 σ2 77 [.int .i64 0,.slice none 0 0,.slice none 0 0] [.int .i64 a.1,slc nb 2 nc,slc mb 1 mc];generalize hab:σ2.next=ab at AY;generalize dcl σ2 77 [.int .i64 0,.slice none 0 0,.slice none 0 0] [.int .i64 a.1,slc nb 2 nc,slc mb 1 mc]=σ3 at ed AY;have hRs3:=RSt.kept.ext ed hRs';have e3:=e2.trans ed;have hst3:=hst.ext ed;obtain ⟨qb,qc,rfl,qs1,qs2⟩:=id hst3;have lM:=Mach.ldM (B1.ext e3);repeat apply Zaa
 apply ZaF;apply Zay 2;intro _;simp +decide only [zq,List.take,↓Zab,↓reduceIte,aOp,Zag,h1,h3,lM];rfl;dsimp only [List.drop];refine ZaV (vs:=[d.val,slc qb 2 qc]) (by simp +decide only [zq,aevs]) (by decide) (C.mono (Zmd (ZiX ZgU) (Zje ZnT) (hM.ext (e1.trans e3)) hst3 hrow (O.hl row hrm) O.E0 O.El (O.out hrm) (O.asc row hrm)) ?_)
 rintro u s1 ⟨⟨lo2,hlo2,hvs⟩,e4⟩;have hrl:=O.hl row hrm;have A4:=AY.ext e4;have hRs4:=RSt.kept.ext e4 hRs3;generalize s1=σ4 at hvs e4 A4 hRs4;obtain ⟨ua,uc,rfl⟩:=hvs.len;apply Zay 1;intro _;simp +decide only [zq,List.take,↓Zab,↓reduceIte,aOp,aevs,Zd4];rfl;dsimp only [List.drop];refine ZaV (vs:=[.slice ua row.length uc,.func (.func 73) #[] #[.pointer (some ⟨ab,0,none⟩)]]) (by simp +decide only [zq,aevs]) (by decide) (C.mono (ZmZ hvs (by omega) (fun y=>decide (a=y)) (fid:=73) (cs:=#[.pointer (some ⟨ab,0,none⟩)]) (fun s c y ee hh=>by
  have eq:(#[]:Array Value).toList++[.agg c.toArray]++(#[.pointer (some ⟨ab,0,none⟩)]:Array Value).toList=[.agg c.toArray,.pointer (some ⟨ab,0,none⟩)]:=rfl;rw [eq];exact Zpv (A4.ext ee) (RSt.kept.ext ee hRs4) hh)) ?_)
 rintro u s1 ⟨rfl,e5⟩;have hany:(row.any fun y=>decide (a=y))=true:=List.any_eq_true.2 ⟨a,har,zM rfl⟩;rw [hany];apply ZaG;intro _;simp +decide only [zq,↓Zab,↓reduceIte,aOp,opUn,Bool.not_true,not_b];rfl;have A5:=A4.ext e5;have ld5:=Zaw (P:=Tryz.prog) (t:=22) Tryz.underlying22 rfl (A5.cell (i:=1) rfl);have E5:=e3.trans (e4.trans e5);have hst5:St s1 (slc nb 2 nc) a.2.toNat:=by
  have hX:=ed.trans (e4.trans e5);have hnn:0≤a.2:=(O.hw row hrm a har).1;exact ⟨nb,nc,rfl,hX.lt a2,by rw [hX.cells (a:=⟨nb,0,none⟩) a2,a5,Int.toNat_of_nonneg hnn]⟩
 generalize s1=σ5 at A5 ld5 E5 hst5;repeat apply Zaa
 refine ZaC (by simp +decide only [zq]) ?_
 apply Zak;refine Zao ?_;repeat apply Zaa
 apply Zad;intro _;simp +decide only [zq,↓Zab,↓reduceIte,aOp,Zac,Zag,ZfH,ld5];rfl;refine Zap ⟨fun _=>?_,fun h=>absurd rfl h⟩;refine Zao ?_;repeat apply Zaa
 apply Zad;intro _;simp +decide only [zq,↓Zab,↓reduceIte,aOp,Zah,h12,U.addI,w6];rfl;refine Zap ⟨fun _=>⟨i+1,by omega,hlt,E5,⟨_,hf',slc nb 2 nc,?_,hst5⟩,?_,?_,?_,?_⟩,fun h=>(nomatch h),fun h=>absurd rfl h⟩<;>simp +decide only [zq,h3,h10,h11]
theorem eqI_c {σ:AS} {a b ca cb e:Nat} (ha1:a<σ.next) (ha2:Zav σ ⟨a,0,none⟩ 2=some [.int .i64 0,.int .i64 (e:Int)]) (hb1:b<σ.next) (hb2:Zav σ ⟨b,0,none⟩ 2=some [.int .i64 0,.int .i64 (e:Int)]) :
  C Tryz.prog Kn 0 46 [slc a 2 ca,slc b 2 cb] σ fun u σ'=>u=.bool true∧Ext σ σ':=by
 refine C_of (kn (by decide)) Tryz.func46 rfl (zD rfl) ?_
 show W _ _ _ 26 _ _ _ _;unfold Tryz.f46;dsimp only;have n0:(((2:Nat):Int) != ((2:Nat):Int))=false:=by decide
 repeat apply Zaa
 apply Zad;intro _;simp +decide only [zq,ZaI,↓Zab,↓reduceIte,aOp];rfl;repeat apply Zaa
 apply Zad;intro _;simp +decide only [zq,↓Zab,↓reduceIte,aOp,Zah,Zan,aevs,Zaf,Tryz.underlying22,goInt,aLen,U.neII,n0];rfl;repeat apply Zaa
 refine ZaC (by simp +decide only [zq]) ?_
 apply Zak;repeat apply Zaa
 apply Zad;intro _;simp +decide only [zq,↓Zab,↓reduceIte,aOp,Zan,aevs,Zaf,Tryz.underlying22,goInt,aLen];rfl;repeat apply Zaa
 refine Zbs (fun (i:Nat) r s=>i≤2∧Ext σ s∧rget r 0=slc a 2 ca∧rget r 1=slc b 2 cb∧rget r 12=.int .i64 ((2:Nat):Int)∧rget r 13=.int .i64 (i:Int)) (fun i=>2-i) (fun r s=>Ext σ s) ?_ ?_ 0 ?_;rotate_left 2
 ·refine ⟨zH _,Ext.refl _,?_,?_,?_,?_⟩<;>simp +decide only [zq]<;>first|exact True.intro|rfl
 rotate_left
 ·rintro r s e1;repeat apply Zaa
  apply Zad;intro _;simp +decide only [zq,↓Zab,↓reduceIte,aOp];rfl;refine ZaL ⟨zA _,[.bool true],?_,rfl,e1⟩;simp +decide only [zq,Zaj]
 rintro i r σ1 ⟨hi,e1,h0,h1,h12,h13⟩;have w6:IntKind.i64.wrap ((i:Int)+1)=((i+1:Nat):Int):=by rw [Zas _ (by omega) (by omega)];omega
 by_cases hlt:i<2
 rotate_left
 ·have d1:decide ((i:Int)<((2:Nat):Int))=false:=zI (by omega)
  repeat apply Zaa
  apply Zad;intro _;simp +decide only [zq,↓Zab,↓reduceIte,aOp,Zah,h12,h13,U.lssI,d1];rfl;repeat apply Zaa
  refine ZaC (by simp +decide only [zq]) ?_
  exact ZaA ⟨fun h=>(nomatch h),fun _=>e1,fun h1 h2=>absurd rfl h2⟩
 have d1:decide ((i:Int)<((2:Nat):Int))=true:=zM (by omega)
 repeat apply Zaa
 apply Zad;intro _;simp +decide only [zq,↓Zab,↓reduceIte,aOp,Zah,h12,h13,U.lssI,d1];rfl;repeat apply Zaa
 refine ZaQ (by simp +decide only [zq]) ?_
 apply Zak;refine ZaM ?_;obtain ⟨x,hx⟩:∃x:Int,[Value.int .i64 0,.int .i64 (e:Int)][i]?=some (.int .i64 x):=by
  match i,hlt with
  | 0,_=>exact ⟨0,rfl⟩
  | 1,_=>exact ⟨e,rfl⟩
 have E1:=e1.trans (Ext.reset σ1);have lx:Zat Tryz.prog σ1.reset 3 (.pointer (some ⟨a,i,none⟩))=some (.int .i64 x):=Zaw Tryz.underlying3 rfl (Zbq (by rw [E1.cells (a:=⟨a,0,none⟩) ha1];exact ha2) hx hlt)
 have ly:Zat Tryz.prog σ1.reset 3 (.pointer (some ⟨b,i,none⟩))=some (.int .i64 x):=Zaw Tryz.underlying3 rfl (Zbq (by rw [E1.cells (a:=⟨b,0,none⟩) hb1];exact hb2) hx hlt)
 have ix:Zal Tryz.prog 22 (slc a 2 ca) (.int .i64 (i:Int))=some (.pointer (some ⟨a,i,none⟩)):=by have:=idxI (b:=a) (cap:=ca) hlt;rwa [Nat.zero_add,Nat.mul_one] at this
 have iy:Zal Tryz.prog 22 (slc b 2 cb) (.int .i64 (i:Int))=some (.pointer (some ⟨b,i,none⟩)):=by have:=idxI (b:=b) (cap:=cb) hlt;rwa [Nat.zero_add,Nat.mul_one] at this
 have nx:(x != x)=false:=by rw [bne_self_eq_false]
 repeat apply Zaa
 apply Zad;intro _;simp +decide only [zq,↓Zab,↓reduceIte,aOp,h13];rfl;repeat apply Zaa
 refine Za8 [] [] (by kernel_rfl) (by kernel_rfl) ?_
 apply ZaO;intro _;simp +decide only [zq,zr,aQ,↓Zab,↓reduceIte,aOp,Zah,Zae,Zag,h0,h1,ix,iy,lx,ly,U.neII,nx];rfl;have e4:Ext σ1 (σ1.merge σ1.reset):=(Ext.refl _).merge;generalize σ1.merge σ1.reset=σ2 at e4;show W _ _ _ 26 _ _ _ _;refine Zao ?_;repeat apply Zaa
 refine ZaC (by simp +decide only [zq]) ?_
 apply Zak;refine Zap ⟨fun _=>?_,fun h=>absurd rfl h⟩;refine Zao ?_;repeat apply Zaa
 apply Zad;intro _;simp +decide only [zq,↓Zab,↓reduceIte,aOp,Zah,h13,U.addI,w6];rfl;refine Zap ⟨fun _=>⟨i+1,by omega,hlt,e1.trans e4,?_,?_,?_,?_⟩,fun h=>(nomatch h),fun h=>absurd rfl h⟩<;>simp +decide only [zq,h0,h1,h12]
theorem isML_c {σ:AS} {d:MD} {L:Lts} {E:List Int} {sv qv:Value} {lo:Nat} {p q:List Arc} (O:LOk L E) (hM:Mach σ d L E) (hacc:AccC σ d) (hp:LV 77 3 (RSt lo) lo σ sv p) (hq:LV 77 3 (RSt lo) lo σ qv q) (hpl:p.length≤10000) (hql:q.length≤10000)
  (hlas:∃e,Za6 L 0 p=(e,true)∧q≠[]∧(∀a∈q,a.1=0)∧Za6 L e q=(e,true)) :
  C Tryz.prog Kn 0 15 [d.val,sv,qv] σ fun u σ'=>u=.bool true∧Ext σ σ':=by
 obtain ⟨e,hf1,hne,htau,hf2⟩:=hlas;obtain ⟨ea,ec,hee⟩:=hq.len;have hl0:q.length≠0:=fun h=>hne (List.length_eq_zero_iff.1 h);have hle:((q.length:Int) == 0)=false:=by rw [beq_eq_false_iff_ne];omega
 refine C_of (kn (by decide)) Tryz.func15 rfl (zD rfl) ?_
 show W _ _ _ 43 _ _ _ _;unfold Tryz.f15;dsimp only;rw [hee];repeat apply Zaa
 apply Zad;intro _;simp +decide only [zq,ZaI,↓Zab,↓reduceIte,aOp,Zbm,aRow];rfl;have e1:Ext σ (σ.new ⟨1,35,0,d.val.cells.toList,[]⟩):=Ext.new σ _;have B1:BxAt (σ.new ⟨1,35,0,d.val.cells.toList,[]⟩) 35 σ.next d.cells:=BxAt.new σ _ _;generalize hnx:σ.next=xb at B1;generalize σ.new ⟨1,35,0,d.val.cells.toList,[]⟩=σ1 at e1 B1;repeat apply Zaa
 apply ZaF;apply Zay 1;intro _;simp +decide only [zq,List.take,↓Zab,↓reduceIte,aOp,Zag,Mach.ldM B1];rfl;dsimp only [List.drop];refine ZaV (vs:=[d.val]) (by simp +decide only [zq,aevs]) (by decide) (C.mono (hacc σ1 e1) ?_)
 rintro u s ⟨rfl,e2⟩;apply ZaG;intro _;simp +decide only [zq,↓Zab,↓reduceIte,aOp,Zah,opUn,Zan,ZaH,aevs,Zaf,beq_self_eq_true,Bool.not_true,not_b,Tryz.underlying41,goInt,aLen,U.eqII,hle];rfl;have B2:=B1.ext e2;have e2:=e1.trans e2;generalize s=σ2 at B2 e2;have hq2:=hq.ext RSt.kept e2;have hany:(q.any fun a=>a.1 != 0)=false:=List.any_eq_false.2 fun a ha=>by rw [htau a ha];decide
 rw [hee] at hq2;repeat apply Zaa
 refine ZaC (by simp +decide only [zq]) ?_
 apply Zak;repeat apply Zaa
 apply ZaF;apply Zay 1;intro _;simp +decide only [zq,List.take,↓Zab,↓reduceIte,aOp];rfl;dsimp only [List.drop];refine ZaV (vs:=[.slice ea q.length ec,.func (.func 44) #[] #[]]) (by simp +decide only [zq,aevs]) (by decide) (C.mono (ZmZ hq2 hql (fun a=>a.1 != 0) (fid:=44) (cs:=#[]) (fun s c y ee hh=>ZpP hh)) ?_)
 rintro u s ⟨rfl,e3⟩;rw [hany];apply ZaG;intro _;simp +decide only [aOps];rfl;have B3:=B2.ext e3;have e3:=e2.trans e3;generalize s=σ3 at B3 e3;repeat apply Zaa
 refine ZaC (by simp +decide only [zq]) ?_
 apply Zak;repeat apply Zaa
 refine Za8 [0] [xb] (by kernel_rfl) (by kernel_rfl) ?_
 refine ZaZ (b:=xb) (off:=0) (v:=d.val) (by simp +decide only [zq]) (Mach.ldM (B3.ext (Ext.reset σ3))) (by unfold MD.val vsc veq;simp [vsc,veq,veqL];exact ⟨zC hM.c1 e3.nxt,zC hM.f1 e3.nxt⟩) B3.lt (by simp [memb]) (by decide) ?_
 have e4:Ext σ3 (σ3.merge σ3.reset):=(Ext.refl _).merge;generalize σ3.merge σ3.reset=σ4 at e4;have B4:=B3.ext e4;have e4:=e3.trans e4;have lM4:=Mach.ldM (B4.ext (Ext.reset σ4));apply Zau 1;intro _;simp +decide only [zq,zr,List.take,aQ,↓Zab,↓reduceIte,aOp,Zag,lM4];rfl;dsimp only [List.drop,List.take,List.length];have e5:Ext σ4 (σ4.merge σ4.reset):=(Ext.refl _).merge;generalize σ4.merge σ4.reset=σ5 at e5;have B5:=B4.ext e5;have e5:=e4.trans e5;refine Zbx (vs:=[d.val]) (by simp +decide only [zq,aevs]) (by decide) rfl (C.mono (Zme (σ:=σ5.reset)) ?_)
 rintro u s ⟨⟨b0,rfl,hb0,hg0,hl0'⟩,e6⟩;refine ⟨e6.quiet,?_⟩;have hst6:St (σ5.merge s) (slc b0 2 2) 0:=⟨b0,2,rfl,hl0',Zaq (σ:=σ5.merge s) hg0 rfl (zA _)⟩;have B6:=B5.ext e6.merge;have e6:=e5.trans e6.merge;generalize σ5.merge s=σ6 at e6 hst6 B6;apply Zau 1;intro _;simp +decide only [zq,zr,List.take,aQ,↓Zab,↓reduceIte,aOp];rfl;dsimp only [List.drop,List.take,List.length];have e7:Ext σ6 (σ6.merge σ6.reset):=(Ext.refl _).merge;generalize σ6.merge σ6.reset=σ7 at e7;have hst7:=hst6.ext (e7.trans (Ext.reset σ7));have B7:=B6.ext e7;have e7:=e6.trans e7;have e7r:=e7.trans (Ext.reset σ7);refine Zbx (vs:=[d.val,slc b0 2 2,sv]) (by simp +decide only [zq,aevs]) (by decide) rfl (C.mono (Zqx O (hM.ext e7r) hst7 (hp.ext RSt.kept e7r) hpl hf1) ?_)
 rintro u s ⟨⟨s8,rfl,hst8⟩,e8⟩;refine ⟨e8.quiet,?_⟩;have hst8:St (σ7.merge s) s8 e:=hst8;have B8:=B7.ext e8.merge;have e8:=e7.trans e8.merge;generalize σ7.merge s=σ8 at e8 hst8 B8;obtain ⟨b8,c8,rfl,hb81,hb82⟩:=id hst8;apply ZaO;intro _;simp +decide only [zq,zr,aQ,↓Zab,↓reduceIte,aOp,Zbb];rfl;have e9:Ext σ8 (σ8.merge σ8.reset):=(Ext.refl _).merge;generalize σ8.merge σ8.reset=σ9 at e9;show W _ _ _ 43 _ _ _ _;have hst9:=hst8.ext e9;have e9':=e8.trans e9;repeat apply Zaa
 apply Zad;intro _;simp +decide only [zq,↓Zab,↓reduceIte,aOp,opUn,Bool.not_true,not_b];rfl;repeat apply Zaa
 refine ZaC (by simp +decide only [zq]) ?_
 apply Zak;have B9:=B8.ext e9;have hq9:=hq.ext RSt.kept e9';rw [hee] at hq9;repeat apply Zaa
 apply ZaF;apply Zay 3;intro _;simp +decide only [zq,List.take,↓Zab,↓reduceIte,aOp,Zag,Mach.ldM B9];rfl;dsimp only [List.drop];refine ZaV (vs:=[d.val,slc b8 2 c8,.slice ea q.length ec]) (by simp +decide only [zq,aevs]) (by decide) (C.mono (Zqx O (hM.ext e9') hst9 hq9 hql hf2) ?_)
 rintro u s ⟨⟨s10,rfl,hst10⟩,e10⟩;obtain ⟨b10,c10,rfl,hc1,hc2⟩:=id hst10;apply ZaG;intro _;simp +decide only [zq,↓Zab,↓reduceIte,aOp,Zbb];rfl;obtain ⟨_,_,q1,q2,q3⟩:=hst9.ext e10;cases q1;repeat apply Zaa
 apply ZaF;apply Zay 4;intro _;simp +decide only [zq,List.take,↓Zab,↓reduceIte,aOp,beq_self_eq_true];rfl;dsimp only [List.drop];refine Zb7 (vs:=[slc b8 2 c8,slc b10 2 c10]) (by simp +decide only [zq,beq_self_eq_true]) (by simp +decide only [zq,aevs]) (by decide) (C.mono (eqI_c q2 q3 hc1 hc2) ?_)
 rintro u s' ⟨rfl,e11⟩;apply ZaG;intro _;simp +decide only [zq,↓Zab,↓reduceIte,aOp,ZaH];rfl;refine ZaL ⟨zA _,[.bool true],?_,rfl,e9'.trans (e10.trans e11)⟩;simp +decide only [zq,Zaj]
open Abs
def RI (_:AS) (cs:List Value) (x:Int):Prop:=cs=[.int .i64 x]
theorem RI.kept {E:Nat}:Kept E RI:=fun _ _ _ _ h _ _=>h
theorem Zn5 {σ:AS} {x:Int}:Zaz Tryz.prog σ 22 1 [(0,.int .i64 x)]=some (slc σ.next 1 1,σ.new ⟨1,3,0,[.int .i64 x],[]⟩):=by kernel_rfl
theorem idxStO {b off len cap i:Nat} (h:i<len):Zal Tryz.prog 41 (.slice (some ⟨b,off,none⟩) len cap) (.int .i64 (i:Int))=some (.pointer (some ⟨b,off+i*3,none⟩)):=
 ZaD (inf:=(Tryz.prog.info? 77).get!) Tryz.underlying41 (by kernel_rfl) (by kernel_rfl) h
theorem ZlU {σ:AS} {base:Option Addr} {cap:Nat} {l:List Arc} (hl:l.length≤10000) (hrd:∀i x,l[i]?=some x→∃b off,base=some ⟨b,off,none⟩∧∀σ',Ext σ σ'→Zat Tryz.prog σ' 3 (.pointer (some ⟨b,off+i*2,none⟩))=some (.int .i64 x.1)) :
  C Tryz.prog Kn 0 14 [.slice base l.length cap] σ fun u σ'=>LV 3 1 RI σ.next σ' u (l.map (·.1))∧Ext σ σ':=by
 refine C_of (kn (by decide)) Tryz.func14 rfl (zD rfl) ?_
 show W _ _ _ 20 _ _ _ _;unfold Tryz.f14;dsimp only;repeat apply Zaa
 apply Zad;intro _;simp +decide only [zq,ZaI,↓Zab,↓reduceIte,aOp];rfl;repeat apply Zaa
 apply Zad;intro _;simp +decide only [zq,↓Zab,↓reduceIte,aOp];rfl;repeat apply Zaa
 apply Zad;intro _;simp +decide only [zq,↓Zab,↓reduceIte,aOp];rfl;repeat apply Zaa
 refine Zbs (fun (i:Nat) r s=>i≤l.length∧Ext σ s∧(∃v,rget r 3=v∧LV 3 1 RI σ.next s v ((l.take i).map (·.1)))∧rget r 0=.slice base l.length cap∧rget r 4=.int .i64 (i:Int)) (fun i=>l.length-i) (fun r s=>Ext σ s∧∃v,rget r 3=v∧LV 3 1 RI σ.next s v (l.map (·.1))) ?_ ?_ 0 ?_;rotate_left 2
 ·refine ⟨zH _,Ext.refl _,⟨.slice none 0 0,?_,LV.nil⟩,?_,?_⟩<;>simp +decide only [zq]<;>first|exact True.intro|rfl
 rotate_left
 ·rintro r s ⟨e1,v,h3,hv⟩;repeat apply Zaa
  apply Zad;intro _;simp +decide only [zq,↓Zab,↓reduceIte,aOp,h3];rfl;refine ZaL ⟨zA _,[v],?_,hv,e1⟩;simp +decide only [zq,Zaj]
 rintro i r σ1 ⟨hi,e1,⟨v,h3,hv⟩,h0,h4⟩;have w6:IntKind.i64.wrap ((i:Int)+1)=((i+1:Nat):Int):=by rw [Zas _ (by omega) (by omega)];omega
 by_cases hlt:i<l.length
 rotate_left
 ·have d1:decide ((i:Int)<(l.length:Int))=false:=zI (by omega)
  repeat apply Zaa
  apply Zad;intro _;simp +decide only [zq,↓Zab,↓reduceIte,aOp,Zah,Zan,aevs,Zaf,h0,h4,Tryz.underlying44,goInt,aLen,U.lssI,d1];rfl;repeat apply Zaa
  refine ZaC (by simp +decide only [zq]) ?_
  refine ZaA ⟨fun h=>(nomatch h),fun _=>⟨e1,v,?_,?_⟩,fun h1 h2=>absurd rfl h2⟩
  ·simp +decide only [zq,h3]
  ·rw [zJ (by omega)] at hv;exact hv
 have d1:decide ((i:Int)<(l.length:Int))=true:=zM (by omega)
 repeat apply Zaa
 apply Zad;intro _;simp +decide only [zq,↓Zab,↓reduceIte,aOp,Zah,Zan,aevs,Zaf,h0,h4,Tryz.underlying44,goInt,aLen,U.lssI,d1];rfl;repeat apply Zaa
 refine ZaQ (by simp +decide only [zq]) ?_
 apply Zak;refine ZaM ?_;obtain ⟨x,hx⟩:∃x,l[i]?=some x:=⟨l[i],by simp [hlt]⟩
 obtain ⟨b,off,rfl,hld⟩:=hrd i x hx;have ld:=hld _ e1;have ix:=Zfh (b:=b) (off:=off) (cap:=cap) hlt;have htk:(l.take (i+1)).map (·.1)=(l.take i).map (·.1)++[x.1]:=by rw [zT,hx];simp
 have e2:=Ext.new σ1 ⟨1,3,0,[.int .i64 x.1],[]⟩;have hv2:=hv.ext RI.kept e2;obtain ⟨v2,s2,p1,p2,p3,p4,p5,p6⟩:=hv2.push (T:=22) ZrS RI.kept (e1.trans e2).nxt (x:=x.1) (y:=slc σ1.next 1 1) (new:=[.int .i64 x.1])
  (ZbV (Zaq (BxAt.new σ1 3 [.int .i64 x.1]).get rfl (zA _))) rfl rfl rfl (by rw [List.length_map,zX];omega)
 have E2:Ext σ s2:=Zbt (e1.trans e2) p3 p4 p5 fun q hq=>(hv2.own hq).1;refine Zao ?_;repeat apply Zaa
 apply Zad;intro _;simp +decide only [zq,↓Zab,↓reduceIte,aOp,Zan,Zae,Zac,Zag,Zar,aevs,ZaN,Zaf,h0,h3,h4,ix,fld0,ld,Zn5,p1];rfl;refine Zap ⟨fun _=>?_,fun h=>absurd rfl h⟩;refine Zao ?_;repeat apply Zaa
 apply Zad;intro _;simp +decide only [zq,↓Zab,↓reduceIte,aOp,Zah,h4,U.addI,w6];rfl;refine Zap ⟨fun _=>⟨i+1,by omega,hlt,E2,⟨v2,?_,?_⟩,?_,?_⟩,fun h=>(nomatch h),fun h=>absurd rfl h⟩
 rotate_left
 ·rw [htk];exact p2
 all_goals simp +decide only [zq,h0]
theorem Zqe {σ:AS} {base:Option Addr} {cap:Nat} {l:List Arc} (hl:l.length≤10000) (hrd:∀i x,l[i]?=some x→∃b off,base=some ⟨b,off,none⟩∧∀σ',Ext σ σ'→Zat Tryz.prog σ' 3 (.pointer (some ⟨b,off+i*3,none⟩))=some (.int .i64 x.1)) :
  C Tryz.prog Kn 0 13 [.slice base l.length cap] σ fun u σ'=>LV 3 1 RI σ.next σ' u (l.map (·.1))∧Ext σ σ':=by
 refine C_of (kn (by decide)) Tryz.func13 rfl (zD rfl) ?_
 show W _ _ _ 20 _ _ _ _;unfold Tryz.f13;dsimp only;repeat apply Zaa
 apply Zad;intro _;simp +decide only [zq,ZaI,↓Zab,↓reduceIte,aOp];rfl;repeat apply Zaa
 apply Zad;intro _;simp +decide only [zq,↓Zab,↓reduceIte,aOp];rfl;repeat apply Zaa
 apply Zad;intro _;simp +decide only [zq,↓Zab,↓reduceIte,aOp];rfl;repeat apply Zaa
 refine Zbs (fun (i:Nat) r s=>i≤l.length∧Ext σ s∧(∃v,rget r 3=v∧LV 3 1 RI σ.next s v ((l.take i).map (·.1)))∧rget r 0=.slice base l.length cap∧rget r 4=.int .i64 (i:Int)) (fun i=>l.length-i) (fun r s=>Ext σ s∧∃v,rget r 3=v∧LV 3 1 RI σ.next s v (l.map (·.1))) ?_ ?_ 0 ?_;rotate_left 2
 ·refine ⟨zH _,Ext.refl _,⟨.slice none 0 0,?_,LV.nil⟩,?_,?_⟩<;>simp +decide only [zq]<;>first|exact True.intro|rfl
 rotate_left
 ·rintro r s ⟨e1,v,h3,hv⟩;repeat apply Zaa
  apply Zad;intro _;simp +decide only [zq,↓Zab,↓reduceIte,aOp,h3];rfl;refine ZaL ⟨zA _,[v],?_,hv,e1⟩;simp +decide only [zq,Zaj]
 rintro i r σ1 ⟨hi,e1,⟨v,h3,hv⟩,h0,h4⟩;have w6:IntKind.i64.wrap ((i:Int)+1)=((i+1:Nat):Int):=by rw [Zas _ (by omega) (by omega)];omega
 by_cases hlt:i<l.length
 rotate_left
 ·have d1:decide ((i:Int)<(l.length:Int))=false:=zI (by omega)
  repeat apply Zaa
  apply Zad;intro _;simp +decide only [zq,↓Zab,↓reduceIte,aOp,Zah,Zan,aevs,Zaf,h0,h4,Tryz.underlying41,goInt,aLen,U.lssI,d1];rfl;repeat apply Zaa
  refine ZaC (by simp +decide only [zq]) ?_
  refine ZaA ⟨fun h=>(nomatch h),fun _=>⟨e1,v,?_,?_⟩,fun h1 h2=>absurd rfl h2⟩
  ·simp +decide only [zq,h3]
  ·rw [zJ (by omega)] at hv;exact hv
 have d1:decide ((i:Int)<(l.length:Int))=true:=zM (by omega)
 repeat apply Zaa
 apply Zad;intro _;simp +decide only [zq,↓Zab,↓reduceIte,aOp,Zah,Zan,aevs,Zaf,h0,h4,Tryz.underlying41,goInt,aLen,U.lssI,d1];rfl;repeat apply Zaa
 refine ZaQ (by simp +decide only [zq]) ?_
 apply Zak;refine ZaM ?_;obtain ⟨x,hx⟩:∃x,l[i]?=some x:=⟨l[i],by simp [hlt]⟩
 obtain ⟨b,off,rfl,hld⟩:=hrd i x hx;have ld:=hld _ e1;have ix:=idxStO (b:=b) (off:=off) (cap:=cap) hlt;have htk:(l.take (i+1)).map (·.1)=(l.take i).map (·.1)++[x.1]:=by rw [zT,hx];simp
 have e2:=Ext.new σ1 ⟨1,3,0,[.int .i64 x.1],[]⟩;have hv2:=hv.ext RI.kept e2;obtain ⟨v2,s2,p1,p2,p3,p4,p5,p6⟩:=hv2.push (T:=22) ZrS RI.kept (e1.trans e2).nxt (x:=x.1) (y:=slc σ1.next 1 1) (new:=[.int .i64 x.1])
  (ZbV (Zaq (BxAt.new σ1 3 [.int .i64 x.1]).get rfl (zA _))) rfl rfl rfl (by rw [List.length_map,zX];omega)
 have E2:Ext σ s2:=Zbt (e1.trans e2) p3 p4 p5 fun q hq=>(hv2.own hq).1;refine Zao ?_;repeat apply Zaa
 apply Zad;intro _;simp +decide only [zq,↓Zab,↓reduceIte,aOp,Zan,Zae,Zac,Zag,Zar,aevs,ZaN,Zaf,h0,h3,h4,ix,ZgB,ld,Zn5,p1];rfl;refine Zap ⟨fun _=>?_,fun h=>absurd rfl h⟩;refine Zao ?_;repeat apply Zaa
 apply Zad;intro _;simp +decide only [zq,↓Zab,↓reduceIte,aOp,Zah,h4,U.addI,w6];rfl;refine Zap ⟨fun _=>⟨i+1,by omega,hlt,E2,⟨v2,?_,?_⟩,?_,?_⟩,fun h=>(nomatch h),fun h=>absurd rfl h⟩
 rotate_left
 ·rw [htk];exact p2
 all_goals simp +decide only [zq,h0]
theorem ZmN {σ:AS} {lo lo':Nat} {v w:Value} {l:List Int} (hv:LV 3 1 RI lo σ v l) (hw:LV 3 1 RI lo' σ w l) (hl:l.length≤10000):C Tryz.prog Kn 0 12 [v,w] σ fun u σ'=>u=.bool true∧Ext σ σ':=by
 obtain ⟨va,vc,rfl⟩:=hv.len;obtain ⟨wa,wc,rfl⟩:=hw.len;refine C_of (kn (by decide)) Tryz.func12 rfl (zD rfl) ?_
 show W _ _ _ 26 _ _ _ _;unfold Tryz.f12;dsimp only;have n0:((l.length:Int) != (l.length:Int))=false:=by rw [bne_self_eq_false]
 repeat apply Zaa
 apply Zad;intro _;simp +decide only [zq,ZaI,↓Zab,↓reduceIte,aOp];rfl;repeat apply Zaa
 apply Zad;intro _;simp +decide only [zq,↓Zab,↓reduceIte,aOp,Zah,Zan,aevs,Zaf,Tryz.underlying22,goInt,aLen,U.neII,n0];rfl;repeat apply Zaa
 refine ZaC (by simp +decide only [zq]) ?_
 apply Zak;repeat apply Zaa
 apply Zad;intro _;simp +decide only [zq,↓Zab,↓reduceIte,aOp];rfl;repeat apply Zaa
 refine Zbs (fun (i:Nat) r s=>i≤l.length∧Ext σ s∧rget r 0=.slice va l.length vc∧rget r 1=.slice wa l.length wc∧rget r 5=.int .i64 (i:Int)) (fun i=>l.length-i) (fun r s=>Ext σ s) ?_ ?_ 0 ?_;rotate_left 2
 ·refine ⟨zH _,Ext.refl _,?_,?_,?_⟩<;>simp +decide only [zq]<;>first|exact True.intro|rfl
 rotate_left
 ·rintro r s e1;repeat apply Zaa
  apply Zad;intro _;simp +decide only [zq,↓Zab,↓reduceIte,aOp];rfl;refine ZaL ⟨zA _,[.bool true],?_,rfl,e1⟩;simp +decide only [zq,Zaj]
 rintro i r σ1 ⟨hi,e1,h0,h1,h5⟩;have w6:IntKind.i64.wrap ((i:Int)+1)=((i+1:Nat):Int):=by rw [Zas _ (by omega) (by omega)];omega
 by_cases hlt:i<l.length
 rotate_left
 ·have d1:decide ((i:Int)<(l.length:Int))=false:=zI (by omega)
  repeat apply Zaa
  apply Zad;intro _;simp +decide only [zq,↓Zab,↓reduceIte,aOp,Zah,Zan,aevs,Zaf,h0,h5,Tryz.underlying22,goInt,aLen,U.lssI,d1];rfl;repeat apply Zaa
  refine ZaC (by simp +decide only [zq]) ?_
  exact ZaA ⟨fun h=>(nomatch h),fun _=>e1,fun h1 h2=>absurd rfl h2⟩
 have d1:decide ((i:Int)<(l.length:Int))=true:=zM (by omega)
 repeat apply Zaa
 apply Zad;intro _;simp +decide only [zq,↓Zab,↓reduceIte,aOp,Zah,Zan,aevs,Zaf,h0,h5,Tryz.underlying22,goInt,aLen,U.lssI,d1];rfl;repeat apply Zaa
 refine ZaQ (by simp +decide only [zq]) ?_
 apply Zak;refine ZaM ?_;obtain ⟨x,hx⟩:∃x,l[i]?=some x:=⟨l[i],by simp [hlt]⟩
 obtain ⟨b,c,cs,e2,-,hb,hc,rfl⟩:=hv.at hx;obtain ⟨b',c',cs',e3,-,hb',hc',rfl⟩:=hw.at hx;rw [e2] at h0;rw [e3] at h1;rw [Nat.zero_add] at hc hc';have E1:=e1.trans (Ext.reset σ1);have lx:Zat Tryz.prog σ1.reset 3 (.pointer (some ⟨b,i*1,none⟩))=some (.int .i64 x):=Zaw Tryz.underlying3 rfl (by rw [E1.cells (a:=⟨b,i*1,none⟩) hb];exact hc)
 have ly:Zat Tryz.prog σ1.reset 3 (.pointer (some ⟨b',i*1,none⟩))=some (.int .i64 x):=Zaw Tryz.underlying3 rfl (by rw [E1.cells (a:=⟨b',i*1,none⟩) hb'];exact hc')
 have ix:=idxI (b:=b) (cap:=c) hlt;have iy:=idxI (b:=b') (cap:=c') hlt;have nx:(x != x)=false:=by rw [bne_self_eq_false]
 repeat apply Zaa
 refine Za8 [] [] (by kernel_rfl) (by kernel_rfl) ?_
 apply ZaO;intro _;simp +decide only [zq,zr,aQ,↓Zab,↓reduceIte,aOp,Zah,Zae,Zag,h0,h1,h5,ix,iy,lx,ly,U.neII,nx];rfl;have e4:Ext σ1 (σ1.merge σ1.reset):=(Ext.refl _).merge;generalize σ1.merge σ1.reset=σ2 at e4;show W _ _ _ 26 _ _ _ _;refine Zao ?_;repeat apply Zaa
 refine ZaC (by simp +decide only [zq]) ?_
 apply Zak;refine Zap ⟨fun _=>?_,fun h=>absurd rfl h⟩;refine Zao ?_;repeat apply Zaa
 apply Zad;intro _;simp +decide only [zq,↓Zab,↓reduceIte,aOp,Zah,h5,U.addI,w6];rfl;refine Zap ⟨fun _=>⟨i+1,by omega,hlt,e1.trans e4,?_,?_,?_⟩,fun h=>(nomatch h),fun h=>absurd rfl h⟩<;>simp +decide only [zq,h0,h1,e2,e3]
open Abs
theorem beqB (xo yo:Operand) (c:Bool):aBin Tryz.prog .eql 4 xo yo (.bool c) (.bool c)=some (.bool true):=by cases c<;>kernel_rfl
theorem ZoQ {L:Lts} (hN:L.length≤400):(ZgO L).length≤2000∧(loopF L).length≤2000:=by
 unfold ZgO loopF;by_cases h1:(outY L).found=true
 ·have hop:=(ZdQ L hN L.length (Zcu L.length) 0 rfl (by show 0+L.length≤1000;omega)).yes h1
  have hop1:(outY L).stem.length≤2000:=hop.1;have hop2:(outY L).loop.length≤1001:=hop.2;rw [if_pos h1,if_pos h1];omega
 ·rw [if_neg h1,if_neg h1];exact ⟨zH _,zH _⟩
def EvAt (σ:AS) (z:Nat) (v:Value) (l:List Arc):Prop:=∃base cap,v=.slice base l.length cap∧∀i x,l[i]?=some x→∃b off,base=some ⟨b,off,none⟩∧∀σ',Ext σ σ'→Zat Tryz.prog σ' 3 (.pointer (some ⟨b,off+i*z,none⟩))=some (.int .i64 x.1)
theorem EvAt.ext {σ s:AS} {z:Nat} {v:Value} {l:List Arc} (h:EvAt σ z v l) (e:Ext σ s):EvAt s z v l:=by
 obtain ⟨base,cap,h1,h2⟩:=h;refine ⟨base,cap,h1,fun i x hx=>?_⟩;obtain ⟨b,off,h3,h4⟩:=h2 i x hx;exact ⟨b,off,h3,fun σ' e'=>h4 σ' (e.trans e')⟩
theorem ZoX {E z lo:Nat} {R:AS→List Value→Arc→Prop} {σ:AS} {v:Value} {l:List Arc} (hz:1≤z) (hR:∀σ cs x,R σ cs x→cs.head?=some (.int .i64 x.1)) (h:LV E z R lo σ v l):EvAt σ z v l:=by
 obtain ⟨a,c,hv⟩:=h.len;refine ⟨a,c,hv,fun i x hx=>?_⟩;obtain ⟨b,c',cs,e1,-,h2,h3,h4⟩:=h.at hx;rw [hv] at e1;cases e1;refine ⟨b,0,rfl,fun σ' e=>Zaw Tryz.underlying3 rfl ?_⟩;have h5:=U.Zes (i:=0) (m:=1) h3 (by omega)
 rw [e.cells (a:=⟨b,0+i*z,none⟩) h2];have h6:=hR _ _ _ h4;cases cs with
 | nil=>cases h6
 | cons y cs=>cases h6;exact h5
theorem Zjb {lo lo':Nat} {σ:AS} {v:Value} {l:List Arc} (h:LV 77 3 (RSt lo) lo' σ v l):EvAt σ 3 v l:=ZoX (by decide) (fun _ cs _ h=>by obtain ⟨_,_,_,_,rfl,_⟩:=h;rfl) h
theorem Zjc {lo:Nat} {σ:AS} {v:Value} {l:List Arc} (h:LV 57 2 RArc lo σ v l):EvAt σ 2 v l:=ZoX (by decide) (fun _ cs _ h=>by rw [show cs=_ from h];rfl) h
theorem ZfL {σ:AS} {v:Value} {l:List Arc} (h:EvAt σ 3 v l) (hl:l.length≤10000):C Tryz.prog Kn 0 13 [v] σ fun u σ'=>LV 3 1 RI σ.next σ' u (l.map (·.1))∧Ext σ σ':=by
 obtain ⟨base,cap,rfl,h2⟩:=h;exact Zqe hl h2
theorem Zjl {σ:AS} {v:Value} {l:List Arc} (h:EvAt σ 2 v l) (hl:l.length≤10000):C Tryz.prog Kn 0 14 [v] σ fun u σ'=>LV 3 1 RI σ.next σ' u (l.map (·.1))∧Ext σ σ':=by
 obtain ⟨base,cap,rfl,h2⟩:=h;exact ZlU hl h2
theorem law_c {σ:AS} {tv:Value} {ints:List Int} (ht:RS 1 RInt σ tv ints) (htl:ints.length≤2^62):C Tryz.prog Kn 0 3 [tv] σ fun v _=>v=.bool true:=by
 refine C_of (kn (by decide)) Tryz.func3 rfl (zD rfl) ?_
 show W _ _ _ 89 _ _ _ _;unfold Tryz.f3;dsimp only;repeat apply Zaa
 apply Zad;intro _;simp +decide only [zq,ZaI,↓Zab,↓reduceIte,aOp];rfl;repeat apply Zaa
 apply ZaF;apply Zay 1;intro _;simp +decide only [zq,List.take,↓Zab,↓reduceIte,aOp];rfl;dsimp only [List.drop];refine ZaV (vs:=[tv]) (by simp +decide only [zq,aevs]) (by decide) (C.mono (ZpQ ht htl) ?_)
 rintro v σ1 ⟨rfl,TP,ET⟩;generalize htb:σ.next=tb at TP;apply ZaG;intro _;simp +decide only [zq,↓Zab,↓reduceIte,aOp];rfl;clear ET;repeat apply Zaa
 apply ZaF;apply Zay 1;intro _;simp +decide only [zq,List.take,↓Zab,↓reduceIte,aOp];rfl;dsimp only [List.drop];refine ZaV (vs:=[.pointer (some ⟨tb,0,none⟩),.int .i64 6]) (by simp +decide only [zq,aevs]) (by decide) (C.mono (chain insert lts TP (by omega) (n:=6) (by omega) (by omega)) ?_)
 rintro v σ2 ⟨lb,L,cap,rfl,hlb,-,E1,GN,hL1,hL2,hch,hL6⟩;have hsL:RS 1 RRow σ2 (.slice (some ⟨lb,0,none⟩) L.length cap) L:=RS.shown RRow.shown GN.rs;have hl0:∀row∈L,row.length≤100∧∀a∈row,0≤a.1∧0≤a.2:=fun row hr=>by
  obtain ⟨k,hk⟩:=List.mem_iff_getElem?.1 hr;obtain ⟨-,g2,g3⟩:=hch.1 k row hk;have g3:row.length≤4:=g3;exact ⟨by omega,fun a ha=>⟨(evs_ok _ (g2 a ha)).1,((GN.row row hr).2 a ha).1⟩⟩
 refine ZaV (vs:=[.agg #[.slice (some ⟨lb,0,none⟩) L.length cap]]) (by simp +decide only [zq,aevs]) (by decide) (C.mono (ZoD hsL (by omega) hl0) ?_)
 rintro v σ3 ⟨⟨ov,LN,rfl,hout,hlen,hLst⟩,e3⟩;have F0:=fit_of hch hL1 (by omega) (fun l hl a ha=>(GN.row l hl).2 a ha) hlen hLst
 clear hsL hl0 hLst;refine ZaV (vs:=[.agg #[ov]]) (by simp +decide only [zq,aevs]) (by decide) (C.mono (ZlI (Zoi hout) F0.pos (by have:=F0.len;omega) (fun r hr=>by have:=F0.row r hr;omega) F0.to) ?_)
 rintro v σ4 ⟨⟨lo4,uv,olv,K,rfl,hlo4,hD,hout4⟩,e4⟩;have F:=F0.done hD;have hC:=ZlD hD;have hA:=Zqh hD;clear hD F0;generalize (Can.rounds LN K).2=LK at hout4 F hC hA;obtain ⟨ua,uc,huv⟩:=hout4.len;have st4:ZaK Tryz.prog (σ4.new ⟨1,27,0,[.slice none 0 0],[]⟩) 27 (.agg #[uv]) (.pointer (some ⟨σ4.next,0,none⟩))=some ((σ4.new ⟨1,27,0,[.slice none 0 0],[]⟩).put σ4.next ⟨1,27,0,[uv],[]⟩):=by rw [huv];exact ZdM (by rw [AS.get_new,if_pos rfl])
 apply ZaG;intro _;simp +decide only [zq,↓Zab,↓reduceIte,aOp,ZaE,Zbb,unn,ZcP,st4];rfl;have e5:Ext σ4 ((σ4.new ⟨1,27,0,[.slice none 0 0],[]⟩).put σ4.next ⟨1,27,0,[uv],[]⟩):=Ext.put (Ext.new _ _) (zA _) _;have C5:BxAt ((σ4.new ⟨1,27,0,[.slice none 0 0],[]⟩).put σ4.next ⟨1,27,0,[uv],[]⟩) 27 σ4.next [uv]:=⟨zG _,by rw [AS.get_put,if_pos rfl]⟩
 generalize hcb:σ4.next=cb at C5 ⊢;have hout5:=hout4.ext RRw.kept e5;rw [hcb] at hout5;generalize (σ4.new ⟨1,27,0,[.slice none 0 0],[]⟩).put cb ⟨1,27,0,[uv],[]⟩=σ5 at C5 hout5;clear e5 st4 hout4;have hrs5:=Zoi hout5;have ld5:Zat Tryz.prog σ5 27 (.pointer (some ⟨cb,0,none⟩))=some (.agg #[uv]):=ZbK Tryz.underlying27 rfl (i:=(Tryz.prog.info? 27).get!) (by kernel_rfl) (by rw [show ((Tryz.prog.info? 27).get!).size=1 by kernel_rfl];exact Zaq C5.get rfl (by simp))
 have hlen5:=Zcv LK;have hF6:=F.len;repeat apply Zaa
 apply ZaF;apply Zay 1;intro _;simp +decide only [zq,List.take,↓Zab,↓reduceIte,aOp,Zag,ld5];rfl;dsimp only [List.drop];refine ZaV (vs:=[.agg #[uv]]) (by simp +decide only [zq,aevs]) (by decide) (C.mono (wrap_c hrs5 (by omega) (fun row hr=>by have:=F.len_row hr;omega) (fun row hr a ha=>(F.arc hr ha).1.2.2)) ?_)
 rintro v σ6 ⟨⟨d,rfl,hdl,hM6⟩,e6⟩;have st6:ZaK Tryz.prog (σ6.new ⟨1,35,0,[.slice none 0 0,.slice none 0 0],[]⟩) 35 d.val (.pointer (some ⟨σ6.next,0,none⟩))=some ((σ6.new ⟨1,35,0,[.slice none 0 0,.slice none 0 0],[]⟩).put σ6.next ⟨1,35,0,d.cells,[]⟩):=Zk6 (by rw [AS.get_new,if_pos rfl])
 apply ZaG;intro _;simp +decide only [zq,↓Zab,↓reduceIte,aOp,ZaE,unn,ZlZ,st6];rfl;have e7:Ext σ6 ((σ6.new ⟨1,35,0,[.slice none 0 0,.slice none 0 0],[]⟩).put σ6.next ⟨1,35,0,d.cells,[]⟩):=Ext.put (Ext.new _ _) (zA _) _;have B7:BxAt ((σ6.new ⟨1,35,0,[.slice none 0 0,.slice none 0 0],[]⟩).put σ6.next ⟨1,35,0,d.cells,[]⟩) 35 σ6.next d.cells:=⟨zG _,by rw [AS.get_put,if_pos rfl]⟩
 generalize hmb:σ6.next=mb at B7 ⊢;have hM7:=hM6.ext e7;have hout7:=hout5.ext RRw.kept (e6.trans e7);rw [hmb] at hM7 hout7;generalize (σ6.new ⟨1,35,0,[.slice none 0 0,.slice none 0 0],[]⟩).put mb ⟨1,35,0,d.cells,[]⟩=σ7 at B7 hM7 hout7;clear e7 e6 st6 hM6 hout5 hrs5 ld5 C5;have hne:LK≠[]:=List.length_pos_iff.1 F.pos;have hou:∀s,Ext σ7 s→U.OutR s d.lv LK:=fun s e=>by rw [hdl];exact ZpJ (hout7.ext RRw.kept e) hne
 have hru:∀s,Ext σ7 s→C Tryz.prog Kn 0 84 [d.val] s fun v s'=>v=.bool true∧Ext s s':=fun s e=>
  Zrf (hM7.ext e) (fun x hx=>by have:=ZqS x hx;omega) (ZiD _ _) (by have:=ZlA (castL LK) 1026;omega) fun s' e'=>U.ZlJ (hou s' (e.trans e')) F.small hC
 have O:=F.lok hA;have lm7:=Mach.ldM B7;repeat apply Zaa
 apply ZaF;apply Zay 1;intro _;simp +decide only [zq,List.take,↓Zab,↓reduceIte,aOp,Zag,lm7];rfl;dsimp only [List.drop];refine ZaV (vs:=[d.val,.int .i64 16384]) (by simp +decide only [zq,aevs]) (by decide) (C.mono (ZoW rfl O hM7 F.small hC hru) ?_)
 rintro v σ8 ⟨⟨ov8,u8,rfl,hrs8⟩,e8⟩;obtain ⟨oa8,oc8,hov8,-⟩:=id hrs8;have st8:ZaK Tryz.prog (σ8.new ⟨1,27,0,[.slice none 0 0],[]⟩) 27 (.agg #[ov8]) (.pointer (some ⟨σ8.next,0,none⟩))=some ((σ8.new ⟨1,27,0,[.slice none 0 0],[]⟩).put σ8.next ⟨1,27,0,[ov8],[]⟩):=by rw [hov8];exact ZdM (by rw [AS.get_new,if_pos rfl])
 apply ZaG;intro _;simp +decide only [zq,↓Zab,↓reduceIte,aOp,ZaE,Zbb,unn,ZcP,st8];rfl;have e9:Ext σ8 ((σ8.new ⟨1,27,0,[.slice none 0 0],[]⟩).put σ8.next ⟨1,27,0,[ov8],[]⟩):=Ext.put (Ext.new _ _) (zA _) _;have C9:BxAt ((σ8.new ⟨1,27,0,[.slice none 0 0],[]⟩).put σ8.next ⟨1,27,0,[ov8],[]⟩) 27 σ8.next [ov8]:=⟨zG _,by rw [AS.get_put,if_pos rfl]⟩
 have B8:=B7.ext (e8.trans e9);have hM8:=hM7.ext (e8.trans e9);have hrs9:=hrs8.ext RRow.keeps e9;have e89:=e8.trans e9;generalize hgb:σ8.next=gb at C9 B8 hM8 hrs9 e89 ⊢;generalize (σ8.new ⟨1,27,0,[.slice none 0 0],[]⟩).put gb ⟨1,27,0,[ov8],[]⟩=σ9 at C9 B8 hM8 hrs9 e89;clear e9 e8 st8 hrs8;have nz0:((0:Int) != 0)=false:=by decide
 repeat apply Zaa
 apply Zad;intro _;simp +decide only [zq,↓Zab,↓reduceIte,aOp,Zah,U.neII,nz0];rfl;repeat apply Zaa
 refine ZaC (by simp +decide only [zq]) ?_
 apply Zak;have hacc:AccC σ9 d:=fun s e=>ZnF (hM8.ext e) (by rw [hlen5];exact F.pos) fun s' e'=>hru s' (e89.trans (e.trans e'))
 have lm9:=Mach.ldM B8;repeat apply Zaa
 apply ZaF;apply Zay 1;intro _;simp +decide only [zq,List.take,↓Zab,↓reduceIte,aOp,Zag,lm9];rfl;dsimp only [List.drop];refine ZaV (vs:=[d.val,.int .i64 16384]) (by simp +decide only [zq,aevs]) (by decide) (C.mono (ZrN (M:=16384) O (by rw [hlen5];exact F.pos) hM8 hacc (by decide) (by omega)) ?_)
 rintro v σ10 ⟨⟨pv,qv,lo,lo1,lo2,rfl,hp,hq,hl0,hl1,hl2⟩,e10⟩;apply ZaG;intro _;simp +decide only [zq,↓Zab,↓reduceIte,aOp,Zbb];rfl;have C10:=C9.ext e10;have ld10:Zat Tryz.prog σ10 27 (.pointer (some ⟨gb,0,none⟩))=some (.agg #[ov8]):=ZbK Tryz.underlying27 rfl (i:=(Tryz.prog.info? 27).get!) (by kernel_rfl) (by rw [show ((Tryz.prog.info? 27).get!).size=1 by kernel_rfl];exact Zaq C10.get rfl (by simp))
 repeat apply Zaa
 apply ZaF;apply Zay 1;intro _;simp +decide only [zq,List.take,↓Zab,↓reduceIte,aOp,Zag,ld10];rfl;dsimp only [List.drop];refine ZaV (vs:=[.agg #[ov8]]) (by simp +decide only [zq,aevs]) (by decide) (C.mono (find_c (hrs9.ext RRow.keeps e10) F.smallL (F.valid hA) (by omega) (fun row hr=>by have:=F.len_row hr;omega)) ?_)
 rintro v σ11 ⟨⟨pv2,qv2,lo3,lo4,rfl,hp2,hq2⟩,e11⟩;apply ZaG;intro _;simp +decide only [zq,↓Zab,↓reduceIte,aOp,Zbb];rfl;have hp:=hp.ext RSt.kept e11;have hq:=hq.ext RSt.kept e11;have E11:=e10.trans e11;have hM9:=hM8.ext E11;have B9:=B8.ext E11;have hacc:AccC σ11 d:=fun s e=>hacc s (E11.trans e);have hfl:=ZoQ (L:=castL LK) (by omega)
 cases hf:(outY (castL LK)).found with
 | true=>
  have hlas:=ZpK F.wf (by omega) hf
  have hlas:∃e,Za6 (castL LK) 0 (ZgO (castL LK))=(e,true)∧loopF (castL LK)≠[]∧(∀a∈loopF (castL LK),a.1=0)∧Za6 (castL LK) e (loopF (castL LK))=(e,true):=by unfold ZgO loopF;rw [if_pos hf,if_pos hf];exact hlas
  repeat apply Zaa
  apply ZaF;apply Zay 13;intro _;simp +decide only [zq,List.take,↓Zab,↓reduceIte,aOp,Zah,ZaH,beq_self_eq_true,beqB,U.eqII];rfl;dsimp only [List.drop];refine Zb7 (vs:=[pv]) (by simp +decide only [zq,beq_self_eq_true]) (by simp +decide only [zq,aevs]) (by decide) (C.mono (ZfL (Zjb hp) (by omega)) ?_)
  rintro u1 s1 ⟨a1,x1⟩;apply Zay 1;intro _;simp +decide only [zq,List.take,↓Zab,↓reduceIte,aOp,beq_self_eq_true];rfl;dsimp only [List.drop];refine Zb7 (vs:=[pv2]) (by simp +decide only [zq,beq_self_eq_true]) (by simp +decide only [zq,aevs]) (by decide) (C.mono (Zjl ((Zjc hp2).ext x1) (by omega)) ?_)
  rintro u2 s2 ⟨a2,x2⟩;refine Zb7 (vs:=[u1,u2]) (by simp +decide only [zq,beq_self_eq_true]) (by simp +decide only [zq,aevs]) (by decide) (C.mono (ZmN (a1.ext RI.kept x2) a2 (by rw [List.length_map];omega)) ?_)
  rintro u3 s3 ⟨rfl,x3⟩;apply Zay 3;intro _;simp +decide only [zq,List.take,↓Zab,↓reduceIte,aOp,ZaH,beq_self_eq_true];rfl;dsimp only [List.drop];refine Zb7 (vs:=[qv]) (by simp +decide only [zq,beq_self_eq_true]) (by simp +decide only [zq,aevs]) (by decide) (C.mono (ZfL ((Zjb hq).ext (x1.trans (x2.trans x3))) (by omega)) ?_)
  rintro u4 s4 ⟨a4,x4⟩;apply Zay 1;intro _;simp +decide only [zq,List.take,↓Zab,↓reduceIte,aOp,beq_self_eq_true];rfl;dsimp only [List.drop];refine Zb7 (vs:=[qv2]) (by simp +decide only [zq,beq_self_eq_true]) (by simp +decide only [zq,aevs]) (by decide) (C.mono (Zjl ((Zjc hq2).ext (x1.trans (x2.trans (x3.trans x4)))) (by omega)) ?_)
  rintro u5 s5 ⟨a5,x5⟩;refine Zb7 (vs:=[u4,u5]) (by simp +decide only [zq,beq_self_eq_true]) (by simp +decide only [zq,aevs]) (by decide) (C.mono (ZmN (a4.ext RI.kept x5) a5 (by rw [List.length_map];omega)) ?_)
  rintro u6 s6 ⟨rfl,x6⟩;have X:=x1.trans (x2.trans (x3.trans (x4.trans (x5.trans x6))));have lm6:=Mach.ldM (B9.ext X);apply Zay 8;intro _;simp +decide only [zq,List.take,↓Zab,↓reduceIte,aOp,opUn,Zag,ZaH,beq_self_eq_true,Bool.not_true,U.not_b,lm6];rfl;dsimp only [List.drop];refine Zb7 (vs:=[d.val,pv,qv]) (by simp +decide only [zq,beq_self_eq_true]) (by simp +decide only [zq,aevs]) (by decide) (C.mono (isML_c O (hM9.ext X) (fun s e=>hacc s (X.trans e)) ((ZmK hp hl0 hl1).ext RSt.kept X) ((ZmK hq hl0 hl2).ext RSt.kept X) (by omega) (by omega) hlas) ?_)
  rintro u7 s7 ⟨rfl,x7⟩;apply Zay 3;intro _;simp +decide only [zq,List.take,↓Zab,↓reduceIte,aOp,ZaH,beq_self_eq_true];rfl;dsimp only [List.drop];refine Zb7 (vs:=[]) (by simp +decide only [zq,beq_self_eq_true]) (by simp +decide only [aevs]) (by decide) (C.mono (U.ZqC) ?_)
  rintro u8 s8 ⟨rfl,x8⟩;apply ZaG;intro _;simp +decide only [zq,↓Zab,↓reduceIte,aOp,ZaH];rfl;refine ZaL ⟨zA _,[.bool true],?_,rfl⟩;simp +decide only [zq,Zaj]
 | false=>
  repeat apply Zaa
  apply ZaF;apply Zay 13;intro _;simp +decide only [zq,List.take,↓Zab,↓reduceIte,aOp,Zah,ZaH,beq_self_eq_true,beqB,U.eqII];rfl;dsimp only [List.drop];refine Zb7 (vs:=[pv]) (by simp +decide only [zq,beq_self_eq_true]) (by simp +decide only [zq,aevs]) (by decide) (C.mono (ZfL (Zjb hp) (by omega)) ?_)
  rintro u1 s1 ⟨a1,x1⟩;apply Zay 1;intro _;simp +decide only [zq,List.take,↓Zab,↓reduceIte,aOp,beq_self_eq_true];rfl;dsimp only [List.drop];refine Zb7 (vs:=[pv2]) (by simp +decide only [zq,beq_self_eq_true]) (by simp +decide only [zq,aevs]) (by decide) (C.mono (Zjl ((Zjc hp2).ext x1) (by omega)) ?_)
  rintro u2 s2 ⟨a2,x2⟩;refine Zb7 (vs:=[u1,u2]) (by simp +decide only [zq,beq_self_eq_true]) (by simp +decide only [zq,aevs]) (by decide) (C.mono (ZmN (a1.ext RI.kept x2) a2 (by rw [List.length_map];omega)) ?_)
  rintro u3 s3 ⟨rfl,x3⟩;apply Zay 3;intro _;simp +decide only [zq,List.take,↓Zab,↓reduceIte,aOp,ZaH,beq_self_eq_true];rfl;dsimp only [List.drop];refine Zb7 (vs:=[qv]) (by simp +decide only [zq,beq_self_eq_true]) (by simp +decide only [zq,aevs]) (by decide) (C.mono (ZfL ((Zjb hq).ext (x1.trans (x2.trans x3))) (by omega)) ?_)
  rintro u4 s4 ⟨a4,x4⟩;apply Zay 1;intro _;simp +decide only [zq,List.take,↓Zab,↓reduceIte,aOp,beq_self_eq_true];rfl;dsimp only [List.drop];refine Zb7 (vs:=[qv2]) (by simp +decide only [zq,beq_self_eq_true]) (by simp +decide only [zq,aevs]) (by decide) (C.mono (Zjl ((Zjc hq2).ext (x1.trans (x2.trans (x3.trans x4)))) (by omega)) ?_)
  rintro u5 s5 ⟨a5,x5⟩;refine Zb7 (vs:=[u4,u5]) (by simp +decide only [zq,beq_self_eq_true]) (by simp +decide only [zq,aevs]) (by decide) (C.mono (ZmN (a4.ext RI.kept x5) a5 (by rw [List.length_map];omega)) ?_)
  rintro u6 s6 ⟨rfl,x6⟩;have X:=x1.trans (x2.trans (x3.trans (x4.trans (x5.trans x6))));apply Zay 12;intro _;simp +decide only [zq,List.take,↓Zab,↓reduceIte,aOp,opUn,ZaH,beq_self_eq_true,Bool.not_false,Bool.true_beq,U.not_b];rfl;dsimp only [List.drop];refine Zb7 (vs:=[]) (by simp +decide only [zq,beq_self_eq_true]) (by simp +decide only [aevs]) (by decide) (C.mono (U.ZqC) ?_)
  rintro u8 s8 ⟨rfl,x8⟩;apply ZaG;intro _;simp +decide only [zq,↓Zab,↓reduceIte,aOp,ZaH];rfl;refine ZaL ⟨zA _,[.bool true],?_,rfl⟩;simp +decide only [zq,Zaj]
end Go.Proofs.YteangeffgjolpaaGreatDoor.Nest
namespace Go.Proofs.YteangeffgjolpaaGreatDoor.Abs
noncomputable def ZeO (n:Nat):Ren:=⟨fun i=>if i<n then some i else none,fun _=>(0,0)⟩
theorem idRen_bl {n i b:Nat}:(ZeO n).bl i=some b↔i<n∧b=i:=by
 simp only [ZeO];split
 ·rename_i h;simp [h,eq_comm]
 ·rename_i h;simp [h]
open Classical in
noncomputable def seen (n:Nat) (v:Value):Value:=if VRel (ZeO n) v v then v else match v with
 | .slice (some a) 0 0=>.slice (some (Zp0 a)) 0 0
 | _=>.chan none
theorem Zfv {n:Nat} {v:Value} (h:VRel (ZeO n) v v):seen n v=v:=by unfold seen;rw [if_pos h]
theorem Zrs {ρ:Ren} (a:Addr):VRel ρ (.slice (some (Zp0 a)) 0 0) (.slice (some a) 0 0):=vrel_slice.2 (.inr ⟨by simp [Zp0],rfl,rfl,by rw [Zrt]⟩)
theorem ZpD {n:Nat} {v:Value} (h:known (seen n v)=true):VRel (ZeO n) (seen n v) v:=by
 unfold seen at h ⊢;split
 ·rename_i hr;exact hr
 ·rename_i hr;rw [if_neg hr] at h;rcases Classical.em (∃a,v=.slice (some a) 0 0) with ⟨a,rfl⟩|hs
  ·exact Zrs a
  ·exfalso
   split at h
   ·exact hs ⟨_,rfl⟩
   ·cases h
def Good (n:Nat) (v:Value):Prop:=VRel (ZeO n) v v∨∃a,v=.slice (some a) 0 0
theorem Good.known {n:Nat} {v:Value} (h:Good n v):known (seen n v)=true:=by
 unfold seen;split
 ·rename_i hr;cases v<;>first|rfl|skip
  rename_i r;obtain ⟨_,_,e⟩:=ZcD hr;cases e
 ·rename_i hr;rcases h with h|⟨a,rfl⟩
  ·exact absurd h hr
  ·rfl
noncomputable def Zc2 (w:World) (i:Nat):Blk:=match w.heap[i]? with
 | some (.cells c e _)=>⟨5,e,0,c.toList.map (seen w.heap.size),[]⟩
 | _=>Blk.dead
noncomputable def Zde (w:World):AS:=⟨w.heap.size,w.heap.size,Zhs (Zc2 w) w.heap.size⟩
theorem Zge (w:World) {i:Nat} (h:i<w.heap.size):(Zde w).get i=Zc2 w i:=by
 show hget (Zhs _ _) i=_;rw [Zls,if_pos h]
theorem Zli (w:World) (i:Nat):(Zc2 w i).kind=0∨(Zc2 w i).kind=5:=by
 unfold Zc2;split
 ·exact .inr rfl
 ·exact .inl rfl
theorem ZpV (G:Nat) (w:World) (hG:G≤w.heap.size):R G (ZeO w.heap.size) (Zde w) w:=by
 refine ⟨fun i b hi=>?_,fun i j b hi hj _ _=>?_,fun g hg=>idRen_bl.2 ⟨by omega,rfl⟩,hG⟩
 ·obtain ⟨h1,rfl⟩:=idRen_bl.1 hi;refine ⟨h1,w.heap[b],by simp [h1],?_⟩
  rw [Zge w h1];unfold Zc2;have e:w.heap[b]?=some w.heap[b]:=by simp [h1]
  rw [e];split
  ·rename_i c el fr hc;rw [Option.some.inj hc];refine ⟨c,fr,rfl,fun j v hj hk=>?_⟩;rw [List.getElem?_map] at hj;cases hcj:c.toList[j]? with
   | none=>rw [hcj] at hj;cases hj
   | some u=>
    rw [hcj] at hj;simp only [Option.map_some,Option.some.injEq] at hj;refine ⟨u,by simpa using hcj,?_⟩
    rw [←hj] at hk;rw [←hj];exact ZpD hk
  ·trivial
 ·obtain ⟨_,rfl⟩:=idRen_bl.1 hi;obtain ⟨_,rfl⟩:=idRen_bl.1 hj;rfl
theorem Zj4 {w:World} {a:Addr} {n:Nat} {cs:List Value} {c:Array Value} {e:TypeId} {fr:Nat×Nat} (hw:w.heap[a.block]?=some (.cells c e fr))
  (hcs:∀j v,cs[j]?=some v→c[a.off+j]?=some v) (hn:cs.length=n) (hz:a.off+n≤c.size) (hv:∀v∈cs,Good w.heap.size v):Zav (Zde w) a n=some (cs.map (seen w.heap.size)):=by
 have hlt:a.block<w.heap.size:=by
  rcases Nat.lt_or_ge a.block w.heap.size with h|h
  ·exact h
  ·simp [Array.getElem?_eq_none h] at hw
 have hb:(Zde w).get a.block=⟨5,e,0,c.toList.map (seen w.heap.size),[]⟩:=by
  rw [Zge w hlt];unfold Zc2;rw [hw]
 have hval:((c.toList.map (seen w.heap.size)).drop a.off).take n=cs.map (seen w.heap.size):=by
  apply List.ext_getElem?;intro j;rcases Nat.lt_or_ge j n with hj|hj
  ·rw [List.getElem?_take_of_lt hj,List.getElem?_drop,List.getElem?_map,List.getElem?_map];have:cs[j]?=some cs[j]:=by simp [hn,hj]
   have h2:=hcs j _ this;rw [this];have h3:c.toList[a.off+j]?=some cs[j]:=by simpa using h2
   rw [h3]
  ·rw [zV (by rw [zX];omega),zV (by rw [List.length_map];omega)]
 unfold Zav;rw [hb];have e1:Zcm (⟨5,e,0,c.toList.map (seen w.heap.size),[]⟩:Blk)=false:=rfl;rw [e1,if_neg (by simp)]
 dsimp only;rw [hval,ZaJ];rw [if_pos];simp only [Bool.and_eq_true,Nat.beq_eq,Nat.ble_eq,List.length_map,Array.length_toList,List.all_eq_true];refine ⟨⟨trivial,hz⟩,fun x hx=>?_⟩;obtain ⟨v,hv1,rfl⟩:=List.mem_map.1 hx;exact (hv v hv1).known
theorem Zj5 {P:Program} {K:Tbl} (hp:ProgOk P) (hk:KOk P K) {f:FuncId} {args:List Value} {W:World} (ha:∀v∈args,VRel (ZeO W.heap.size) v v)
  (h:C P K 0 f args (Zde W) fun v _=>v=.bool true) :
  Calls P f args.toArray W fun e W'=>e=.returned (.bool true)∧(∀b,b<W.heap.size→W'.heap[b]?=W.heap[b]?)∧W.heap.size≤W'.heap.size∧W'.os=W.os∧W'.output=W.output:=by
 obtain ⟨v,σ',N,h1,rfl⟩:=h;have hrel:∀l:List Value,(∀v∈l,VRel (ZeO W.heap.size) v v)→LRel (VRel (ZeO W.heap.size)) l l:=by
  intro l
  induction l with
  | nil=>intro _;trivial
  | cons a l ih=>intro h;exact ⟨h a (by simp),ih fun x hx=>h x (by simp [hx])⟩
 obtain ⟨_,h2⟩:=Zfo (G:=0) hp hk N f args (Zde W) _ σ' _ W args (h1 N (zA _)) (ZpV 0 W (zH _)) (hrel args ha);have hm:AMono (Zde W) σ':=Zda (ZeN N) f args _ _ _ (h1 N (zA _));have hro:=hm.ro W.heap.size (zA _) (zA _) fun i hi=>by rw [Zge W hi];exact Zli W i
 refine h2.mono fun e W' ⟨v',τ,he,hv',hs⟩=>?_;obtain rfl:=vrel_bool.1 hv';refine ⟨he,fun b hb=>?_,hs.hsz,hs.out⟩;by_cases hz:((Zde W).get b).kind=0
 ·exact hs.frame b hb fun i hi=>by
   obtain ⟨_,rfl⟩:=idRen_bl.1 hi;exact hz
 ·exact hs.stay b b (idRen_bl.2 ⟨hb,rfl⟩) hz (zC hb hro.1)
end Go.Proofs.YteangeffgjolpaaGreatDoor.Abs
namespace Go.Proofs.YteangeffgjolpaaGreatDoor.U
open Abs
theorem ZhN {α:Type} {P:Nat→α→Prop}:∀(n:Nat),(∀i,i<n→∃x,P i x)→∃l:List α,l.length=n∧∀i x,l[i]?=some x→P i x
 | 0,_=>⟨[],rfl,fun i x h=>by simp at h⟩
 | n+1,h=>by
  obtain ⟨l,h1,h2⟩:=ZhN n fun i hi=>h i (by omega)
  obtain ⟨x,hx⟩:=h n (by omega)
  refine ⟨l++[x],by simp [h1],fun i y hy=>?_⟩
  rcases Nat.lt_trichotomy i n with hi|hi|hi
  ·rw [zN (by omega)] at hy;exact h2 i y hy
  ·subst hi;rw [zO (by omega),h1,Nat.sub_self] at hy
   simp at hy;rw [←hy];exact hx
  ·rw [zV (by simp;omega)] at hy;cases hy
theorem ZeQ {H:Type} {P:Program} {E:TypeId} {m:Nat}:∀{l:List (DataW H)} {d:DataW H},d∈l→m∈d.weights P E→m∈DataW.weightsAll P E l
 | x::l,d,hd,hm=>by
  show m∈x.weights P E++DataW.weightsAll P E l;rw [zR];rcases List.mem_cons.1 hd with rfl|hd
  ·exact .inl hm
  ·exact .inr (ZeQ hd hm)
section
variable {H:Type} {enc:TypeId×Value→H} {W:World}
theorem ZeK {a:Addr} {n:Nat} {cs:List Value} (h:W.cells? 0 a n=some cs) (hn:0<n) :
  a.spot=none∧∃c e fr,W.heap[a.block]?=some (.cells c e fr)∧cs.length=n∧a.off+n≤c.size∧∀j v,cs[j]?=some v→c[a.off+j]?=some v:=by
 unfold World.cells? at h;rw [if_pos (zH _)] at h;have hl:cs.length=n:=by simpa using mapM_some_length h
 have hg:∀i,i<n→W.cell? (a.add i)=cs[i]?:=fun i hi=>mapM_some_get h i i (by simp [hi])
 have h0:=hg 0 hn;have hc0:∃v,cs[0]?=some v:=⟨cs[0],by simp [hl,hn]⟩
 obtain ⟨v0,hv0⟩:=hc0;rw [hv0] at h0;have ha0:a.add 0=a:=by simp [Addr.add]
 rw [ha0] at h0;unfold World.cell? at h0;split at h0
 ·rename_i c e fr hw;have hs:a.spot=none:=by
   cases hq:a.spot with
   | none=>rfl
   | some q=>rw [hq] at h0;cases h0
  have hcell:∀i,i<n→c[a.off+i]?=cs[i]?:=fun i hi=>by
   have:=hg i hi;rw [Zch hs] at this;unfold World.cell? at this;simpa [hw] using this
  refine ⟨hs,c,e,fr,hw,hl,?_,fun j v hj=>?_⟩
  ·have:=hcell (n-1) (by omega)
   have h2:∃v,cs[n-1]?=some v:=⟨cs[n-1]'(by omega),by simp⟩
   obtain ⟨v,hv⟩:=h2;rw [hv] at this;have:=(Array.getElem?_eq_some_iff.1 this).1;omega
  ·rcases Nat.lt_or_ge j n with hjn|hjn
   ·rw [hcell j hjn];exact hj
   ·rw [zV (by omega)] at hj;cases hj
 ·cases h0
theorem ZeF {a:Addr} {len cap:Nat} (hs:a.spot=none) (hb:a.block<W.heap.size) (hc:cap<Zax):VRel (ZeO W.heap.size) (.slice (some a) len cap) (.slice (some a) len cap):=by
 obtain ⟨b,off,sp⟩:=a;simp only at hs hb;subst hs;exact Za2 ⟨b,cap,idRen_bl.2 ⟨hb,rfl⟩,rfl,by unfold CapRel;rw [if_pos hc],rfl⟩
theorem ZfR {b:Nat} {o:Obj} (h:W.heap[b]?=some o):b<W.heap.size:=by
 rcases Nat.lt_or_ge b W.heap.size with h1|h1
 ·exact h1
 ·simp [Array.getElem?_eq_none h1] at h
theorem Znh {α:Type} {T E z:TypeId} {R:AS→List Value→α→Prop} (hu:Tryz.prog.underlying T=some (.slice E)) (hz:Tryz.prog.cellsOf E=z) (hz0:0<z) (hby:0<Tryz.prog.bytesOf E)
  (good:∀n cs (y:DataW H×List MemPlace),DataW.trod enc Tryz.prog W 0 (fun _=>true) true n E cs=some y→(∀m∈y.1.weights Tryz.prog E,m≤reachBytes)→∃x,(∀u∈cs,Abs.Good W.heap.size u)∧R (Zde W) (cs.map (Abs.seen W.heap.size)) x)
  {fuel:Nat} {cs:List Value} {y:DataW H×List MemPlace} (h:DataW.trod enc Tryz.prog W 0 (fun _=>true) true fuel T cs=some y) (hw:∀m∈y.1.weights Tryz.prog T,m≤reachBytes) :
  ∃v l,cs=[v]∧RS z R (Zde W) (Abs.seen W.heap.size v) l∧Abs.Good W.heap.size v∧l.length≤reachBytes:=by
 rcases DataW.trod_slice hu h with ⟨rfl,rfl⟩|⟨a,len,cap,elems,rest,n,rfl,rfl,rfl,_,hlc,hcm,hel,hE,hS,_⟩
 ·refine ⟨_,[],rfl,?_,.inl (vrel_slice_none.2 rfl),zH _⟩;rw [Zfv (vrel_slice_none.2 rfl)];exact ⟨none,0,rfl,fun h=>absurd rfl h⟩
 ·have hcap:cap<Zax:=by unfold Zax;unfold maxLen at hcm;omega
  have hbound:len≤reachBytes:=by
   have:=hw ((elems.length+rest.length)*Tryz.prog.bytesOf E) (by simp [DataW.weights,hu])
   have h2:(elems.length+rest.length)*1≤(elems.length+rest.length)*Tryz.prog.bytesOf E:=Nat.mul_le_mul_left _ hby;omega
  have hx:∀i,i<len→∃x,∃cs',W.cells? 0 (a.add (i*z)) z=some cs'∧(∀u∈cs',Abs.Good W.heap.size u)∧R (Zde W) (cs'.map (Abs.seen W.heap.size)) x:=fun i hi=>by
   have h1:=hE i hi;have h2:elems[i]?=some elems[i]:=by simp
   rw [h2,hz] at h1;obtain ⟨cs',h3,h4⟩:=Option.bind_eq_some_iff.1 h1;obtain ⟨x,h5,h6⟩:=good _ _ _ h4 fun m hm=>hw m (by
    simp only [DataW.weights,hu,List.mem_cons,zR];exact .inr (.inl (ZeQ (List.mem_map.2 ⟨elems[i],List.getElem_mem _,rfl⟩) hm)))
   exact ⟨x,cs',h3,h5,h6⟩
  obtain ⟨l,hl,hP⟩:=ZhN len hx;have hz':a.add (0*z)=a:=by simp [Addr.add]
  by_cases h0:len=0
  ·subst h0;have hl0:l=[]:=List.length_eq_zero_iff.1 hl;subst hl0;refine ⟨_,[],rfl,?_,?_,zH _⟩
   ·unfold Abs.seen;split
    ·exact ⟨_,_,rfl,fun h=>absurd rfl h⟩
    ·by_cases hc0:cap=0
     ·subst hc0;exact ⟨_,_,rfl,fun h=>absurd rfl h⟩
     ·rename_i hr
      exfalso
      obtain ⟨hr1,hr2⟩:=hS rfl;have h1:=hr2 0 (by omega)
      have h2:rest[0]?=some (rest[0]'(by omega)):=by simp
      rw [h2,hz] at h1;obtain ⟨cs',h3,-⟩:=Option.bind_eq_some_iff.1 h1;rw [show (0+0)*z=0*z from rfl,hz'] at h3
      obtain ⟨hs,c,e,fr,hwb,-⟩:=ZeK h3 hz0;exact hr (ZeF hs (ZfR hwb) hcap)
   ·by_cases hc0:cap=0
    ·subst hc0;exact .inr ⟨_,rfl⟩
    ·obtain ⟨hr1,hr2⟩:=hS rfl;have h1:=hr2 0 (by omega)
     have h2:rest[0]?=some (rest[0]'(by omega)):=by simp
     rw [h2,hz] at h1;obtain ⟨cs',h3,-⟩:=Option.bind_eq_some_iff.1 h1;rw [show (0+0)*z=0*z from rfl,hz'] at h3
     obtain ⟨hs,c,e,fr,hwb,-⟩:=ZeK h3 hz0;exact .inl (ZeF hs (ZfR hwb) hcap)
  ·obtain ⟨x0,cs0,h3,-⟩:=hx 0 (by omega)
   rw [hz'] at h3;obtain ⟨hs,c,e,fr,hwb,-⟩:=ZeK h3 hz0;have hself:VRel (ZeO W.heap.size) (.slice (some a) len cap) (.slice (some a) len cap):=ZeF hs (ZfR hwb) hcap;refine ⟨_,l,rfl,?_,.inl hself,by omega⟩
   rw [Zfv hself];obtain ⟨b,off,sp⟩:=a;simp only at hs hwb;subst hs;refine ⟨some ⟨b,off,none⟩,cap,by rw [hl],fun _=>⟨b,off,rfl,ZfR hwb,fun i x hi=>?_⟩⟩
   obtain ⟨cs',g1,g2,g3⟩:=hP i x hi;rw [Zch rfl] at g1;obtain ⟨-,c',e',fr',g4,g5,g6,g7⟩:=ZeK g1 hz0;exact ⟨_,Zj4 g4 g7 g5 g6 g2,g3⟩
theorem good3 (n:Nat) (cs:List Value) (y:DataW H×List MemPlace) (h:DataW.trod enc Tryz.prog W 0 (fun _=>true) true n 3 cs=some y) (_:∀m∈y.1.weights Tryz.prog 3,m≤reachBytes) :
  ∃x:Int,(∀u∈cs,Abs.Good W.heap.size u)∧RInt (Zde W) (cs.map (Abs.seen W.heap.size)) x:=by
 obtain ⟨k,rfl,-,-⟩:=DataW.trod_int Tryz.underlying3 h;have hv:VRel (ZeO W.heap.size) (.int .i64 k) (.int .i64 k):=vrel_int.2 rfl;refine ⟨k,fun u hu=>?_,?_⟩
 ·rw [List.mem_singleton.1 hu];exact .inl hv
 ·show [Abs.seen W.heap.size (.int .i64 k)]=_;rw [Zfv hv]
theorem cells3:Tryz.prog.cellsOf 3=1:=by kernel_rfl
theorem ZoJ {fuel:Nat} {cs:List Value} {y:DataW H×List MemPlace} (h:DataW.trod enc Tryz.prog W 0 (fun _=>true) true fuel 22 cs=some y) (hw:∀m∈y.1.weights Tryz.prog 22,m≤reachBytes) :
  ∃v l,cs=[v]∧RS 1 RInt (Zde W) (Abs.seen W.heap.size v) l∧Abs.Good W.heap.size v∧l.length≤reachBytes:=
 Znh Tryz.underlying22 cells3 (by decide) (zC (by decide) (show 8≤Tryz.prog.bytesOf 3 from zD (by kernel_rfl))) good3 h hw
theorem Zrl {P:Program} {T E:TypeId} (hu:P.underlying T=some (.slice E)) {base:Nat} {v:Value} (h:Cell.okWide P W .any base T v):VRel (ZeO W.heap.size) v v∧v.cells.toList=[v]:=by
 cases v with
 | slice a len cap=>
  cases a with
  | none=>
   refine ⟨vrel_slice_none.2 rfl,rfl⟩
  | some a=>
   simp only [Cell.okWide,Cell.ok,hu] at h;obtain ⟨h1,h2,-,hs,row,cells,h4,-⟩:=h;have hb:a.block<W.heap.size:=by
    unfold World.shape? at h4;rcases Nat.lt_or_ge a.block W.heap.size with h5|h5
    ·exact h5
    ·simp [Array.getElem?_eq_none h5] at h4
   have hm:IntKind.i64.max=9223372036854775807:=rfl;rw [hm] at h2;have hc:cap<Zax:=by
    unfold Zax;omega
   exact ⟨ZeF hs hb hc,rfl⟩
 | _=>simp [Cell.okWide,Cell.ok,hu] at h
theorem Zrk {P:Program} {T E:TypeId} (hu:P.underlying T=some (.slice E)) {base:Nat} {v:Value} (h:Value.okWide P W .any base T v):VRel (ZeO W.heap.size) v v∧v.cells.toList=[v]:=by
 simp only [Value.okWide,hu] at h;exact Zrl hu h
end
end Go.Proofs.YteangeffgjolpaaGreatDoor.U
namespace Go.Proofs.YteangeffgjolpaaGreatDoor.Bldr
open Go.RowKit
theorem ZnA (b:Nat) (w:World) (h0:w.cell? ⟨b,0,none⟩=some (.pointer (some ⟨b,0,none⟩))) :
  Calls Tryz.prog 89 #[.pointer (some ⟨b,0,none⟩)] w fun e w'=>e=.returned (.tuple #[])∧w'=w:=by
 obtain ⟨j,hj,_⟩:=Option.map_eq_some_iff.1 (show (Tryz.prog.info? 114).map (·.size)=some 2 by kernel_rfl)
 go_enter Tryz.func89,Tryz.ntmps89
 go_wp2
 rw [Lib.run_neq_ptr_same w _ Tryz.underlying111 hj]
 go_wp2
 go_end0
 exact ⟨rfl,rfl⟩
theorem ZlG (b:Nat) (w:World) (h0:w.cell? ⟨b,0,none⟩=some (.pointer none)) (hsh:w.shape? b=some (114,2)) (hfz:w.frozen? ⟨b,0,none⟩=false) :
  Calls Tryz.prog 89 #[.pointer (some ⟨b,0,none⟩)] w fun e w'=>e=.returned (.tuple #[])∧w'=w.setCell ⟨b,0,none⟩ (.pointer (some ⟨b,0,none⟩)):=by
 obtain ⟨j,hj,hjs⟩:=Option.map_eq_some_iff.1 (show (Tryz.prog.info? 114).map (·.size)=some 2 by kernel_rfl)
 go_enter Tryz.func89,Tryz.ntmps89
 go_wp2
 rw [Lib.run_to_unsafe w ⟨b,0,none⟩ Tryz.underlying111 Tryz.underlying179 hj (by rw [hjs];decide) hsh (Nat.zero_lt_succ 1)]
 simp only [Result.andThen];rw [Oper.upon_value]
 go_wp2
 rw [run_callFunc_extern Tryz.func126 (by kernel_rfl) (by kernel_rfl) (by kernel_rfl) (e:=Extern.AbiNoEscape.same) (by kernel_rfl)]
 rw [Lib.run_noEscape];simp only [Result.andThen];rw [Oper.upon_value]
 go_wp2
 rw [Lib.run_from_unsafe w ⟨b,0,none⟩ Tryz.underlying179 Tryz.underlying111 hj hsh (by kernel_rfl)]
 simp only [Result.andThen];rw [Oper.upon_value]
 go_wp2
 go_end0
 exact ⟨rfl,rfl⟩
theorem ZnY (b g cap:Nat) (l:List UInt8) (w:World) {p:Value} {cur:Array Value} {e:TypeId} {fr fr':Nat×Nat} (hbk:w.heap[b]?=some (.cells #[p,.slice (some ⟨g,0,none⟩) l.length cap] e fr)) (h0:l≠[]) (hc0:cap≠0)
  (hg:w.heap[g]?=some (.cells cur 5 fr')) (hcur:l.length≤cur.size) (h63:l.length≤9223372036854775807) (hcell:∀(j:Nat) (x:UInt8),l[j]?=some x→cur[j]?=some (Value.int .u8 x.toNat)) :
  Calls Tryz.prog 54 #[.pointer (some ⟨b,0,none⟩)] w fun e w'=>e=.returned (.string ⟨l.toArray⟩)∧w'.heap=(w.freeze ⟨g,0,none⟩ l.length).heap∧w'.os=w.os∧w'.output=w.output:=by
 have hl0:l.length≠0:=by simpa using h0
 have c1:w.drew.cell? ⟨b,1,none⟩=some (.slice (some ⟨g,0,none⟩) l.length cap):=by
  have:w.drew.heap[b]?=some (.cells #[p,.slice (some ⟨g,0,none⟩) l.length cap] e fr):=hbk;rw [Lib.cell_of_heap this];rfl
 have hSD:(Builtin.unsafeSliceData_ #[112] 147 #[.slice (some ⟨g,0,none⟩) l.length cap]).run Tryz.prog w.drew=.ok (.pointer (some ⟨g,0,none⟩)) w.drew:=
  Lib.run_unsafeSliceData_row _ _ _ _ _ _ hc0
 have hUS:(Builtin.unsafeString_ #[147,3] 9 #[.pointer (some ⟨g,0,none⟩),.int .i64 l.length]).run Tryz.prog w.drew=.ok (.string ⟨l.toArray⟩) (w.drew.freeze ⟨g,0,none⟩ l.length):=by
  refine Lib.run_unsafeString_row w.drew 147 3 9 5 Tryz.underlying147 (by kernel_rfl) g cur.size (by have hg':w.drew.heap[g]?=some (.cells cur 5 fr'):=hg;simp [World.shape?,hg']) l h0 hcur h63 ?_
  intro j x hx;have hg':w.drew.heap[g]?=some (.cells cur 5 fr'):=hg;have e2:((⟨g,0,none⟩:Addr).add j)=⟨g,j,none⟩:=by
   unfold Addr.add;split
   ·rename_i h;subst h;rfl
   ·simp
  rw [e2,Lib.cell_of_heap hg',hcell j x hx]
 go_enter Tryz.func54,Tryz.ntmps54
 go_wp2
 go_region
 all_goals (go_wp2;go_ret;exact ⟨rfl,by unfold World.freeze;split<;>rfl,by unfold World.freeze;split<;>rfl,by unfold World.freeze;split<;>rfl⟩)
open Abs
noncomputable def ZlH (T:TypeId) (σ:AS):List Value→Option (Value×AS)
 | [.pointer (some a)]=>if Nat.beq (σ.get a.block).kind 1&&Nat.beq a.off 0&&Nat.beq (σ.get a.block).elem T then match (σ.get a.block).vals with
   | [.pointer none,q]=>some (undef,σ.put a.block ⟨1,T,0,[.pointer (some ⟨a.block,0,none⟩),q],[]⟩)
   | [.pointer (some x),_]=>if Nat.beq x.block a.block&&Nat.beq x.off 0 then some (undef,σ) else none
   | _=>none
  else none
 | _=>none
noncomputable def Zm5:List Value→Option (List UInt8)
 | []=>some []
 | .int .u8 n::l=>if decide (0≤n)&&decide (n<256) then match Zm5 l with
   | some m=>some (UInt8.ofNat n.toNat::m)
   | none=>none
  else none
 | _=>none
noncomputable def str (T E:TypeId) (σ:AS):List Value→Option (Value×AS)
 | [.pointer (some a)]=>if Nat.beq (σ.get a.block).kind 1&&Nat.beq a.off 0 then match (σ.get a.block).vals with
   | [_,.slice (some g) n cp]=>if Nat.beq g.off 0&&Nat.blt 0 n&&Nat.ble n 9223372036854775807&&Zcm (σ.get g.block)&&Nat.beq (σ.get g.block).elem E&&!Nat.beq cp 0&&!Nat.beq cp Zax then match Zav σ g n with
     | some cs=>match Zm5 cs with
      | some s=>some (.string ⟨s.toArray⟩,σ.put g.block Blk.dead)
      | none=>none
     | none=>none
    else none
   | _=>none
  else none
 | _=>none
theorem ZnB {T:TypeId} {σ σ':AS} {xs:List Value} {v:Value} (h:ZlH T σ xs=some (v,σ')):AMono σ σ':=by
 unfold ZlH at h;split at h
 ·split at h
  ·rename_i hc;simp only [Bool.and_eq_true,Nat.beq_eq] at hc;split at h
   ·cases h;exact AMono.put _ (by omega)
   ·split at h
    ·cases h;exact AMono.refl _
    ·cases h
   ·cases h
  ·cases h
 ·cases h
theorem Zpz {T E:TypeId} {σ σ':AS} {xs:List Value} {v:Value} (h:str T E σ xs=some (v,σ')):AMono σ σ':=by
 unfold str at h;split at h
 ·split at h
  ·split at h
   ·split at h
    ·rename_i hc;simp only [Bool.and_eq_true,Zcm,Bool.or_eq_true,Nat.beq_eq] at hc;split at h
     ·split at h
      ·cases h;exact AMono.put _ (by omega)
      ·cases h
     ·cases h
    ·cases h
   ·cases h
  ·cases h
 ·cases h
theorem ZjL {w:World} {b:Nat} {c:Array Value} {e:TypeId} {fr:Nat×Nat} (hb:w.heap[b]?=some (.cells c e fr)) (i:Nat) (v:Value) :
  (w.setCell ⟨b,i,none⟩ v).heap=w.heap.setIfInBounds b (.cells (c.setIfInBounds i v) e fr):=by
 apply Array.ext_getElem?;intro j;rw [ZaW hb];simp only [World.setCell,Array.getElem?_modify];split
 ·rename_i h;subst h;simp [hb]
 ·rfl
theorem Zlu {w:World} {b:Nat} {c:Array Value} {e:TypeId} {fr:Nat×Nat} (hb:w.heap[b]?=some (.cells c e fr)) {n:Nat} (hn:n≠0) :
  ∃o,(w.freeze ⟨b,0,none⟩ n).heap=w.heap.setIfInBounds b o:=by
 obtain ⟨lo,hi⟩:=fr;refine ⟨.cells c e (if lo == hi then (0,0+n) else (min lo 0,max hi (0+n))),?_⟩
 apply Array.ext_getElem?;intro j;rw [ZaW hb];simp only [World.freeze,if_neg hn,Array.getElem?_modify];split
 ·rename_i h;subst h;simp [hb]
 ·rfl
theorem Zoe {ρ:Abs.Ren} {a:Addr} {xs':List Value} (h:LRel (VRel ρ) [.pointer (some a)] xs'):∃b,ρ.bl a.block=some b∧a.spot=none∧xs'=[.pointer (some ⟨b,a.off,none⟩)]:=by
 match xs',h with
 | [x],h=>
  obtain ⟨b,h1,h2,rfl⟩:=vrel_ptr.1 h.1;exact ⟨b,h1,h2,rfl⟩
 | [],h=>exact h.elim
 | _::_::_,h=>exact h.2.elim
theorem two {ρ:Abs.Ren} {p q:Value} {c:Array Value} (h:LRel (VRel ρ) [p,q] c.toList):∃p' q',c=#[p',q']∧VRel ρ p p'∧VRel ρ q q':=by
 obtain ⟨l⟩:=c
 match l,h with
 | [p',q'],h=>exact ⟨p',q',rfl,h.1,h.2.1⟩
 | [],h=>exact h.elim
 | [_],h=>exact h.2.elim
 | _::_::_::_,h=>exact h.2.2.elim
theorem ZiG {ρ:Abs.Ren}:∀{cs ds:List Value} {l:List UInt8},Zm5 cs=some l→LRel (VRel ρ) cs ds→l.length=ds.length∧∀(j:Nat) (x:UInt8),l[j]?=some x→ds[j]?=some (.int .u8 x.toNat)
 | [],[],l,h,_=>by cases h;exact ⟨rfl,fun j x h=>by simp at h⟩
 | c::cs,d::ds,l,h,hr=>by
  cases c with
  | int k n=>
   cases k<;>first | (cases h;done)|skip
   simp only [Zm5] at h;split at h
   ·rename_i hc;simp only [Bool.and_eq_true,decide_eq_true_eq] at hc;split at h
    ·rename_i m hm;cases h;obtain ⟨h1,h2⟩:=ZiG hm hr.2;refine ⟨by simp [h1],fun j x hx=>?_⟩
     cases j with
     | zero=>
      simp only [List.getElem?_cons_zero,Option.some.injEq] at hx ⊢;rw [vrel_int.1 hr.1,←hx,UInt8.toNat_ofNat']
      congr 1
      have:n.toNat % 2^8=n.toNat:=Nat.mod_eq_of_lt (by omega)
      rw [this];omega
     | succ j=>exact h2 j x (by simpa using hx)
    ·cases h
   ·cases h
  | _=>cases h
 | [],_::_,_,_,h=>h.elim
 | _::_,[],_,_,h=>h.elim
theorem ZqT {P:Program} {f:FuncId} {fn:Func} {c:Code} (hf:P.funcs[f]?=some fn) (hname:(fn.name == "runtime.NumGoroutine")=false) (hb:fn.body=some c) (args:Array Value) (w:World) :
  (callFunc f args).run P w=.ok (.enter f args) w:=by
 have h1:fn.name≠"runtime.NumGoroutine":=by simpa using hname
 simp [callFunc,hf,h1,hb]
theorem ZlF (G:Nat) {σ σ':AS} {xs xs':List Value} {v:Value} {ρ:Abs.Ren} {w:World} (h:ZlH 114 σ xs=some (v,σ')) (hR:R G ρ σ w) (hx:LRel (VRel ρ) xs xs') :
  Calls Tryz.prog 89 xs'.toArray w fun e w'=>∃v' τ,e=.returned v'∧VRel τ v v'∧Sim G ρ σ w τ σ' w':=by
 unfold ZlH at h;split at h
 ·rename_i a;obtain ⟨b,hb,_,rfl⟩:=Zoe hx;split at h
  ·rename_i hc;simp only [Bool.and_eq_true,Nat.beq_eq] at hc;obtain ⟨⟨hk,ho⟩,he⟩:=hc;obtain ⟨_,o,hw,hB⟩:=hR.blk _ b hb;unfold BRel at hB;rw [hk] at hB;obtain ⟨c,fr,rfl,hfr,hl⟩:=hB;rw [he] at hw;have hne:(σ.get a.block).kind≠0:=by omega
   rw [ho];split at h
   ·rename_i q hv;cases h;rw [hv] at hl;obtain ⟨p',q',rfl,h1,h2⟩:=two hl;obtain rfl:=vrel_ptr_none.1 h1;have h0:w.cell? ⟨b,0,none⟩=some (.pointer none):=by simp [World.cell?,hw]
    refine (ZlG b w h0 (by simp [World.shape?,hw]) (Zkl hw hfr (by simp))).mono ?_
    rintro e w' ⟨rfl,rfl⟩;refine ⟨_,ρ,rfl,Zb8,Sim.put hR hb hne (ZjL hw 0 _) ⟨rfl,rfl⟩ ?_⟩;exact ⟨#[.pointer (some ⟨b,0,none⟩),q'],fr,rfl,hfr,vrel_ptr.2 ⟨b,hb,rfl,rfl⟩,h2,trivial⟩
   ·rename_i x q hv;split at h
    ·rename_i hq;simp only [Bool.and_eq_true,Nat.beq_eq] at hq;cases h;rw [hv] at hl;obtain ⟨p',q',rfl,h1,h2⟩:=two hl;obtain ⟨b2,hb2,_,rfl⟩:=vrel_ptr.1 h1;rw [hq.1,hb] at hb2;cases hb2;rw [hq.2] at hw;have h0:w.cell? ⟨b,0,none⟩=some (.pointer (some ⟨b,0,none⟩)):=by simp [World.cell?,hw]
     refine (ZnA b w h0).mono ?_;rintro e w' ⟨rfl,rfl⟩;exact ⟨_,ρ,rfl,Zb8,Sim.refl hR⟩
    ·cases h
   ·cases h
  ·cases h
 ·cases h
theorem ZnZ (G:Nat) {σ σ':AS} {xs xs':List Value} {v:Value} {ρ:Abs.Ren} {w:World} (h:str 114 5 σ xs=some (v,σ')) (hR:R G ρ σ w) (hx:LRel (VRel ρ) xs xs') :
  Calls Tryz.prog 54 xs'.toArray w fun e w'=>∃v' τ,e=.returned v'∧VRel τ v v'∧Sim G ρ σ w τ σ' w':=by
 unfold str at h;split at h
 ·rename_i a;obtain ⟨b,hb,_,rfl⟩:=Zoe hx;split at h
  ·rename_i hc;simp only [Bool.and_eq_true,Nat.beq_eq] at hc;obtain ⟨hk,ho⟩:=hc;obtain ⟨_,o,hw,hB⟩:=hR.blk _ b hb;unfold BRel at hB;rw [hk] at hB;obtain ⟨c,fr,rfl,hfr,hl⟩:=hB;rw [ho];split at h
   ·rename_i p g n cp hv;split at h
    ·rename_i hq;simp only [Bool.and_eq_true,Nat.beq_eq,Nat.blt_eq,Nat.ble_eq,Bool.not_eq_true'] at hq;obtain ⟨⟨⟨⟨⟨⟨g0,n0⟩,n63⟩,gk⟩,ge⟩,c0⟩,c1⟩:=hq;split at h
     ·rename_i cs hcs;split at h
      ·rename_i l hbl;cases h;rw [hv] at hl;obtain ⟨p',q',rfl,h1,h2⟩:=two hl;rcases vrel_slice.1 h2 with ⟨gb,c',hg,_,hcap,rfl⟩|⟨_,hz,_⟩
       ·obtain ⟨cur,fr',pre,post,hgw,_,hgl,hgr,_,_⟩:=Zg4 hR hg gk;obtain ⟨ds,d1,d2,d3⟩:=ZcM hcs hR hg;obtain ⟨e1,e2⟩:=ZiG hbl d1;have hln:l.length=n:=by rw [e1,d2]
        rw [ge] at hgw;rw [g0] at hw d3;have hcell:∀(j:Nat) (x:UInt8),l[j]?=some x→cur[j]?=some (Value.int .u8 x.toNat):=fun j x hj=>by
         have:=d3 j _ (e2 j x hj);rw [Nat.zero_add] at this;simpa [World.cell?,hgw] using this
        have hcs':l.length≤cur.size:=by
         rcases Nat.lt_or_ge cur.size l.length with hlt|hge
         ·have:l[cur.size]?=some l[cur.size]:=by simp [hlt]
          have:=hcell _ _ this;simp at this
         ·exact hge
        have c0':cp≠0:=fun e=>by rw [e] at c0;cases c0
        have c1':cp≠Zax:=fun e=>by rw [e,Nat.beq_refl] at c1;cases c1
        have hc':c'≠0:=by
         unfold CapRel at hcap;split at hcap
         ·omega
         ·omega
        rw [←hln] at hw;refine (ZnY b gb c' l w hw (by intro e;rw [e] at hln;simp at hln;omega) hc' hgw hcs' (by omega) hcell).mono ?_
        rintro e w' ⟨rfl,k1,k2,k3⟩;obtain ⟨o,k4⟩:=Zlu hgw (n:=l.length) (by omega)
        refine ⟨_,ρ,rfl,vrel_string.2 rfl,Sim.put hR hg ?_ (k1.trans k4) ⟨k2,k3⟩ trivial⟩;simp only [Zcm,Bool.or_eq_true,Nat.beq_eq] at gk;omega
       ·omega
      ·cases h
     ·cases h
    ·cases h
   ·cases h
  ·cases h
 ·cases h
noncomputable def withBldr (K:Tbl):Tbl where
 dfr:=K.dfr
 ask:=fun g xs σ=>bite (Nat.beq g 89) (ZlH 114 σ xs) (bite (Nat.beq g 54) (str 114 5 σ xs) (K.ask g xs σ))
 mono:=fun g xs σ v σ' h=>by
  dsimp only at h;rw [Zab,Zab] at h;split at h
  ·exact ZnB h
  ·split at h
   ·exact Zpz h
   ·exact K.mono _ _ _ _ _ h
theorem withBldr_ok {K:Tbl} (hk:KOk Tryz.prog K):KOk Tryz.prog (withBldr K):=by
 intro G g xs σ v σ' ρ w xs' hu hR hx;unfold withBldr at hu;dsimp only at hu;rw [Zab,Zab] at hu;split at hu
 ·rename_i hc;obtain rfl:=zK hc;exact ⟨ZqT Tryz.func89 (by kernel_rfl) rfl _ _,ZlF G hu hR hx⟩
 ·split at hu
  ·rename_i hc;obtain rfl:=zK hc;exact ⟨ZqT Tryz.func54 (by kernel_rfl) rfl _ _,ZnZ G hu hR hx⟩
  ·exact hk G g xs σ v σ' ρ w xs' hu hR hx
end Go.Proofs.YteangeffgjolpaaGreatDoor.Bldr
namespace Go.Proofs.YteangeffgjolpaaGreatDoor.U
open Abs
noncomputable def ZpI (t:Nat):Blk:=⟨5,3,0,[.int .i64 0,.int .i64 (t:Int)],[]⟩
noncomputable def Zh9 (t:Nat):AS:=(lay0 [ZpI t] ⟨0,0,.e⟩).reset
theorem Zoh (t:Nat):(Zh9 t).get 0=ZpI t:=(Zln [ZpI t] ⟨0,0,.e⟩).2.2.2 0 _ rfl
theorem Zpu (c:Nat):∀t,t<6→okM 1 (ZcB Tryz.prog K0 0 300 69 [.slice (some ⟨0,0,none⟩) 2 c] (Zh9 t)) (keyW t)=true
 | 0,_=>by kernel_rfl
 | 1,_=>by kernel_rfl
 | 2,_=>by kernel_rfl
 | 3,_=>by kernel_rfl
 | 4,_=>by kernel_rfl
 | 5,_=>by kernel_rfl
 | t+6,h=>absurd h (by omega)
theorem cells_two {σ:AS} {b:Nat} {x y:Value} (hk:(σ.get b).kind=1∨(σ.get b).kind=2) (h:Zav σ ⟨b,0,none⟩ 2=some [x,y]):(σ.get b).vals[0]?=some x∧(σ.get b).vals[1]?=some y:=by
 have h5:Nat.beq (σ.get b).kind 5=false:=by rcases hk with e|e<;>rw [e]<;>rfl
 unfold Zav at h;simp only [h5,Bool.false_and,Bool.false_eq_true,if_false,List.drop_zero] at h;split at h
 ·cases hv:(σ.get b).vals with
  | nil=>rw [hv] at h;simp at h
  | cons a l=>
   cases l with
   | nil=>rw [hv] at h;simp at h
   | cons a2 l=>
    rw [hv] at h;simp at h;exact ⟨by rw [←h.1];rfl,by rw [←h.2];rfl⟩
 ·cases h
theorem ZjW {σ:AS} {b t:Nat} (hb:b<σ.next) (hk:(σ.get b).kind=1∨(σ.get b).kind=2) (he:(σ.get b).elem=3) (h:Zav σ ⟨b,0,none⟩ 2=some [.int .i64 0,.int .i64 (t:Int)]):ConvR 1 σ.reset σ.reset [(0,b)] (Zh9 t):=by
 have at_:∀i j,Zbi [(0,b)] i=some j→i=0∧j=b:=fun i j hi=>by
  simp only [Zbi,Zab,Nat.beq_eq] at hi;split at hi
  ·cases hi;constructor<;>omega
  ·cases hi
 obtain ⟨c0,c1⟩:=cells_two hk h;refine ⟨fun i j hi=>?_,fun i j hi hm=>?_,fun i k j hi hl _ _=>?_,fun i j hi=>?_⟩
 ·obtain ⟨rfl,-⟩:=at_ i j hi;exact zG 0
 ·obtain ⟨rfl,-⟩:=at_ i j hi;omega
 ·rw [(at_ i j hi).1,(at_ k j hl).1]
 ·obtain ⟨rfl,rfl⟩:=at_ i j hi
  right
  rw [Zoh];refine ⟨rfl,hk,he.symm,fun q v hq _=>?_⟩
  match q,hq with
  | 0,hq=>cases hq;exact ⟨_,c0,by simp [vm,ZcO,veq]⟩
  | 1,hq=>cases hq;exact ⟨_,c1,by simp [vm,ZcO,veq]⟩
  | q+2,hq=>simp [ZpI] at hq
theorem Zna:∀t xs σ G ρ w xs',okK t xs σ→R G ρ σ w→LRel (VRel ρ) xs xs'→ZjF Tryz.prog 69 xs' w (keyW t):=by
 rintro t xs σ G ρ w xs' ⟨ht,b,c,rfl,hb,hk,he,h⟩ hR hx;refine ZeX (β:=[(0,b)]) Zeh (ZgS _) (Zpu c t ht) rfl (ZjW hb hk he h) ?_ hR hx;simp [veqL,vm,Zbi,Zab,bto,onB]
noncomputable def K2:Tbl:=Bldr.withBldr K0
theorem K2_ok:KOk Tryz.prog K2:=Bldr.withBldr_ok (ZgS _)
theorem key0 (c:Nat):okM 1 (ZcB Tryz.prog K2 0 600 23 [.slice (some ⟨0,0,none⟩) 2 c] (Zh9 0)) (keyN 0)=true:=by kernel_rfl
theorem key1 (c:Nat):okM 1 (ZcB Tryz.prog K2 0 600 23 [.slice (some ⟨0,0,none⟩) 2 c] (Zh9 1)) (keyN 1)=true:=by kernel_rfl
theorem key2 (c:Nat):okM 1 (ZcB Tryz.prog K2 0 600 23 [.slice (some ⟨0,0,none⟩) 2 c] (Zh9 2)) (keyN 2)=true:=by kernel_rfl
theorem key3 (c:Nat):okM 1 (ZcB Tryz.prog K2 0 600 23 [.slice (some ⟨0,0,none⟩) 2 c] (Zh9 3)) (keyN 3)=true:=by kernel_rfl
theorem key4 (c:Nat):okM 1 (ZcB Tryz.prog K2 0 600 23 [.slice (some ⟨0,0,none⟩) 2 c] (Zh9 4)) (keyN 4)=true:=by kernel_rfl
theorem key5 (c:Nat):okM 1 (ZcB Tryz.prog K2 0 600 23 [.slice (some ⟨0,0,none⟩) 2 c] (Zh9 5)) (keyN 5)=true:=by kernel_rfl
theorem Zrz (c:Nat):∀t,t<6→okM 1 (ZcB Tryz.prog K2 0 600 23 [.slice (some ⟨0,0,none⟩) 2 c] (Zh9 t)) (keyN t)=true
 | 0,_=>key0 c
 | 1,_=>key1 c
 | 2,_=>key2 c
 | 3,_=>key3 c
 | 4,_=>key4 c
 | 5,_=>key5 c
 | t+6,h=>absurd h (by omega)
theorem ZoF:∀t xs σ G ρ w xs',okK t xs σ→R G ρ σ w→LRel (VRel ρ) xs xs'→ZjF Tryz.prog 23 xs' w (keyN t):=by
 rintro t xs σ G ρ w xs' ⟨ht,b,c,rfl,hb,hk,he,h⟩ hR hx;refine ZeX (β:=[(0,b)]) Zeh K2_ok (Zrz c t ht) rfl (ZjW hb hk he h) ?_ hR hx;simp [veqL,vm,Zbi,Zab,bto,onB]
theorem KA_ok:KOk Tryz.prog KA:=ZoO (KOk.addP Zsh (fun _=>rfl) ZoF) (ZoO (KOk.addP Zsh (fun _=>rfl) Zna) Zsh)
end Go.Proofs.YteangeffgjolpaaGreatDoor.U
