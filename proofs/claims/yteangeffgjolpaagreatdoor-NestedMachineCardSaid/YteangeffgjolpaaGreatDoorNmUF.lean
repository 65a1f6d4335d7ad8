/- Concat and Clone of edges. -/
import Derived.Test.YteangeffgjolpaaGreatDoorNmF
import Derived.Test.YteangeffgjolpaaGreatDoorNmK
import Derived.Test.YteangeffgjolpaaGreatDoorNmC
set_option linter.unusedSimpArgs false
set_option linter.unusedVariables false
set_option maxHeartbeats 64000000
namespace Go.Proofs.YteangeffgjolpaaGreatDoor.Nest
open Abs
theorem ZnS:∃inf z,Tryz.prog.info? 102=some inf∧inf.size=2∧inf.bytes=16∧inf.zero=some z∧z.cells.size=2∧flat z=true:=
 ⟨(Tryz.prog.info? 102).get!,(((Tryz.prog.info? 102).get!).zero).get!,by kernel_rfl,by kernel_rfl,by kernel_rfl,by kernel_rfl,by kernel_rfl,by kernel_rfl⟩
theorem ZkH {σ:AS} {n:Nat} (h0:0<n) (hn:n≤100000):∃vals,vals.length=n*2∧ZaU Tryz.prog σ #[97,3] (.slice none 0 0) (.int .i64 (n:Int))=some (.slice (some ⟨σ.next,0,none⟩) n (Zax+n),σ.new ⟨2,102,2,vals,[]⟩):=by
 obtain ⟨inf,z,h1,h2,h3,h4,h5,h6⟩:=ZnS;have hl:(Builtin.zeroCells z.cells n).toList.length=n*2:=by simp [Builtin.zeroCells,h5]
 refine ⟨[]++(Builtin.zeroCells z.cells n).toList,by rw [List.nil_append];exact hl,?_⟩
 have hs:Zbd Tryz.prog σ true inf (.int .i64 (n:Int))=some (n,(Builtin.zeroCells z.cells n).toList):=by
  unfold Zbd;simp only [if_true,h4];rw [if_pos ⟨by omega,by omega,h6⟩]
  simp
 have d1:Nat.beq (2:Nat) 0=false:=rfl;have d2:Nat.beq (2:Nat) 2=true:=rfl;have d3:Nat.ble ((4*n+4000)*16) 281474976710656=true:=ZbF (by omega)
 have d4:Nat.ble n 1000000000000=true:=ZbF (by omega)
 have d5:Nat.beq (Builtin.zeroCells z.cells n).toList.length (n*2)=true:=by rw [hl];exact Nat.beq_refl _
 have d6:Nat.ble n 0=false:=Zjj (by omega)
 unfold ZaU;simp only [List.getElem?_toArray,List.getElem?_cons_zero,List.getElem?_cons_succ,Tryz.underlying97,Tryz.underlying3,h1,h2,h3,h4,h5,h6,hs,d1,d2,d3,d4,d5,d6,ZbR,Zd8,Nat.zero_mul,Bool.not_true,Bool.or_false,Bool.false_eq_true,if_false,List.length_nil,Nat.beq_refl,if_true,Nat.zero_add]
theorem Zk8 {σ:AS}:Zbv Tryz.prog σ 97 (.slice none 0 0) none (some (.int .i64 0)) none=some (.slice none 0 0):=by
 obtain ⟨inf,z,h1,h2,-⟩:=ZnS;unfold Zbv;simp only [Tryz.underlying97,h1,h2,ZbR];rfl
theorem Zkx:aCap Tryz.prog 97 (.slice none 0 0)=some (.int .i64 0):=by
 unfold aCap;rw [Tryz.underlying97];rfl
theorem grow_c {σ:AS} {n:Nat} (hn:n≤100000):C Tryz.prog Kn 0 142 [.slice none 0 0,.int .i64 (n:Int)] σ fun v σ'=>Stk σ.next 102 2 σ' v 0 []∧Ext σ σ':=by
 have d1:decide ((n:Int)<0)=false:=zI (by omega)
 have w0:IntKind.i64.wrap (0-0)=0:=by rw [Zas _ (by omega) (by omega)];rfl
 have w1:IntKind.i64.wrap ((n:Int)-0)=(n:Int):=by rw [Zas _ (by omega) (by omega)];omega
 refine C_of (kn (by decide)) Tryz.func142 rfl (zD rfl) ?_
 show W _ _ _ 27 _ _ _ _;unfold Tryz.f142;dsimp only;repeat apply Zaa
 apply Zad;intro _;simp +decide only [zq,ZaI,↓Zab,↓reduceIte,aOp];rfl;repeat apply Zaa
 apply Zad;intro _;simp +decide only [zq,↓Zab,↓reduceIte,aOp,Zah,d1,aBin,ZaB,Zam];rfl;repeat apply Zaa
 refine ZaC (by simp +decide only [zq]) ?_
 apply Zak;repeat apply Zaa
 apply Zad;intro _;simp +decide only [zq,↓Zab,↓reduceIte,aOp,Zah,Zan,aevs,Zaf,aLen,Zkx,Tryz.underlying97,goInt,Int.natCast_zero,w0,w1,aBin,ZaB,Zam];rfl;by_cases h0:0<n;rotate_left
 ·have d2:decide ((0:Int)<(n:Int))=false:=zI (by omega)
  repeat apply Zaa
  apply Zad;intro _;simp +decide only [zq,↓Zab,↓reduceIte,aOp,Zah,d2,aBin,ZaB,Zam];rfl;repeat apply Zaa
  refine ZaC (by simp +decide only [zq]) ?_
  apply Zak;repeat apply Zaa
  apply Zad;intro _;simp +decide only [zq,↓Zab,↓reduceIte,aOp];rfl;refine ZaL ⟨zA _,[.slice none 0 0],?_,⟨rfl,rfl,.inl ⟨rfl,rfl⟩⟩,Ext.refl _⟩;simp +decide only [zq,Zaj]
 have d2:decide ((0:Int)<(n:Int))=true:=zM (by omega)
 repeat apply Zaa
 apply Zad;intro _;simp +decide only [zq,↓Zab,↓reduceIte,aOp,Zah,d2,aBin,ZaB,Zam];rfl;repeat apply Zaa
 refine ZaQ (by simp +decide only [zq]) ?_
 obtain ⟨vals,hv,ha⟩:=ZkH (σ:=σ) h0 hn;have hB:(σ.new ⟨2,102,2,vals,[]⟩).get σ.next=⟨2,102,2,vals,[]⟩:=by rw [AS.get_new,if_pos rfl]
 have hsl:=Zdt (lo:=none) (hi:=some (.int .i64 0)) (k:=n) (n:=n) (y:=.slice (some ⟨σ.next,0,none⟩) 0 (Zax+n)) el53 hB (by
  unfold Zbg;simp only [ZbW,Zcb,Zbn,if_true,Nat.beq_refl,show ZeA (.int .i64 0) n=some 0 from abound_at 0 n (zH _)])
 repeat apply Zaa
 apply Zad;intro _;simp +decide only [zq,↓Zab,↓reduceIte,aOp,Zan,ZbE,aevs,Zaf,aLen,Zkx,Zk8,aopt,ha,hsl,Tryz.underlying97,goInt,Int.natCast_zero];rfl;repeat apply Zaa
 apply Zad;intro _;simp +decide only [zq,↓Zab,↓reduceIte,aOp];rfl;refine ZaL ⟨zA _,[.slice (some ⟨σ.next,0,none⟩) 0 (Zax+n)],?_,⟨rfl,rfl,.inr ⟨σ.next,n,vals,rfl,zH _,zA _,zG _,hB,by omega,by simp⟩⟩,Ext.new _ _⟩
 simp +decide only [zq,Zaj]
theorem Zq8 {lo:Nat} {σ:AS} {v:Value} {l:List Arc} (h:Stk lo 102 2 σ v l.length (cellsOf l)):Src σ v l:=by
 obtain ⟨x,h1,-,-,h4⟩:=h.cut el53 (zA _);intro inf hi;obtain ⟨c1,c2,⟨rfl,h0⟩|⟨b,n,vals,rfl,g4,g5,g6,g7,g8,g9⟩⟩:=h
 ·have hl:l=[]:=List.length_eq_zero_iff.1 h0;subst hl;rfl
 ·have hkz:l.length*2≤vals.length:=zB (Nat.mul_le_mul_right 2 g4) g8;have hc:Zav σ ⟨b,0,none⟩ (l.length*2)=some (cellsOf l):=by
   unfold Zav;simp only [g7,ZaJ,Nat.zero_add];rw [ZbF hkz,List.drop_zero,g9];rfl
  unfold Zbd;simp only [Bool.false_eq_true,if_false,hi,Zbh,hc]
theorem ZqN {b len cap i:Nat} (h:i<len):Zal Tryz.prog 193 (.slice (some ⟨b,0,none⟩) len cap) (.int .i64 (i:Int))=some (.pointer (some ⟨b,0+i*1,none⟩)):=
 ZaD (inf:=(Tryz.prog.info? 97).get!) Tryz.underlying193 (by kernel_rfl) (by kernel_rfl) h
def ZcG {α:Type} (a b:α) (i:Nat):α:=if i=0 then a else b
theorem Zqk {σ:AS} {lo b:Nat} {pv y:Value} {p q:List Arc} (hb:σ.get b=⟨1,97,0,[pv,y],[]⟩) (hbn:b<σ.next) (hp:Stk lo 102 2 σ pv p.length (cellsOf p)) (hq:Stk lo 102 2 σ y q.length (cellsOf q)) (hlen:p.length+q.length≤10000) :
  C Tryz.prog Kn 0 107 [.slice (some ⟨b,0,none⟩) 2 2] σ fun v σ'=>Stk σ.next 102 2 σ' v (p++q).length (cellsOf (p++q))∧Ext σ σ':=by
 obtain ⟨pa,pc,hpe⟩:=hp.len;obtain ⟨qa,qc,hqe⟩:=hq.len;have L0:∀σ',Ext σ σ'→Zat Tryz.prog σ' 97 (.pointer (some ⟨b,0+0*1,none⟩))=some pv:=fun σ' e=>Zaw Tryz.underlying97 rfl (Zaq ((e.get b hbn).trans hb) rfl (by simp))
 have L1:∀σ',Ext σ σ'→Zat Tryz.prog σ' 97 (.pointer (some ⟨b,0+1*1,none⟩))=some y:=fun σ' e=>Zaw Tryz.underlying97 rfl (Zaq ((e.get b hbn).trans hb) rfl (by simp))
 have LL:∀i,i<2→∀σ',Ext σ σ'→Zat Tryz.prog σ' 97 (.pointer (some ⟨b,i*1,none⟩))=some (ZcG pv y i):=fun i hi σ' e=>by
  match i,hi with
  | 0,_=>exact L0 σ' e
  | 1,_=>exact L1 σ' e
 have LN:∀i,i<2→∃a c,ZcG pv y i=.slice a (ZcG p q i).length c:=fun i hi=>by
  match i,hi with
  | 0,_=>exact ⟨pa,pc,hpe⟩
  | 1,_=>exact ⟨qa,qc,hqe⟩
 have LS:∀i,i<2→Stk lo 102 2 σ (ZcG pv y i) (ZcG p q i).length (cellsOf (ZcG p q i)):=fun i hi=>by
  match i,hi with
  | 0,_=>exact hp
  | 1,_=>exact hq
 have SUM:∀i,i<2→ZcG 0 p.length i+(ZcG p q i).length=ZcG 0 (ZcG p.length (p.length+q.length) (i+1-1)) (i+1):=fun i hi=>by
  match i,hi with
  | 0,_=>simp [ZcG]
  | 1,_=>simp [ZcG]
 refine C_of (kn (by decide)) Tryz.func107 rfl (zD rfl) ?_
 show W _ _ _ 36 _ _ _ _;unfold Tryz.f107;dsimp only;repeat apply Zaa
 apply Zad;intro _;simp +decide only [zq,ZaI,↓Zab,↓reduceIte,aOp];rfl;repeat apply Zaa
 apply Zad;intro _;simp +decide only [zq,↓Zab,↓reduceIte,aOp];rfl;repeat apply Zaa
 apply Zad;intro _;simp +decide only [zq,↓Zab,↓reduceIte,aOp,Zan,aevs,Zaf,aLen,Tryz.underlying193,goInt];rfl;repeat apply Zaa
 refine Zdc (fun (x:Nat×Nat) r σ'=>x.1≤2∧σ=σ'∧x.2=(if x.1=0 then 0 else if x.1=1 then p.length else p.length+q.length)∧rget r 0=.slice (some ⟨b,0,none⟩) 2 2∧rget r 3=.int .i64 (x.2:Int)∧rget r 9=.slice (some ⟨b,0,none⟩) 2 2∧rget r 10=.int .i64 2∧rget r 11=.int .i64 (x.1:Int))
  (fun x=>2-x.1) ?_ (0,0) ?_
 rotate_left
 ·simp +decide only [zq];refine ⟨?_,?_,?_,?_,?_,?_,?_,?_⟩<;>first|exact True.intro|rfl|omega
 rintro ⟨i,t⟩ r _ ⟨hi,rfl,ht,h0,h3,h9,h10,h11⟩;dsimp only at hi ht h3 h11;repeat apply Zaa
 apply Zad;intro _;simp +decide only [zq,↓Zab,↓reduceIte,aOp,Zah,h10,h11,aBin,ZaB,Zam];rfl;repeat apply Zaa
 refine W_if (b:=decide ((i:Int)<2)) ?_ ?_ ?_
 ·simp +decide only [zq]
 rotate_left
 ·intro hx;have hi2:i=2:=by
   have:=of_decide_eq_false hx;omega
  subst hi2;refine ZaA ⟨fun h=>(nomatch h),fun _=>?_,fun h1 h2=>absurd rfl h2⟩;rw [if_neg (by decide),if_neg (by decide)] at ht
  subst ht;repeat apply Zaa
  apply ZaF;apply Zay 1;intro _;simp +decide only [zq,List.take,↓Zab,↓reduceIte,aOp,h3];rfl;dsimp only [List.drop];refine ZaV (vs:=[.slice none 0 0,.int .i64 ((p.length+q.length:Nat):Int)]) (by simp +decide only [zq,aevs]) (by decide) (C.mono (grow_c (n:=p.length+q.length) (by omega)) ?_)
  rintro v σ' ⟨hS,eG⟩;apply ZaG;intro _;simp +decide only [zq,↓Zab,↓reduceIte,aOp];rfl;generalize σ'=σ1 at hS eG;repeat apply Zaa
  apply Zad;intro _;simp +decide only [zq,↓Zab,↓reduceIte,aOp,Zan,aevs,Zaf,aLen,h0,Tryz.underlying193,goInt];rfl;repeat apply Zaa
  refine Zdc (fun (j:Nat) r σ'=>j≤2∧Ext σ σ'∧(∃w,rget r 6=w∧Stk σ.next 102 2 σ' w (if j=0 then [] else if j=1 then p else p++q).length (cellsOf (if j=0 then [] else if j=1 then p else p++q)))∧rget r 25=.slice (some ⟨b,0,none⟩) 2 2∧rget r 26=.int .i64 2∧rget r 27=.int .i64 (j:Int))
   (fun j=>2-j) ?_ 0 ?_
  rotate_left
  ·simp +decide only [zq];refine ⟨?_,eG,⟨_,rfl,hS⟩,?_,?_,?_⟩<;>first|exact True.intro|rfl|omega
  rintro j r2 σ2 ⟨hj,e2,⟨w,h6,hw⟩,h25,h26,h27⟩;repeat apply Zaa
  apply Zad;intro _;simp +decide only [zq,↓Zab,↓reduceIte,aOp,Zah,h26,h27,aBin,ZaB,Zam];rfl;repeat apply Zaa
  refine W_if (b:=decide ((j:Int)<2)) ?_ ?_ ?_
  ·simp +decide only [zq]
  rotate_left
  ·intro hx;have hj2:j=2:=by
    have:=of_decide_eq_false hx;omega
   subst hj2;refine ZaA ⟨fun h=>(nomatch h),fun _=>?_,fun h1 h2=>absurd rfl h2⟩;repeat apply Zaa
   apply Zad;intro _;simp +decide only [zq,↓Zab,↓reduceIte,aOp,h6];rfl;refine ZaL ⟨zA _,[w],?_,?_,e2⟩
   ·simp +decide only [zq,Zaj]
   ·rw [if_neg (by decide),if_neg (by decide)] at hw
    exact hw
  intro hx;have hj2:j<2:=by
   have:=of_decide_eq_true hx;omega
  apply Zak;refine ZaM ?_;have Lj:=LL j hj2 _ e2;have hsrc:=Zq8 ((LS j hj2).keep e2.nxt fun i _ hi=>e2.get i hi);have w1:IntKind.i64.wrap ((j:Int)+1)=((j+1:Nat):Int):=by rw [Zas _ (by omega) (by omega)];omega
  have hbl:(if j=0 then [] else if j=1 then p else p++q).length+(ZcG p q j).length≤1000000:=by
   rcases (show j=0∨j=1 by omega) with e01|e01
   ·subst e01;simp [ZcG];omega
   ·subst e01;simp [ZcG];omega
  obtain ⟨w',s9,ha,hS9,hn9,hg9,hlow9,hown9⟩:=hw.push el53 e2.nxt hsrc (ZaS _) (ZcA _) hbl;repeat apply Zaa
  apply Zad;intro _;simp +decide only [zq,↓Zab,↓reduceIte,aOp,Zae,Zag,h25,h27,ZqN hj2,Lj];rfl;refine Zao ?_;repeat apply Zaa
  apply Zad;intro _;simp +decide only [zq,↓Zab,↓reduceIte,aOp,Zan,aevs,Zaf,h6,ha];rfl;have e9:Ext σ s9:=(Chg.mk (σ0:=σ) (v':=w') hn9 hg9 hlow9 hown9).ext e2 fun i hi=>(hw.own hi).1;refine Zap ⟨fun _=>?_,fun h=>absurd rfl h⟩;refine Zao ?_;repeat apply Zaa
  apply Zad;intro _;simp +decide only [zq,↓Zab,↓reduceIte,aOp,Zah,h27,w1,aBin,ZaB,Zam];rfl;refine Zap ⟨fun _=>⟨j+1,?_,?_⟩,fun h=>(nomatch h),fun h=>absurd rfl h⟩
  ·omega
  ·refine ⟨by omega,e9,⟨_,rfl,?_⟩,?_,?_,?_⟩
   ·simp +decide only [zq];have e:(if j+1=0 then [] else if j+1=1 then p else p++q)=(if j=0 then [] else if j=1 then p else p++q)++ZcG p q j:=by
     rcases (show j=0∨j=1 by omega) with e01|e01
     ·subst e01;simp [ZcG]
     ·subst e01;simp [ZcG]
    rw [e,Zcf,zS];exact hS9
   all_goals simp +decide only [zq,h25,h26]
 intro hx;have hi2:i<2:=by
  have:=of_decide_eq_true hx;omega
 apply Zak;refine ZaM ?_;obtain ⟨sa,sc,hse⟩:=LN i hi2;have Li:=LL i hi2 _ (Ext.refl _);rw [hse] at Li;have w1:IntKind.i64.wrap ((i:Int)+1)=((i+1:Nat):Int):=by rw [Zas _ (by omega) (by omega)];omega
 have ht1:t+(ZcG p q i).length≤10000∧t+(ZcG p q i).length=(if i+1=0 then 0 else if i+1=1 then p.length else p.length+q.length):=by
  rcases (show i=0∨i=1 by omega) with e01|e01
  ·subst e01;simp [ZcG] at ht ⊢;omega
  ·subst e01;simp [ZcG] at ht ⊢;omega
 have w2:IntKind.i64.wrap ((t:Int)+((ZcG p q i).length:Int))=((t+(ZcG p q i).length:Nat):Int):=by rw [Zas _ (by omega) (by omega)];omega
 have d0:decide (((t+(ZcG p q i).length:Nat):Int)<0)=false:=zI (by omega)
 repeat apply Zaa
 apply Zad;intro _;simp +decide only [zq,↓Zab,↓reduceIte,aOp,Zae,Zag,h9,h11,ZqN hi2,Li];rfl;repeat apply Zaa
 apply Zad;intro _;simp +decide only [zq,↓Zab,↓reduceIte,aOp,Zah,Zan,aevs,Zaf,aLen,h3,Tryz.underlying97,goInt,w2,aBin,ZaB,Zam];rfl;repeat apply Zaa
 apply Zad;intro _;simp +decide only [zq,↓Zab,↓reduceIte,aOp,Zah,d0,aBin,ZaB,Zam];rfl;refine Zao ?_;repeat apply Zaa
 refine ZaC (by simp +decide only [zq]) ?_
 apply Zak;refine Zap ⟨fun _=>?_,fun h=>absurd rfl h⟩;refine Zao ?_;repeat apply Zaa
 apply Zad;intro _;simp +decide only [zq,↓Zab,↓reduceIte,aOp,Zah,h11,w1,aBin,ZaB,Zam];rfl;refine Zap ⟨fun _=>⟨(i+1,t+(ZcG p q i).length),?_,?_⟩,fun h=>(nomatch h),fun h=>absurd rfl h⟩
 ·show 2-(i+1)<2-i;omega
 ·refine ⟨by show i+1≤2;omega,rfl,ht1.2,?_,?_,?_,?_,?_⟩<;>simp +decide only [zq,h0,h9,h10]
theorem Zic {σ:AS} {x:Value} {m:List Arc} {b0:Nat} (hx:Src σ x m) (hm:m≠[]) (hn:m.length≤1000000) (hb:σ.get b0=⟨1,102,0,[],[]⟩) :
  ZaU Tryz.prog σ #[97,97] (.slice (some ⟨b0,0,none⟩) 0 0) x=some (.slice (some ⟨σ.next,0,none⟩) m.length (Zax+m.length),σ.new ⟨2,102,2,cellsOf m,[]⟩):=by
 obtain ⟨inf,z,h1,h2,h3,h4,h5,h6⟩:=ZnS;have hs:=hx.source h2;have hp:0<m.length:=List.length_pos_iff.2 hm;have hc:Zav σ ⟨b0,0,none⟩ 0=some []:=Zaq hb rfl (zA _);have d1:Nat.beq (2:Nat) 0=false:=rfl;have d2:Nat.beq (2:Nat) 2=true:=rfl;have d3:Nat.ble ((4*m.length+4000)*16) 281474976710656=true:=ZbF (by omega)
 have d4:Nat.ble m.length 1000000000000=true:=ZbF (by omega)
 have d5:Nat.beq (cellsOf m).length (m.length*2)=true:=by rw [ZaS];exact Nat.beq_refl _
 have d6:Nat.ble m.length 0=false:=Zjj hp;unfold ZaU;simp only [List.getElem?_toArray,List.getElem?_cons_zero,List.getElem?_cons_succ,Tryz.underlying97,h1,h2,h3,h4,h5,h6,hs,d1,d2,Nat.zero_add,d3,d4,d5,d6,ZbR,Zd8,Nat.zero_mul,Zbh,hc,Bool.not_true,Bool.or_false,Bool.false_eq_true,if_false,List.length_nil,Nat.beq_refl,if_true,List.nil_append]
theorem ZpB {σ:AS}:Zaz Tryz.prog σ 97 0 []=some (.slice (some ⟨σ.next,0,none⟩) 0 0,σ.new ⟨1,102,0,[],[]⟩):=by kernel_rfl
theorem nil51 {P:Program} {a:Addr} {n c:Nat} {x y:Operand} (hu:P.underlying 97=some (.slice 102)):aBin P .eql 97 x y (.slice (some a) n c) (.slice none 0 0)=some (.bool false):=by
 unfold aBin;have e1:ZaB .eql (.slice (some a) n c) (.slice none 0 0)=none:=by simp only [ZaB]
 rw [e1];dsimp only;unfold Zdm;rw [show (flat (.slice (some a) n c)&&flat (.slice none 0 0))=false from rfl,if_neg (by decide),hu]
 rfl
theorem Zr2 {σ:AS} {a:Addr} {n c:Nat} {l:List Arc} (hs:∀σ',Ext σ σ'→Src σ' (.slice (some a) n c) l) (hl:l≠[]) (hn:l.length≤10000):C Tryz.prog Kn 0 108 [.slice (some a) n c] σ fun v σ'=>Stk σ.next 102 2 σ' v l.length (cellsOf l)∧Ext σ σ':=by
 refine C_of (kn (by decide)) Tryz.func108 rfl (zD rfl) ?_
 show W _ _ _ 8 _ _ _ _;unfold Tryz.f108;dsimp only;repeat apply Zaa
 apply Zad;intro _;simp +decide only [zq,ZaI,↓Zab,↓reduceIte,aOp];rfl;repeat apply Zaa
 apply Zad;intro _;simp +decide only [zq,↓Zab,↓reduceIte,aOp,Zah,nil51 Tryz.underlying97];rfl;repeat apply Zaa
 refine ZaC (by simp +decide only [zq]) ?_
 apply Zak;have ha:=Zic (σ:=σ.new ⟨1,102,0,[],[]⟩) (hs _ (Ext.new _ _)) hl (by omega) (b0:=σ.next) (by rw [AS.get_new,if_pos rfl])
 repeat apply Zaa
 apply Zad;intro _;simp +decide only [zq,↓Zab,↓reduceIte,aOp,Zan,Zar,aevs,ZaN,Zaf,ZpB,ha];rfl;refine ZaL ⟨zA _,[_],rfl,⟨ZaS l,ZcA l,.inr ⟨σ.next+1,l.length,cellsOf l,?_,zA _,Nat.le_succ _,zG _,?_,by rw [ZaS];exact zA _,by rw [zJ (by rw [ZaS];exact zA _)]⟩⟩,(Ext.new _ _).trans (Ext.new _ _)⟩
 ·simp +decide only [zq,Zbw];rfl
 ·rw [AS.get_new];exact if_pos rfl
open Abs
section
variable {δ:Type}
def push (e:Arc) (t:Int) (x:SS):SS:={ x with path:=x.path++[e],on:=x.on++[t] }
def back (z:δ×SS):δ×SS:=if z.2.found=true then z else (z.1,{ z.2 with path:=z.2.path.dropLast,on:=z.2.on.dropLast })
def Zd9 (e:Arc) (x:SS):SS:={ x with stem:=x.stem++[e] }
def Zdq (z:δ×SS):δ×SS:=if z.2.found=true then z else (z.1,{ z.2 with stem:=z.2.stem.dropLast })
def won (k:Nat) (e:Arc) (x:SS):SS:={ x with found:=true,stem:=x.stem++x.path.take k,loop:=x.path.drop k++[e] }
def mgo (rec:δ×SS→Nat→δ×SS) (s:Nat):Nat→List Arc→δ×SS→δ×SS
 | _,[],y=>y
 | i,a::l,y=>if y.2.found=true then y else if a.1≠0 then mgo rec s (i+1) l y else
  match findOn y.2.on a.2 with
  | some k=>(y.1,won k ((s:Int),(i:Int)) y.2)
  | none=>if y.2.inner.getD a.2.toNat true=true then mgo rec s (i+1) l y else
   mgo rec s (i+1) l (back (rec (y.1,push ((s:Int),(i:Int)) a.2 y.2) a.2.toNat))
def minner (ask:δ→Nat→δ×List Arc):Nat→δ×SS→Nat→δ×SS
 | 0,y,_=>y
 | f+1,y,s=>mgo (minner ask f) s 0 (ask y.1 s).2 ((ask y.1 s).1,{ y.2 with inner:=y.2.inner.set s true })
def mogo (rec:δ×SS→Nat→δ×SS) (s:Nat):Nat→List Arc→δ×SS→δ×SS
 | _,[],y=>y
 | i,a::l,y=>if y.2.found=true then y else if y.2.outer.getD a.2.toNat true=true then mogo rec s (i+1) l y else
   mogo rec s (i+1) l (Zdq (rec (y.1,Zd9 ((s:Int),(i:Int)) y.2) a.2.toNat))
def menter (ask:δ→Nat→δ×List Arc) (N:Nat) (y:δ×SS) (s:Nat):δ×SS:=
 if y.2.inner.getD s true=true then y else minner ask N (y.1,{ y.2 with path:=[],on:=[(s:Int)] }) s
def mouter (ask:δ→Nat→δ×List Arc) (N:Nat):Nat→δ×SS→Nat→δ×SS
 | 0,y,_=>y
 | f+1,y,s=>if (menter ask N (y.1,{ y.2 with outer:=y.2.outer.set s true }) s).2.found=true then menter ask N (y.1,{ y.2 with outer:=y.2.outer.set s true }) s else
   mogo (mouter ask N f) s 0 (ask (menter ask N (y.1,{ y.2 with outer:=y.2.outer.set s true }) s).1 s).2
    ((ask (menter ask N (y.1,{ y.2 with outer:=y.2.outer.set s true }) s).1 s).1,(menter ask N (y.1,{ y.2 with outer:=y.2.outer.set s true }) s).2)
structure Ask (N:Nat) (ask:δ→Nat→δ×List Arc) (Kw:δ→Nat→Prop):Prop where
 to:∀{d s},Kw d s→∀a∈(ask d s).2,0≤a.2∧a.2<(N:Int)∧Kw (ask d s).1 a.2.toNat
 up:∀{d s k},Kw d s→Kw d k→Kw (ask d s).1 k
 tau:∀{d s},Kw d s→∀i a,(ask d s).2[i]?=some a→a.1≠0→∀b∈(ask d s).2.drop i,b.1≠0
 len:∀{d s},Kw d s→(ask d s).2.length≤100
variable {N:Nat} {ask:δ→Nat→δ×List Arc} {Kw:δ→Nat→Prop} {rec:δ×SS→Nat→δ×SS}
theorem Zj7 {s:Nat} {y:δ×SS} (h:y.2.found=true):∀i l,mgo rec s i l y=y
 | _,[]=>rfl
 | i,a::l=>by unfold mgo;rw [if_pos h]
theorem Zir {s:Nat} {y:δ×SS} (h:y.2.found=true):∀i l,mogo rec s i l y=y
 | _,[]=>rfl
 | i,a::l=>by unfold mogo;rw [if_pos h]
theorem ZmF {s:Nat}:∀{l:List Arc} {i:Nat} {y:δ×SS},(∀a∈l,a.1≠0)→mgo rec s i l y=y
 | [],_,_,_=>rfl
 | a::l,i,y,h=>by
  unfold mgo;split
  ·rfl
  ·rw [if_pos (h a (by simp))]
   exact ZmF fun b hb=>h b (by simp [hb])
theorem ZmE {s f:Nat} (hrec:∀z t,z.2.found=false→z.2.path.length+f≤1000→IPost z.2 (rec z t).2) :
  ∀(row:List Arc) (i:Nat) (y:δ×SS),y.2.found=false→y.2.path.length+f+1≤1000→IPost y.2 (mgo rec s i row y).2
 | [],_,y,h,_=>IPost.refl h
 | a::l,i,y,h,hf=>by
  have ih:=ZmE (s:=s) hrec l (i+1);unfold mgo;rw [if_neg (by rw [h];decide)]
  split
  ·exact ih y h hf
  ·split
   ·rename_i k _;refine ⟨rfl,rfl,zA _,fun h2=>(nomatch h2),fun _=>⟨?_,?_⟩⟩
    ·show (y.2.stem++y.2.path.take k).length≤_;simp only [zS,zX];omega
    ·show (y.2.path.drop k++[_]).length≤_;simp only [zS,List.length_drop,List.length_cons,List.length_nil];omega
   ·split
    ·exact ih y h hf
    ·have hz:=hrec (y.1,push ((s:Int),(i:Int)) a.2 y.2) a.2.toNat h (by show (y.2.path++[_]).length+f≤1000;simp only [zS,List.length_cons,List.length_nil];omega)
     generalize rec (y.1,push ((s:Int),(i:Int)) a.2 y.2) a.2.toNat=z at hz;cases hy:z.2.found with
     | true=>
      have hb:back z=z:=by unfold back;rw [if_pos hy]
      rw [hb,Zj7 hy];exact ⟨hz.outer,hz.len,hz.cnt,fun h2=>(by rw [hy] at h2;cases h2),hz.yes⟩
     | false=>
      have hb:back z=(z.1,{ z.2 with path:=z.2.path.dropLast,on:=z.2.on.dropLast }):=by unfold back;rw [if_neg (by rw [hy];decide)]
      rw [hb];obtain ⟨g1,g2,g3,g4⟩:=hz.no hy;have e1:z.2.path.dropLast=y.2.path:=by rw [g1];show (y.2.path++[_]).dropLast=_;simp
      have e2:z.2.on.dropLast=y.2.on:=by rw [g2];show (y.2.on++[_]).dropLast=_;simp
      have p1:IPost y.2 { z.2 with path:=z.2.path.dropLast,on:=z.2.on.dropLast }:=⟨hz.outer,hz.len,hz.cnt,fun _=>⟨e1,e2,g3,g4⟩,fun h2=>by rw [show SS.found { z.2 with path:=z.2.path.dropLast,on:=z.2.on.dropLast }=z.2.found from rfl,hy] at h2;cases h2⟩
      exact p1.trans hy (ih (z.1,{ z.2 with path:=z.2.path.dropLast,on:=z.2.on.dropLast }) hy (by show z.2.path.dropLast.length+f+1≤1000;rw [e1];exact hf))
theorem Zfe (ask:δ→Nat→δ×List Arc):∀(f:Nat) (y:δ×SS) (s:Nat),y.2.found=false→y.2.path.length+f≤1000→IPost y.2 (minner ask f y s).2
 | 0,y,s,h,_=>IPost.refl h
 | f+1,y,s,h,hf=>by
  have p:IPost { y.2 with inner:=y.2.inner.set s true } (minner ask (f+1) y s).2:=ZmE (f:=f) (Zfe ask f) _ _ ((ask y.1 s).1,{ y.2 with inner:=y.2.inner.set s true }) h (by show y.2.path.length+f+1≤1000;omega)
  exact ⟨p.outer,p.len.trans (by simp),zB p.cnt (ZdA _ _),p.no,p.yes⟩
theorem Zhv (ask:δ→Nat→δ×List Arc) (hN:N≤400) {y:δ×SS} {s:Nat} (h:y.2.found=false) (hs:y.2.stem.length≤1000):OPost y.2 (menter ask N y s).2:=by
 unfold menter;split
 ·exact OPost.refl h
 ·have p:=Zfe ask N (y.1,{ y.2 with path:=[],on:=[(s:Int)] }) s h (by show 0+N≤1000;omega)
  exact ⟨by rw [p.outer],p.len,by rw [p.outer];exact zA _,fun h2=>⟨(p.no h2).2.2.1,(p.no h2).2.2.2⟩,fun h2=>⟨by have h3:=(p.yes h2).1;exact zB h3 (by show y.2.stem.length+1000≤2000;omega),(p.yes h2).2⟩⟩
theorem Zj3 {s f:Nat} (hrec:∀z t,z.2.found=false→z.2.stem.length+f≤1000→OPost z.2 (rec z t).2) :
  ∀(row:List Arc) (i:Nat) (y:δ×SS),y.2.found=false→y.2.stem.length+f+1≤1000→OPost y.2 (mogo rec s i row y).2
 | [],_,y,h,_=>OPost.refl h
 | a::l,i,y,h,hf=>by
  have ih:=Zj3 (s:=s) hrec l (i+1);unfold mogo;rw [if_neg (by rw [h];decide)]
  split
  ·exact ih y h hf
  ·have hz:=hrec (y.1,Zd9 ((s:Int),(i:Int)) y.2) a.2.toNat h (by show (y.2.stem++[_]).length+f≤1000;simp only [zS,List.length_cons,List.length_nil];omega)
   generalize rec (y.1,Zd9 ((s:Int),(i:Int)) y.2) a.2.toNat=z at hz;cases hy:z.2.found with
   | true=>
    have hb:Zdq z=z:=by unfold Zdq;rw [if_pos hy]
    rw [hb,Zir hy];exact ⟨hz.olen,hz.len,hz.cnt,fun h2=>(by rw [hy] at h2;cases h2),hz.yes⟩
   | false=>
    have hb:Zdq z=(z.1,{ z.2 with stem:=z.2.stem.dropLast }):=by unfold Zdq;rw [if_neg (by rw [hy];decide)]
    rw [hb];obtain ⟨g3,g4⟩:=hz.no hy;have e1:z.2.stem.dropLast=y.2.stem:=by rw [g3];show (y.2.stem++[_]).dropLast=_;simp
    have p1:OPost y.2 { z.2 with stem:=z.2.stem.dropLast }:=⟨hz.olen,hz.len,hz.cnt,fun _=>⟨e1,g4⟩,fun h2=>by rw [show SS.found { z.2 with stem:=z.2.stem.dropLast }=z.2.found from rfl,hy] at h2;cases h2⟩
    exact p1.trans hy (ih (z.1,{ z.2 with stem:=z.2.stem.dropLast }) hy (by show z.2.stem.dropLast.length+f+1≤1000;rw [e1];exact hf))
theorem Zhr (ask:δ→Nat→δ×List Arc) (hN:N≤400):∀(f:Nat) (y:δ×SS) (s:Nat),y.2.found=false→y.2.stem.length+f≤1000→OPost y.2 (mouter ask N f y s).2
 | 0,y,s,h,_=>OPost.refl h
 | f+1,y,s,h,hf=>by
  have p:=Zhv ask hN (y:=(y.1,{ y.2 with outer:=y.2.outer.set s true })) (s:=s) h (by show y.2.stem.length≤1000;omega)
  have q:OPost y.2 (menter ask N (y.1,{ y.2 with outer:=y.2.outer.set s true }) s).2:=⟨p.olen.trans (by simp),p.len,zB p.cnt (ZdA _ _),p.no,p.yes⟩
  unfold mouter;cases hy:(menter ask N (y.1,{ y.2 with outer:=y.2.outer.set s true }) s).2.found with
  | true=>rw [if_pos rfl];exact q
  | false=>
   rw [if_neg (by decide)]
   refine q.trans hy (Zj3 (f:=f) (Zhr ask hN f) _ _ ((ask (menter ask N (y.1,{ y.2 with outer:=y.2.outer.set s true }) s).1 s).1,(menter ask N (y.1,{ y.2 with outer:=y.2.outer.set s true }) s).2) hy ?_)
   show (menter ask N (y.1,{ y.2 with outer:=y.2.outer.set s true }) s).2.stem.length+f+1≤1000
   rw [(q.no hy).1];omega
theorem Zmn {l:List Bool} {s k:Nat} (h:l.getD k false=true):(l.set s true).getD k false=true:=by
 rw [zL] at h ⊢;by_cases e:s=k
 ·subst e;cases hq:l[s]? with
  | none=>rw [hq] at h;cases h
  | some q=>
   have:=(zE.1 hq).1;rw [List.getElem?_set_self this];rfl
 ·rw [List.getElem?_set_ne e];exact h
theorem Zgo (z:δ×SS):(back z).2.inner=z.2.inner∧(back z).1=z.1:=by
 unfold back;split<;>exact ⟨rfl,rfl⟩
theorem ZhV (z:δ×SS):(Zdq z).1=z.1:=by
 unfold Zdq;split<;>rfl
theorem ZmH {s:Nat} (hrec:∀z t k,z.2.inner.getD k false=true→(rec z t).2.inner.getD k false=true):∀(row:List Arc) (i:Nat) (y:δ×SS) (k:Nat),y.2.inner.getD k false=true→(mgo rec s i row y).2.inner.getD k false=true
 | [],_,y,k,h=>h
 | a::l,i,y,k,h=>by
  have ih:=ZmH (s:=s) hrec l (i+1);unfold mgo;split
  ·exact h
  ·split
   ·exact ih y k h
   ·split
    ·exact h
    ·split
     ·exact ih y k h
     ·refine ih _ k ?_;rw [(Zgo _).1];exact hrec (y.1,push ((s:Int),(i:Int)) a.2 y.2) a.2.toNat k h
theorem Zhu (ask:δ→Nat→δ×List Arc):∀(f:Nat) (y:δ×SS) (s k:Nat),y.2.inner.getD k false=true→(minner ask f y s).2.inner.getD k false=true
 | 0,y,s,k,h=>h
 | f+1,y,s,k,h=>ZmH (Zhu ask f) _ _ ((ask y.1 s).1,{ y.2 with inner:=y.2.inner.set s true }) k (Zmn h)
theorem ZqK {s:Nat} (hrec:∀z t,Kw z.1 t→∀k,Kw z.1 k→Kw (rec z t).1 k):∀(row:List Arc) (i:Nat) (y:δ×SS),(∀a∈row,Kw y.1 a.2.toNat)→∀k,Kw y.1 k→Kw (mgo rec s i row y).1 k
 | [],_,y,_,k,h=>h
 | a::l,i,y,hr,k,h=>by
  have ih:=ZqK (s:=s) hrec l (i+1);have hl:∀b∈l,Kw y.1 b.2.toNat:=fun b hb=>hr b (List.mem_cons_of_mem _ hb);unfold mgo;split
  ·exact h
  ·split
   ·exact ih y hl k h
   ·split
    ·exact h
    ·split
     ·exact ih y hl k h
     ·have hz:=hrec (y.1,push ((s:Int),(i:Int)) a.2 y.2) a.2.toNat (hr a List.mem_cons_self);refine ih _ (fun b hb=>?_) k ?_
      ·rw [(Zgo _).2];exact hz _ (hl b hb)
      ·rw [(Zgo _).2];exact hz _ h
theorem Zht (hA:Ask N ask Kw):∀(f:Nat) (y:δ×SS) (s:Nat),Kw y.1 s→∀k,Kw y.1 k→Kw (minner ask f y s).1 k
 | 0,y,s,_,k,h=>h
 | f+1,y,s,hs,k,h=>ZqK (Zht hA f) _ _ ((ask y.1 s).1,{ y.2 with inner:=y.2.inner.set s true }) (fun a ha=>(hA.to hs a ha).2.2) k (hA.up hs h)
theorem Zj9 (hA:Ask N ask Kw) (y:δ×SS) (s:Nat) (hs:Kw y.1 s) (k:Nat) (h:Kw y.1 k):Kw (menter ask N y s).1 k:=by
 unfold menter;split
 ·exact h
 ·exact Zht hA N (y.1,{ y.2 with path:=[],on:=[(s:Int)] }) s hs k h
theorem Zos {s:Nat} (hrec:∀z t,Kw z.1 t→∀k,Kw z.1 k→Kw (rec z t).1 k):∀(row:List Arc) (i:Nat) (y:δ×SS),(∀a∈row,Kw y.1 a.2.toNat)→∀k,Kw y.1 k→Kw (mogo rec s i row y).1 k
 | [],_,y,_,k,h=>h
 | a::l,i,y,hr,k,h=>by
  have ih:=Zos (s:=s) hrec l (i+1);have hl:∀b∈l,Kw y.1 b.2.toNat:=fun b hb=>hr b (List.mem_cons_of_mem _ hb);unfold mogo;split
  ·exact h
  ·split
   ·exact ih y hl k h
   ·have hz:=hrec (y.1,Zd9 ((s:Int),(i:Int)) y.2) a.2.toNat (hr a List.mem_cons_self);refine ih _ (fun b hb=>?_) k ?_
    ·rw [ZhV];exact hz _ (hl b hb)
    ·rw [ZhV];exact hz _ h
theorem Zj1 (hA:Ask N ask Kw):∀(f:Nat) (y:δ×SS) (s:Nat),Kw y.1 s→∀k,Kw y.1 k→Kw (mouter ask N f y s).1 k
 | 0,y,s,_,k,h=>h
 | f+1,y,s,hs,k,h=>by
  have h1:=Zj9 hA (y.1,{ y.2 with outer:=y.2.outer.set s true }) s hs
  unfold mouter;split
  ·exact h1 k h
  ·exact Zos (Zj1 hA f) _ _ ((ask (menter ask N (y.1,{ y.2 with outer:=y.2.outer.set s true }) s).1 s).1,(menter ask N (y.1,{ y.2 with outer:=y.2.outer.set s true }) s).2)
    (fun a ha=>(hA.to (h1 s hs) a ha).2.2) k (hA.up (h1 s hs) (h1 k h))
end
theorem mem_findOn:∀{l:List Int} {t:Int},findOn l t=none↔t∉l
 | [],t=>by simp [findOn]
 | x::l,t=>by
  have ih:=mem_findOn (l:=l) (t:=t);unfold findOn;by_cases h:x=t
  ·rw [if_pos h];simp [h]
  ·rw [if_neg h];have:(findOn l t).map (·+1)=none↔findOn l t=none:=by cases findOn l t<;>simp
   rw [this,ih];simp;intro _ h2;exact h h2.symm
theorem Zkp:∀{l:List Int} {t:Int} {k:Nat},findOn l t=some k→k<l.length
 | [],_,_,h=>by cases h
 | x::l,t,k,h=>by
  unfold findOn at h;split at h
  ·cases h;simp
  ·cases hq:findOn l t with
   | none=>rw [hq] at h;cases h
   | some q=>
    rw [hq] at h;cases h;have:=Zkp hq;simp;omega
open Abs
theorem Zpd {x y:Int}:Zdb Tryz.prog 102 [(0,.int .i64 x),(1,.int .i64 y)]=some (vArc (x,y)):=by kernel_rfl
theorem Zmk {σ:AS} {x:Arc}:Zaz Tryz.prog σ 97 1 [(0,vArc x)]=some (.slice (some ⟨σ.next,0,none⟩) 1 1,σ.new ⟨1,102,0,[.int .i64 x.1,.int .i64 x.2],[]⟩):=by kernel_rfl
theorem ZpC {σ:AS} {x y:Value} {a b:Option Addr} {n m c e:Nat} (hx:x=.slice a n c) (hy:y=.slice b m e):Zaz Tryz.prog σ 193 2 [(0,x),(1,y)]=some (.slice (some ⟨σ.next,0,none⟩) 2 2,σ.new ⟨1,97,0,[x,y],[]⟩):=by subst hx;subst hy;kernel_rfl
theorem ArcAt.putP {σ:AS} {xb b:Nat} {a:Arc} (hA:ArcAt σ b a) (hk:(σ.get xb).kind=1) (hx:(σ.get xb).elem=99) (B:Blk):ArcAt (σ.put xb B) b a:=by
 refine ⟨hA.lt,?_⟩;rw [AS.get_put,if_neg]
 ·exact hA.get
 ·rintro rfl;rw [hA.get] at hx;have h9:(57:Nat)=99:=hx;omega
theorem _root_.Go.Proofs.YteangeffgjolpaaGreatDoor.Abs.Stk.tailE {lo j:Nat} {σ:AS} {v:Value} {l:List Arc} (h:Stk lo 102 2 σ v l.length (cellsOf l)) (hj:j<l.length):∃b c,Zbv Tryz.prog σ 97 v (some (.int .i64 (j:Int))) none none=some (.slice (some ⟨b,j*2,none⟩) (l.length-j) c)∧b<σ.next∧
  ∀σ':AS,σ'.get b=σ.get b→Src σ' (.slice (some ⟨b,j*2,none⟩) (l.length-j) c) (l.drop j):=by
 obtain ⟨c1,c2,⟨rfl,h0⟩|⟨b,n,vals,rfl,h4,h5,h6,h7,h8,h9⟩⟩:=h
 ·omega
 ·have hkz:l.length*2≤vals.length:=zB (Nat.mul_le_mul_right 2 h4) h8;have e1:j*2+(l.length-j)*2=l.length*2:=by omega
  have hc:∀σ':AS,σ'.get b=σ.get b→Zav σ' ⟨b,j*2,none⟩ ((l.length-j)*2)=some ((cellsOf l).drop (j*2)):=fun σ' hg=>by
   unfold Zav;simp only [hg,h7,ZaJ];rw [e1,ZbF hkz,←h9,List.drop_take];rw [show l.length*2-j*2=(l.length-j)*2 by omega]
   rfl
  have src:∀c (σ':AS),σ'.get b=σ.get b→Src σ' (.slice (some ⟨b,j*2,none⟩) (l.length-j) c) (l.drop j):=fun c σ' hg inf hi=>by
   unfold Zbd;simp only [Bool.false_eq_true,if_false,hi,Zbh,hc σ' hg];rw [List.length_drop,ZcK]
  by_cases h0:j=0
  ·subst h0;refine ⟨b,Zax+n,Zdt el53 h7 ?_,h6,src _⟩;unfold Zbg;simp only [ZbW,Zcb,abound_at 0 _ (zH _),Zbn,if_true,Nat.beq_refl];rfl
  ·have d0:Nat.beq j 0=false:=ZlP h0;refine ⟨b,Zax+(n-j),Zdt el53 h7 ?_,h6,src _⟩;unfold Zbg;simp only [ZbW,Zcb,abound_at j l.length (by omega),Zbn,if_true,d0,Bool.false_eq_true,if_false]
   rw [if_pos (by rw [Nat.blt_eq];omega)]
   have hz:¬(j*2=0):=by omega
   simp only [Option.map_some,Addr.add,Nat.zero_add];rw [if_neg hz]
theorem _root_.Go.Proofs.YteangeffgjolpaaGreatDoor.Abs.Stk.lower {lo lo' k:Nat} {σ:AS} {v:Value} {cs:List Value} (h:Stk lo 102 2 σ v k cs) (hl:lo'≤lo):Stk lo' 102 2 σ v k cs:=by
 obtain ⟨c1,c2,h3|⟨b,n,vals,e,h4,h5,h6⟩⟩:=h
 ·exact ⟨c1,c2,.inl h3⟩
 ·exact ⟨c1,c2,.inr ⟨b,n,vals,e,h4,by omega,h6⟩⟩
theorem PRepC.setStem {X:List Nat} {σ0 S σ:AS} {xb N:Nat} {x:PD} {d:FP} (h:PRepC X σ0 S σ xb N x d) {v':Value} {p:List Arc} (hs:Stk σ0.next 102 2 σ v' p.length (cellsOf p)):PRepC X σ0 S σ xb N { x with stem:=p } { d with sv:=v' }:=
 ⟨h.ext,h.fr,h.lo,h.lt,h.el,h.kd,h.ol,h.il,h.outer,h.inner,h.place,h.oi,h.op,h.ip,h.path,h.inside,h.ps,hs,h.loop⟩
theorem PRepC.setLoop {X:List Nat} {σ0 S σ:AS} {xb N:Nat} {x:PD} {d:FP} (h:PRepC X σ0 S σ xb N x d) {v':Value} {p:List Arc} (hs:Stk σ0.next 102 2 σ v' p.length (cellsOf p)):PRepC X σ0 S σ xb N { x with loop:=p } { d with lv:=v' }:=
 ⟨h.ext,h.fr,h.lo,h.lt,h.el,h.kd,h.ol,h.il,h.outer,h.inner,h.place,h.oi,h.op,h.ip,h.path,h.inside,h.ps,h.stem,hs⟩
section
variable {P:Program} {K:Tbl} {G n:Nat} {ops:Array Oper} {r:Regs} {σ s1:AS} {l:List Oper} {Q:Regs→AS→Prop}
theorem Zsg {k0:Nat} {d:Nat} {args:Array Operand} {ts:Array TypeId} {ty:TypeId} {pos:String} {aft:Array Edge} {fid:FuncId} {vs:List Value} {gd:Option (Nat×Bool)}
  (hw:aWanted ops r ⟨some d,.call ⟨.value (.func fid),args,ts⟩,ty,pos,aft,gd⟩=true) (hv:aevs G r args.toList=some vs) (hd:d<n) (hbar:ZhU P ops [] k0=true)
  (h:C P K G fid vs σ.reset fun v s1=>Lg P K G n ops [] [] (k0+1) l (rput r d v) (σ.merge s1) Q) :
  Lg P K G n ops [] [] k0 (⟨some d,.call ⟨.value (.func fid),args,ts⟩,ty,pos,aft,gd⟩::l) r σ Q:=by
 refine ⟨fun _=>ZiQ (first:=#[]) (captured:=#[]) rfl hv ?_,fun h=>by rw [hw] at h;cases h⟩
 have e:(#[]:Array Value).toList++vs++(#[]:Array Value).toList=vs:=by simp
 rw [e];exact h.mono fun v s1 h2=>⟨⟨.inr ⟨hbar,fun x hx=>(nomatch hx)⟩,fun h=>(nomatch h)⟩,_,by simp only [aPut,Zab];rw [if_pos (by rw [Nat.blt_eq];exact hd)],h2⟩
end
def KB (X:List Nat) (σ0 σ:AS) (b:Nat):Prop:=(b<σ0.next∧b∉X)∨(σ0.next≤b∧(σ.get b).kind≠3∧(σ.get b).elem≠99∧(σ.get b).elem≠102∧(σ.get b).elem≠22)
structure KR (X:List Nat) (σ0 σ σ':AS):Prop where
 nxt:σ.next≤σ'.next
 get:∀i,i<σ.next→KB X σ0 σ i→σ'.get i=σ.get i
structure PFr (X:List Nat) (σ0 σ σ':AS):Prop where
 nxt:σ.next≤σ'.next
 lo:∀i,i<σ0.next→i∉X→σ'.get i=σ.get i
 hi:∀i,σ0.next≤i→i<σ.next→¬((σ.get i).kind=2∧(σ.get i).elem=22)→σ'.get i=σ.get i
 low:∀m,m≤σ0.next→(∀x∈X,m≤x)→m≤σ.low→m≤σ'.low
section
variable {X:List Nat} {σ0 σ σ' σ'' s S:AS} {v:Value} {l:List Arc}
theorem KR.refl:KR X σ0 σ σ:=⟨zA _,fun _ _ _=>rfl⟩
theorem KR.trans (h:KR X σ0 σ σ') (k:KR X σ0 σ' σ''):KR X σ0 σ σ'':=
 ⟨zB h.nxt k.nxt,fun i hi hb=>(k.get i (zC hi h.nxt) (hb.imp_right fun h2=>by rw [h.get i hi hb];exact h2)).trans (h.get i hi hb)⟩
theorem KR.of_fr (h:Fr σ0.next S σ):KR X σ0 S σ:=
 ⟨h.nxt,fun i hi hb=>h.get i hi (hb.imp (fun h2=>h2.1) fun h2=>⟨h2.2.1,h2.2.2.1,h2.2.2.2.1⟩)⟩
theorem KR.of_pfr (h:PFr X σ0 σ σ'):KR X σ0 σ σ':=
 ⟨h.nxt,fun i hi hb=>hb.elim (fun h2=>h.lo i h2.1 h2.2) fun h2=>h.hi i h2.1 hi fun h3=>h2.2.2.2.2 h3.2⟩
theorem KR.reset (h:KR X σ0 σ.reset s):KR X σ0 σ s:=⟨h.nxt,h.get⟩
def RowK (X:List Nat) (σ0 σ:AS) (v:Value) (l:List Arc):Prop:=RS 2 RArc σ v l∧(l≠[]→∀b off n c,v=.slice (some ⟨b,off,none⟩) n c→KB X σ0 σ b)
theorem RowK.keep (h:RowK X σ0 σ v l) (k:KR X σ0 σ σ'):RowK X σ0 σ' v l:=by
 obtain ⟨⟨base,cap,e,h1⟩,h2⟩:=h;refine ⟨⟨base,cap,e,fun hl=>?_⟩,fun hl b off n c hv=>?_⟩
 ·obtain ⟨b,off,rfl,h3,h4⟩:=h1 hl;have hb:=h2 hl b off _ _ e;refine ⟨b,off,rfl,zC h3 k.nxt,fun i x hi=>?_⟩;obtain ⟨cs,h5,h6⟩:=h4 i x hi;exact ⟨cs,by unfold Zav at h5 ⊢;rw [k.get b h3 hb];exact h5,h6⟩
 ·obtain ⟨b',off',e',h3,-⟩:=h1 hl;rw [e,e'] at hv;have hbb:b=b':=by simp only [Value.slice.injEq,Option.some.injEq,Addr.mk.injEq] at hv;exact hv.1.1.symm
  subst hbb;have hb:=h2 hl b off' _ _ (by rw [e,e'])
  exact hb.imp_right fun h5=>by rw [k.get b h3 hb];exact h5
variable {xb N M c:Nat} {fv:Value} {x:PD} {d d':FP}
theorem PRepC.prov (h:PRepC X σ0 S σ xb N x d) (k:PFr X σ0 σ σ'):PRepC X σ0 σ' σ' xb N x d:=by
 have n2:∀{i:Nat},σ0.next≤i→i<σ.next→(σ.get i).elem≠22→σ'.get i=σ.get i:=fun h1 h2 h3=>k.hi _ h1 h2 fun h4=>h3 h4.2;have n3:∀{i:Nat},σ0.next≤i→i<σ.next→(σ.get i).kind=3→σ'.get i=σ.get i:=fun h1 h2 h3=>k.hi _ h1 h2 fun h4=>by rw [h3] at h4;exact absurd h4.1 (by decide)
 have gx:=n2 h.lo h.lt (by rw [h.el];decide)
 have mp:∀{v:Value} {f:Int→Option Value},MapAt σ0.next σ v f→MapAt σ0.next σ' v f:=fun hm=>hm.keep k.nxt fun i ho hi=>n3 (hm.own ho).1 hi (hm.own ho).2.2;have st:∀{v:Value} {p:List Arc},Stk σ0.next 102 2 σ v p.length (cellsOf p)→Stk σ0.next 102 2 σ' v p.length (cellsOf p):=fun hm=>hm.keep k.nxt fun i ho hi=>n2 (hm.own ho).1 hi (by rw [(hm.own ho).2.2.2];decide)
 exact ⟨⟨zB h.ext.nxt k.nxt,fun i hi hx=>(k.lo i hi hx).trans (h.ext.get i hi hx),fun m h1 h2 h3=>k.low m h2 h3 (h.ext.low m h1 h2 h3)⟩,Fr.refl,h.lo,zC h.lt k.nxt,by rw [gx];exact h.el,by rw [gx];exact h.kd,h.ol,h.il,
  mp h.outer,mp h.inner,mp h.place,h.oi,h.op,h.ip,st h.path,st h.inside,h.ps,st h.stem,st h.loop⟩
theorem PMid.prov (h:PMid X σ0 S σ xb N M fv c x d d') (k:PFr X σ0 σ σ'):PMid X σ0 σ' σ' xb N M fv c x d d':=
 ⟨h.c.prov k,(k.hi xb h.c.lo h.c.lt fun h4=>absurd (h.c.kd.symm.trans h4.1) (by decide)).trans h.get⟩
end
structure Prov {δ:Type} (X:List Nat) (σ0:AS) (N:Nat) (fid:FuncId) (fs cs:Array Value) (ask:δ→Nat→δ×List Arc) (Kw:δ→Nat→Prop) (ER:δ→AS→Prop):Prop where
 mono:∀{dl S σ},ER dl S→Fr σ0.next S σ→ER dl σ
 call:∀{dl σ s},ER dl σ→Kw dl s→s<N→σ0.next≤σ.next→C Tryz.prog Kn 0 fid (fs.toList++[.int .i64 (s:Int)]++cs.toList) σ fun v σ'=>ER (ask dl s).1 σ'∧RowK X σ0 σ' v (ask dl s).2∧PFr X σ0 σ σ'
def PNo {δ:Type} (X:List Nat) (σ0:AS) (N M:Nat) (ER:δ→AS→Prop) (fv:Value) (xb:Nat) (σ:AS) (dl:δ) (x:SS) (oo:List Int) (pp:List Arc):Prop:=
 ∃d,Zh6 X σ0 σ σ xb N M fv ⟨x.outer,x.inner,oo,x.stem,pp,[],[]⟩ d∧(d.sv=.slice none 0 0∧d.lv=.slice none 0 0)∧ER dl σ
def PYes {δ:Type} (X:List Nat) (σ0:AS) (N M:Nat) (ER:δ→AS→Prop) (fv:Value) (xb:Nat) (σ:AS) (dl:δ) (x:SS):Prop:=
 ∃d y c,PMid X σ0 σ σ xb N M fv c y d d∧y.stem=x.stem∧y.loop=x.loop∧c≤N∧ER dl σ
theorem in_c {δ:Type} {X:List Nat} {σ0:AS} {xb N M:Nat} {fid:FuncId} {fs cs:Array Value} {ask:δ→Nat→δ×List Arc} {Kw:δ→Nat→Prop} {ER:δ→AS→Prop}
  (P:Prov X σ0 N fid fs cs ask Kw ER) (hA:Ask N ask Kw) (hN:N≤400) (hM:N≤M) :
  ∀(f:Nat) {σ:AS} {dl:δ} {x:SS} {s:Nat} {oo:List Int},PNo X σ0 N M ER (.func (.func fid) fs cs) xb σ dl x oo x.path→x.on=oo++[(s:Int)]→Kw dl s→s<N→x.found=false→x.loop=[]→oo.length=x.path.length→cnt x.inner≤f→x.inner[s]?=some false→
   (∀t∈oo,0≤t∧x.inner.getD t.toNat false=true)→x.path.length+f≤900→x.stem.length≤1000→C Tryz.prog Kn 0 68 [.pointer (some ⟨xb,0,none⟩),.int .i64 (s:Int)] σ fun v σ'=>
    v=.bool (minner ask f (dl,x) s).2.found∧KR X σ0 σ σ'∧((minner ask f (dl,x) s).2.found=false→PNo X σ0 N M ER (.func (.func fid) fs cs) xb σ' (minner ask f (dl,x) s).1 (minner ask f (dl,x) s).2 oo x.path)∧((minner ask f (dl,x) s).2.found=true→PYes X σ0 N M ER (.func (.func fid) fs cs) xb σ' (minner ask f (dl,x) s).1 (minner ask f (dl,x) s).2):=by
 intro f
 induction f with
 | zero=>
  intro σ dl x s oo _ _ _ _ _ _ _ hc hs;have:=ZhM hs;omega
 | succ f ih=>
  intro σ dl x s oo hP hon hKs hs hfd hlp hol hc hin hoo hpf hst;obtain ⟨dl1,row,hask⟩:∃dl1 row,ask dl s=(dl1,row):=⟨_,_,rfl⟩;have hto:∀a∈row,0≤a.2∧a.2<(N:Int)∧Kw dl1 a.2.toNat:=by have h:=hA.to hKs;rw [hask] at h;exact h
  have htau:∀i a,row[i]?=some a→a.1≠0→∀b∈row.drop i,b.1≠0:=by have h:=hA.tau hKs;rw [hask] at h;exact h
  have hrl:row.length≤100:=by have h:=hA.len hKs;rw [hask] at h;exact h
  obtain ⟨d,R,hnil,hE⟩:=hP;have hcs:=ZhM hin;have hns:findOn oo (s:Int)=none:=mem_findOn.2 fun h=>by
   have h2:=(hoo _ h).2;rw [zW,zL,hin] at h2;cases h2
  refine C_of (kn (by decide)) Tryz.func68 rfl (zD rfl) ?_
  show W _ _ _ 129 _ _ _ _;unfold Tryz.f68;dsimp only;repeat apply Zaa
  apply Zad;intro _;simp +decide only [zq,ZaI,↓Zab,↓reduceIte,aOp];rfl;have RQ:=R.ext (Ext.reset σ);repeat apply Zaa
  refine Za8 [] [] (by kernel_rfl) (by kernel_rfl) ?_
  apply Zau 10;intro _;simp +decide only [zq,zr,List.take,aQ,↓Zab,↓reduceIte,aOp,Zac,Zag,Zbo,Zly,Zgi,RQ.ld3,RQ.ld4];rfl;dsimp only [List.drop,List.take,List.length];have e1:Ext σ (σ.merge σ.reset):=(Ext.refl _).merge;generalize σ.merge σ.reset=σ1 at e1;have R1:=R.ext e1;refine ZiR (vs:=[.pointer (some ⟨xb,0,none⟩),d.im,d.om,.int .i64 (s:Int)]) (by simp +decide only [zq,aevs]) (by decide) rfl (by kernel_rfl) (C.mono (Znp (R1.ext (Ext.reset σ1)) hs (by omega) hin) ?_)
  rintro v s1 M1;refine ⟨fun y hy=>(nomatch hy),?_⟩;have R2:=M1.merge R1.c.ext;generalize σ1.merge s1=σ2 at R2;clear M1 R1 RQ;apply ZaO
  ·intro callf;rfl
  show W _ _ _ 129 _ _ _ _;have hcu:=zB (ZlL x.outer (x.inner.set s true)) (Nat.le_of_eq R2.c.ol);have hcu:=zB hcu hM;repeat apply Zaa
  apply ZaF;apply Zay 1;intro _;simp +decide only [zq,List.take,↓Zab,↓reduceIte,aOp];rfl;dsimp only [List.drop];refine ZaV (vs:=[.pointer (some ⟨xb,0,none⟩)]) (by simp +decide only [zq,aevs]) (by decide) (C.mono (ZoP R2 hcu) ?_)
  rintro v σ' ⟨rfl,e3⟩;apply ZaG;intro _;simp +decide only [aOps];rfl;have R3:=R2.ext e3;generalize σ'=σ3 at R3;repeat apply Zaa
  refine ZaC (by simp +decide only [zq]) ?_
  apply Zak;have hel:x.path.length=oo.length:=hol.symm;have RQ:=R3.ext (Ext.reset σ3);obtain ⟨na,nc,hnv⟩:=RQ.c.inside.len;have l7:=RQ.ld7;rw [hnv] at l7;repeat apply Zaa
  refine Za8 [] [] (by kernel_rfl) (by kernel_rfl) ?_
  apply Zau 10;intro _;simp +decide only [zq,zr,List.take,aQ,↓Zab,↓reduceIte,aOp,Zan,Zac,Zag,aevs,Zaf,aLen,Zbo,Zja,Zgh,RQ.ld5,l7,Tryz.underlying97,goInt];rfl;dsimp only [List.drop,List.take,List.length];have e4:Ext σ3 (σ3.merge σ3.reset):=(Ext.refl _).merge;generalize σ3.merge σ3.reset=σ4 at e4;have R4:=R3.ext e4;obtain ⟨mr,mB,hmu,R5⟩:=(R4.ext (Ext.reset σ4)).enter hns;dsimp only at hmu R5;rw [show ((oo.length:Nat):Int)=((x.path.length:Nat):Int) by rw [hel]] at hmu
  refine ZnN (v:=undef) (s1:=σ4.reset.put mr mB) (by intro callf;simp +decide only [zq,↓reduceIte,aOp,unn,ZbG,hmu]) (by kernel_rfl) ?_
  have R5:=R5.merge R4.c.ext;generalize σ4.merge (σ4.reset.put mr mB)=σ5 at R5;clear R4 R3 RQ R2 l7 hnv hmu;show W _ _ _ 129 _ _ _ _;have hE5:=P.mono hE R5.c.fr;have K5:=KR.of_fr (X:=X) R5.c.fr;repeat apply Zaa
  apply ZaF;apply Zay 5;intro _;simp +decide only [zq,List.take,↓Zab,↓reduceIte,aOp,Zac,Zag,Zbo,ZoR,R5.ld0];rfl;dsimp only [List.drop];refine Zfp (first:=fs) (captured:=cs) (fid:=fid) (vs:=[.int .i64 (s:Int)]) (by simp +decide only [zq]) (by simp +decide only [zq,aevs]) (by decide) (C.mono (P.call hE5 hKs hs R5.c.ext.nxt) ?_)
  rintro v σ' ⟨hE6,hrow,hpf6⟩;rw [hask] at hE6 hrow;obtain ⟨rb,rc,rfl,-⟩:=id hrow.1;have K6:=K5.trans (KR.of_pfr hpf6);have R6:=R5.prov hpf6;generalize σ'=σ6 at R6 hE6 hrow hpf6 K6;apply ZaG;intro _;simp +decide only [zq,↓Zab,↓reduceIte,aOp,Zan,aevs,Zaf,aLen,Tryz.underlying44,goInt];rfl;have hfin:∀(y:δ×SS),y=mgo (minner ask f) s 0 row (dl1,{ x with inner:=x.inner.set s true })→minner ask (f+1) (dl,x) s=y:=fun y e=>by
   have e2:minner ask (f+1) (dl,x) s=mgo (minner ask f) s 0 (ask dl s).2 ((ask dl s).1,{ x with inner:=x.inner.set s true }):=rfl
   rw [e2,hask,←e]
  have hP1:PNo X σ0 N M ER (.func (.func fid) fs cs) xb σ6 dl1 ({ x with inner:=x.inner.set s true }:SS) (oo++[(s:Int)]) x.path:=⟨d,R6,hnil,hE6⟩
  have hmk:∀t∈oo++[(s:Int)],0≤t∧({ x with inner:=x.inner.set s true }:SS).inner.getD t.toNat false=true:=fun t ht=>by
   rcases zR.1 ht with ht|ht
   ·exact ⟨(hoo t ht).1,Zmn (hoo t ht).2⟩
   ·rw [List.mem_singleton.1 ht,zW];refine ⟨by omega,?_⟩
    show (x.inner.set s true).getD s false=true;have:=(zE.1 hin).1;simp [List.getD,this]
  have hx1f:cnt ({ x with inner:=x.inner.set s true }:SS).inner≤f:=by show cnt (x.inner.set s true)≤f;omega
  have hx2:({ x with inner:=x.inner.set s true }:SS).found=false:=hfd
  have hx3:({ x with inner:=x.inner.set s true }:SS).path=x.path∧({ x with inner:=x.inner.set s true }:SS).on=x.on∧({ x with inner:=x.inner.set s true }:SS).stem=x.stem∧({ x with inner:=x.inner.set s true }:SS).loop=[]:=⟨rfl,rfl,rfl,hlp⟩
  generalize ({ x with inner:=x.inner.set s true }:SS)=x1 at hfin hP1 hmk hx1f hx2 hx3
  clear R6 hel hcu;repeat apply Zaa
  refine Zbs (fun (p:Nat×δ×SS) r σ'=>p.1≤row.length∧p.2.2.found=false∧(p.2.2.path=x.path∧p.2.2.on=x.on∧p.2.2.stem=x.stem∧p.2.2.loop=[])∧cnt p.2.2.inner≤f∧(∀t∈oo++[(s:Int)],0≤t∧p.2.2.inner.getD t.toNat false=true)∧PNo X σ0 N M ER (.func (.func fid) fs cs) xb σ' p.2.1 p.2.2 (oo++[(s:Int)]) x.path∧KR X σ0 σ6 σ'∧(∀a∈row,Kw p.2.1 a.2.toNat)∧
    mgo (minner ask f) s p.1 (row.drop p.1) p.2=mgo (minner ask f) s 0 row (dl1,x1)∧rget r 0=.pointer (some ⟨xb,0,none⟩)∧rget r 1=.int .i64 (s:Int)∧rget r 37=.slice rb row.length rc∧rget r 38=.int .i64 (row.length:Int)∧rget r 39=.int .i64 (p.1:Int))
   (fun p=>row.length-p.1) (fun r σ'=>∃y:δ×SS,y.2.found=false∧PNo X σ0 N M ER (.func (.func fid) fs cs) xb σ' y.1 y.2 (oo++[(s:Int)]) x.path∧KR X σ0 σ6 σ'∧y=mgo (minner ask f) s 0 row (dl1,x1)∧rget r 0=.pointer (some ⟨xb,0,none⟩)∧rget r 1=.int .i64 (s:Int)) ?_ ?_ (0,dl1,x1) ?_
  rotate_left 2
  ·simp +decide only [zq];refine ⟨zH _,hx2,hx3,hx1f,hmk,hP1,KR.refl,fun a ha=>(hto a ha).2.2,rfl,?_,?_,?_,?_,?_⟩<;>first|exact True.intro|rfl
  rotate_left
  ·rintro r σ7 ⟨⟨dy,y⟩,hyf,⟨d7,R7,hnil7,hE7⟩,K7,hy,h0,h1⟩;dsimp only at hyf R7 hE7;obtain ⟨mr,mB,hmd,R8⟩:=R7.leave rfl hns;dsimp only at hmd R8;repeat apply Zaa
   apply Zad;intro _;simp +decide only [zq,↓Zab,↓reduceIte,aOp,Zan,Zac,Zag,aevs,Zaf,Zbo,Zja,h0,h1,R7.ld5,hmd];rfl;generalize σ7.put mr mB=σ8 at R8;repeat apply Zaa
   apply Zad;intro _;simp +decide only [zq,↓Zab,↓reduceIte,aOp];rfl;refine ZaL ⟨zA _,[.bool false],?_,?_⟩
   ·simp +decide only [zq,Zaj]
   ·rw [hfin _ hy];exact ⟨by rw [hyf];rfl,K6.trans (K7.trans (KR.of_fr R8.c.fr)),fun _=>⟨d7,R8.anew,hnil7,P.mono hE7 R8.c.fr⟩,fun h=>by rw [hyf] at h;cases h⟩
  rintro ⟨i,dy,y⟩ r σ7 ⟨hi,hyf,⟨hp2,hn2,hs2,hl2⟩,hc2,hmk2,hP7,K7,hKr,hgo,h0,h1,h37,h38,h39⟩;dsimp only at hi hyf hp2 hn2 hs2 hl2 hc2 hmk2 hP7 hKr hgo h39;by_cases hlt:i<row.length;rotate_left
  ·have d1:decide ((i:Int)<(row.length:Int))=false:=zI (by omega)
   repeat apply Zaa
   apply Zad;intro _;simp +decide only [zq,↓Zab,↓reduceIte,aOp,Zah,h38,h39,d1,aBin,ZaB,Zam];rfl;repeat apply Zaa
   refine ZaC (by simp +decide only [zq]) ?_
   refine ZaA ⟨fun h=>(nomatch h),fun _=>⟨(dy,y),hyf,hP7,K7,?_,?_,?_⟩,fun h1 h2=>absurd rfl h2⟩
   ·rw [List.drop_eq_nil_of_le (by omega)] at hgo
    exact hgo
   all_goals simp +decide only [zq,h0,h1]
  have d1:decide ((i:Int)<(row.length:Int))=true:=zM (by omega)
  repeat apply Zaa
  apply Zad;intro _;simp +decide only [zq,↓Zab,↓reduceIte,aOp,Zah,h38,h39,d1,aBin,ZaB,Zam];rfl;repeat apply Zaa
  refine ZaQ (by simp +decide only [zq]) ?_
  apply Zak;refine ZaM ?_;obtain ⟨a,ha⟩:∃a,row[i]?=some a:=⟨row[i],by simp [hlt]⟩
  have hrow7:=hrow.keep K7;obtain ⟨-,b1',off1,rfl,-,hat⟩:=Zfm hrow7.1 ha;have hdrop:row.drop i=a::row.drop (i+1):=by
   rw [List.drop_eq_getElem_cons hlt,(zE.1 ha).2]
  have hat2:=hto a (zF ha);obtain ⟨d7,R7,hnil,hE7⟩:=hP7;repeat apply Zaa
  apply Zad;intro _;simp +decide only [zq,↓Zab,↓reduceIte,aOp,Zae,Zag,ZaE,unn,h37,h39,Zfh hlt,(hat _ (Ext.refl _)).1,Zgp,Zf6];rfl;have AY:=decl_at σ7 a;have ed:=decl_ext σ7 a;generalize hab:σ7.next=ab at AY;generalize decl σ7 a=σ8 at AY ed;have R8:=R7.ext ed;have w1:IntKind.i64.wrap ((i:Int)+1)=((i+1:Nat):Int):=by rw [Zas _ (by omega) (by omega)];omega
  by_cases hev0:a.1=0
  rotate_left
  ·have d3:(a.1 != 0)=true:=by rw [bne_iff_ne];exact hev0
   repeat apply Zaa
   apply Zad;intro _;simp +decide only [zq,↓Zab,↓reduceIte,aOp,Zah,Zac,Zag,fld0,AY.ev,d3,aBin,ZaB,Zam];rfl;repeat apply Zaa
   refine ZaQ (by simp +decide only [zq]) ?_
   refine ZaA ⟨fun h=>absurd h (by decide),fun _ _=>⟨fun h=>(nomatch h),fun _=>⟨(dy,y),hyf,⟨d7,R8.anew,hnil,P.mono hE7 R8.c.fr⟩,K7.trans (KR.of_fr R8.c.fr),?_,?_,?_⟩,fun h1 h2=>absurd rfl h2⟩⟩
   ·rw [ZmF (htau i a ha hev0)] at hgo;exact hgo
   all_goals simp +decide only [zq,h0,h1]
  have d3:(a.1 != 0)=false:=by rw [bne_eq_false_iff_eq];exact hev0
  repeat apply Zaa
  apply Zad;intro _;simp +decide only [zq,↓Zab,↓reduceIte,aOp,Zah,Zac,Zag,fld0,AY.ev,d3,aBin,ZaB,Zam];rfl;repeat apply Zaa
  refine ZaC (by simp +decide only [zq]) ?_
  apply Zak;rw [hdrop] at hgo;have heis:x.path.length=y.path.length:=by rw [hp2]
  have hB:(σ8.new ⟨1,102,0,[.int .i64 (s:Int),.int .i64 (i:Int)],[]⟩).get σ8.next=⟨1,102,0,[.int .i64 (s:Int),.int .i64 (i:Int)],[]⟩:=by rw [AS.get_new,if_pos rfl]
  have e9:=Ext.new σ8 ⟨1,102,0,[.int .i64 (s:Int),.int .i64 (i:Int)],[]⟩;obtain ⟨v3,s9,ha9,M9,hv9,hA9⟩:=(R8.ext e9).pushI (y:=.slice (some ⟨σ8.next,0,none⟩) 1 1) (Src.of (m:=[((s:Int),(i:Int))]) (.inr (.inr ⟨σ8.next,0,1,rfl,Zaq hB rfl (zA _)⟩))) ⟨rfl,rfl⟩ hnil (by show x.path.length+1≤_;omega)
  have A9:=hA9 _ _ (AY.ext e9);have hst9:=M9.st7 hv9;repeat apply Zaa
  apply Zad;intro _;simp +decide only [zq,↓Zab,↓reduceIte,aOp,Zan,Zac,Zag,ZaE,Zar,Zbl,aevs,ZaN,unn,Zaf,Zbo,Zgh,h0,h1,R8.ld7,Zpd,Zmk,ha9,hst9];rfl;have R9:=M9.put;have A10:=A9.putP M9.c.kd M9.c.el (pblk (.func (.func fid) fs cs) M (cU y.outer y.inner) { d7 with nv:=v3 })
  generalize s9.put xb (pblk (.func (.func fid) fs cs) M (cU y.outer y.inner) { d7 with nv:=v3 })=σ10 at R9 A10
  clear M9 A9 hA9 ha9 hst9 hB e9;dsimp only at R9;have hpl:findOn (oo++[(s:Int)]) a.2=findOn y.on a.2:=by rw [hn2,hon]
  have RQ:=R9.ext (Ext.reset σ10);have lk:=look56 RQ.c.place a.2;dsimp only at lk;cases hfn:findOn (oo++[(s:Int)]) a.2 with
  | some k=>
   rw [hfn] at lk;dsimp only at lk;repeat apply Zaa
   refine Za8 [] [] (by kernel_rfl) (by kernel_rfl) ?_
   apply ZaO;intro _;simp +decide only [zq,zr,aQ,↓Zab,↓reduceIte,aOp,Zac,Zag,Zbb,Zbo,Zja,h0,Zba,RQ.ld5,lk,fld1,(A10.ext (Ext.reset σ10)).to];rfl;have e11:Ext σ10 (σ10.merge σ10.reset):=(Ext.refl _).merge;generalize σ10.merge σ10.reset=σ11 at e11;have R11:=R9.ext e11;repeat apply Zaa
   apply Zad;intro _;simp +decide only [zq,↓Zab,↓reduceIte,aOp];rfl;repeat apply Zaa
   refine ZaQ (by simp +decide only [zq]) ?_
   have hkn:=Zkp hfn;have hkl:k<(x.path++[((s:Int),(i:Int))]).length:=by
    simp only [zS,List.length_cons,List.length_nil] at hkn ⊢;rw [←hol];omega
   have hlen:y.stem.length+k≤2000:=by
    have h1:y.stem.length=x.stem.length:=by rw [hs2]
    simp only [zS,List.length_cons,List.length_nil] at hkl;omega
   have hlen2:(x.path++[((s:Int),(i:Int))]).length≤2000:=by
    simp only [zS,List.length_cons,List.length_nil];omega
   have hmap:x.path++[((s:Int),(i:Int))]=y.path++[((s:Int),(i:Int))]:=by rw [hp2]
   generalize x.path++[((s:Int),(i:Int))]=eI at R11 hkl hlen2 hmap;have hep:y.stem=y.stem:=rfl;obtain ⟨nb,nc,hnv,hnb,-⟩:=StkC.at (.inr R11.c.inside) (i:=0) (by show 0<eI.length;omega)
   dsimp only at hnv;subst hnv;obtain ⟨pa,pc,hpv⟩:=R11.c.path.len;dsimp only at hpv;have RQ:=R11.ext (Ext.reset σ11);obtain ⟨cx,hcx,hcS,-,-⟩:=RQ.c.inside.cut el53 (j:=k) (by show k≤eI.length;omega)
   obtain ⟨ca,cc,rfl⟩:=hcS.len;have hcS:Stk σ0.next 102 2 σ11.reset (.slice ca k cc) (eI.take k).length (cellsOf (eI.take k)):=by
    rw [Zdh] at hcS;rw [zX,Nat.min_eq_left (Nat.le_of_lt hkl)];exact hcS
   have l6:=RQ.ld6;have l7:=RQ.ld7;dsimp only at l6 l7 hcx;rw [hpv] at l6;repeat apply Zaa
   refine Za8 [17] [xb] (by kernel_rfl) (by kernel_rfl) ?_
   apply Zau 12;intro _;simp +decide only [zq,zr,List.take,aQ,↓Zab,↓reduceIte,aOp,Zac,Zag,ZbE,Zbo,Zlx,Zgh,h0,l6,l7,hcx,aopt];rfl;dsimp only [List.drop,List.take,List.length];have hcS:Stk σ0.next 102 2 (σ11.merge σ11.reset) (.slice ca k cc) (eI.take k).length (cellsOf (eI.take k)):=hcS;have e12:Ext σ11 (σ11.merge σ11.reset):=(Ext.refl _).merge;generalize σ11.merge σ11.reset=σ12 at e12 hcS;apply Zau 1;intro _;simp +decide only [zq,zr,List.take,aQ,↓Zab,↓reduceIte,aOp,Zar,ZaN,ZpC (x:=.slice pa y.stem.length pc) (y:=.slice ca k cc) rfl rfl];rfl;dsimp only [List.drop,List.take,List.length];have e13:Ext σ12 (σ12.merge (σ12.reset.new ⟨1,97,0,[.slice pa y.stem.length pc,.slice ca k cc],[]⟩)):=Ext.merge (Ext.new _ _);have hB:(σ12.merge (σ12.reset.new ⟨1,97,0,[.slice pa y.stem.length pc,.slice ca k cc],[]⟩)).get σ12.next=⟨1,97,0,[.slice pa y.stem.length pc,.slice ca k cc],[]⟩:=by
    rw [Zb3];exact (AS.get_new σ12.reset _ σ12.reset.next).trans (if_pos rfl)
   have hBn:σ12.next<(σ12.merge (σ12.reset.new ⟨1,97,0,[.slice pa y.stem.length pc,.slice ca k cc],[]⟩)).next:=zG _;generalize hn5:σ12.next=n5 at hB hBn;generalize σ12.merge (σ12.reset.new ⟨1,97,0,[.slice pa y.stem.length pc,.slice ca k cc],[]⟩)=σ13 at e13 hB hBn;have R13:=R11.ext (e12.trans e13);have hq:=(hcS.keep e13.nxt fun j _ hj=>e13.get j hj);have hp:=R13.c.path;dsimp only at hp;rw [hpv] at hp;refine Zbx (vs:=[.slice (some ⟨n5,0,none⟩) 2 2]) (by simp +decide only [zq,aevs]) (by decide) rfl (C.mono (Zqk (σ:=σ13.reset) (lo:=σ0.next) (p:=y.stem) (q:=eI.take k) hB hBn hp hq (by rw [zX];omega)) ?_)
   rintro v13 s1 ⟨hS,eC⟩;refine ⟨eC.quiet,?_⟩;have hS:Stk σ13.next 102 2 (σ13.merge s1) v13 (y.stem++eI.take k).length (cellsOf (y.stem++eI.take k)):=hS;have e14:=eC.merge;generalize σ13.merge s1=σ14 at e14 hS;have hS:=hS.lower (lo':=σ0.next) R13.c.ext.nxt;have R14:=R13.ext e14;clear hq hp hB hcS eC;apply Zau 3;intro _;simp +decide only [zq,zr,List.take,aQ,↓Zab,↓reduceIte,aOp,Zac,Zbo,Zgh,h0];rfl;dsimp only [List.drop,List.take,List.length];have hS:Stk σ0.next 102 2 (σ14.merge σ14.reset) v13 (y.stem++eI.take k).length (cellsOf (y.stem++eI.take k)):=hS;have e15:Ext σ14 (σ14.merge σ14.reset):=(Ext.refl _).merge;generalize σ14.merge σ14.reset=σ15 at e15 hS;have R15:=R14.ext e15;refine ZaZ (b:=xb) (off:=7) (v:=.slice (some ⟨nb,0,none⟩) eI.length nc) (by simp +decide only [zq]) (R15.ext (Ext.reset σ15)).ld7 (ZbA (by have:=((e12.trans e13).trans (e14.trans e15)).nxt;omega)) R15.c.lt (by simp [memb]) (by decide) ?_
   have hS:Stk σ0.next 102 2 (σ15.merge σ15.reset) v13 (y.stem++eI.take k).length (cellsOf (y.stem++eI.take k)):=hS;have e16:Ext σ15 (σ15.merge σ15.reset):=(Ext.refl _).merge;generalize σ15.merge σ15.reset=σ16 at e16 hS;have R16:=R15.ext e16;obtain ⟨tb,tc,htl,htb,htS⟩:=(R16.ext (Ext.reset σ16)).c.inside.tailE (j:=k) hkl;dsimp only at htl;apply Zau 2;intro _;simp +decide only [zq,zr,List.take,aQ,↓Zab,↓reduceIte,aOp,ZbE,htl,aopt];rfl;dsimp only [List.drop,List.take,List.length];have hS:Stk σ0.next 102 2 (σ16.merge σ16.reset) v13 (y.stem++eI.take k).length (cellsOf (y.stem++eI.take k)):=hS;have htS:∀σ',Ext (σ16.merge σ16.reset).reset σ'→Src σ' (.slice (some ⟨tb,k*2,none⟩) (eI.length-k) tc) (eI.drop k):=fun σ' e=>htS σ' (e.get tb htb);have e17:Ext σ16 (σ16.merge σ16.reset):=(Ext.refl _).merge;generalize σ16.merge σ16.reset=σ17 at e17 hS htS;have R17:=R16.ext e17;refine Zbx (vs:=[.slice (some ⟨tb,k*2,none⟩) (eI.length-k) tc]) (by simp +decide only [zq,aevs]) (by decide) rfl (C.mono (Zr2 (σ:=σ17.reset) (l:=eI.drop k) htS (by intro h;have:=congrArg List.length h;rw [List.length_drop] at this;simp at this;omega) (by rw [List.length_drop];omega)) ?_)
   rintro v17 s1 ⟨hL,eC⟩;refine ⟨eC.quiet,?_⟩;have hL:Stk σ17.next 102 2 (σ17.merge s1) v17 (eI.drop k).length (cellsOf (eI.drop k)):=hL;have e18:=eC.merge;generalize σ17.merge s1=σ18 at e18 hL;have hL:=hL.lower (lo':=σ0.next) R17.c.ext.nxt;have hS:=hS.keep e18.nxt fun j _ hj=>e18.get j hj;have R18:=R17.ext e18;clear eC htS;apply Zau 2;intro _;simp +decide only [zq,zr,List.take,aQ,↓Zab,↓reduceIte,aOp,Zac,Zbo,Zlw];rfl;dsimp only [List.drop,List.take,List.length];have hS:Stk σ0.next 102 2 (σ18.merge σ18.reset) v13 (y.stem++eI.take k).length (cellsOf (y.stem++eI.take k)):=hS;have hL:Stk σ0.next 102 2 (σ18.merge σ18.reset) v17 (eI.drop k).length (cellsOf (eI.drop k)):=hL;have e19:Ext σ18 (σ18.merge σ18.reset):=(Ext.refl _).merge;generalize σ18.merge σ18.reset=σ19 at e19 hS hL;have R19:=R18.ext e19;have M19:PMid X σ0 σ7 σ19 xb N M (.func (.func fid) fs cs) (cU y.outer y.inner) ⟨y.outer,y.inner,oo++[(s:Int)],y.stem,eI,y.stem++eI.take k,[]⟩ { d7 with nv:=.slice (some ⟨nb,0,none⟩) eI.length nc } { d7 with nv:=.slice (some ⟨nb,0,none⟩) eI.length nc,sv:=v13 }:=⟨R19.c.setStem hS,R19.get⟩
   obtain ⟨w1a,w1c,hv13⟩:=hS.len;have k2:(σ19.get xb).kind≠2:=by rw [R19.get];show (1:Nat)≠2;decide
   have hL20:Stk σ0.next 102 2 (σ19.merge (σ19.reset.put xb (pblk (.func (.func fid) fs cs) M (cU y.outer y.inner) { d7 with nv:=.slice (some ⟨nb,0,none⟩) eI.length nc,sv:=v13 }))) v17 (eI.drop k).length (cellsOf (eI.drop k)):=hL.keep (zA _) (fun j ho hj=>by
    rw [Zb3,AS.get_put,if_neg (fun e=>hL.ne ho k2 e.symm)];rfl)
   refine Zf5 (b:=xb) (off:=8) (v:=v13) (by simp +decide only [zq]) (by simp +decide only [zq]) ((M19.ext (Ext.reset σ19)).st8 ⟨_,_,_,hv13⟩) (fun j hj=>by rw [AS.get_put,if_neg (fun e=>hj e.symm)];rfl) rfl (by kernel_rfl) (by kernel_rfl) ?_
   have R20:=(M19.ext (Ext.reset σ19)).put.merge M19.c.ext;generalize σ19.merge (σ19.reset.put xb (pblk (.func (.func fid) fs cs) M (cU y.outer y.inner) { d7 with nv:=.slice (some ⟨nb,0,none⟩) eI.length nc,sv:=v13 }))=σ20 at R20 hL20
   clear hL hS M19;apply Zau 2;intro _;simp +decide only [zq,zr,List.take,aQ,↓Zab,↓reduceIte,aOp,Zac,Zbo,Zlv];rfl;dsimp only [List.drop,List.take,List.length];have hL20:Stk σ0.next 102 2 (σ20.merge σ20.reset) v17 (eI.drop k).length (cellsOf (eI.drop k)):=hL20;have e21:Ext σ20 (σ20.merge σ20.reset):=(Ext.refl _).merge;generalize σ20.merge σ20.reset=σ21 at e21 hL20;have R21:=R20.ext e21;have M21:PMid X σ0 σ7 σ21 xb N M (.func (.func fid) fs cs) (cU y.outer y.inner) ⟨y.outer,y.inner,oo++[(s:Int)],y.stem,eI,y.stem++eI.take k,eI.drop k⟩ { d7 with nv:=.slice (some ⟨nb,0,none⟩) eI.length nc,sv:=v13 } { d7 with nv:=.slice (some ⟨nb,0,none⟩) eI.length nc,sv:=v13,lv:=v17 }:=⟨R21.c.setLoop hL20,R21.get⟩
   obtain ⟨w2a,w2c,hv17⟩:=hL20.len;refine Zf5 (b:=xb) (off:=9) (v:=v17) (by simp +decide only [zq]) (by simp +decide only [zq]) ((M21.ext (Ext.reset σ21)).st9 ⟨_,_,_,hv17⟩) (fun j hj=>by rw [AS.get_put,if_neg (fun e=>hj e.symm)];rfl) rfl (by kernel_rfl) (by kernel_rfl) ?_
   have R22:=(M21.ext (Ext.reset σ21)).put.merge M21.c.ext;generalize σ21.merge (σ21.reset.put xb (pblk (.func (.func fid) fs cs) M (cU y.outer y.inner) { d7 with nv:=.slice (some ⟨nb,0,none⟩) eI.length nc,sv:=v13,lv:=v17 }))=σ22 at R22
   show W _ _ _ 129 _ _ _ _;repeat apply Zaa
   apply Zad;intro _;simp +decide only [zq,↓Zab,↓reduceIte,aOp];rfl;have hfine:mgo (minner ask f) s i (a::row.drop (i+1)) (dy,y)=(dy,won k ((s:Int),(i:Int)) y):=by
    conv=>lhs;unfold mgo
    dsimp only;rw [if_neg (by rw [hyf];decide),if_neg (by rw [hev0];decide),←hpl,hfn]
   rw [hfine] at hgo;have hel2:eI.length=y.path.length+1:=by rw [hmap];simp
   have hkp:k≤y.path.length:=by omega
   refine Zbj ⟨fun h=>h.elim (fun h=>(nomatch h)) (fun h=>(nomatch h)),fun _ _=>⟨fun h=>(nomatch h),fun h=>(nomatch h),fun _ _=>⟨zA _,[.bool true],?_,?_⟩⟩⟩
   ·simp +decide only [zq,Zaj]
   ·rw [hfin _ hgo];refine ⟨rfl,K6.trans (K7.trans (KR.of_fr R22.c.fr)),fun h=>(nomatch h),fun _=>⟨_,_,_,R22.anew,?_,?_,zB (ZlL _ _) (Nat.le_of_eq R22.c.ol),P.mono hE7 R22.c.fr⟩⟩
    ·show y.stem++eI.take k=y.stem++y.path.take k;rw [hmap,List.take_append_of_le_length hkp]
    ·show eI.drop k=y.path.drop k++[((s:Int),(i:Int))];rw [hmap,List.drop_append_of_le_length hkp]
  | none=>
   rw [hfn] at lk;dsimp only at lk;repeat apply Zaa
   refine Za8 [] [] (by kernel_rfl) (by kernel_rfl) ?_
   apply ZaO;intro _;simp +decide only [zq,zr,aQ,↓Zab,↓reduceIte,aOp,Zac,Zag,Zbb,Zbo,Zja,h0,Zba,RQ.ld5,lk,fld1,(A10.ext (Ext.reset σ10)).to];rfl;have e11:Ext σ10 (σ10.merge σ10.reset):=(Ext.refl _).merge;generalize σ10.merge σ10.reset=σ11 at e11;have R11:=R9.ext e11;have A11:=A10.ext e11;repeat apply Zaa
   apply Zad;intro _;simp +decide only [zq,↓Zab,↓reduceIte,aOp];rfl;repeat apply Zaa
   refine ZaC (by simp +decide only [zq]) ?_
   apply Zak;have et:((a.2.toNat:Nat):Int)=a.2:=by omega
   have ht:a.2.toNat<N:=by omega
   have RQ:=R11.ext (Ext.reset σ11);have lk5:=Zkd RQ.c.inner a.2.toNat;rw [et] at lk5;dsimp only at lk5;have hfn2:findOn y.on a.2=none:=by rw [←hpl,hfn]
   have hil:=R11.c.il;dsimp only at hil;have hgd2:y.inner.getD a.2.toNat true=y.inner.getD a.2.toNat false:=by
    have h1:a.2.toNat<y.inner.length:=by rw [hil];exact ht
    simp [List.getD,h1]
   have hmap:x.path++[((s:Int),(i:Int))]=y.path++[((s:Int),(i:Int))]:=by rw [hp2]
   have hel2:(x.path++[((s:Int),(i:Int))]).length=x.path.length+1:=by simp
   have hdl:(x.path++[((s:Int),(i:Int))]).dropLast=x.path:=by simp
   generalize x.path++[((s:Int),(i:Int))]=eI at R11 hmap hel2 hdl;cases hb:y.inner.getD a.2.toNat false with
   | true=>
    rw [hb] at lk5;repeat apply Zaa
    refine Za8 [] [] (by kernel_rfl) (by kernel_rfl) ?_
    apply ZaO;intro _;simp +decide only [zq,zr,aQ,↓Zab,↓reduceIte,aOp,opUn,Zac,Zag,ZaH,Bool.false_beq,Zbo,Zgi,h0,Zba,RQ.ld4,lk5,not_b,fld1,(A11.ext (Ext.reset σ11)).to];rfl;have e12:Ext σ11 (σ11.merge σ11.reset):=(Ext.refl _).merge;generalize σ11.merge σ11.reset=σ12 at e12;have R12:=R11.ext e12;repeat apply Zaa
    refine ZaC (by simp +decide only [zq]) ?_
    apply Zak;have hgo2:mgo (minner ask f) s (i+1) (row.drop (i+1)) (dy,y)=mgo (minner ask f) s 0 row (dl1,x1):=by
     rw [←hgo];show _=mgo (minner ask f) s i (a::row.drop (i+1)) (dy,y)
     conv=>rhs;unfold mgo
     dsimp only;rw [if_neg (by rw [hyf];decide),if_neg (by rw [hev0];decide),hfn2]
     dsimp only;rw [if_pos (by rw [hgd2,hb])]
    have RQ:=R12.ext (Ext.reset σ12);obtain ⟨v5,hs5,M5,hv5⟩:=RQ.popI ⟨rfl,rfl⟩ hnil;obtain ⟨pa,pc,hpv⟩:=RQ.c.inside.len;have l7:=RQ.ld7;dsimp only at l7 hs5 hpv M5;rw [hpv] at l7 hs5;have w9:IntKind.i64.wrap ((eI.length:Int)-1)=((eI.length-1:Nat):Int):=by rw [Zas _ (by omega) (by omega)];omega
    refine Zao ?_;repeat apply Zaa
    refine Za8 [] [] (by kernel_rfl) (by kernel_rfl) ?_
    apply Zau 14;intro _;simp +decide only [zq,zr,List.take,aQ,↓Zab,↓reduceIte,aOp,Zah,Zan,Zac,Zag,ZbE,aevs,Zaf,aLen,Zbo,Zgh,h0,l7,w9,hs5,aopt,Tryz.underlying97,goInt,aBin,ZaB,Zam];rfl;dsimp only [List.drop,List.take,List.length];have M8:=M5.merge R12.c.ext;generalize σ12.merge σ12.reset=τ1 at M8;refine ZnN (v:=undef) (s1:=τ1.reset.put xb (pblk (.func (.func fid) fs cs) M (cU y.outer y.inner) { { d7 with nv:=v3 } with nv:=v5 })) (by intro callf;simp +decide only [zq,↓reduceIte,aOp,ZaE,unn,(M8.ext (Ext.reset τ1)).st7 hv5]) (by kernel_rfl) ?_
    have RP:=(M8.ext (Ext.reset τ1)).put.merge M8.c.ext;clear M5 hs5 l7 hpv RQ w9 M8;generalize τ1.merge (τ1.reset.put xb (pblk (.func (.func fid) fs cs) M (cU y.outer y.inner) { { d7 with nv:=v3 } with nv:=v5 }))=τ2 at RP
    show W _ _ _ 129 _ _ _ _;refine Zap ⟨fun _=>?_,fun h=>absurd rfl h⟩;refine Zao ?_;repeat apply Zaa
    apply Zad;intro _;simp +decide only [zq,↓Zab,↓reduceIte,aOp,Zah,h39,w1,aBin,ZaB,Zam];rfl;refine Zap ⟨fun _=>⟨(i+1,dy,y),?_,?_⟩,fun h=>(nomatch h),fun h=>absurd rfl h⟩
    ·show row.length-(i+1)<row.length-i;omega
    ·refine ⟨by show i+1≤row.length;omega,hyf,⟨hp2,hn2,hs2,hl2⟩,hc2,hmk2,⟨{ d7 with nv:=v5 },by rw [hdl] at RP;exact RP.anew,hnil,P.mono hE7 RP.c.fr⟩,K7.trans (KR.of_fr RP.c.fr),hKr,hgo2,?_,?_,?_,?_,?_⟩<;>simp +decide only [zq,h0,h1,h37,h38,h39]
   | false=>
    rw [hb] at lk5;repeat apply Zaa
    refine Za8 [] [] (by kernel_rfl) (by kernel_rfl) ?_
    apply Zau 12;intro _;simp +decide only [zq,zr,List.take,aQ,↓Zab,↓reduceIte,aOp,opUn,Zac,Zag,beq_self_eq_true,Zbo,Zgi,h0,Zba,RQ.ld4,lk5,not_b,fld1,(A11.ext (Ext.reset σ11)).to];rfl;dsimp only [List.drop,List.take,List.length];have e12:Ext σ11 (σ11.merge σ11.reset):=(Ext.refl _).merge;generalize σ11.merge σ11.reset=σ12 at e12;have R12:=R11.ext e12;have hit:y.inner[a.2.toNat]?=some false:=by
     have h1:a.2.toNat<y.inner.length:=by rw [hil];exact ht
     rw [zL,zP h1] at hb;rw [zP h1];exact congrArg some hb
    have RR:=R12.ext (Ext.reset σ12);have hKa:=hKr a (zF ha);have CC:=ih (σ:=σ12.reset) (dl:=dy) (x:=push ((s:Int),(i:Int)) a.2 y) (s:=a.2.toNat) (oo:=oo++[(s:Int)]) ⟨{ d7 with nv:=v3 },by rw [hmap] at RR;exact RR.anew,hnil,P.mono hE7 RR.c.fr⟩ (by show y.on++[a.2]=_;rw [hn2,hon,et]) hKa ht hyf hl2 (by show (oo++[(s:Int)]).length=(y.path++[_]).length;rw [hp2];simp;omega) hc2 hit hmk2 (by show (y.path++[_]).length+f≤900;rw [hp2];simp;omega) (by show y.stem.length≤1000;rw [hs2];exact hst)
    have hsp:=Zfe ask f (dy,push ((s:Int),(i:Int)) a.2 y) a.2.toNat hyf (by show (y.path++[_]).length+f≤1000;rw [hp2];simp;omega)
    have hmn:=Zhu ask f (dy,push ((s:Int),(i:Int)) a.2 y) a.2.toNat;have hup:=Zht hA f (dy,push ((s:Int),(i:Int)) a.2 y) a.2.toNat hKa;have hgo2:=hgo
    conv at hgo2=>lhs;unfold mgo
    dsimp only at hgo2;rw [if_neg (by rw [hyf];decide),if_neg (by rw [hev0];decide),hfn2] at hgo2
    dsimp only at hgo2;rw [if_neg (by rw [hgd2,hb];decide)] at hgo2
    rw [et] at CC;have epp:(push ((s:Int),(i:Int)) a.2 y).path=y.path++[((s:Int),(i:Int))]:=rfl;have epo:(push ((s:Int),(i:Int)) a.2 y).on=y.on++[a.2]:=rfl;have eps:(push ((s:Int),(i:Int)) a.2 y).stem=y.stem:=rfl;have epl:(push ((s:Int),(i:Int)) a.2 y).loop=y.loop:=rfl;have epi:(push ((s:Int),(i:Int)) a.2 y).inner=y.inner:=rfl;generalize minner ask f (dy,push ((s:Int),(i:Int)) a.2 y) a.2.toNat=z at CC hsp hgo2 hmn hup;obtain ⟨dz0,z⟩:=z;refine Zsg (vs:=[.pointer (some ⟨xb,0,none⟩),.int .i64 a.2]) (by simp +decide only [zq]) (by simp +decide only [zq,aevs]) (by decide) (by kernel_rfl) (C.mono CC ?_)
    rintro v s1 ⟨rfl,KZ,hno,hyes⟩;dsimp only at hno hyes hsp hmn hup;cases hzf:z.found with
    | true=>
     obtain ⟨dz,yz,cz,RZ,hz1,hz2,hz3⟩:=hyes hzf;have KZ:=(KR.of_fr (X:=X) R12.c.fr).trans KZ.reset;have RZ:=RZ.merge R12.c.ext;generalize σ12.merge s1=σ13 at RZ;apply ZaO;intro _;simp +decide only [zq,zr,aQ,↓Zab,↓reduceIte,aOp,ZaH,ZaH];rfl;have e14:Ext σ13 (σ13.merge σ13.reset):=(Ext.refl _).merge;generalize σ13.merge σ13.reset=σ14 at e14;have R14:=RZ.ext e14;repeat apply Zaa
     refine ZaQ (by simp +decide only [zq]) ?_
     repeat apply Zaa
     apply Zad;intro _;simp +decide only [zq,↓Zab,↓reduceIte,aOp];rfl;have hbk:back (dz0,z)=(dz0,z):=by unfold back;rw [if_pos hzf]
     rw [hbk,Zj7 hzf] at hgo2;refine Zbj ⟨fun h=>h.elim (fun h=>(nomatch h)) (fun h=>(nomatch h)),fun _ _=>⟨fun h=>(nomatch h),fun h=>(nomatch h),fun _ _=>⟨zA _,[.bool true],?_,?_⟩⟩⟩
     ·simp +decide only [zq,Zaj]
     ·rw [hfin _ hgo2];refine ⟨by rw [hzf];rfl,K6.trans (K7.trans (KZ.trans (KR.of_fr R14.c.fr))),fun h=>?_,fun _=>⟨dz,yz,cz,R14.anew,hz1,hz2,hz3.1,P.mono hz3.2 R14.c.fr⟩⟩
      rw [hzf] at h;cases h
    | false=>
     obtain ⟨dz,RZ,hnz,hEz⟩:=hno hzf;have KZ:=(KR.of_fr (X:=X) R12.c.fr).trans KZ.reset;have RZ:=RZ.merge R12.c.ext;generalize σ12.merge s1=σ13 at RZ;apply ZaO;intro _;simp +decide only [zq,zr,aQ,↓Zab,↓reduceIte,aOp,ZaH,ZaH];rfl;have e14:Ext σ13 (σ13.merge σ13.reset):=(Ext.refl _).merge;generalize σ13.merge σ13.reset=σ14 at e14;have R14:=RZ.ext e14;repeat apply Zaa
     refine ZaC (by simp +decide only [zq]) ?_
     apply Zak;obtain ⟨g1,g2,g3,g4⟩:=hsp.no hzf;rw [epp] at g1 RZ R14;rw [epo] at g2;rw [eps] at g3;rw [epl] at g4;have hdz:(y.path++[((s:Int),(i:Int))]).dropLast=x.path:=by rw [hp2];simp
     have hez:(y.path++[((s:Int),(i:Int))]).length=x.path.length+1:=by rw [hp2];simp
     generalize y.path++[((s:Int),(i:Int))]=ez at g1 RZ R14 hdz hez;have hzl:z.loop=[]:=by rw [g4];exact hl2
     have q1:z.path.dropLast=x.path:=by rw [g1,hdz]
     have q2:z.on.dropLast=x.on:=by rw [g2,hn2];simp
     have hmkz:∀t∈oo++[(s:Int)],0≤t∧z.inner.getD t.toNat false=true:=fun t ht=>⟨(hmk2 t ht).1,hmn _ (by rw [epi];exact (hmk2 t ht).2)⟩
     have hbk:back (dz0,z)=(dz0,{ z with path:=z.path.dropLast,on:=z.on.dropLast }):=by unfold back;rw [if_neg (by rw [hzf];decide)]
     rw [hbk] at hgo2;have RQ:=R14.ext (Ext.reset σ14);obtain ⟨v5,hs5,M5,hv5⟩:=RQ.popI ⟨rfl,rfl⟩ hnz;obtain ⟨pa,pc,hpv⟩:=RQ.c.inside.len;have l7:=RQ.ld7;dsimp only at l7 hs5 hpv M5;rw [hpv] at l7 hs5;have hel2:=hez;have w9:IntKind.i64.wrap ((ez.length:Int)-1)=((ez.length-1:Nat):Int):=by rw [Zas _ (by omega) (by omega)];omega
     refine Zao ?_;repeat apply Zaa
     refine Za8 [] [] (by kernel_rfl) (by kernel_rfl) ?_
     apply Zau 14;intro _;simp +decide only [zq,zr,List.take,aQ,↓Zab,↓reduceIte,aOp,Zah,Zan,Zac,Zag,ZbE,aevs,Zaf,aLen,Zbo,Zgh,h0,l7,w9,hs5,aopt,Tryz.underlying97,goInt,aBin,ZaB,Zam];rfl;dsimp only [List.drop,List.take,List.length];have M8:=M5.merge R14.c.ext;generalize σ14.merge σ14.reset=τ1 at M8;refine ZnN (v:=undef) (s1:=τ1.reset.put xb (pblk (.func (.func fid) fs cs) M (cU z.outer z.inner) { dz with nv:=v5 })) (by intro callf;simp +decide only [zq,↓reduceIte,aOp,ZaE,unn,(M8.ext (Ext.reset τ1)).st7 hv5]) (by kernel_rfl) ?_
     have RP:=(M8.ext (Ext.reset τ1)).put.merge M8.c.ext;clear M5 hs5 l7 hpv RQ w9 M8;generalize τ1.merge (τ1.reset.put xb (pblk (.func (.func fid) fs cs) M (cU z.outer z.inner) { dz with nv:=v5 }))=τ2 at RP
     show W _ _ _ 129 _ _ _ _;refine Zap ⟨fun _=>?_,fun h=>absurd rfl h⟩;refine Zao ?_;repeat apply Zaa
     apply Zad;intro _;simp +decide only [zq,↓Zab,↓reduceIte,aOp,Zah,h39,w1,aBin,ZaB,Zam];rfl;refine Zap ⟨fun _=>⟨(i+1,dz0,({ z with path:=z.path.dropLast,on:=z.on.dropLast }:SS)),?_,?_⟩,fun h=>(nomatch h),fun h=>absurd rfl h⟩
     ·show row.length-(i+1)<row.length-i;omega
     ·refine ⟨by show i+1≤row.length;omega,hzf,⟨q1,q2,g3.trans hs2,hzl⟩,zB hsp.cnt hc2,hmkz,⟨{ dz with nv:=v5 },by rw [hdz] at RP;exact RP.anew,hnz,P.mono hEz RP.c.fr⟩,K7.trans (KZ.trans (KR.of_fr RP.c.fr)),fun a ha=>hup _ (hKr a ha),hgo2,?_,?_,?_,?_,?_⟩<;>simp +decide only [zq,h0,h1,h37,h38,h39]
open Abs
def Kept {α:Type} (E:Nat) (R:AS→List Value→α→Prop):Prop:=
 ∀σ s cs x,R σ cs x→σ.next≤s.next→(∀i,i<σ.next→¬((σ.get i).kind=2∧(σ.get i).elem=E)→s.get i=σ.get i)→R s cs x
def LV {α:Type} (E z:Nat) (R:AS→List Value→α→Prop) (lo:Nat) (σ:AS) (v:Value) (l:List α):Prop:=
 ∃cs,Stk lo E z σ v l.length cs∧∀i x,l[i]?=some x→R σ ((cs.drop (i*z)).take z) x
section
variable {α:Type} {P:Program} {E z lo T:Nat} {R:AS→List Value→α→Prop} {σ σ' s:AS} {v:Value} {l:List α}
theorem Kept.ext (h:Kept E R) (e:Ext σ σ') {cs:List Value} {x:α} (hx:R σ cs x):R σ' cs x:=h σ σ' cs x hx e.nxt fun i hi _=>e.get i hi
theorem LV.nil:LV E z R lo σ (.slice none 0 0) ([]:List α):=⟨[],⟨(Nat.zero_mul z).symm,rfl,.inl ⟨rfl,rfl⟩⟩,fun i x h=>(nomatch h)⟩
theorem LV.ext (hR:Kept E R) (h:LV E z R lo σ v l) (e:Ext σ σ'):LV E z R lo σ' v l:=by
 obtain ⟨cs,h1,h2⟩:=h;exact ⟨cs,h1.keep e.nxt fun i _ hi=>e.get i hi,fun i x hi=>hR.ext e (h2 i x hi)⟩
theorem LV.len (h:LV E z R lo σ v l):∃a c,v=.slice a l.length c:=by obtain ⟨cs,h1,h2⟩:=h;exact h1.len
theorem LV.own (h:LV E z R lo σ v l) {i:Nat} (ho:Own v i):lo≤i∧i<σ.next∧(σ.get i).kind=2∧(σ.get i).elem=E:=by obtain ⟨cs,h1,h2⟩:=h;exact h1.own ho
theorem LV.at (h:LV E z R lo σ v l) {i:Nat} {x:α} (hi:l[i]?=some x):∃b c cs,v=.slice (some ⟨b,0,none⟩) l.length c∧lo≤b∧b<σ.next∧Zav σ ⟨b,0+i*z,none⟩ z=some cs∧R σ cs x:=by
 obtain ⟨cs,h1,h2⟩:=h;have hlt:=(zE.1 hi).1;obtain ⟨b,c,e,h3,h4⟩:=StkC.at (.inr h1) (i:=i) hlt;have ho:=h1.own (i:=b) ⟨_,_,e⟩;exact ⟨b,c,_,e,ho.1,h3,by rw [Nat.zero_add];exact h4,h2 i x hi⟩
theorem LV.push (el:El P T E z) (hR:Kept E R) (h:LV E z R lo σ v l) (hlo:lo≤σ.next) {x:α} {y:Value} {new:List Value} (hy:∀inf:TypeInfo,inf.size=z→Zbd P σ false inf y=some (1,new)) (hn:new.length=z) (h1:new.all one=true) (hx:R σ new x) (hl:l.length+1≤1000000) :
  ∃v' s,ZaU P σ #[T,T] v y=some (v',s)∧LV E z R lo s v' (l++[x])∧σ.next≤s.next∧(∀i,i<σ.next→¬Own v i→s.get i=σ.get i)∧(∀q,q≤lo→q≤σ.low→q≤s.low)∧∀i,Own v' i→Own v i∨σ.next≤i:=by
 obtain ⟨cs,h2,h3⟩:=h;obtain ⟨v',s,a1,a2,a3,a4,a5,a6⟩:=h2.push el hlo hy (by rw [hn,Nat.one_mul]) h1 hl
 have hc:cs.length=l.length*z:=h2.1;have ch:∀i,i<σ.next→¬((σ.get i).kind=2∧(σ.get i).elem=E)→s.get i=σ.get i:=fun i hi hk=>a4 i hi fun ho=>hk ⟨(h2.own ho).2.2.1,(h2.own ho).2.2.2⟩;refine ⟨v',s,a1,⟨cs++new,by rw [zS];exact a2,fun i y hi=>?_⟩,a3,a4,a5,a6⟩
 by_cases hlt:i<l.length
 ·rw [zN hlt] at hi;have h5:=h3 i y hi;have hz:i*z+z≤cs.length:=by rw [hc];calc i*z+z=(i+1)*z:=by rw [Nat.add_mul,Nat.one_mul]
                                _≤l.length*z:=Nat.mul_le_mul_right z hlt
  rw [List.drop_append_of_le_length (by omega),List.take_append_of_le_length (by rw [List.length_drop];omega)]
  exact hR σ s _ y h5 a3 ch
 ·have hi2:=(zE.1 hi).1;rw [zS] at hi2;have e:i=l.length:=by simp at hi2;omega
  subst e;rw [zO (zA _),Nat.sub_self] at hi;simp at hi;subst hi;rw [←hc,List.drop_left,zJ (by omega)]
  exact hR σ s _ x hx a3 ch
theorem Zbt {σ0:AS} (e:Ext σ0 σ) (hn:σ.next≤s.next) (hg:∀i,i<σ.next→¬Own v i→s.get i=σ.get i) (hl:∀q,q≤σ0.next→q≤σ.low→q≤s.low) (ho:∀i,Own v i→σ0.next≤i):Ext σ0 s:=
 ⟨zB e.nxt hn,fun i hi=>by rw [hg i (zC hi e.nxt) (fun h2=>by have:=ho i h2;omega),e.get i hi],fun m h1 h2=>hl m h2 (e.low m h1 h2)⟩
end
section
variable {P:Program} {K:Tbl} {G n:Nat} {ops:Array Oper} {sj X:List Nat} {r:Regs} {σ s1:AS} {l:List Oper} {Q:Regs→AS→Prop}
theorem Zsf {k0 d:Nat} {op:Op} {ty:TypeId} {pos:String} {aft:Array Edge} {v:Value} (hs:∀callf,Zb5 P G callf r σ.reset op=some (v,s1)) (hd:d<n) (hm:memb sj k0=false) (hq:σ.next≤s1.low)
  (h:Lg P K G n ops sj X (k0+1) l (rput r d v) (σ.merge s1) Q):Lg P K G n ops sj X k0 (⟨some d,op,ty,pos,aft,none⟩::l) r σ Q:=by
 refine ⟨fun _=>⟨v,s1,0,fun fuel _=>hs _,⟨.inl hq,fun h=>by rw [hm] at h;cases h⟩,_,?_,h⟩,fun h=>(nomatch h)⟩
 simp only [aPut,Zab];rw [if_pos (by rw [Nat.blt_eq];exact hd)]
theorem Zq2 {k0 d:Nat} {op:Op} {ty:TypeId} {pos:String} {aft:Array Edge} {v:Value} (hs:∀callf,Zb5 P G callf r σ.reset op=some (v,s1)) (hd:d<n) (hm:memb sj k0=false) (hbar:ZhU P ops sj k0=true)
  (hx:∀x∈X,x<σ.next→s1.get x=σ.get x) (h:Lg P K G n ops sj X (k0+1) l (rput r d v) (σ.merge s1) Q):Lg P K G n ops sj X k0 (⟨some d,op,ty,pos,aft,none⟩::l) r σ Q:=by
 refine ⟨fun _=>⟨v,s1,0,fun fuel _=>hs _,⟨.inr ⟨hbar,fun y hy hl=>.inl (hx y hy hl)⟩,fun h=>by rw [hm] at h;cases h⟩,_,?_,h⟩,fun h=>(nomatch h)⟩
 simp only [aPut,Zab];rw [if_pos (by rw [Nat.blt_eq];exact hd)]
end
theorem Zbk {P:Program} {K:Tbl} {G n:Nat} {c:Code} {r:Regs} {σ:AS} {Q:Nat→Regs→AS→Prop}
  (h:W P K G n c r σ fun e r' σ'=>(e=0→W P K G n (.loop c) r' σ' Q)∧(e≠0→Q e r' σ')):W P K G n (.loop c) r σ Q:=by
 obtain ⟨x,r',σ',N,h1,h2,h3⟩:=h;by_cases hx:x=0
 ·subst hx;obtain ⟨y,r2,σ2,M,h6,h7⟩:=h2 rfl;refine W_at (N+M) (fun fuel hf=>?_) h7;simp only [ZdY,h1 fuel (by omega),cSeq]
  exact h6 fuel (by omega)
 ·refine W_at N (fun fuel hf=>?_) (h3 hx);simp only [ZdY,h1 fuel hf,cSeq];rw [if_neg];intro h;exact hx (zK h)
end Go.Proofs.YteangeffgjolpaaGreatDoor.Nest
namespace Go.Proofs.YteangeffgjolpaaGreatDoor.U
open Abs
theorem ZrY (v:Int):Zib (ZaY Tryz.prog (convert 3 133 (.int .i64 v)))=some (.int .u64 (IntKind.u64.wrap v)):=by kernel_rfl
def RInt (_:AS) (cs:List Value) (x:Int):Prop:=cs=[.int .i64 x]
theorem RInt.keeps:ZnO RInt:=fun _ _ _ _ _ h=>h
theorem idxI {b off len cap i:Nat} (h:i<len):Zal Tryz.prog 22 (.slice (some ⟨b,off,none⟩) len cap) (.int .i64 (i:Int))=some (.pointer (some ⟨b,off+i*1,none⟩)):=
 ZaD (inf:=(Tryz.prog.info? 3).get!) Tryz.underlying22 (by kernel_rfl) (by kernel_rfl) h
theorem intOf {σ:AS} {base:Option Addr} {len cap:Nat} {l:List Int} (h:RS 1 RInt σ (.slice base len cap) l) {i:Nat} {x:Int} (hi:l[i]?=some x) :
  len=l.length∧∃b off,base=some ⟨b,off,none⟩∧b<σ.next∧Zav σ ⟨b,off+i*1,none⟩ 1=some [.int .i64 x]:=by
 obtain ⟨base',cap',e,hb⟩:=h;cases e;obtain ⟨b,off,rfl,h2,h3⟩:=hb (fun h=>by rw [h] at hi;simp at hi)
 obtain ⟨cs,h4,h5⟩:=h3 i x hi;exact ⟨rfl,b,off,rfl,h2,by rw [h4];exact congrArg some h5⟩
open Abs
theorem ltb {a b:Int} (h:a<b):decide (a<b)=true:=zM h
theorem ltf {a b:Int} (h:¬a<b):decide (a<b)=false:=zI h
def cmpI (x y:Int):Int:=if x<y then -1 else if y<x then 1 else 0
theorem nan_c {σ:AS} (x:Int):C Tryz.prog KA 0 64 [.int .i64 x] σ fun u σ'=>u=.bool false∧σ'=σ:=by
 have d1:decide (x=x)=true:=zM rfl;refine C_of (ka rfl rfl) Tryz.func64 rfl (zD rfl) ?_;show W _ _ _ 6 _ _ _ _;unfold Tryz.f64;dsimp only;repeat apply Zaa
 apply Zad;intro _;simp +decide only [zq,ZaI,↓Zab,↓reduceIte,aOp];rfl;repeat apply Zaa
 apply Zad;intro _;simp +decide only [zq,↓Zab,↓reduceIte,aOp,Zah,aBin,ZaB,Zam];rfl;refine ZaL ⟨zA _,[.bool (x != x)],?_,by show Value.bool (x != x)=_;rw [bne_self_eq_false],rfl⟩
 simp +decide only [zq,Zaj]
theorem ZfO {σ:AS} (x y:Int):C Tryz.prog KA 0 28 [.int .i64 x,.int .i64 y] σ fun u σ'=>u=.int .i64 (cmpI x y)∧σ'=σ:=by
 refine C_of (ka rfl rfl) Tryz.func28 rfl (zD rfl) ?_;show W _ _ _ 20 _ _ _ _;unfold Tryz.f28;dsimp only;repeat apply Zaa
 apply Zad;intro _;simp +decide only [zq,ZaI,↓Zab,↓reduceIte,aOp];rfl;repeat apply Zaa
 apply ZaF;apply Zay 1;intro _;simp +decide only [zq,List.take,↓Zab,↓reduceIte,aOp];rfl;dsimp only [List.drop];refine ZaV (vs:=[.int .i64 x]) (by simp +decide only [zq,aevs]) (by decide) (C.mono (nan_c x) ?_)
 rintro v σ' ⟨rfl,rfl⟩;apply ZaG;intro _;simp +decide only [zq,↓Zab,↓reduceIte,aOp];rfl;repeat apply Zaa
 apply ZaF;apply Zay 1;intro _;simp +decide only [zq,List.take,↓Zab,↓reduceIte,aOp];rfl;dsimp only [List.drop];refine ZaV (vs:=[.int .i64 y]) (by simp +decide only [zq,aevs]) (by decide) (C.mono (nan_c y) ?_)
 rintro v σ' ⟨rfl,rfl⟩;apply ZaG;intro _;simp +decide only [zq,↓Zab,↓reduceIte,aOp];rfl;repeat apply Zaa
 apply Zad;intro _;simp +decide only [zq,↓Zab,↓reduceIte,aOp];rfl;repeat apply Zaa
 refine ZaC (by simp +decide only [zq]) ?_
 apply Zak;repeat apply Zaa
 apply Zad;intro _;simp +decide only [zq,↓Zab,↓reduceIte,aOp];rfl;repeat apply Zaa
 refine ZaC (by simp +decide only [zq]) ?_
 apply Zak;by_cases h1:x<y
 ·have d1:=ltb h1;repeat apply Zaa
  apply Zad;intro _;simp +decide only [zq,↓Zab,↓reduceIte,aOp,Zah,d1,aBin,ZaB,Zam];rfl;repeat apply Zaa
  refine W_if (b:=true) ?_ ?_ ?_
  ·simp +decide only [zq]
  ·intro _;repeat apply Zaa
   apply Zad;intro _;simp +decide only [zq,↓Zab,↓reduceIte,aOp];rfl;refine Zbj ⟨zA _,[.int .i64 (-1)],?_,by simp only [cmpI,if_pos h1];rfl,rfl⟩
   simp +decide only [zq,Zaj]
  ·intro h;cases h
 have d1:=ltf h1;repeat apply Zaa
 apply Zad;intro _;simp +decide only [zq,↓Zab,↓reduceIte,aOp,Zah,d1,aBin,ZaB,Zam];rfl;repeat apply Zaa
 refine ZaC (by simp +decide only [zq]) ?_
 apply Zak;by_cases h2:y<x
 ·have d2:decide (x>y)=true:=zM h2;repeat apply Zaa
  apply Zad;intro _;simp +decide only [zq,↓Zab,↓reduceIte,aOp,Zah,d2,aBin,ZaB,Zam];rfl;repeat apply Zaa
  refine W_if (b:=true) ?_ ?_ ?_
  ·simp +decide only [zq]
  ·intro _;repeat apply Zaa
   apply Zad;intro _;simp +decide only [zq,↓Zab,↓reduceIte,aOp];rfl;refine Zbj ⟨zA _,[.int .i64 1],?_,by simp only [cmpI,if_neg h1,if_pos h2];rfl,rfl⟩
   simp +decide only [zq,Zaj]
  ·intro h;cases h
 have d2:decide (x>y)=false:=zI h2;repeat apply Zaa
 apply Zad;intro _;simp +decide only [zq,↓Zab,↓reduceIte,aOp,Zah,d2,aBin,ZaB,Zam];rfl;repeat apply Zaa
 refine ZaC (by simp +decide only [zq]) ?_
 apply Zak;repeat apply Zaa
 apply Zad;intro _;simp +decide only [zq,↓Zab,↓reduceIte,aOp];rfl;refine ZaL ⟨zA _,[.int .i64 0],?_,by simp only [cmpI,if_neg h1,if_neg h2];rfl,rfl⟩
 simp +decide only [zq,Zaj]
theorem Zq5 {i n:Nat} (h:i<n) (hn:n≤2^62):IntKind.i64.wrap ((i:Int)+1)=((i+1:Nat):Int):=by
 rw [Zas _ (by omega) (by omega)];omega
theorem loadI {σ σ':AS} {base:Option Addr} {len cap:Nat} {l:List Int} (h:RS 1 RInt σ (.slice base len cap) l) {i:Nat} {x:Int} (hi:l[i]?=some x) (e:Ext σ σ') :
  ∃b off,base=some ⟨b,off,none⟩∧Zat Tryz.prog σ' 3 (.pointer (some ⟨b,off+i*1,none⟩))=some (.int .i64 x):=by
 obtain ⟨-,b,off,rfl,hb,hc⟩:=intOf h hi;exact ⟨b,off,rfl,Zaw Tryz.underlying3 rfl (by rw [e.cells (a:=⟨b,off+i*1,none⟩) hb];exact hc)⟩
def orI:List Int→Int
 | []=>0
 | x::l=>if x=0 then orI l else x
theorem Zi3:∀{l:List Int} {i:Nat},(∀x∈l.take i,x=0)→orI l=orI (l.drop i)
 | l,0,_=>rfl
 | [],i+1,_=>rfl
 | x::l,i+1,h=>by
  have h1:x=0:=h x (by simp)
  show (if x=0 then orI l else x)=orI (l.drop i)
  rw [if_pos h1];exact Zi3 fun y hy=>h y (by simp [hy])
theorem or_c {σ:AS} {v:Value} {l:List Int} (h:RS 1 RInt σ v l) (hl:l.length≤100):C Tryz.prog KA 0 27 [v] σ fun u σ'=>u=.int .i64 (orI l)∧σ'=σ:=by
 obtain ⟨base,cap,rfl,-⟩:=id h;refine C_of (ka rfl rfl) Tryz.func27 rfl (zD rfl) ?_;show W _ _ _ 18 _ _ _ _;unfold Tryz.f27;dsimp only;repeat apply Zaa
 apply Zad;intro _;simp +decide only [zq,ZaI,↓Zab,↓reduceIte,aOp];rfl;repeat apply Zaa
 apply Zad;intro _;simp +decide only [zq,↓Zab,↓reduceIte,aOp];rfl;repeat apply Zaa
 apply Zad;intro _;simp +decide only [zq,↓Zab,↓reduceIte,aOp,Zan,aevs,Zaf,aLen,Tryz.underlying22,goInt];rfl;refine Zao ?_;repeat apply Zaa
 refine Zdc (fun (i:Nat) r s=>s=σ∧i≤l.length∧(∀x∈l.take i,x=0)∧rget r 3=.int .i64 0∧rget r 6=.slice base l.length cap∧rget r 7=.int .i64 (l.length:Int)∧rget r 8=.int .i64 (i:Int)) (fun i=>l.length-i) ?_ 0 ?_;rotate_left
 ·refine ⟨rfl,zH _,by simp,?_,?_,?_,?_⟩<;>simp +decide only [zq]<;>first|exact True.intro|rfl
 rintro i r s ⟨rfl,hi,hz,h3,h6,h7,h8⟩;by_cases hlt:i<l.length;rotate_left
 ·have d1:decide ((i:Int)<(l.length:Int))=false:=zI (by omega)
  repeat apply Zaa
  apply Zad;intro _;simp +decide only [zq,↓Zab,↓reduceIte,aOp,Zah,h7,h8,d1,aBin,ZaB,Zam];rfl;repeat apply Zaa
  refine ZaC (by simp +decide only [zq]) ?_
  refine ZaA ⟨fun h=>(nomatch h),fun _=>?_,fun h1 h2=>absurd rfl h2⟩;repeat apply Zaa
  apply Zad;intro _;simp +decide only [zq,↓Zab,↓reduceIte,aOp,h3];rfl;refine Zbj ⟨zA _,[.int .i64 0],?_,?_,rfl⟩
  ·simp +decide only [zq,Zaj]
  ·rw [Zi3 hz,List.drop_eq_nil_of_le (by omega)];rfl
 have d1:decide ((i:Int)<(l.length:Int))=true:=zM (by omega)
 repeat apply Zaa
 apply Zad;intro _;simp +decide only [zq,↓Zab,↓reduceIte,aOp,Zah,h7,h8,d1,aBin,ZaB,Zam];rfl;repeat apply Zaa
 refine ZaQ (by simp +decide only [zq]) ?_
 apply Zak;obtain ⟨x,hx⟩:∃x,l[i]?=some x:=⟨l[i],by simp [hlt]⟩
 obtain ⟨b,off,rfl,L⟩:=loadI h hx (Ext.refl s);have w1:=Zq5 hlt (by omega)
 refine ZaM ?_;repeat apply Zaa
 apply Zad;intro _;simp +decide only [zq,↓Zab,↓reduceIte,aOp,Zae,Zag,h6,h8,idxI hlt,L];rfl;have dx:orI l=orI (x::l.drop (i+1)):=by
  have:=(zE.1 hx).2;rw [Zi3 hz,List.drop_eq_getElem_cons hlt,this]
 by_cases hx0:x=0
 ·subst hx0;have b0:((0:Int) != 0)=false:=rfl;repeat apply Zaa
  apply Zad;intro _;simp +decide only [zq,↓Zab,↓reduceIte,aOp,Zah,h3,b0,aBin,ZaB,Zam];rfl;refine Zao ?_;repeat apply Zaa
  refine ZaC (by simp +decide only [zq]) ?_
  apply Zak;refine Zap ⟨fun _=>?_,fun h=>absurd rfl h⟩;refine Zao ?_;repeat apply Zaa
  apply Zad;intro _;simp +decide only [zq,↓Zab,↓reduceIte,aOp,Zah,h8,w1,aBin,ZaB,Zam];rfl;refine Zap ⟨fun _=>⟨i+1,?_,rfl,by omega,?_,?_,?_,?_,?_⟩,fun h=>(nomatch h),fun h=>absurd rfl h⟩
  ·show l.length-(i+1)<l.length-i;omega
  ·intro y hy;rw [zT,hx] at hy;rcases zR.1 hy with hy|hy
   ·exact hz y hy
   ·simpa using hy
  all_goals simp +decide only [zq,h3,h6,h7]
 have hb0:(x != 0)=true:=by simp [hx0]
 repeat apply Zaa
 apply Zad;intro _;simp +decide only [zq,↓Zab,↓reduceIte,aOp,Zah,h3,hb0,aBin,ZaB,Zam];rfl;refine Zao ?_;repeat apply Zaa
 refine W_if (b:=true) ?_ ?_ ?_
 ·simp +decide only [zq]
 ·intro _;repeat apply Zaa
  apply Zad;intro _;simp +decide only [zq,↓Zab,↓reduceIte,aOp];rfl;refine Zbj ⟨fun h=>h.elim (fun h=>(nomatch h)) (fun h=>(nomatch h)),fun _ _=>⟨fun h=>(nomatch h),fun h=>(nomatch h),fun _ _=>⟨zA _,[.int .i64 x],?_,?_,rfl⟩⟩⟩
  ·simp +decide only [zq,Zaj]
  ·rw [dx];simp only [orI,if_neg hx0];rfl
 ·intro h;cases h
theorem bs2 {σ:AS} {x y:Int}:Zaz Tryz.prog σ 22 2 [(0,.int .i64 x),(1,.int .i64 y)]=some (.slice (some ⟨σ.next,0,none⟩) 2 2,σ.new ⟨1,3,0,[.int .i64 x,.int .i64 y],[]⟩):=by kernel_rfl
theorem Zmg {n:Nat} {k:IntKind} {i:Int}:(vsc n 9 (.int k i)&&veq 9 (.int k i) (.int k i))=true:=by
 unfold vsc veq;simp
abbrev Arc:Type:=Nat×Nat
def vArc (x:Arc):Value:=.agg #[.int .i64 (x.1:Int),.int .i64 (x.2:Int)]
def RArc (_:AS) (cs:List Value) (x:Arc):Prop:=cs=[.int .i64 (x.1:Int),.int .i64 (x.2:Int)]
theorem ZrL {b off:Nat}:Za4 Tryz.prog 57 0 (.pointer (some ⟨b,off,none⟩))=some (.pointer (some ⟨b,off,none⟩)):=by kernel_rfl
theorem Zi9 {b off:Nat}:Za4 Tryz.prog 57 1 (.pointer (some ⟨b,off,none⟩))=some (.pointer (some ⟨b,off+1,none⟩)):=by kernel_rfl
theorem loadArc {σ:AS} {b off:Nat} {x:Arc} {cs:List Value} (h:Zav σ ⟨b,off,none⟩ 2=some cs) (hc:RArc σ cs x):Zat Tryz.prog σ 57 (.pointer (some ⟨b,off,none⟩))=some (vArc x):=by
 unfold RArc at hc;subst hc;exact ZbK Tryz.underlying57 rfl (i:=(Tryz.prog.info? 57).get!) (by kernel_rfl) (by rw [show ((Tryz.prog.info? 57).get!).size=2 by kernel_rfl];exact h)
def cmpA (a b:Arc):Int:=orI [cmpI a.1 b.1,cmpI a.2 b.2]
def arcB (x:Arc):Blk:=⟨1,57,0,(vArc x).cells.toList,[]⟩
theorem Zcg {σ σ':AS} {b:Nat} {x:Arc} (h:σ.get b=arcB x) (hb:b<σ.next) (e:Ext σ σ') :
  Zat Tryz.prog σ' 3 (.pointer (some ⟨b,0,none⟩))=some (.int .i64 (x.1:Int))∧Zat Tryz.prog σ' 3 (.pointer (some ⟨b,0+1,none⟩))=some (.int .i64 (x.2:Int)):=by
 have hg:=(e.get b hb).trans h;exact ⟨Zaw Tryz.underlying3 rfl (Zaq hg rfl (zD rfl)),Zaw Tryz.underlying3 rfl (Zaq hg rfl (zD rfl))⟩
theorem Zql {σ:AS} (a b:Arc):C Tryz.prog KA 0 160 [vArc a,vArc b] σ fun u σ'=>u=.int .i64 (cmpA a b)∧Ext σ σ':=by
 refine C_of (ka rfl rfl) Tryz.func160 rfl (zD rfl) ?_;show W _ _ _ 17 _ _ _ _;unfold Tryz.f160;dsimp only;repeat apply Zaa
 apply Zad;intro _;simp +decide only [zq,ZaI,↓Zab,↓reduceIte,aOp,Zbm,aRow,ZmC];rfl;have e1:Ext σ ((σ.new (arcB a)).new (arcB b)):=(Ext.new _ _).trans (Ext.new _ _);have ga:((σ.new (arcB a)).new (arcB b)).get σ.next=arcB a:=by rw [AS.get_new,if_neg (by show ¬σ.next+1=σ.next;omega),AS.get_new,if_pos rfl]
 have gb:((σ.new (arcB a)).new (arcB b)).get (σ.next+1)=arcB b:=by rw [AS.get_new,if_pos (show (σ.new (arcB a)).next=σ.next+1 from rfl)]
 have la:σ.next<((σ.new (arcB a)).new (arcB b)).next:=by show σ.next<σ.next+1+1;omega
 have lb:σ.next+1<((σ.new (arcB a)).new (arcB b)).next:=by show σ.next+1<σ.next+1+1;omega
 show W _ _ _ _ _ _ ((σ.new (arcB a)).new (arcB b)) _;generalize (σ.new (arcB a)).new (arcB b)=σ1 at e1 ga gb la lb;generalize σ.next=pa at ga gb la lb;repeat apply Zaa
 refine Za8 [6,8] [pa,pa+1] (by kernel_rfl) (by kernel_rfl) ?_
 apply Zau 4;intro _;simp +decide only [zq,zr,List.take,aQ,↓Zab,↓reduceIte,aOp,Zac,Zag,ZrL,(Zcg ga la (Ext.reset _)).1,(Zcg gb lb (Ext.reset _)).1];rfl;dsimp only [List.drop,List.take,List.length];have e2:Ext σ1 (σ1.merge σ1.reset):=(Ext.refl _).merge (σ:=σ1);generalize σ1.merge σ1.reset=σ2 at e2;refine Zbx (vs:=[.int .i64 (a.1:Int),.int .i64 (b.1:Int)]) (by simp +decide only [zq,aevs]) (by decide) rfl (C.mono (ZfO (a.1:Int) (b.1:Int)) ?_)
 rintro v s1 ⟨rfl,rfl⟩;refine ⟨zA _,?_⟩;have e3:Ext σ1 (σ2.merge σ2.reset):=e2.trans ((Ext.refl _).merge (σ:=σ2));generalize σ2.merge σ2.reset=σ3 at e3;apply Zau 1;intro _;simp +decide only [zq,zr,List.take,aQ,↓Zab,↓reduceIte,aOp,Zac,Zi9];rfl;dsimp only [List.drop,List.take,List.length];have e4:Ext σ1 (σ3.merge σ3.reset):=e3.trans ((Ext.refl _).merge (σ:=σ3));generalize σ3.merge σ3.reset=σ4 at e4;refine ZaZ (b:=pa) (off:=0+1) (v:=.int .i64 (a.2:Int)) (by simp +decide only [zq]) (Zcg ga la (e4.trans (Ext.reset _))).2 Zmg (e4.lt la) (by simp [memb]) (by decide) ?_
 have e5:Ext σ1 (σ4.merge σ4.reset):=e4.trans ((Ext.refl _).merge (σ:=σ4));generalize σ4.merge σ4.reset=σ5 at e5;apply Zau 1;intro _;simp +decide only [zq,zr,List.take,aQ,↓Zab,↓reduceIte,aOp,Zac,Zi9];rfl;dsimp only [List.drop,List.take,List.length];have e6:Ext σ1 (σ5.merge σ5.reset):=e5.trans ((Ext.refl _).merge (σ:=σ5));generalize σ5.merge σ5.reset=σ6 at e6;refine ZaZ (b:=pa+1) (off:=0+1) (v:=.int .i64 (b.2:Int)) (by simp +decide only [zq]) (Zcg gb lb (e6.trans (Ext.reset _))).2 Zmg (e6.lt lb) (by simp [memb]) (by decide) ?_
 have e7:Ext σ1 (σ6.merge σ6.reset):=e6.trans ((Ext.refl _).merge (σ:=σ6));generalize σ6.merge σ6.reset=σ7 at e7;refine Zbx (vs:=[.int .i64 (a.2:Int),.int .i64 (b.2:Int)]) (by simp +decide only [zq,aevs]) (by decide) rfl (C.mono (ZfO (a.2:Int) (b.2:Int)) ?_)
 rintro v s1 ⟨rfl,rfl⟩;refine ⟨zA _,?_⟩;have e8:Ext σ1 (σ7.merge σ7.reset):=e7.trans ((Ext.refl _).merge (σ:=σ7));generalize σ7.merge σ7.reset=σ8 at e8;generalize hx:cmpI (a.1:Int) (b.1:Int)=x;generalize hy:cmpI (a.2:Int) (b.2:Int)=y;apply Zau 1;intro _;simp +decide only [zq,zr,List.take,aQ,↓Zab,↓reduceIte,aOp,Zar,ZaN,bs2];rfl;dsimp only [List.drop,List.take,List.length];have g9:(σ8.merge (σ8.reset.new ⟨1,3,0,[.int .i64 x,.int .i64 y],[]⟩)).get σ8.next=⟨1,3,0,[.int .i64 x,.int .i64 y],[]⟩:=by show (σ8.reset.new _).get σ8.next=_;rw [AS.get_new,if_pos (show σ8.reset.next=σ8.next from rfl)]
 have l9:σ8.next<(σ8.merge (σ8.reset.new ⟨1,3,0,[.int .i64 x,.int .i64 y],[]⟩)).next:=zG _;have e9:Ext σ1 (σ8.merge (σ8.reset.new ⟨1,3,0,[.int .i64 x,.int .i64 y],[]⟩)):=e8.trans (Ext.merge (Ext.new _ _));generalize σ8.merge (σ8.reset.new ⟨1,3,0,[.int .i64 x,.int .i64 y],[]⟩)=σ9 at g9 l9 e9;have hrs:RS 1 RInt σ9 (.slice (some ⟨σ8.next,0,none⟩) 2 2) [x,y]:=RS.of_block (l:=[x,y]) l9 g9 (zA _) fun i z hz=>by
  match i with
  | 0=>cases hz;rfl
  | 1=>cases hz;rfl
  | i+2=>simp at hz
 refine Zbx (vs:=[.slice (some ⟨σ8.next,0,none⟩) 2 2]) (by simp +decide only [zq,aevs]) (by decide) rfl (C.mono (or_c (hrs.ext RInt.keeps (Ext.reset _)) (zD rfl)) ?_)
 rintro v s1 ⟨rfl,rfl⟩;refine ⟨zA _,?_⟩;have e10:Ext σ1 (σ9.merge σ9.reset):=e9.trans ((Ext.refl _).merge (σ:=σ9));generalize σ9.merge σ9.reset=σ10 at e10;apply ZaO;intro _;simp +decide only [zq,zr,aQ,↓Zab,↓reduceIte,aOp];rfl;refine ZaL ⟨zA _,[.int .i64 (orI [x,y])],?_,?_,(e1.trans e10).trans ((Ext.refl _).merge)⟩
 ·simp +decide only [zq,Zaj]
 ·subst hx hy;rfl
theorem cmpE_c {σ:AS} (a b:Arc):C Tryz.prog KA 0 26 [vArc a,vArc b] σ fun u σ'=>u=.int .i64 (cmpA a b)∧Ext σ σ':=by
 refine C_of (ka rfl rfl) Tryz.func26 rfl (zD rfl) ?_;show W _ _ _ 17 _ _ _ _;unfold Tryz.f26;dsimp only;repeat apply Zaa
 apply Zad;intro _;simp +decide only [zq,ZaI,↓Zab,↓reduceIte,aOp,Zbm,aRow,ZmC];rfl;have e1:Ext σ ((σ.new (arcB a)).new (arcB b)):=(Ext.new _ _).trans (Ext.new _ _);have ga:((σ.new (arcB a)).new (arcB b)).get σ.next=arcB a:=by rw [AS.get_new,if_neg (by show ¬σ.next+1=σ.next;omega),AS.get_new,if_pos rfl]
 have gb:((σ.new (arcB a)).new (arcB b)).get (σ.next+1)=arcB b:=by rw [AS.get_new,if_pos (show (σ.new (arcB a)).next=σ.next+1 from rfl)]
 have la:σ.next<((σ.new (arcB a)).new (arcB b)).next:=by show σ.next<σ.next+1+1;omega
 have lb:σ.next+1<((σ.new (arcB a)).new (arcB b)).next:=by show σ.next+1<σ.next+1+1;omega
 show W _ _ _ _ _ _ ((σ.new (arcB a)).new (arcB b)) _;generalize (σ.new (arcB a)).new (arcB b)=σ1 at e1 ga gb la lb;generalize σ.next=pa at ga gb la lb;repeat apply Zaa
 refine Za8 [6,8] [pa,pa+1] (by kernel_rfl) (by kernel_rfl) ?_
 apply Zau 4;intro _;simp +decide only [zq,zr,List.take,aQ,↓Zab,↓reduceIte,aOp,Zac,Zag,ZrL,(Zcg ga la (Ext.reset _)).1,(Zcg gb lb (Ext.reset _)).1];rfl;dsimp only [List.drop,List.take,List.length];have e2:Ext σ1 (σ1.merge σ1.reset):=(Ext.refl _).merge (σ:=σ1);generalize σ1.merge σ1.reset=σ2 at e2;refine Zbx (vs:=[.int .i64 (a.1:Int),.int .i64 (b.1:Int)]) (by simp +decide only [zq,aevs]) (by decide) rfl (C.mono (ZfO (a.1:Int) (b.1:Int)) ?_)
 rintro v s1 ⟨rfl,rfl⟩;refine ⟨zA _,?_⟩;have e3:Ext σ1 (σ2.merge σ2.reset):=e2.trans ((Ext.refl _).merge (σ:=σ2));generalize σ2.merge σ2.reset=σ3 at e3;apply Zau 1;intro _;simp +decide only [zq,zr,List.take,aQ,↓Zab,↓reduceIte,aOp,Zac,Zi9];rfl;dsimp only [List.drop,List.take,List.length];have e4:Ext σ1 (σ3.merge σ3.reset):=e3.trans ((Ext.refl _).merge (σ:=σ3));generalize σ3.merge σ3.reset=σ4 at e4;refine ZaZ (b:=pa) (off:=0+1) (v:=.int .i64 (a.2:Int)) (by simp +decide only [zq]) (Zcg ga la (e4.trans (Ext.reset _))).2 Zmg (e4.lt la) (by simp [memb]) (by decide) ?_
 have e5:Ext σ1 (σ4.merge σ4.reset):=e4.trans ((Ext.refl _).merge (σ:=σ4));generalize σ4.merge σ4.reset=σ5 at e5;apply Zau 1;intro _;simp +decide only [zq,zr,List.take,aQ,↓Zab,↓reduceIte,aOp,Zac,Zi9];rfl;dsimp only [List.drop,List.take,List.length];have e6:Ext σ1 (σ5.merge σ5.reset):=e5.trans ((Ext.refl _).merge (σ:=σ5));generalize σ5.merge σ5.reset=σ6 at e6;refine ZaZ (b:=pa+1) (off:=0+1) (v:=.int .i64 (b.2:Int)) (by simp +decide only [zq]) (Zcg gb lb (e6.trans (Ext.reset _))).2 Zmg (e6.lt lb) (by simp [memb]) (by decide) ?_
 have e7:Ext σ1 (σ6.merge σ6.reset):=e6.trans ((Ext.refl _).merge (σ:=σ6));generalize σ6.merge σ6.reset=σ7 at e7;refine Zbx (vs:=[.int .i64 (a.2:Int),.int .i64 (b.2:Int)]) (by simp +decide only [zq,aevs]) (by decide) rfl (C.mono (ZfO (a.2:Int) (b.2:Int)) ?_)
 rintro v s1 ⟨rfl,rfl⟩;refine ⟨zA _,?_⟩;have e8:Ext σ1 (σ7.merge σ7.reset):=e7.trans ((Ext.refl _).merge (σ:=σ7));generalize σ7.merge σ7.reset=σ8 at e8;generalize hx:cmpI (a.1:Int) (b.1:Int)=x;generalize hy:cmpI (a.2:Int) (b.2:Int)=y;apply Zau 1;intro _;simp +decide only [zq,zr,List.take,aQ,↓Zab,↓reduceIte,aOp,Zar,ZaN,bs2];rfl;dsimp only [List.drop,List.take,List.length];have g9:(σ8.merge (σ8.reset.new ⟨1,3,0,[.int .i64 x,.int .i64 y],[]⟩)).get σ8.next=⟨1,3,0,[.int .i64 x,.int .i64 y],[]⟩:=by show (σ8.reset.new _).get σ8.next=_;rw [AS.get_new,if_pos (show σ8.reset.next=σ8.next from rfl)]
 have l9:σ8.next<(σ8.merge (σ8.reset.new ⟨1,3,0,[.int .i64 x,.int .i64 y],[]⟩)).next:=zG _;have e9:Ext σ1 (σ8.merge (σ8.reset.new ⟨1,3,0,[.int .i64 x,.int .i64 y],[]⟩)):=e8.trans (Ext.merge (Ext.new _ _));generalize σ8.merge (σ8.reset.new ⟨1,3,0,[.int .i64 x,.int .i64 y],[]⟩)=σ9 at g9 l9 e9;have hrs:RS 1 RInt σ9 (.slice (some ⟨σ8.next,0,none⟩) 2 2) [x,y]:=RS.of_block (l:=[x,y]) l9 g9 (zA _) fun i z hz=>by
  match i with
  | 0=>cases hz;rfl
  | 1=>cases hz;rfl
  | i+2=>simp at hz
 refine Zbx (vs:=[.slice (some ⟨σ8.next,0,none⟩) 2 2]) (by simp +decide only [zq,aevs]) (by decide) rfl (C.mono (or_c (hrs.ext RInt.keeps (Ext.reset _)) (zD rfl)) ?_)
 rintro v s1 ⟨rfl,rfl⟩;refine ⟨zA _,?_⟩;have e10:Ext σ1 (σ9.merge σ9.reset):=e9.trans ((Ext.refl _).merge (σ:=σ9));generalize σ9.merge σ9.reset=σ10 at e10;apply ZaO;intro _;simp +decide only [zq,zr,aQ,↓Zab,↓reduceIte,aOp];rfl;refine ZaL ⟨zA _,[.int .i64 (orI [x,y])],?_,?_,(e1.trans e10).trans ((Ext.refl _).merge)⟩
 ·simp +decide only [zq,Zaj]
 ·subst hx hy;rfl
open Abs
def cA:List Arc→List Value
 | []=>[]
 | x::l=>.int .i64 (x.1:Int)::.int .i64 (x.2:Int)::cA l
theorem ZkB:∀l:List Arc,(cA l).length=l.length*2
 | []=>rfl
 | _::l=>by show (cA l).length+1+1=(l.length+1)*2;rw [ZkB l];omega
theorem ZkC:∀l m:List Arc,cA (l++m)=cA l++cA m
 | [],_=>rfl
 | x::l,m=>by show _::_::cA (l++m)=_::_::(cA l++cA m);rw [ZkC l m]
theorem ZlM:∀(l:List Arc) (i:Nat),(cA l).take (i*2)=cA (l.take i)
 | [],i=>by simp [cA]
 | x::l,0=>by simp [cA]
 | x::l,i+1=>by
  rw [show (i+1)*2=i*2+1+1 by omega]
  show _::_::(cA l).take (i*2)=_::_::cA (l.take i);rw [ZlM l i]
theorem Zpc:∀(l:List Arc) (i:Nat),(cA l).drop (i*2)=cA (l.drop i)
 | [],i=>by simp [cA]
 | x::l,0=>by simp [cA]
 | x::l,i+1=>by
  rw [show (i+1)*2=i*2+1+1 by omega]
  exact Zpc l i
theorem Zr5 {l:List Arc} {i:Nat} {x:Arc} (h:l[i]?=some x):((cA l).drop (i*2)).take 2=[.int .i64 (x.1:Int),.int .i64 (x.2:Int)]:=by
 obtain ⟨h1,h2⟩:=zE.1 h;rw [Zpc,List.drop_eq_getElem_cons h1,h2];rfl
theorem Zpb:∀l:List Arc,(cA l).all one=true
 | []=>rfl
 | x::l=>by show (_&&(_&&(cA l).all one))=true;rw [Zpb l];rfl
theorem ZqU:∀(l:List Arc) (i:Nat) (x:Arc),i<l.length→Za3 (cA l) (i*2) [.int .i64 (x.1:Int),.int .i64 (x.2:Int)]=cA (l.set i x)
 | [],i,x,h=>absurd h (Nat.not_lt_zero _)
 | y::l,0,x,h=>by
  rw [ZaP,ZaP,Zbe];rfl
 | y::l,i+1,x,h=>by
  have ih:=ZqU l i x (by simpa using h)
  rw [ZaP,ZaP,Zbe] at ih ⊢;rw [show (i+1)*2=i*2+1+1 by omega]
  show _::_::((cA l).set (i*2) _).set (i*2+1) _=_::_::cA (l.set i x);rw [ih]
theorem idxA {b off len cap i:Nat} (h:i<len):Zal Tryz.prog 44 (.slice (some ⟨b,off,none⟩) len cap) (.int .i64 (i:Int))=some (.pointer (some ⟨b,off+i*2,none⟩)):=
 ZaD (inf:=(Tryz.prog.info? 57).get!) Tryz.underlying44 (by kernel_rfl) (by kernel_rfl) h
theorem elA:El Tryz.prog 44 57 2:=⟨Tryz.underlying44,⟨(Tryz.prog.info? 57).get!,(((Tryz.prog.info? 57).get!).zero).get!,by kernel_rfl,by kernel_rfl,zD (by kernel_rfl),by kernel_rfl,by kernel_rfl,by kernel_rfl⟩,by decide⟩
def AL (lo:Nat) (σ:AS) (v:Value) (l:List Arc):Prop:=Stk lo 57 2 σ v l.length (cA l)
section
variable {lo:Nat} {σ σ':AS} {v:Value} {l:List Arc}
theorem AL.ext (h:AL lo σ v l) (e:Ext σ σ'):AL lo σ' v l:=h.keep e.nxt fun i _ hi=>e.get i hi
theorem AL.nil:AL lo σ (.slice none 0 0) []:=⟨rfl,rfl,.inl ⟨rfl,rfl⟩⟩
theorem AL.own (h:AL lo σ v l) {i:Nat} (ho:Own v i):lo≤i∧i<σ.next∧(σ.get i).kind=2∧(σ.get i).elem=57:=Stk.own h ho
theorem AL.at (h:AL lo σ v l) (hl:l≠[]):∃b c,v=.slice (some ⟨b,0,none⟩) l.length c∧lo≤b∧b<σ.next∧(σ.get b).kind=2∧(σ.get b).elem=57∧
  (∀i,i<l.length→Zal Tryz.prog 44 v (.int .i64 (i:Int))=some (.pointer (some ⟨b,i*2,none⟩)))∧
  (∀i x,l[i]?=some x→∀σ':AS,σ'.get b=σ.get b→Zat Tryz.prog σ' 57 (.pointer (some ⟨b,i*2,none⟩))=some (vArc x))∧
  (∀i x,i<l.length→∃B:Blk,B.kind=2∧B.elem=57∧(∀σ':AS,σ'.get b=σ.get b→ZaK Tryz.prog σ' 57 (vArc x) (.pointer (some ⟨b,i*2,none⟩))=some (σ'.put b B))∧∀τ:AS,σ.next≤τ.next→τ.get b=B→AL lo τ v (l.set i x)):=by
 obtain ⟨c1,c2,⟨h3,h0⟩|⟨b,n,vals,rfl,h4,h5,h6,h7,h8,h9⟩⟩:=h
 ·exact absurd (List.length_eq_zero_iff.1 h0) hl
 have hv:∀(i:Nat) (x:Arc),l[i]?=some x→i*2+2≤vals.length∧(vals.drop (i*2)).take 2=[.int .i64 (x.1:Int),.int .i64 (x.2:Int)]:=fun i x hx=>by
  have hi:=(zE.1 hx).1;refine ⟨by omega,?_⟩
  rw [←Zr5 hx,←h9,List.drop_take,List.take_take,Nat.min_eq_left (by omega)]
 refine ⟨b,_,rfl,h5,h6,by rw [h7],by rw [h7],fun i hi=>?_,fun i x hx σ' hg=>?_,fun i x hi=>⟨⟨2,57,2,Za3 vals (i*2) [.int .i64 (x.1:Int),.int .i64 (x.2:Int)],[]⟩,rfl,rfl,fun σ' hg=>?_,fun τ hn hg=>⟨by rw [ZkB],Zpb _,.inr ⟨b,n,_,by rw [List.length_set],by rw [List.length_set];exact h4,h5,by omega,hg,?_,?_⟩⟩⟩⟩
 ·have e1:=idxA (b:=b) (off:=0) (cap:=Zax+n) hi;rw [Nat.zero_add] at e1;exact e1
 ·obtain ⟨g1,g2⟩:=hv i x hx;refine loadArc (x:=x) ?_ rfl;unfold Zav;simp only [hg.trans h7,ZaJ];rw [ZbF g1,g2];rfl
 ·obtain ⟨inf,hi2,hs⟩:∃inf,Tryz.prog.info? 57=some inf∧inf.size=2:=⟨(Tryz.prog.info? 57).get!,by kernel_rfl,by kernel_rfl⟩
  have hz:Nat.beq (vArc x).cells.size 2=true:=rfl;have hc:(vArc x).cells.toList=[.int .i64 (x.1:Int),.int .i64 (x.2:Int)]:=rfl;have ho:[Value.int .i64 (x.1:Int),.int .i64 (x.2:Int)].all one=true:=rfl;unfold ZaK;simp only [hi2,hs,hz,if_true,hc];unfold Zbc;simp only [hg.trans h7,ZaJ,List.length_cons,List.length_nil,Nat.zero_add,ho];rw [ZbF (show i*2+(1+1)≤vals.length by omega)]
  rfl
 ·rw [ZaP,ZaP,Zbe,List.length_set,List.length_set];exact h8
 ·rw [List.length_set,←ZqU l i x hi,←h9,ZaP,ZaP,Zbe,ZaP,ZaP,Zbe,List.take_set,List.take_set]
end
end Go.Proofs.YteangeffgjolpaaGreatDoor.U
