/- Systems without tick: lasting. -/
import Derived.Test.YteangeffgjolpaaGreatDoorNmXp
import Derived.Test.YteangeffgjolpaaGreatDoorNmV
set_option linter.unusedSimpArgs false
set_option linter.unusedVariables false
set_option maxRecDepth 100000
set_option maxHeartbeats 64000000
namespace Go.Proofs.YteangeffgjolpaaGreatDoor.Nest
open Abs
theorem Zft {σ:AS} {b t i:Nat} {vals:List Value} {x:Int} (h:σ.get b=⟨1,t,0,vals,[]⟩) (hi:i<vals.length) :
  ZaK Tryz.prog σ 3 (.int .i64 x) (.pointer (some ⟨b,i,none⟩))=some (σ.put b ⟨1,t,0,vals.set i (.int .i64 x),[]⟩):=by
 obtain ⟨inf,hi2,hs⟩:=sz3;have hz:Nat.beq (Value.int .i64 x).cells.size 1=true:=rfl;have hc:(Value.int .i64 x).cells.toList=[.int .i64 x]:=rfl;unfold ZaK;simp only [hi2,hs,hz,if_true,hc];unfold Zbc;simp only [h,ZaJ,List.length_cons,List.length_nil,Nat.zero_add];rw [ZbF (show i+1≤vals.length by omega),ZaP,Zbe]
 rfl
theorem ZiF:∀l:List Can.Arc,cellsOf (Zbr l)=U.cA l
 | []=>rfl
 | x::l=>by
  show .int .i64 (x.1:Int)::.int .i64 (x.2:Int)::cellsOf (Zbr l)=.int .i64 (x.1:Int)::.int .i64 (x.2:Int)::U.cA l;rw [ZiF l]
theorem Zlt {σ:AS} {v:Value} {l:List Can.Arc} (h:GRow σ v (Zbr l)):RRw 0 σ [v] l:=by
 refine ⟨v,rfl,?_,?_⟩
 ·rcases h with ⟨rfl,h0⟩|⟨h0,b,rfl,h1,h2⟩
  ·exact .inl ⟨rfl,by unfold Zbr at h0;exact List.map_eq_nil_iff.1 h0⟩
  ·refine .inr ⟨fun h=>h0 (by rw [h];rfl),b,0,Zax+l.length,by unfold outV Zbr;rw [List.length_map],h1,?_⟩
   have:=Zek h2 (i:=0) (n:=l.length) (by unfold Zbr;rw [List.length_map];omega)
   rw [Nat.zero_mul,List.drop_zero,zJ (by unfold Zbr;rw [List.length_map];exact zA _),ZiF] at this
   exact this
 ·rintro i ⟨off,n,c,hv⟩;rcases h with ⟨rfl,h0⟩|⟨h0,b,rfl,h1,h2⟩
  ·cases hv
  ·unfold outV at hv;cases hv;rw [h2];exact ⟨zH _,h1,rfl,rfl⟩
def natR (l:List Arc):List Can.Arc:=l.map fun a=>(a.1.toNat,a.2.toNat)
theorem Zg5 {l:List Arc} (h:∀a∈l,0≤a.1∧0≤a.2):Zbr (natR l)=l:=by
 unfold Zbr natR;rw [List.map_map];refine (List.map_congr_left fun a ha=>?_).trans (List.map_id _);obtain ⟨h1,h2⟩:=h a ha;show (((a.1.toNat:Nat):Int),((a.2.toNat:Nat):Int))=a;rw [Int.toNat_of_nonneg h1,Int.toNat_of_nonneg h2]
def unT (a:Arc):Arc:=if a.1=1 then (5,a.2) else a
structure Lst (row l:List Arc):Prop where
 asc:asc l=true
 mem:∀x∈l,∃y∈row,x=unT y
 len:l.length≤row.length
theorem has_c {σ:AS} {v:Value} {l:List Arc} {e:Int} (hr:RS 2 RArc σ v l) (hl:l.length≤1000):C Tryz.prog Kn 0 20 [v,.int .i64 e] σ fun u σ'=>u=.bool (l.any fun a=>decide (a.1=e))∧Ext σ σ':=by
 obtain ⟨base,cap,rfl,-⟩:=id hr;refine C_of (kn (by decide)) Tryz.func20 rfl (zD rfl) ?_
 show W _ _ _ 19 _ _ _ _;unfold Tryz.f20;dsimp only;repeat apply Zaa
 apply Zad;intro _;simp +decide only [zq,ZaI,↓Zab,↓reduceIte,aOp];rfl;repeat apply Zaa
 apply Zad;intro _;simp +decide only [zq,↓Zab,↓reduceIte,aOp];rfl;repeat apply Zaa
 refine Zbs (fun (i:Nat) r s=>i≤l.length∧Ext σ s∧(∀a∈l.take i,a.1≠e)∧rget r 0=.slice base l.length cap∧rget r 1=.int .i64 e∧rget r 5=.int .i64 (i:Int)) (fun i=>l.length-i) (fun r s=>Ext σ s∧(l.any fun a=>decide (a.1=e))=false) ?_ ?_ 0 ?_;rotate_left 2
 ·refine ⟨zH _,Ext.refl _,fun a ha=>(nomatch ha),?_,?_,?_⟩<;>simp +decide only [zq]<;>first|exact True.intro|rfl
 rotate_left
 ·rintro r s ⟨e1,hn⟩;repeat apply Zaa
  apply Zad;intro _;simp +decide only [zq,↓Zab,↓reduceIte,aOp];rfl;refine ZaL ⟨zA _,[.bool false],?_,by rw [hn];rfl,e1⟩
  simp +decide only [zq,Zaj]
 rintro i r σ1 ⟨hi,e1,hn,h0,h1,h5⟩;have w6:IntKind.i64.wrap ((i:Int)+1)=((i+1:Nat):Int):=by rw [Zas _ (by omega) (by omega)];omega
 by_cases hlt:i<l.length
 rotate_left
 ·have d1:decide ((i:Int)<(l.length:Int))=false:=zI (by omega)
  rw [zJ (by omega)] at hn
  repeat apply Zaa
  apply Zad;intro _;simp +decide only [zq,↓Zab,↓reduceIte,aOp,Zah,Zan,aevs,Zaf,h0,h5,Tryz.underlying44,goInt,aLen,U.lssI,d1];rfl;repeat apply Zaa
  refine ZaC (by simp +decide only [zq]) ?_
  exact ZaA ⟨fun h=>(nomatch h),fun _=>⟨e1,List.any_eq_false.2 fun a ha=>by simpa using hn a ha⟩,fun h1 h2=>absurd rfl h2⟩
 have d1:decide ((i:Int)<(l.length:Int))=true:=zM (by omega)
 repeat apply Zaa
 apply Zad;intro _;simp +decide only [zq,↓Zab,↓reduceIte,aOp,Zah,Zan,aevs,Zaf,h0,h5,Tryz.underlying44,goInt,aLen,U.lssI,d1];rfl;repeat apply Zaa
 refine ZaQ (by simp +decide only [zq]) ?_
 apply Zak;refine ZaM ?_;obtain ⟨a,ha⟩:∃a,l[i]?=some a:=⟨l[i],by simp [hlt]⟩
 obtain ⟨-,b,off,rfl,hb,hat⟩:=Zfm hr ha;have hld:=(hat _ e1).2.1;have hq:(a.1 == e)=decide (a.1=e):=rfl;repeat apply Zaa
 apply Zad;intro _;simp +decide only [zq,↓Zab,↓reduceIte,aOp,Zah,Zae,Zac,Zag,h0,h1,h5,Zfh hlt,fld0,hld,U.eqII];rfl;refine Zao ?_;by_cases hae:a.1=e
 ·have hq:(a.1 == e)=true:=by rw [beq_iff_eq];exact hae
  repeat apply Zaa
  refine ZaQ (by simp +decide only [zq,hq]) ?_
  repeat apply Zaa
  apply Zad;intro _;simp +decide only [zq,↓Zab,↓reduceIte,aOp];rfl;refine Zbj ⟨fun h=>h.elim (fun h=>(nomatch h)) (fun h=>(nomatch h)),fun _ _=>⟨fun h=>(nomatch h),fun h=>(nomatch h),fun _ _=>⟨zA _,[.bool true],?_,?_,e1⟩⟩⟩
  ·simp +decide only [zq,Zaj]
  ·rw [List.any_eq_true.2 ⟨a,zF ha,zM hae⟩];rfl
 have hq:(a.1 == e)=false:=by rw [beq_eq_false_iff_ne];exact hae
 repeat apply Zaa
 refine ZaC (by simp +decide only [zq,hq]) ?_
 apply Zak;refine Zap ⟨fun _=>?_,fun h=>absurd rfl h⟩;refine Zao ?_;repeat apply Zaa
 apply Zad;intro _;simp +decide only [zq,↓Zab,↓reduceIte,aOp,Zah,h5,U.addI,w6];rfl;refine Zap ⟨fun _=>⟨i+1,by omega,hlt,e1,fun b hb=>?_,?_,?_,?_⟩,fun h=>(nomatch h),fun h=>absurd rfl h⟩
 ·rw [zT,ha] at hb;rcases zR.1 hb with hb|hb
  ·exact hn b hb
  ·simp at hb;rw [hb];exact hae
 all_goals simp +decide only [zq,h0,h1]
theorem ZoD {σ:AS} {s:Value} {L:Lts} (hs:RS 1 RRow σ s L) (hN:L.length≤100) (hl:∀row∈L,row.length≤100∧∀a∈row,0≤a.1∧0≤a.2) :
  C Tryz.prog Kn 0 6 [.agg #[s]] σ fun v σ'=>(∃ov LN,v=.agg #[ov]∧LV 44 1 (RRw 0) σ.next σ' ov LN∧LN.length=L.length∧∀(k:Nat) (row:List Arc) (l:List Can.Arc),L[k]?=some row→LN[k]?=some l→Lst row (Zbr l))∧Ext σ σ':=by
 obtain ⟨sb,sc,rfl,-⟩:=id hs;refine C_of (kn (by decide)) Tryz.func6 rfl (zD rfl) ?_
 show W _ _ _ 47 _ _ _ _;unfold Tryz.f6;dsimp only;repeat apply Zaa
 apply Zad;intro _;simp +decide only [zq,ZaI,↓Zab,↓reduceIte,aOp,Zbm,aRow,ZcP];rfl;repeat apply Zaa
 apply Zad;intro _;simp +decide only [zq,↓Zab,↓reduceIte,aOp,ZcP];rfl;have AT:=(LtsAt.new hs).ext ((Ext.new _ ⟨1,27,0,[.slice none 0 0],[]⟩).trans (Ext.new _ ⟨1,27,0,[.slice none 0 0],[]⟩));have e1:Ext σ (((σ.new ⟨1,27,0,(Value.agg #[.slice sb L.length sc]).cells.toList,[]⟩).new ⟨1,27,0,[.slice none 0 0],[]⟩).new ⟨1,27,0,[.slice none 0 0],[]⟩):=((Ext.new _ _).trans (Ext.new _ _)).trans (Ext.new _ _);have RX:=(BxAt.new (σ.new ⟨1,27,0,(Value.agg #[.slice sb L.length sc]).cells.toList,[]⟩) 27 [.slice none 0 0]).ext (Ext.new _ ⟨1,27,0,[.slice none 0 0],[]⟩);have QX:=BxAt.new ((σ.new ⟨1,27,0,(Value.agg #[.slice sb L.length sc]).cells.toList,[]⟩).new ⟨1,27,0,[.slice none 0 0],[]⟩) 27 [.slice none 0 0];have hx1:σ.next<(σ.new ⟨1,27,0,(Value.agg #[.slice sb L.length sc]).cells.toList,[]⟩).next:=zG _;have hx2:(σ.new ⟨1,27,0,(Value.agg #[.slice sb L.length sc]).cells.toList,[]⟩).next<((σ.new ⟨1,27,0,(Value.agg #[.slice sb L.length sc]).cells.toList,[]⟩).new ⟨1,27,0,[.slice none 0 0],[]⟩).next:=zG _;generalize hqx:((σ.new ⟨1,27,0,(Value.agg #[.slice sb L.length sc]).cells.toList,[]⟩).new ⟨1,27,0,[.slice none 0 0],[]⟩).next=qx at QX hx2;generalize hrx:(σ.new ⟨1,27,0,(Value.agg #[.slice sb L.length sc]).cells.toList,[]⟩).next=rx at RX hx1 hx2;generalize hnx:σ.next=xb at AT hx1;generalize ((σ.new ⟨1,27,0,(Value.agg #[.slice sb L.length sc]).cells.toList,[]⟩).new ⟨1,27,0,[.slice none 0 0],[]⟩).new ⟨1,27,0,[.slice none 0 0],[]⟩=σ1 at e1 AT RX QX;repeat apply Zaa
 apply Zad;intro _;simp +decide only [zq,↓Zab,↓reduceIte,aOp];rfl;repeat apply Zaa
 refine Zbs (fun (i:Nat) r s=>i≤L.length∧Ext σ s∧LtsAt s xb (.slice sb L.length sc) L∧BxAt s 27 rx [.slice none 0 0]∧(∃ov LN,BxAt s 27 qx [ov]∧LV 44 1 (RRw 0) xb s ov LN∧LN.length=i∧∀(k:Nat) (row:List Arc) (l:List Can.Arc),L[k]?=some row→LN[k]?=some l→Lst row (Zbr l))∧rget r 1=.pointer (some ⟨xb,0,none⟩)∧rget r 2=.pointer (some ⟨rx,0,none⟩)∧rget r 3=.pointer (some ⟨qx,0,none⟩)∧rget r 4=.int .i64 (i:Int)) (fun i=>L.length-i)
  (fun r s=>Ext σ s∧BxAt s 27 rx [.slice none 0 0]∧(∃ov LN,BxAt s 27 qx [ov]∧LV 44 1 (RRw 0) xb s ov LN∧LN.length=L.length∧∀(k:Nat) (row:List Arc) (l:List Can.Arc),L[k]?=some row→LN[k]?=some l→Lst row (Zbr l))∧rget r 2=.pointer (some ⟨rx,0,none⟩)∧rget r 3=.pointer (some ⟨qx,0,none⟩)) ?_ ?_ 0 ?_
 rotate_left 2
 ·refine ⟨zH _,e1,AT,RX,⟨_,[],QX,LV.nil,rfl,fun k row l _ h=>(nomatch h)⟩,?_,?_,?_,?_⟩<;>simp +decide only [zq]<;>first|exact True.intro|rfl
 rotate_left
 ·rintro r s ⟨E2,R2,⟨ov,LN,Q2,hout,hlen,hLst⟩,h2,h3⟩;obtain ⟨oa,oc,hove⟩:=hout.len;have lq:Zat Tryz.prog s 27 (.pointer (some ⟨qx,0,none⟩))=some (.agg #[ov]):=ZbK Tryz.underlying27 rfl (i:=(Tryz.prog.info? 27).get!) (by kernel_rfl) (by rw [show ((Tryz.prog.info? 27).get!).size=1 by kernel_rfl];exact Zaq Q2.get rfl (by simp))
  have hst:ZaK Tryz.prog s 27 (.agg #[ov]) (.pointer (some ⟨rx,0,none⟩))=some (s.put rx ⟨1,27,0,[ov],[]⟩):=by rw [hove];exact ZdM R2.get
  repeat apply Zaa
  apply Zad;intro _;simp +decide only [zq,↓Zab,↓reduceIte,aOp,Zag,ZaE,unn,h2,h3,lq,hst];rfl;have E3:Ext σ (s.put rx ⟨1,27,0,[ov],[]⟩):=Ext.put E2 (by rw [hnx];exact Nat.le_of_lt hx1) _
  have hne:∀q,(s.get q).kind=2→(s.put rx ⟨1,27,0,[ov],[]⟩).get q=s.get q:=fun q hq=>by
   rw [AS.get_put,if_neg];rintro rfl;rw [R2.get] at hq;exact absurd (show (1:Nat)=2 from hq) (by decide)
  have hout3:LV 44 1 (RRw 0) xb (s.put rx ⟨1,27,0,[ov],[]⟩) ov LN:=by
   obtain ⟨cs,k1,k2⟩:=hout;refine ⟨cs,k1.keep (zA _) fun q ho _=>hne q (k1.own ho).2.2.1,fun q x hq=>?_⟩;obtain ⟨v,g1,g2,g3⟩:=k2 q x hq;exact ⟨v,g1,g2.keep (zA _) fun q hq _=>hne q (g3 q hq).2.2.1,fun q hq=>⟨(g3 q hq).1,(g3 q hq).2.1,by rw [hne q (g3 q hq).2.2.1];exact (g3 q hq).2.2⟩⟩
  have ll:Zat Tryz.prog (s.put rx ⟨1,27,0,[ov],[]⟩) 27 (.pointer (some ⟨rx,0,none⟩))=some (.agg #[ov]):=ZbK Tryz.underlying27 rfl (i:=(Tryz.prog.info? 27).get!) (by kernel_rfl) (by rw [show ((Tryz.prog.info? 27).get!).size=1 by kernel_rfl];exact Zaq (by rw [AS.get_put,if_pos rfl]) rfl (by simp))
  refine ZaL ⟨zA _,[.agg #[ov]],?_,⟨ov,LN,rfl,hout3,hlen,hLst⟩,E3⟩;simp +decide only [zq,Zaj,h2,ll]
 rintro i r σ2 ⟨hi,E2,AT,R2,⟨ov,LN,Q2,hout,hlen,hLst⟩,h1,h2,h3,h4⟩;have w4:IntKind.i64.wrap ((i:Int)+1)=((i+1:Nat):Int):=by rw [Zas _ (by omega) (by omega)];omega
 by_cases hlt:i<L.length
 rotate_left
 ·have d1:decide ((i:Int)<(L.length:Int))=false:=zI (by omega)
  have hi2:i=L.length:=by omega
  repeat apply Zaa
  apply Zad;intro _;simp +decide only [zq,↓Zab,↓reduceIte,aOp,Zah,Zan,Zac,Zag,aevs,Zaf,h1,h4,fldL,AT.out,Tryz.underlying25,goInt,aLen,U.lssI,d1];rfl;repeat apply Zaa
  refine ZaC (by simp +decide only [zq]) ?_
  refine ZaA ⟨fun h=>(nomatch h),fun _=>⟨E2,R2,⟨ov,LN,Q2,hout,by omega,hLst⟩,?_,?_⟩,fun h1 h2=>absurd rfl h2⟩<;>simp +decide only [zq,h2,h3]
 have d1:decide ((i:Int)<(L.length:Int))=true:=zM (by omega)
 obtain ⟨row,hrow⟩:∃row,L[i]?=some row:=⟨L[i],by simp [hlt]⟩
 obtain ⟨hrl,hr0⟩:=hl row (zF hrow);obtain ⟨-,b0,off0,rv,rfl,hb0,hrld,hrv⟩:=ZiZ AT.rd hrow;obtain ⟨rb,rc,rfl,-⟩:=id hrv;repeat apply Zaa
 apply Zad;intro _;simp +decide only [zq,↓Zab,↓reduceIte,aOp,Zah,Zan,Zac,Zag,aevs,Zaf,h1,h4,fldL,AT.out,Tryz.underlying25,goInt,aLen,U.lssI,d1];rfl;repeat apply Zaa
 refine ZaQ (by simp +decide only [zq]) ?_
 apply Zak;refine ZaM ?_;repeat apply Zaa
 apply Zad;intro _;simp +decide only [zq,↓Zab,↓reduceIte,aOp];rfl;repeat apply Zaa
 apply Zad;intro _;simp +decide only [zq,↓Zab,↓reduceIte,aOp];rfl;repeat apply Zaa
 refine Zbs (fun (j:Nat) r s=>j≤row.length∧(Ext σ2 s∧(∃w l,rget r 5=w∧GRow s w l∧Lst (row.take j) l)∧rget r 1=.pointer (some ⟨xb,0,none⟩)∧rget r 2=.pointer (some ⟨rx,0,none⟩)∧rget r 3=.pointer (some ⟨qx,0,none⟩)∧rget r 4=.int .i64 (i:Int))∧rget r 6=.int .i64 (j:Int)) (fun j=>row.length-j) (fun r s=>Ext σ2 s∧(∃w l,rget r 5=w∧GRow s w l∧Lst (row.take row.length) l)∧rget r 1=.pointer (some ⟨xb,0,none⟩)∧rget r 2=.pointer (some ⟨rx,0,none⟩)∧rget r 3=.pointer (some ⟨qx,0,none⟩)∧rget r 4=.int .i64 (i:Int)) ?_ ?_ 0 ?_;rotate_left 2
 ·refine ⟨zH _,⟨Ext.refl _,⟨_,[],?_,.inl ⟨rfl,rfl⟩,⟨rfl,fun x hx=>(nomatch hx),zH _⟩⟩,?_,?_,?_,?_⟩,?_⟩<;>simp +decide only [zq,h1,h2,h3,h4]<;>first|exact True.intro|rfl
 rotate_left
 ·rintro r s ⟨e3,⟨w,l,h5,hG,hLs⟩,h1,h2,h3,h4⟩;rw [zJ (zA _)] at hLs;have E3:=E2.trans e3;have hnn:∀a∈l,0≤a.1∧0≤a.2:=fun a ha=>by
   obtain ⟨y,hy,rfl⟩:=hLs.mem a ha;have:=hr0 y hy;unfold unT;split
   ·exact ⟨(by decide:(0:Int)≤5),this.2⟩
   ·exact this
  obtain ⟨wb,wc,hwe⟩:=hG.slice;have bldW:∀q:AS,Zaz Tryz.prog q 25 1 [(0,w)]=some (slc q.next 1 1,q.new ⟨1,44,0,[w],[]⟩):=fun q=>by rw [hwe];exact ZlO
  have hG2:GRow s w (Zbr (natR l)):=by rw [Zg5 hnn];exact hG
  have hRw:=Zlt hG2;have Q3:=Q2.ext e3;have R3:=R2.ext e3;have A3:=AT.ext e3;have hout3:=hout.ext RRw.kept e3;have lov:Zat Tryz.prog s 25 (.pointer (some ⟨qx,0,none⟩))=some ov:=Zaw Tryz.underlying25 rfl (Q3.cell (i:=0) rfl);have e16:=Ext.new s ⟨1,44,0,[w],[]⟩;have hout16:=hout3.ext RRw.kept e16;obtain ⟨v17,s17,p1,p2,p3,p4,p5,p6⟩:=hout16.push (P:=Tryz.prog) (T:=25) elRs RRw.kept (by rw [←hnx];exact (E3.trans e16).nxt) (x:=natR l) (y:=slc s.next 1 1) (new:=[w])
   (ZbV (Zaq (BxAt.new s 44 [w]).get rfl (zA _))) rfl (by rw [hwe];rfl) (RRw.kept.ext e16 hRw) (by omega)
  have bx17:∀{t b:Nat} {cs:List Value},BxAt s t b cs→BxAt s17 t b cs:=fun {t b cs} hb=>⟨zC (hb.ext e16).lt p3,(p4 b (hb.ext e16).lt fun h=>by
   have h1:=(hout16.own h).2.2.1;rw [(hb.ext e16).get] at h1;exact absurd (show (1:Nat)=2 from h1) (by decide)).trans (hb.ext e16).get⟩
  have Q17:=bx17 Q3;have R17:=bx17 R3;have A17:BxAt s17 27 xb [.slice (some ⟨b0,off0,none⟩) L.length sc]:=bx17 ⟨A3.lt,A3.get⟩;have E17:Ext σ s17:=Zbt (E3.trans e16) p3 p4 (by rw [hnx];exact p5) fun q ho=>by rw [hnx];exact (hout16.own ho).1
  obtain ⟨va,vc,hve2⟩:=p2.len;have hso:=ZiV (p:=va) (n:=(LN++[natR l]).length) (c:=vc) Q17.get;rw [←hve2] at hso;have hbo:∀{t b:Nat} {cs:List Value},BxAt s17 t b cs→b≠qx→BxAt (s17.put qx ⟨1,27,0,[v17],[]⟩) t b cs:=fun {t b cs} hb hne=>⟨hb.lt,by rw [AS.get_put,if_neg (fun e=>hne e.symm)];exact hb.get⟩
  refine Zao ?_;repeat apply Zaa
  apply Zad;intro _;simp +decide only [zq,↓Zab,↓reduceIte,aOp,Zan,Zac,Zag,ZaE,Zar,aevs,ZaN,unn,Zaf,h3,h5,fldL,lov,bldW,p1,hso];rfl;have E18:Ext σ (s17.put qx ⟨1,27,0,[v17],[]⟩):=Ext.put E17 (by rw [hnx];omega) _
  have hne:∀q,(s17.get q).kind=2→(s17.put qx ⟨1,27,0,[v17],[]⟩).get q=s17.get q:=fun q hq=>by
   rw [AS.get_put,if_neg];rintro rfl;rw [Q17.get] at hq;exact absurd (show (1:Nat)=2 from hq) (by decide)
  have hout18:LV 44 1 (RRw 0) xb (s17.put qx ⟨1,27,0,[v17],[]⟩) v17 (LN++[natR l]):=by
   obtain ⟨cs,k1,k2⟩:=p2;refine ⟨cs,k1.keep (zA _) fun q ho _=>hne q (k1.own ho).2.2.1,fun q x hq=>?_⟩;obtain ⟨v,g1,g2,g3⟩:=k2 q x hq;exact ⟨v,g1,g2.keep (zA _) fun q hq _=>hne q (g3 q hq).2.2.1,fun q hq=>⟨(g3 q hq).1,(g3 q hq).2.1,by rw [hne q (g3 q hq).2.2.1];exact (g3 q hq).2.2⟩⟩
  have A18:=hbo A17 (by omega)
  refine Zap ⟨fun _=>?_,fun h=>absurd rfl h⟩;refine Zao ?_;repeat apply Zaa
  apply Zad;intro _;simp +decide only [zq,↓Zab,↓reduceIte,aOp,Zah,h4,U.addI,w4];rfl;refine Zap ⟨fun _=>⟨i+1,by omega,hlt,E18,⟨A18.lt,A18.get,hs.ext RRow.keeps E18⟩,hbo R17 (by omega),⟨v17,LN++[natR l],⟨Q17.lt,by rw [AS.get_put,if_pos rfl]⟩,hout18,by rw [zS,hlen];rfl,fun k row' l' hk hl'=>?_⟩,?_,?_,?_,?_⟩,fun h=>(nomatch h),fun h=>absurd rfl h⟩
  ·by_cases hkl:k<LN.length
   ·rw [zN hkl] at hl';exact hLst k row' l' hk hl'
   ·have hk2:=(zE.1 hl').1;rw [zS] at hk2;have hki:k=i:=by simp at hk2;omega
    subst hki;rw [zO (by omega),hlen,Nat.sub_self] at hl'
    simp at hl';rw [hrow] at hk;cases hk;rw [←hl',Zg5 hnn];exact hLs
  all_goals simp +decide only [zq,h1,h2,h3]
 rintro j r σ4 ⟨hj,⟨e4,⟨w,l,h5,hG,hLs⟩,h1,h2,h3,h4⟩,h6⟩;have w6:IntKind.i64.wrap ((j:Int)+1)=((j+1:Nat):Int):=by rw [Zas _ (by omega) (by omega)];omega
 have A4:=AT.ext e4;have ixr:=Zia (b:=b0) (off:=off0) (cap:=sc) hlt;have lrow:=hrld _ e4;by_cases hlj:j<row.length;rotate_left
 ·have d1:decide ((j:Int)<(row.length:Int))=false:=zI (by omega)
  have hj2:j=row.length:=by omega
  subst hj2;repeat apply Zaa
  apply Zad;intro _;simp +decide only [zq,↓Zab,↓reduceIte,aOp,Zah,Zan,Zae,Zac,Zag,aevs,Zaf,h1,h4,h6,fldL,A4.out,ixr,lrow,Tryz.underlying44,goInt,aLen,U.lssI,d1];rfl;repeat apply Zaa
  refine ZaC (by simp +decide only [zq]) ?_
  refine ZaA ⟨fun h=>(nomatch h),fun _=>⟨e4,⟨w,l,?_,hG,hLs⟩,?_,?_,?_,?_⟩,fun h1 h2=>absurd rfl h2⟩<;>simp +decide only [zq,h1,h2,h3,h4,h5]
 have d1:decide ((j:Int)<(row.length:Int))=true:=zM (by omega)
 repeat apply Zaa
 apply Zad;intro _;simp +decide only [zq,↓Zab,↓reduceIte,aOp,Zah,Zan,Zae,Zac,Zag,aevs,Zaf,h1,h4,h6,fldL,A4.out,ixr,lrow,Tryz.underlying44,goInt,aLen,U.lssI,d1];rfl;repeat apply Zaa
 refine ZaQ (by simp +decide only [zq]) ?_
 apply Zak;refine ZaM ?_;obtain ⟨a,ha⟩:∃a,row[j]?=some a:=⟨row[j],by simp [hlj]⟩
 obtain ⟨-,b1,off1,rfl,-,hat⟩:=Zfm hrv ha;have htk:row.take (j+1)=row.take j++[a]:=by rw [zT,ha];rfl
 repeat apply Zaa
 apply Zad;intro _;simp +decide only [zq,↓Zab,↓reduceIte,aOp,Zae,Zac,Zag,ZaE,unn,h1,h4,h6,fldL,A4.out,ixr,lrow,Zfh hlj,(hat _ e4).1,Zgp,Zf6];rfl;have AY:=decl_at σ4 a;have ed:=decl_ext σ4 a;generalize hab:σ4.next=ab at AY;generalize decl σ4 a=σ5 at AY ed;have lev:=AY.ev;repeat apply Zaa
 repeat apply Zaa
 apply Zad;intro _;simp +decide only [zq,↓Zab,↓reduceIte,aOp,Zah,Zac,Zag,fld0,lev,U.eqII];rfl;repeat apply Zaa
 refine Zk1 (b:=a.1 == 1) (fun r s=>Ext σ4 s∧ArcAt s ab (unT a)∧rget r 5=w∧rget r 1=.pointer (some ⟨xb,0,none⟩)∧rget r 2=.pointer (some ⟨rx,0,none⟩)∧rget r 3=.pointer (some ⟨qx,0,none⟩)∧rget r 4=.int .i64 (i:Int)∧rget r 6=.int .i64 (j:Int)∧rget r 7=.pointer (some ⟨ab,0,none⟩)) ?_ (fun hb=>?_) (fun hb=>?_) ?_
 ·simp +decide only [zq]
 ·have hu:unT a=(5,a.2):=by unfold unT;rw [if_pos (by simpa using hb)]
  rw [hu];have hsc:=Zft (i:=0) (x:=5) AY.get (show 0<2 by decide)
  refine Zao ?_;repeat apply Zaa
  apply Zad;intro _;simp +decide only [zq,↓Zab,↓reduceIte,aOp,Zac,ZaE,unn,fld0,hsc];rfl;refine Zap ⟨rfl,Ext.put ed (by omega) _,⟨AY.lt,(AS.get_put _ _ _ _).trans (if_pos rfl)⟩,?_,?_,?_,?_,?_,?_,?_⟩<;>simp +decide only [zq,h1,h2,h3,h4,h5,h6]
 ·have hu:unT a=a:=by unfold unT;rw [if_neg (by simpa using hb)]
  rw [hu];refine Zap ⟨rfl,ed,AY,?_,?_,?_,?_,?_,?_,?_⟩<;>simp +decide only [zq,h1,h2,h3,h4,h5,h6]
 clear h1 h2 h3 h4 h5 h6 AY ed lev;rintro r σ5 ⟨e5,AY,h5,h1,h2,h3,h4,h6,h7⟩;have hG5:=hG.ext e5;have lda:=AY.load;refine Zao ?_;repeat apply Zaa
 apply ZaF;apply Zay 2;intro _;simp +decide only [zq,List.take,↓Zab,↓reduceIte,aOp,Zag,h5,h7,lda];rfl;dsimp only [List.drop];refine ZaV (vs:=[w,vArc (unT a)]) (by simp +decide only [zq,aevs]) (by decide) (C.mono (insert (X:=[]) (a:=unT a) hG5 (by have:=hLs.len;rw [zX] at this;omega) (fun _ h=>(nomatch h))) ?_)
 rintro v' s ⟨e6,l',hG6,hl6,hm6,hin,hasc,hkeep⟩;apply ZaG;intro _;simp +decide only [zq,↓Zab,↓reduceIte,aOp];rfl;have E6:=e4.trans (e5.trans e6);refine Zap ⟨fun _=>?_,fun h=>absurd rfl h⟩;refine Zao ?_;repeat apply Zaa
 apply Zad;intro _;simp +decide only [zq,↓Zab,↓reduceIte,aOp,Zah,h6,U.addI,w6];rfl;refine Zap ⟨fun _=>⟨j+1,by omega,hlj,⟨E6,⟨v',l',?_,hG6,⟨hasc hLs.asc,fun x hx=>?_,?_⟩⟩,?_,?_,?_,?_⟩,?_⟩,fun h=>(nomatch h),fun h=>absurd rfl h⟩
 rotate_left
 ·rw [htk];rcases hm6 x hx with rfl|h
  ·exact ⟨a,by simp,rfl⟩
  ·obtain ⟨y,hy,e⟩:=hLs.mem x h;exact ⟨y,zR.2 (.inl hy),e⟩
 ·have:=hLs.len;rw [htk,zS];simp only [List.length_singleton];omega
 all_goals simp +decide only [zq,h1,h2,h3,h4]
open Abs
theorem BxAt.push {σ s:AS} {t b:Nat} {cs:List Value} {v:Value} (h:BxAt σ t b cs) (hn:σ.next≤s.next) (hg:∀i,i<σ.next→¬Own v i→s.get i=σ.get i) (hk:∀i,Own v i→(σ.get i).kind=2):BxAt s t b cs:=
 ⟨zC h.lt hn,(hg b h.lt fun h2=>by have h1:=hk b h2;rw [h.get] at h1;exact absurd (show (1:Nat)=2 from h1) (by decide)).trans h.get⟩
theorem BxAt.putN {σ:AS} {t b m:Nat} {cs:List Value} {B:Blk} (h:BxAt σ t b cs) (hne:b≠m):BxAt (σ.put m B) t b cs:=⟨h.lt,by rw [AS.get_put,if_neg (fun e=>hne e.symm)];exact h.get⟩
theorem BxAt.ne {σ:AS} {t t' b b':Nat} {cs cs':List Value} (h:BxAt σ t b cs) (h':BxAt σ t' b' cs') (ht:t≠t'):b≠b':=by
 rintro rfl;have h1:=h.get;rw [h'.get] at h1;exact ht (congrArg Blk.elem h1).symm
def evK (L:Lts) (k:Nat):List Int:=((List.range k).filter fun e=>L.any fun row=>row.any fun a=>decide (a.1=((e:Nat):Int))).map fun e=>((e:Nat):Int)
theorem ZmW (L:Lts) (k:Nat):evK L (k+1)=if (L.any fun row=>row.any fun a=>decide (a.1=(k:Int)))=true then evK L k++[(k:Int)] else evK L k:=by
 unfold evK;rw [List.range_succ,List.filter_append,List.map_append];by_cases h:(L.any fun row=>row.any fun a=>decide (a.1=(k:Int)))=true
 ·rw [if_pos h,List.filter_cons,if_pos h];rfl
 ·rw [if_neg h,List.filter_cons,if_neg h];simp
theorem ZlA (L:Lts) (k:Nat):(evK L k).length≤k:=by
 unfold evK;rw [List.length_map];exact zB (List.length_filter_le _ _) (by simp)
def RRuL (σ:AS) (cs:List Value) (e:Int):Prop:=∃p,cs=[slc p 1 1,.int .i64 e,.int .i64 0]∧BxAt σ 3 p [.int .i64 e]
theorem RRuL.kept:Kept 69 RRuL:=fun σ s cs e h hn hg=>by
 obtain ⟨p,h1,h2⟩:=h;exact ⟨p,h1,zC h2.lt hn,(hg p h2.lt fun h3=>by rw [h2.get] at h3;exact absurd (show (1:Nat)=2 from h3.1) (by decide)).trans h2.get⟩
theorem Zlj {σ:AS} {lo m t:Nat} {v:Value} {l:List Int} {cs:List Value} {B:Blk} (h:LV 69 3 RRuL lo σ v l) (hm:BxAt σ t m cs) (ht:t≠3):LV 69 3 RRuL lo (σ.put m B) v l:=by
 obtain ⟨c,k1,k2⟩:=h;refine ⟨c,k1.keep (zA _) fun q ho _=>?_,fun q x hq=>?_⟩
 ·rw [AS.get_put,if_neg];rintro rfl;have h1:=(k1.own ho).2.2.1;rw [hm.get] at h1;exact absurd (show (1:Nat)=2 from h1) (by decide)
 ·obtain ⟨p,g1,g2⟩:=k2 q x hq;exact ⟨p,g1,g2.putN (g2.ne hm (fun e=>ht e.symm))⟩
theorem elRu:El Tryz.prog 64 69 3:=⟨Tryz.underlying64,⟨(Tryz.prog.info? 69).get!,(((Tryz.prog.info? 69).get!).zero).get!,by kernel_rfl,by kernel_rfl,zD (by kernel_rfl),by kernel_rfl,by kernel_rfl,by kernel_rfl⟩,by decide⟩
theorem elFo:El Tryz.prog 33 66 3:=⟨Tryz.underlying33,⟨(Tryz.prog.info? 66).get!,(((Tryz.prog.info? 66).get!).zero).get!,by kernel_rfl,by kernel_rfl,zD (by kernel_rfl),by kernel_rfl,by kernel_rfl,by kernel_rfl⟩,by decide⟩
theorem bldCo {a:Option Addr} {n c:Nat}:Zdb Tryz.prog 61 [(0,.agg #[.slice a n c])]=some (.agg #[.slice a n c,.slice none 0 0]):=by kernel_rfl
theorem bldCos {σ:AS} {a:Option Addr} {n c:Nat}:Zaz Tryz.prog σ 32 1 [(0,.agg #[.slice a n c,.slice none 0 0])]=some (slc σ.next 1 1,σ.new ⟨1,61,0,[.slice a n c,.slice none 0 0],[]⟩):=by kernel_rfl
theorem bldMa {b:Nat}:Zdb Tryz.prog 35 [(0,slc b 1 1)]=some (.agg #[slc b 1 1,.slice none 0 0]):=by kernel_rfl
theorem ZlZ {σ:AS}:Zcl Tryz.prog σ 35=some (.pointer (some ⟨σ.next,0,none⟩),σ.new ⟨1,35,0,[.slice none 0 0,.slice none 0 0],[]⟩):=by kernel_rfl
theorem Zk6 {σ:AS} {b:Nat} {x y:Value} {a a':Option Addr} {n c n' c':Nat} (h:σ.get b=⟨1,35,0,[x,y],[]⟩):ZaK Tryz.prog σ 35 (.agg #[.slice a n c,.slice a' n' c']) (.pointer (some ⟨b,0,none⟩))=some (σ.put b ⟨1,35,0,[.slice a n c,.slice a' n' c'],[]⟩):=by
 obtain ⟨inf,hi2,hs⟩:∃inf,Tryz.prog.info? 35=some inf∧inf.size=2:=⟨(Tryz.prog.info? 35).get!,by kernel_rfl,by kernel_rfl⟩
 have hz:Nat.beq (Value.agg #[.slice a n c,.slice a' n' c']).cells.size 2=true:=rfl;have hc:(Value.agg #[.slice a n c,.slice a' n' c']).cells.toList=[.slice a n c,.slice a' n' c']:=rfl;unfold ZaK;simp only [hi2,hs,hz,if_true,hc];unfold Zbc;simp only [h,ZaJ,List.length_cons,List.length_nil,Nat.zero_add];rfl
theorem bldBs {σ:AS}:Zaz Tryz.prog σ 62 1 [(0,.bool true)]=some (slc σ.next 1 1,σ.new ⟨1,4,0,[.bool true],[]⟩):=by kernel_rfl
theorem bldFo {b:Nat}:Zdb Tryz.prog 66 [(1,slc b 1 1)]=some (.agg #[.string ⟨#[]⟩,slc b 1 1,.slice none 0 0]):=by kernel_rfl
theorem bldRu {b:Nat} {e:Int}:Zdb Tryz.prog 69 [(0,slc b 1 1),(1,.int .i64 e)]=some (.agg #[slc b 1 1,.int .i64 e,.int .i64 0]):=by kernel_rfl
theorem bldRus {σ:AS} {b:Nat} {e:Int}:Zaz Tryz.prog σ 64 1 [(0,.agg #[slc b 1 1,.int .i64 e,.int .i64 0])]=some (slc σ.next 1 1,σ.new ⟨1,69,0,[slc b 1 1,.int .i64 e,.int .i64 0],[]⟩):=by kernel_rfl
theorem bldFos {σ:AS} {b n c:Nat} {a:Option Addr}:Zaz Tryz.prog σ 33 1 [(0,.agg #[.string ⟨#[]⟩,slc b 1 1,.slice a n c])]=some (slc σ.next 1 1,σ.new ⟨1,66,0,[.string ⟨#[]⟩,slc b 1 1,.slice a n c],[]⟩):=by kernel_rfl
theorem Zrb {σ:AS} {x:Int}:Zaz Tryz.prog σ 22 1 [(0,.int .i64 x)]=some (slc σ.next 1 1,σ.new ⟨1,3,0,[.int .i64 x],[]⟩):=by kernel_rfl
theorem Zn0 {σ:AS} {b t T i:Nat} {vals:List Value} {a:Option Addr} {n c:Nat} (h:σ.get b=⟨1,t,0,vals,[]⟩) (hi:i<vals.length) (ht:∃inf,Tryz.prog.info? T=some inf∧inf.size=1) :
  ZaK Tryz.prog σ T (.slice a n c) (.pointer (some ⟨b,i,none⟩))=some (σ.put b ⟨1,t,0,vals.set i (.slice a n c),[]⟩):=by
 obtain ⟨inf,hi2,hs⟩:=ht;have hz:Nat.beq (Value.slice a n c).cells.size 1=true:=rfl;have hc:(Value.slice a n c).cells.toList=[.slice a n c]:=rfl;unfold ZaK;simp only [hi2,hs,hz,if_true,hc];unfold Zbc;simp only [h,ZaJ,List.length_cons,List.length_nil,Nat.zero_add];rw [ZbF (show i+1≤vals.length by omega),ZaP,Zbe]
 rfl
theorem szRus:∃inf,Tryz.prog.info? 64=some inf∧inf.size=1:=⟨(Tryz.prog.info? 64).get!,by kernel_rfl,by kernel_rfl⟩
theorem szFos:∃inf,Tryz.prog.info? 33=some inf∧inf.size=1:=⟨(Tryz.prog.info? 33).get!,by kernel_rfl,by kernel_rfl⟩
structure WM (s:Value) (L:Lts) (lo xb rx mb bc ba fb:Nat) (k:Nat) (σ:AS) (rv:Value):Prop where
 A:BxAt σ 27 xb [s]
 rd:RS 1 RRow σ s L
 R:BxAt σ 35 rx [.slice none 0 0,.slice none 0 0]
 M:BxAt σ 35 mb [slc bc 1 1,.slice none 0 0]
 C:BxAt σ 61 bc [s,.slice none 0 0]
 B:BxAt σ 4 ba [.bool true]
 F:BxAt σ 66 fb [.string ⟨#[]⟩,slc ba 1 1,rv]
 rules:LV 69 3 RRuL lo σ rv (evK L k)
theorem WM.ext {s rv:Value} {L:Lts} {lo xb rx mb bc ba fb k:Nat} {σ σ':AS} (h:WM s L lo xb rx mb bc ba fb k σ rv) (e:Ext σ σ'):WM s L lo xb rx mb bc ba fb k σ' rv:=
 ⟨h.A.ext e,h.rd.ext RRow.keeps e,h.R.ext e,h.M.ext e,h.C.ext e,h.B.ext e,h.F.ext e,h.rules.ext RRuL.kept e⟩
def RFo (ba:Nat) (rv:Value) (_:AS) (cs:List Value) (_:Unit):Prop:=cs=[.string ⟨#[]⟩,slc ba 1 1,rv]
theorem RFo.kept {ba:Nat} {rv:Value}:Kept 66 (RFo ba rv):=fun _ _ _ _ h _ _=>h
theorem ZpF {lo:Nat} {σ:AS} {v:Value} {l:List Int} (h:LV 69 3 RRuL lo σ v l):RS 3 RRule σ v l:=by
 obtain ⟨a,c,hv⟩:=h.len;refine ⟨a,c,hv,fun hl=>?_⟩;obtain ⟨x,hx⟩:∃x,l[0]?=some x:=by
  cases l with
  | nil=>exact absurd rfl hl
  | cons x l=>exact ⟨x,rfl⟩
 obtain ⟨b,c1,cs,q1,-,q2,-,-⟩:=h.at hx;rw [hv] at q1;cases q1;refine ⟨b,0,rfl,q2,fun i y hy=>?_⟩;obtain ⟨b',c',cs',q3,-,-,q5,p,q6,q7⟩:=h.at hy;rw [hv] at q3;cases q3;exact ⟨cs',q5,p,1,q6,q7.lt,Zaq q7.get rfl (by simp)⟩
theorem fo_one {lo ba:Nat} {σ:AS} {rv v:Value} (h:LV 66 3 (RFo ba rv) lo σ v [()]):∃b c,v=slc b 1 c∧lo≤b∧b<σ.next∧Zav σ ⟨b,0,none⟩ 3=some [.string ⟨#[]⟩,slc ba 1 1,rv]:=by
 obtain ⟨b,c,cs,h1,h2,h3,h4,h5⟩:=h.at (i:=0) (x:=()) rfl;refine ⟨b,c,h1,h2,h3,?_⟩;rw [h4,show cs=[.string ⟨#[]⟩,slc ba 1 1,rv] from h5]
theorem wrap_c {σ:AS} {s:Value} {L:Lts} (hs:RS 1 RRow σ s L) (hN:L.length≤100) (hl:∀row∈L,row.length≤100) (hnt:∀row∈L,∀a∈row,a.1≠1) :
  C Tryz.prog Kn 0 8 [.agg #[s]] σ fun v σ'=>(∃d:MD,v=d.val∧d.lv=s∧Mach σ' d L (evK L 1026))∧Ext σ σ':=by
 obtain ⟨sb,sc,rfl,-⟩:=id hs;refine C_of (kn (by decide)) Tryz.func8 rfl (zD rfl) ?_
 show W _ _ _ 61 _ _ _ _;unfold Tryz.f8;dsimp only;repeat apply Zaa
 apply Zad;intro _;simp +decide only [zq,ZaI,↓Zab,↓reduceIte,aOp,Zbm,aRow,ZlZ];rfl;have e1:Ext σ ((σ.new ⟨1,27,0,(Value.agg #[.slice sb L.length sc]).cells.toList,[]⟩).new ⟨1,35,0,[.slice none 0 0,.slice none 0 0],[]⟩):=(Ext.new _ _).trans (Ext.new _ _);have A1:BxAt ((σ.new ⟨1,27,0,(Value.agg #[.slice sb L.length sc]).cells.toList,[]⟩).new ⟨1,35,0,[.slice none 0 0,.slice none 0 0],[]⟩) 27 σ.next [.slice sb L.length sc]:=(BxAt.new σ _ _).ext (Ext.new _ _);have R1:=BxAt.new (σ.new ⟨1,27,0,(Value.agg #[.slice sb L.length sc]).cells.toList,[]⟩) 35 [.slice none 0 0,.slice none 0 0];have hrl:σ.next≤(σ.new ⟨1,27,0,(Value.agg #[.slice sb L.length sc]).cells.toList,[]⟩).next:=Nat.le_succ _;generalize hrx:(σ.new ⟨1,27,0,(Value.agg #[.slice sb L.length sc]).cells.toList,[]⟩).next=rx at R1 hrl;generalize hnx:σ.next=xb at A1 hrl;generalize (σ.new ⟨1,27,0,(Value.agg #[.slice sb L.length sc]).cells.toList,[]⟩).new ⟨1,35,0,[.slice none 0 0,.slice none 0 0],[]⟩=σ1 at e1 A1 R1;have la:Zat Tryz.prog σ1 27 (.pointer (some ⟨xb,0,none⟩))=some (.agg #[.slice sb L.length sc]):=ZbK Tryz.underlying27 rfl (i:=(Tryz.prog.info? 27).get!) (by kernel_rfl) (by rw [show ((Tryz.prog.info? 27).get!).size=1 by kernel_rfl];exact Zaq A1.get rfl (by simp))
 have sm:∀q:AS,ZaK Tryz.prog (q.new ⟨1,35,0,[.slice none 0 0,.slice none 0 0],[]⟩) 35 (.agg #[slc σ1.next 1 1,.slice none 0 0]) (.pointer (some ⟨q.next,0,none⟩))=some ((q.new ⟨1,35,0,[.slice none 0 0,.slice none 0 0],[]⟩).put q.next ⟨1,35,0,[slc σ1.next 1 1,.slice none 0 0],[]⟩):=fun q=>Zk6 (by rw [AS.get_new,if_pos rfl])
 repeat apply Zaa
 apply Zad;intro _;simp +decide only [zq,↓Zab,↓reduceIte,aOp,Zag,ZaE,Zar,Zbl,ZaN,unn,la,bldCo,bldCos,bldMa,ZlZ,sm];rfl;have e2:=Ext.new σ1 ⟨1,61,0,[.slice sb L.length sc,.slice none 0 0],[]⟩;have C2:=BxAt.new σ1 61 [.slice sb L.length sc,.slice none 0 0];have A2:=A1.ext e2;have R2:=R1.ext e2;generalize hbc:σ1.next=bc at C2 ⊢;have e2:=e1.trans e2;generalize σ1.new ⟨1,61,0,[.slice sb L.length sc,.slice none 0 0],[]⟩=σ2 at e2 C2 A2 R2;have e3:Ext σ2 ((σ2.new ⟨1,35,0,[.slice none 0 0,.slice none 0 0],[]⟩).put σ2.next ⟨1,35,0,[slc bc 1 1,.slice none 0 0],[]⟩):=Ext.put (Ext.new _ _) (zA _) _;have M3:BxAt ((σ2.new ⟨1,35,0,[.slice none 0 0,.slice none 0 0],[]⟩).put σ2.next ⟨1,35,0,[slc bc 1 1,.slice none 0 0],[]⟩) 35 σ2.next [slc bc 1 1,.slice none 0 0]:=⟨zG _,by rw [AS.get_put,if_pos rfl]⟩
 have hrm:rx<σ2.next:=R2.lt;have C3:=C2.ext e3;have A3:=A2.ext e3;have R3:=R2.ext e3;have hml:σ.next≤σ2.next:=e2.nxt;have e3:=e2.trans e3;generalize (σ2.new ⟨1,35,0,[.slice none 0 0,.slice none 0 0],[]⟩).put σ2.next ⟨1,35,0,[slc bc 1 1,.slice none 0 0],[]⟩=σ3 at e3 M3 C3 A3 R3;generalize hmb:σ2.next=mb at M3 hrm hml;have sf:ZaK Tryz.prog ((σ3.new ⟨1,4,0,[.bool true],[]⟩).new ⟨1,66,0,[.string ⟨#[]⟩,.slice none 0 0,.slice none 0 0],[]⟩) 66 (.agg #[.string ⟨#[]⟩,slc σ3.next 1 1,.slice none 0 0]) (.pointer (some ⟨(σ3.new ⟨1,4,0,[.bool true],[]⟩).next,0,none⟩))=some (dcl (σ3.new ⟨1,4,0,[.bool true],[]⟩) 66 [.string ⟨#[]⟩,.slice none 0 0,.slice none 0 0] [.string ⟨#[]⟩,slc σ3.next 1 1,.slice none 0 0]):=Zn1;repeat apply Zaa
 apply Zad;intro _;simp +decide only [zq,↓Zab,↓reduceIte,aOp,ZaE,Zar,Zbl,ZaN,unn,bldBs,bldFo,Zph,sf];rfl;have e4:=Ext.new σ3 ⟨1,4,0,[.bool true],[]⟩;have B4:=BxAt.new σ3 4 [.bool true];have A4:=A3.ext e4;have R4:=R3.ext e4;have M4:=M3.ext e4;have C4:=C3.ext e4;generalize hba:σ3.next=ba at B4 ⊢;have e4:=e3.trans e4;generalize σ3.new ⟨1,4,0,[.bool true],[]⟩=σ4 at e4 B4 A4 R4 M4 C4;have e5:=Zcn σ4 66 [.string ⟨#[]⟩,.slice none 0 0,.slice none 0 0] [.string ⟨#[]⟩,slc ba 1 1,.slice none 0 0];have F5:=Zc9 σ4 66 [.string ⟨#[]⟩,.slice none 0 0,.slice none 0 0] [.string ⟨#[]⟩,slc ba 1 1,.slice none 0 0];have hfl:σ.next≤σ4.next:=e4.nxt;generalize hfb:σ4.next=fb at F5 hfl;have W5:WM (.slice sb L.length sc) L xb xb rx mb bc ba fb 0 (dcl σ4 66 [.string ⟨#[]⟩,.slice none 0 0,.slice none 0 0] [.string ⟨#[]⟩,slc ba 1 1,.slice none 0 0]) (.slice none 0 0):=
  ⟨A4.ext e5,hs.ext RRow.keeps (e4.trans e5),R4.ext e5,M4.ext e5,C4.ext e5,B4.ext e5,F5,LV.nil⟩
 have e5:=e4.trans e5;generalize dcl σ4 66 [.string ⟨#[]⟩,.slice none 0 0,.slice none 0 0] [.string ⟨#[]⟩,slc ba 1 1,.slice none 0 0]=σ5 at e5 W5;clear F5 A4 R4 M4 C4 B4 M3 C3 A3 R3 A2 R2 C2 A1 R1 la sm sf;repeat apply Zaa
 apply Zad;intro _;simp +decide only [zq,↓Zab,↓reduceIte,aOp];rfl;repeat apply Zaa
 apply Zad;intro _;simp +decide only [zq,↓Zab,↓reduceIte,aOp];rfl;repeat apply Zaa
 refine Zbs (fun (k:Nat) r q=>k≤1026∧Ext σ q∧(∃rv,WM (.slice sb L.length sc) L xb xb rx mb bc ba fb k q rv)∧(rget r 1=.pointer (some ⟨xb,0,none⟩)∧rget r 2=.pointer (some ⟨rx,0,none⟩)∧rget r 3=.pointer (some ⟨mb,0,none⟩)∧rget r 4=.pointer (some ⟨fb,0,none⟩)∧rget r 5=.bool false)∧rget r 6=.int .i64 (k:Int)) (fun k=>1026-k)
  (fun r q=>Ext σ q∧(∃rv,WM (.slice sb L.length sc) L xb xb rx mb bc ba fb 1026 q rv)∧(rget r 1=.pointer (some ⟨xb,0,none⟩)∧rget r 2=.pointer (some ⟨rx,0,none⟩)∧rget r 3=.pointer (some ⟨mb,0,none⟩)∧rget r 4=.pointer (some ⟨fb,0,none⟩)∧rget r 5=.bool false)) ?_ ?_ 0 ?_
 rotate_left 2
 ·refine ⟨zH _,e5,⟨_,W5⟩,⟨?_,?_,?_,?_,?_⟩,?_⟩<;>simp +decide only [zq]<;>first|exact True.intro|rfl
 rotate_left
 ·rintro r q ⟨E,⟨rv,W⟩,h1,h2,h3,h4,h5⟩;obtain ⟨ra,rc,hrv⟩:=W.rules.len;have lm:Zat Tryz.prog q 33 (.pointer (some ⟨mb,1,none⟩))=some (.slice none 0 0):=Zaw Tryz.underlying33 rfl (W.M.cell (i:=1) rfl);have lf:Zat Tryz.prog q 66 (.pointer (some ⟨fb,0,none⟩))=some (.agg #[.string ⟨#[]⟩,slc ba 1 1,rv]):=ZbK Tryz.underlying66 rfl (i:=(Tryz.prog.info? 66).get!) (by kernel_rfl) (by rw [show ((Tryz.prog.info? 66).get!).size=3 by kernel_rfl];exact Zaq W.F.get rfl (by simp))
  have bF:Zaz Tryz.prog q 33 1 [(0,.agg #[.string ⟨#[]⟩,slc ba 1 1,rv])]=some (slc q.next 1 1,q.new ⟨1,66,0,[.string ⟨#[]⟩,slc ba 1 1,rv],[]⟩):=by rw [hrv];exact bldFos
  have e6:=Ext.new q ⟨1,66,0,[.string ⟨#[]⟩,slc ba 1 1,rv],[]⟩;obtain ⟨v7,s7,p1,p2,p3,p4,p5,p6⟩:=(LV.nil (E:=66) (z:=3) (R:=RFo ba rv) (lo:=q.next) (σ:=q.new ⟨1,66,0,[.string ⟨#[]⟩,slc ba 1 1,rv],[]⟩)).push (P:=Tryz.prog) (T:=33) elFo RFo.kept (Nat.le_succ _) (x:=()) (y:=slc q.next 1 1) (new:=[.string ⟨#[]⟩,slc ba 1 1,rv])
   (ZbV (Zaq (BxAt.new q 66 [.string ⟨#[]⟩,slc ba 1 1,rv]).get rfl (zA _))) rfl (by rw [hrv];rfl) rfl (by decide)
  have e7:Ext q s7:=Zbt e6 p3 p4 p5 fun i h=>by obtain ⟨_,_,h⟩:=h;cases h
  obtain ⟨bf,cf,rfl,hbf,hbf2,hfc⟩:=fo_one p2;have W7:=W.ext e7;have s8:ZaK Tryz.prog s7 33 (slc bf 1 cf) (.pointer (some ⟨mb,1,none⟩))=some (s7.put mb ⟨1,35,0,[slc bc 1 1,slc bf 1 cf],[]⟩):=Zn0 W7.M.get (by simp) szFos
  repeat apply Zaa
  apply Zad;intro _;simp +decide only [zq,↓Zab,↓reduceIte,aOp,Zan,Zac,Zag,ZaE,Zar,aevs,ZaN,unn,Zaf,ZeV,h3,h4,lm,lf,bF,p1,s8];rfl;have M8:BxAt (s7.put mb ⟨1,35,0,[slc bc 1 1,slc bf 1 cf],[]⟩) 35 mb [slc bc 1 1,slc bf 1 cf]:=⟨W7.M.lt,by rw [AS.get_put,if_pos rfl]⟩
  have e8:Ext σ (s7.put mb ⟨1,35,0,[slc bc 1 1,slc bf 1 cf],[]⟩):=Ext.put (E.trans e7) hml _;have C8:=W7.C.putN (B:=⟨1,35,0,[slc bc 1 1,slc bf 1 cf],[]⟩) (W7.C.ne W7.M (by decide))
  have B8:=W7.B.putN (B:=⟨1,35,0,[slc bc 1 1,slc bf 1 cf],[]⟩) (W7.B.ne W7.M (by decide))
  have R8:=W7.R.putN (m:=mb) (B:=⟨1,35,0,[slc bc 1 1,slc bf 1 cf],[]⟩) (Nat.ne_of_lt hrm);have L8:=Zlj (B:=⟨1,35,0,[slc bc 1 1,slc bf 1 cf],[]⟩) W7.rules W7.M (by decide)
  have hbm:bf≠mb:=fun h=>absurd (zQ (h▸hbf) W.M.lt) (zU _);have f8:Zav (s7.put mb ⟨1,35,0,[slc bc 1 1,slc bf 1 cf],[]⟩) ⟨bf,0,none⟩ 3=some [.string ⟨#[]⟩,slc ba 1 1,rv]:=by
   rw [ZbL (σ:=s7) (a:=⟨bf,0,none⟩) (by rw [AS.get_put,if_neg (fun e=>hbm e.symm)])];exact hfc
  have n8:bf<(s7.put mb ⟨1,35,0,[slc bc 1 1,slc bf 1 cf],[]⟩).next:=hbf2;generalize s7.put mb ⟨1,35,0,[slc bc 1 1,slc bf 1 cf],[]⟩=s9 at M8 e8 C8 B8 R8 L8 f8 n8;repeat apply Zaa
  apply Zad;intro _;simp +decide only [zq,↓Zab,↓reduceIte,aOp,h5];rfl;repeat apply Zaa
  refine ZaC (by simp +decide only [zq]) ?_
  apply Zak;have l9:Zat Tryz.prog s9 35 (.pointer (some ⟨mb,0,none⟩))=some (.agg #[slc bc 1 1,slc bf 1 cf]):=ZbK Tryz.underlying35 rfl (i:=(Tryz.prog.info? 35).get!) (by kernel_rfl) (by rw [show ((Tryz.prog.info? 35).get!).size=2 by kernel_rfl];exact Zaq M8.get rfl (by simp))
  have s10:ZaK Tryz.prog s9 35 (.agg #[slc bc 1 1,slc bf 1 cf]) (.pointer (some ⟨rx,0,none⟩))=some (s9.put rx ⟨1,35,0,[slc bc 1 1,slc bf 1 cf],[]⟩):=Zk6 R8.get;repeat apply Zaa
  apply Zad;intro _;simp +decide only [zq,↓Zab,↓reduceIte,aOp,Zag,ZaE,unn,h2,h3,l9,s10];rfl;have lr:Zat Tryz.prog (s9.put rx ⟨1,35,0,[slc bc 1 1,slc bf 1 cf],[]⟩) 35 (.pointer (some ⟨rx,0,none⟩))=some (.agg #[slc bc 1 1,slc bf 1 cf]):=ZbK Tryz.underlying35 rfl (i:=(Tryz.prog.info? 35).get!) (by kernel_rfl) (by rw [show ((Tryz.prog.info? 35).get!).size=2 by kernel_rfl];exact Zaq (by rw [AS.get_put,if_pos rfl]) rfl (by simp))
  have hrx2:σ.next≤rx:=by rw [hnx];exact hrl
  have e10:Ext σ (s9.put rx ⟨1,35,0,[slc bc 1 1,slc bf 1 cf],[]⟩):=Ext.put e8 hrx2 _;have hbr:bf≠rx:=fun h=>absurd (zQ (h▸hbf) W.R.lt) (zU _);have C9:=C8.putN (B:=⟨1,35,0,[slc bc 1 1,slc bf 1 cf],[]⟩) (C8.ne R8 (by decide))
  have B9:=B8.putN (B:=⟨1,35,0,[slc bc 1 1,slc bf 1 cf],[]⟩) (B8.ne R8 (by decide))
  refine ZaL ⟨zA _,[.agg #[slc bc 1 1,slc bf 1 cf]],?_,⟨⟨bc,1,bf,cf,ba,1,.slice sb L.length sc,rv⟩,rfl,rfl,⟨C9.lt,Zaq C9.get rfl (by simp),n8,?_,B9.lt,Zaq B9.get rfl (by simp),hs.ext RRow.keeps e10,ZpF (Zlj L8 R8 (by decide))⟩⟩,e10⟩
  ·simp +decide only [zq,Zaj,h2,lr]
  ·rw [ZbL (σ:=s9) (a:=⟨bf,0,none⟩) (by rw [AS.get_put,if_neg (fun e=>hbr e.symm)])];exact f8
 rintro k r σ6 ⟨hk,E6,⟨rv,W6⟩,⟨h1,h2,h3,h4,h5⟩,h6⟩;have w6:IntKind.i64.wrap ((k:Int)+1)=((k+1:Nat):Int):=by rw [Zas _ (by omega) (by omega)];omega
 by_cases hlk:k<1026
 rotate_left
 ·have d1:decide ((k:Int)≤1025)=false:=zI (by omega)
  have hk2:k=1026:=by omega
  subst hk2;repeat apply Zaa
  apply Zad;intro _;simp +decide only [zq,↓Zab,↓reduceIte,aOp,Zah,h6,U.leqI];rfl;repeat apply Zaa
  refine ZaC (by simp +decide only [zq,decide_false]) ?_
  refine ZaA ⟨fun h=>(nomatch h),fun _=>⟨E6,⟨rv,W6⟩,?_,?_,?_,?_,?_⟩,fun h1 h2=>absurd rfl h2⟩<;>simp +decide only [zq,h1,h2,h3,h4,h5]
 have d1:decide ((k:Int)≤1025)=true:=zM (by omega)
 repeat apply Zaa
 apply Zad;intro _;simp +decide only [zq,↓Zab,↓reduceIte,aOp,Zah,h6,U.leqI,d1];rfl;repeat apply Zaa
 refine ZaQ (by simp +decide only [zq]) ?_
 apply Zak;refine ZaM ?_;repeat apply Zaa
 apply Zad;intro _;simp +decide only [zq,↓Zab,↓reduceIte,aOp];rfl;refine Zao ?_;repeat apply Zaa
 refine Zbs (fun (j:Nat) r q=>j≤L.length∧Ext σ6 q∧(∀row∈L.take j,(row.any fun a=>decide (a.1=(k:Int)))=false)∧(rget r 1=.pointer (some ⟨xb,0,none⟩)∧rget r 2=.pointer (some ⟨rx,0,none⟩)∧rget r 3=.pointer (some ⟨mb,0,none⟩)∧rget r 4=.pointer (some ⟨fb,0,none⟩)∧rget r 5=.bool false)∧rget r 6=.int .i64 (k:Int)∧rget r 7=.int .i64 (j:Int)) (fun j=>L.length-j) (fun r q=>Ext σ q∧(∃rv,WM (.slice sb L.length sc) L xb xb rx mb bc ba fb (k+1) q rv)∧(rget r 1=.pointer (some ⟨xb,0,none⟩)∧rget r 2=.pointer (some ⟨rx,0,none⟩)∧rget r 3=.pointer (some ⟨mb,0,none⟩)∧rget r 4=.pointer (some ⟨fb,0,none⟩)∧rget r 5=.bool false)∧rget r 6=.int .i64 (k:Int)) ?_ ?_ 0 ?_;rotate_left 2
 ·refine ⟨zH _,Ext.refl _,fun row h=>(nomatch h),⟨?_,?_,?_,?_,?_⟩,?_,?_⟩<;>simp +decide only [zq,h1,h2,h3,h4,h5,h6]<;>first|exact True.intro|rfl
 rotate_left
 ·rintro r q ⟨E7,W7,⟨h1,h2,h3,h4,h5⟩,h6⟩;refine Zap ⟨fun _=>?_,fun h=>absurd rfl h⟩;refine Zao ?_;repeat apply Zaa
  apply Zad;intro _;simp +decide only [zq,↓Zab,↓reduceIte,aOp,Zah,h6,U.addI,w6];rfl;refine Zap ⟨fun _=>⟨k+1,by omega,hlk,E7,W7,⟨?_,?_,?_,?_,?_⟩,?_⟩,fun h=>(nomatch h),fun h=>absurd rfl h⟩<;>simp +decide only [zq,h1,h2,h3,h4,h5,h6]
 rintro j r σ7 ⟨hj,e7,hno,⟨h1,h2,h3,h4,h5⟩,h6,h7⟩;have w7:IntKind.i64.wrap ((j:Int)+1)=((j+1:Nat):Int):=by rw [Zas _ (by omega) (by omega)];omega
 have W7:=W6.ext e7;have E7:=E6.trans e7;have la:Zat Tryz.prog σ7 25 (.pointer (some ⟨xb,0,none⟩))=some (.slice sb L.length sc):=Zaw Tryz.underlying25 rfl (W7.A.cell (i:=0) rfl);by_cases hlt:j<L.length;rotate_left
 ·have d1:decide ((j:Int)<(L.length:Int))=false:=zI (by omega)
  have hj2:j=L.length:=by omega
  rw [zJ (by omega)] at hno
  repeat apply Zaa
  apply Zad;intro _;simp +decide only [zq,↓Zab,↓reduceIte,aOp,Zah,Zan,Zac,Zag,aevs,Zaf,h1,h7,fldL,la,Tryz.underlying25,goInt,aLen,U.lssI,d1];rfl;repeat apply Zaa
  refine ZaC (by simp +decide only [zq]) ?_
  refine ZaA ⟨fun h=>(nomatch h),fun _=>⟨E7,⟨rv,?_⟩,⟨?_,?_,?_,?_,?_⟩,?_⟩,fun h1 h2=>absurd rfl h2⟩;rotate_left;all_goals try simp +decide only [zq,h1,h2,h3,h4,h5,h6]
  refine { W7 with rules:=?_ }
  rw [ZmW,if_neg (by rw [Bool.not_eq_true];exact List.any_eq_false.2 fun row hr=>by rw [hno row hr];decide)]
  exact W7.rules
 have d1:decide ((j:Int)<(L.length:Int))=true:=zM (by omega)
 obtain ⟨row,hrow⟩:∃row,L[j]?=some row:=⟨L[j],by simp [hlt]⟩
 have hrm2:=zF hrow;repeat apply Zaa
 apply Zad;intro _;simp +decide only [zq,↓Zab,↓reduceIte,aOp,Zah,Zan,Zac,Zag,aevs,Zaf,h1,h7,fldL,la,Tryz.underlying25,goInt,aLen,U.lssI,d1];rfl;repeat apply Zaa
 refine ZaQ (by simp +decide only [zq]) ?_
 apply Zak;refine ZaM ?_;obtain ⟨-,b0,off0,w,rfl,hb0,hrld,hrv⟩:=ZiZ hs hrow;have lrow:=hrld _ E7;have ixr:=Zia (b:=b0) (off:=off0) (cap:=sc) hlt;repeat apply Zaa
 apply ZaF;apply Zay 6;intro _;simp +decide only [zq,List.take,↓Zab,↓reduceIte,aOp,Zae,Zac,Zag,h1,h6,h7,fldL,la,ixr,lrow];rfl;dsimp only [List.drop];refine ZaV (vs:=[w,.int .i64 (k:Int)]) (by simp +decide only [zq,aevs]) (by decide) (C.mono (has_c (hrv.ext RArc.keeps E7) (by have:=hl row hrm2;omega)) ?_)
 rintro u s8 ⟨hu,e8⟩;subst hu;apply ZaG;intro _;simp +decide only [aOps];rfl;refine Zao ?_;by_cases hb:(row.any fun a=>decide (a.1=(k:Int)))=true;rotate_left
 ·have hb2:(row.any fun a=>decide (a.1=(k:Int)))=false:=by rw [←Bool.not_eq_true];exact hb
  repeat apply Zaa
  refine ZaC (by simp +decide only [zq,hb2]) ?_
  apply Zak;refine Zap ⟨fun _=>?_,fun h=>absurd rfl h⟩;refine Zao ?_;repeat apply Zaa
  apply Zad;intro _;simp +decide only [zq,↓Zab,↓reduceIte,aOp,Zah,h7,U.addI,w7];rfl;refine Zap ⟨fun _=>⟨j+1,by omega,hlt,e7.trans e8,fun x hx=>?_,⟨?_,?_,?_,?_,?_⟩,?_,?_⟩,fun h=>(nomatch h),fun h=>absurd rfl h⟩
  ·rw [zT,hrow] at hx;rcases zR.1 hx with hx|hx
   ·exact hno x hx
   ·simp at hx;rw [hx];exact hb2
  all_goals simp +decide only [zq,h1,h2,h3,h4,h5,h6]
 repeat apply Zaa
 refine ZaQ (by simp +decide only [zq,hb]) ?_
 obtain ⟨a,ha,hak⟩:=List.any_eq_true.1 hb;have hk1:(k:Int)≠1:=by rw [←of_decide_eq_true hak];exact hnt row hrm2 a ha
 have hk2:((k:Int) == 1)=false:=by rw [beq_eq_false_iff_ne];exact hk1
 have hall:(L.any fun row=>row.any fun a=>decide (a.1=(k:Int)))=true:=List.any_eq_true.2 ⟨row,hrm2,hb⟩;have W8:=W7.ext e8;have E8:=E7.trans e8;have hsr:ZaK Tryz.prog ((s8.new ⟨1,3,0,[.int .i64 (k:Int)],[]⟩).new ⟨1,69,0,[.slice none 0 0,.int .i64 0,.int .i64 0],[]⟩) 69 (.agg #[slc s8.next 1 1,.int .i64 (k:Int),.int .i64 0]) (.pointer (some ⟨(s8.new ⟨1,3,0,[.int .i64 (k:Int)],[]⟩).next,0,none⟩))=some (dcl (s8.new ⟨1,3,0,[.int .i64 (k:Int)],[]⟩) 69 [.slice none 0 0,.int .i64 0,.int .i64 0] [slc s8.next 1 1,.int .i64 (k:Int),.int .i64 0]):=ZiU;repeat apply Zaa
 apply Zad;intro _;simp +decide only [zq,↓Zab,↓reduceIte,aOp,ZaE,Zar,Zbl,ZaN,unn,h6,Zrb,bldRu,Zjo,hsr];rfl;have e9:=Ext.new s8 ⟨1,3,0,[.int .i64 (k:Int)],[]⟩;have P9:=BxAt.new s8 3 [.int .i64 (k:Int)];generalize hpb:s8.next=pb at P9 ⊢;generalize s8.new ⟨1,3,0,[.int .i64 (k:Int)],[]⟩=s9 at e9 P9;have e10:=Zcn s9 69 [.slice none 0 0,.int .i64 0,.int .i64 0] [slc pb 1 1,.int .i64 (k:Int),.int .i64 0];have U10:=Zc9 s9 69 [.slice none 0 0,.int .i64 0,.int .i64 0] [slc pb 1 1,.int .i64 (k:Int),.int .i64 0];have P10:=P9.ext e10;generalize hub:s9.next=ub at U10 ⊢;generalize dcl s9 69 [.slice none 0 0,.int .i64 0,.int .i64 0] [slc pb 1 1,.int .i64 (k:Int),.int .i64 0]=s10 at e10 U10 P10;have W10:=W8.ext (e9.trans e10);have E10:=E8.trans (e9.trans e10);repeat apply Zaa
 apply Zad;intro _;simp +decide only [zq,↓Zab,↓reduceIte,aOp,Zah,h6,U.eqII,hk2];rfl;repeat apply Zaa
 refine ZaC (by simp +decide only [zq]) ?_
 apply Zak;have lrv:Zat Tryz.prog s10 64 (.pointer (some ⟨fb,2,none⟩))=some rv:=Zaw Tryz.underlying64 rfl (W10.F.cell (i:=2) rfl);have lru:Zat Tryz.prog s10 69 (.pointer (some ⟨ub,0,none⟩))=some (.agg #[slc pb 1 1,.int .i64 (k:Int),.int .i64 0]):=ZbK Tryz.underlying69 rfl (i:=(Tryz.prog.info? 69).get!) (by kernel_rfl) (by rw [show ((Tryz.prog.info? 69).get!).size=3 by kernel_rfl];exact Zaq U10.get rfl (by simp))
 have e11:=Ext.new s10 ⟨1,69,0,[slc pb 1 1,.int .i64 (k:Int),.int .i64 0],[]⟩;have W11:=W10.ext e11;obtain ⟨v12,s12,p1,p2,p3,p4,p5,p6⟩:=W11.rules.push (P:=Tryz.prog) (T:=64) elRu RRuL.kept (by rw [←hnx];exact (E10.trans e11).nxt) (x:=(k:Int)) (y:=slc s10.next 1 1) (new:=[slc pb 1 1,.int .i64 (k:Int),.int .i64 0])
  (ZbV (Zaq (BxAt.new s10 69 [slc pb 1 1,.int .i64 (k:Int),.int .i64 0]).get rfl (zA _))) rfl rfl ⟨pb,rfl,P10.ext e11⟩ (by have:=ZlA L k;omega)
 have hown:∀i,Own rv i→((s10.new ⟨1,69,0,[slc pb 1 1,.int .i64 (k:Int),.int .i64 0],[]⟩).get i).kind=2:=fun i ho=>(W11.rules.own ho).2.2.1;have E12:Ext σ s12:=Zbt (E10.trans e11) p3 p4 (by rw [hnx];exact p5) fun q ho=>by rw [hnx];exact (W11.rules.own ho).1
 have A12:=W11.A.push p3 p4 hown;have R12:=W11.R.push p3 p4 hown;have M12:=W11.M.push p3 p4 hown;have C12:=W11.C.push p3 p4 hown;have B12:=W11.B.push p3 p4 hown;have F12:=W11.F.push p3 p4 hown;obtain ⟨va,vc,hve⟩:=p2.len;have hst:ZaK Tryz.prog s12 64 v12 (.pointer (some ⟨fb,2,none⟩))=some (s12.put fb ⟨1,66,0,[.string ⟨#[]⟩,slc ba 1 1,v12],[]⟩):=by rw [hve];exact Zn0 F12.get (by simp) szRus
 repeat apply Zaa
 apply Zad;intro _;simp +decide only [zq,↓Zab,↓reduceIte,aOp,Zan,Zac,Zag,ZaE,Zar,aevs,ZaN,unn,Zaf,ZiA,h4,lrv,lru,bldRus,p1,hst];rfl;have E13:Ext σ (s12.put fb ⟨1,66,0,[.string ⟨#[]⟩,slc ba 1 1,v12],[]⟩):=Ext.put E12 hfl _;have W13:WM (.slice (some ⟨b0,off0,none⟩) L.length sc) L xb xb rx mb bc ba fb (k+1) (s12.put fb ⟨1,66,0,[.string ⟨#[]⟩,slc ba 1 1,v12],[]⟩) v12:=by
  refine ⟨A12.putN (A12.ne F12 (by decide)),hs.ext RRow.keeps E13,R12.putN (R12.ne F12 (by decide)),M12.putN (M12.ne F12 (by decide)),C12.putN (C12.ne F12 (by decide)),B12.putN (B12.ne F12 (by decide)),⟨F12.lt,by rw [AS.get_put,if_pos rfl]⟩,?_⟩
  rw [ZmW,if_pos hall];exact Zlj p2 F12 (by decide)
 refine ZaA ⟨fun h=>h.elim (fun h=>(nomatch h)) (fun h=>(nomatch h)),fun _ _=>⟨fun h=>(nomatch h),fun _=>⟨E13,⟨v12,W13⟩,⟨?_,?_,?_,?_,?_⟩,?_⟩,fun h1 h2=>absurd rfl h2⟩⟩<;>simp +decide only [zq,h1,h2,h3,h4,h5,h6]
open Abs
theorem Zlb {f g:Nat→Value} {n t:Nat} {v:Value} (h1:g t=v) (h2:∀j,j<n→j≠t→g j=f j):((List.range n).map f).set t v=(List.range n).map g:=by
 apply List.ext_getElem?;intro j;rw [List.getElem?_set,List.getElem?_map,List.getElem?_map];by_cases hj:j<n
 ·rw [List.getElem?_range hj,List.length_map,List.length_range];by_cases e:t=j
  ·subst e;rw [if_pos rfl,if_pos hj];simp [h1]
  ·rw [if_neg e];simp [h2 j hj (fun h=>e h.symm)]
 ·rw [List.length_map,List.length_range];rw [zV (by simp;omega)]
  by_cases e:t=j
  ·subst e;rw [if_pos rfl,if_neg hj];rfl
  ·rw [if_neg e];rfl
def Zgj (n i:Nat):List Value:=(List.range n).map fun t=>.int .i64 (if t<i then -1 else 0)
theorem ZoT (n:Nat):List.replicate n (Value.int .i64 0)=Zgj n 0:=by
 unfold Zgj;apply List.ext_getElem?;intro j;rw [List.getElem?_map,List.getElem?_replicate];by_cases hj:j<n
 ·rw [List.getElem?_range hj,if_pos hj];rfl
 ·rw [if_neg hj,zV (by simp;omega)];rfl
theorem ZoU {n i:Nat}:(Zgj n i).set i (.int .i64 (-1))=Zgj n (i+1):=
 Zlb (by rw [if_pos (zG i)]) fun j _ hne=>by
  by_cases h:j<i
  ·rw [if_pos h,if_pos (by omega)]
  ·rw [if_neg h,if_neg (by omega)]
def numQ (olds:List Nat) (t:Nat):Int:=if t∈olds then (Can.num olds t:Int) else -1
def numV (n:Nat) (olds:List Nat):List Value:=(List.range n).map fun t=>.int .i64 (numQ olds t)
theorem Zqb {n:Nat}:(Zgj n n).set 0 (.int .i64 0)=numV n [0]:=
 Zlb (by unfold numQ;rw [if_pos (by simp)];rfl) fun j hj hne=>by
  unfold numQ;rw [if_neg (by simpa using hne),if_pos hj]
theorem Zrm {n t:Nat} {olds:List Nat} (h:t<n):(numV n olds)[t]?=some (.int .i64 (numQ olds t)):=by
 unfold numV;rw [List.getElem?_map,List.getElem?_range h];rfl
theorem ZpM {n:Nat} {olds:List Nat}:(numV n olds).length=n:=by unfold numV;rw [List.length_map,List.length_range]
theorem Zkq {n i:Nat}:(Zgj n i).length=n:=by unfold Zgj;rw [List.length_map,List.length_range]
theorem Zon {n t:Nat} {olds:List Nat} (h:t∉olds):(numV n olds).set t (.int .i64 (olds.length:Int))=numV n (olds++[t]):=by
 have h1:Can.num (olds++[t]) t=olds.length:=by
  unfold Can.num;rw [List.idxOf_append,if_neg h];simp
 refine Zlb ?_ fun j _ hne=>?_
 ·unfold numQ;rw [if_pos (by simp),h1]
 ·unfold numQ;by_cases hj:j∈olds
  ·rw [if_pos hj,if_pos (by simp [hj]),Can.num_pre (List.prefix_append _ _) hj]
  ·rw [if_neg hj,if_neg (by simp [hj,hne])]
theorem Zii {l:List Can.Arc} {j:Nat} {x:Can.Arc} (h:l[j]?=some x) (olds:List Nat):Can.meets olds (l.take (j+1))=Can.meet (Can.meets olds (l.take j)) x.2:=by
 have app:∀(a:List Can.Arc) (o:List Nat),Can.meets o (a++[x])=Can.meet (Can.meets o a) x.2:=by
  intro a
  induction a with
  | nil=>intro o;rfl
  | cons y a ih=>intro o;exact ih _
 rw [zT,h];exact app _ _
theorem Zpy {l:List Can.Arc} {j:Nat} {x:Can.Arc} (h:l[j]?=some x) (olds:List Nat):Can.ren (Can.meets olds (l.take (j+1))) (l.take (j+1))=Can.ren (Can.meets olds (l.take j)) (l.take j)++[(x.1,Can.num (Can.meets olds (l.take (j+1))) x.2)]:=by
 have h1:Can.ren (Can.meets olds (l.take (j+1))) (l.take j)=Can.ren (Can.meets olds (l.take j)) (l.take j):=by
  refine Can.Zoc ?_ fun a ha=>Can.mem_meets.2 (.inr ⟨a,ha,rfl⟩);rw [Zii h];exact Can.ZmI _ _
 rw [←h1];have h2:l.take (j+1)=l.take j++[x]:=by rw [zT,h];rfl
 conv=>lhs;arg 2;rw [h2]
 unfold Can.ren;rw [List.map_append];rfl
theorem mkInts {σ:AS} {N:Nat} (h:N≤1000000):ZbM Tryz.prog σ 22 (.int .i64 (N:Int)) (.int .i64 (N:Int))=some (slc σ.next N N,σ.new ⟨1,3,0,List.replicate N (.int .i64 0),[]⟩):=by
 obtain ⟨inf,h1,h2,h3,h4⟩:∃inf,Tryz.prog.info? 3=some inf∧inf.size=1∧inf.bytes=8∧inf.zero=some (.int .i64 0):=⟨(Tryz.prog.info? 3).get!,by kernel_rfl,by kernel_rfl,by kernel_rfl,by kernel_rfl⟩
 unfold ZbM;simp only [Tryz.underlying22,h1,h2,h3,h4];rw [if_pos ⟨by omega,by omega,by omega,by omega,rfl,by decide⟩]
 have e:((Array.range ((N:Int).toNat*1)).map fun i=>(Value.int .i64 0).cells[i % (Value.int .i64 0).cells.size]!).toList=List.replicate N (.int .i64 0):=by
  rw [Nat.mul_one];exact Zen (fun v:Value=>v) (.int .i64 0) (fun i=>(Value.int .i64 0).cells[i % (Value.int .i64 0).cells.size]!) (fun i=>by
   have:i % (Value.int .i64 0).cells.size=0:=Nat.mod_one i;rw [this];rfl) N
 rw [e];rfl
def cN (l:List Nat):List Value:=l.map fun n:Nat=>.int .i64 (n:Int)
theorem cN_at {l:List Nat} {i n:Nat} (h:l[i]?=some n):((cN l).drop (i*1)).take 1=[.int .i64 (n:Int)]:=by
 obtain ⟨h4,h5⟩:=zE.1 h;unfold cN;rw [Nat.mul_one,List.drop_eq_getElem_cons (by rw [List.length_map];exact h4),List.getElem_map,h5];rfl
def Sam (E:Nat) (σ s:AS):Prop:=σ.next≤s.next∧∀i,i<σ.next→(σ.get i).elem≠E→s.get i=σ.get i
section
variable {E t b lo lo' n xb rx qx nb:Nat} {σ0 σ σ' s:AS} {cs:List Value} {v w sv ov uv:Value} {l:List Arc} {LN outs:List (List Can.Arc)} {on olds:List Nat}
theorem BxAt.sam (h:BxAt σ t b cs) (c:Sam E σ s) (ht:t≠E):BxAt s t b cs:=⟨zC h.lt c.1,(c.2 b h.lt (by rw [h.get];exact ht)).trans h.get⟩
theorem GRow.sam (h:GRow σ v l) (c:Sam E σ s) (ht:(57:Nat)≠E):GRow s v l:=by
 refine h.imp_right fun ⟨h0,b,h1,h2,h3⟩=>⟨h0,b,h1,zC h2 c.1,(c.2 b h2 (by rw [h3];exact ht)).trans h3⟩
theorem RRw.sam {r:List Can.Arc} (h:RRw lo σ cs r) (c:Sam E σ s) (ht:(57:Nat)≠E):RRw lo s cs r:=by
 obtain ⟨v,h1,h2,h3⟩:=h;have e:∀i,U.In v i→s.get i=σ.get i:=fun i hi=>c.2 i (h3 i hi).2.1 (by rw [(h3 i hi).2.2.2];exact ht)
 exact ⟨v,h1,h2.keep c.1 fun i hi _=>e i hi,fun i hi=>⟨(h3 i hi).1,zC (h3 i hi).2.1 c.1,by rw [e i hi];exact (h3 i hi).2.2⟩⟩
theorem Zov (h:LV 44 1 (RRw lo') lo σ v LN) (c:Sam E σ s) (h1:(57:Nat)≠E) (h2:(44:Nat)≠E):LV 44 1 (RRw lo') lo s v LN:=by
 obtain ⟨cs,k1,k2⟩:=h;exact ⟨cs,k1.keep c.1 fun i ho hi=>c.2 i hi (by rw [(k1.own ho).2.2.2];exact h2),fun i x hx=>(k2 i x hx).sam c h1⟩
structure Cq (σ0:AS) (sv:Value) (n xb rx qx nb lo:Nat) (on olds:List Nat) (outs:List (List Can.Arc)) (σ:AS) (ov uv:Value):Prop where
 ext:Ext σ0 σ
 A:BxAt σ 27 xb [sv]
 R:BxAt σ 27 rx [.slice none 0 0]
 Q:BxAt σ 27 qx [uv]
 N:BxAt σ 3 nb (numV n on)
 old:StkC lo 3 1 σ ov olds.length (cN olds)
 out:LV 44 1 (RRw 0) lo σ uv outs
 n0:σ0.next≤nb
 nl:nb<lo
 ln:lo≤σ.next
 q0:σ0.next≤qx
 qa:qx≠xb
 qr:qx≠rx
theorem Cq.to (h:Cq σ0 sv n xb rx qx nb lo on olds outs σ ov uv) (e:Ext σ s):Cq σ0 sv n xb rx qx nb lo on olds outs s ov uv:=
 { h with ext:=h.ext.trans e,A:=h.A.ext e,R:=h.R.ext e,Q:=h.Q.ext e,N:=h.N.ext e,old:=h.old.keep e.nxt fun i _ hi=>e.get i hi,out:=h.out.ext RRw.kept e,ln:=zB h.ln e.nxt }
theorem Cq.oldAt (h:Cq σ0 sv n xb rx qx nb lo on olds outs σ ov uv) {i o:Nat} (hi:olds[i]?=some o):∃b c,ov=slc b olds.length c∧Zal Tryz.prog 22 ov (.int .i64 (i:Int))=some (.pointer (some ⟨b,i*1,none⟩))∧
  ∀s,Ext σ s→Zat Tryz.prog s 3 (.pointer (some ⟨b,i*1,none⟩))=some (.int .i64 (o:Int)):=by
 have hl:=(zE.1 hi).1;obtain ⟨b,c,rfl,hb,hc⟩:=h.old.at hl;refine ⟨b,c,rfl,by have:=idxI (b:=b) (cap:=c) hl;rwa [Nat.zero_add] at this,fun s e=>Zaw Tryz.underlying3 rfl ?_⟩
 rw [e.cells (a:=⟨b,i*1,none⟩) hb,hc,cN_at hi]
theorem Cq.numAt (h:Cq σ0 sv n xb rx qx nb lo on olds outs σ ov uv) {t:Nat} (ht:t<n):Zat Tryz.prog σ 3 (.pointer (some ⟨nb,t,none⟩))=some (.int .i64 (numQ on t)):=Zaw Tryz.underlying3 rfl (h.N.cell (Zrm ht))
theorem Cq.num (h:Cq σ0 sv n xb rx qx nb lo olds olds outs σ ov uv) {t:Nat} (ht:t<n) (hm:t∉olds):∃B,ZaK Tryz.prog σ 3 (.int .i64 (olds.length:Int)) (.pointer (some ⟨nb,t,none⟩))=some (σ.put nb B)∧Sam 3 σ (σ.put nb B)∧Cq σ0 sv n xb rx qx nb lo (olds++[t]) olds outs (σ.put nb B) ov uv:=by
 refine ⟨_,Zft h.N.get (by rw [ZpM];exact ht),?_⟩
 rw [Zon hm];have c:Sam 3 σ (σ.put nb ⟨1,3,0,numV n (olds++[t]),[]⟩):=⟨zA _,fun i hi he=>by
  rw [AS.get_put,if_neg];rintro rfl;exact he (by rw [h.N.get])⟩
 refine ⟨c,{ h with ext:=Ext.put h.ext h.n0 _,A:=h.A.sam c (by decide),R:=h.R.sam c (by decide),Q:=h.Q.sam c (by decide),N:=⟨h.N.lt,by rw [AS.get_put,if_pos rfl]⟩,old:=h.old.keep (zA _) fun i ho hi=>?_,out:=Zov h.out c (by decide) (by decide) }⟩
 rw [AS.get_put,if_neg];rintro rfl;have:=(h.old.own ho).1;have:=h.nl;omega
theorem Cq.app (h:Cq σ0 sv n xb rx qx nb lo on olds outs σ ov uv) {b t:Nat} (hb:σ.get b=⟨1,3,0,[.int .i64 (t:Int)],[]⟩) (hk:olds.length+1≤1000000) :
  ∃ov' s,ZaU Tryz.prog σ #[22,22] ov (slc b 1 1)=some (ov',s)∧Sam 3 σ s∧Cq σ0 sv n xb rx qx nb lo on (olds++[t]) outs s ov' uv:=by
 have lo0:σ0.next≤lo:=Nat.le_of_lt (zQ h.n0 h.nl);obtain ⟨ov',s,g1,g2,g3,g4,g5,-⟩:=StkC.push (P:=Tryz.prog) ZrS h.old h.ln (m:=1) (new:=[.int .i64 (t:Int)]) (ZbV (Zaq hb rfl (zA _))) rfl rfl hk (by omega)
 have c:Sam 3 σ s:=⟨g3,fun i hi he=>g4 i hi fun ho=>he (h.old.own ho).2.2⟩;refine ⟨ov',s,g1,c,{ h with ext:=Zbt h.ext g3 g4 (fun q h1 h2=>g5 q (zB h1 lo0) h2) fun i ho=>zB lo0 (h.old.own ho).1,A:=h.A.sam c (by decide),R:=h.R.sam c (by decide),Q:=h.Q.sam c (by decide),N:=⟨zC h.N.lt g3,(g4 nb h.N.lt fun ho=>?_).trans h.N.get⟩,old:=.inr ?_,out:=Zov h.out c (by decide) (by decide),ln:=zB h.ln g3 }⟩
 ·have:=(h.old.own ho).1;have:=h.nl;omega
 ·unfold cN;rw [zS,List.map_append];exact g2
theorem Cq.add (h:Cq σ0 sv n xb rx qx nb lo on olds outs σ ov uv) {r:List Can.Arc} (hw:GRow σ w (Zbr r)) (hl:outs.length+1≤1000000) :
  ∃v' s,ZaU Tryz.prog (σ.new ⟨1,44,0,[w],[]⟩) #[25,25] uv (slc σ.next 1 1)=some (v',s)∧ZaK Tryz.prog s 25 v' (.pointer (some ⟨qx,0,none⟩))=some (s.put qx ⟨1,27,0,[v'],[]⟩)∧Cq σ0 sv n xb rx qx nb lo on olds (outs++[r]) (s.put qx ⟨1,27,0,[v'],[]⟩) ov v':=by
 have lo0:σ0.next≤lo:=Nat.le_of_lt (zQ h.n0 h.nl);have e1:=Ext.new σ ⟨1,44,0,[w],[]⟩;have h1:=h.to e1;have hone:([w]:List Value).all one=true:=by obtain ⟨_,_,e⟩:=hw.slice;rw [e];rfl
 obtain ⟨v',s,p1,p2,p3,p4,p5,p6⟩:=h1.out.push (P:=Tryz.prog) (T:=25) elRs RRw.kept h1.ln (x:=r) (y:=slc σ.next 1 1) (new:=[w])
  (ZbV (Zaq (BxAt.new σ 44 [w]).get rfl (zA _))) rfl hone (RRw.kept.ext e1 (Zlt hw)) hl
 have c:Sam 44 (σ.new ⟨1,44,0,[w],[]⟩) s:=⟨p3,fun i hi he=>p4 i hi fun ho=>he (h1.out.own ho).2.2.2⟩;obtain ⟨va,vc,hve⟩:=p2.len;have Q2:=h1.Q.sam c (by decide)
 have A2:=h1.A.sam c (by decide)
 have R2:=h1.R.sam c (by decide)
 have N2:=h1.N.sam c (by decide)
 have O2:=h1.old.keep p3 fun i ho hi=>c.2 i hi (by rw [(h1.old.own ho).2.2];decide)
 refine ⟨v',s,p1,by rw [hve];exact ZiV Q2.get,{ h with ext:=Ext.put (Zbt h1.ext p3 p4 (fun q k1 k2=>p5 q (zB k1 lo0) k2) fun i ho=>zB lo0 (h1.out.own ho).1) h.q0 _,A:=A2.putN h.qa.symm,R:=R2.putN h.qr.symm,Q:=⟨Q2.lt,by rw [AS.get_put,if_pos rfl]⟩,N:=N2.putN (N2.ne Q2 (by decide)),old:=O2.keep (zA _) fun i ho hi=>?_,out:=?_,ln:=zB h1.ln p3 }⟩
 ·rw [AS.get_put,if_neg];rintro rfl;have:=(O2.own ho).2.2;rw [Q2.get] at this;exact absurd (show (27:Nat)=3 from this) (by decide)
 ·have hne:∀q,(s.get q).kind=2→(s.put qx ⟨1,27,0,[v'],[]⟩).get q=s.get q:=fun q hq=>by
   rw [AS.get_put,if_neg];rintro rfl;rw [Q2.get] at hq;exact absurd (show (1:Nat)=2 from hq) (by decide)
  obtain ⟨cs,k1,k2⟩:=p2;refine ⟨cs,k1.keep (zA _) fun q ho _=>hne q (k1.own ho).2.2.1,fun q x hq=>?_⟩;obtain ⟨v,g1,g2,g3⟩:=k2 q x hq;exact ⟨v,g1,g2.keep (zA _) fun q hq _=>hne q (g3 q hq).2.2.1,fun q hq=>⟨(g3 q hq).1,(g3 q hq).2.1,by rw [hne q (g3 q hq).2.2.1];exact (g3 q hq).2.2⟩⟩
end
theorem Zm7 {l:List Arc} (h:asc l=true) (h0:∀a∈l,0≤a.1∧0≤a.2):Can.Asc (natR l):=by
 have h1:=asc_pair.1 h;unfold natR Can.Asc;rw [List.pairwise_map];refine h1.imp_of_mem fun {a b} ha hb hab=>?_;have:=h0 a ha;have:=h0 b hb;unfold Zb2 at hab;unfold Can.alt;simp at hab;omega
theorem Zjf {l:List Can.Arc} (h:Can.Asc l):asc (Zbr l)=true:=by
 rw [asc_pair];unfold Zbr;rw [List.pairwise_map];refine h.imp fun {a b} hab=>?_;unfold Can.alt at hab;unfold Zb2;simp;omega
theorem mem_cast {l:List Can.Arc} {x:Arc}:x∈Zbr l↔∃y∈l,x=((y.1:Int),(y.2:Int)):=by
 unfold Zbr;rw [List.mem_map];exact ⟨fun ⟨y,h1,h2⟩=>⟨y,h1,h2.symm⟩,fun ⟨y,h1,h2⟩=>⟨y,h1,h2.symm⟩⟩
open Abs
theorem ZoM {σ:AS} {v:Value} {l:List Can.Arc} (h:GRow σ v (Zbr l)):RS 2 RArc σ v (Zbr l):=by
 obtain ⟨v',e,h1,-⟩:=Zlt h;cases e;exact ZqF h1
theorem Zcv (LN:List (List Can.Arc)):(castL LN).length=LN.length:=by unfold castL;rw [List.length_map]
theorem ZdC (l:List Can.Arc):(Zbr l).length=l.length:=by unfold Zbr;rw [List.length_map]
theorem Zoo {olds:List Nat} {t:Nat} (h:t∈olds):numQ olds t=(Can.num olds t:Int):=by unfold numQ;rw [if_pos h]
theorem ZpN {olds:List Nat} {t:Nat} (h:t∉olds):numQ olds t=-1:=by unfold numQ;rw [if_neg h]
theorem Zro {olds:List Nat} {t:Nat} (h:t∈olds):Can.meet olds t=olds:=by unfold Can.meet;rw [if_pos h]
theorem ZpW {olds:List Nat} {t:Nat} (h:t∉olds):Can.meet olds t=olds++[t]:=by unfold Can.meet;rw [if_neg h]
theorem ZqA {σ:AS} {x:Int}:Zaz Tryz.prog σ 22 1 [(0,.int .i64 x)]=some (slc σ.next 1 1,σ.new ⟨1,3,0,[.int .i64 x],[]⟩):=by kernel_rfl
theorem Zr9 {σ τ:AS} {w:Value} {l:List Arc} (h:GRow τ w l):Zaz Tryz.prog σ 25 1 [(0,w)]=some (slc σ.next 1 1,σ.new ⟨1,44,0,[w],[]⟩):=by
 obtain ⟨_,_,rfl⟩:=h.slice;exact ZlO
theorem ZlI {σ:AS} {s:Value} {LN:List (List Can.Arc)} (hs:RS 1 RRow σ s (castL LN)) (h0:0<LN.length) (hN:LN.length≤10) (hr:∀r∈LN,r.length≤100) (ht:∀r∈LN,∀a∈r,a.2<LN.length) :
  C Tryz.prog Kn 0 5 [.agg #[s]] σ fun v σ'=>(∃lo uv ov K,v=.tuple #[.agg #[uv],ov]∧σ.next≤lo∧Can.Done LN K∧LV 44 1 (RRw 0) lo σ' uv (Can.rounds LN K).2)∧Ext σ σ':=by
 have hcl:=Zcv LN;obtain ⟨sb,sc,hse,-⟩:=id hs;rw [hcl] at hse;subst hse;refine C_of (kn (by decide)) Tryz.func5 rfl (zD rfl) ?_
 show W _ _ _ 117 _ _ _ _;unfold Tryz.f5;dsimp only;repeat apply Zaa
 apply Zad;intro _;simp +decide only [zq,ZaI,↓Zab,↓reduceIte,aOp,Zbm,aRow,ZcP];rfl;have e1:Ext σ ((σ.new ⟨1,27,0,(Value.agg #[(.slice sb LN.length sc)]).cells.toList,[]⟩).new ⟨1,27,0,[.slice none 0 0],[]⟩):=(Ext.new _ _).trans (Ext.new _ _);have A1:BxAt ((σ.new ⟨1,27,0,(Value.agg #[(.slice sb LN.length sc)]).cells.toList,[]⟩).new ⟨1,27,0,[.slice none 0 0],[]⟩) 27 σ.next [(.slice sb LN.length sc)]:=(BxAt.new σ _ _).ext (Ext.new _ _);have R1:=BxAt.new (σ.new ⟨1,27,0,(Value.agg #[(.slice sb LN.length sc)]).cells.toList,[]⟩) 27 [.slice none 0 0];have hrl:σ.next<(σ.new ⟨1,27,0,(Value.agg #[(.slice sb LN.length sc)]).cells.toList,[]⟩).next:=zG _;generalize hrx:(σ.new ⟨1,27,0,(Value.agg #[(.slice sb LN.length sc)]).cells.toList,[]⟩).next=rx at R1 hrl;generalize hnx:σ.next=xb at A1 hrl;generalize (σ.new ⟨1,27,0,(Value.agg #[(.slice sb LN.length sc)]).cells.toList,[]⟩).new ⟨1,27,0,[.slice none 0 0],[]⟩=σ1 at e1 A1 R1;have la:Zat Tryz.prog σ1 25 (.pointer (some ⟨xb,0,none⟩))=some (.slice sb LN.length sc):=Zaw Tryz.underlying25 rfl (A1.cell (i:=0) rfl);repeat apply Zaa
 apply Zad;intro _;simp +decide only [zq,↓Zab,↓reduceIte,aOp,Zan,Zac,Zag,aevs,Zaf,fldL,la,Tryz.underlying25,goInt,aLen,ZbN,mkInts (show LN.length≤1000000 by omega)];rfl
 rw [ZoT];have e2:=Ext.new σ1 ⟨1,3,0,Zgj LN.length 0,[]⟩;have N2:=BxAt.new σ1 3 (Zgj LN.length 0);have A2:=A1.ext e2;have R2:=R1.ext e2;have hnb:rx<σ1.next:=R1.lt;generalize hnb':σ1.next=nb at N2 hnb ⊢;have e2:=e1.trans e2;generalize σ1.new ⟨1,3,0,Zgj LN.length 0,[]⟩=σ2 at e2 N2 A2 R2;clear la A1 R1;repeat apply Zaa
 apply Zad;intro _;simp +decide only [zq,↓Zab,↓reduceIte,aOp];rfl;repeat apply Zaa
 refine Zbs (fun (i:Nat) r q=>i≤LN.length∧(Ext σ q∧BxAt q 27 xb [(.slice sb LN.length sc)]∧BxAt q 27 rx [.slice none 0 0]∧BxAt q 3 nb (Zgj LN.length i)∧rget r 1=.pointer (some ⟨xb,0,none⟩)∧rget r 2=.pointer (some ⟨rx,0,none⟩)∧rget r 4=slc nb LN.length LN.length)∧rget r 5=.int .i64 (i:Int)) (fun i=>LN.length-i)
  (fun r q=>Ext σ q∧BxAt q 27 xb [(.slice sb LN.length sc)]∧BxAt q 27 rx [.slice none 0 0]∧BxAt q 3 nb (Zgj LN.length LN.length)∧rget r 1=.pointer (some ⟨xb,0,none⟩)∧rget r 2=.pointer (some ⟨rx,0,none⟩)∧rget r 4=slc nb LN.length LN.length) ?_ ?_ 0 ?_
 rotate_left 2
 ·refine ⟨zH _,⟨e2,A2,R2,N2,?_,?_,?_⟩,?_⟩<;>simp +decide only [zq]<;>first|exact True.intro|rfl
 rotate_left
 ·clear e1 e2 A2 R2 N2;rintro r σ3 ⟨e3,A3,R3,N3,h1,h2,h4⟩;have ix:Zal Tryz.prog 22 (slc nb LN.length LN.length) (.int .i64 0)=some (.pointer (some ⟨nb,0,none⟩)):=by have:=idxI (b:=nb) (cap:=LN.length) h0;rwa [Nat.zero_add,Nat.mul_one] at this
  have st:ZaK Tryz.prog σ3 3 (.int .i64 0) (.pointer (some ⟨nb,0,none⟩))=some (σ3.put nb ⟨1,3,0,numV LN.length [0],[]⟩):=by rw [←Zqb];exact Zft N3.get (by rw [Zkq];exact h0)
  repeat apply Zaa
  apply Zad;intro _;simp +decide only [zq,↓Zab,↓reduceIte,aOp,Zae,ZaE,unn,h4,ix,st];rfl;have A4:=A3.putN (m:=nb) (B:=⟨1,3,0,numV LN.length [0],[]⟩) (by omega)
  have R4:=R3.putN (m:=nb) (B:=⟨1,3,0,numV LN.length [0],[]⟩) (by omega)
  have N4:BxAt (σ3.put nb ⟨1,3,0,numV LN.length [0],[]⟩) 3 nb (numV LN.length [0]):=⟨N3.lt,by rw [AS.get_put,if_pos rfl]⟩
  have e4:Ext σ (σ3.put nb ⟨1,3,0,numV LN.length [0],[]⟩):=Ext.put e3 (by rw [hnx];omega) _
  generalize σ3.put nb ⟨1,3,0,numV LN.length [0],[]⟩=σ4 at A4 R4 N4 e4;clear A3 R3 N3 e3;repeat apply Zaa
  apply Zad;intro _;simp +decide only [zq,↓Zab,↓reduceIte,aOp,Zar,ZaN,ZqA];rfl;have e5:=Ext.new σ4 ⟨1,3,0,[.int .i64 0],[]⟩;have O5:StkC σ4.next 3 1 (σ4.new ⟨1,3,0,[.int .i64 0],[]⟩) (slc σ4.next 1 1) ([0]:List Nat).length (cN [0]):=.inl ⟨rfl,rfl,rfl,σ4.next,rfl,zA _,zG _,by rw [AS.get_new,if_pos rfl];rfl⟩
  have A5:=A4.ext e5;have R5:=R4.ext e5;have N5:=N4.ext e5;have hnl:nb<σ4.next:=N4.lt;have hln:σ4.next≤(σ4.new ⟨1,3,0,[.int .i64 0],[]⟩).next:=Nat.le_succ _;generalize hlo:σ4.next=lo at O5 hnl hln ⊢;have e5:=e4.trans e5;generalize σ4.new ⟨1,3,0,[.int .i64 0],[]⟩=σ5 at A5 R5 N5 e5 O5 hln;repeat apply Zaa
  apply Zad;intro _;simp +decide only [zq,↓Zab,↓reduceIte,aOp,ZcP];rfl;have e6:=Ext.new σ5 ⟨1,27,0,[.slice none 0 0],[]⟩;have Q6:=BxAt.new σ5 27 [.slice none 0 0];have C6:Cq σ (.slice sb LN.length sc) LN.length xb rx σ5.next nb lo [0] [0] [] (σ5.new ⟨1,27,0,[.slice none 0 0],[]⟩) (slc lo 1 1) (.slice none 0 0):=
   ⟨e5.trans e6,A5.ext e6,R5.ext e6,Q6,N5.ext e6,O5.keep e6.nxt fun i _ hi=>e6.get i hi,LV.nil,by rw [hnx];omega,hnl,zB hln e6.nxt,e5.nxt,by omega,by omega⟩
  have hql:lo≤σ5.next:=hln;generalize hqx:σ5.next=qx at C6 hql ⊢;generalize σ5.new ⟨1,27,0,[.slice none 0 0],[]⟩=σ6 at C6;clear A5 R5 N5 e5 O5 A4 R4 N4 e4 e6 Q6;repeat apply Zaa
  apply Zad;intro _;simp +decide only [zq,↓Zab,↓reduceIte,aOp];rfl;repeat apply Zaa
  refine Zbs (fun (i:Nat) r q=>i≤LN.length∧(Can.rounds LN i).2.length=i∧(∃ov uv,Cq σ (.slice sb LN.length sc) LN.length xb rx qx nb lo (Can.rounds LN i).1 (Can.rounds LN i).1 (Can.rounds LN i).2 q ov uv∧rget r 6=ov)∧rget r 1=.pointer (some ⟨xb,0,none⟩)∧rget r 2=.pointer (some ⟨rx,0,none⟩)∧rget r 4=slc nb LN.length LN.length∧rget r 7=.pointer (some ⟨qx,0,none⟩)∧rget r 8=.int .i64 (i:Int)) (fun i=>LN.length-i)
   (fun r q=>∃K,Can.Done LN K∧(∃ov uv,Cq σ (.slice sb LN.length sc) LN.length xb rx qx nb lo (Can.rounds LN K).1 (Can.rounds LN K).1 (Can.rounds LN K).2 q ov uv∧rget r 6=ov)∧rget r 1=.pointer (some ⟨xb,0,none⟩)∧rget r 2=.pointer (some ⟨rx,0,none⟩)∧rget r 4=slc nb LN.length LN.length∧rget r 7=.pointer (some ⟨qx,0,none⟩)) ?_ ?_ 0 ?_
  rotate_left 2
  ·refine ⟨zH _,rfl,⟨_,_,C6,?_⟩,?_,?_,?_,?_,?_⟩<;>simp +decide only [zq,h1,h2,h4]<;>first|exact True.intro|rfl
  rotate_left
  ·rintro r σ7 ⟨K,hD,⟨ov,uv,Z,h6⟩,h1,h2,h4,h7⟩;obtain ⟨ua,uc,huv⟩:=Z.out.len;have lq:Zat Tryz.prog σ7 27 (.pointer (some ⟨qx,0,none⟩))=some (.agg #[uv]):=ZbK Tryz.underlying27 rfl (i:=(Tryz.prog.info? 27).get!) (by kernel_rfl) (by rw [show ((Tryz.prog.info? 27).get!).size=1 by kernel_rfl];exact Zaq Z.Q.get rfl (by simp))
   have hst:ZaK Tryz.prog σ7 27 (.agg #[uv]) (.pointer (some ⟨rx,0,none⟩))=some (σ7.put rx ⟨1,27,0,[uv],[]⟩):=by rw [huv];exact ZdM Z.R.get
   repeat apply Zaa
   apply Zad;intro _;simp +decide only [zq,↓Zab,↓reduceIte,aOp,Zag,ZaE,unn,h2,h6,h7,lq,hst];rfl;have E3:Ext σ (σ7.put rx ⟨1,27,0,[uv],[]⟩):=Ext.put Z.ext (by rw [hnx];omega) _
   have hne:∀q,(σ7.get q).kind=2→(σ7.put rx ⟨1,27,0,[uv],[]⟩).get q=σ7.get q:=fun q hq=>by
    rw [AS.get_put,if_neg];rintro rfl;rw [Z.R.get] at hq;exact absurd (show (1:Nat)=2 from hq) (by decide)
   have hout3:LV 44 1 (RRw 0) lo (σ7.put rx ⟨1,27,0,[uv],[]⟩) uv (Can.rounds LN K).2:=by
    obtain ⟨cs,k1,k2⟩:=Z.out;refine ⟨cs,k1.keep (zA _) fun q ho _=>hne q (k1.own ho).2.2.1,fun q x hq=>?_⟩;obtain ⟨v,g1,g2,g3⟩:=k2 q x hq;exact ⟨v,g1,g2.keep (zA _) fun q hq _=>hne q (g3 q hq).2.2.1,fun q hq=>⟨(g3 q hq).1,(g3 q hq).2.1,by rw [hne q (g3 q hq).2.2.1];exact (g3 q hq).2.2⟩⟩
   have ll:Zat Tryz.prog (σ7.put rx ⟨1,27,0,[uv],[]⟩) 27 (.pointer (some ⟨rx,0,none⟩))=some (.agg #[uv]):=ZbK Tryz.underlying27 rfl (i:=(Tryz.prog.info? 27).get!) (by kernel_rfl) (by rw [show ((Tryz.prog.info? 27).get!).size=1 by kernel_rfl];exact Zaq (by rw [AS.get_put,if_pos rfl]) rfl (by simp))
   refine ZaL ⟨zA _,[.agg #[uv],ov],?_,⟨lo,uv,ov,K,rfl,by omega,hD,hout3⟩,E3⟩
   simp +decide only [zq,Zaj,h2,ll]
  rintro i r σ7 ⟨hi,hlen,⟨ov,uv,Z,h6⟩,h1,h2,h4,h7,h8⟩;have w8:IntKind.i64.wrap ((i:Int)+1)=((i+1:Nat):Int):=by rw [Zas _ (by omega) (by omega)];omega
  have hI:=Can.Inv.rounds LN i;have hnd:=hI.nodup;have hdn:=hI.done;have hbl:=Can.Zhi h0 ht i;have hb:=Can.ZdT hnd hbl;obtain ⟨oa,oc0,hov⟩:=Z.old.len;by_cases hlt:i<(Can.rounds LN i).1.length;rotate_left
  ·have d1:decide ((i:Int)<((Can.rounds LN i).1.length:Int))=false:=zI (by omega)
   repeat apply Zaa
   apply Zad;intro _;simp +decide only [zq,↓Zab,↓reduceIte,aOp,Zah,Zan,aevs,Zaf,h6,h8,hov,Tryz.underlying22,goInt,aLen,U.lssI,d1];rfl;repeat apply Zaa
   refine ZaC (by simp +decide only [zq]) ?_
   refine ZaA ⟨fun h=>(nomatch h),fun _=>⟨i,⟨hlen,by omega⟩,⟨ov,uv,Z,?_⟩,?_,?_,?_,?_⟩,fun h1 h2=>absurd rfl h2⟩<;>simp +decide only [zq,h1,h2,h4,h6,h7]
  obtain ⟨o,ho⟩:∃o,(Can.rounds LN i).1[i]?=some o:=⟨_,zP hlt⟩;have hoL:o<LN.length:=hbl o (zF ho);obtain ⟨rowN,hrN⟩:∃rowN,LN[o]?=some rowN:=⟨_,zP hoL⟩;have hround:Can.rounds LN (i+1)=(Can.meets (Can.rounds LN i).1 (Can.srt rowN),(Can.rounds LN i).2++[Can.srt (Can.ren (Can.meets (Can.rounds LN i).1 (Can.srt rowN)) (Can.srt rowN))]):=by
   show Can.round LN (Can.rounds LN i)=_;unfold Can.round;rw [hlen,ho];simp only [zL,hrN,Option.getD_some]
  generalize Can.rounds LN i=st0 at Z ho hround hlen hlt hdn hnd hbl hb;obtain ⟨olds,outs⟩:=st0;dsimp only at Z ho hround hlen hlt hdn hnd hbl hb;obtain ⟨ob,oc,rfl,ixo,ldo⟩:=Z.oldAt ho;clear hov hI;obtain ⟨-,b0,off0,rv,rfl,hb0,hrld,hrv⟩:=ZiZ hs (Zm4 hrN);have hrm:=zF hrN;have hrl2:rowN.length≤100:=hr rowN hrm;have hto:∀x∈(Can.srt rowN),x.2<LN.length:=fun x hx=>ht rowN hrm x (Can.mem_srt.1 hx);have hsl:(Can.srt rowN).length≤rowN.length:=Can.ZeE rowN;have hcr:=ZdC rowN;obtain ⟨rb,rc,hre,-⟩:=id hrv;rw [hcr] at hre;subst hre;have d1:decide ((i:Int)<(olds.length:Int))=true:=zM (by omega)
  have ixr:=Zia (b:=b0) (off:=off0) (cap:=sc) hoL;repeat apply Zaa
  apply Zad;intro _;simp +decide only [zq,↓Zab,↓reduceIte,aOp,Zah,Zan,aevs,Zaf,h6,h8,Tryz.underlying22,goInt,aLen,U.lssI,d1];rfl;repeat apply Zaa
  refine ZaQ (by simp +decide only [zq]) ?_
  apply Zak;refine ZaM ?_;repeat apply Zaa
  apply Zad;intro _;simp +decide only [zq,↓Zab,↓reduceIte,aOp];rfl;repeat apply Zaa
  apply Zad;intro _;simp +decide only [zq,↓Zab,↓reduceIte,aOp];rfl;repeat apply Zaa
  refine Zbs (fun (k:Nat) r q=>k≤rowN.length∧(Ext σ7 q∧(∃w l,rget r 9=w∧GRow q w l∧l.length≤k∧asc l=true∧∀x,x∈l↔x∈(Zbr rowN).take k)∧rget r 1=.pointer (some ⟨xb,0,none⟩)∧rget r 2=.pointer (some ⟨rx,0,none⟩)∧rget r 4=slc nb LN.length LN.length∧rget r 7=.pointer (some ⟨qx,0,none⟩)∧rget r 6=slc ob olds.length oc∧rget r 8=.int .i64 (i:Int))∧rget r 10=.int .i64 (k:Int)) (fun k=>rowN.length-k)
   (fun r q=>Ext σ7 q∧(∃w,rget r 9=w∧GRow q w (Zbr (Can.srt rowN)))∧rget r 1=.pointer (some ⟨xb,0,none⟩)∧rget r 2=.pointer (some ⟨rx,0,none⟩)∧rget r 4=slc nb LN.length LN.length∧rget r 7=.pointer (some ⟨qx,0,none⟩)∧rget r 6=slc ob olds.length oc∧rget r 8=.int .i64 (i:Int)) ?_ ?_ 0 ?_
  rotate_left 2
  ·refine ⟨zH _,⟨Ext.refl _,⟨_,[],?_,.inl ⟨rfl,rfl⟩,zH _,rfl,fun x=>by simp⟩,?_,?_,?_,?_,?_,?_⟩,?_⟩<;>simp +decide only [zq,h1,h2,h4,h6,h7,h8]<;>first|exact True.intro|rfl
  rotate_left
  ·clear h1 h2 h4 h6 h7 h8;rintro r σ8 ⟨e8,⟨w,h9,hG⟩,h1,h2,h4,h7,h6,h8⟩;have C8:=Z.to e8;repeat apply Zaa
   apply Zad;intro _;simp +decide only [zq,↓Zab,↓reduceIte,aOp];rfl;repeat apply Zaa
   apply Zad;intro _;simp +decide only [zq,↓Zab,↓reduceIte,aOp];rfl;repeat apply Zaa
   refine Zbs (fun (k:Nat) r q=>k≤(Can.srt rowN).length∧((∃ov2,Cq σ (.slice (some ⟨b0,off0,none⟩) LN.length sc) LN.length xb rx qx nb lo (Can.meets olds ((Can.srt rowN).take k)) (Can.meets olds ((Can.srt rowN).take k)) outs q ov2 uv∧rget r 6=ov2)∧(rget r 9=w∧GRow q w (Zbr (Can.srt rowN)))∧(∃w2 nx,rget r 11=w2∧GRow q w2 (Zbr nx)∧nx.length≤k∧Can.Asc nx∧∀x,x∈nx↔x∈Can.ren (Can.meets olds ((Can.srt rowN).take k)) ((Can.srt rowN).take k))∧rget r 1=.pointer (some ⟨xb,0,none⟩)∧rget r 2=.pointer (some ⟨rx,0,none⟩)∧rget r 4=slc nb LN.length LN.length∧rget r 7=.pointer (some ⟨qx,0,none⟩)∧rget r 8=.int .i64 (i:Int))∧rget r 12=.int .i64 (k:Int)) (fun k=>(Can.srt rowN).length-k)
    (fun r q=>(∃ov2,Cq σ (.slice (some ⟨b0,off0,none⟩) LN.length sc) LN.length xb rx qx nb lo (Can.meets olds (Can.srt rowN)) (Can.meets olds (Can.srt rowN)) outs q ov2 uv∧rget r 6=ov2)∧(∃w2,rget r 11=w2∧GRow q w2 (Zbr (Can.srt (Can.ren (Can.meets olds (Can.srt rowN)) (Can.srt rowN)))))∧rget r 1=.pointer (some ⟨xb,0,none⟩)∧rget r 2=.pointer (some ⟨rx,0,none⟩)∧rget r 4=slc nb LN.length LN.length∧rget r 7=.pointer (some ⟨qx,0,none⟩)∧rget r 8=.int .i64 (i:Int)) ?_ ?_ 0 ?_
   rotate_left 2
   ·refine ⟨zH _,⟨⟨_,C8,?_⟩,⟨?_,hG⟩,⟨_,[],?_,.inl ⟨rfl,rfl⟩,zH _,List.Pairwise.nil,fun x=>by simp [Can.ren]⟩,?_,?_,?_,?_,?_⟩,?_⟩<;>simp +decide only [zq,h1,h2,h4,h6,h7,h8,h9]<;>first|exact True.intro|rfl
   rotate_left
   ·clear h1 h2 h4 h6 h7 h8 h9 C8 hG;rintro r σ9 ⟨⟨ov2,Z9,h6⟩,⟨w2,h11,hG2⟩,h1,h2,h4,h7,h8⟩;obtain ⟨v',s,p1,hso,Z10⟩:=Z9.add hG2 (by rw [hlen];omega)
    have lq:Zat Tryz.prog σ9 25 (.pointer (some ⟨qx,0,none⟩))=some uv:=Zaw Tryz.underlying25 rfl (Z9.Q.cell (i:=0) rfl);have bw:=Zr9 (σ:=σ9) hG2;refine Zao ?_;repeat apply Zaa
    apply Zad;intro _;simp +decide only [zq,↓Zab,↓reduceIte,aOp,Zan,Zac,Zag,ZaE,Zar,aevs,ZaN,unn,Zaf,fldL,h7,h11,lq,bw,p1,hso];rfl;refine Zap ⟨fun _=>?_,fun h=>absurd rfl h⟩;refine Zao ?_;repeat apply Zaa
    apply Zad;intro _;simp +decide only [zq,↓Zab,↓reduceIte,aOp,Zah,h8,U.addI,w8];rfl;refine Zap ⟨fun _=>⟨i+1,by omega,by omega,by rw [hround,zS,hlen];rfl,⟨ov2,v',by rw [hround];exact Z10,?_⟩,?_,?_,?_,?_,?_⟩,fun h=>(nomatch h),fun h=>absurd rfl h⟩<;>simp +decide only [zq,h1,h2,h4,h6,h7]
   clear h1 h2 h4 h6 h7 h8 h9 C8;rintro k r σ9 ⟨hk,⟨⟨ov2,Z9,h6⟩,⟨h9,hG9⟩,⟨w2,nx,h11,hG2,hnl,hna,hnm⟩,h1,h2,h4,h7,h8⟩,h12⟩;have w12:IntKind.i64.wrap ((k:Int)+1)=((k+1:Nat):Int):=by rw [Zas _ (by omega) (by omega)];omega
   obtain ⟨wa,wc,hwe⟩:=hG9.slice;rw [ZdC] at hwe;by_cases hlk:k<(Can.srt rowN).length;rotate_left
   ·have d2:decide ((k:Int)<((Can.srt rowN).length:Int))=false:=zI (by omega)
    rw [zJ (by omega)] at Z9 hnm
    have en:=Can.Zmh hna hnm;repeat apply Zaa
    apply Zad;intro _;simp +decide only [zq,↓Zab,↓reduceIte,aOp,Zah,Zan,aevs,Zaf,h9,h12,hwe,Tryz.underlying44,goInt,aLen,U.lssI,d2];rfl;repeat apply Zaa
    refine ZaC (by simp +decide only [zq]) ?_
    refine ZaA ⟨fun h=>(nomatch h),fun _=>⟨⟨ov2,Z9,?_⟩,⟨w2,?_,by rw [←en];exact hG2⟩,?_,?_,?_,?_,?_⟩,fun h1 h2=>absurd rfl h2⟩<;>simp +decide only [zq,h1,h2,h4,h6,h7,h8,h11]
   have d2:decide ((k:Int)<((Can.srt rowN).length:Int))=true:=zM (by omega)
   obtain ⟨x,hx⟩:∃x,(Can.srt rowN)[k]?=some x:=⟨_,zP hlk⟩;have hxt:x.2<LN.length:=hto x (zF hx);have hcx:=Zjg hx;obtain ⟨ab,aoff,hwa⟩:∃ab aoff,wa=some ⟨ab,aoff,none⟩:=by
    have h:=ZoM hG9;rw [hwe] at h;obtain ⟨-,b',o',e,-⟩:=Zfm h hcx;exact ⟨b',o',e⟩
   subst hwa;have arcs:∀q:AS,GRow q w (Zbr (Can.srt rowN))→Zat Tryz.prog q 3 (.pointer (some ⟨ab,aoff+k*2,none⟩))=some (.int .i64 (x.1:Int))∧Zat Tryz.prog q 3 (.pointer (some ⟨ab,aoff+k*2+1,none⟩))=some (.int .i64 (x.2:Int)):=fun q hq=>by
    have h:=ZoM hq;rw [hwe] at h;obtain ⟨-,b',o',e,-,h⟩:=Zfm h hcx;cases e;exact (h _ (Ext.refl _)).2
   have ixx:=Zfh (b:=ab) (off:=aoff) (cap:=wc) hlk;have ixn:Zal Tryz.prog 22 (slc nb LN.length LN.length) (.int .i64 (x.2:Int))=some (.pointer (some ⟨nb,x.2,none⟩)):=by have:=idxI (b:=nb) (cap:=LN.length) hxt;rwa [Nat.zero_add,Nat.mul_one] at this
   have lto:=(arcs _ hG9).2;have lnum:=Z9.numAt hxt;have hnd2:(Can.meets olds ((Can.srt rowN).take k)).Nodup:=Can.ZdR hnd;have hbl2:∀y∈(Can.meets olds ((Can.srt rowN).take k)),y<LN.length:=fun y hy=>by
    rcases Can.mem_meets.1 hy with h|⟨a,ha,rfl⟩
    ·exact hbl y h
    ·exact hto a (List.mem_of_mem_take ha)
   have hb2:=Can.ZdT hnd2 hbl2;repeat apply Zaa
   apply Zad;intro _;simp +decide only [zq,↓Zab,↓reduceIte,aOp,Zah,Zan,aevs,Zaf,h9,h12,hwe,Tryz.underlying44,goInt,aLen,U.lssI,d2];rfl;repeat apply Zaa
   refine ZaQ (by simp +decide only [zq]) ?_
   apply Zak;refine ZaM ?_;repeat apply Zaa
   apply Zad;intro _;simp +decide only [zq,↓Zab,↓reduceIte,aOp,Zah,Zae,Zac,Zag,h4,h9,h12,hwe,ixx,fld1,lto,ixn,lnum,U.lssI];rfl;repeat apply Zaa
   refine Zk1 (b:=decide (numQ (Can.meets olds ((Can.srt rowN).take k)) x.2<0)) (fun r q=>(∃ov3,Cq σ (.slice (some ⟨b0,off0,none⟩) LN.length sc) LN.length xb rx qx nb lo (Can.meet (Can.meets olds ((Can.srt rowN).take k)) x.2) (Can.meet (Can.meets olds ((Can.srt rowN).take k)) x.2) outs q ov3 uv∧rget r 6=ov3)∧GRow q w (Zbr (Can.srt rowN))∧GRow q w2 (Zbr nx)∧rget r 9=w∧rget r 11=w2∧rget r 1=.pointer (some ⟨xb,0,none⟩)∧rget r 2=.pointer (some ⟨rx,0,none⟩)∧rget r 4=slc nb LN.length LN.length∧rget r 7=.pointer (some ⟨qx,0,none⟩)∧rget r 8=.int .i64 (i:Int)∧rget r 12=.int .i64 (k:Int)) ?_ (fun hb=>?_) (fun hb=>?_) ?_
   ·simp +decide only [zq]
   ·have hm:x.2∉(Can.meets olds ((Can.srt rowN).take k)):=fun h=>by
     have:=of_decide_eq_true hb;rw [Zoo h] at this;omega
    obtain ⟨oa2,oc2,hov2⟩:=Z9.old.len;obtain ⟨B,st,c1,Z10⟩:=Z9.num hxt hm;rw [ZpW hm];refine Zao ?_;repeat apply Zaa
    apply Zad;intro _;simp +decide only [zq,↓Zab,↓reduceIte,aOp,Zan,Zae,Zac,Zag,ZaE,aevs,unn,Zaf,h4,h6,h9,h12,hwe,hov2,ixx,fld1,lto,ixn,Tryz.underlying22,goInt,aLen,st];rfl;have hG10:=hG9.sam c1 (by decide)
    have hN10:=hG2.sam c1 (by decide)
    have lto10:=(arcs _ hG10).2;generalize σ9.put nb B=σ10 at Z10 hG10 hN10 lto10;have e11:=Ext.new σ10 ⟨1,3,0,[.int .i64 (x.2:Int)],[]⟩;have Z11:=Z10.to e11;obtain ⟨ov3,s,p1,c2,Z12⟩:=Z11.app (b:=σ10.next) (t:=x.2) (by rw [AS.get_new,if_pos rfl]) (by omega)
    have hG12:=(hG10.ext e11).sam c2 (by decide)
    have hN12:=(hN10.ext e11).sam c2 (by decide)
    rw [hov2] at p1;repeat apply Zaa
    apply Zad;intro _;simp +decide only [zq,↓Zab,↓reduceIte,aOp,Zan,Zae,Zac,Zag,Zar,aevs,ZaN,Zaf,h6,h9,h12,hwe,hov2,ixx,fld1,lto10,ZqA,p1];rfl;refine Zap ⟨rfl,⟨ov3,Z12,?_⟩,hG12,hN12,?_,?_,?_,?_,?_,?_,?_,?_⟩<;>simp +decide only [zq,h1,h2,h4,h7,h8,h9,h11,h12]
   ·have hm:x.2∈(Can.meets olds ((Can.srt rowN).take k)):=by
     refine Classical.byContradiction fun h=>?_;have:=of_decide_eq_false hb;rw [ZpN h] at this;omega
    rw [Zro hm];refine Zap ⟨rfl,⟨ov2,Z9,?_⟩,hG9,hG2,?_,?_,?_,?_,?_,?_,?_,?_⟩<;>simp +decide only [zq,h1,h2,h4,h6,h7,h8,h9,h11,h12]
   rintro r σ10 ⟨⟨ov3,Z10,h6⟩,hG10,hN10,h9,h11,h1,h2,h4,h7,h8,h12⟩;have hold:=Zii hx olds;rw [←hold] at Z10;have hmem:x.2∈Can.meets olds ((Can.srt rowN).take (k+1)):=by rw [hold];exact Can.mem_meet.2 (.inr rfl)
   have xr:=Ext.reset σ10;have lar:=arcs _ (hG10.ext xr);have lev:=lar.1;have lto2:=lar.2;have lnum2:=(Z10.to xr).numAt hxt;rw [Zoo hmem] at lnum2;refine Zao ?_;repeat apply Zaa
   refine Za8 [] [] (by kernel_rfl) (by kernel_rfl) ?_
   apply Zau 8;intro _;simp +decide only [zq,zr,List.take,aQ,↓Zab,↓reduceIte,aOp,Zae,Zac,Zag,h4,h9,h11,h12,hwe,ixx,fld0,lev];rfl;dsimp only [List.drop,List.take,List.length];apply Zau 7;intro _;simp +decide only [zq,zr,List.take,aQ,↓Zab,↓reduceIte,aOp,Zae,Zac,Zag,Zbl,ZaN,h12,ixx,fld1,lto2,ixn,lnum2,ZhR];rfl;dsimp only [List.drop,List.take,List.length];have e11:Ext σ10 (σ10.merge σ10.reset):=(Ext.refl _).merge;generalize σ10.merge σ10.reset=σ11 at e11;have hN11:=hN10.ext (e11.trans (Ext.reset σ11));refine Zbx (vs:=[w2,vArc ((x.1:Int),(Can.num (Can.meets olds ((Can.srt rowN).take (k+1))) x.2:Int))]) (by simp +decide only [zq,aevs]) (by decide) rfl (C.mono (insert (X:=[]) hN11 (by rw [ZdC];omega) (fun _ h=>(nomatch h))) ?_)
   rintro u s ⟨e12,l',hG12,hl12,hm12,hin,hasc,hkp⟩;refine ⟨e12.quiet,?_⟩;have e12:Ext σ10 (σ11.merge s):=e11.trans e12.merge;have hG12:GRow (σ11.merge s) u l':=hG12;generalize σ11.merge s=σ12 at e12 hG12;apply ZaO;intro _;simp +decide only [zq,zr,aQ,↓Zab,↓reduceIte,aOp];rfl;have e13:Ext σ12 (σ12.merge σ12.reset):=(Ext.refl _).merge;generalize σ12.merge σ12.reset=σ13 at e13;have hG13:=hG12.ext e13;have E13:=e12.trans e13;have hA13:=hasc (Zjf hna);have hnn:∀a∈l',0≤a.1∧0≤a.2:=fun a ha=>by
    rcases hm12 a ha with rfl|h
    ·exact ⟨Int.natCast_nonneg _,Int.natCast_nonneg _⟩
    ·obtain ⟨y,-,rfl⟩:=mem_cast.1 h;exact ⟨Int.natCast_nonneg _,Int.natCast_nonneg _⟩
   rw [←Zg5 hnn] at hG13;rw [ZdC] at hl12;show W _ _ _ 117 _ _ _ _;refine Zap ⟨fun _=>?_,fun h=>absurd rfl h⟩;refine Zao ?_;repeat apply Zaa
   apply Zad;intro _;simp +decide only [zq,↓Zab,↓reduceIte,aOp,Zah,h12,U.addI,w12];rfl;refine Zap ⟨fun _=>⟨k+1,by omega,hlk,⟨⟨ov3,Z10.to E13,?_⟩,⟨?_,hG10.ext E13⟩,⟨u,natR l',?_,hG13,?_,Zm7 hA13 hnn,fun y=>?_⟩,?_,?_,?_,?_,?_⟩,?_⟩,fun h=>(nomatch h),fun h=>absurd rfl h⟩
   rotate_left 3
   ·unfold natR;rw [List.length_map];omega
   ·rw [Zpy hx olds,zR,←hnm y];unfold natR;rw [List.mem_map]
    constructor
    ·rintro ⟨a,ha,rfl⟩;rcases hm12 a ha with rfl|h
     ·exact .inr (by simp)
     ·obtain ⟨z,hz,rfl⟩:=mem_cast.1 h;exact .inl (by simpa using hz)
    ·rintro (hy|hy)
     ·exact ⟨((y.1:Int),(y.2:Int)),hkp _ (mem_cast.2 ⟨y,hy,rfl⟩),by simp⟩
     ·rw [List.mem_singleton] at hy;subst hy;exact ⟨_,hin,by simp⟩
   all_goals simp +decide only [zq,h1,h2,h4,h6,h7,h8,h9]
  rintro k r σ8 ⟨hk,⟨e8,⟨w,l,h9,hG,hll,hla,hlm⟩,h1,h2,h4,h7,h6,h8⟩,h10⟩;have w10:IntKind.i64.wrap ((k:Int)+1)=((k+1:Nat):Int):=by rw [Zas _ (by omega) (by omega)];omega
  have C8:=Z.to e8;have xr:=Ext.reset σ8;have la:Zat Tryz.prog σ8.reset 25 (.pointer (some ⟨xb,0,none⟩))=some (.slice (some ⟨b0,off0,none⟩) LN.length sc):=Zaw Tryz.underlying25 rfl ((C8.A.ext xr).cell (i:=0) rfl);have ld:=ldo _ (e8.trans xr);have lr:=hrld _ (C8.ext.trans xr);by_cases hlk:k<rowN.length;rotate_left
  ·have d2:decide ((k:Int)<(rowN.length:Int))=false:=zI (by omega)
   rw [zJ (by omega)] at hlm
   repeat apply Zaa
   refine Za8 [] [] (by kernel_rfl) (by kernel_rfl) ?_
   apply ZaO;intro _;simp +decide only [zq,zr,aQ,↓Zab,↓reduceIte,aOp,Zah,Zan,Zae,Zac,Zag,aevs,Zaf,h1,h6,h8,h10,fldL,la,ixo,ld,ixr,lr,Tryz.underlying44,goInt,aLen,U.lssI,d2];rfl;have e9:Ext σ8 (σ8.merge σ8.reset):=(Ext.refl _).merge;generalize σ8.merge σ8.reset=σ9 at e9;show W _ _ _ 117 _ _ _ _;repeat apply Zaa
   refine ZaC (by simp +decide only [zq]) ?_
   have hG9:GRow σ9 w (Zbr (Can.srt rowN)):=by
    have hnn:∀a∈l,0≤a.1∧0≤a.2:=fun a ha=>by
     obtain ⟨y,-,rfl⟩:=mem_cast.1 ((hlm a).1 ha);exact ⟨Int.natCast_nonneg _,Int.natCast_nonneg _⟩
    have hA:=Zm7 hla hnn;have e:natR l=Can.srt rowN:=Can.Zmh hA fun x=>by
     unfold natR;rw [List.mem_map]
     constructor
     ·rintro ⟨a,ha,rfl⟩;obtain ⟨y,hy,rfl⟩:=mem_cast.1 ((hlm a).1 ha);simpa using hy
     ·intro hx;exact ⟨((x.1:Int),(x.2:Int)),(hlm _).2 (mem_cast.2 ⟨x,hx,rfl⟩),by simp⟩
    rw [←e,Zg5 hnn];exact hG.ext e9
   refine ZaA ⟨fun h=>(nomatch h),fun _=>⟨e8.trans e9,⟨w,?_,hG9⟩,?_,?_,?_,?_,?_,?_⟩,fun h1 h2=>absurd rfl h2⟩<;>simp +decide only [zq,h1,h2,h4,h6,h7,h8,h9]
  have d2:decide ((k:Int)<(rowN.length:Int))=true:=zM (by omega)
  repeat apply Zaa
  refine Za8 [] [] (by kernel_rfl) (by kernel_rfl) ?_
  apply ZaO;intro _;simp +decide only [zq,zr,aQ,↓Zab,↓reduceIte,aOp,Zah,Zan,Zae,Zac,Zag,aevs,Zaf,h1,h6,h8,h10,fldL,la,ixo,ld,ixr,lr,Tryz.underlying44,goInt,aLen,U.lssI,d2];rfl;have e9:Ext σ8 (σ8.merge σ8.reset):=(Ext.refl _).merge;generalize σ8.merge σ8.reset=σ9 at e9;show W _ _ _ 117 _ _ _ _;repeat apply Zaa
  refine ZaQ (by simp +decide only [zq]) ?_
  apply Zak;refine ZaM ?_;obtain ⟨x,hx⟩:∃x,rowN[k]?=some x:=⟨_,zP hlk⟩;have hcx:=Zjg hx;obtain ⟨-,ab,aoff,rfl,hab,hat⟩:=Zfm hrv hcx;have E9:=e8.trans e9;have C9:=Z.to E9;have xr:=Ext.reset σ9;have la:Zat Tryz.prog σ9.reset 25 (.pointer (some ⟨xb,0,none⟩))=some (.slice (some ⟨b0,off0,none⟩) LN.length sc):=Zaw Tryz.underlying25 rfl ((C9.A.ext xr).cell (i:=0) rfl);have ld:=ldo _ (E9.trans xr);have lr:=hrld _ (C9.ext.trans xr);have lx:=(hat _ (C9.ext.trans xr)).1;have ixx:=Zfh (b:=ab) (off:=aoff) (cap:=rc) hlk;refine Zao ?_;repeat apply Zaa
  refine Za8 [] [] (by kernel_rfl) (by kernel_rfl) ?_
  apply Zau 12;intro _;simp +decide only [zq,zr,List.take,aQ,↓Zab,↓reduceIte,aOp,Zae,Zac,Zag,h1,h6,h8,h9,h10,fldL,la,ixo,ld,ixr,lr,ixx,lx];rfl;dsimp only [List.drop,List.take,List.length];have e10:Ext σ9 (σ9.merge σ9.reset):=(Ext.refl _).merge;generalize σ9.merge σ9.reset=σ10 at e10;have hG10:=hG.ext (e9.trans (e10.trans (Ext.reset σ10)));refine Zbx (vs:=[w,vArc ((x.1:Int),(x.2:Int))]) (by simp +decide only [zq,aevs]) (by decide) rfl (C.mono (insert (X:=[]) hG10 (by omega) (fun _ h=>(nomatch h))) ?_)
  rintro u s ⟨e11,l',hG11,hl11,hm11,hin,hasc,hkp⟩;refine ⟨e11.quiet,?_⟩;have e11:Ext σ9 (σ10.merge s):=e10.trans e11.merge;have hG11:GRow (σ10.merge s) u l':=hG11;generalize σ10.merge s=σ11 at e11 hG11;apply ZaO;intro _;simp +decide only [zq,zr,aQ,↓Zab,↓reduceIte,aOp];rfl;have e12:Ext σ11 (σ11.merge σ11.reset):=(Ext.refl _).merge;generalize σ11.merge σ11.reset=σ12 at e12;have hG12:=hG11.ext e12;have E12:=E9.trans (e11.trans e12);show W _ _ _ 117 _ _ _ _;refine Zap ⟨fun _=>?_,fun h=>absurd rfl h⟩;refine Zao ?_;repeat apply Zaa
  apply Zad;intro _;simp +decide only [zq,↓Zab,↓reduceIte,aOp,Zah,h10,U.addI,w10];rfl;refine Zap ⟨fun _=>⟨k+1,by omega,hlk,⟨E12,⟨u,l',?_,hG12,by omega,hasc hla,fun y=>?_⟩,?_,?_,?_,?_,?_,?_⟩,?_⟩,fun h=>(nomatch h),fun h=>absurd rfl h⟩
  rotate_left
  ·rw [zT,hcx]
   constructor
   ·intro hy;rcases hm11 y hy with rfl|hy
    ·simp
    ·exact zR.2 (.inl ((hlm y).1 hy))
   ·intro hy;rcases zR.1 hy with hy|hy
    ·exact hkp y ((hlm y).2 hy)
    ·simp at hy;rw [hy];exact hin
  all_goals simp +decide only [zq,h1,h2,h4,h6,h7,h8]
 rintro i r σ3 ⟨hi,⟨e3,A3,R3,N3,h1,h2,h4⟩,h5⟩;have w5:IntKind.i64.wrap ((i:Int)+1)=((i+1:Nat):Int):=by rw [Zas _ (by omega) (by omega)];omega
 by_cases hlt:i<LN.length
 rotate_left
 ·have d1:decide ((i:Int)<(LN.length:Int))=false:=zI (by omega)
  have hi2:i=LN.length:=by omega
  subst hi2;repeat apply Zaa
  apply Zad;intro _;simp +decide only [zq,↓Zab,↓reduceIte,aOp,Zah,Zan,aevs,Zaf,h4,h5,Tryz.underlying22,goInt,aLen,U.lssI,d1];rfl;repeat apply Zaa
  refine ZaC (by simp +decide only [zq]) ?_
  refine ZaA ⟨fun h=>(nomatch h),fun _=>⟨e3,A3,R3,N3,?_,?_,?_⟩,fun h1 h2=>absurd rfl h2⟩<;>simp +decide only [zq,h1,h2,h4]
 have d1:decide ((i:Int)<(LN.length:Int))=true:=zM (by omega)
 repeat apply Zaa
 apply Zad;intro _;simp +decide only [zq,↓Zab,↓reduceIte,aOp,Zah,Zan,aevs,Zaf,h4,h5,Tryz.underlying22,goInt,aLen,U.lssI,d1];rfl;repeat apply Zaa
 refine ZaQ (by simp +decide only [zq]) ?_
 apply Zak;refine ZaM ?_;have ix:Zal Tryz.prog 22 (slc nb LN.length LN.length) (.int .i64 (i:Int))=some (.pointer (some ⟨nb,i,none⟩)):=by have:=idxI (b:=nb) (cap:=LN.length) hlt;rwa [Nat.zero_add,Nat.mul_one] at this
 have st:ZaK Tryz.prog σ3 3 (.int .i64 (-1)) (.pointer (some ⟨nb,i,none⟩))=some (σ3.put nb ⟨1,3,0,Zgj LN.length (i+1),[]⟩):=by rw [←ZoU];exact Zft N3.get (by rw [Zkq];exact hlt)
 refine Zao ?_;repeat apply Zaa
 apply Zad;intro _;simp +decide only [zq,↓Zab,↓reduceIte,aOp,Zae,ZaE,unn,h4,h5,ix,st];rfl;refine Zap ⟨fun _=>?_,fun h=>absurd rfl h⟩;refine Zao ?_;repeat apply Zaa
 apply Zad;intro _;simp +decide only [zq,↓Zab,↓reduceIte,aOp,Zah,h5,U.addI,w5];rfl;refine Zap ⟨fun _=>⟨i+1,by omega,hlt,⟨Ext.put e3 (by rw [hnx];omega) _,A3.putN (by omega),R3.putN (by omega),⟨N3.lt,by rw [AS.get_put,if_pos rfl]⟩,?_,?_,?_⟩,?_⟩,fun h=>(nomatch h),fun h=>absurd rfl h⟩<;>simp +decide only [zq,h1,h2,h4]
open Abs
theorem Zkf {L:List (List Can.Arc)} {K:Nat} (h:Can.Done L K):∀s,s≤K→Can.knows 1 ((Can.rounds L K).2.take s).flatten=(Can.rounds L s).1.length
 | 0,_=>rfl
 | s+1,hs=>by
  obtain ⟨r,h1,h2,h3,h4,h5⟩:=h.rowOk (s:=s) (by omega)
  rw [zT,h1,List.flatten_append,Can.ZcJ,Zkf h s (by omega)]
  show Can.knows _ (([r]:List (List Can.Arc)).flatten)=_;rw [List.flatten_cons,List.flatten_nil,List.append_nil,h5]
theorem Zky:∀{A:List (List Can.Arc)} {s m:Nat},(∀i r,A[i]?=some r→s+i<Can.knows m (A.take i).flatten∧Can.Asc r∧∀p a q,r=p++a::q→a.2≤Can.knows (Can.knows m (A.take i).flatten) p)→U.ZiS s m A
 | [],s,m,h=>trivial
 | r::A,s,m,h=>by
  obtain ⟨h1,h2,h3⟩:=h 0 r rfl;refine ⟨h1,h2,h3,Zky fun i r' hr'=>?_⟩;have:=h (i+1) r' (by simpa using hr')
  rw [List.take_succ_cons,List.flatten_cons,Can.ZcJ] at this;exact ⟨by have:=this.1;omega,this.2⟩
theorem ZlD {L:List (List Can.Arc)} {K:Nat} (h:Can.Done L K):U.ZiS 0 1 (Can.rounds L K).2:=
 Zky fun i r hr=>by
  have hi:i<K:=by rw [←h.row];exact (zE.1 hr).1
  obtain ⟨r',h1,h2,h3,h4,h5⟩:=h.rowOk hi;obtain rfl:r'=r:=by rw [h1] at hr;exact Option.some.inj hr
  rw [Zkf h i (by omega)]
  exact ⟨by omega,h2,h4⟩
def EvL (x:Nat):Prop:=x=0∨x=2∨x=3∨x=4∨x=5∨x=1025
structure Fit (LN:List (List Can.Arc)):Prop where
 pos:0<LN.length
 len:LN.length≤6
 row:∀r∈LN,r.length≤4
 to:∀r∈LN,∀a∈r,a.2<LN.length
 ev:∀r∈LN,∀a∈r,EvL a.1
theorem fit_of {L0:Lts} {LN:List (List Can.Arc)} (hch:Zq3 L0) (h1:1≤L0.length) (h6:L0.length≤6) (ht:∀l∈L0,∀a∈l,0≤a.2∧a.2<(L0.length:Int)) (hlen:LN.length=L0.length)
  (hL:∀(k:Nat) (row:List Arc) (l:List Can.Arc),L0[k]?=some row→LN[k]?=some l→Lst row (Zbr l)):Fit LN:=by
 have key:∀r∈LN,∃row,row∈L0∧row.length≤4∧(∀a∈row,a.1∈evs)∧Lst row (Zbr r):=fun r hr=>by
  obtain ⟨k,hk⟩:=List.mem_iff_getElem?.1 hr;have hkl:=(zE.1 hk).1;obtain ⟨row,hrow⟩:∃row,L0[k]?=some row:=⟨_,zP (by omega)⟩
  obtain ⟨g1,g2,g3⟩:=hch.1 k row hrow;exact ⟨row,zF hrow,g3,g2,hL k row r hrow hk⟩
 have mem:∀r∈LN,∀a∈r,∃row y,row∈L0∧y∈row∧y.1∈evs∧((a.1:Int),(a.2:Int))=unT y:=fun r hr a ha=>by
  obtain ⟨row,g1,-,g2,g3⟩:=key r hr;obtain ⟨y,hy,e⟩:=g3.mem _ (mem_cast.2 ⟨a,ha,rfl⟩);exact ⟨row,y,g1,hy,g2 y hy,e⟩
 refine ⟨by omega,by omega,fun r hr=>?_,fun r hr a ha=>?_,fun r hr a ha=>?_⟩
 ·obtain ⟨row,-,g1,-,g3⟩:=key r hr;have:=g3.len;rw [ZdC] at this;omega
 ·obtain ⟨row,y,g1,g2,-,e⟩:=mem r hr a ha;have h2:(a.2:Int)=y.2:=by
   have:=congrArg Prod.snd e;unfold unT at this;split at this<;>exact this
  have:=ht row g1 y g2;omega
 ·obtain ⟨row,y,-,-,g2,e⟩:=mem r hr a ha;have h2:=congrArg Prod.fst e;unfold unT at h2;unfold evs at g2;simp only [List.mem_cons,List.not_mem_nil,or_false] at g2;unfold EvL;split at h2
  ·have h2:(a.1:Int)=5:=h2;omega
  ·have h2:(a.1:Int)=y.1:=h2;omega
section
variable {LN:List (List Can.Arc)} {K:Nat}
theorem Fit.done (F:Fit LN) (h:Can.Done LN K):Fit (Can.rounds LN K).2:=by
 have hb:=Can.ZdT (Can.Inv.rounds LN K).nodup (Can.Zhi F.pos F.to K);have hz:=(Can.Inv.rounds LN K).zero;have hp:0<(Can.rounds LN K).1.length:=(zE.1 hz).1;have h1:=h.row;have h2:=h.old;have:=F.len;refine ⟨by omega,by omega,fun r hr=>Can.Zf7 F.row K hr,fun r hr a ha=>?_,fun r hr a ha=>?_⟩
 ·have:=(Can.Zik K hr ha).2;omega
 ·obtain ⟨⟨o,x,hx,e⟩,-⟩:=Can.Zik K hr ha;rw [e];rw [zL] at hx;cases ho:LN[o]? with
  | none=>rw [ho] at hx;simp at hx
  | some l=>rw [ho] at hx;exact F.ev l (zF ho) x hx
theorem Fit.small (F:Fit LN):U.Small LN:=by
 have:=F.len;refine ⟨List.length_pos_iff.1 F.pos,by omega,fun l hl=>by have:=F.row l hl;omega,fun l hl x hx=>?_,F.to⟩
 have:=F.ev l hl x hx;unfold EvL at this;unfold U.Ev;omega
theorem ZfP {row:List Arc} (h:row∈castL LN):∃r∈LN,row=Zbr r:=by
 unfold castL at h;obtain ⟨r,h1,h2⟩:=List.mem_map.1 h;exact ⟨r,h1,h2.symm⟩
theorem Fit.arc (F:Fit LN) {row:List Arc} (h:row∈castL LN) {a:Arc} (ha:a∈row):(0≤a.1∧a.1≤1025∧a.1≠1)∧0≤a.2∧a.2<(LN.length:Int):=by
 obtain ⟨r,hr,rfl⟩:=ZfP h;obtain ⟨y,hy,rfl⟩:=mem_cast.1 ha;have h1:=F.ev r hr y hy;have h2:=F.to r hr y hy;unfold EvL at h1;dsimp only;omega
theorem Fit.len_row (F:Fit LN) {row:List Arc} (h:row∈castL LN):row.length≤4:=by
 obtain ⟨r,hr,rfl⟩:=ZfP h;rw [ZdC];exact F.row r hr
theorem mem_evK {L:Lts} {n:Nat} {e:Int}:e∈evK L n↔∃k:Nat,k<n∧e=(k:Int)∧(L.any fun row=>row.any fun a=>decide (a.1=(k:Int)))=true:=by
 unfold evK;rw [List.mem_map]
 constructor
 ·rintro ⟨k,hk,rfl⟩;obtain ⟨h1,h2⟩:=List.mem_filter.1 hk;exact ⟨k,List.mem_range.1 h1,rfl,h2⟩
 ·rintro ⟨k,h1,rfl,h2⟩;exact ⟨k,List.mem_filter.2 ⟨List.mem_range.2 h1,h2⟩,rfl⟩
theorem ZiD (L:Lts) (n:Nat):(evK L n).Pairwise (·<·):=by
 unfold evK;rw [List.pairwise_map];exact (List.pairwise_lt_range.filter _).imp fun h=>by omega
theorem ZqS {L:Lts} {n:Nat}:∀e∈evK L n,0≤e∧e<(n:Int):=fun e he=>by
 obtain ⟨k,h1,rfl,-⟩:=mem_evK.1 he;omega
theorem Fit.lok (F:Fit LN) (hA:∀r∈LN,Can.Asc r):LOk (castL LN) (evK (castL LN) 1026):=by
 have:=F.len;refine ⟨by rw [Zcv];exact this,fun row hr a ha=>?_,fun row hr=>by have:=F.len_row hr;omega,fun row hr=>?_,fun row hr a ha=>?_,fun e he=>(ZqS e he).1,by have:=ZlA (castL LN) 1026;omega,ZiD _ _⟩
 ·have:=F.arc hr ha;rw [Zcv];omega
 ·obtain ⟨r,h1,rfl⟩:=ZfP hr;exact Zjf (hA r h1)
 ·have h1:=F.arc hr ha;refine mem_evK.2 ⟨a.1.toNat,by omega,by omega,List.any_eq_true.2 ⟨row,hr,List.any_eq_true.2 ⟨a,ha,?_⟩⟩⟩
  rw [decide_eq_true_eq];omega
theorem Fit.wf (F:Fit LN):WF (castL LN):=by
 have:=F.len;refine ⟨by rw [Zcv];omega,fun r hr=>by have:=F.len_row hr;omega,fun r hr a ha=>?_⟩
 have:=F.arc hr ha;rw [Zcv];omega
theorem Fit.smallL (F:Fit LN):Small (castL LN):=by
 have:=F.len;exact ⟨by rw [Zcv];omega,fun r hr=>by have:=F.len_row hr;omega⟩
theorem Zqy {b:Nat}:∀{l:List (List Arc)},(∀r∈l,r.length≤b)→(l.map List.length).sum≤l.length*b
 | [],_=>by simp
 | r::l,h=>by
  have h1:=Zqy (l:=l) fun r hr=>h r (List.mem_cons_of_mem _ hr);have h2:=h r List.mem_cons_self;rw [List.map_cons,List.sum_cons,List.length_cons,Nat.add_mul];omega
theorem Fit.valid (F:Fit LN) (hA:∀r∈LN,Can.Asc r):Zec (castL LN)=true:=by
 have h1:=F.pos;have h2:=F.len;have h3:Zed (castL LN)≤(castL LN).length*4:=Zqy fun r hr=>F.len_row hr;rw [Zcv] at h3;unfold Zec Zco;rw [Bool.and_eq_true];refine ⟨?_,List.all_eq_true.2 fun r hr=>?_⟩
 ·simp only [Bool.and_eq_true,decide_eq_true_eq];rw [Zcv];refine ⟨⟨⟨by omega,by omega⟩,by omega⟩,List.all_eq_true.2 fun r hr=>List.all_eq_true.2 fun a ha=>?_⟩
  have:=F.arc hr ha;unfold okA;simp only [Bool.and_eq_true,decide_eq_true_eq];omega
 ·obtain ⟨r',h1,rfl⟩:=ZfP hr;exact Zjf (hA r' h1)
theorem Zqh (h:Can.Done LN K):∀r∈(Can.rounds LN K).2,Can.Asc r:=fun r hr=>by
 obtain ⟨i,hi⟩:=List.mem_iff_getElem?.1 hr;have hlt:=(zE.1 hi).1;rw [h.row] at hlt;obtain ⟨r',h1,h2,-⟩:=h.rowOk hlt;rw [hi] at h1;cases h1;exact h2
end
end Go.Proofs.YteangeffgjolpaaGreatDoor.Nest
