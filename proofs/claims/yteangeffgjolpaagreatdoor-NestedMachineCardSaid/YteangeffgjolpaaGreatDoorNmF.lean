/- The generator. -/
import Derived.Test.YteangeffgjolpaaGreatDoorNmC
import Derived.Test.YteangeffgjolpaaGreatDoorProg
import Derived.KernelRfl
set_option linter.unusedSimpArgs false
set_option linter.unusedVariables false
set_option maxHeartbeats 64000000
namespace Go.Proofs.YteangeffgjolpaaGreatDoor.Nest
open Abs
def GenC (f:FuncId) (c m:Nat) (A:Lts→Prop):Prop:=∀{σ:AS} {tb k:Nat} {n:Int},Tape tb σ k→k≤2^60→1≤n→n≤100→C Tryz.prog Kn 0 f [.pointer (some ⟨tb,0,none⟩),.int .i64 n] σ fun v σ'=>
 ∃lb L cap,v=.agg #[.slice (some ⟨lb,0,none⟩) L.length cap]∧σ.next≤lb∧Tape tb σ' (k+c)∧ExtX [tb] σ σ'∧Gen tb lb σ' L m∧1≤L.length∧L.length≤100∧A L∧(L.length:Int)≤n
def GoodN (L:Lts) (b:Nat→Nat):Prop:=∀s l,L[s]?=some l→asc l=true∧(∀a∈l,a.1∈evs)∧l.length≤b s
theorem GoodN.up {L:Lts} {b b':Nat→Nat} (h:GoodN L b) (hb:∀s,b s≤b' s):GoodN L b':=fun s l hl=>⟨(h s l hl).1,(h s l hl).2.1,zB (h s l hl).2.2 (hb s)⟩
theorem GoodN.set {L:Lts} {i:Nat} {l l':List Arc} {a:Arc} {b b':Nat→Nat} (h:GoodN L b) (hl:L[i]?=some l) (h1:∀x∈l',x=a∨x∈l) (h2:asc l=true→asc l'=true) (h3:a.1∈evs) (h4:l'.length≤l.length+1) (hb:∀s,s≠i→b s≤b' s) (hi:b i+1≤b' i):GoodN (L.set i l') b':=fun s r hr=>by
 have h5:=h i l hl;by_cases e:i=s
 ·subst e;rw [List.getElem?_set_self (zE.1 hl).1] at hr;cases hr;exact ⟨h2 h5.1,fun x hx=>by
   rcases h1 x hx with rfl|h6
   ·exact h3
   ·exact h5.2.1 x h6,by omega⟩
 ·rw [List.getElem?_set_ne e] at hr;have h6:=h s r hr;exact ⟨h6.1,h6.2.1,zB h6.2.2 (hb s fun e2=>e e2.symm)⟩
def ChainTo (L:Lts) (i:Nat):Prop:=∀s,s<i→∃row,L[s]?=some row∧∃a∈row,a.2=((s+1:Nat):Int)
def Zq3 (L:Lts):Prop:=GoodN L (fun _=>4)∧ChainTo L (L.length-1)
theorem ChainTo.set {L:Lts} {i:Nat} {l':List Arc} {a:Arc} (h:ChainTo L i) (hi:i<L.length) (ha:a∈l') (h2:a.2=((i+1:Nat):Int)):ChainTo (L.set i l') (i+1):=fun s hs=>by
 by_cases e:i=s
 ·subst e;exact ⟨l',List.getElem?_set_self hi,a,ha,h2⟩
 ·obtain ⟨row,h3,h4⟩:=h s (by omega)
  exact ⟨row,by rw [List.getElem?_set_ne e];exact h3,h4⟩
structure BoxAt (σ:AS) (b:Nat) (s:Value):Prop where
 lt:b<σ.next
 get:σ.get b=⟨1,27,0,[s],[]⟩
theorem BoxAt.ext {σ σ':AS} {b:Nat} {s:Value} (h:BoxAt σ b s) (e:Ext σ σ'):BoxAt σ' b s:=⟨e.lt h.lt,(e.get b h.lt).trans h.get⟩
theorem BoxAt.extX {X:List Nat} {σ σ':AS} {b:Nat} {s:Value} (h:BoxAt σ b s) (e:ExtX X σ σ') (hx:b∉X):BoxAt σ' b s:=⟨e.lt h.lt,(e.get b h.lt hx).trans h.get⟩
theorem BoxAt.load {σ:AS} {b:Nat} {s:Value} (h:BoxAt σ b s):Zat Tryz.prog σ 27 (.pointer (some ⟨b,0,none⟩))=some (.agg #[s]):=
 ZbK Tryz.underlying27 rfl (i:=(Tryz.prog.info? 27).get!) (by kernel_rfl) (by rw [show ((Tryz.prog.info? 27).get!).size=1 by kernel_rfl];exact Zaq h.get rfl (zA _))
theorem BoxAt.out {σ:AS} {b:Nat} {s:Value} (h:BoxAt σ b s):Zat Tryz.prog σ 25 (.pointer (some ⟨b,0,none⟩))=some s:=Zaw Tryz.underlying25 rfl (Zaq h.get rfl (zA _))
theorem BoxAt.reset {σ:AS} {b:Nat} {s:Value} (h:BoxAt σ b s):BoxAt σ.reset b s:=h.ext (Ext.reset _)
theorem GRow.sv {X:List Nat} {σ:AS} {v:Value} {l:List Arc} (h:GRow (hid X σ) v l):(vsc σ.next 9 v&&veq 9 v v)=true:=by
 rcases h with ⟨rfl,rfl⟩|⟨_,b,rfl,h2,_⟩
 ·exact ZnX
 ·rw [ZbH] at h2;exact ZbA h2
theorem GRow.same {X:List Nat} {σ σ':AS} {v:Value} {l:List Arc} (h:GRow (hid X σ) v l) (hn:σ'.next=σ.next) (hg:∀i,σ'.get i=σ.get i):GRow (hid X σ') v l:=by
 refine h.imp_right fun ⟨h0,b,h1,h2,h3⟩=>⟨h0,b,h1,by rw [ZbH] at h2 ⊢;omega,?_⟩
 by_cases hb:b∈X
 ·rw [Zdv _ hb] at h3 ⊢;exact h3
 ·rw [Zcd _ hb] at h3 ⊢;rw [hg];exact h3
theorem Tape.same {tb k:Nat} {σ σ':AS} (h:Tape tb σ k) (hn:σ'.next=σ.next) (hg:∀i,σ'.get i=σ.get i):Tape tb σ' k:=by
 obtain ⟨h1,lv,ints,pos,h2,⟨base,cap,e,hb⟩,h4⟩:=h;refine ⟨by omega,lv,ints,pos,by rw [hg];exact h2,⟨base,cap,e,fun hl=>?_⟩,h4⟩
 obtain ⟨b,off,e1,e2,e3⟩:=hb hl;refine ⟨b,off,e1,by rw [ZbH] at e2 ⊢;omega,fun i x hx=>?_⟩
 obtain ⟨cs,h5,h6⟩:=e3 i x hx;refine ⟨cs,?_,h6⟩;have:(hid [tb] σ').get b=(hid [tb] σ).get b:=by
  by_cases hb:b∈[tb]
  ·rw [Zdv _ hb,Zdv _ hb]
  ·rw [Zcd _ hb,Zcd _ hb,hg]
 unfold Zav at h5 ⊢;rw [this];exact h5
theorem Gen.same {tb lb m:Nat} {σ σ':AS} {L:Lts} (h:Gen tb lb σ L m) (hn:σ'.next=σ.next) (hg:∀i,σ'.get i=σ.get i):Gen tb lb σ' L m:=by
 obtain ⟨h1,h2,⟨rows,h3,h4,h5⟩,h6⟩:=h;exact ⟨by omega,h2,⟨rows,by rw [hg];exact h3,h4,fun i v l hv hl=>(h5 i v l hv hl).same hn hg⟩,h6⟩
theorem GRow.box {X:List Nat} {σ:AS} {v s:Value} {l:List Arc} {c:Nat} {B:Blk} (h:GRow (hid X σ) v l) (hb:BoxAt σ c s) (hX:c∉X):GRow (hid X (σ.put c B)) v l:=by
 refine h.imp_right fun ⟨h0,b,h1,h2,h3⟩=>⟨h0,b,h1,by rw [ZbH] at h2 ⊢;exact h2,?_⟩
 have hne:c≠b:=by
  rintro rfl;rw [Zcd _ hX,hb.get] at h3;have:=congrArg Blk.kind h3;simp [outB] at this
 by_cases hx:b∈X
 ·rw [Zdv _ hx] at h3 ⊢;exact h3
 ·rw [Zcd _ hx] at h3 ⊢;rw [AS.get_put,if_neg hne];exact h3
theorem Gen.box {tb lb m c:Nat} {σ:AS} {L:Lts} {s:Value} {B:Blk} (h:Gen tb lb σ L m) (hb:BoxAt σ c s) (h1:c≠tb) (h2:c≠lb):Gen tb lb (σ.put c B) L m:=by
 obtain ⟨g1,g2,⟨rows,g3,g4,g5⟩,g6⟩:=h;exact ⟨g1,g2,⟨rows,by rw [AS.get_put,if_neg h2];exact g3,g4,fun i v l hv hl=>(g5 i v l hv hl).box hb (by simp;exact ⟨h1,h2⟩)⟩,g6⟩
theorem Zo9 {σ:AS} {a:Addr} {n:Nat} {cs:List Value} (h:Zav σ a n=some cs):∀x∈cs,x∈(σ.get a.block).vals:=by
 unfold Zav at h;intro x hx;split at h
 ·cases h;exact List.mem_of_mem_drop (List.mem_of_mem_take hx)
 ·split at h
  ·cases h;exact List.mem_of_mem_drop (List.mem_of_mem_take hx)
  ·cases h
theorem Tape.put {tb k c:Nat} {σ:AS} {B:Blk} (h:Tape tb σ k) (h1:c≠tb) (hv:∀x,Value.int .i64 x∉(σ.get c).vals):Tape tb (σ.put c B) k:=by
 obtain ⟨g1,lv,ints,pos,g2,⟨base,cap,e,g⟩,g4⟩:=h;refine ⟨g1,lv,ints,pos,by rw [AS.get_put,if_neg h1];exact g2,⟨base,cap,e,fun hl=>?_⟩,g4⟩
 obtain ⟨b,off,e1,e2,e3⟩:=g hl;refine ⟨b,off,e1,by rw [ZbH] at e2 ⊢;exact e2,fun i x hx=>?_⟩
 obtain ⟨cs,h5,h6⟩:=e3 i x hx;refine ⟨cs,?_,h6⟩;obtain ⟨hbt,h7⟩:=ZhF h5;have hne:c≠b:=by
  rintro rfl;unfold RInt at h6;exact hv x (Zo9 h7 _ (by rw [h6];exact List.mem_cons_self))
 have hq:(hid [tb] (σ.put c B)).get b=σ.get b:=by rw [Zcd _ hbt,AS.get_put,if_neg hne]
 unfold Zav at h7 ⊢;rw [hq];exact h7
theorem Tape.box {tb k c:Nat} {σ:AS} {s:Value} {B:Blk} (h:Tape tb σ k) (hb:BoxAt σ c s) (h1:c≠tb) (hs:∀x,s≠.int .i64 x):Tape tb (σ.put c B) k:=
 h.put h1 fun x hx=>by
  rw [hb.get] at hx;exact hs x (List.mem_singleton.1 hx).symm
theorem Gen.ints {tb lb m:Nat} {σ:AS} {L:Lts} (h:Gen tb lb σ L m) (x:Int):Value.int .i64 x∉(σ.get lb).vals:=by
 obtain ⟨_,_,⟨rows,g3,g4,g5⟩,_⟩:=h;rw [g3];intro hx;obtain ⟨i,hi⟩:=List.mem_iff_getElem?.1 hx;have hlt:=(zE.1 hi).1;obtain ⟨b,c,e⟩:=(g5 i _ (L[i]'(by simp at hlt;omega)) hi (by simp)).slice
 cases e
theorem ZcP {σ:AS}:Zcl Tryz.prog σ 27=some (.pointer (some ⟨σ.next,0,none⟩),σ.new ⟨1,27,0,[.slice none 0 0],[]⟩):=by kernel_rfl
theorem ZdM {σ:AS} {b:Nat} {x:Value} {p:Option Addr} {n c:Nat} (h:σ.get b=⟨1,27,0,[x],[]⟩) :
  ZaK Tryz.prog σ 27 (.agg #[.slice p n c]) (.pointer (some ⟨b,0,none⟩))=some (σ.put b ⟨1,27,0,[.slice p n c],[]⟩):=by
 obtain ⟨inf,hi2,hs⟩:∃inf,Tryz.prog.info? 27=some inf∧inf.size=1:=⟨(Tryz.prog.info? 27).get!,by kernel_rfl,by kernel_rfl⟩
 have hz:Nat.beq (Value.agg #[.slice p n c]).cells.size 1=true:=rfl;have hc:(Value.agg #[.slice p n c]).cells.toList=[.slice p n c]:=rfl;unfold ZaK;simp only [hi2,hs,hz,if_true,hc];unfold Zbc;simp only [h,ZaJ,List.length_cons,List.length_nil,Nat.zero_add];rfl
theorem ZmP {b off len cap i:Nat} (h:i<len):Zal Tryz.prog 25 (.slice (some ⟨b,off,none⟩) len cap) (.int .i64 (i:Int))=some (.pointer (some ⟨b,off+i,none⟩)):=by
 have:=Zia (b:=b) (off:=off) (cap:=cap) h
 rwa [Nat.mul_one] at this
theorem chain (ins:Zpp) (lts:GenC 18 1000 400 (fun L=>GoodN L fun _=>3)):GenC 7 2000 600 Zq3:=by
 intro σ tb k n hT hk hn1 hn2;refine C_of (kn (by decide)) Tryz.func7 rfl (zD rfl) ?_
 show W _ _ _ 34 _ _ _ _;unfold Tryz.f7;dsimp only;repeat apply Zaa
 apply Zad;intro _;simp +decide only [zq,ZaI,↓Zab,↓reduceIte,aOp,ZcP];rfl;have E0:Ext σ (σ.new ⟨1,27,0,[.slice none 0 0],[]⟩):=Ext.new _ _;have BR:BoxAt (σ.new ⟨1,27,0,[.slice none 0 0],[]⟩) σ.next (.slice none 0 0):=⟨zG _,by rw [AS.get_new,if_pos rfl]⟩
 have T0:=hT.ext E0;have htb:tb<σ.next:=hT.lt;generalize σ.new ⟨1,27,0,[.slice none 0 0],[]⟩=σ1 at E0 BR T0;repeat apply Zaa
 apply ZaF;apply Zay 2;intro _;simp +decide only [zq,List.take,↓Zab,↓reduceIte,aOp];rfl;dsimp only [List.drop];refine ZaV (vs:=[.pointer (some ⟨tb,0,none⟩),.int .i64 n]) (by simp +decide only [zq,aevs]) (by decide) (C.mono (lts T0 hk hn1 hn2) ?_)
 rintro v σ' ⟨lb,L0,cap,rfl,hlb,TP,EX,GN,hL1,hL2,hGd,hLn⟩;have hlb2:σ.next<lb:=zC BR.lt hlb;have BR:=BR.extX EX (by simp;omega)
 generalize hb5:σ'.next=b5;have hl5:lb<b5:=hb5▸GN.lt;apply ZaG;intro _;simp +decide only [zq,↓Zab,↓reduceIte,aOp,ZaE,unn,ZcP,hb5,ZdM (σ:=σ'.new ⟨1,27,0,[.slice none 0 0],[]⟩) (b:=b5) (x:=.slice none 0 0) (by rw [AS.get_new,if_pos hb5])];rfl
 have e1:Ext σ' ((σ'.new ⟨1,27,0,[.slice none 0 0],[]⟩).put b5 ⟨1,27,0,[.slice (some ⟨lb,0,none⟩) L0.length cap],[]⟩):=Ext.put (Ext.new _ _) (by omega) _
 have BX:BoxAt ((σ'.new ⟨1,27,0,[.slice none 0 0],[]⟩).put b5 ⟨1,27,0,[.slice (some ⟨lb,0,none⟩) L0.length cap],[]⟩) b5 (.slice (some ⟨lb,0,none⟩) L0.length cap):=⟨by rw [←hb5];exact zG _,by rw [AS.get_put,if_pos rfl]⟩
 have BR:=BR.ext e1;have TP:=TP.ext e1;have GN:=GN.ext e1;have EX:=EX.trans (ExtX.of e1);have hlt0:=e1.nxt;generalize (σ'.new ⟨1,27,0,[.slice none 0 0],[]⟩).put b5 ⟨1,27,0,[.slice (some ⟨lb,0,none⟩) L0.length cap],[]⟩=σ2 at e1 BX BR TP GN EX hlt0;repeat apply Zaa
 apply Zad;intro _;simp +decide only [zq,↓Zab,↓reduceIte,aOp];rfl;repeat apply Zaa
 refine Zdc (fun (x:Nat×Lts) r σ'=>x.1≤100∧x.2.length=L0.length∧rget r 0=.pointer (some ⟨tb,0,none⟩)∧rget r 4=.pointer (some ⟨σ.next,0,none⟩)∧rget r 5=.pointer (some ⟨b5,0,none⟩)∧rget r 6=.int .i64 (x.1:Int)∧
   Tape tb σ' (k+1000+x.1)∧Gen tb lb σ' x.2 (400+x.1)∧BoxAt σ' b5 (.slice (some ⟨lb,0,none⟩) L0.length cap)∧BoxAt σ' σ.next (.slice none 0 0)∧ExtX [tb,lb] σ2 σ'∧GoodN x.2 (fun s=>if s<x.1 then 4 else 3)∧ChainTo x.2 x.1)
  (fun x=>100-x.1) ?_ (0,L0) ?_
 rotate_left
 ·simp +decide only [zq];refine ⟨?_,?_,?_,?_,?_,?_,TP,GN,BX,BR,ExtX.refl _ _,GoodN.up hGd (fun s=>by (try dsimp only)<;>(repeat' split)<;>omega),fun s hs=>absurd hs (Nat.not_lt_zero s)⟩<;>first|trivial|rfl
 rintro ⟨i,L⟩ r σ3 ⟨hi,hL,h0,h4,h5,h6,TP,GN,BX,BR,EY,hGd,hCh⟩;dsimp only at hi hL h6 TP GN hGd hCh;have w1:IntKind.i64.wrap ((i:Int)+1)=((i+1:Nat):Int):=by rw [Zas _ (by omega) (by omega)];omega
 repeat apply Zaa
 apply Zad;intro _;simp +decide only [zq,↓Zab,↓reduceIte,aOp,Zah,Zan,Zac,Zag,aevs,Zaf,aLen,h5,h6,w1,fldL,BX.out,Tryz.underlying25,goInt,aBin,ZaB,Zam];rfl;repeat apply Zaa
 refine W_if (b:=decide (((i+1:Nat):Int)<(L0.length:Int))) ?_ ?_ ?_
 ·simp +decide only [zq]
 rotate_left
 ·intro hb;refine ZaA ⟨fun h=>(nomatch h),fun _=>?_,fun h1 h2=>absurd rfl h2⟩;repeat apply Zaa
  apply Zad;intro _;simp +decide only [zq,↓Zab,↓reduceIte,aOp,Zag,ZaE,unn,h4,h5,BX.load,ZdM BR.get];rfl;have EZ:ExtX [tb,lb,σ.next] σ1 (σ3.put σ.next ⟨1,27,0,[.slice (some ⟨lb,0,none⟩) L0.length cap],[]⟩):=
   ((EX.sub (by simp)).trans (EY.sub (by simp))).put (by simp) _
  have EF:ExtX [tb] σ (σ3.put σ.next ⟨1,27,0,[.slice (some ⟨lb,0,none⟩) L0.length cap],[]⟩):=(ExtX.of E0).drop (lb:=lb) EZ (by simp;omega)
  have GF:=(GN.box (B:=⟨1,27,0,[.slice (some ⟨lb,0,none⟩) L0.length cap],[]⟩) BR (by omega) (by omega)).up (m':=600) (by omega)
  have TF:=(TP.box (B:=⟨1,27,0,[.slice (some ⟨lb,0,none⟩) L0.length cap],[]⟩) BR (by omega) (by intro x h;cases h)).up (k':=k+2000) (by omega)
  have BF:BoxAt (σ3.put σ.next ⟨1,27,0,[.slice (some ⟨lb,0,none⟩) L0.length cap],[]⟩) σ.next (.slice (some ⟨lb,0,none⟩) L0.length cap):=⟨BR.lt,by rw [AS.get_put,if_pos rfl]⟩
  generalize σ3.put σ.next ⟨1,27,0,[.slice (some ⟨lb,0,none⟩) L0.length cap],[]⟩=σF at EF GF TF BF;refine ZaL ⟨zA _,[.agg #[.slice (some ⟨lb,0,none⟩) L0.length cap]],?_,?_⟩
  ·simp +decide only [zq,Zaj,h4,BF.load]
  ·exact ⟨lb,L,cap,by rw [hL];rfl,by omega,TF,EF,GF,by omega,by omega,⟨GoodN.up hGd (fun s=>by (try dsimp only)<;>(repeat' split)<;>omega),fun s hs=>hCh s (by have:=of_decide_eq_false hb;omega)⟩,by rw [hL];exact hLn⟩
 intro hb;have hb:i+1<L0.length:=by
  have:=of_decide_eq_true hb;omega
 apply Zak;refine ZaM ?_;refine Zao ?_;obtain ⟨v,l,hl,hlm,hg,hld⟩:=GN.at (i:=i) (by omega)
 obtain ⟨vb,vc,hv⟩:=hg.slice;have hE:ExtX [tb] σ3 σ3:=ExtX.refl _ _;repeat apply Zaa
 refine Za8 [1,4,7] [b5,lb] (by kernel_rfl) (by kernel_rfl) ?_
 apply Zau 1;intro _;simp +decide only [zq,zr,List.take,aQ,↓Zab,↓reduceIte,aOp,Zac,h5,fldL];rfl;dsimp only [List.drop,List.take,List.length];have e0:Ext σ3 (σ3.merge σ3.reset):=(Ext.refl _).merge;have TP:=TP.ext e0;have GN:=GN.ext e0;have BX:=BX.ext e0;have BR:=BR.ext e0;have hE:=hE.trans (ExtX.of e0);generalize σ3.merge σ3.reset=σ4 at e0 TP GN BX BR hE;refine ZaZ (b:=b5) (off:=0) (v:=.slice (some ⟨lb,0,none⟩) L0.length cap) (by simp +decide only [zq]) BX.reset.out (ZbA GN.lt) BX.lt (by simp [memb]) (by decide) ?_
 have e0:Ext σ4 (σ4.merge σ4.reset):=(Ext.refl _).merge;have TP:=TP.ext e0;have GN:=GN.ext e0;have BX:=BX.ext e0;have BR:=BR.ext e0;have hE:=hE.trans (ExtX.of e0);generalize σ4.merge σ4.reset=σ5 at e0 TP GN BX BR hE;apply Zau 2;intro _;simp +decide only [zq,zr,List.take,aQ,↓Zab,↓reduceIte,aOp,Zac,h5,h6,fldL];rfl;dsimp only [List.drop,List.take,List.length];have e0:Ext σ5 (σ5.merge σ5.reset):=(Ext.refl _).merge;have TP:=TP.ext e0;have GN:=GN.ext e0;have BX:=BX.ext e0;have BR:=BR.ext e0;have hE:=hE.trans (ExtX.of e0);generalize σ5.merge σ5.reset=σ6 at e0 TP GN BX BR hE;refine ZaZ (b:=b5) (off:=0) (v:=.slice (some ⟨lb,0,none⟩) L0.length cap) (by simp +decide only [zq]) BX.reset.out (ZbA GN.lt) BX.lt (by simp [memb]) (by decide) ?_
 have e0:Ext σ6 (σ6.merge σ6.reset):=(Ext.refl _).merge;have TP:=TP.ext e0;have GN:=GN.ext e0;have BX:=BX.ext e0;have BR:=BR.ext e0;have hE:=hE.trans (ExtX.of e0);generalize σ6.merge σ6.reset=σ7 at e0 TP GN BX BR hE;apply Zau 2;intro _;simp +decide only [zq,zr,List.take,aQ,↓Zab,↓reduceIte,aOp,Zae,h6,ZmP (show i<L0.length by omega)];rfl
 dsimp only [List.drop,List.take,List.length];have e0:Ext σ7 (σ7.merge σ7.reset):=(Ext.refl _).merge;have TP:=TP.ext e0;have GN:=GN.ext e0;have BX:=BX.ext e0;have BR:=BR.ext e0;have hE:=hE.trans (ExtX.of e0);generalize σ7.merge σ7.reset=σ8 at e0 TP GN BX BR hE;have hlm':l∈L:=hlm;have HG:=hg.ext (hE.sub (Y:=[tb,lb]) (by simp)).hid
 refine ZaZ (b:=lb) (off:=i) (v:=v) (by simp +decide only [zq]) (hld _ (hE.trans (ExtX.of (Ext.reset _)))) HG.sv GN.lt (by simp [memb]) (by decide) ?_
 have e0:Ext σ8 (σ8.merge σ8.reset):=(Ext.refl _).merge;have TP:=TP.ext e0;have GN:=GN.ext e0;have BX:=BX.ext e0;have BR:=BR.ext e0;have hE:=hE.trans (ExtX.of e0);generalize σ8.merge σ8.reset=σ9 at e0 TP GN BX BR hE;apply Zau 1;intro _;simp +decide only [zq,zr,List.take,aQ,↓Zab,↓reduceIte,aOp,h0];rfl;dsimp only [List.drop,List.take,List.length];have e0:Ext σ9 (σ9.merge σ9.reset):=(Ext.refl _).merge;have TP:=TP.ext e0;have GN:=GN.ext e0;have BX:=BX.ext e0;have BR:=BR.ext e0;have hE:=hE.trans (ExtX.of e0);generalize σ9.merge σ9.reset=σ10 at e0 TP GN BX BR hE;refine ZiR (vs:=[.pointer (some ⟨tb,0,none⟩)]) (by simp +decide only [zq,aevs]) (by decide) (by kernel_rfl) (by kernel_rfl) (C.mono (ZrQ (TP.ext (Ext.reset _)) (by omega)) ?_)
 rintro v2 s1 ⟨⟨ev,rfl,hev⟩,T1,E1⟩;refine ⟨fun x hx hlt=>E1.get x hlt (by simp at hx ⊢;rcases hx with rfl|rfl<;>omega),?_⟩
 have T1:Tape tb (σ10.merge s1) (k+1000+i+1):=T1.same rfl fun _=>rfl;have E1:ExtX [tb] σ10 (σ10.merge s1):=E1.merge;have GN:=GN.extX E1;have BX:=BX.extX E1 (by simp;omega)
 have BR:=BR.extX E1 (by simp;omega)
 have hE:=hE.trans E1;clear TP;have TP:=T1;generalize σ10.merge s1=σ11 at TP GN BX BR hE;apply Zau 3;intro _;simp +decide only [zq,zr,List.take,aQ,↓Zab,↓reduceIte,aOp,Zah,Zbl,ZaN,h6,ZhR,w1,aBin,ZaB,Zam];rfl;dsimp only [List.drop,List.take,List.length];have e0:Ext σ11 (σ11.merge σ11.reset):=(Ext.refl _).merge;have TP:=TP.ext e0;have GN:=GN.ext e0;have BX:=BX.ext e0;have BR:=BR.ext e0;have hE:=hE.trans (ExtX.of e0);generalize σ11.merge σ11.reset=σ12 at e0 TP GN BX BR hE;have hlm':l∈L:=hlm;have HG:=hg.ext (hE.sub (Y:=[tb,lb]) (by simp)).hid
 refine Zbx (vs:=[v,vArc (ev,((i+1:Nat):Int))]) (by simp +decide only [zq,aevs]) (by decide) (by kernel_rfl) (C.mono (ins (X:=[tb,lb]) (HG.ext (Ext.hid (Ext.reset _))) (by have:=(GN.row l hlm').1;omega) (by simp;exact ⟨TP.lt,GN.lt⟩)) ?_)
 rintro v' s2 ⟨E2,l',hg2,hl2,ha2,hal,hac⟩;refine ⟨E2.quiet,?_⟩;have E2:Ext σ12 (σ12.merge s2):=E2.merge;have hg2:GRow (hid [tb,lb] (σ12.merge s2)) v' l':=hg2.same rfl fun _=>rfl;have TP:=TP.ext E2;have GN:=GN.ext E2;have BX:=BX.ext E2;have BR:=BR.ext E2;have hE:=hE.trans (ExtX.of E2);generalize σ12.merge s2=σ13 at TP GN BX BR hE hg2;apply Zau 1;intro _;simp +decide only [zq,zr,List.take,aQ,↓Zab,↓reduceIte,aOp,Zae,ZmP (show i<L0.length by omega)];rfl
 dsimp only [List.drop,List.take,List.length];have e0:Ext σ13 (σ13.merge σ13.reset):=(Ext.refl _).merge;have TP:=TP.ext e0;have GN:=GN.ext e0;have BX:=BX.ext e0;have BR:=BR.ext e0;have hE:=hE.trans (ExtX.of e0);have hg2:=hg2.ext (Ext.hid e0);generalize σ13.merge σ13.reset=σ14 at e0 TP GN BX BR hE hg2;have hmx:∀x∈l',0≤x.2∧x.2<(L.length:Int):=fun x hx=>by
  rcases ha2 x hx with rfl|h9
  ·exact ⟨by show (0:Int)≤((i+1:Nat):Int);omega,by show ((i+1:Nat):Int)<_;omega⟩
  ·exact (GN.row l hlm').2 x h9
 have hll:=(GN.row l hlm').1;obtain ⟨rows,hr1,hr2,hr3,hr4⟩:=((GN.ext (Ext.reset σ14)).up (m':=400+(i+1)) (by omega)).set (i:=i) (hg2.ext (Ext.hid (Ext.reset _))) (by omega) hmx
 obtain ⟨vb2,vc2,hv2⟩:=hg2.slice;refine Zf5 (b:=lb) (off:=i) (v:=v') (by simp +decide only [zq]) (by simp +decide only [zq]) (Zn4 hv2 hr1 (by omega)) (fun y hy=>by rw [AS.get_put,if_neg (fun e=>hy e.symm)];rfl) (by kernel_rfl) (by kernel_rfl) (by kernel_rfl) ?_
 have EM:ExtX [tb,lb] σ14 (σ14.merge (σ14.reset.put lb ⟨1,44,0,rows.set i v',[]⟩)):=hr4.merge;have TP:Tape tb (σ14.merge (σ14.reset.put lb ⟨1,44,0,rows.set i v',[]⟩)) (k+1000+i+1):=((TP.ext (Ext.reset σ14)).put (B:=⟨1,44,0,rows.set i v',[]⟩) GN.ne (GN.ext (Ext.reset σ14)).ints).same rfl fun _=>rfl;have GN:Gen tb lb (σ14.merge (σ14.reset.put lb ⟨1,44,0,rows.set i v',[]⟩)) (L.set i l') (400+(i+1)):=hr3.same rfl fun _=>rfl;have BX:=BX.extX EM (by simp;omega)
 have BR:=BR.extX EM (by simp;omega)
 have EY:=EY.trans ((hE.sub (by simp)).trans EM)
 generalize σ14.merge (σ14.reset.put lb ⟨1,44,0,rows.set i v',[]⟩)=σ15 at TP GN BX BR EY;show W _ _ _ 34 _ _ _ _;refine Zap ⟨fun _=>?_,fun h=>absurd rfl h⟩;refine Zao ?_;repeat apply Zaa
 apply Zad;intro _;simp +decide only [zq,↓Zab,↓reduceIte,aOp,Zah,h6,w1,aBin,ZaB,Zam];rfl;refine Zap ⟨fun _=>⟨(i+1,L.set i l'),?_,?_⟩,fun h=>(nomatch h),fun h=>absurd rfl h⟩
 ·show 100-(i+1)<100-i;omega
 ·refine ⟨by show i+1≤100;omega,by show (L.set i l').length=_;rw [List.length_set];exact hL,?_,?_,?_,?_,TP,GN,BX,BR,EY,hGd.set hl ha2 hac.1 hev hl2 (fun s hs=>by (try dsimp only)<;>(repeat' split)<;>omega) (by (try dsimp only)<;>(repeat' split)<;>omega),hCh.set (by omega) hal rfl⟩
  all_goals simp +decide only [zq,h0,h4,h5]
theorem Zff {a b c:Arc} (h:Zb2 a b=true) (k:Zb2 b c=true):Zb2 a c=true:=by
 unfold Zb2 at *;simp only [Bool.or_eq_true,Bool.and_eq_true,decide_eq_true_eq] at *;omega
theorem Zll {a b:Arc} (h:Zb2 a b=false) (hne:a≠b):Zb2 b a=true:=by
 cases hq:Zb2 b a with
 | true=>rfl
 | false=>
  exfalso
  apply hne;unfold Zb2 at h hq;simp only [Bool.or_eq_false_iff,Bool.and_eq_false_iff,decide_eq_false_iff_not] at h hq;have e1:a.1=b.1:=by omega
  have e2:a.2=b.2:=by omega
  exact Prod.ext e1 e2
theorem asc_pair:∀{l:List Arc},asc l=true↔l.Pairwise fun a b=>Zb2 a b=true
 | []=>by simp [asc]
 | [x]=>by simp [asc]
 | x::y::l=>by
  have ih:=asc_pair (l:=y::l);rw [asc,Bool.and_eq_true,ih]
  constructor
  ·rintro ⟨h1,h2⟩;refine List.pairwise_cons.2 ⟨fun z hz=>?_,h2⟩;rcases List.mem_cons.1 hz with rfl|hz
   ·exact h1
   ·exact Zff h1 ((List.pairwise_cons.1 h2).1 z hz)
  ·intro h;obtain ⟨h1,h2⟩:=List.pairwise_cons.1 h;exact ⟨h1 y (by simp),h2⟩
theorem ZiI {l:List Arc} {a:Arc} {i:Nat} (h:asc l=true) (h1:∀y∈l.take i,Zb2 y a=true) (h2:∀y,l[i]?=some y→Zb2 y a=false∧y≠a):asc (l.take i++[a]++l.drop i)=true:=by
 have hp:=asc_pair.1 h;have hd:∀y∈l.drop i,Zb2 a y=true:=fun y hy=>by
  by_cases hi:i<l.length
  ·rw [List.drop_eq_getElem_cons hi] at hy;obtain ⟨h3,h4⟩:=h2 l[i] (by simp [hi])
   have h5:=Zll h3 h4;rcases List.mem_cons.1 hy with rfl|hy
   ·exact h5
   ·have h6:(l[i]::l.drop (i+1)).Pairwise fun a b=>Zb2 a b=true:=by
     rw [←List.drop_eq_getElem_cons hi];exact hp.sublist (List.drop_sublist _ _)
    exact Zff h5 ((List.pairwise_cons.1 h6).1 y hy)
  ·rw [List.drop_eq_nil_of_le (by omega)] at hy;cases hy
 rw [asc_pair,List.append_assoc,List.pairwise_append];refine ⟨hp.sublist (List.take_sublist _ _),?_,fun x hx y hy=>?_⟩
 ·rw [List.singleton_append,List.pairwise_cons];exact ⟨hd,hp.sublist (List.drop_sublist _ _)⟩
 ·rw [List.singleton_append] at hy;rcases List.mem_cons.1 hy with rfl|hy
  ·exact h1 x hx
  ·exact Zff (h1 x hx) (hd y hy)
def Out (σ0 σ:AS) (v:Value) (m:List Arc):Prop:=
 (m=[]∧∃b0,σ0.next≤b0∧b0<σ.next∧v=.slice (some ⟨b0,0,none⟩) 0 0∧σ.get b0=⟨1,57,0,[],[]⟩)∨
 (m≠[]∧∃b,σ0.next≤b∧b<σ.next∧v=outV b m∧σ.get b=outB m)
theorem Out.ext {σ0 σ σ':AS} {v:Value} {m:List Arc} (h:Out σ0 σ v m) (e:Ext σ σ'):Out σ0 σ' v m:=by
 rcases h with ⟨h0,b,h1,h2,h3,h4⟩|⟨h0,b,h1,h2,h3,h4⟩
 ·exact .inl ⟨h0,b,h1,e.lt h2,h3,(e.get b h2).trans h4⟩
 ·exact .inr ⟨h0,b,h1,e.lt h2,h3,(e.get b h2).trans h4⟩
theorem Out.append {σ0 σ:AS} {v x:Value} {m k:List Arc} (h:Out σ0 σ v m) (hx:Src σ x k) (hn:m.length+k.length≤1000000) (hE:Ext σ0 σ) :
  ∃v' σ',ZaU Tryz.prog σ #[44,44] v x=some (v',σ')∧Out σ0 σ' v' (m++k)∧Ext σ0 σ':=by
 have hnx:=hE.nxt;rcases h with ⟨rfl,b,h1,h2,rfl,h4⟩|⟨h0,b,h1,h2,rfl,h4⟩
 ·by_cases hk:k=[]
  ·subst hk;exact ⟨_,_,append_nil hx h4,.inl ⟨rfl,b,h1,h2,rfl,h4⟩,hE⟩
  ·refine ⟨_,_,ZkI hx hk (by simpa using hn) h4,.inr ⟨hk,σ.next,hnx,zG _,rfl,by rw [AS.get_new,if_pos rfl];rfl⟩,hE.trans (Ext.new _ _)⟩
 ·by_cases hk:k=[]
  ·subst hk;rw [List.append_nil];exact ⟨_,_,ZlV hx (by simpa using hn) h4,.inr ⟨h0,b,h1,h2,rfl,h4⟩,hE⟩
  ·refine ⟨_,_,ZlW hx hk hn h4,.inr ⟨by simp [h0],σ.next,hnx,zG _,rfl,?_⟩,(hE.put h1 _).trans (Ext.new _ _)⟩
   rw [AS.get_new,if_pos];rfl
theorem Out.row {σ0 σ:AS} {v:Value} {m:List Arc} {X:List Nat} (h:Out σ0 σ v m) (hm:m≠[]) (hX:∀x∈X,x<σ0.next):GRow (hid X σ) v m:=by
 rcases h with ⟨h0,_⟩|⟨h0,b,h1,h2,h3,h4⟩
 ·exact absurd h0 hm
 ·refine .inr ⟨h0,b,h3,by rw [ZbH];exact h2,?_⟩
  rw [Zcd _ (fun hx=>by have:=hX b hx;omega)]
  exact h4
theorem insert:Zpp:=by
 intro X σ v l a hg0 hl hX;obtain ⟨vb,vc,rfl⟩:=hg0.slice;refine C_of (kn (by decide)) Tryz.func17 rfl (zD rfl) ?_
 show W _ _ _ 48 _ _ _ _;unfold Tryz.f17;dsimp only;repeat apply Zaa
 apply Zad;intro _;simp +decide only [zq,ZaI,↓Zab,↓reduceIte,aOp,Zbm,aRow];rfl;have A:=ArcAt.new σ a;have e1:=Ext.new σ ⟨1,57,0,(vArc a).cells.toList,[]⟩;generalize σ.new ⟨1,57,0,(vArc a).cells.toList,[]⟩=σ1 at A e1;have hrs:=(hg0.shown.ext e1).rs;repeat apply Zaa
 apply Zad;intro _;simp +decide only [zq,↓Zab,↓reduceIte,aOp];rfl;repeat apply Zaa
 refine Zbs (fun (i:Nat) r σ'=>i≤l.length∧Ext σ1 σ'∧(∀y∈l.take i,Zb2 y a=true)∧rget r 0=.slice vb l.length vc∧rget r 3=.pointer (some ⟨σ.next,0,none⟩)∧rget r 4=.slice none 0 0∧rget r 5=.int .i64 (i:Int))
  (fun i=>l.length-i) (fun r σ'=>∃i,i≤l.length∧Ext σ1 σ'∧(∀y,l[i]?=some y→Zb2 y a=false)∧(∀y∈l.take i,Zb2 y a=true)∧rget r 0=.slice vb l.length vc∧rget r 3=.pointer (some ⟨σ.next,0,none⟩)∧rget r 4=.slice none 0 0∧rget r 5=.int .i64 (i:Int)) ?_ ?_ 0 ?_
 rotate_left 2
 ·simp +decide only [zq];exact ⟨zH _,Ext.refl _,by simp,trivial,trivial,trivial,rfl⟩
 ·rintro i r σ2 ⟨hi,e2,hls,h0,h3,h4,h5⟩;have A2:=A.ext e2;by_cases hlt:i<l.length
  ·have d1:decide ((i:Int)<(l.length:Int))=true:=zM (by omega)
   obtain ⟨x,hx⟩:∃x,l[i]?=some x:=⟨l[i],by simp [hlt]⟩
   obtain ⟨-,b,off,rfl,hbl,hat1⟩:=Zfm hrs hx;repeat apply Zaa
   repeat apply Zaa
   refine Za8 [] [] (by kernel_rfl) (by kernel_rfl) ?_
   apply Zau 10;intro _;simp +decide only [zq,zr,List.take,aQ,↓Zab,↓reduceIte,aOp,Zah,Zan,Zae,Zag,aevs,Zaf,aLen,beq_self_eq_true,h0,h3,h5,d1,Tryz.underlying44,goInt,Zfh hlt,(hat1 _ (e2.trans (Ext.reset _))).1,(A2.ext (Ext.reset _)).load,aBin,ZaB,Zam];rfl;dsimp only [List.drop,List.take,List.length];have e3:=e2.trans ((Ext.refl _).merge (σ:=σ2));generalize σ2.merge σ2.reset=σ3 at e3;refine Zpo (vs:=[vArc x,vArc a]) (by simp +decide only [zq]) (by simp +decide only [zq,aevs]) (by decide) rfl (C.mono (Zox x a) ?_)
   rintro v s1 ⟨rfl,e4⟩;refine ⟨e4.quiet,?_⟩;have e5:=e3.trans e4.merge;generalize σ3.merge s1=σ4 at e5;apply ZaO;intro _;simp +decide only [zq,zr,aQ,↓Zab,↓reduceIte,aOp,ZaH];rfl;have e6:=e5.trans ((Ext.refl _).merge (σ:=σ4));generalize σ4.merge σ4.reset=σ5 at e6;repeat apply Zaa
   refine W_if (b:=(Zb2 x a)) ?_ ?_ ?_
   ·simp +decide only [zq]
   ·intro h;apply Zak;refine Zao ?_;refine ZaM ?_;refine Zao ?_;repeat apply Zaa
    apply Zad;intro _;simp +decide only [zq,↓Zab,↓reduceIte,aOp,Zah,h5,ZdL hlt (zB hl (by decide)),aBin,ZaB,Zam];rfl
    refine Zap ⟨fun _=>Zap ⟨fun _=>⟨i+1,?_,?_⟩,fun h=>(nomatch h),fun h=>absurd rfl h⟩,fun h=>absurd rfl h⟩
    ·omega
    ·have hls2:∀y∈l.take (i+1),Zb2 y a=true:=fun y hy=>by
      rw [zT,hx] at hy;rcases zR.1 hy with hy|hy
      ·exact hls y hy
      ·rw [show y=x from by simpa using hy];exact h
     simp +decide only [zq,h0,h3,h4];exact ⟨by omega,e6,hls2,trivial⟩
   intro h;refine ZaA ⟨fun h=>(nomatch h),fun _=>⟨i,hi,e6,(fun y hy=>by rw [hx] at hy;cases hy;exact h),hls,?_⟩,fun h1 h2=>absurd rfl h2⟩
   simp +decide only [zq,h0,h3,h4,h5]
  ·have d1:decide ((i:Int)<(l.length:Int))=false:=zI (by omega)
   repeat apply Zaa
   repeat apply Zaa
   refine Za8 [] [] (by kernel_rfl) (by kernel_rfl) ?_
   apply ZaO;intro _;simp +decide only [zq,zr,aQ,↓Zab,↓reduceIte,aOp,Zah,Zan,ZaH,aevs,Zaf,aLen,Bool.false_beq,h0,h5,d1,Tryz.underlying44,goInt,aBin,ZaB,Zam];rfl;have e3:=e2.trans ((Ext.refl _).merge (σ:=σ2));generalize σ2.merge σ2.reset=σ3 at e3;repeat apply Zaa
   refine W_if (b:=false) ?_ ?_ ?_
   ·simp +decide only [zq]
   ·intro h;cases h
   intro h;refine ZaA ⟨fun h=>(nomatch h),fun _=>⟨i,hi,e3,(fun y hy=>by rw [zV (by omega)] at hy;cases hy),hls,?_⟩,fun h1 h2=>absurd rfl h2⟩
   simp +decide only [zq,h0,h3,h4,h5]
 rintro r σ2 ⟨i,hi,e2,hnl,hls,h0,h3,h4,h5⟩;have A2:=A.ext e2;by_cases hlt:i<l.length
 ·have d1:decide ((i:Int)<(l.length:Int))=true:=zM (by omega)
  obtain ⟨x,hx⟩:∃x,l[i]?=some x:=⟨l[i],by simp [hlt]⟩
  obtain ⟨-,b,off,rfl,hbl,hat1⟩:=Zfm hrs hx;repeat apply Zaa
  repeat apply Zaa
  refine Za8 [] [] (by kernel_rfl) (by kernel_rfl) ?_
  apply ZaO;intro _;simp +decide only [zq,zr,aQ,↓Zab,↓reduceIte,aOp,Zah,Zan,Zae,Zag,ZaH,aevs,Zaf,aLen,beq_self_eq_true,h0,h3,h5,d1,Tryz.underlying44,goInt,Zfh hlt,(hat1 _ (e2.trans (Ext.reset _))).1,(A2.ext (Ext.reset _)).load,eqArc,aLss];rfl;have e3:=e2.trans ((Ext.refl _).merge (σ:=σ2));generalize σ2.merge σ2.reset=σ3 at e3;repeat apply Zaa
  refine W_if (b:=(decide (x=a))) ?_ ?_ ?_
  ·simp +decide only [zq]
  ·intro hxa;have hxa:=of_decide_eq_true hxa;repeat apply Zaa
   apply Zad;intro _;simp +decide only [zq,↓Zab,↓reduceIte,aOp,h0];rfl;refine Zbj ⟨zA _,[.slice (some ⟨b,off,none⟩) l.length vc],?_,e1.trans e3,l,hg0.ext (Ext.hid (e1.trans e3)),by omega,fun x hx=>.inr hx,by rw [←hxa];exact zF hx,id,fun _ h=>h⟩
   simp +decide only [zq,Zaj]
  intro hxa;have hxa:=of_decide_eq_false hxa;have hne:∀y,l[i]?=some y→y≠a:=fun y hy=>by rw [hx] at hy;cases hy;exact hxa
  apply Zak;have G2:GRow σ3 (.slice (some ⟨b,off,none⟩) l.length vc) l:=hg0.shown.ext (e1.trans e3);obtain ⟨x1,hx1,hs1⟩:=(G2.ext (Ext.new σ3 ⟨1,57,0,[],[]⟩)).slice_to hi;obtain ⟨o1,σ6,ha1,O1,eD⟩:=Out.append (σ0:=σ1) (v:=.slice (some ⟨σ3.next,0,none⟩) 0 0) (m:=[]) (.inl ⟨rfl,σ3.next,e3.nxt,zG _,rfl,by rw [AS.get_new,if_pos rfl]⟩) hs1 (by rw [zX];simp;omega) (e3.trans (Ext.new σ3 ⟨1,57,0,[],[]⟩))
  rw [List.nil_append] at O1;repeat apply Zaa
  apply Zad;intro _;simp +decide only [zq,↓Zab,↓reduceIte,aOp,Zan,ZbE,Zar,aevs,ZaN,Zaf,h0,h5,Zml,aopt,hx1,ha1];rfl;generalize hn6:σ6.next=n6;obtain ⟨o2,σ7,ha2,O2,eE⟩:=Out.append (O1.ext (Ext.new σ6 ⟨1,57,0,[.int .i64 a.1,.int .i64 a.2],[]⟩)) (x:=.slice (some ⟨n6,0,none⟩) 1 1) (k:=[a]) (Src.of (.inr (.inr ⟨n6,0,1,rfl,Zaq (by rw [AS.get_new,if_pos hn6]) rfl (zA _)⟩))) (by rw [zX];simp;omega) (eD.trans (Ext.new _ _))
  repeat apply Zaa
  apply Zad;intro _;simp +decide only [zq,↓Zab,↓reduceIte,aOp,Zan,Zag,Zar,aevs,ZaN,Zaf,h3,(A.ext eD).load,Zhe,hn6,ha2];rfl;obtain ⟨x3,hx3,hs3⟩:=(hg0.shown.ext (e1.trans eE)).slice_from hi;obtain ⟨o3,σ8,ha3,O3,eF⟩:=Out.append O2 hs3 (by rw [zS,zX,List.length_drop];simp;omega) eE
  repeat apply Zaa
  apply Zad;intro _;simp +decide only [zq,↓Zab,↓reduceIte,aOp,Zan,ZbE,aevs,Zaf,h0,h5,aopt,hx3,ha3];rfl;refine ZaL ⟨zA _,[o3],?_,e1.trans eF,_,O3.row (by simp) (fun x hx=>zC (hX x hx) e1.nxt),?_,fun y hy=>?_,by simp,fun h=>ZiI h hls fun y hy=>⟨hnl y hy,hne y hy⟩,fun y hy=>by
   rw [←List.take_append_drop i l] at hy;rcases zR.1 hy with hy|hy<;>simp [hy]⟩
  ·simp +decide only [zq,Zaj]
  ·rw [zS,zS,zX,List.length_drop,List.length_singleton];omega
  ·rw [zR,zR,List.mem_singleton] at hy;rcases hy with (hy|hy)|hy
   ·exact .inr (List.mem_of_mem_take hy)
   ·exact .inl hy
   ·exact .inr (List.mem_of_mem_drop hy)
 ·have d1:decide ((i:Int)<(l.length:Int))=false:=zI (by omega)
  repeat apply Zaa
  repeat apply Zaa
  refine Za8 [] [] (by kernel_rfl) (by kernel_rfl) ?_
  apply ZaO;intro _;simp +decide only [zq,zr,aQ,↓Zab,↓reduceIte,aOp,Zah,Zan,ZaH,aevs,Zaf,aLen,Bool.false_beq,h0,h5,d1,Tryz.underlying44,goInt,aBin,ZaB,Zam];rfl;have e3:=e2.trans ((Ext.refl _).merge (σ:=σ2));generalize σ2.merge σ2.reset=σ3 at e3;repeat apply Zaa
  refine W_if (b:=false) ?_ ?_ ?_
  ·simp +decide only [zq]
  ·intro h;cases h
  intro _;have hne:∀y,l[i]?=some y→y≠a:=fun y hy=>by rw [zV (by omega)] at hy;cases hy
  apply Zak;have G2:GRow σ3 (.slice vb l.length vc) l:=hg0.shown.ext (e1.trans e3);obtain ⟨x1,hx1,hs1⟩:=(G2.ext (Ext.new σ3 ⟨1,57,0,[],[]⟩)).slice_to hi;obtain ⟨o1,σ6,ha1,O1,eD⟩:=Out.append (σ0:=σ1) (v:=.slice (some ⟨σ3.next,0,none⟩) 0 0) (m:=[]) (.inl ⟨rfl,σ3.next,e3.nxt,zG _,rfl,by rw [AS.get_new,if_pos rfl]⟩) hs1 (by rw [zX];simp;omega) (e3.trans (Ext.new σ3 ⟨1,57,0,[],[]⟩))
  rw [List.nil_append] at O1;repeat apply Zaa
  apply Zad;intro _;simp +decide only [zq,↓Zab,↓reduceIte,aOp,Zan,ZbE,Zar,aevs,ZaN,Zaf,h0,h5,Zml,aopt,hx1,ha1];rfl;generalize hn6:σ6.next=n6;obtain ⟨o2,σ7,ha2,O2,eE⟩:=Out.append (O1.ext (Ext.new σ6 ⟨1,57,0,[.int .i64 a.1,.int .i64 a.2],[]⟩)) (x:=.slice (some ⟨n6,0,none⟩) 1 1) (k:=[a]) (Src.of (.inr (.inr ⟨n6,0,1,rfl,Zaq (by rw [AS.get_new,if_pos hn6]) rfl (zA _)⟩))) (by rw [zX];simp;omega) (eD.trans (Ext.new _ _))
  repeat apply Zaa
  apply Zad;intro _;simp +decide only [zq,↓Zab,↓reduceIte,aOp,Zan,Zag,Zar,aevs,ZaN,Zaf,h3,(A.ext eD).load,Zhe,hn6,ha2];rfl;obtain ⟨x3,hx3,hs3⟩:=(hg0.shown.ext (e1.trans eE)).slice_from hi;obtain ⟨o3,σ8,ha3,O3,eF⟩:=Out.append O2 hs3 (by rw [zS,zX,List.length_drop];simp;omega) eE
  repeat apply Zaa
  apply Zad;intro _;simp +decide only [zq,↓Zab,↓reduceIte,aOp,Zan,ZbE,aevs,Zaf,h0,h5,aopt,hx3,ha3];rfl;refine ZaL ⟨zA _,[o3],?_,e1.trans eF,_,O3.row (by simp) (fun x hx=>zC (hX x hx) e1.nxt),?_,fun y hy=>?_,by simp,fun h=>ZiI h hls fun y hy=>⟨hnl y hy,hne y hy⟩,fun y hy=>by
   rw [←List.take_append_drop i l] at hy;rcases zR.1 hy with hy|hy<;>simp [hy]⟩
  ·simp +decide only [zq,Zaj]
  ·rw [zS,zS,zX,List.length_drop,List.length_singleton];omega
  ·rw [zR,zR,List.mem_singleton] at hy;rcases hy with (hy|hy)|hy
   ·exact .inr (List.mem_of_mem_take hy)
   ·exact .inl hy
   ·exact .inr (List.mem_of_mem_drop hy)
theorem Zen {α β:Type} (f:α→β) (c:β) (g:Nat→α) (h:∀i,f (g i)=c) (n:Nat):(((Array.range n).map fun i=>f (g i))).toList=List.replicate n c:=by
 rw [Array.toList_map,List.eq_replicate_iff];refine ⟨by simp,fun b hb=>?_⟩
 obtain ⟨i,_,rfl⟩:=List.mem_map.1 hb;exact h i
theorem info22:∃inf,Tryz.prog.info? 44=some inf∧inf.size=1∧inf.bytes=24∧inf.zero=some (.slice none 0 0):=
 ⟨(Tryz.prog.info? 44).get!,by kernel_rfl,by kernel_rfl,by kernel_rfl,by kernel_rfl⟩
theorem make28 {σ:AS} {N:Nat} (h:N≤1000000):ZbM Tryz.prog σ 25 (.int .i64 (N:Int)) (.int .i64 (N:Int))=some (.slice (some ⟨σ.next,0,none⟩) N N,σ.new ⟨1,44,0,List.replicate N (.slice none 0 0),[]⟩):=by
 obtain ⟨inf,h1,h2,h3,h4⟩:=info22;unfold ZbM;simp only [Tryz.underlying25,h1,h2,h3,h4];rw [if_pos ⟨by omega,by omega,by omega,by omega,rfl,by decide⟩]
 have e:((Array.range ((N:Int).toNat*1)).map fun i=>(Value.slice none 0 0).cells[i % (Value.slice none 0 0).cells.size]!).toList=List.replicate N (.slice none 0 0):=by
  rw [Nat.mul_one];exact Zen (fun v:Value=>v) (.slice none 0 0) (fun i=>(Value.slice none 0 0).cells[i % (Value.slice none 0 0).cells.size]!) (fun i=>by
   have:i % (Value.slice none 0 0).cells.size=0:=Nat.mod_one i;rw [this];rfl) N
 rw [e];rfl
theorem lts:GenC 18 1000 400 (fun L=>GoodN L fun _=>3):=by
 intro σ tb k n hT hk hn1 hn2;refine C_of (kn (by decide)) Tryz.func18 rfl (zD rfl) ?_
 show W _ _ _ 46 _ _ _ _;unfold Tryz.f18;dsimp only;repeat apply Zaa
 apply Zad;intro _;simp +decide only [zq,ZaI,↓Zab,↓reduceIte,aOp,ZcP];rfl;have E0:Ext σ (σ.new ⟨1,27,0,[.slice none 0 0],[]⟩):=Ext.new _ _;have BR:BoxAt (σ.new ⟨1,27,0,[.slice none 0 0],[]⟩) σ.next (.slice none 0 0):=⟨zG _,by rw [AS.get_new,if_pos rfl]⟩
 have T0:=hT.ext E0;have htb:tb<σ.next:=hT.lt;generalize σ.new ⟨1,27,0,[.slice none 0 0],[]⟩=σ1 at E0 BR T0;repeat apply Zaa
 apply ZaF;apply Zay 2;intro _;simp +decide only [zq,List.take,↓Zab,↓reduceIte,aOp];rfl;dsimp only [List.drop];refine ZaV (vs:=[.pointer (some ⟨tb,0,none⟩),.int .i64 n]) (by simp +decide only [zq,aevs]) (by decide) (C.mono (Zfx T0 (by omega) (by omega)) ?_)
 rintro v σ' ⟨⟨m,rfl,hm⟩,TP,EX⟩;obtain ⟨hm0,hm1⟩:=hm hn1;obtain ⟨N,hN⟩:∃N:Nat,(N:Int)=1+m:=⟨(1+m).toNat,by omega⟩
 have w0:IntKind.i64.wrap (1+m)=(N:Int):=by rw [Zas _ (by omega) (by omega)];omega
 have BR:=BR.extX EX (by simp;omega)
 generalize hlb:σ'.next=lb;have hlb2:σ.next<lb:=by have:=EX.nxt;have:=BR.lt;omega
 have hNX:(σ'.new ⟨1,44,0,List.replicate N (.slice none 0 0),[]⟩).next=lb+1:=by rw [←hlb];rfl
 have bl30:Zdb Tryz.prog 27 [(0,.slice (some ⟨lb,0,none⟩) N N)]=some (.agg #[.slice (some ⟨lb,0,none⟩) N N]):=by kernel_rfl
 apply ZaG;intro _;simp +decide only [zq,↓Zab,↓reduceIte,aOp,Zah,ZaE,Zbl,ZaN,unn,ZbN,w0,make28 (show N≤1000000 by omega),hlb,bl30,ZcP,hNX,ZdM (σ:=(σ'.new ⟨1,44,0,List.replicate N (.slice none 0 0),[]⟩).new ⟨1,27,0,[.slice none 0 0],[]⟩) (b:=lb+1) (x:=.slice none 0 0) (by rw [AS.get_new,if_pos hNX]),aBin,ZaB,Zam];rfl
 have e1:Ext σ' (((σ'.new ⟨1,44,0,List.replicate N (.slice none 0 0),[]⟩).new ⟨1,27,0,[.slice none 0 0],[]⟩).put (lb+1) ⟨1,27,0,[.slice (some ⟨lb,0,none⟩) N N],[]⟩):=Ext.put ((Ext.new _ _).trans (Ext.new _ _)) (by omega) _
 have BX:BoxAt (((σ'.new ⟨1,44,0,List.replicate N (.slice none 0 0),[]⟩).new ⟨1,27,0,[.slice none 0 0],[]⟩).put (lb+1) ⟨1,27,0,[.slice (some ⟨lb,0,none⟩) N N],[]⟩) (lb+1) (.slice (some ⟨lb,0,none⟩) N N):=⟨by rw [←hNX];exact zG _,by rw [AS.get_put,if_pos rfl]⟩
 have GN:Gen tb lb (((σ'.new ⟨1,44,0,List.replicate N (.slice none 0 0),[]⟩).new ⟨1,27,0,[.slice none 0 0],[]⟩).put (lb+1) ⟨1,27,0,[.slice (some ⟨lb,0,none⟩) N N],[]⟩) (List.replicate N []) 0:=by
  refine ⟨by have:=BX.lt;omega,by have:=TP.lt;omega,⟨List.replicate N (.slice none 0 0),?_,by simp,fun i v l hv hl=>?_⟩,fun l hl=>?_⟩
  ·rw [AS.get_put,if_neg (by omega),AS.get_new,if_neg (by omega),AS.get_new,if_pos hlb]
  ·have h1:=List.eq_of_mem_replicate (zF hv);have h2:=List.eq_of_mem_replicate (zF hl);exact .inl ⟨h1,h2⟩
  ·have h2:=List.eq_of_mem_replicate hl;subst h2;exact ⟨zA _,by simp⟩
 have BR:=BR.ext e1;have TP:=TP.ext e1;have EX:=EX.trans (ExtX.of e1);have hlt0:=e1.nxt;have hL0:(List.replicate N ([]:List Arc)).length=N:=by simp
 have hGd:GoodN (List.replicate N ([]:List Arc)) (fun _=>0):=fun s l hl=>by
  have h2:=List.eq_of_mem_replicate (zF hl);subst h2;exact ⟨rfl,by simp,zA _⟩
 generalize hb5:lb+1=b5 at e1 BX BR TP GN EX hlt0;generalize ((σ'.new ⟨1,44,0,List.replicate N (.slice none 0 0),[]⟩).new ⟨1,27,0,[.slice none 0 0],[]⟩).put b5 ⟨1,27,0,[.slice (some ⟨lb,0,none⟩) N N],[]⟩=σ2 at e1 BX BR TP GN EX hlt0;generalize List.replicate N ([]:List Arc)=L0 at GN hL0 hGd;repeat apply Zaa
 apply Zad;intro _;simp +decide only [zq,↓Zab,↓reduceIte,aOp];rfl;repeat apply Zaa
 refine Zdc (fun (x:Nat×Lts) r σ'=>x.1≤N∧x.2.length=N∧rget r 0=.pointer (some ⟨tb,0,none⟩)∧rget r 4=.pointer (some ⟨σ.next,0,none⟩)∧rget r 5=.pointer (some ⟨b5,0,none⟩)∧rget r 6=.int .i64 (x.1:Int)∧
   Tape tb σ' (k+1+7*x.1)∧Gen tb lb σ' x.2 (3*x.1)∧BoxAt σ' b5 (.slice (some ⟨lb,0,none⟩) N N)∧BoxAt σ' σ.next (.slice none 0 0)∧ExtX [tb,lb] σ2 σ'∧GoodN x.2 (fun s=>if s<x.1 then 3 else 0))
  (fun x=>N-x.1) ?_ (0,L0) ?_
 rotate_left
 ·simp +decide only [zq];refine ⟨zH _,hL0,?_,?_,?_,?_,TP,GN,BX,BR,ExtX.refl _ _,hGd.up (fun s=>zH _)⟩<;>first|exact True.intro | (exact congrArg (Value.int .i64) Int.natCast_zero.symm)|rfl
 rintro ⟨i,L⟩ r σ3 ⟨hi,hL,h0,h4,h5,h6,TP,GN,BX,BR,EY,hGd⟩;dsimp only at hi hL h6 TP GN hGd;repeat apply Zaa
 apply Zad;intro _;simp +decide only [zq,↓Zab,↓reduceIte,aOp,Zah,Zan,Zac,Zag,aevs,Zaf,aLen,h5,h6,fldL,BX.out,Tryz.underlying25,goInt,aBin,ZaB,Zam];rfl;repeat apply Zaa
 refine W_if (b:=decide ((i:Int)<(N:Int))) ?_ ?_ ?_
 ·simp +decide only [zq]
 rotate_left
 ·intro hb;refine ZaA ⟨fun h=>(nomatch h),fun _=>?_,fun h1 h2=>absurd rfl h2⟩;repeat apply Zaa
  apply Zad;intro _;simp +decide only [zq,↓Zab,↓reduceIte,aOp,Zag,ZaE,unn,h4,h5,BX.load,ZdM BR.get];rfl;have EZ:ExtX [tb,lb,σ.next] σ1 (σ3.put σ.next ⟨1,27,0,[.slice (some ⟨lb,0,none⟩) N N],[]⟩):=
   ((EX.sub (by simp)).trans (EY.sub (by simp))).put (by simp) _
  have EF:ExtX [tb] σ (σ3.put σ.next ⟨1,27,0,[.slice (some ⟨lb,0,none⟩) N N],[]⟩):=(ExtX.of E0).drop (lb:=lb) EZ (by simp;omega)
  have GF:=(GN.box (B:=⟨1,27,0,[.slice (some ⟨lb,0,none⟩) N N],[]⟩) BR (by omega) (by omega)).up (m':=400) (by omega)
  have TF:=(TP.box (B:=⟨1,27,0,[.slice (some ⟨lb,0,none⟩) N N],[]⟩) BR (by omega) (by intro x h;cases h)).up (k':=k+1000) (by omega)
  have BF:BoxAt (σ3.put σ.next ⟨1,27,0,[.slice (some ⟨lb,0,none⟩) N N],[]⟩) σ.next (.slice (some ⟨lb,0,none⟩) N N):=⟨BR.lt,by rw [AS.get_put,if_pos rfl]⟩
  generalize σ3.put σ.next ⟨1,27,0,[.slice (some ⟨lb,0,none⟩) N N],[]⟩=σF at EF GF TF BF;refine ZaL ⟨zA _,[.agg #[.slice (some ⟨lb,0,none⟩) N N]],?_,?_⟩
  ·simp +decide only [zq,Zaj,h4,BF.load]
  ·exact ⟨lb,L,N,by rw [hL];rfl,by omega,TF,EF,GF,by omega,by omega,GoodN.up hGd (fun s=>by (try dsimp only)<;>(repeat' split)<;>omega),by omega⟩
 intro hb;have hb0:i<N:=by
  have:=of_decide_eq_true hb;omega
 apply Zak;refine ZaM ?_;repeat apply Zaa
 apply ZaF;apply Zay 1;intro _;simp +decide only [zq,List.take,↓Zab,↓reduceIte,aOp,h0];rfl;dsimp only [List.drop];refine ZaV (vs:=[.pointer (some ⟨tb,0,none⟩),.int .i64 4]) (by simp +decide only [zq,aevs]) (by decide) (C.mono (Zfx TP (by omega) (n:=4) (by omega)) ?_)
 rintro v σ' ⟨⟨m4,rfl,hm4⟩,TP,E4⟩;obtain ⟨hm40,hm41⟩:=hm4 (by omega)
 obtain ⟨M,rfl⟩:∃M:Nat,m4=(M:Int):=⟨m4.toNat,by omega⟩
 have GN:=GN.extX E4;have BX:=BX.extX E4 (by simp;omega)
 have BR:=BR.extX E4 (by simp;omega)
 have EY:=EY.trans (E4.sub (by simp))
 apply ZaG;intro _;simp +decide only [zq,↓Zab,↓reduceIte,aOp];rfl;generalize σ'=σ3 at TP GN BX BR EY;repeat apply Zaa
 refine Zao ?_;repeat apply Zaa
 refine Zdc (fun (x:Nat×Nat×Lts) r σ'=>x.1+x.2.1≤3∧x.2.2.length=N∧rget r 0=.pointer (some ⟨tb,0,none⟩)∧rget r 4=.pointer (some ⟨σ.next,0,none⟩)∧rget r 5=.pointer (some ⟨b5,0,none⟩)∧rget r 6=.int .i64 (i:Int)∧rget r 7=.int .i64 (x.1:Int)∧
   Tape tb σ' (k+1+7*i+1+2*x.2.1)∧Gen tb lb σ' x.2.2 (3*i+x.2.1)∧BoxAt σ' b5 (.slice (some ⟨lb,0,none⟩) N N)∧BoxAt σ' σ.next (.slice none 0 0)∧ExtX [tb,lb] σ2 σ'∧GoodN x.2.2 (fun s=>if s<i then 3 else if s=i then x.2.1 else 0))
  (fun x=>x.1) ?_ (M,0,L) ?_
 rotate_left
 ·simp +decide only [zq];refine ⟨by omega,hL,?_,?_,?_,?_,?_,TP,GN,BX,BR,EY,GoodN.up hGd (fun s=>by (try dsimp only)<;>(repeat' split)<;>omega)⟩<;>first|exact True.intro|assumption|rfl
 clear TP GN BX BR EY hGd h0 h4 h5 h6 hL;rintro ⟨c,j,L⟩ r σ3 ⟨hcj,hL,h0,h4,h5,h6,h7,TP,GN,BX,BR,EY,hGd⟩;dsimp only at hcj hL h7 TP GN hGd;repeat apply Zaa
 apply Zad;intro _;simp +decide only [zq,↓Zab,↓reduceIte,aOp,Zah,h7,aBin,ZaB,Zam];rfl;repeat apply Zaa
 refine W_if (b:=decide ((0:Int)<(c:Int))) ?_ ?_ ?_
 ·simp +decide only [zq]
 rotate_left
 ·intro hb;have hb:c=0:=by
   have:=of_decide_eq_false hb;omega
  refine ZaA ⟨fun h=>(nomatch h),fun _=>?_,fun h1 h2=>absurd rfl h2⟩;refine Zap ⟨fun _=>?_,fun h=>absurd rfl h⟩;refine Zao ?_;repeat apply Zaa
  apply Zad;intro _;simp +decide only [zq,↓Zab,↓reduceIte,aOp,Zah,h6,ZdL hb0 (show N≤2^62 by omega),aBin,ZaB,Zam];rfl
  refine Zap ⟨fun _=>⟨(i+1,L),?_,?_⟩,fun h=>(nomatch h),fun h=>absurd rfl h⟩
  ·show N-(i+1)<N-i;omega
  ·refine ⟨by show i+1≤N;omega,hL,?_,?_,?_,?_,TP.up (k':=k+1+7*(i+1)) (by omega),GN.up (by show 3*i+j≤3*(i+1);omega),BX,BR,EY,GoodN.up hGd (fun s=>by (try dsimp only)<;>(repeat' split)<;>omega)⟩
   all_goals simp +decide only [zq,h0,h4,h5]
 intro hb;have hb:0<c:=by
  have:=of_decide_eq_true hb;omega
 apply Zak;refine ZaM ?_;refine Zao ?_;obtain ⟨v,l,hl,hlm,hg,hld⟩:=GN.at (i:=i) (by omega)
 obtain ⟨vb,vc,hv⟩:=hg.slice;have hE:ExtX [tb] σ3 σ3:=ExtX.refl _ _;repeat apply Zaa
 refine Za8 [1,4,7,12] [b5,lb] (by kernel_rfl) (by kernel_rfl) ?_
 apply Zau 1;intro _;simp +decide only [zq,zr,List.take,aQ,↓Zab,↓reduceIte,aOp,Zac,h5,fldL];rfl;dsimp only [List.drop,List.take,List.length];have e0:Ext σ3 (σ3.merge σ3.reset):=(Ext.refl _).merge;have TP:=TP.ext e0;have GN:=GN.ext e0;have BX:=BX.ext e0;have BR:=BR.ext e0;have hE:=hE.trans (ExtX.of e0);generalize σ3.merge σ3.reset=σ4 at e0 TP GN BX BR hE;refine ZaZ (b:=b5) (off:=0) (v:=.slice (some ⟨lb,0,none⟩) N N) (by simp +decide only [zq]) BX.reset.out (ZbA GN.lt) BX.lt (by simp [memb]) (by decide) ?_
 have e0:Ext σ4 (σ4.merge σ4.reset):=(Ext.refl _).merge;have TP:=TP.ext e0;have GN:=GN.ext e0;have BX:=BX.ext e0;have BR:=BR.ext e0;have hE:=hE.trans (ExtX.of e0);generalize σ4.merge σ4.reset=σ5 at e0 TP GN BX BR hE;apply Zau 2;intro _;simp +decide only [zq,zr,List.take,aQ,↓Zab,↓reduceIte,aOp,Zac,h5,h6,fldL];rfl;dsimp only [List.drop,List.take,List.length];have e0:Ext σ5 (σ5.merge σ5.reset):=(Ext.refl _).merge;have TP:=TP.ext e0;have GN:=GN.ext e0;have BX:=BX.ext e0;have BR:=BR.ext e0;have hE:=hE.trans (ExtX.of e0);generalize σ5.merge σ5.reset=σ6 at e0 TP GN BX BR hE;refine ZaZ (b:=b5) (off:=0) (v:=.slice (some ⟨lb,0,none⟩) N N) (by simp +decide only [zq]) BX.reset.out (ZbA GN.lt) BX.lt (by simp [memb]) (by decide) ?_
 have e0:Ext σ6 (σ6.merge σ6.reset):=(Ext.refl _).merge;have TP:=TP.ext e0;have GN:=GN.ext e0;have BX:=BX.ext e0;have BR:=BR.ext e0;have hE:=hE.trans (ExtX.of e0);generalize σ6.merge σ6.reset=σ7 at e0 TP GN BX BR hE;apply Zau 2;intro _;simp +decide only [zq,zr,List.take,aQ,↓Zab,↓reduceIte,aOp,Zae,h6,ZmP (show i<N by omega)];rfl
 dsimp only [List.drop,List.take,List.length];have e0:Ext σ7 (σ7.merge σ7.reset):=(Ext.refl _).merge;have TP:=TP.ext e0;have GN:=GN.ext e0;have BX:=BX.ext e0;have BR:=BR.ext e0;have hE:=hE.trans (ExtX.of e0);generalize σ7.merge σ7.reset=σ8 at e0 TP GN BX BR hE;have hlm':l∈L:=hlm;have HG:=hg.ext (hE.sub (Y:=[tb,lb]) (by simp)).hid
 refine ZaZ (b:=lb) (off:=i) (v:=v) (by simp +decide only [zq]) (hld _ (hE.trans (ExtX.of (Ext.reset _)))) HG.sv GN.lt (by simp [memb]) (by decide) ?_
 have e0:Ext σ8 (σ8.merge σ8.reset):=(Ext.refl _).merge;have TP:=TP.ext e0;have GN:=GN.ext e0;have BX:=BX.ext e0;have BR:=BR.ext e0;have hE:=hE.trans (ExtX.of e0);generalize σ8.merge σ8.reset=σ9 at e0 TP GN BX BR hE;apply Zau 1;intro _;simp +decide only [zq,zr,List.take,aQ,↓Zab,↓reduceIte,aOp,h0];rfl;dsimp only [List.drop,List.take,List.length];have e0:Ext σ9 (σ9.merge σ9.reset):=(Ext.refl _).merge;have TP:=TP.ext e0;have GN:=GN.ext e0;have BX:=BX.ext e0;have BR:=BR.ext e0;have hE:=hE.trans (ExtX.of e0);generalize σ9.merge σ9.reset=σ10 at e0 TP GN BX BR hE;refine ZiR (vs:=[.pointer (some ⟨tb,0,none⟩)]) (by simp +decide only [zq,aevs]) (by decide) (by kernel_rfl) (by kernel_rfl) (C.mono (ZrQ (TP.ext (Ext.reset _)) (by omega)) ?_)
 rintro v2 s1 ⟨⟨ev,rfl,hev⟩,T1,E1⟩;refine ⟨fun x hx hlt=>E1.get x hlt (by simp at hx ⊢;rcases hx with rfl|rfl<;>omega),?_⟩
 have T1:Tape tb (σ10.merge s1) (k+1+7*i+1+2*j+1):=T1.same rfl fun _=>rfl;have E1:ExtX [tb] σ10 (σ10.merge s1):=E1.merge;have GN:=GN.extX E1;have BX:=BX.extX E1 (by simp;omega)
 have BR:=BR.extX E1 (by simp;omega)
 have hE:=hE.trans E1;clear TP;have TP:=T1;generalize σ10.merge s1=σ11 at TP GN BX BR hE;apply Zau 2;intro _;simp +decide only [zq,zr,List.take,aQ,↓Zab,↓reduceIte,aOp,Zac,h0,h5,fldL];rfl;dsimp only [List.drop,List.take,List.length];have e0:Ext σ11 (σ11.merge σ11.reset):=(Ext.refl _).merge;have TP:=TP.ext e0;have GN:=GN.ext e0;have BX:=BX.ext e0;have BR:=BR.ext e0;have hE:=hE.trans (ExtX.of e0);generalize σ11.merge σ11.reset=σ12 at e0 TP GN BX BR hE;refine ZaZ (b:=b5) (off:=0) (v:=.slice (some ⟨lb,0,none⟩) N N) (by simp +decide only [zq]) BX.reset.out (ZbA GN.lt) BX.lt (by simp [memb]) (by decide) ?_
 have e0:Ext σ12 (σ12.merge σ12.reset):=(Ext.refl _).merge;have TP:=TP.ext e0;have GN:=GN.ext e0;have BX:=BX.ext e0;have BR:=BR.ext e0;have hE:=hE.trans (ExtX.of e0);generalize σ12.merge σ12.reset=σ13 at e0 TP GN BX BR hE;apply Zau 1;intro _;simp +decide only [zq,zr,List.take,aQ,↓Zab,↓reduceIte,aOp,Zan,aevs,Zaf,aLen,Tryz.underlying25,goInt];rfl;dsimp only [List.drop,List.take,List.length];have e0:Ext σ13 (σ13.merge σ13.reset):=(Ext.refl _).merge;have TP:=TP.ext e0;have GN:=GN.ext e0;have BX:=BX.ext e0;have BR:=BR.ext e0;have hE:=hE.trans (ExtX.of e0);generalize σ13.merge σ13.reset=σ14 at e0 TP GN BX BR hE;refine ZiR (vs:=[.pointer (some ⟨tb,0,none⟩),.int .i64 (N:Int)]) (by simp +decide only [zq,aevs]) (by decide) (by kernel_rfl) (by kernel_rfl) (C.mono (Zfx (TP.ext (Ext.reset _)) (by omega) (n:=(N:Int)) (by omega)) ?_)
 rintro v2 s1 ⟨⟨to,rfl,hto⟩,T1,E1⟩;refine ⟨fun x hx hlt=>E1.get x hlt (by simp at hx ⊢;rcases hx with rfl|rfl<;>omega),?_⟩
 have T1:Tape tb (σ14.merge s1) (k+1+7*i+1+2*j+1+1):=T1.same rfl fun _=>rfl;have E1:ExtX [tb] σ14 (σ14.merge s1):=E1.merge;have GN:=GN.extX E1;have BX:=BX.extX E1 (by simp;omega)
 have BR:=BR.extX E1 (by simp;omega)
 have hE:=hE.trans E1;clear TP;have TP:=T1;generalize σ14.merge s1=σ15 at TP GN BX BR hE;obtain ⟨hto0,hto1⟩:=hto (by omega)
 apply Zau 1;intro _;simp +decide only [zq,zr,List.take,aQ,↓Zab,↓reduceIte,aOp,Zbl,ZaN,ZhR];rfl;dsimp only [List.drop,List.take,List.length];have e0:Ext σ15 (σ15.merge σ15.reset):=(Ext.refl _).merge;have TP:=TP.ext e0;have GN:=GN.ext e0;have BX:=BX.ext e0;have BR:=BR.ext e0;have hE:=hE.trans (ExtX.of e0);generalize σ15.merge σ15.reset=σ16 at e0 TP GN BX BR hE;have hlm':l∈L:=hlm;have HG:=hg.ext (hE.sub (Y:=[tb,lb]) (by simp)).hid
 refine Zbx (vs:=[v,vArc (ev,to)]) (by simp +decide only [zq,aevs]) (by decide) (by kernel_rfl) (C.mono (insert (X:=[tb,lb]) (HG.ext (Ext.hid (Ext.reset _))) (by have:=(GN.row l hlm').1;omega) (by simp;exact ⟨TP.lt,GN.lt⟩)) ?_)
 rintro v' s2 ⟨E2,l',hg2,hl2,ha2,hal,hac⟩;refine ⟨E2.quiet,?_⟩;have E2:Ext σ16 (σ16.merge s2):=E2.merge;have hg2:GRow (hid [tb,lb] (σ16.merge s2)) v' l':=hg2.same rfl fun _=>rfl;have TP:=TP.ext E2;have GN:=GN.ext E2;have BX:=BX.ext E2;have BR:=BR.ext E2;have hE:=hE.trans (ExtX.of E2);generalize σ16.merge s2=σ17 at TP GN BX BR hE hg2;apply Zau 1;intro _;simp +decide only [zq,zr,List.take,aQ,↓Zab,↓reduceIte,aOp,Zae,ZmP (show i<N by omega)];rfl
 dsimp only [List.drop,List.take,List.length];have e0:Ext σ17 (σ17.merge σ17.reset):=(Ext.refl _).merge;have TP:=TP.ext e0;have GN:=GN.ext e0;have BX:=BX.ext e0;have BR:=BR.ext e0;have hE:=hE.trans (ExtX.of e0);have hg2:=hg2.ext (Ext.hid e0);generalize σ17.merge σ17.reset=σ18 at e0 TP GN BX BR hE hg2;have hmx:∀x∈l',0≤x.2∧x.2<(L.length:Int):=fun x hx=>by
  rcases ha2 x hx with rfl|h9
  ·exact ⟨hto0,by show to<_;omega⟩
  ·exact (GN.row l hlm').2 x h9
 have hll:=(GN.row l hlm').1;obtain ⟨rows,hr1,hr2,hr3,hr4⟩:=((GN.ext (Ext.reset σ18)).up (m':=3*i+(j+1)) (by omega)).set (i:=i) (hg2.ext (Ext.hid (Ext.reset _))) (by omega) hmx
 obtain ⟨vb2,vc2,hv2⟩:=hg2.slice;refine Zf5 (b:=lb) (off:=i) (v:=v') (by simp +decide only [zq]) (by simp +decide only [zq]) (Zn4 hv2 hr1 (by omega)) (fun y hy=>by rw [AS.get_put,if_neg (fun e=>hy e.symm)];rfl) (by kernel_rfl) (by kernel_rfl) (by kernel_rfl) ?_
 have EM:ExtX [tb,lb] σ18 (σ18.merge (σ18.reset.put lb ⟨1,44,0,rows.set i v',[]⟩)):=hr4.merge;have TP:Tape tb (σ18.merge (σ18.reset.put lb ⟨1,44,0,rows.set i v',[]⟩)) (k+1+7*i+1+2*(j+1)):=((TP.ext (Ext.reset σ18)).put (B:=⟨1,44,0,rows.set i v',[]⟩) GN.ne (GN.ext (Ext.reset σ18)).ints).same rfl fun _=>rfl;have GN:Gen tb lb (σ18.merge (σ18.reset.put lb ⟨1,44,0,rows.set i v',[]⟩)) (L.set i l') (3*i+(j+1)):=hr3.same rfl fun _=>rfl;have BX:=BX.extX EM (by simp;omega)
 have BR:=BR.extX EM (by simp;omega)
 have EY:=EY.trans ((hE.sub (by simp)).trans EM)
 generalize σ18.merge (σ18.reset.put lb ⟨1,44,0,rows.set i v',[]⟩)=σ19 at TP GN BX BR EY;show W _ _ _ 46 _ _ _ _;refine Zap ⟨fun _=>?_,fun h=>absurd rfl h⟩;refine Zao ?_;have w1:IntKind.i64.wrap ((c:Int)-1)=((c-1:Nat):Int):=by rw [Zas _ (by omega) (by omega)];omega
 repeat apply Zaa
 apply Zad;intro _;simp +decide only [zq,↓Zab,↓reduceIte,aOp,Zah,h7,w1,aBin,ZaB,Zam];rfl;refine Zap ⟨fun _=>⟨(c-1,j+1,L.set i l'),?_,?_⟩,fun h=>(nomatch h),fun h=>absurd rfl h⟩
 ·show c-1<c;omega
 ·refine ⟨by show c-1+(j+1)≤3;omega,by show (L.set i l').length=_;rw [List.length_set];exact hL,?_,?_,?_,?_,?_,TP,GN,BX,BR,EY,hGd.set hl ha2 hac.1 hev hl2 (fun s hs=>by (try dsimp only)<;>(repeat' split)<;>omega) (by (try dsimp only)<;>(repeat' split)<;>omega)⟩
  all_goals simp +decide only [zq,h0,h4,h5,h6]
end Go.Proofs.YteangeffgjolpaaGreatDoor.Nest
namespace Go.Proofs.YteangeffgjolpaaGreatDoor.Abs
structure Keys (P:Program) (kt:TypeId) (d:TypeDesc) (enc:Int→Value) (D:Int→Prop):Prop where
 und:P.underlying kt=some d
 bas:ZfT d=true
 same:∀k k',D k→D k'→Instr.sameNow d (enc k) (enc k')=some (k == k')
def Zeq (enc:Int→Value) (m:List (Int×Value)):List (Value×Value):=m.map fun e=>(enc e.1,e.2)
def mfind:List (Int×Value)→Int→Option (Nat×Value)
 | [],_=>none
 | e::m,k=>if k=e.1 then some (0,e.2) else (mfind m k).map fun p=>(p.1+1,p.2)
def mval (m:List (Int×Value)) (k:Int):Option Value:=(mfind m k).map (·.2)
def keysOf (m:List (Int×Value)):List Int:=m.map (·.1)
theorem Zj8:∀{m:List (Int×Value)} {k:Int} {i:Nat} {v:Value},mfind m k=some (i,v)→m[i]?=some (k,v)
 | [],_,_,_,h=>by cases h
 | e::m,k,i,v,h=>by
  unfold mfind at h;split at h
  ·rename_i hk;cases h;simp [hk]
  ·cases hq:mfind m k with
   | none=>rw [hq] at h;cases h
   | some p=>
    rw [hq] at h;cases h;have:=Zj8 hq;simpa using this
theorem mval_none {m:List (Int×Value)} {k:Int}:mval m k=none↔k∉keysOf m:=by
 induction m with
 | nil=>simp [mval,mfind,keysOf]
 | cons e m ih=>
  unfold mval mfind;by_cases h:k=e.1
  ·rw [if_pos h];simp [keysOf,h]
  ·rw [if_neg h];have:(Option.map (·.2) ((mfind m k).map fun p=>(p.1+1,p.2))=none)↔mval m k=none:=by
    unfold mval;cases mfind m k<;>simp
   rw [this,ih];simp [keysOf,h]
theorem ZpU {m:List (Int×Value)} {k k':Int} {v:Value} (h:mval m k=none):mval (m++[(k,v)]) k'=if k'=k then some v else mval m k':=by
 induction m with
 | nil=>unfold mval mfind mfind;by_cases e:k'=k<;>simp [e]
 | cons e m ih=>
  have hk:=mval_none.1 h;have hne:k≠e.1:=fun h2=>hk (by simp [keysOf,h2])
  have ih:=ih (mval_none.2 fun h2=>hk (by simp [keysOf] at h2 ⊢;exact .inr h2))
  unfold mval at ih ⊢;show Option.map (·.2) (mfind (e::(m++[(k,v)])) k')=_;unfold mfind;by_cases h2:k'=e.1
  ·rw [if_pos h2,if_pos h2,if_neg (fun h3=>hne (by rw [←h3,h2]))]
  ·rw [if_neg h2,if_neg h2];have e1:∀o:Option (Nat×Value),Option.map (·.2) (o.map fun p=>(p.1+1,p.2))=o.map (·.2):=fun o=>by cases o<;>rfl
   rw [e1,e1];exact ih
theorem ZpS {m:List (Int×Value)} {k k':Int} {v w:Value} {i:Nat} (h:mfind m k=some (i,w)):mval (m.set i (k,v)) k'=if k'=k then some v else mval m k':=by
 induction m generalizing i with
 | nil=>cases h
 | cons e m ih=>
  have e1:∀o:Option (Nat×Value),Option.map (·.2) (o.map fun p=>(p.1+1,p.2))=o.map (·.2):=fun o=>by cases o<;>rfl
  unfold mfind at h;split at h
  ·rename_i hk;cases h;rw [List.set_cons_zero];unfold mval mfind;by_cases h2:k'=k
   ·rw [if_pos h2,if_pos h2];rfl
   ·rw [if_neg h2,if_neg h2,if_neg (fun h3=>h2 (by rw [h3,hk]))]
  ·rename_i hk;cases hq:mfind m k with
   | none=>rw [hq] at h;cases h
   | some p=>
    rw [hq] at h;cases h;rw [List.set_cons_succ];have ih:=ih hq;unfold mval at ih ⊢;unfold mfind;by_cases h2:k'=e.1
    ·rw [if_pos h2,if_pos h2,if_neg (fun h3=>hk (by rw [←h3,h2]))]
    ·rw [if_neg h2,if_neg h2,e1,e1];exact ih
theorem ZpT {m:List (Int×Value)} {k k':Int} {w:Value} {i:Nat} (hn:(keysOf m).Nodup) (h:mfind m k=some (i,w)):mval (m.eraseIdx i) k'=if k'=k then none else mval m k':=by
 induction m generalizing i with
 | nil=>cases h
 | cons e m ih=>
  have e1:∀o:Option (Nat×Value),Option.map (·.2) (o.map fun p=>(p.1+1,p.2))=o.map (·.2):=fun o=>by cases o<;>rfl
  have hn2:e.1∉keysOf m∧(keysOf m).Nodup:=by simpa [keysOf] using hn
  unfold mfind at h;split at h
  ·rename_i hk;cases h;show mval m k'=_;by_cases h2:k'=k
   ·rw [if_pos h2];exact mval_none.2 (by rw [h2,hk];exact hn2.1)
   ·rw [if_neg h2];unfold mval
    conv=>rhs;unfold mfind
    rw [if_neg (fun h3=>h2 (by rw [h3,hk])),e1]
  ·rename_i hk;cases hq:mfind m k with
   | none=>rw [hq] at h;cases h
   | some p=>
    rw [hq] at h;cases h;have ih:=ih hn2.2 hq;show mval (e::m.eraseIdx p.1) k'=_;unfold mval at ih ⊢;unfold mfind;by_cases h2:k'=e.1
    ·rw [if_pos h2,if_pos h2,if_neg (fun h3=>hk (by rw [←h3,h2]))]
    ·rw [if_neg h2,if_neg h2,e1,e1];exact ih
theorem ZmM {m:List (Int×Value)} {k:Int} {v w:Value} {i:Nat} (h:mfind m k=some (i,w)):keysOf (m.set i (k,v))=keysOf m:=by
 have hg:=Zj8 h;obtain ⟨h1,h2⟩:=zE.1 hg;unfold keysOf;rw [List.map_set];apply List.ext_getElem?;intro j;by_cases hj:i=j
 ·subst hj;rw [List.getElem?_set_self (by simpa using h1)]
  simp [hg]
 ·rw [List.getElem?_set_ne hj]
section
variable {enc:Int→Value} {D:Int→Prop} {P:Program} {kt:TypeId} {d:TypeDesc}
theorem ZoY (m:List (Int×Value)) (i:Nat) (k:Int) (v:Value):(Zeq enc m).set i (enc k,v)=Zeq enc (m.set i (k,v)):=by unfold Zeq;rw [List.map_set]
theorem ZoZ (m:List (Int×Value)) (k:Int) (v:Value):Zeq enc m++[(enc k,v)]=Zeq enc (m++[(k,v)]):=by unfold Zeq;rw [List.map_append];rfl
theorem Zkr:∀(m:List (Int×Value)) (i:Nat),(Zeq enc m).eraseIdx i=Zeq enc (m.eraseIdx i)
 | [],i=>by simp [Zeq]
 | e::m,0=>rfl
 | e::m,i+1=>by
  have:=Zkr m i;show (enc e.1,e.2)::(Zeq enc m).eraseIdx i=(enc e.1,e.2)::Zeq enc (m.eraseIdx i);rw [this]
theorem Zh1 (hk:Keys P kt d enc D) {k:Int} (hD:D k):∀(m:List (Int×Value)) (i:Nat),(∀j∈keysOf m,D j)→ZkP d (enc k) (Zeq enc m) i=some ((mfind m k).map fun p=>(i+p.1,p.2))
 | [],_,_=>rfl
 | e::m,i,hm=>by
  have ih:=Zh1 hk hD m (i+1) fun j hj=>hm j (List.mem_cons_of_mem _ hj);show (match Instr.sameNow d (enc k) (enc e.1) with
   | some true=>some (some (i,e.2))
   | some false=>ZkP d (enc k) (Zeq enc m) (i+1)
   | none=>none)=_
  rw [hk.same k e.1 hD (hm e.1 List.mem_cons_self)];unfold mfind;by_cases h:k=e.1
  ·rw [if_pos h,show (k == e.1)=true by rw [beq_iff_eq];exact h];rfl
  ·rw [if_neg h,show (k == e.1)=false by rw [beq_eq_false_iff_ne];exact h]
   dsimp only;rw [ih];cases mfind m k with
   | none=>rfl
   | some p=>simp only [Option.map_some];congr 2;rw [Nat.add_assoc,Nat.add_comm 1]
theorem Zdl (hk:Keys P kt d enc D) {m:List (Int×Value)} {k:Int} (hD:D k) (hm:∀j∈keysOf m,D j):Ze2 P kt d (enc k) (Zeq enc m)=some (mfind m k):=by
 unfold Ze2;rw [if_pos hk.bas,Zh1 hk hD m 0 hm];cases mfind m k with
 | none=>rfl
 | some p=>simp
def MapG (enc:Int→Value) (D:Int→Prop) (lo:Nat) (σ:AS) (v:Value) (f:Int→Option Value):Prop:=
 ∃r m,v=.map (some r)∧lo≤r∧r<σ.next∧(σ.get r).kind=3∧(σ.get r).ents=Zeq enc m∧(keysOf m).Nodup∧(∀k,mval m k=f k)∧∀j∈keysOf m,D j
def MOwn (v:Value) (i:Nat):Prop:=v=.map (some i)
variable {lo T E:Nat} {σ σ':AS} {v:Value} {f:Int→Option Value}
theorem MapG.keep (h:MapG enc D lo σ v f) (hn:σ.next≤σ'.next) (hg:∀i,MOwn v i→i<σ.next→σ'.get i=σ.get i):MapG enc D lo σ' v f:=by
 obtain ⟨r,m,h1,h2,h3,h4,h5,h6⟩:=h;exact ⟨r,m,h1,h2,by omega,by rw [hg r h1 h3];exact h4,by rw [hg r h1 h3];exact h5,h6⟩
theorem MapG.own (h:MapG enc D lo σ v f) {i:Nat} (ho:MOwn v i):lo≤i∧i<σ.next∧(σ.get i).kind=3:=by
 obtain ⟨r,m,h1,h2,h3,h4,h5,h6⟩:=h;unfold MOwn at ho;rw [h1] at ho;cases ho;exact ⟨h2,h3,h4⟩
theorem MapG.look (hk:Keys P kt d enc D) (hu:P.underlying T=some (.map kt E)) {z:Value} (hz:∃inf,P.info? E=some inf∧inf.zero=some z) (hf:flat z=true) (h:MapG enc D lo σ v f) {k:Int} (hD:D k) (ok:Bool) :
  ZbX P σ T v (enc k) ok=some (match f k with|some x=>if ok=true then .tuple #[x,.bool true] else x|none=>if ok=true then .tuple #[z,.bool false] else z):=by
 obtain ⟨r,m,rfl,h2,h3,h4,h5,h6,h7,h8⟩:=h;obtain ⟨inf,hi,hiz⟩:=hz;unfold ZbX ZnI;simp only [hu,hk.und,h4,h5,Nat.beq_refl,if_true,Zdl hk hD h8];have:=h7 k;unfold mval at this;cases hq:mfind m k with
 | none=>
  rw [hq] at this;rw [←this];simp only [hi,hiz,hf,if_true,Option.map_none]
 | some p=>
  rw [hq] at this;rw [←this];rfl
theorem MapG.upd (hk:Keys P kt d enc D) (hu:P.underlying T=some (.map kt E)) (h:MapG enc D lo σ v f) {k:Int} (hD:D k) (x:Value):∃r B,v=.map (some r)∧B.kind=3∧Zce P σ T v (enc k) x=some (σ.put r B)∧MapG enc D lo (σ.put r B) v (fun j=>if j=k then some x else f j):=by
 obtain ⟨r,m,rfl,h2,h3,h4,h5,h6,h7,h8⟩:=h;cases hq:mfind m k with
 | none=>
  have hn:mval m k=none:=by unfold mval;rw [hq];rfl
  refine ⟨r,grown (σ.get r) (enc k) x,rfl,h4,?_,r,m++[(k,x)],rfl,h2,h3,?_,?_,?_,fun j=>?_,fun j hj=>?_⟩
  ·unfold Zce;simp only [hu,hk.und,h4,h5,Nat.beq_refl,if_true,Zdl hk hD h8,hq]
  ·rw [AS.get_put,if_pos rfl];exact h4
  ·rw [AS.get_put,if_pos rfl];show (σ.get r).ents++[(enc k,x)]=_;rw [h5,ZoZ]
  ·have:=mval_none.1 hn;unfold keysOf at this h6 ⊢;rw [List.map_append,List.nodup_append];refine ⟨h6,by simp,fun a ha b hb=>?_⟩
   simp at hb;rintro rfl;exact this (by rw [←hb];exact ha)
  ·rw [ZpU hn,h7]
  ·unfold keysOf at hj h8;rw [List.map_append,zR] at hj;rcases hj with hj|hj
   ·exact h8 j hj
   ·simp at hj;rw [hj];exact hD
 | some p=>
  obtain ⟨i,w⟩:=p;refine ⟨r,{ σ.get r with ents:=Zeq enc (m.set i (k,x)) },rfl,h4,?_,r,m.set i (k,x),rfl,h2,h3,?_,?_,?_,fun j=>?_,?_⟩
  ·unfold Zce;simp only [hu,hk.und,h4,h5,Nat.beq_refl,if_true,Zdl hk hD h8,hq,ZoY]
  ·rw [AS.get_put,if_pos rfl];exact h4
  ·rw [AS.get_put,if_pos rfl]
  ·rw [ZmM hq];exact h6
  ·rw [ZpS hq,h7]
  ·rw [ZmM hq];exact h8
theorem MapG.del (hk:Keys P kt d enc D) (hu:P.underlying T=some (.map kt E)) (h:MapG enc D lo σ v f) {k:Int} (hD:D k) {x:Value} (hx:f k=some x):∃r B,v=.map (some r)∧B.kind=3∧ZcQ P σ T v (enc k)=some (σ.put r B)∧MapG enc D lo (σ.put r B) v (fun j=>if j=k then none else f j):=by
 obtain ⟨r,m,rfl,h2,h3,h4,h5,h6,h7,h8⟩:=h;cases hq:mfind m k with
 | none=>
  have:=h7 k;unfold mval at this;rw [hq,hx] at this;cases this
 | some p=>
  obtain ⟨i,w⟩:=p;refine ⟨r,{ σ.get r with ents:=Zeq enc (m.eraseIdx i),vals:=(σ.get r).vals.eraseIdx i },rfl,h4,?_,r,m.eraseIdx i,rfl,h2,h3,?_,?_,?_,fun j=>?_,fun j hj=>?_⟩
  ·unfold ZcQ;simp only [hu,hk.und,h4,h5,Nat.beq_refl,if_true,Zdl hk hD h8,hq,Zkr]
  ·rw [AS.get_put,if_pos rfl];exact h4
  ·rw [AS.get_put,if_pos rfl]
  ·unfold keysOf at h6 ⊢;exact h6.sublist ((List.eraseIdx_sublist m i).map _)
  ·rw [ZpT h6 hq,h7]
  ·unfold keysOf at hj h8;exact h8 j (((List.eraseIdx_sublist m i).map _).subset hj)
end
abbrev encI (k:Int):Value:=.int .i64 k
theorem Zry:Keys Tryz.prog 3 (.int .i64) encI (fun _=>True):=⟨Tryz.underlying3,rfl,fun _ _ _ _=>rfl⟩
abbrev MapAt (lo:Nat) (σ:AS) (v:Value) (f:Int→Option Value):Prop:=MapG encI (fun _=>True) lo σ v f
section
variable {lo T E:Nat} {σ σ':AS} {v:Value} {f:Int→Option Value}
theorem MapAt.keep (h:MapAt lo σ v f) (hn:σ.next≤σ'.next) (hg:∀i,MOwn v i→i<σ.next→σ'.get i=σ.get i):MapAt lo σ' v f:=MapG.keep h hn hg
theorem MapAt.own (h:MapAt lo σ v f) {i:Nat} (ho:MOwn v i):lo≤i∧i<σ.next∧(σ.get i).kind=3:=MapG.own h ho
theorem MapAt.look (hu:Tryz.prog.underlying T=some (.map 3 E)) {z:Value} (hz:∃inf,Tryz.prog.info? E=some inf∧inf.zero=some z) (hf:flat z=true) (h:MapAt lo σ v f) (k:Int) (ok:Bool) :
  ZbX Tryz.prog σ T v (.int .i64 k) ok=some (match f k with|some x=>if ok=true then .tuple #[x,.bool true] else x|none=>if ok=true then .tuple #[z,.bool false] else z):=MapG.look Zry hu hz hf h trivial ok
theorem MapAt.upd (hu:Tryz.prog.underlying T=some (.map 3 E)) (h:MapAt lo σ v f) (k:Int) (x:Value):∃r B,v=.map (some r)∧B.kind=3∧Zce Tryz.prog σ T v (.int .i64 k) x=some (σ.put r B)∧MapAt lo (σ.put r B) v (fun j=>if j=k then some x else f j):=MapG.upd Zry hu h trivial x
theorem MapAt.del (hu:Tryz.prog.underlying T=some (.map 3 E)) (h:MapAt lo σ v f) {k:Int} {x:Value} (hx:f k=some x):∃r B,v=.map (some r)∧B.kind=3∧ZcQ Tryz.prog σ T v (.int .i64 k)=some (σ.put r B)∧MapAt lo (σ.put r B) v (fun j=>if j=k then none else f j):=MapG.del Zry hu h trivial hx
end
end Go.Proofs.YteangeffgjolpaaGreatDoor.Abs
namespace Go.Proofs.YteangeffgjolpaaGreatDoor.Nest
open Abs
structure SS where
 outer:List Bool
 inner:List Bool
 path:List Arc
 on:List Int
 stem:List Arc
 loop:List Arc
 found:Bool
def findOn:List Int→Int→Option Nat
 | [],_=>none
 | x::l,t=>if x=t then some 0 else (findOn l t).map (·+1)
def Zcc (rec:SS→Nat→SS):List Arc→SS→SS
 | [],x=>x
 | a::l,x=>if x.found=true then x else if a.1≠0 then Zcc rec l x else
  match findOn x.on a.2 with
  | some k=>{ x with found:=true,stem:=x.stem++x.path.take k,loop:=x.path.drop k++[a] }
  | none=>if x.inner.getD a.2.toNat true=true then Zcc rec l x else
   Zcc rec l (if (rec { x with path:=x.path++[a],on:=x.on++[a.2] } a.2.toNat).found=true then rec { x with path:=x.path++[a],on:=x.on++[a.2] } a.2.toNat
    else { rec { x with path:=x.path++[a],on:=x.on++[a.2] } a.2.toNat with
     path:=(rec { x with path:=x.path++[a],on:=x.on++[a.2] } a.2.toNat).path.dropLast,on:=(rec { x with path:=x.path++[a],on:=x.on++[a.2] } a.2.toNat).on.dropLast })
def ZfF (L:Lts):Nat→SS→Nat→SS
 | 0,x,_=>x
 | f+1,x,s=>Zcc (ZfF L f) (L.getD s []) { x with inner:=x.inner.set s true }
def Zb1 (rec:SS→Nat→SS):List Arc→SS→SS
 | [],x=>x
 | a::l,x=>if x.found=true then x else if x.outer.getD a.2.toNat true=true then Zb1 rec l x else
   Zb1 rec l (if (rec { x with stem:=x.stem++[a] } a.2.toNat).found=true then rec { x with stem:=x.stem++[a] } a.2.toNat
    else { rec { x with stem:=x.stem++[a] } a.2.toNat with stem:=(rec { x with stem:=x.stem++[a] } a.2.toNat).stem.dropLast })
def Zc8 (L:Lts) (x:SS) (s:Nat):SS:=if x.inner.getD s true=true then x else ZfF L L.length { x with path:=[],on:=[(s:Int)] } s
def Zej (L:Lts):Nat→SS→Nat→SS
 | 0,x,_=>x
 | f+1,x,s=>Zb1 (Zej L f) (L.getD s []) (Zc8 L { x with outer:=x.outer.set s true } s)
def cnt:List Bool→Nat
 | []=>0
 | b::l=>(if b=true then 0 else 1)+cnt l
theorem ZhM:∀{l:List Bool} {s:Nat},l[s]?=some false→cnt (l.set s true)+1=cnt l
 | [],s,h=>by simp at h
 | b::l,0,h=>by
  simp at h;subst h;simp [cnt];omega
 | b::l,s+1,h=>by
  have:=ZhM (l:=l) (s:=s) (by simpa using h)
  simp only [List.set_cons_succ,cnt];omega
theorem Zm0:∀l:List Bool,cnt l≤l.length
 | []=>zA _
 | b::l=>by
  have:=Zm0 l;simp only [cnt,List.length_cons];split<;>omega
structure IPost (x y:SS):Prop where
 outer:y.outer=x.outer
 len:y.inner.length=x.inner.length
 cnt:cnt y.inner≤cnt x.inner
 no:y.found=false→y.path=x.path∧y.on=x.on∧y.stem=x.stem∧y.loop=x.loop
 yes:y.found=true→y.stem.length≤x.stem.length+1000∧y.loop.length≤1001
theorem ZfE (rec:SS→Nat→SS) {x:SS} (h:x.found=true):∀l,Zcc rec l x=x
 | []=>rfl
 | a::l=>by unfold Zcc;rw [if_pos h]
theorem Zcs (rec:SS→Nat→SS) {x:SS} (h:x.found=true):∀l,Zb1 rec l x=x
 | []=>rfl
 | a::l=>by unfold Zb1;rw [if_pos h]
theorem IPost.refl {x:SS} (h:x.found=false):IPost x x:=⟨rfl,rfl,zA _,fun _=>⟨rfl,rfl,rfl,rfl⟩,fun h2=>by rw [h] at h2;cases h2⟩
theorem IPost.trans {x y z:SS} (h:IPost x y) (hy:y.found=false) (k:IPost y z):IPost x z:=by
 obtain ⟨e1,e2,e3,e4⟩:=h.no hy;refine ⟨k.outer.trans h.outer,k.len.trans h.len,zB k.cnt h.cnt,fun hz=>?_,fun hz=>?_⟩
 ·obtain ⟨g1,g2,g3,g4⟩:=k.no hz;exact ⟨g1.trans e1,g2.trans e2,g3.trans e3,g4.trans e4⟩
 ·rw [←e3];exact k.yes hz
theorem Zgz {rec:SS→Nat→SS} {f:Nat} (hrec:∀z t,z.found=false→z.path.length+f≤1000→IPost z (rec z t)) :
  ∀(row:List Arc) (x:SS),x.found=false→x.path.length+f+1≤1000→IPost x (Zcc rec row x)
 | [],x,h,_=>IPost.refl h
 | a::l,x,h,hf=>by
  have ih:=Zgz hrec l;unfold Zcc;rw [if_neg (by rw [h];decide)]
  split
  ·exact ih x h hf
  ·split
   ·rename_i k _;refine ⟨rfl,rfl,zA _,fun h2=>(nomatch h2),fun _=>⟨?_,?_⟩⟩
    ·simp only [zS,zX];omega
    ·simp only [zS,List.length_drop,List.length_cons,List.length_nil];omega
   ·split
    ·exact ih x h hf
    ·have hz:=hrec { x with path:=x.path++[a],on:=x.on++[a.2] } a.2.toNat h (by simp only [zS,List.length_cons,List.length_nil];omega)
     generalize rec { x with path:=x.path++[a],on:=x.on++[a.2] } a.2.toNat=y at hz
     cases hy:y.found with
     | true=>
      rw [if_pos rfl,ZfE rec hy];exact ⟨hz.outer,hz.len,hz.cnt,fun h2=>(by rw [hy] at h2;cases h2),hz.yes⟩
     | false=>
      rw [if_neg (by decide)]
      obtain ⟨g1,g2,g3,g4⟩:=hz.no hy;have e1:y.path.dropLast=x.path:=by rw [g1];simp
      have e2:y.on.dropLast=x.on:=by rw [g2];simp
      have p1:IPost x { y with path:=y.path.dropLast,on:=y.on.dropLast }:=⟨hz.outer,hz.len,hz.cnt,fun _=>⟨e1,e2,g3,g4⟩,fun h2=>by rw [show SS.found { y with path:=y.path.dropLast,on:=y.on.dropLast }=y.found from rfl,hy] at h2;cases h2⟩
      exact p1.trans hy (ih _ hy (by show y.path.dropLast.length+f+1≤1000;rw [e1];exact hf))
theorem ZdA:∀(l:List Bool) (s:Nat),cnt (l.set s true)≤cnt l
 | [],s=>zA _
 | b::l,0=>by cases b<;>simp [cnt]
 | b::l,s+1=>by
  have:=ZdA l s;simp only [List.set_cons_succ,cnt];omega
theorem Zfg (L:Lts):∀(f:Nat) (x:SS) (s:Nat),x.found=false→x.path.length+f≤1000→IPost x (ZfF L f x s)
 | 0,x,s,h,_=>IPost.refl h
 | f+1,x,s,h,hf=>by
  have p:IPost { x with inner:=x.inner.set s true } (ZfF L (f+1) x s):=Zgz (f:=f) (Zfg L f) _ _ h (by show x.path.length+f+1≤1000;omega)
  exact ⟨p.outer,p.len.trans (by simp),zB p.cnt (ZdA _ _),p.no,p.yes⟩
structure OPost (x y:SS):Prop where
 olen:y.outer.length=x.outer.length
 len:y.inner.length=x.inner.length
 cnt:cnt y.outer≤cnt x.outer
 no:y.found=false→y.stem=x.stem∧y.loop=x.loop
 yes:y.found=true→y.stem.length≤2000∧y.loop.length≤1001
theorem OPost.refl {x:SS} (h:x.found=false):OPost x x:=⟨rfl,rfl,zA _,fun _=>⟨rfl,rfl⟩,fun h2=>by rw [h] at h2;cases h2⟩
theorem OPost.trans {x y z:SS} (h:OPost x y) (hy:y.found=false) (k:OPost y z):OPost x z:=by
 obtain ⟨e3,e4⟩:=h.no hy;refine ⟨k.olen.trans h.olen,k.len.trans h.len,zB k.cnt h.cnt,fun hz=>?_,k.yes⟩;obtain ⟨g3,g4⟩:=k.no hz;exact ⟨g3.trans e3,g4.trans e4⟩
theorem Zgw {rec:SS→Nat→SS} {f:Nat} (hrec:∀z t,z.found=false→z.stem.length+f≤1000→OPost z (rec z t)) :
  ∀(row:List Arc) (x:SS),x.found=false→x.stem.length+f+1≤1000→OPost x (Zb1 rec row x)
 | [],x,h,_=>OPost.refl h
 | a::l,x,h,hf=>by
  have ih:=Zgw hrec l;unfold Zb1;rw [if_neg (by rw [h];decide)]
  split
  ·exact ih x h hf
  ·have hz:=hrec { x with stem:=x.stem++[a] } a.2.toNat h (by simp only [zS,List.length_cons,List.length_nil];omega)
   generalize rec { x with stem:=x.stem++[a] } a.2.toNat=y at hz
   cases hy:y.found with
   | true=>
    rw [if_pos rfl,Zcs rec hy];exact ⟨hz.olen,hz.len,hz.cnt,fun h2=>(by rw [hy] at h2;cases h2),hz.yes⟩
   | false=>
    rw [if_neg (by decide)]
    obtain ⟨g3,g4⟩:=hz.no hy;have e1:y.stem.dropLast=x.stem:=by rw [g3];simp
    have p1:OPost x { y with stem:=y.stem.dropLast }:=⟨hz.olen,hz.len,hz.cnt,fun _=>⟨e1,g4⟩,fun h2=>by rw [show SS.found { y with stem:=y.stem.dropLast }=y.found from rfl,hy] at h2;cases h2⟩
    exact p1.trans hy (ih _ hy (by show y.stem.dropLast.length+f+1≤1000;rw [e1];exact hf))
theorem ZhJ (L:Lts) (hL:L.length≤400) {x:SS} {s:Nat} (h:x.found=false) (hs:x.stem.length≤1000):OPost x (Zc8 L x s):=by
 unfold Zc8;split
 ·exact OPost.refl h
 ·have p:=Zfg L L.length { x with path:=[],on:=[(s:Int)] } s h (by show 0+L.length≤1000;omega)
  exact ⟨by rw [p.outer],p.len,by rw [p.outer];exact zA _,fun h2=>⟨(p.no h2).2.2.1,(p.no h2).2.2.2⟩,fun h2=>⟨by have h3:=(p.yes h2).1;exact zB h3 (by show x.stem.length+1000≤2000;omega),(p.yes h2).2⟩⟩
theorem ZdQ (L:Lts) (hL:L.length≤400):∀(f:Nat) (x:SS) (s:Nat),x.found=false→x.stem.length+f≤1000→OPost x (Zej L f x s)
 | 0,x,s,h,_=>OPost.refl h
 | f+1,x,s,h,hf=>by
  have p:=ZhJ L hL (x:={ x with outer:=x.outer.set s true }) (s:=s) h (by show x.stem.length≤1000;omega)
  have q:OPost x (Zc8 L { x with outer:=x.outer.set s true } s):=⟨p.olen.trans (by simp),p.len,zB p.cnt (ZdA _ _),p.no,p.yes⟩
  show OPost x (Zb1 (Zej L f) (L.getD s []) (Zc8 L { x with outer:=x.outer.set s true } s))
  cases hy:(Zc8 L { x with outer:=x.outer.set s true } s).found with
  | true=>rw [Zcs _ hy];exact q
  | false=>exact q.trans hy (Zgw (ZdQ L hL f) _ _ hy (by rw [(q.no hy).1];omega))
theorem el27:El Tryz.prog 44 57 2:=⟨Tryz.underlying44,⟨(Tryz.prog.info? 57).get!,(((Tryz.prog.info? 57).get!).zero).get!,by kernel_rfl,by kernel_rfl,zD (by kernel_rfl),by kernel_rfl,by kernel_rfl,by kernel_rfl⟩,by decide⟩
section
variable {lo T E z k m:Nat} {σ σ':AS} {v x:Value} {cs new:List Value}
end
section
variable {σ0 σ σ' s:AS}
structure Chg (σ0 σ s:AS) (v v':Value):Prop where
 nxt:σ.next≤s.next
 get:∀i,i<σ.next→¬Own v i→s.get i=σ.get i
 low:∀q,q≤σ0.next→q≤σ.low→q≤s.low
 own:∀i,Own v' i→Own v i∨σ.next≤i
theorem Chg.ext {v v':Value} (h:Chg σ0 σ s v v') (e:Ext σ0 σ) (ho:∀i,Own v i→σ0.next≤i):Ext σ0 s:=
 ⟨zB e.nxt h.nxt,fun i hi=>by rw [h.get i (zC hi e.nxt) (fun h2=>by have:=ho i h2;omega),e.get i hi],fun m h1 h2=>h.low m h2 (e.low m h1 h2)⟩
theorem Chg.cut {v v':Value} (h:∀i,Own v' i→Own v i):Chg σ0 σ σ v v':=⟨zA _,fun _ _ _=>rfl,fun _ _ h=>h,fun i hi=>.inl (h i hi)⟩
theorem ZeW (l:List Arc):(cellsOf l).take ((l.length-1)*2)=cellsOf l.dropLast:=by rw [Zdh,List.dropLast_eq_take]
theorem Zle {i:Nat}:¬Own (.slice none 0 0) i:=fun ⟨_,_,e⟩=>by cases e
end
open Abs
theorem el53:El Tryz.prog 97 102 2:=⟨Tryz.underlying97,⟨(Tryz.prog.info? 102).get!,(((Tryz.prog.info? 102).get!).zero).get!,by kernel_rfl,by kernel_rfl,zD (by kernel_rfl),by kernel_rfl,by kernel_rfl,by kernel_rfl⟩,by decide⟩
def cU:List Bool→List Bool→Nat
 | a::l,b::m=>(if (a||b)=true then 1 else 0)+cU l m
 | _,_=>0
theorem ZlL:∀l m:List Bool,cU l m≤l.length
 | [],_=>by simp [cU]
 | _::_,[]=>by simp [cU]
 | a::l,b::m=>by
  have:=ZlL l m;simp only [cU,List.length_cons];split<;>omega
theorem ZhP:∀l m:List Bool,cU l m=cU m l
 | [],[]=>rfl
 | [],_::_=>rfl
 | _::_,[]=>rfl
 | a::l,b::m=>by simp only [cU,ZhP l m,Bool.or_comm]
theorem ZlK:∀{l m:List Bool} {s:Nat},l.length=m.length→l[s]?=some false→cU (l.set s true) m=cU l m+if m.getD s false=true then 0 else 1
 | [],m,s,_,h=>by simp at h
 | a::l,[],s,h,_=>by simp at h
 | a::l,b::m,0,_,h=>by
  simp at h;subst h;cases b<;>simp [cU]<;>omega
 | a::l,b::m,s+1,hl,h=>by
  have:=ZlK (l:=l) (m:=m) (s:=s) (by simpa using hl) (by simpa using h)
  simp only [List.set_cons_succ,cU,this,List.getD_cons_succ];omega
structure PD where
 outer:List Bool
 inner:List Bool
 place:List Int
 path:List Arc
 inside:List Arc
 stem:List Arc
 loop:List Arc
structure FP where
 om:Value
 im:Value
 pm:Value
 pv:Value
 nv:Value
 sv:Value
 lv:Value
def bmap (l:List Bool) (k:Int):Option Value:=if 0≤k∧l.getD k.toNat false=true then some (.bool true) else none
def pmap (l:List Int) (k:Int):Option Value:=(findOn l k).map fun i=>.int .i64 (i:Int)
def Oth (b:Blk):Prop:=b.kind≠3∧b.elem≠99∧b.elem≠102
structure Fr (lo:Nat) (S σ:AS):Prop where
 nxt:S.next≤σ.next
 get:∀i,i<S.next→(i<lo∨Oth (S.get i))→σ.get i=S.get i
theorem Fr.refl {lo:Nat} {σ:AS}:Fr lo σ σ:=⟨zA _,fun _ _ _=>rfl⟩
theorem Fr.ext {lo:Nat} {S σ σ':AS} (h:Fr lo S σ) (e:Ext σ σ'):Fr lo S σ':=⟨zB h.nxt e.nxt,fun i hi ho=>(e.get i (zC hi h.nxt)).trans (h.get i hi ho)⟩
theorem Fr.of {lo:Nat} {σ σ':AS} (e:Ext σ σ'):Fr lo σ σ':=Fr.refl.ext e
theorem Fr.put {lo:Nat} {S σ:AS} (h:Fr lo S σ) {i:Nat} (hi:lo≤i) (hk:¬Oth (σ.get i)) (B:Blk):Fr lo S (σ.put i B):=
 ⟨h.nxt,fun j hj ho=>by
  rw [AS.get_put];by_cases e:i=j
  ·subst e;have h1:=h.get i hj ho;rcases ho with ho|ho
   ·omega
   ·rw [←h1] at ho;exact absurd ho hk
  ·rw [if_neg e];exact h.get j hj ho⟩
theorem Fr.merge {lo:Nat} {S σ s:AS} (h:Fr lo S s):Fr lo S (σ.merge s):=⟨h.nxt,h.get⟩
theorem Fr.chg {σ0 S σ s:AS} {v v':Value} (h:Fr σ0.next S σ) (hc:Chg σ0 σ s v v') (ho:∀i,Own v i→σ0.next≤i∧(σ.get i).elem=102):Fr σ0.next S s:=
 ⟨zB h.nxt hc.nxt,fun i hi hk=>by
  have h1:=h.get i hi hk;rw [hc.get i (zC hi h.nxt),h1];intro h2;obtain ⟨h3,h4⟩:=ho i h2;rcases hk with hk|hk
  ·omega
  ·rw [←h1] at hk;exact hk.2.2 h4⟩
theorem _root_.Go.Proofs.YteangeffgjolpaaGreatDoor.Abs.ExtX.putHi {X:List Nat} {σ0 σ:AS} (h:ExtX X σ0 σ) {i:Nat} (hi:σ0.next≤i) (B:Blk):ExtX X σ0 (σ.put i B):=
 ⟨h.nxt,fun j hj hx=>by rw [AS.get_put,if_neg (fun e=>by omega),h.get j hj hx],fun m h1 h2 h3=>Nat.le_min.2 ⟨h.low m h1 h2 h3,by omega⟩⟩
theorem _root_.Go.Proofs.YteangeffgjolpaaGreatDoor.Abs.ExtX.merge2 {X:List Nat} {σ0 σ s:AS} (h:ExtX X σ0 σ) (hs:ExtX X σ0 s):ExtX X σ0 (σ.merge s):=⟨hs.nxt,hs.get,fun m h1 h2 h3=>Nat.le_min.2 ⟨h.low m h1 h2 h3,hs.low m h1 h2 h3⟩⟩
theorem Chg.extX {X:List Nat} {σ0 σ s:AS} {v v':Value} (h:Chg σ0 σ s v v') (e:ExtX X σ0 σ) (ho:∀i,Own v i→σ0.next≤i):ExtX X σ0 s:=
 ⟨zB e.nxt h.nxt,fun i hi hx=>by rw [h.get i (zC hi e.nxt) (fun h2=>by have:=ho i h2;omega),e.get i hi hx],fun m h1 h2 h3=>h.low m h2 (e.low m h1 h2 h3)⟩
structure PRepC (X:List Nat) (σ0 S σ:AS) (xb N:Nat) (x:PD) (d:FP):Prop where
 ext:ExtX X σ0 σ
 fr:Fr σ0.next S σ
 lo:σ0.next≤xb
 lt:xb<σ.next
 el:(σ.get xb).elem=99
 kd:(σ.get xb).kind=1
 ol:x.outer.length=N
 il:x.inner.length=N
 outer:MapAt σ0.next σ d.om (bmap x.outer)
 inner:MapAt σ0.next σ d.im (bmap x.inner)
 place:MapAt σ0.next σ d.pm (pmap x.place)
 oi:∀i,MOwn d.om i→¬MOwn d.im i
 op:∀i,MOwn d.om i→¬MOwn d.pm i
 ip:∀i,MOwn d.im i→¬MOwn d.pm i
 path:Stk σ0.next 102 2 σ d.pv x.path.length (cellsOf x.path)
 inside:Stk σ0.next 102 2 σ d.nv x.inside.length (cellsOf x.inside)
 ps:∀i,Own d.pv i→¬Own d.nv i
 stem:Stk σ0.next 102 2 σ d.sv x.stem.length (cellsOf x.stem)
 loop:Stk σ0.next 102 2 σ d.lv x.loop.length (cellsOf x.loop)
def pblk (fv:Value) (M c:Nat) (d:FP):Blk:=⟨1,99,0,[fv,.int .i64 (M:Int),.int .i64 (c:Int),d.om,d.im,d.pm,d.pv,d.nv,d.sv,d.lv],[]⟩
structure PMid (X:List Nat) (σ0 S σ:AS) (xb N M:Nat) (fv:Value) (cn:Nat) (x:PD) (d d':FP):Prop where
 c:PRepC X σ0 S σ xb N x d'
 get:σ.get xb=pblk fv M cn d
abbrev Zh6 (X:List Nat) (σ0 S σ:AS) (xb N M:Nat) (fv:Value) (x:PD) (d:FP):Prop:=PMid X σ0 S σ xb N M fv (cU x.outer x.inner) x d d
section
variable {X:List Nat} {S σ0 σ σ' s:AS} {xb N M c:Nat} {fv:Value} {x:PD} {d d':FP}
theorem _root_.Go.Proofs.YteangeffgjolpaaGreatDoor.Abs.MapAt.ne {lo:Nat} {v:Value} {f:Int→Option Value} (h:MapAt lo σ v f) {i j:Nat} (ho:MOwn v i) (hk:(σ.get j).kind≠3):i≠j:=fun e=>hk (by rw [←e];exact (h.own ho).2.2)
theorem _root_.Go.Proofs.YteangeffgjolpaaGreatDoor.Abs.Stk.ne {lo E z k:Nat} {v:Value} {cs:List Value} (h:Stk lo E z σ v k cs) {i j:Nat} (ho:Own v i) (hk:(σ.get j).kind≠2):i≠j:=fun e=>hk (by rw [←e];exact (h.own ho).2.2.1)
theorem PRepC.keep (h:PRepC X σ0 S σ xb N x d) (hE:ExtX X σ0 σ') (hF:Fr σ0.next S σ') (hn:σ.next≤σ'.next) (hg:∀i,i<σ.next→i≠xb→σ'.get i=σ.get i) (he:(σ'.get xb).elem=99∧(σ'.get xb).kind=1):PRepC X σ0 S σ' xb N x d:=by
 have k3:(σ.get xb).kind≠3:=by rw [h.kd];decide
 have k2:(σ.get xb).kind≠2:=by rw [h.kd];decide
 exact ⟨hE,hF,h.lo,by have:=h.lt;omega,he.1,he.2,h.ol,h.il,h.outer.keep hn fun i ho hi=>hg i hi (h.outer.ne ho k3),h.inner.keep hn fun i ho hi=>hg i hi (h.inner.ne ho k3),h.place.keep hn fun i ho hi=>hg i hi (h.place.ne ho k3),h.oi,h.op,h.ip,
  h.path.keep hn fun i ho hi=>hg i hi (h.path.ne ho k2),h.inside.keep hn fun i ho hi=>hg i hi (h.inside.ne ho k2),h.ps,h.stem.keep hn fun i ho hi=>hg i hi (h.stem.ne ho k2),h.loop.keep hn fun i ho hi=>hg i hi (h.loop.ne ho k2)⟩
theorem PMid.ext (h:PMid X σ0 S σ xb N M fv c x d d') (e:Ext σ σ'):PMid X σ0 S σ' xb N M fv c x d d':=
 ⟨h.c.keep (h.c.ext.trans (ExtX.of e)) (h.c.fr.ext e) e.nxt (fun i hi _=>e.get i hi) (by rw [e.get _ h.c.lt];exact ⟨h.c.el,h.c.kd⟩),(e.get _ h.c.lt).trans h.get⟩
theorem PRepC.anew (h:PRepC X σ0 S σ xb N x d):PRepC X σ0 σ σ xb N x d:={ h with fr:=Fr.refl }
theorem PMid.anew (h:PMid X σ0 S σ xb N M fv c x d d'):PMid X σ0 σ σ xb N M fv c x d d':=⟨h.c.anew,h.get⟩
theorem PRepC.merge (h:PRepC X σ0 S s xb N x d) (e:ExtX X σ0 σ):PRepC X σ0 S (σ.merge s) xb N x d:=h.keep (e.merge2 h.ext) h.fr.merge (zA _) (fun _ _ _=>rfl) ⟨h.el,h.kd⟩
theorem PMid.merge (h:PMid X σ0 S s xb N M fv c x d d') (e:ExtX X σ0 σ):PMid X σ0 S (σ.merge s) xb N M fv c x d d':=⟨h.c.merge e,h.get⟩
theorem PRepC.put (h:PRepC X σ0 S σ xb N x d) (c:Nat):PMid X σ0 S (σ.put xb (pblk fv M c d)) xb N M fv c x d d:=
 ⟨h.keep (h.ext.putHi h.lo _) (h.fr.put h.lo (fun o=>o.2.1 h.el) _) (zA _) (fun i _ hi=>by rw [AS.get_put,if_neg (fun e=>hi e.symm)]) (by rw [AS.get_put,if_pos rfl];exact ⟨rfl,rfl⟩),by rw [AS.get_put,if_pos rfl]⟩
theorem PMid.put (h:PMid X σ0 S σ xb N M fv c x d d'):PMid X σ0 S (σ.put xb (pblk fv M c d')) xb N M fv c x d' d':=h.c.put c
theorem ZoR {b:Nat}:Za4 Tryz.prog 99 0 (.pointer (some ⟨b,0,none⟩))=some (.pointer (some ⟨b,0,none⟩)):=by kernel_rfl
theorem PMid.ld0 (h:PMid X σ0 S σ xb N M fv c x d d'):Zat Tryz.prog σ 91 (.pointer (some ⟨xb,0,none⟩))=some (fv):=Zaw Tryz.underlying91 rfl (Zaq h.get rfl (by simp))
theorem ZrM {b:Nat}:Za4 Tryz.prog 99 1 (.pointer (some ⟨b,0,none⟩))=some (.pointer (some ⟨b,1,none⟩)):=by kernel_rfl
theorem PMid.ld1 (h:PMid X σ0 S σ xb N M fv c x d d'):Zat Tryz.prog σ 3 (.pointer (some ⟨xb,1,none⟩))=some (.int .i64 (M:Int)):=Zaw Tryz.underlying3 rfl (Zaq h.get rfl (by simp))
theorem Zlz {b:Nat}:Za4 Tryz.prog 99 2 (.pointer (some ⟨b,0,none⟩))=some (.pointer (some ⟨b,2,none⟩)):=by kernel_rfl
theorem PMid.ld2 (h:PMid X σ0 S σ xb N M fv c x d d'):Zat Tryz.prog σ 3 (.pointer (some ⟨xb,2,none⟩))=some (.int .i64 (c:Int)):=Zaw Tryz.underlying3 rfl (Zaq h.get rfl (by simp))
theorem Zly {b:Nat}:Za4 Tryz.prog 99 3 (.pointer (some ⟨b,0,none⟩))=some (.pointer (some ⟨b,3,none⟩)):=by kernel_rfl
theorem PMid.ld3 (h:PMid X σ0 S σ xb N M fv c x d d'):Zat Tryz.prog σ 95 (.pointer (some ⟨xb,3,none⟩))=some (d.om):=Zaw Tryz.underlying95 rfl (Zaq h.get rfl (by simp))
theorem Zgi {b:Nat}:Za4 Tryz.prog 99 4 (.pointer (some ⟨b,0,none⟩))=some (.pointer (some ⟨b,4,none⟩)):=by kernel_rfl
theorem PMid.ld4 (h:PMid X σ0 S σ xb N M fv c x d d'):Zat Tryz.prog σ 95 (.pointer (some ⟨xb,4,none⟩))=some (d.im):=Zaw Tryz.underlying95 rfl (Zaq h.get rfl (by simp))
theorem Zja {b:Nat}:Za4 Tryz.prog 99 5 (.pointer (some ⟨b,0,none⟩))=some (.pointer (some ⟨b,5,none⟩)):=by kernel_rfl
theorem PMid.ld5 (h:PMid X σ0 S σ xb N M fv c x d d'):Zat Tryz.prog σ 96 (.pointer (some ⟨xb,5,none⟩))=some (d.pm):=Zaw Tryz.underlying96 rfl (Zaq h.get rfl (by simp))
theorem Zlx {b:Nat}:Za4 Tryz.prog 99 6 (.pointer (some ⟨b,0,none⟩))=some (.pointer (some ⟨b,6,none⟩)):=by kernel_rfl
theorem PMid.ld6 (h:PMid X σ0 S σ xb N M fv c x d d'):Zat Tryz.prog σ 97 (.pointer (some ⟨xb,6,none⟩))=some (d.pv):=Zaw Tryz.underlying97 rfl (Zaq h.get rfl (by simp))
theorem Zgh {b:Nat}:Za4 Tryz.prog 99 7 (.pointer (some ⟨b,0,none⟩))=some (.pointer (some ⟨b,7,none⟩)):=by kernel_rfl
theorem PMid.ld7 (h:PMid X σ0 S σ xb N M fv c x d d'):Zat Tryz.prog σ 97 (.pointer (some ⟨xb,7,none⟩))=some (d.nv):=Zaw Tryz.underlying97 rfl (Zaq h.get rfl (by simp))
theorem Zlw {b:Nat}:Za4 Tryz.prog 99 8 (.pointer (some ⟨b,0,none⟩))=some (.pointer (some ⟨b,8,none⟩)):=by kernel_rfl
theorem PMid.ld8 (h:PMid X σ0 S σ xb N M fv c x d d'):Zat Tryz.prog σ 97 (.pointer (some ⟨xb,8,none⟩))=some (d.sv):=Zaw Tryz.underlying97 rfl (Zaq h.get rfl (by simp))
theorem Zlv {b:Nat}:Za4 Tryz.prog 99 9 (.pointer (some ⟨b,0,none⟩))=some (.pointer (some ⟨b,9,none⟩)):=by kernel_rfl
theorem PMid.ld9 (h:PMid X σ0 S σ xb N M fv c x d d'):Zat Tryz.prog σ 97 (.pointer (some ⟨xb,9,none⟩))=some (d.lv):=Zaw Tryz.underlying97 rfl (Zaq h.get rfl (by simp))
theorem Zha {t i:Nat} {v:Value} {vals:List Value} (h:σ.get xb=⟨1,99,0,vals,[]⟩) (hi:i<vals.length) (hv:(∃a n c,v=.slice a n c)∨∃k,v=.int .i64 k) (ht:∃inf,Tryz.prog.info? t=some inf∧inf.size=1) :
  ZaK Tryz.prog σ t v (.pointer (some ⟨xb,i,none⟩))=some (σ.put xb ⟨1,99,0,vals.set i v,[]⟩):=by
 obtain ⟨inf,hi2,hs⟩:=ht;have hz:Nat.beq v.cells.size 1=true∧v.cells.toList=[v]∧one v=true:=by
  rcases hv with ⟨a,n,c,rfl⟩|⟨f,rfl⟩<;>exact ⟨rfl,rfl,rfl⟩
 unfold ZaK;simp only [hi2,hs,hz.1,if_true,hz.2.1];unfold Zbc;simp only [h,ZaJ,List.length_cons,List.length_nil,Nat.zero_add,List.all_cons,List.all_nil,hz.2.2];rw [ZbF (show i+1≤vals.length by omega),ZaP,Zbe]
 rfl
theorem sz51:∃inf,Tryz.prog.info? 97=some inf∧inf.size=1:=⟨(Tryz.prog.info? 97).get!,by kernel_rfl,by kernel_rfl⟩
theorem sz3:∃inf,Tryz.prog.info? 3=some inf∧inf.size=1:=⟨(Tryz.prog.info? 3).get!,by kernel_rfl,by kernel_rfl⟩
theorem PMid.st6 {v':Value} (h:PMid X σ0 S σ xb N M fv c x d { d with pv:=v' }) (hv:∃a n c,v'=.slice a n c) :
  ZaK Tryz.prog σ 97 v' (.pointer (some ⟨xb,6,none⟩))=some (σ.put xb (pblk fv M c { d with pv:=v' })):=Zha h.get (by simp) (.inl hv) sz51
theorem PMid.st7 {v':Value} (h:PMid X σ0 S σ xb N M fv c x d { d with nv:=v' }) (hv:∃a n c,v'=.slice a n c) :
  ZaK Tryz.prog σ 97 v' (.pointer (some ⟨xb,7,none⟩))=some (σ.put xb (pblk fv M c { d with nv:=v' })):=Zha h.get (by simp) (.inl hv) sz51
theorem PMid.st8 {v':Value} (h:PMid X σ0 S σ xb N M fv c x d { d with sv:=v' }) (hv:∃a n c,v'=.slice a n c) :
  ZaK Tryz.prog σ 97 v' (.pointer (some ⟨xb,8,none⟩))=some (σ.put xb (pblk fv M c { d with sv:=v' })):=Zha h.get (by simp) (.inl hv) sz51
theorem PMid.st9 {v':Value} (h:PMid X σ0 S σ xb N M fv c x d { d with lv:=v' }) (hv:∃a n c,v'=.slice a n c) :
  ZaK Tryz.prog σ 97 v' (.pointer (some ⟨xb,9,none⟩))=some (σ.put xb (pblk fv M c { d with lv:=v' })):=Zha h.get (by simp) (.inl hv) sz51
theorem PMid.st2 (h:PMid X σ0 S σ xb N M fv c x d d') (c':Nat):ZaK Tryz.prog σ 3 (.int .i64 (c':Int)) (.pointer (some ⟨xb,2,none⟩))=some (σ.put xb (pblk fv M c' d)):=Zha h.get (by simp) (.inr ⟨_,rfl⟩) sz3
theorem PMid.count (h:PMid X σ0 S σ xb N M fv c x d d) (c':Nat):PMid X σ0 S (σ.put xb (pblk fv M c' d)) xb N M fv c' x d d:=h.c.put c'
theorem PRepC.setPath (h:PRepC X σ0 S σ xb N x d) {v':Value} {p:List Arc} (hc:Chg σ0 σ s d.pv v') (hs:Stk σ0.next 102 2 s v' p.length (cellsOf p)) (hl:x.stem=[]∧x.loop=[]) (hd:d.sv=.slice none 0 0∧d.lv=.slice none 0 0):PRepC X σ0 S s xb N { x with path:=p } { d with pv:=v' }:=by
 have own:∀i,Own d.pv i→σ0.next≤i∧(σ.get i).kind=2:=fun i hi=>⟨(h.path.own hi).1,(h.path.own hi).2.2.1⟩;have ne:∀{i:Nat},(σ.get i).kind≠2→¬Own d.pv i:=fun h1 h2=>h1 (own _ h2).2;have nil:∀{v:Value} {l:List Arc},v=.slice none 0 0→l=[]→Stk σ0.next 102 2 s v l.length (cellsOf l):=fun h1 h2=>by rw [h1,h2];exact ⟨rfl,rfl,.inl ⟨rfl,rfl⟩⟩
 refine ⟨hc.extX h.ext fun i hi=>(own i hi).1,h.fr.chg hc (fun i hi=>⟨(own i hi).1,(h.path.own hi).2.2.2⟩),h.lo,by have:=h.lt;have:=hc.nxt;omega,?_,?_,h.ol,h.il,h.outer.keep hc.nxt fun i ho hi=>hc.get i hi (ne (by rw [(h.outer.own ho).2.2];decide)),h.inner.keep hc.nxt fun i ho hi=>hc.get i hi (ne (by rw [(h.inner.own ho).2.2];decide)),h.place.keep hc.nxt fun i ho hi=>hc.get i hi (ne (by rw [(h.place.own ho).2.2];decide)),h.oi,h.op,h.ip,hs,h.inside.keep hc.nxt (fun i ho hi=>hc.get i hi (fun h2=>h.ps i h2 ho)),fun i hi ho=>by rcases hc.own i hi with h2|h2;exact h.ps i h2 ho;have:=(h.inside.own ho).2.1;omega,nil hd.1 hl.1,nil hd.2 hl.2⟩
 ·rw [hc.get xb h.lt (ne (by rw [h.kd];decide))];exact h.el
 ·rw [hc.get xb h.lt (ne (by rw [h.kd];decide))];exact h.kd
theorem PRepC.setInside (h:PRepC X σ0 S σ xb N x d) {v':Value} {p:List Arc} (hc:Chg σ0 σ s d.nv v') (hs:Stk σ0.next 102 2 s v' p.length (cellsOf p)) (hl:x.stem=[]∧x.loop=[]) (hd:d.sv=.slice none 0 0∧d.lv=.slice none 0 0):PRepC X σ0 S s xb N { x with inside:=p } { d with nv:=v' }:=by
 have own:∀i,Own d.nv i→σ0.next≤i∧(σ.get i).kind=2:=fun i hi=>⟨(h.inside.own hi).1,(h.inside.own hi).2.2.1⟩;have ne:∀{i:Nat},(σ.get i).kind≠2→¬Own d.nv i:=fun h1 h2=>h1 (own _ h2).2;have nil:∀{v:Value} {l:List Arc},v=.slice none 0 0→l=[]→Stk σ0.next 102 2 s v l.length (cellsOf l):=fun h1 h2=>by rw [h1,h2];exact ⟨rfl,rfl,.inl ⟨rfl,rfl⟩⟩
 refine ⟨hc.extX h.ext fun i hi=>(own i hi).1,h.fr.chg hc (fun i hi=>⟨(own i hi).1,(h.inside.own hi).2.2.2⟩),h.lo,by have:=h.lt;have:=hc.nxt;omega,?_,?_,h.ol,h.il,h.outer.keep hc.nxt fun i ho hi=>hc.get i hi (ne (by rw [(h.outer.own ho).2.2];decide)),h.inner.keep hc.nxt fun i ho hi=>hc.get i hi (ne (by rw [(h.inner.own ho).2.2];decide)),h.place.keep hc.nxt fun i ho hi=>hc.get i hi (ne (by rw [(h.place.own ho).2.2];decide)),h.oi,h.op,h.ip,h.path.keep hc.nxt (fun i ho hi=>hc.get i hi (fun h2=>h.ps i ho h2)),hs,fun i hi ho=>by rcases hc.own i ho with h2|h2;exact h.ps i hi h2;have:=(h.path.own hi).2.1;omega,nil hd.1 hl.1,nil hd.2 hl.2⟩
 ·rw [hc.get xb h.lt (ne (by rw [h.kd];decide))];exact h.el
 ·rw [hc.get xb h.lt (ne (by rw [h.kd];decide))];exact h.kd
end
theorem Zm6 {l:List Bool} {s:Nat} (hs:s<l.length):bmap (l.set s true)=fun j=>if j=(s:Int) then some (.bool true) else bmap l j:=by
 funext j
 unfold bmap;by_cases h:j=(s:Int)
 ·subst h;rw [if_pos rfl,if_pos];refine ⟨by omega,?_⟩
  simp [hs]
 ·rw [if_neg h];by_cases h0:0≤j
  ·have hne:s≠j.toNat:=by omega
   rw [show (l.set s true).getD j.toNat false=l.getD j.toNat false by rw [zL,zL,List.getElem?_set_ne hne]]
  ·rw [if_neg (fun h2=>h0 h2.1),if_neg (fun h2=>h0 h2.1)]
theorem Zqq {l:List Bool} {k:Nat}:(match bmap l (k:Int) with|some x=>x|none=>Value.bool false)=.bool (l.getD k false):=by
 unfold bmap;rw [zW];cases h:l.getD k false with
 | true=>rw [if_pos ⟨by omega,rfl⟩]
 | false=>rw [if_neg (fun h2=>by cases h2.2)]
theorem Znv {l:List Int} {s k:Int} (h:findOn l s=none):findOn (l++[s]) k=if k=s then some l.length else findOn l k:=by
 induction l with
 | nil=>
  show (if s=k then some 0 else (findOn [] k).map (·+1))=_
  by_cases e:k=s
  ·rw [if_pos e.symm,if_pos e];rfl
  ·rw [if_neg (fun h=>e h.symm),if_neg e];rfl
 | cons x l ih=>
  unfold findOn at h;split at h
  ·cases h
  ·rename_i hx;have hl:findOn l s=none:=by
    cases hq:findOn l s with
    | none=>rfl
    | some q=>rw [hq] at h;cases h
   show (if x=k then some 0 else (findOn (l++[s]) k).map (·+1))=_
   rw [ih hl];by_cases e:k=s
   ·subst e;rw [if_neg hx,if_pos rfl,if_pos rfl];rfl
   ·rw [if_neg e,if_neg e]
    conv=>rhs;unfold findOn
theorem Zi1 {l:List Int} {s:Int} (h:findOn l s=none):pmap (l++[s])=fun j=>if j=s then some (.int .i64 (l.length:Int)) else pmap l j:=by
 funext j
 unfold pmap;rw [Znv h];by_cases e:j=s
 ·rw [if_pos e,if_pos e];rfl
 ·rw [if_neg e,if_neg e]
theorem ZpH {l:List Int} {s:Int} (h:findOn l s=none):(fun j=>if j=s then none else pmap (l++[s]) j)=pmap l:=by
 funext j
 rw [Zi1 h];by_cases e:j=s
 ·rw [if_pos e];unfold pmap;rw [e,h];rfl
 ·rw [if_neg e];dsimp only;rw [if_neg e]
theorem zero4:∃inf,Tryz.prog.info? 4=some inf∧inf.zero=some (.bool false):=⟨(Tryz.prog.info? 4).get!,by kernel_rfl,by kernel_rfl⟩
theorem Zq4:∃inf,Tryz.prog.info? 3=some inf∧inf.zero=some (.int .i64 0):=⟨(Tryz.prog.info? 3).get!,by kernel_rfl,by kernel_rfl⟩
section
variable {X:List Nat} {S σ0 σ σ' s:AS} {xb N M c:Nat} {fv:Value} {x:PD} {d d':FP}
theorem Zkd {lo:Nat} {v:Value} {l:List Bool} (h:MapAt lo σ v (bmap l)) (k:Nat):ZbX Tryz.prog σ 95 v (.int .i64 (k:Int)) false=some (.bool (l.getD k false)):=by
 rw [h.look Tryz.underlying95 zero4 rfl (k:Int) false];have:=Zqq (l:=l) (k:=k);cases hq:bmap l (k:Int) with
 | none=>rw [hq] at this;exact congrArg some this
 | some y=>rw [hq] at this;exact congrArg some this
theorem look56 {lo:Nat} {v:Value} {l:List Int} (h:MapAt lo σ v (pmap l)) (k:Int):ZbX Tryz.prog σ 96 v (.int .i64 k) true=some (match findOn l k with|some i=>.tuple #[.int .i64 (i:Int),.bool true]|none=>.tuple #[.int .i64 0,.bool false]):=by
 rw [h.look Tryz.underlying96 Zq4 rfl k true];unfold pmap;cases findOn l k<;>rfl
theorem ZfA {r:Nat} {B:Blk} (h:PRepC X σ0 S σ xb N x d) (hr:σ0.next≤r) (hk:(σ.get r).kind=3) (hd:d.om=.map (some r)∨d.im=.map (some r)∨d.pm=.map (some r)) {l m:List Bool} {p:List Int} (hl:l.length=N) (hm:m.length=N)
  (ho:MapAt σ0.next (σ.put r B) d.om (bmap l)) (hi:MapAt σ0.next (σ.put r B) d.im (bmap m)) (hp:MapAt σ0.next (σ.put r B) d.pm (pmap p)):PRepC X σ0 S (σ.put r B) xb N { x with outer:=l,inner:=m,place:=p } d:=by
 have ne:∀{j:Nat},(σ.get j).kind≠3→(σ.put r B).get j=σ.get j:=fun {j} hj=>by
  rw [AS.get_put,if_neg];rintro rfl;exact hj hk
 have k1:(σ.get xb).kind≠3:=by rw [h.kd];decide
 exact ⟨h.ext.putHi hr _,h.fr.put hr (fun o=>o.1 hk) _,h.lo,h.lt,by rw [ne k1];exact h.el,by rw [ne k1];exact h.kd,hl,hm,ho,hi,hp,h.oi,h.op,h.ip,
  h.path.keep (zA _) fun j ho _=>ne (by rw [(h.path.own ho).2.2.1];decide),h.inside.keep (zA _) fun j ho _=>ne (by rw [(h.inside.own ho).2.2.1];decide),h.ps,
  h.stem.keep (zA _) fun j ho _=>ne (by rw [(h.stem.own ho).2.2.1];decide),h.loop.keep (zA _) fun j ho _=>ne (by rw [(h.loop.own ho).2.2.1];decide)⟩
theorem ZcF {lo r:Nat} {B:Blk} {v:Value} {f:Int→Option Value} (h:MapAt lo σ v f) (hne:∀i,MOwn v i→i≠r):MapAt lo (σ.put r B) v f:=
 h.keep (zA _) fun i ho _=>by rw [AS.get_put,if_neg (fun e=>hne i ho e.symm)]
theorem PMid.markInner (h:PMid X σ0 S σ xb N M fv c x d d) {t:Nat} (ht:t<N):∃r B,Zce Tryz.prog σ 95 d.im (.int .i64 (t:Int)) (.bool true)=some (σ.put r B)∧PMid X σ0 S (σ.put r B) xb N M fv c { x with inner:=x.inner.set t true } d d:=by
 obtain ⟨r,B,e,hB,hu,hm⟩:=h.c.inner.upd Tryz.underlying95 (t:Int) (.bool true);have ho:=h.c.inner.own e;refine ⟨r,B,hu,ZfA h.c ho.1 ho.2.2 (.inr (.inl e)) h.c.ol (by rw [List.length_set];exact h.c.il) (ZcF h.c.outer fun i hi h2=>h.c.oi i hi (by rw [h2];exact e)) ?_ (ZcF h.c.place fun i hi h2=>h.c.ip i (by rw [h2];exact e) hi),?_⟩
 ·rw [Zm6 (by rw [h.c.il];exact ht)];exact hm
 ·rw [AS.get_put,if_neg (fun h2=>by have:=ho.2.2;rw [h2,h.c.kd] at this;cases this)];exact h.get
theorem PMid.markOuter (h:PMid X σ0 S σ xb N M fv c x d d) {t:Nat} (ht:t<N):∃r B,Zce Tryz.prog σ 95 d.om (.int .i64 (t:Int)) (.bool true)=some (σ.put r B)∧PMid X σ0 S (σ.put r B) xb N M fv c { x with outer:=x.outer.set t true } d d:=by
 obtain ⟨r,B,e,hB,hu,hm⟩:=h.c.outer.upd Tryz.underlying95 (t:Int) (.bool true);have ho:=h.c.outer.own e;refine ⟨r,B,hu,ZfA h.c ho.1 ho.2.2 (.inl e) (by rw [List.length_set];exact h.c.ol) h.c.il ?_ (ZcF h.c.inner fun i hi h2=>h.c.oi i (by rw [h2];exact e) hi) (ZcF h.c.place fun i hi h2=>h.c.op i (by rw [h2];exact e) hi),?_⟩
 ·rw [Zm6 (by rw [h.c.ol];exact ht)];exact hm
 ·rw [AS.get_put,if_neg (fun h2=>by have:=ho.2.2;rw [h2,h.c.kd] at this;cases this)];exact h.get
theorem PMid.enter (h:PMid X σ0 S σ xb N M fv c x d d) {t:Int} (ht:findOn x.place t=none):∃r B,Zce Tryz.prog σ 96 d.pm (.int .i64 t) (.int .i64 (x.place.length:Int))=some (σ.put r B)∧PMid X σ0 S (σ.put r B) xb N M fv c { x with place:=x.place++[t] } d d:=by
 obtain ⟨r,B,e,hB,hu,hm⟩:=h.c.place.upd Tryz.underlying96 t (.int .i64 (x.place.length:Int));have ho:=h.c.place.own e;refine ⟨r,B,hu,ZfA h.c ho.1 ho.2.2 (.inr (.inr e)) h.c.ol h.c.il (ZcF h.c.outer fun i hi h2=>h.c.op i hi (by rw [h2];exact e)) (ZcF h.c.inner fun i hi h2=>h.c.ip i hi (by rw [h2];exact e)) ?_,?_⟩
 ·rw [Zi1 ht];exact hm
 ·rw [AS.get_put,if_neg (fun h2=>by have:=ho.2.2;rw [h2,h.c.kd] at this;cases this)];exact h.get
theorem PMid.leave (h:PMid X σ0 S σ xb N M fv c x d d) {l:List Int} {t:Int} (hp:x.place=l++[t]) (ht:findOn l t=none):∃r B,ZcQ Tryz.prog σ 96 d.pm (.int .i64 t)=some (σ.put r B)∧PMid X σ0 S (σ.put r B) xb N M fv c { x with place:=l } d d:=by
 have hx:pmap x.place t=some (.int .i64 (l.length:Int)):=by rw [hp,Zi1 ht];exact if_pos rfl
 obtain ⟨r,B,e,hB,hu,hm⟩:=h.c.place.del Tryz.underlying96 hx;have ho:=h.c.place.own e;refine ⟨r,B,hu,ZfA h.c ho.1 ho.2.2 (.inr (.inr e)) h.c.ol h.c.il (ZcF h.c.outer fun i hi h2=>h.c.op i hi (by rw [h2];exact e)) (ZcF h.c.inner fun i hi h2=>h.c.ip i hi (by rw [h2];exact e)) ?_,?_⟩
 ·rw [hp,ZpH ht] at hm;exact hm
 ·rw [AS.get_put,if_neg (fun h2=>by have:=ho.2.2;rw [h2,h.c.kd] at this;cases this)];exact h.get
def SrcE (σ:AS) (y:Value) (k:List Arc):Prop:=∀inf:TypeInfo,inf.size=2→Zbd Tryz.prog σ false inf y=some (k.length,cellsOf k)
theorem PMid.pushP (h:PMid X σ0 S σ xb N M fv c x d d) {y:Value} {k:List Arc} (hy:Src σ y k) (hl:x.stem=[]∧x.loop=[]) (hd:d.sv=.slice none 0 0∧d.lv=.slice none 0 0) (hb:x.path.length+k.length≤1000000) :
  ∃v' s,ZaU Tryz.prog σ #[97,97] d.pv y=some (v',s)∧PMid X σ0 S s xb N M fv c { x with path:=x.path++k } d { d with pv:=v' }∧(∃a n c,v'=.slice a n c)∧(∀b a,ArcAt σ b a→ArcAt s b a):=by
 obtain ⟨v',s,h1,h2,h3,h4,h5,h6⟩:=h.c.path.push el53 h.c.ext.nxt hy (ZaS k) (ZcA k) hb;rw [←Zcf,←zS] at h2;refine ⟨v',s,h1,⟨h.c.setPath ⟨h3,h4,h5,h6⟩ h2 hl hd,?_⟩,?_,fun b a hA=>⟨by have:=hA.lt;omega,(h4 b hA.lt fun ho=>?_).trans hA.get⟩⟩
 ·rw [h4 xb h.c.lt (fun ho=>by have:=(h.c.path.own ho).2.2.1;rw [h.c.kd] at this;cases this)]
  exact h.get
 ·obtain ⟨a,c,e⟩:=h2.len;exact ⟨_,_,_,e⟩
 ·have:=(h.c.path.own ho).2.2.1;rw [hA.get] at this;have h9:(1:Nat)=2:=this;omega
theorem PMid.pushI (h:PMid X σ0 S σ xb N M fv c x d d) {y:Value} {k:List Arc} (hy:Src σ y k) (hl:x.stem=[]∧x.loop=[]) (hd:d.sv=.slice none 0 0∧d.lv=.slice none 0 0) (hb:x.inside.length+k.length≤1000000) :
  ∃v' s,ZaU Tryz.prog σ #[97,97] d.nv y=some (v',s)∧PMid X σ0 S s xb N M fv c { x with inside:=x.inside++k } d { d with nv:=v' }∧(∃a n c,v'=.slice a n c)∧(∀b a,ArcAt σ b a→ArcAt s b a):=by
 obtain ⟨v',s,h1,h2,h3,h4,h5,h6⟩:=h.c.inside.push el53 h.c.ext.nxt hy (ZaS k) (ZcA k) hb;rw [←Zcf,←zS] at h2;refine ⟨v',s,h1,⟨h.c.setInside ⟨h3,h4,h5,h6⟩ h2 hl hd,?_⟩,?_,fun b a hA=>⟨by have:=hA.lt;omega,(h4 b hA.lt fun ho=>?_).trans hA.get⟩⟩
 ·rw [h4 xb h.c.lt (fun ho=>by have:=(h.c.inside.own ho).2.2.1;rw [h.c.kd] at this;cases this)]
  exact h.get
 ·obtain ⟨a,c,e⟩:=h2.len;exact ⟨_,_,_,e⟩
 ·have:=(h.c.inside.own ho).2.2.1;rw [hA.get] at this;have h9:(1:Nat)=2:=this;omega
theorem PMid.popP (h:PMid X σ0 S σ xb N M fv c x d d) (hl:x.stem=[]∧x.loop=[]) (hd:d.sv=.slice none 0 0∧d.lv=.slice none 0 0) :
  ∃v',Zbv Tryz.prog σ 97 d.pv none (some (.int .i64 ((x.path.length-1:Nat):Int))) none=some v'∧PMid X σ0 S σ xb N M fv c { x with path:=x.path.dropLast } d { d with pv:=v' }∧(∃a n c,v'=.slice a n c):=by
 obtain ⟨v',h1,h2,h3,-⟩:=h.c.path.cut el53 (j:=x.path.length-1) (by omega)
 rw [ZeW,←List.length_dropLast] at h2;exact ⟨v',h1,⟨h.c.setPath (Chg.cut h3) h2 hl hd,h.get⟩,by obtain ⟨a,c,e⟩:=h2.len;exact ⟨_,_,_,e⟩⟩
theorem PMid.popI (h:PMid X σ0 S σ xb N M fv c x d d) (hl:x.stem=[]∧x.loop=[]) (hd:d.sv=.slice none 0 0∧d.lv=.slice none 0 0) :
  ∃v',Zbv Tryz.prog σ 97 d.nv none (some (.int .i64 ((x.inside.length-1:Nat):Int))) none=some v'∧PMid X σ0 S σ xb N M fv c { x with inside:=x.inside.dropLast } d { d with nv:=v' }∧(∃a n c,v'=.slice a n c):=by
 obtain ⟨v',h1,h2,h3,-⟩:=h.c.inside.cut el53 (j:=x.inside.length-1) (by omega)
 rw [ZeW,←List.length_dropLast] at h2;exact ⟨v',h1,⟨h.c.setInside (Chg.cut h3) h2 hl hd,h.get⟩,by obtain ⟨a,c,e⟩:=h2.len;exact ⟨_,_,_,e⟩⟩
end
theorem ZoP {X:List Nat} {σ0 S σ:AS} {xb N M c:Nat} {fv:Value} {x:PD} {d:FP} (h:PMid X σ0 S σ xb N M fv c x d d) (hc:c≤M):C Tryz.prog Kn 0 38 [.pointer (some ⟨xb,0,none⟩)] σ fun v σ'=>v=.bool false∧Ext σ σ':=by
 have d1:decide ((M:Int)<(c:Int))=false:=zI (by omega)
 refine C_of (kn (by decide)) Tryz.func38 rfl (zD rfl) ?_
 show W _ _ _ 12 _ _ _ _;unfold Tryz.f38;dsimp only;repeat apply Zaa
 apply Zad;intro _;simp +decide only [zq,ZaI,↓Zab,↓reduceIte,aOp];rfl;repeat apply Zaa
 refine Za8 [] [] (by kernel_rfl) (by kernel_rfl) ?_
 apply ZaO;intro _;simp +decide only [zq,zr,aQ,↓Zab,↓reduceIte,aOp,Zah,Zac,Zag,Zbo,ZrM,Zlz,(h.ext (Ext.reset σ)).ld1,(h.ext (Ext.reset σ)).ld2,d1,aBin,ZaB,Zam];rfl;have e1:Ext σ (σ.merge σ.reset):=(Ext.refl _).merge;generalize σ.merge σ.reset=σ1 at e1;refine ZaL ⟨zA _,[.bool false],?_,rfl,e1⟩;simp +decide only [zq,Zaj]
theorem Zno {X:List Nat} {σ0 S σ:AS} {xb N M:Nat} {fv:Value} {x:PD} {d:FP} (h:Zh6 X σ0 S σ xb N M fv x d) {t:Nat} (ht:t<N) (hN:N≤2^60) (hf:x.outer[t]?=some false):C Tryz.prog Kn 0 67 [.pointer (some ⟨xb,0,none⟩),d.om,d.im,.int .i64 (t:Int)] σ fun _ σ'=>Zh6 X σ0 S σ' xb N M fv { x with outer:=x.outer.set t true } d:=by
 obtain ⟨r0,B0,hu,h1⟩:=h.markOuter ht;have hcm:=ZlK (l:=x.outer) (m:=x.inner) (s:=t) (by rw [h.c.ol,h.c.il]) hf
 have hle:=ZlL x.outer x.inner;rw [h.c.ol] at hle;refine C_of (kn (by decide)) Tryz.func67 rfl (zD rfl) ?_
 show W _ _ _ 21 _ _ _ _;unfold Tryz.f67;dsimp only;repeat apply Zaa
 apply Zad;intro _;simp +decide only [zq,ZaI,↓Zab,↓reduceIte,aOp,unn,ZbG,hu];rfl;generalize σ.put r0 B0=σ1 at h1;repeat apply Zaa
 apply Zad;intro _;simp +decide only [zq,↓Zab,↓reduceIte,aOp,opUn,flat,ZcO,Zba,Zkd h1.c.inner,not_b];rfl;repeat apply Zaa
 refine Zao ?_;cases hq:x.inner.getD t false with
 | true=>
  repeat apply Zaa
  refine ZaC (by simp +decide only [zq,Bool.not_true]) ?_
  apply Zak;rw [hq,if_pos rfl] at hcm;refine Zap ⟨zH _,[],rfl,?_⟩;have e:cU x.outer x.inner=cU ({ x with outer:=x.outer.set t true }:PD).outer ({ x with outer:=x.outer.set t true }:PD).inner:=by
   exact hcm.symm
  unfold Zh6;rw [←e];exact h1
 | false=>
  repeat apply Zaa
  refine ZaQ (by simp +decide only [zq,Bool.not_false]) ?_
  rw [hq,if_neg (by decide)] at hcm
  have w1:IntKind.i64.wrap ((cU x.outer x.inner:Int)+1)=((cU x.outer x.inner+1:Nat):Int):=by rw [Zas _ (by omega) (by omega)];omega
  repeat apply Zaa
  apply Zad;intro _;simp +decide only [zq,↓Zab,↓reduceIte,aOp,Zah,Zac,Zag,ZaE,unn,Bool.not_false,Zbo,Zlz,h1.ld2,w1,h1.st2 (cU x.outer x.inner+1),aBin,ZaB,Zam];rfl;have h2:=h1.count (cU x.outer x.inner+1);generalize σ1.put xb (pblk fv M (cU x.outer x.inner+1) d)=σ2 at h2;refine Zap ⟨zH _,[],rfl,?_⟩;have e:cU x.outer x.inner+1=cU ({ x with outer:=x.outer.set t true }:PD).outer ({ x with outer:=x.outer.set t true }:PD).inner:=by
   exact hcm.symm
  unfold Zh6;rw [←e];exact h2
theorem Znp {X:List Nat} {σ0 S σ:AS} {xb N M:Nat} {fv:Value} {x:PD} {d:FP} (h:Zh6 X σ0 S σ xb N M fv x d) {t:Nat} (ht:t<N) (hN:N≤2^60) (hf:x.inner[t]?=some false):C Tryz.prog Kn 0 67 [.pointer (some ⟨xb,0,none⟩),d.im,d.om,.int .i64 (t:Int)] σ fun _ σ'=>Zh6 X σ0 S σ' xb N M fv { x with inner:=x.inner.set t true } d:=by
 obtain ⟨r0,B0,hu,h1⟩:=h.markInner ht;have hcm:=ZlK (l:=x.inner) (m:=x.outer) (s:=t) (by rw [h.c.il,h.c.ol]) hf
 have hle:=ZlL x.outer x.inner;rw [h.c.ol] at hle;refine C_of (kn (by decide)) Tryz.func67 rfl (zD rfl) ?_
 show W _ _ _ 21 _ _ _ _;unfold Tryz.f67;dsimp only;repeat apply Zaa
 apply Zad;intro _;simp +decide only [zq,ZaI,↓Zab,↓reduceIte,aOp,unn,ZbG,hu];rfl;generalize σ.put r0 B0=σ1 at h1;repeat apply Zaa
 apply Zad;intro _;simp +decide only [zq,↓Zab,↓reduceIte,aOp,opUn,flat,ZcO,Zba,Zkd h1.c.outer,not_b];rfl;repeat apply Zaa
 refine Zao ?_;cases hq:x.outer.getD t false with
 | true=>
  repeat apply Zaa
  refine ZaC (by simp +decide only [zq,Bool.not_true]) ?_
  apply Zak;rw [hq,if_pos rfl] at hcm;refine Zap ⟨zH _,[],rfl,?_⟩;have e:cU x.outer x.inner=cU ({ x with inner:=x.inner.set t true }:PD).outer ({ x with inner:=x.inner.set t true }:PD).inner:=by
   rw [ZhP x.outer,ZhP x.outer];exact hcm.symm
  unfold Zh6;rw [←e];exact h1
 | false=>
  repeat apply Zaa
  refine ZaQ (by simp +decide only [zq,Bool.not_false]) ?_
  rw [hq,if_neg (by decide)] at hcm
  have w1:IntKind.i64.wrap ((cU x.outer x.inner:Int)+1)=((cU x.outer x.inner+1:Nat):Int):=by rw [Zas _ (by omega) (by omega)];omega
  repeat apply Zaa
  apply Zad;intro _;simp +decide only [zq,↓Zab,↓reduceIte,aOp,Zah,Zac,Zag,ZaE,unn,Bool.not_false,Zbo,Zlz,h1.ld2,w1,h1.st2 (cU x.outer x.inner+1),aBin,ZaB,Zam];rfl;have h2:=h1.count (cU x.outer x.inner+1);generalize σ1.put xb (pblk fv M (cU x.outer x.inner+1) d)=σ2 at h2;refine Zap ⟨zH _,[],rfl,?_⟩;have e:cU x.outer x.inner+1=cU ({ x with inner:=x.inner.set t true }:PD).outer ({ x with inner:=x.inner.set t true }:PD).inner:=by
   rw [ZhP x.outer,ZhP x.outer];exact hcm.symm
  unfold Zh6;rw [←e];exact h2
end Go.Proofs.YteangeffgjolpaaGreatDoor.Nest
