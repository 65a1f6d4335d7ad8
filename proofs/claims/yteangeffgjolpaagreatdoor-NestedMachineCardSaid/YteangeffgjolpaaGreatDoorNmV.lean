/- More on renumbering: what a check of the result asks,when it is done,what the second time tells. No program. -/
import Derived.Test.YteangeffgjolpaaGreatDoorNmR
import Derived.Test.YteangeffgjolpaaGreatDoorNmS
import Derived.Test.YteangeffgjolpaaGreatDoorNmK
import Derived.Test.YteangeffgjolpaaGreatDoorNmF
import Derived.Test.YteangeffgjolpaaGreatDoorNmUF
set_option linter.unusedSimpArgs false
set_option linter.unusedVariables false
set_option maxHeartbeats 64000000
set_option maxRecDepth 100000
namespace Go.Proofs.YteangeffgjolpaaGreatDoor.Can
def knows:Nat→List Arc→Nat
 | k,[]=>k
 | k,a::l=>knows (max k (a.2+1)) l
theorem ZcJ:∀(l m:List Arc) (k:Nat),knows k (l++m)=knows (knows k l) m
 | [],_,_=>rfl
 | a::l,m,k=>ZcJ l m _
theorem Zg0:∀(l:List Arc) (k:Nat),k≤knows k l
 | [],k=>Nat.le_refl _
 | a::l,k=>Nat.le_trans (Nat.le_max_left _ _) (Zg0 l _)
theorem ZhD:∀{l:List Arc} {k:Nat} {a:Arc},a∈l→a.2<knows k l
 | b::l,k,a,h=>by
  rcases List.mem_cons.1 h with rfl|h
  ·exact Nat.lt_of_lt_of_le (Nat.lt_of_lt_of_le (Nat.lt_succ_self _) (Nat.le_max_right k _)) (Zg0 l _)
  ·exact ZhD (l:=l) (k:=max k (b.2+1)) h
theorem Zeo:∀{l:List Arc} {k m:Nat},k≤m→(∀a∈l,a.2<m)→knows k l≤m
 | [],k,m,h,_=>h
 | a::l,k,m,h,g=>Zeo (l:=l) (by have:=g a (by simp);omega) fun b hb=>g b (by simp [hb])
theorem RowOk.knows {k:Nat} {p q:List Arc} {a:Arc} (h:RowOk k (p++a::q)):a.2≤knows k p:=by
 rcases Nat.lt_or_ge (Can.knows k p) a.2 with hlt|hge
 ·obtain ⟨z,hz,e⟩:=h p a q rfl _ (Zg0 p k) hlt;have:=ZhD (k:=k) hz;omega
 ·exact hge
theorem Zlo {k m:Nat} {l:List Arc} (h:RowOk k l) (hm:meets (List.range k) l=List.range m):knows k l=m:=by
 obtain ⟨m',h1,h2,h3⟩:=Zi6 l k h;rw [h2] at hm;obtain rfl:m'=m:=by have:=congrArg List.length hm;simpa using this
 refine Nat.le_antisymm (Zeo h1 h3) ?_;rcases Nat.lt_or_ge (knows k l) m' with hlt|hge
 ·exfalso
  have hmem:knows k l∈meets (List.range k) l:=by rw [h2];exact List.mem_range.2 hlt
  rcases mem_meets.1 hmem with h4|⟨a,ha,e⟩
  ·have:=List.mem_range.1 h4;have:=Zg0 l k;omega
  ·have:=ZhD (k:=k) ha;omega
 ·exact hge
theorem Zni {l:List (List Arc)} {st:List Nat×List (List Arc)} (h:st.1.length≤st.2.length):round l st=st:=by
 unfold round;rw [List.getElem?_eq_none h]
theorem Zhh {l:List (List Arc)} {K:Nat} (h1:(rounds l K).1.length≤(rounds l K).2.length):∀j,rounds l (K+j)=rounds l K
 | 0=>rfl
 | j+1=>by
  show round l (rounds l (K+j))=_;rw [Zhh h1 j,Zni h1]
structure Done (l:List (List Arc)) (K:Nat):Prop where
 row:(rounds l K).2.length=K
 old:(rounds l K).1.length=K
theorem Zla {l:List (List Arc)} {K s:Nat} (h:(rounds l K).2.length=K) (hs:s<K):∃o,(rounds l s).2.length=s∧(rounds l s).1[s]?=some o∧rounds l (s+1)=(meets (rounds l s).1 (srt (l.getD o [])),(rounds l s).2++[srt (ren (meets (rounds l s).1 (srt (l.getD o []))) (srt (l.getD o [])))]):=by
 have hl:=ZdN (l:=l) s;have hlt:(rounds l s).2.length=s∧s<(rounds l s).1.length:=by
  rcases Nat.lt_or_ge (rounds l s).2.length (rounds l s).1.length with h1|h1
  ·have up:∀j,(rounds l (s+j)).2.length≤(rounds l s).2.length+j:=by
    intro j
    induction j with
    | zero=>exact Nat.le_refl _
    | succ j ih=>
     show (round l (rounds l (s+j))).2.length≤_;unfold round;split
     ·omega
     ·simp;omega
   have:=up (K-s);rw [show s+(K-s)=K by omega,h] at this
   omega
  ·have e:=Zhh h1 (K-s);rw [show s+(K-s)=K by omega] at e
   rw [e] at h;omega
 obtain ⟨o,ho⟩:∃o,(rounds l s).1[s]?=some o:=⟨_,List.getElem?_eq_getElem hlt.2⟩;refine ⟨o,hlt.1,ho,?_⟩;show round l (rounds l s)=_;unfold round;rw [hlt.1,ho]
theorem Zf8 {l:List (List Arc)}:∀{j k:Nat},j≤k→(rounds l j).2 <+: (rounds l k).2∧(rounds l j).1 <+: (rounds l k).1
 | j,0,h=>by
   obtain rfl:j=0:=by omega
   exact ⟨List.prefix_rfl,List.prefix_rfl⟩
 | j,k+1,h=>by
  by_cases e:j=k+1
  ·subst e;exact ⟨List.prefix_rfl,List.prefix_rfl⟩
  ·obtain ⟨h1,h2⟩:=Zf8 (l:=l) (j:=j) (k:=k) (by omega)
   have h3:(rounds l k).2 <+: (rounds l (k+1)).2∧(rounds l k).1 <+: (rounds l (k+1)).1:=by
    show (rounds l k).2 <+: (round l (rounds l k)).2∧_ <+: (round l (rounds l k)).1;unfold round;split
    ·exact ⟨List.prefix_rfl,List.prefix_rfl⟩
    ·exact ⟨List.prefix_append _ _,Zdu _ _⟩
   exact ⟨h1.trans h3.1,h2.trans h3.2⟩
theorem Done.rowOk {l:List (List Arc)} {K:Nat} (h:Done l K) {s:Nat} (hs:s<K):∃r,(rounds l K).2[s]?=some r∧Asc r∧s<(rounds l s).1.length∧(∀p a q,r=p++a::q→a.2≤knows (rounds l s).1.length p)∧knows (rounds l s).1.length r=(rounds l (s+1)).1.length:=by
 obtain ⟨o,h1,h2,h3⟩:=Zla h.row hs;have hok:=ZjP (old:=(rounds l s).1) (Zdr (l.getD o []));refine ⟨_,?_,Zdr _,(List.getElem?_eq_some_iff.1 h2).1,fun p a q e=>RowOk.knows (by rw [←e];exact hok),?_⟩
 ·have hp:=(Zf8 (l:=l) (show s+1≤K by omega)).1
  rw [h3] at hp;obtain ⟨e,he⟩:=hp;rw [←he];simp only [List.append_assoc];rw [List.getElem?_append_right (by omega),h1,Nat.sub_self]
  rfl
 ·refine Zlo hok ?_;have hr1:(rounds l (s+1)).2.length=s+1:=by rw [h3];simp [h1]
  obtain ⟨m0,e0,a0⟩:=Can.Zsb l s h1;obtain ⟨m1,e1,a1⟩:=Can.Zsb l (s+1) hr1;have b0:=a0 (rounds l (s+1)).2 (Zf8 (l:=l) (Nat.le_succ s)).1;have b1:=a1 (rounds l (s+1)).2 List.prefix_rfl;have hst:rounds (rounds l (s+1)).2 (s+1)=round (rounds l (s+1)).2 (rounds (rounds l (s+1)).2 s):=rfl;rw [hst,b0] at b1;unfold round at b1;have hm0:s<m0:=by rw [←e0];exact (List.getElem?_eq_some_iff.1 h2).1
  simp only [h1,List.getElem?_range hm0] at b1;have hrow:(rounds l (s+1)).2.getD s []=srt (ren (meets (rounds l s).1 (srt (l.getD o []))) (srt (l.getD o []))):=by
   rw [h3,List.getD_eq_getElem?_getD,List.getElem?_append_right (by omega),h1,Nat.sub_self]
   rfl
  rw [hrow,ZjJ (Zdr _)] at b1;rw [e0,e1];exact (Prod.mk.inj b1).1
theorem Zik {l:List (List Arc)} (K:Nat) {r:List Arc} (hr:r∈(rounds l K).2) {y:Arc} (hy:y∈r):(∃o x,x∈l.getD o []∧y.1=x.1)∧y.2<(rounds l K).1.length:=by
 obtain ⟨s,hs⟩:=List.mem_iff_getElem?.1 hr;have hI:=Inv.rounds l K;have hlt:=(List.getElem?_eq_some_iff.1 hs).1;have ho:(rounds l K).1[s]?=some ((rounds l K).1[s]'(Nat.lt_of_lt_of_le hlt hI.done)):=List.getElem?_eq_getElem _;obtain ⟨h1,h2⟩:=hI.rows s _ r ho hs;rw [h1] at hy;obtain ⟨x,hx,rfl⟩:=List.mem_map.1 (mem_srt.1 hy);exact ⟨⟨_,x,mem_srt.1 hx,rfl⟩,Zmy (h2 x hx)⟩
theorem Zf7 {l:List (List Arc)} {B:Nat} (hl:∀r∈l,r.length≤B) (K:Nat) {r:List Arc} (hr:r∈(rounds l K).2):r.length≤B:=by
 obtain ⟨s,hs⟩:=List.mem_iff_getElem?.1 hr;have hI:=Inv.rounds l K;have hlt:=(List.getElem?_eq_some_iff.1 hs).1;have ho:(rounds l K).1[s]?=some ((rounds l K).1[s]'(Nat.lt_of_lt_of_le hlt hI.done)):=List.getElem?_eq_getElem _;obtain ⟨h1,h2⟩:=hI.rows s _ r ho hs;rw [h1];refine Nat.le_trans (ZeE _) ?_;unfold ren;rw [List.length_map];refine Nat.le_trans (ZeE _) ?_;rw [List.getD_eq_getElem?_getD];cases e:l[(rounds l K).1[s]'(Nat.lt_of_lt_of_le hlt hI.done)]? with
 | none=>simp
 | some x=>exact hl x (List.mem_of_getElem? e)
theorem Zhi {l:List (List Arc)} {n:Nat} (h0:0<n) (hl:∀r∈l,∀a∈r,a.2<n):∀(K:Nat),∀o∈(rounds l K).1,o<n
 | 0,o,ho=>by
  obtain rfl:o=0:=by simpa [rounds] using ho
  exact h0
 | K+1,o,ho=>by
  have ih:=Zhi h0 hl K;have:o∈(round l (rounds l K)).1:=ho;unfold round at this;split at this
  ·exact ih o this
  ·rename_i o' ho';rcases mem_meets.1 this with h|⟨a,ha,rfl⟩
   ·exact ih o h
   ·have ha:=mem_srt.1 ha;rw [List.getD_eq_getElem?_getD] at ha;cases e:l[o']? with
    | none=>rw [e] at ha;simp at ha
    | some r=>rw [e] at ha;exact hl r (List.mem_of_getElem? e) a ha
theorem ZdT:∀{n:Nat} {l:List Nat},l.Nodup→(∀o∈l,o<n)→l.length≤n
 | 0,[],_,_=>Nat.le_refl _
 | 0,a::l,_,h=>absurd (h a (by simp)) (Nat.not_lt_zero _)
 | n+1,l,hn,h=>by
  have h1:(l.filter fun o=>decide (o≠n)).length≤n:=ZdT (hn.filter _) fun o ho=>by
   obtain ⟨g1,g2⟩:=List.mem_filter.1 ho;have:=h o g1;have:=of_decide_eq_true g2;omega
  have h2:l.length≤(l.filter fun o=>decide (o≠n)).length+1:=by
   clear h h1
   induction l with
   | nil=>simp
   | cons a l ih=>
    rw [List.nodup_cons] at hn;by_cases e:a=n
    ·subst e;have:l.filter (fun o=>decide (o≠a))=l:=List.filter_eq_self.2 fun o ho=>decide_eq_true fun e=>hn.1 (e▸ho);rw [List.filter_cons_of_neg (by simp),this]
     simp
    ·rw [List.filter_cons_of_pos (by simpa using e)]
     have:=ih hn.2;simp only [List.length_cons];omega
  omega
def le (a b:Arc):Prop:=¬alt b a
structure Cmp (l cur:List Arc) (k r:Nat):Prop where
 len:cur.length=l.length
 pos:0<k
 kr:k<r
 rl:r≤l.length
 tail:∀p,k≤p→cur[p]?=l[p]?
 asc:Asc (cur.take k)
 mem:∀x,x∈cur.take k↔x∈l.take r
theorem ZdU {l:List Arc} {r:Nat} {y:Arc} (h:l[r]?=some y) (x:Arc):x∈l.take (r+1)↔x∈l.take r∨x=y:=by
 rw [List.take_add_one,h];simp
theorem Cmp.start {l:List Arc} {k:Nat} {x:Arc} (h0:0<k) (hk:k<l.length) (ha:Asc (l.take k)) (h1:l[k]?=some x) (h2:l[k-1]?=some x):Cmp l l k (k+1):=by
 refine ⟨rfl,h0,Nat.lt_succ_self _,hk,fun _ _=>rfl,ha,fun y=>?_⟩;rw [ZdU h1]
 constructor
 ·exact .inl
 ·rintro (h|rfl)
  ·exact h
  ·refine List.mem_of_getElem? (i:=k-1) ?_;rw [List.getElem?_take,if_pos (by omega)]
   exact h2
theorem Cmp.same {l cur:List Arc} {k r:Nat} {x:Arc} (h:Cmp l cur k r) (hr:r<l.length) (h1:l[r]?=some x) (h2:l[r-1]?=some x):Cmp l cur k (r+1):=by
 have:=h.kr;refine ⟨h.len,h.pos,by omega,hr,h.tail,h.asc,fun y=>?_⟩
 rw [ZdU h1,h.mem]
 constructor
 ·exact .inl
 ·rintro (h|rfl)
  ·exact h
  ·refine List.mem_of_getElem? (i:=r-1) ?_;rw [List.getElem?_take,if_pos (by omega)]
   exact h2
theorem Cmp.more {l cur:List Arc} {k r:Nat} {x y:Arc} (h:Cmp l cur k r) (ho:∀p q a b,p<q→q<l.length→l[p]?=some a→l[q]?=some b→le a b) (hr:r<l.length) (h1:l[r]?=some x) (h2:l[r-1]?=some y) (hne:x≠y):Cmp l (cur.set k x) (k+1) (r+1):=by
 have hkr:=h.kr;have hlen:=h.len;have htk:(cur.set k x).take (k+1)=cur.take k++[x]:=by
  rw [List.take_add_one,List.getElem?_set_self (by omega)]
  rw [List.take_set_of_le (Nat.le_refl _)];rfl
 have hyx:alt y x:=by
  have:=ho (r-1) r y x (by omega) hr h2 h1
  unfold le at this;rcases Decidable.em (alt y x) with g|g
  ·exact g
  ·exact absurd (ZlX g (fun e=>hne e.symm)) this
 refine ⟨by rw [List.length_set];exact h.len,by omega,by omega,hr,fun p hp=>?_,?_,fun z=>?_⟩
 ·rw [List.getElem?_set_ne (by omega)]
  exact h.tail p (by omega)
 ·rw [htk];refine List.pairwise_append.2 ⟨h.asc,by simp,fun z hz w hw=>?_⟩
  obtain rfl:w=x:=by simpa using hw
  obtain ⟨p,hp⟩:=List.mem_iff_getElem?.1 ((h.mem z).1 hz);rw [List.getElem?_take] at hp;split at hp
  ·rename_i hpr;by_cases e:p=r-1
   ·subst e;rw [h2] at hp;cases hp;exact hyx
   ·have:=ho p (r-1) z y (by omega) (by omega) hp h2
    unfold le alt at *;omega
  ·cases hp
 ·rw [htk,List.mem_append,h.mem,ZdU h1];simp
theorem Cmp.done {l cur:List Arc} {k:Nat} (h:Cmp l cur k l.length):cur.take k=srt l:=by
 refine Zmh h.asc fun x=>?_;rw [h.mem,List.take_of_length_le (Nat.le_refl _)]
theorem Zqt {l:List Arc} {k:Nat} {x y:Arc} (ha:Asc (l.take k)) (ho:∀p q a b,p<q→q<l.length→l[p]?=some a→l[q]?=some b→le a b) (h0:0<k) (hk:k<l.length) (h1:l[k]?=some x) (h2:l[k-1]?=some y) (hne:x≠y):Asc (l.take (k+1)):=by
 have hyx:alt y x:=by
  have:=ho (k-1) k y x (by omega) hk h2 h1
  unfold le at this;rcases Decidable.em (alt y x) with g|g
  ·exact g
  ·exact absurd (ZlX g (fun e=>hne e.symm)) this
 rw [List.take_add_one,h1];refine List.pairwise_append.2 ⟨ha,by simp,fun z hz w hw=>?_⟩
 obtain rfl:w=x:=by simpa using hw
 obtain ⟨p,hp⟩:=List.mem_iff_getElem?.1 hz;rw [List.getElem?_take] at hp;split at hp
 ·rename_i hpr;by_cases e:p=k-1
  ·subst e;rw [h2] at hp;cases hp;exact hyx
  ·have:=ho p (k-1) z y (by omega) (by omega) hp h2
   unfold le alt at *;omega
 ·cases hp
end Go.Proofs.YteangeffgjolpaaGreatDoor.Can
namespace Go.Proofs.YteangeffgjolpaaGreatDoor.U
open Abs
structure Chg (lo:Nat) (σ σ':AS) (v:Value):Prop where
 nxt:σ.next≤σ'.next
 get:∀i,i<σ.next→¬Own v i→σ'.get i=σ.get i
 low:∀q,q≤lo→q≤σ.low→q≤σ'.low
theorem Chg.of {lo:Nat} {σ σ':AS} {v:Value} (hlo:lo≤σ.next) (e:Ext σ σ'):Chg lo σ σ' v:=⟨e.nxt,fun i hi _=>e.get i hi,fun q h1 h2=>e.low q h2 (zB h1 hlo)⟩
theorem Chg.trans {lo:Nat} {σ σ1 σ2:AS} {v:Value} (h:Chg lo σ σ1 v) (k:Chg lo σ1 σ2 v):Chg lo σ σ2 v:=
 ⟨zB h.nxt k.nxt,fun i hi ho=>(k.get i (zC hi h.nxt) ho).trans (h.get i hi ho),fun q h1 h2=>k.low q h1 (h.low q h1 h2)⟩
theorem Chg.ext {lo:Nat} {σ σ1 σ2:AS} {v:Value} (h:Chg lo σ σ1 v) (hlo:lo≤σ.next) (e:Ext σ1 σ2):Chg lo σ σ2 v:=h.trans (Chg.of (zB hlo h.nxt) e)
theorem Chg.put {lo:Nat} {σ:AS} {v:Value} {b:Nat} (hv:Own v b) (hb:lo≤b) (hn:b<σ.next) (B:Blk):Chg lo σ (σ.put b B) v:=
 ⟨zA _,fun i hi ho=>by rw [AS.get_put,if_neg (fun e=>ho (by rw [←e];exact hv))],fun q h1 h2=>Nat.le_min.2 ⟨h2,zB h1 hb⟩⟩
theorem Srt.chg {lo:Nat} {σ σ':AS} {v:Value} {l l':List Arc} (h:Srt lo σ σ' v l l'):Chg lo σ σ' v:=⟨h.nxt,h.get,h.low⟩
theorem Zq9 (x:Arc):Can.srt [x]=[x]:=rfl
theorem Zo4 {lo:Nat} {σ:AS} {v:Value} {l:List Arc} (h:AL lo σ v l) (hlo:lo≤σ.next) (hl:l≠[]) (hn:l.length≤1000) (ho:Ord l l.length):C Tryz.prog KA 0 30 [v] σ fun u σ'=>AL lo σ' u (Can.srt l)∧(∀i,Own u i→Own v i)∧Chg lo σ σ' v:=by
 have hpos:=List.length_pos_iff.2 hl;have hA:=h;obtain ⟨b,c,rfl,hb1,hb2,hbk,hbe,hix,hld,hst⟩:=h.at hl;generalize hv:Value.slice (some ⟨b,0,none⟩) l.length c=v at *;refine C_of (ka rfl rfl) Tryz.func30 rfl (zD rfl) ?_;show W _ _ _ 61 _ _ _ _;unfold Tryz.f30;dsimp only;repeat apply Zaa
 apply Zad;intro _;simp +decide only [zq,ZaI,↓Zab,↓reduceIte,aOp];rfl;by_cases hl2:l.length<2
 ·have d1:decide ((l.length:Int)<2)=true:=zM (by omega)
  repeat apply Zaa
  apply Zad;intro _;simp +decide only [zq,↓Zab,↓reduceIte,aOp,Zah,Zan,aevs,Zaf,aLen,←hv,Tryz.underlying44,goInt,d1,aBin,ZaB,Zam];rfl;repeat apply Zaa
  refine ZaQ (by simp +decide only [zq]) ?_
  repeat apply Zaa
  apply Zad;intro _;simp +decide only [zq,↓Zab,↓reduceIte,aOp];rfl;refine Zbj ⟨zA _,[v],?_,?_,fun i hi=>hi,Chg.of hlo (Ext.refl _)⟩
  ·simp +decide only [zq,Zaj,hv]
  ·obtain ⟨x,rfl⟩:∃x,l=[x]:=by
    cases l with
    | nil=>exact absurd rfl hl
    | cons x l=>cases l with
     | nil=>exact ⟨x,rfl⟩
     | cons y l=>simp only [List.length_cons] at hl2;omega
   rw [Zq9];exact hA
 have d1:decide ((l.length:Int)<2)=false:=zI (by omega)
 repeat apply Zaa
 apply Zad;intro _;simp +decide only [zq,↓Zab,↓reduceIte,aOp,Zah,Zan,aevs,Zaf,aLen,←hv,Tryz.underlying44,goInt,d1,aBin,ZaB,Zam];rfl;repeat apply Zaa
 refine ZaC (by simp +decide only [zq]) ?_
 apply Zak;repeat apply Zaa
 apply Zad;intro _;simp +decide only [zq,↓Zab,↓reduceIte,aOp];rfl;repeat apply Zaa
 refine Zdc (fun (k:Nat) r s=>1≤k∧k≤l.length∧Ext σ s∧Can.Asc (l.take k)∧rget r 0=v∧rget r 3=.int .i64 (k:Int)) (fun k=>l.length-k) ?_ 1 ?_;rotate_left
 ·refine ⟨zA _,hpos,Ext.refl _,?_,?_,?_⟩
  ·cases l with
   | nil=>exact absurd rfl hl
   | cons x l=>simp [Can.Asc]
  all_goals simp +decide only [zq,hv]
  all_goals first|exact True.intro|rfl
 rintro k r σ1 ⟨hk1,hk,E1,A1,h0,h3⟩
 try dsimp only at hk1 hk A1 h3
 by_cases hlt:k<l.length
 rotate_left
 ·have d2:decide ((k:Int)<(l.length:Int))=false:=zI (by omega)
  repeat apply Zaa
  apply Zad;intro _;simp +decide only [zq,↓Zab,↓reduceIte,aOp,Zah,Zan,aevs,Zaf,aLen,h0,h3,←hv,Tryz.underlying44,goInt,d2,aBin,ZaB,Zam];rfl;repeat apply Zaa
  refine ZaC (by simp +decide only [zq]) ?_
  refine ZaA ⟨fun h=>(nomatch h),fun _=>?_,fun h1 h2=>absurd rfl h2⟩;repeat apply Zaa
  apply Zad;intro _;simp +decide only [zq,↓Zab,↓reduceIte,aOp,h0];rfl;refine ZaL ⟨zA _,[v],?_,?_,fun i hi=>hi,Chg.of hlo E1⟩
  ·simp +decide only [zq,Zaj]
  ·obtain rfl:k=l.length:=by omega
   rw [zJ (zA _)] at A1;rw [Can.ZjJ A1];exact hA.ext E1
 have d2:decide ((k:Int)<(l.length:Int))=true:=zM (by omega)
 repeat apply Zaa
 apply Zad;intro _;simp +decide only [zq,↓Zab,↓reduceIte,aOp,Zah,Zan,aevs,Zaf,aLen,h0,h3,←hv,Tryz.underlying44,goInt,d2,aBin,ZaB,Zam];rfl;repeat apply Zaa
 refine ZaQ (by simp +decide only [zq]) ?_
 apply Zak;refine ZaM ?_;have w7:IntKind.i64.wrap ((k:Int)-1)=((k-1:Nat):Int):=by rw [Zas _ (by omega) (by omega)];omega
 obtain ⟨x,hx⟩:∃x,l[k]?=some x:=⟨l[k],by simp [hlt]⟩
 obtain ⟨y,hy⟩:∃y,l[k-1]?=some y:=⟨l[k-1]'(by omega),by simp [show k-1<l.length by omega]⟩
 have ix:=hix k hlt;have iy:=hix (k-1) (by omega)
 have lx:=hld k x hx σ1.reset (E1.get b hb2);have ly:=hld (k-1) y hy σ1.reset (E1.get b hb2);have ex:=fun xo yo=>(eqA xo yo x y).1;refine Zao ?_;repeat apply Zaa
 refine Za8 [] [] (by kernel_rfl) (by kernel_rfl) ?_
 apply ZaO;intro _;simp +decide only [zq,zr,aQ,↓Zab,↓reduceIte,aOp,Zah,Zae,Zag,h0,h3,w7,ix,iy,lx,ly,ex,subI];rfl;have E2:=E1.trans ((Ext.refl _).merge (σ:=σ1));generalize σ1.merge σ1.reset=σ2 at E2;by_cases hxy:x=y;rotate_left
 ·have d3:decide (x=y)=false:=zI hxy;simp only [d3];repeat apply Zaa
  refine ZaC (by simp +decide only [zq]) ?_
  refine Zak ?_;refine Zap ⟨fun _=>?_,fun h=>absurd rfl h⟩;refine Zao ?_;have w8:IntKind.i64.wrap ((k:Int)+1)=((k+1:Nat):Int):=by rw [Zas _ (by omega) (by omega)];omega
  repeat apply Zaa
  apply Zad;intro _;simp +decide only [zq,↓Zab,↓reduceIte,aOp,Zah,h3,w8,aBin,ZaB,Zam];rfl;refine Zap ⟨fun _=>⟨k+1,?_,?_⟩,fun h=>(nomatch h),fun h=>absurd rfl h⟩
  ·show l.length-(k+1)<l.length-k;omega
  ·refine ⟨by show 1≤k+1;omega,by show k+1≤_;omega,E2,Can.Zqt A1 ho (by omega) hlt hx hy hxy,?_,?_⟩<;>simp +decide only [zq,h0]
 have d3:decide (x=y)=true:=zM hxy;simp only [d3];repeat apply Zaa
 refine ZaQ (by simp +decide only [zq]) ?_
 subst hxy;have hown:Own v b:=⟨_,_,hv.symm⟩;have hA2:=hA.ext E2;obtain ⟨b',c',ho',hsl,-⟩:=hA2.tail (k:=k) (by omega) hlt
 obtain rfl:b'=b:=by
  obtain ⟨n',c2,e⟩:=ho';rw [←hv] at e;cases e;rfl
 repeat apply Zaa
 apply Zad;intro _;simp +decide only [zq,↓Zab,↓reduceIte,aOp,ZbE,h0,h3,aopt,hsl];rfl;repeat apply Zaa
 apply Zad;intro _;simp +decide only [zq,↓Zab,↓reduceIte,aOp];rfl;repeat apply Zaa
 refine Zdc (fun (p:Nat×Nat×List Arc) r s=>1≤p.2.1∧k+p.2.1≤l.length∧Can.Cmp l p.2.2 p.1 (k+p.2.1)∧AL lo s v p.2.2∧Chg lo σ s v∧rget r 0=v∧rget r 3=.int .i64 (p.1:Int)∧rget r 4=.slice (some ⟨b',k*2,none⟩) (l.length-k) c'∧rget r 5=.int .i64 (p.2.1:Int)) (fun p=>l.length-(k+p.2.1)) ?_ (k,1,l) ?_;rotate_left
 ·refine ⟨zA _,hlt,Can.Cmp.start (by omega) hlt A1 hx hy,hA2,Chg.of hlo E2,?_,?_,?_,?_⟩<;>simp +decide only [zq,h0,h3]
  first|exact True.intro|rfl
 clear h0 h3 lx ly ix iy;rintro ⟨k1,k2,cur⟩ r σ3 ⟨hk21,hk2,M3,A3,C3,h0,h3,h4,h5⟩;dsimp only at hk21 hk2 M3 A3 h3 h5;have hcl:=M3.len;have hcur:cur≠[]:=fun e=>by rw [e] at hcl;simp at hcl;omega
 have hkr:=M3.kr;have hkp:=M3.pos;by_cases hlt2:k+k2<l.length;rotate_left
 ·have d4:decide ((k2:Int)<((l.length-k:Nat):Int))=false:=zI (by omega)
  repeat apply Zaa
  apply Zad;intro _;simp +decide only [zq,↓Zab,↓reduceIte,aOp,Zah,Zan,aevs,Zaf,aLen,h4,h5,Tryz.underlying44,goInt,d4,aBin,ZaB,Zam];rfl;repeat apply Zaa
  refine ZaC (by simp +decide only [zq]) ?_
  refine ZaA ⟨fun h=>(nomatch h),fun _=>?_,fun h1 h2=>absurd rfl h2⟩;have hend:k+k2=l.length:=by omega
  rw [hend] at M3 hkr;obtain ⟨b2,c2,ho2,hs2,σ4,hc4,hn4,hg4,hw4,hf4⟩:=A3.tail (k:=k1) hkp (by omega)
  obtain rfl:b2=b':=by
   obtain ⟨n',c3,e⟩:=ho2;rw [←hv] at e;cases e;rfl
  repeat apply Zaa
  apply Zad;intro _;simp +decide only [zq,↓Zab,↓reduceIte,aOp,Zan,ZbE,aevs,Zaf,h0,h3,aopt,hs2,hc4];rfl;obtain ⟨u,hu,hAu,hou⟩:=hf4 σ4 (zA _) rfl;repeat apply Zaa
  apply Zad;intro _;simp +decide only [zq,↓Zab,↓reduceIte,aOp,ZbE,h0,h3,aopt,hu];rfl;refine Zbj ⟨fun h=>h.elim (fun h=>(nomatch h)) (fun h=>(nomatch h)),fun _ _=>⟨fun h=>(nomatch h),fun h=>(nomatch h),fun _ _=>⟨zA _,[u],?_,?_,hou,C3.trans ⟨by rw [hn4];exact zA _,fun i hi hno=>hg4 i (fun e=>hno (by rw [e];exact hown)),fun q h1 h2=>hw4 q (zB h1 hb1) h2⟩⟩⟩⟩
  ·simp +decide only [zq,Zaj]
  ·rw [←M3.done];exact hAu
 have d4:decide ((k2:Int)<((l.length-k:Nat):Int))=true:=zM (by omega)
 repeat apply Zaa
 apply Zad;intro _;simp +decide only [zq,↓Zab,↓reduceIte,aOp,Zah,Zan,aevs,Zaf,aLen,h4,h5,Tryz.underlying44,goInt,d4,aBin,ZaB,Zam];rfl;repeat apply Zaa
 refine ZaQ (by simp +decide only [zq]) ?_
 apply Zak;refine ZaM ?_;clear hix hld hst;obtain ⟨b2,c2,hv2,hb1',hb2',-,-,hix,hld,hst⟩:=A3.at hcur;obtain rfl:b2=b':=by
  rw [←hv] at hv2;have:=(Value.slice.inj hv2).1;cases this;rfl
 have w9:IntKind.i64.wrap ((k2:Int)-1)=((k2-1:Nat):Int):=by rw [Zas _ (by omega) (by omega)];omega
 obtain ⟨z,hz⟩:∃z,l[k+k2]?=some z:=⟨l[k+k2],by simp [hlt2]⟩
 obtain ⟨t,ht⟩:∃t,l[k+k2-1]?=some t:=⟨l[k+k2-1]'(by omega),by simp [show k+k2-1<l.length by omega]⟩
 have hz2:=(M3.tail (k+k2) (by omega)).trans hz
 have ht2:=(M3.tail (k+k2-1) (by omega)).trans ht
 have iz:Zal Tryz.prog 44 (.slice (some ⟨b2,k*2,none⟩) (l.length-k) c') (.int .i64 (k2:Int))=some (.pointer (some ⟨b2,(k+k2)*2,none⟩)):=by
  rw [idxA (show k2<l.length-k by omega),Nat.add_mul]
 have it:Zal Tryz.prog 44 (.slice (some ⟨b2,k*2,none⟩) (l.length-k) c') (.int .i64 ((k2-1:Nat):Int))=some (.pointer (some ⟨b2,(k+k2-1)*2,none⟩)):=by
  rw [idxA (show k2-1<l.length-k by omega),←Nat.add_mul,show k+(k2-1)=k+k2-1 by omega]
 have lz:=hld (k+k2) z hz2 σ3.reset rfl;have lt:=hld (k+k2-1) t ht2 σ3.reset rfl;have ez:=fun xo yo=>(eqA xo yo z t).2;refine Zao ?_;have wk:IntKind.i64.wrap ((k2:Int)+1)=((k2+1:Nat):Int):=by rw [Zas _ (by omega) (by omega)];omega
 repeat apply Zaa
 refine Za8 [] [] (by kernel_rfl) (by kernel_rfl) ?_
 apply ZaO;intro _;simp +decide only [zq,zr,aQ,↓Zab,↓reduceIte,aOp,Zah,Zae,Zag,h4,h5,w9,iz,it,lz,lt,ez,subI];rfl;have e4:=(Ext.refl _).merge (σ:=σ3);generalize σ3.merge σ3.reset=σ4 at e4;have A4:=A3.ext e4;have C4:=C3.ext hlo e4;by_cases hzt:z=t
 ·have d5:(!decide (z=t))=false:=by rw [zM hzt];rfl
  simp only [d5];repeat apply Zaa
  refine ZaC (by simp +decide only [zq]) ?_
  refine Zak ?_;refine Zap ⟨fun _=>?_,fun h=>absurd rfl h⟩;refine Zao ?_;repeat apply Zaa
  apply Zad;intro _;simp +decide only [zq,↓Zab,↓reduceIte,aOp,Zah,h5,wk,aBin,ZaB,Zam];rfl;subst hzt;refine Zap ⟨fun _=>⟨(k1,k2+1,cur),?_,?_⟩,fun h=>(nomatch h),fun h=>absurd rfl h⟩
  ·show l.length-(k+(k2+1))<l.length-(k+k2);omega
  ·refine ⟨by show 1≤k2+1;omega,by show k+(k2+1)≤_;omega,M3.same hlt2 hz ht,A4,C4,?_,?_,?_,?_⟩<;>simp +decide only [zq,h0,h3,h4]
 have d5:(!decide (z=t))=true:=by rw [zI hzt];rfl
 simp only [d5];repeat apply Zaa
 refine ZaQ (by simp +decide only [zq]) ?_
 clear hix hld hst lz lt;obtain ⟨b3,c3,hv3,hb1'',hb2'',-,-,hix,hld,hst⟩:=A4.at hcur;obtain rfl:b3=b2:=by
  rw [←hv] at hv3;have:=(Value.slice.inj hv3).1;cases this;rfl
 have lz:=hld (k+k2) z hz2 σ4 rfl;have ik:=hix k1 (by omega)
 obtain ⟨B,hBk,hBe,hBs,hBo⟩:=hst k1 z (by omega)
 have hs:=hBs σ4 rfl;repeat apply Zaa
 apply Zad;intro _;simp +decide only [zq,↓Zab,↓reduceIte,aOp,Zae,Zag,ZaE,unn,h0,h3,h4,h5,iz,lz,ik,hs];rfl;have A5:AL lo (σ4.put b3 B) v (cur.set k1 z):=hBo _ (zA _) (by rw [AS.get_put,if_pos rfl])
 have C5:Chg lo σ (σ4.put b3 B) v:=C4.trans (Chg.put hown hb1 hb2'' B);generalize σ4.put b3 B=σ5 at A5 C5;have wj:IntKind.i64.wrap ((k1:Int)+1)=((k1+1:Nat):Int):=by rw [Zas _ (by omega) (by omega)];omega
 repeat apply Zaa
 apply Zad;intro _;simp +decide only [zq,↓Zab,↓reduceIte,aOp,Zah,h3,wj,aBin,ZaB,Zam];rfl;refine Zap ⟨fun _=>?_,fun h=>absurd rfl h⟩;refine Zao ?_;repeat apply Zaa
 apply Zad;intro _;simp +decide only [zq,↓Zab,↓reduceIte,aOp,Zah,h5,wk,aBin,ZaB,Zam];rfl;refine Zap ⟨fun _=>⟨(k1+1,k2+1,cur.set k1 z),?_,?_⟩,fun h=>(nomatch h),fun h=>absurd rfl h⟩
 ·show l.length-(k+(k2+1))<l.length-(k+k2);omega
 ·refine ⟨by show 1≤k2+1;omega,by show k+(k2+1)≤_;omega,M3.more ho hlt2 hz ht hzt,A5,C5,?_,?_,?_,?_⟩<;>simp +decide only [zq,h0,h3,h4]
open Abs
theorem clip_c {lo:Nat} {σ:AS} {v:Value} {l:List Arc} (h:AL lo σ v l) (hl:l≠[]) (hn:l.length≤1000000):C Tryz.prog KA 0 29 [v] σ fun u σ'=>σ'=σ∧∃b,Own v b∧u=.slice (some ⟨b,0,none⟩) l.length l.length∧lo≤b∧b<σ.next∧(σ.get b).kind=2∧(σ.get b).elem=57∧RowV σ u l:=by
 obtain ⟨b,c,rfl,h1,h2,h3,h4,h5,h6⟩:=h.clip hl hn;refine C_of (ka rfl rfl) Tryz.func29 rfl (zD rfl) ?_;show W _ _ _ 9 _ _ _ _;unfold Tryz.f29;dsimp only;repeat apply Zaa
 apply Zad;intro _;simp +decide only [zq,ZaI,↓Zab,↓reduceIte,aOp];rfl;repeat apply Zaa
 apply Zad;intro _;simp +decide only [zq,↓Zab,↓reduceIte,aOp,Zan,ZbE,aevs,Zaf,aLen,Tryz.underlying44,goInt,aopt,h5];rfl;refine ZaL ⟨zA _,[.slice (some ⟨b,0,none⟩) l.length l.length],?_,rfl,b,⟨_,_,rfl⟩,rfl,h1,h2,h3,h4,h6⟩;simp +decide only [zq,Zaj]
structure BoxAt (σ:AS) (b:Nat) (s:Value):Prop where
 lt:b<σ.next
 get:σ.get b=⟨1,27,0,[s],[]⟩
theorem BoxAt.ext {σ σ':AS} {b:Nat} {s:Value} (h:BoxAt σ b s) (e:Ext σ σ'):BoxAt σ' b s:=⟨e.lt h.lt,(e.get b h.lt).trans h.get⟩
theorem BoxAt.load {σ:AS} {b:Nat} {s:Value} (h:BoxAt σ b s):Zat Tryz.prog σ 27 (.pointer (some ⟨b,0,none⟩))=some (.agg #[s]):=
 ZbK Tryz.underlying27 rfl (i:=(Tryz.prog.info? 27).get!) (by kernel_rfl) (by rw [show ((Tryz.prog.info? 27).get!).size=1 by kernel_rfl];exact Zaq h.get rfl (zA _))
theorem BoxAt.out {σ:AS} {b:Nat} {s:Value} (h:BoxAt σ b s):Zat Tryz.prog σ 25 (.pointer (some ⟨b,0,none⟩))=some s:=Zaw Tryz.underlying25 rfl (Zaq h.get rfl (zA _))
theorem BoxAt.new (σ:AS) (s:Value):BoxAt (σ.new ⟨1,27,0,[s],[]⟩) σ.next s:=⟨zG _,by rw [AS.get_new,if_pos rfl]⟩
theorem fldL {b off:Nat}:Za4 Tryz.prog 27 0 (.pointer (some ⟨b,off,none⟩))=some (.pointer (some ⟨b,off,none⟩)):=by kernel_rfl
noncomputable def decl (σ:AS) (x:Arc):AS:=(σ.new ⟨1,57,0,[.int .i64 0,.int .i64 0],[]⟩).put σ.next (arcB x)
theorem decl_ext (σ:AS) (x:Arc):Ext σ (decl σ x):=Ext.put (Ext.new σ _) (zA _) _
theorem Zqi (σ:AS) (x:Arc):(decl σ x).get σ.next=arcB x:=by unfold decl;rw [AS.get_put,if_pos rfl]
theorem ZrU (σ:AS) (x:Arc):σ.next<(decl σ x).next:=zG _
theorem Zq0 {σ:AS}:Zcl Tryz.prog σ 57=some (.pointer (some ⟨σ.next,0,none⟩),σ.new ⟨1,57,0,[.int .i64 0,.int .i64 0],[]⟩):=by kernel_rfl
theorem Zqz {σ:AS} {x:Arc}:ZaK Tryz.prog (σ.new ⟨1,57,0,[.int .i64 0,.int .i64 0],[]⟩) 57 (vArc x) (.pointer (some ⟨σ.next,0,none⟩))=some (decl σ x):=by
 obtain ⟨inf,hi,hs⟩:∃inf,Tryz.prog.info? 57=some inf∧inf.size=2:=⟨(Tryz.prog.info? 57).get!,by kernel_rfl,by kernel_rfl⟩
 have hz:Nat.beq (vArc x).cells.size 2=true:=rfl;have g:(σ.new ⟨1,57,0,[.int .i64 0,.int .i64 0],[]⟩).get σ.next=⟨1,57,0,[.int .i64 0,.int .i64 0],[]⟩:=by rw [AS.get_new,if_pos rfl]
 unfold ZaK;simp only [hi,hs,hz,if_true];unfold Zbc;simp only [g];rfl
structure ArcAt (σ:AS) (b:Nat) (x:Arc):Prop where
 lt:b<σ.next
 get:σ.get b=arcB x
theorem ArcAt.ext {σ σ':AS} {b:Nat} {x:Arc} (h:ArcAt σ b x) (e:Ext σ σ'):ArcAt σ' b x:=⟨e.lt h.lt,(e.get b h.lt).trans h.get⟩
theorem ArcAt.ev {σ:AS} {b:Nat} {x:Arc} (h:ArcAt σ b x):Zat Tryz.prog σ 3 (.pointer (some ⟨b,0,none⟩))=some (.int .i64 (x.1:Int)):=(Zcg h.get h.lt (Ext.refl _)).1
theorem ArcAt.to {σ:AS} {b:Nat} {x:Arc} (h:ArcAt σ b x):Zat Tryz.prog σ 3 (.pointer (some ⟨b,0+1,none⟩))=some (.int .i64 (x.2:Int)):=(Zcg h.get h.lt (Ext.refl _)).2
theorem ArcAt.load {σ:AS} {b:Nat} {x:Arc} (h:ArcAt σ b x):Zat Tryz.prog σ 57 (.pointer (some ⟨b,0,none⟩))=some (vArc x):=loadArc (Zaq h.get rfl (zA _)) rfl
theorem decl_at (σ:AS) (x:Arc):ArcAt (decl σ x) σ.next x:=⟨ZrU σ x,Zqi σ x⟩
theorem not_b {P:Program} {b:Bool}:Zib (ZaY P (Op.unary .not (.bool b)))=some (.bool (!b)):=by cases b<;>rfl
def Ev (x:Nat):Prop:=x=0∨x=1∨x=2∨x=3∨x=4∨x=5∨x=1025
theorem ZrP {σ:AS} {x:Nat} (h:Ev x):C Tryz.prog KA 0 191 [.int .i64 (x:Int)] σ fun u σ'=>u=.bool true∧Ext σ σ':=by
 rcases h with rfl|rfl|rfl|rfl|rfl|rfl|rfl
 all_goals exact ZjG (σ':=σ) (v:=.bool true) (by kernel_rfl) ⟨rfl,Ext.refl _⟩
structure Small (L:List (List Arc)):Prop where
 pos:L≠[]
 len:L.length≤10
 rows:∀l∈L,l.length≤12
 ev:∀l∈L,∀x∈l,Ev x.1
 to:∀l∈L,∀x∈l,x.2<L.length
theorem Zp8 {σ:AS} {v:Value} {L:List (List Arc)} (h:OutR σ v L) (hs:Small L):C Tryz.prog KA 0 159 [.agg #[v]] σ fun u σ'=>u=.bool true∧Ext σ σ':=by
 refine C_of (ka rfl rfl) Tryz.func159 rfl (zD rfl) ?_;show W _ _ _ 56 _ _ _ _;unfold Tryz.f159;dsimp only;repeat apply Zaa
 apply Zad;intro _;simp +decide only [zq,ZaI,↓Zab,↓reduceIte,aOp,Zbm,aRow];rfl;have e1:Ext σ (σ.new ⟨1,27,0,(Value.agg #[v]).cells.toList,[]⟩):=Ext.new σ _;have B:=BoxAt.new σ v;change BoxAt (σ.new ⟨1,27,0,(Value.agg #[v]).cells.toList,[]⟩) σ.next v at B;have H:=h.ext e1;generalize σ.new ⟨1,27,0,(Value.agg #[v]).cells.toList,[]⟩=σ1 at e1 B H;obtain ⟨base,cap,hv⟩:=h.len;subst hv;have hL:=hs.len;have hpos:=List.length_pos_iff.2 hs.pos;repeat apply Zaa
 apply Zad;intro _;simp +decide only [zq,↓Zab,↓reduceIte,aOp,Zan,Zac,Zag,aevs,Zaf,aLen,fldL,B.out,Tryz.underlying25,goInt];rfl;repeat apply Zaa
 apply Zad;intro _;simp +decide only [zq,↓Zab,↓reduceIte,aOp,Zan,Zac,Zag,aevs,Zaf,aLen,fldL,B.out,Tryz.underlying25,goInt];rfl;repeat apply Zaa
 refine Zdc (fun (p:Nat×Nat) r s=>p.1≤L.length∧p.2≤12*p.1∧Ext σ1 s∧rget r 3=.int .i64 (L.length:Int)∧rget r 4=.int .i64 (p.2:Int)∧rget r 13=.slice base L.length cap∧rget r 14=.int .i64 (L.length:Int)∧rget r 15=.int .i64 (p.1:Int)) (fun p=>L.length-p.1) ?_ (0,0) ?_;rotate_left
 ·refine ⟨zH _,zA _,Ext.refl _,?_,?_,?_,?_,?_⟩<;>simp +decide only [zq]<;>first|exact True.intro|rfl
 rintro ⟨i,a⟩ r σ2 ⟨hi,ha,E2,h3,h4,h13,h14,h15⟩;dsimp only at hi ha h4 h15;by_cases hlt:i<L.length;rotate_left
 ·have d1:decide ((i:Int)<(L.length:Int))=false:=zI (by omega)
  have d2:decide ((L.length:Int)≥1)=true:=zM (by omega)
  have d3:decide ((L.length:Int)≤16384)=true:=zM (by omega)
  have d4:decide ((a:Int)≤262144)=true:=zM (by omega)
  repeat apply Zaa
  apply Zad;intro _;simp +decide only [zq,↓Zab,↓reduceIte,aOp,Zah,h14,h15,d1,aBin,ZaB,Zam];rfl;repeat apply Zaa
  refine ZaC (by simp +decide only [zq]) ?_
  refine ZaA ⟨fun h=>(nomatch h),fun _=>?_,fun h1 h2=>absurd rfl h2⟩;repeat apply Zaa
  apply Zad;intro _;simp +decide only [zq,↓Zab,↓reduceIte,aOp,Zah,ZaH,beq_self_eq_true,h3,h4,d2,d3,d4,ZaH,aBin,ZaB,Zam];rfl;refine ZaL ⟨zA _,[.bool true],?_,rfl,e1.trans E2⟩;simp +decide only [zq,Zaj]
 have d1:decide ((i:Int)<(L.length:Int))=true:=zM (by omega)
 repeat apply Zaa
 apply Zad;intro _;simp +decide only [zq,↓Zab,↓reduceIte,aOp,Zah,h14,h15,d1,aBin,ZaB,Zam];rfl;repeat apply Zaa
 refine ZaQ (by simp +decide only [zq]) ?_
 apply Zak;refine ZaM ?_;obtain ⟨l,hl⟩:∃l,L[i]?=some l:=⟨L[i],by simp [hlt]⟩
 have hlm:=zF hl;obtain ⟨b,off,c',w,hvw,hb,hix,hld,hrow⟩:=H.at hl;have hld2:=hld σ2 (E2.get b hb);rw [←h13] at hix;obtain ⟨wb,wc,hw⟩:=hrow.len;subst hw;have hll:=hs.rows l hlm;have w4:IntKind.i64.wrap ((a:Int)+(l.length:Int))=((a+l.length:Nat):Int):=by rw [Zas _ (by omega) (by omega)];omega
 rw [h13] at hix;repeat apply Zaa
 apply Zad;intro _;simp +decide only [zq,↓Zab,↓reduceIte,aOp,Zae,Zag,h13,h15,hix,hld2];rfl;repeat apply Zaa
 apply Zad;intro _;simp +decide only [zq,↓Zab,↓reduceIte,aOp,Zah,Zan,aevs,Zaf,aLen,h4,w4,Tryz.underlying44,goInt,aBin,ZaB,Zam];rfl;repeat apply Zaa
 apply Zad;intro _;simp +decide only [zq,↓Zab,↓reduceIte,aOp,Zan,aevs,Zaf,aLen,Tryz.underlying44,goInt];rfl;refine Zao ?_;repeat apply Zaa
 refine Zdc (fun (j:Nat) r s=>j≤l.length∧Ext σ1 s∧rget r 3=.int .i64 (L.length:Int)∧rget r 4=.int .i64 ((a+l.length:Nat):Int)∧rget r 13=.slice base L.length cap∧rget r 14=.int .i64 (L.length:Int)∧rget r 15=.int .i64 (i:Int)∧rget r 23=.slice wb l.length wc∧rget r 24=.int .i64 (l.length:Int)∧rget r 25=.int .i64 (j:Int)) (fun j=>l.length-j) ?_ 0 ?_;rotate_left
 ·refine ⟨zH _,E2,?_,?_,?_,?_,?_,?_,?_,?_⟩<;>simp +decide only [zq,h3,h4,h13,h14,h15]<;>first|exact True.intro|rfl
 clear h3 h4 h13 h14 h15 hld2;rintro j r σ3 ⟨hj,E3,h3,h4,h13,h14,h15,h23,h24,h25⟩
 try dsimp only at hj h25
 by_cases hjl:j<l.length
 rotate_left
 ·have d2:decide ((j:Int)<(l.length:Int))=false:=zI (by omega)
  repeat apply Zaa
  apply Zad;intro _;simp +decide only [zq,↓Zab,↓reduceIte,aOp,Zah,h24,h25,d2,aBin,ZaB,Zam];rfl;repeat apply Zaa
  refine ZaC (by simp +decide only [zq]) ?_
  refine ZaA ⟨fun h=>(nomatch h),fun _=>?_,fun h1 h2=>absurd rfl h2⟩;refine Zap ⟨fun _=>?_,fun h=>absurd rfl h⟩;refine Zao ?_;have w6:IntKind.i64.wrap ((i:Int)+1)=((i+1:Nat):Int):=by rw [Zas _ (by omega) (by omega)];omega
  repeat apply Zaa
  apply Zad;intro _;simp +decide only [zq,↓Zab,↓reduceIte,aOp,Zah,h15,w6,aBin,ZaB,Zam];rfl;refine Zap ⟨fun _=>⟨(i+1,a+l.length),?_,?_⟩,fun h=>(nomatch h),fun h=>absurd rfl h⟩
  ·show L.length-(i+1)<L.length-i;omega
  ·refine ⟨by show i+1≤_;omega,by show a+l.length≤12*(i+1);omega,E3,?_,?_,?_,?_,?_⟩<;>simp +decide only [zq,h3,h4,h13,h14]
 have d2:decide ((j:Int)<(l.length:Int))=true:=zM (by omega)
 repeat apply Zaa
 apply Zad;intro _;simp +decide only [zq,↓Zab,↓reduceIte,aOp,Zah,h24,h25,d2,aBin,ZaB,Zam];rfl;repeat apply Zaa
 refine ZaQ (by simp +decide only [zq]) ?_
 apply Zak;refine ZaM ?_;obtain ⟨x,hx⟩:∃x,l[j]?=some x:=⟨l[j],by simp [hjl]⟩
 have hxm:=zF hx;obtain ⟨b2,off2,c2,hw2,hb2,hix2,hld3,-⟩:=hrow.at hx;have hld4:=hld3 σ3 (E3.get b2 hb2);repeat apply Zaa
 apply Zad;intro _;simp +decide only [zq,↓Zab,↓reduceIte,aOp,Zae,Zag,ZaE,unn,h23,h25,hix2,hld4,Zq0,Zqz];rfl;have D:=decl_at σ3 x;have E4:=E3.trans (decl_ext σ3 x);generalize decl σ3 x=σ4 at D E4;have d3:decide ((x.2:Int)<0)=false:=zI (by omega)
 have d4:decide ((x.2:Int)≥(L.length:Int))=false:=zI (by have:=hs.to l hlm x hxm;omega)
 refine Zao ?_;repeat apply Zaa
 apply ZaF;apply Zay 2;intro _;simp +decide only [zq,List.take,↓Zab,↓reduceIte,aOp,Zac,Zag,ZrL,D.ev];rfl;dsimp only [List.drop];refine ZaV (vs:=[.int .i64 (x.1:Int)]) (by simp +decide only [zq,aevs]) (by decide) (C.mono (ZrP (hs.ev l hlm x hxm)) ?_)
 rintro v σ' ⟨rfl,E5⟩;have D5:=D.ext E5;have E6:=E4.trans E5;apply ZaG;intro _;simp +decide only [zq,↓Zab,↓reduceIte,aOp,Zah,opUn,Zac,Zag,ZaH,beq_self_eq_true,Bool.not_true,not_b,Zi9,D5.to,h3,d3,d4,ZaH,aBin,ZaB,Zam];rfl;repeat apply Zaa
 refine ZaC (by simp +decide only [zq]) ?_
 refine Zak ?_;refine Zap ⟨fun _=>?_,fun h=>absurd rfl h⟩;refine Zao ?_;have w6:IntKind.i64.wrap ((j:Int)+1)=((j+1:Nat):Int):=by rw [Zas _ (by omega) (by omega)];omega
 repeat apply Zaa
 apply Zad;intro _;simp +decide only [zq,↓Zab,↓reduceIte,aOp,Zah,h25,w6,aBin,ZaB,Zam];rfl;refine Zap ⟨fun _=>⟨j+1,?_,?_⟩,fun h=>(nomatch h),fun h=>absurd rfl h⟩
 ·show l.length-(j+1)<l.length-j;omega
 ·refine ⟨by show j+1≤_;omega,E6,?_,?_,?_,?_,?_,?_,?_,?_⟩<;>simp +decide only [zq,h3,h4,h13,h14,h15,h23,h24]
open Abs
theorem maxI {P:Program} {a b:Int}:Zgq Builtin.max2 P [.int .i64 a,.int .i64 b]=some (.int .i64 (if b>a then b else a)):=by
 unfold Zgq;rfl
def ZiS:Nat→Nat→List (List Arc)→Prop
 | _,_,[]=>True
 | s,m,r::L=>s<m∧Can.Asc r∧(∀p a q,r=p++a::q→a.2≤Can.knows m p)∧ZiS (s+1) (Can.knows m r) L
theorem ZhO:∀{L:List (List Arc)} {s m:Nat},ZiS s m L→∀{i:Nat} {r:List Arc},L[i]?=some r→s+i<Can.knows m (L.take i).flatten∧Can.Asc r∧(∀p a q,r=p++a::q→a.2≤Can.knows (Can.knows m (L.take i).flatten) p)
 | [],s,m,h,i,r,hr=>by simp at hr
 | x::L,s,m,h,0,r,hr=>by
  obtain rfl:x=r:=by simpa using hr
  exact ⟨h.1,h.2.1,h.2.2.1⟩
 | x::L,s,m,h,i+1,r,hr=>by
  have:=ZhO h.2.2.2 (i:=i) (r:=r) (by simpa using hr)
  rw [List.take_succ_cons,List.flatten_cons,Can.ZcJ];exact ⟨by have:=this.1;omega,this.2⟩
theorem Zqm {l:List Arc} (h:Can.Asc l) {i:Nat} {x y:Arc} (hi:0<i) (hy:l[i-1]?=some y) (hx:l[i]?=some x):cmpA y x<0:=by
 rw [Zm2];obtain ⟨h1,e1⟩:=zE.1 hx;obtain ⟨h2,e2⟩:=zE.1 hy;rw [←e1,←e2];exact List.pairwise_iff_getElem.1 h (i-1) i h2 h1 (by omega)
theorem ZlJ {σ:AS} {v:Value} {L:List (List Arc)} (h:OutR σ v L) (hs:Small L) (hc:ZiS 0 1 L):C Tryz.prog KA 0 120 [.agg #[v]] σ fun u σ'=>u=.bool true∧Ext σ σ':=by
 refine C_of (ka rfl rfl) Tryz.func120 rfl (zD rfl) ?_;show W _ _ _ 54 _ _ _ _;unfold Tryz.f120;dsimp only;repeat apply Zaa
 apply Zad;intro _;simp +decide only [zq,ZaI,↓Zab,↓reduceIte,aOp,Zbm,aRow];rfl;have e1:Ext σ (σ.new ⟨1,27,0,(Value.agg #[v]).cells.toList,[]⟩):=Ext.new σ _;have B:=BoxAt.new σ v;change BoxAt (σ.new ⟨1,27,0,(Value.agg #[v]).cells.toList,[]⟩) σ.next v at B;have H:=h.ext e1;generalize σ.new ⟨1,27,0,(Value.agg #[v]).cells.toList,[]⟩=σ1 at e1 B H;obtain ⟨base,cap,hv⟩:=h.len;subst hv;have hL:=hs.len;have hpos:=List.length_pos_iff.2 hs.pos;repeat apply Zaa
 apply ZaF;apply Zay 1;intro _;simp +decide only [zq,List.take,↓Zab,↓reduceIte,aOp,Zag,B.load];rfl;dsimp only [List.drop];refine ZaV (vs:=[.agg #[.slice base L.length cap]]) (by simp +decide only [zq,aevs]) (by decide) (C.mono (Zp8 H hs) ?_)
 rintro v σ' ⟨rfl,E0⟩;apply ZaG;intro _;simp +decide only [zq,↓Zab,↓reduceIte,aOp,opUn,Bool.not_true,not_b];rfl;have B:=B.ext E0;have H:=H.ext E0;have e1:=e1.trans E0;generalize σ'=σ1 at e1 B H;repeat apply Zaa
 refine ZaC (by simp +decide only [zq]) ?_
 apply Zak;repeat apply Zaa
 apply Zad;intro _;simp +decide only [zq,↓Zab,↓reduceIte,aOp];rfl;repeat apply Zaa
 apply Zad;intro _;simp +decide only [zq,↓Zab,↓reduceIte,aOp,Zan,Zac,Zag,aevs,Zaf,aLen,fldL,B.out,Tryz.underlying25,goInt];rfl;repeat apply Zaa
 refine Zdc (fun (i:Nat) r s=>i≤L.length∧Ext σ1 s∧rget r 3=.int .i64 (Can.knows 1 (L.take i).flatten:Int)∧Can.knows 1 (L.take i).flatten≤1000∧rget r 12=.slice base L.length cap∧rget r 13=.int .i64 (L.length:Int)∧rget r 14=.int .i64 (i:Int)) (fun i=>L.length-i) ?_ 0 ?_;rotate_left
 ·refine ⟨zH _,Ext.refl _,?_,by simp [Can.knows],?_,?_,?_⟩<;>simp +decide only [zq]<;>first|exact True.intro|rfl
 rintro i r σ2 ⟨hi,E2,h3,hK,h12,h13,h14⟩
 try dsimp only at hi h3 h14 hK
 by_cases hlt:i<L.length
 rotate_left
 ·have d1:decide ((i:Int)<(L.length:Int))=false:=zI (by omega)
  repeat apply Zaa
  apply Zad;intro _;simp +decide only [zq,↓Zab,↓reduceIte,aOp,Zah,h13,h14,d1,aBin,ZaB,Zam];rfl;repeat apply Zaa
  refine ZaC (by simp +decide only [zq]) ?_
  refine ZaA ⟨fun h=>(nomatch h),fun _=>?_,fun h1 h2=>absurd rfl h2⟩;repeat apply Zaa
  apply Zad;intro _;simp +decide only [zq,↓Zab,↓reduceIte,aOp];rfl;refine ZaL ⟨zA _,[.bool true],?_,rfl,e1.trans E2⟩;simp +decide only [zq,Zaj]
 have d1:decide ((i:Int)<(L.length:Int))=true:=zM (by omega)
 repeat apply Zaa
 apply Zad;intro _;simp +decide only [zq,↓Zab,↓reduceIte,aOp,Zah,h13,h14,d1,aBin,ZaB,Zam];rfl;repeat apply Zaa
 refine ZaQ (by simp +decide only [zq]) ?_
 apply Zak;refine ZaM ?_;obtain ⟨l,hl⟩:∃l,L[i]?=some l:=⟨L[i],by simp [hlt]⟩
 have hlm:=zF hl;obtain ⟨hc1,hc2,hc3⟩:=ZhO hc hl;obtain ⟨b,off,c',w,hvw,hb,hix,hld,hrow⟩:=H.at hl;have hld2:=hld σ2 (E2.get b hb);obtain ⟨wb,wc,hw⟩:=hrow.len;subst hw;have hll:=hs.rows l hlm;have hkn:Can.knows 1 (L.take (i+1)).flatten=Can.knows (Can.knows 1 (L.take i).flatten) l:=by
  rw [zT,hl,List.flatten_append,Can.ZcJ];simp
 generalize Can.knows 1 (L.take i).flatten=k0 at hc1 hc3 hkn h3 hK;have hkmax:∀p q,l=p++q→Can.knows k0 p≤1000:=fun p q e=>Can.Zeo hK fun a ha=>by
  have:=hs.to l hlm a (by rw [e];simp [ha])
  omega
 have d5:((i:Int) == (k0:Int))=false:=by
  have:(i:Int)≠(k0:Int):=by omega
  simpa using this
 repeat apply Zaa
 apply Zad;intro _;simp +decide only [zq,↓Zab,↓reduceIte,aOp,Zae,Zag,h12,h14,hix,hld2];rfl;repeat apply Zaa
 apply Zad;intro _;simp +decide only [zq,↓Zab,↓reduceIte,aOp,Zah,h3,eqII,d5];rfl;repeat apply Zaa
 refine ZaC (by simp +decide only [zq]) ?_
 apply Zak;repeat apply Zaa
 apply Zad;intro _;simp +decide only [zq,↓Zab,↓reduceIte,aOp,Zan,aevs,Zaf,aLen,Tryz.underlying44,goInt];rfl;refine Zao ?_;repeat apply Zaa
 refine Zdc (fun (j:Nat) r s=>j≤l.length∧Ext σ1 s∧rget r 3=.int .i64 (Can.knows k0 (l.take j):Int)∧rget r 5=.slice wb l.length wc∧rget r 12=.slice base L.length cap∧rget r 13=.int .i64 (L.length:Int)∧rget r 14=.int .i64 (i:Int)∧rget r 22=.slice wb l.length wc∧rget r 23=.int .i64 (l.length:Int)∧rget r 24=.int .i64 (j:Int)) (fun j=>l.length-j) ?_ 0 ?_;rotate_left
 ·refine ⟨zH _,E2,?_,?_,?_,?_,?_,?_,?_,?_⟩<;>simp +decide only [zq,h3,h12,h13,h14]<;>first|exact True.intro|rfl
 clear h3 h12 h13 h14 hld2;rintro j r σ3 ⟨hj,E3,h3,h5,h12,h13,h14,h22,h23,h24⟩
 try dsimp only at hj h3 h24
 by_cases hjl:j<l.length
 rotate_left
 ·have d2:decide ((j:Int)<(l.length:Int))=false:=zI (by omega)
  obtain rfl:j=l.length:=by omega
  repeat apply Zaa
  apply Zad;intro _;simp +decide only [zq,↓Zab,↓reduceIte,aOp,Zah,h23,h24,d2,aBin,ZaB,Zam];rfl;repeat apply Zaa
  refine ZaC (by simp +decide only [zq]) ?_
  refine ZaA ⟨fun h=>(nomatch h),fun _=>?_,fun h1 h2=>absurd rfl h2⟩;refine Zap ⟨fun _=>?_,fun h=>absurd rfl h⟩;refine Zao ?_;have w6:IntKind.i64.wrap ((i:Int)+1)=((i+1:Nat):Int):=by rw [Zas _ (by omega) (by omega)];omega
  repeat apply Zaa
  apply Zad;intro _;simp +decide only [zq,↓Zab,↓reduceIte,aOp,Zah,h14,w6,aBin,ZaB,Zam];rfl;rw [zJ (zA _),←hkn] at h3;refine Zap ⟨fun _=>⟨i+1,?_,?_⟩,fun h=>(nomatch h),fun h=>absurd rfl h⟩
  ·show L.length-(i+1)<L.length-i;omega
  ·refine ⟨by show i+1≤_;omega,E3,?_,by rw [hkn];exact hkmax l [] (by simp),?_,?_,?_⟩<;>simp +decide only [zq,h3,h12,h13]
 have d2:decide ((j:Int)<(l.length:Int))=true:=zM (by omega)
 repeat apply Zaa
 apply Zad;intro _;simp +decide only [zq,↓Zab,↓reduceIte,aOp,Zah,h23,h24,d2,aBin,ZaB,Zam];rfl;repeat apply Zaa
 refine ZaQ (by simp +decide only [zq]) ?_
 apply Zak;refine ZaM ?_;obtain ⟨x,hx⟩:∃x,l[j]?=some x:=⟨l[j],by simp [hjl]⟩
 have hsp:l=l.take j++x::l.drop (j+1):=by
  obtain ⟨_,e⟩:=zE.1 hx;rw [←e,List.getElem_cons_drop,List.take_append_drop]
 have hxk:=hc3 _ _ _ hsp;have hkb:=hkmax _ _ hsp;have hkn2:Can.knows k0 (l.take (j+1))=max (Can.knows k0 (l.take j)) (x.2+1):=by
  rw [zT,hx,Can.ZcJ];rfl
 generalize Can.knows k0 (l.take j)=kj at h3 hxk hkb hkn2;obtain ⟨b2,off2,c2,hw2,hb2,hix2,hld3,-⟩:=hrow.at hx;have hld4:=hld3 σ3 (E3.get b2 hb2);repeat apply Zaa
 apply Zad;intro _;simp +decide only [zq,↓Zab,↓reduceIte,aOp,Zae,Zag,ZaE,unn,h22,h24,hix2,hld4,Zq0,Zqz];rfl;have D:=decl_at σ3 x;have E4:=E3.trans (decl_ext σ3 x);generalize σ3.next=bx at D;generalize decl σ3 x=σ4 at D E4;refine Zao ?_;have dx:decide ((x.2:Int)>(kj:Int))=false:=zI (by omega)
 have fin:∀(r:Regs) (s:AS),Ext σ1 s→ArcAt s bx x→rget r 3=.int .i64 (kj:Int)→rget r 7=.pointer (some ⟨bx,0,none⟩)→rget r 5=.slice wb l.length wc→rget r 12=.slice base L.length cap→rget r 13=.int .i64 (L.length:Int)→rget r 14=.int .i64 (i:Int)→rget r 22=.slice wb l.length wc→rget r 23=.int .i64 (l.length:Int)→rget r 24=.int .i64 (j:Int)→True:=fun _ _ _ _ _ _ _ _ _ _ _ _ _=>trivial;have wx:IntKind.i64.wrap ((x.2:Int)+1)=((x.2+1:Nat):Int):=by rw [Zas _ (by omega) (by omega)];omega
 have wm:(if ((x.2+1:Nat):Int)>(kj:Int) then ((x.2+1:Nat):Int) else (kj:Int))=((max kj (x.2+1):Nat):Int):=by
  split<;>omega
 have w6:IntKind.i64.wrap ((j:Int)+1)=((j+1:Nat):Int):=by rw [Zas _ (by omega) (by omega)];omega
 by_cases hj0:0<j
 rotate_left
 ·obtain rfl:j=0:=by omega
  have d6:decide (((0:Nat):Int)>0)=false:=rfl;have to4:=(D.ext (Ext.reset σ4)).to;repeat apply Zaa
  refine Za8 [] [] (by kernel_rfl) (by kernel_rfl) ?_
  apply ZaO;intro _;simp +decide only [zq,zr,aQ,↓Zab,↓reduceIte,aOp,Zah,Zac,Zag,ZaH,beq_self_eq_true,h3,ZaH,Zi9,to4,dx,aBin,ZaB,Zam];rfl;have E6:=E4.trans ((Ext.refl _).merge (σ:=σ4));have D6:=D.ext ((Ext.refl _).merge (σ:=σ4));generalize σ4.merge σ4.reset=σ6 at E6 D6;repeat apply Zaa
  refine ZaC (by simp +decide only [zq]) ?_
  apply Zak;repeat apply Zaa
  apply Zad;intro _;simp +decide only [zq,↓Zab,↓reduceIte,aOp,Zah,Zan,Zac,Zag,aevs,Zaf,h3,Zi9,D6.to,wx,maxI,wm,aBin,ZaB,Zam];rfl;refine Zap ⟨fun _=>?_,fun h=>absurd rfl h⟩;refine Zao ?_;repeat apply Zaa
  apply Zad;intro _;simp +decide only [zq,↓Zab,↓reduceIte,aOp,Zah,h24,w6,aBin,ZaB,Zam];rfl;rw [←hkn2] at wm;refine Zap ⟨fun _=>⟨0+1,?_,?_⟩,fun h=>(nomatch h),fun h=>absurd rfl h⟩
  ·show l.length-(0+1)<l.length-0;omega
  ·refine ⟨by show 0+1≤_;omega,E6,?_,?_,?_,?_,?_,?_,?_,?_⟩<;>simp +decide only [zq,h5,h12,h13,h14,h22,h23,hkn2]
 have d6:decide ((j:Int)>0)=true:=zM (by omega)
 have w7:IntKind.i64.wrap ((j:Int)-1)=((j-1:Nat):Int):=by rw [Zas _ (by omega) (by omega)];omega
 obtain ⟨y,hy⟩:∃y,l[j-1]?=some y:=⟨l[j-1]'(by omega),by simp [show j-1<l.length by omega]⟩
 have hneg:=Zqm hc2 hj0 hy hx;have d7:decide (cmpA y x≥0)=false:=zI (by omega)
 obtain ⟨b3,off3,c3,hw3,hb3,hix3,hld5,-⟩:=hrow.at hy;have hld6:=hld5 σ4.reset (E4.get b3 hb3);have ld4:=(D.ext (Ext.reset σ4)).load;repeat apply Zaa
 refine Za8 [] [] (by kernel_rfl) (by kernel_rfl) ?_
 apply Zau 9;intro _;simp +decide only [zq,zr,List.take,aQ,↓Zab,↓reduceIte,aOp,Zah,Zae,Zag,beq_self_eq_true,h5,d6,w7,hix3,hld6,ld4,aBin,ZaB,Zam];rfl;dsimp only [List.drop,List.take,List.length];have E5:=E4.trans ((Ext.refl _).merge (σ:=σ4));have D5:=D.ext ((Ext.refl _).merge (σ:=σ4));generalize σ4.merge σ4.reset=σ5 at E5 D5;refine Zpo (vs:=[vArc y,vArc x]) (by simp +decide only [zq]) (by simp +decide only [zq,aevs]) (by decide) rfl (C.mono (Zql y x) ?_)
 rintro w s1 ⟨rfl,e6⟩;refine ⟨e6.quiet,?_⟩;have E6:=E5.trans e6.merge;have D6:=D5.ext e6.merge;generalize σ5.merge s1=σ6 at E6 D6;have to6:=(D6.ext (Ext.reset σ6)).to;apply ZaO;intro _;simp +decide only [zq,zr,aQ,↓Zab,↓reduceIte,aOp,Zah,Zac,Zag,ZaH,beq_self_eq_true,h3,d7,ZaH,Zi9,to6,dx,aBin,ZaB,Zam];rfl;have E7:=E6.trans ((Ext.refl _).merge (σ:=σ6));have D7:=D6.ext ((Ext.refl _).merge (σ:=σ6));generalize σ6.merge σ6.reset=σ7 at E7 D7;repeat apply Zaa
 refine ZaC (by simp +decide only [zq]) ?_
 apply Zak;repeat apply Zaa
 apply Zad;intro _;simp +decide only [zq,↓Zab,↓reduceIte,aOp,Zah,Zan,Zac,Zag,aevs,Zaf,h3,Zi9,D7.to,wx,maxI,wm,aBin,ZaB,Zam];rfl;refine Zap ⟨fun _=>?_,fun h=>absurd rfl h⟩;refine Zao ?_;repeat apply Zaa
 apply Zad;intro _;simp +decide only [zq,↓Zab,↓reduceIte,aOp,Zah,h24,w6,aBin,ZaB,Zam];rfl;refine Zap ⟨fun _=>⟨j+1,?_,?_⟩,fun h=>(nomatch h),fun h=>absurd rfl h⟩
 ·show l.length-(j+1)<l.length-j;omega
 ·refine ⟨by show j+1≤_;omega,E7,?_,?_,?_,?_,?_,?_,?_,?_⟩<;>simp +decide only [zq,h5,h12,h13,h14,h22,h23,hkn2]
end Go.Proofs.YteangeffgjolpaaGreatDoor.U
namespace Go.Proofs.YteangeffgjolpaaGreatDoor.Nest
open Abs
def MD.cmp (d:MD):Value:=.agg #[d.lv,.slice none 0 0]
def MD.fmt (d:MD):Value:=.agg #[.string ⟨#[]⟩,slc d.ba 1 d.ca,d.rv]
theorem Mach.ldCo {σ:AS} {d:MD} {L:Lts} {E:List Int} (h:Mach σ d L E):Zat Tryz.prog σ 61 (.pointer (some ⟨d.bc,0,none⟩))=some d.cmp:=
 ZbK Tryz.underlying61 rfl (i:=(Tryz.prog.info? 61).get!) (by kernel_rfl) (by rw [show ((Tryz.prog.info? 61).get!).size=2 by kernel_rfl];exact h.c2)
theorem Mach.ldFo {σ:AS} {d:MD} {L:Lts} {E:List Int} (h:Mach σ d L E):Zat Tryz.prog σ 66 (.pointer (some ⟨d.bf,0,none⟩))=some d.fmt:=
 ZbK Tryz.underlying66 rfl (i:=(Tryz.prog.info? 66).get!) (by kernel_rfl) (by rw [show ((Tryz.prog.info? 66).get!).size=3 by kernel_rfl];exact h.f2)
theorem Zpi {σ:AS}:Zcl Tryz.prog σ 61=some (.pointer (some ⟨σ.next,0,none⟩),σ.new ⟨1,61,0,[.slice none 0 0,.slice none 0 0],[]⟩):=by kernel_rfl
theorem Zn2 {σ:AS} {a:Option Addr} {n c:Nat}:ZaK Tryz.prog (σ.new ⟨1,61,0,[.slice none 0 0,.slice none 0 0],[]⟩) 61 (.agg #[.slice a n c,.slice none 0 0]) (.pointer (some ⟨σ.next,0,none⟩))=some (dcl σ 61 [.slice none 0 0,.slice none 0 0] [.slice a n c,.slice none 0 0]):=
 Zer (n:=2) ⟨(Tryz.prog.info? 61).get!,by kernel_rfl,by kernel_rfl⟩ rfl (by decide) rfl rfl rfl
theorem Zph {σ:AS}:Zcl Tryz.prog σ 66=some (.pointer (some ⟨σ.next,0,none⟩),σ.new ⟨1,66,0,[.string ⟨#[]⟩,.slice none 0 0,.slice none 0 0],[]⟩):=by kernel_rfl
theorem Zn1 {σ:AS} {b cb n c:Nat} {a:Option Addr}:ZaK Tryz.prog (σ.new ⟨1,66,0,[.string ⟨#[]⟩,.slice none 0 0,.slice none 0 0],[]⟩) 66 (.agg #[.string ⟨#[]⟩,slc b 1 cb,.slice a n c]) (.pointer (some ⟨σ.next,0,none⟩))=some (dcl σ 66 [.string ⟨#[]⟩,.slice none 0 0,.slice none 0 0] [.string ⟨#[]⟩,slc b 1 cb,.slice a n c]):=
 Zer (n:=3) ⟨(Tryz.prog.info? 66).get!,by kernel_rfl,by kernel_rfl⟩ rfl (by decide) rfl rfl rfl
theorem Zpw {σ:AS} {d:MD} {L:Lts} {E:List Int} (hM:Mach σ d L E) (hpos:0<L.length):C Tryz.prog Kn 0 50 [d.val] σ fun v σ'=>v=.bool false∧Ext σ σ':=by
 obtain ⟨lb,lc,hlv,-⟩:=id hM.rows;refine C_of (kn (by decide)) Tryz.func50 rfl (zD rfl) ?_
 show W _ _ _ 63 _ _ _ _;unfold Tryz.f50;dsimp only;repeat apply Zaa
 apply Zad;intro _;simp +decide only [zq,ZaI,↓Zab,↓reduceIte,aOp,Zbm,aRow];rfl;have e1:Ext σ (σ.new ⟨1,35,0,d.val.cells.toList,[]⟩):=Ext.new σ _;have B1:BxAt (σ.new ⟨1,35,0,d.val.cells.toList,[]⟩) 35 σ.next d.cells:=BxAt.new σ _ _;generalize hnx:σ.next=xb at B1;generalize σ.new ⟨1,35,0,d.val.cells.toList,[]⟩=σ1 at e1 B1;have d1:decide ((0:Int)<((1:Nat):Int))=true:=by decide
 have d11:decide ((1:Int)<((1:Nat):Int))=false:=by decide
 have w01:IntKind.i64.wrap (0+1)=1:=by decide
 have lt1:(0:Int)<1:=by decide
 have ixc:Zal Tryz.prog 32 (slc d.bc 1 d.cc) (.int .i64 0)=some (.pointer (some ⟨d.bc,0,none⟩)):=ZoL (i:=0) (by omega)
 have hM1:=hM.ext e1;have lco:=hM1.ldCo;unfold MD.cmp at lco;rw [hlv] at lco;have nz:(((0:Nat):Int) != (L.length:Int))=true:=by rw [bne_iff_ne];omega
 repeat apply Zaa
 apply Zad;intro _;simp +decide only [zq,↓Zab,↓reduceIte,aOp,Zan,Zac,Zag,aevs,Zaf,ZgC,Mach.ldC B1,Tryz.underlying32,goInt,aLen];rfl;repeat apply Zaa
 refine ZaM (Zbk ?_);repeat apply Zaa
 apply Zad;intro _;simp +decide only [zq,↓Zab,↓reduceIte,aOp,Zah,U.lssI];rfl;repeat apply Zaa
 refine ZaQ (by simp +decide only [zq,decide_true]) ?_
 apply Zak;refine ZaM ?_;repeat apply Zaa
 apply Zad;intro _;simp +decide only [zq,↓Zab,↓reduceIte,aOp,Zae,Zag,ZaE,unn,ixc,lco,Zpi,Zn2];rfl;have ed:=Zcn σ1 61 [.slice none 0 0,.slice none 0 0] [.slice lb L.length lc,.slice none 0 0];have BC:=Zc9 σ1 61 [.slice none 0 0,.slice none 0 0] [.slice lb L.length lc,.slice none 0 0];generalize hcb:σ1.next=cb at BC;generalize dcl σ1 61 [.slice none 0 0,.slice none 0 0] [.slice lb L.length lc,.slice none 0 0]=σ2 at ed BC;have l1:Zat Tryz.prog σ2 59 (.pointer (some ⟨cb,1,none⟩))=some (.slice none 0 0):=Zaw Tryz.underlying59 rfl (BC.cell (i:=1) rfl);have l0:Zat Tryz.prog σ2 25 (.pointer (some ⟨cb,0,none⟩))=some (.slice lb L.length lc):=Zaw Tryz.underlying25 rfl (BC.cell (i:=0) rfl);repeat apply Zaa
 apply Zad;intro _;simp +decide only [zq,↓Zab,↓reduceIte,aOp,Zah,Zan,Zac,Zag,ZaH,aevs,Zaf,Bool.true_beq,ZmU,ZqQ,fldL,l0,l1,Tryz.underlying59,Tryz.underlying25,goInt,aLen,U.neII,nz];rfl;refine Zao ?_;repeat apply Zaa
 refine ZaQ (by simp +decide only [zq,decide_true]) ?_
 repeat apply Zaa
 apply Zad;intro _;simp +decide only [zq,↓Zab,↓reduceIte,aOp];rfl;refine Zbj ⟨fun h=>h.elim (fun h=>(nomatch h)) (fun h=>(nomatch h)),fun _ _=>⟨fun h=>(nomatch h),fun _=>⟨fun h=>h.elim (fun h=>(nomatch h)) (fun h=>(nomatch h)),fun _ _=>⟨zA _,[.bool false],?_,?_⟩⟩⟩⟩
 ·simp +decide only [zq,Zaj]
 ·exact ⟨rfl,e1.trans ed⟩
theorem ZrF {σ:AS} {d:MD} {L:Lts} {E:List Int} {fid:FuncId} {cs:Array Value} (hM:Mach σ d L E) (hf:∀s,Ext σ s→C Tryz.prog Kn 0 fid ((#[]:Array Value).toList++[d.cmp]++cs.toList) s fun v s'=>v=.bool false∧Ext s s'):C Tryz.prog Kn 0 124 [slc d.bc 1 d.cc,.func (.func fid) #[] cs] σ fun v σ'=>v=.int .i64 (-1)∧Ext σ σ':=by
 refine C_of (kn (by decide)) Tryz.func124 rfl (zD rfl) ?_
 show W _ _ _ 19 _ _ _ _;unfold Tryz.f124;dsimp only;have d1:decide ((0:Int)<((1:Nat):Int))=true:=by decide
 have d11:decide ((1:Int)<((1:Nat):Int))=false:=by decide
 have w01:IntKind.i64.wrap (0+1)=1:=by decide
 have lt1:(0:Int)<1:=by decide
 have ixc:Zal Tryz.prog 32 (slc d.bc 1 d.cc) (.int .i64 0)=some (.pointer (some ⟨d.bc,0,none⟩)):=ZoL (i:=0) (by omega)
 have ldx:=hM.ldCo;repeat apply Zaa
 apply Zad;intro _;simp +decide only [zq,ZaI,↓Zab,↓reduceIte,aOp];rfl;repeat apply Zaa
 apply Zad;intro _;simp +decide only [zq,↓Zab,↓reduceIte,aOp,Zan,aevs,Zaf,Tryz.underlying32,goInt,aLen];rfl;repeat apply Zaa
 refine ZaM (Zbk ?_);repeat apply Zaa
 apply Zad;intro _;simp +decide only [zq,↓Zab,↓reduceIte,aOp,Zah,U.lssI];rfl;repeat apply Zaa
 refine ZaQ (by simp +decide only [zq,decide_true]) ?_
 apply Zak;refine ZaM ?_;repeat apply Zaa
 apply Zad;intro _;simp +decide only [zq,↓Zab,↓reduceIte,aOp];rfl;repeat apply Zaa
 apply ZaF;apply Zay 5;intro _;simp +decide only [zq,List.take,↓Zab,↓reduceIte,aOp,Zae,Zag,ixc,ldx];rfl;dsimp only [List.drop];refine Zfp (first:=#[]) (captured:=cs) (fid:=fid) (vs:=[d.cmp]) (by simp +decide only [zq]) (by simp +decide only [zq,aevs]) (by decide) (C.mono (hf σ (Ext.refl _)) ?_)
 rintro u s ⟨rfl,e2⟩;apply ZaG;intro _;simp +decide only [aOps];rfl;generalize s=σ2 at e2;refine Zao ?_;repeat apply Zaa
 refine ZaC (by simp +decide only [zq,decide_true]) ?_
 apply Zak;refine Zap ⟨fun _=>?_,fun h=>absurd rfl h⟩;refine Zao ?_;repeat apply Zaa
 apply Zad;intro _;simp +decide only [zq,↓Zab,↓reduceIte,aOp,Zah,U.addI,w01];rfl;refine Zap ⟨fun _=>?_,fun h=>absurd rfl h⟩;refine Zbk ?_;repeat apply Zaa
 apply Zad;intro _;simp +decide only [zq,↓Zab,↓reduceIte,aOp,Zah,U.lssI];rfl;repeat apply Zaa
 refine ZaC (by simp +decide only [zq,decide_true,decide_false]) ?_
 refine ZaA ⟨fun h=>(nomatch h),fun _=>⟨fun _=>?_,fun h1 h2=>absurd rfl h2⟩⟩;repeat apply Zaa
 apply Zad;intro _;simp +decide only [zq,↓Zab,↓reduceIte,aOp];rfl;refine ZaL ⟨zA _,[.int .i64 (-1)],?_,rfl,e2⟩;simp +decide only [zq,Zaj]
theorem ZrZ {σ:AS} {d:MD} {L:Lts} {E:List Int} {fid:FuncId} {cs:Array Value} (hM:Mach σ d L E) (hf:∀s,Ext σ s→C Tryz.prog Kn 0 fid ((#[]:Array Value).toList++[d.cmp]++cs.toList) s fun v s'=>v=.bool false∧Ext s s'):C Tryz.prog Kn 0 85 [slc d.bc 1 d.cc,.func (.func fid) #[] cs] σ fun v σ'=>v=.bool false∧Ext σ σ':=by
 refine C_of (kn (by decide)) Tryz.func85 rfl (zD rfl) ?_
 show W _ _ _ 9 _ _ _ _;unfold Tryz.f85;dsimp only;repeat apply Zaa
 apply Zad;intro _;simp +decide only [zq,ZaI,↓Zab,↓reduceIte,aOp];rfl;repeat apply Zaa
 apply ZaF;apply Zay 2;intro _;simp +decide only [zq,List.take,↓Zab,↓reduceIte,aOp];rfl;dsimp only [List.drop];refine ZaV (vs:=[slc d.bc 1 d.cc,.func (.func fid) #[] cs]) (by simp +decide only [zq,aevs]) (by decide) (C.mono (ZrF hM hf) ?_)
 rintro u s ⟨rfl,e1⟩;have dg:decide ((-1:Int)≥0)=false:=by decide
 apply ZaG;intro _;simp +decide only [zq,↓Zab,↓reduceIte,aOp,Zah,U.geqI];rfl;refine ZaL ⟨zA _,[.bool false],?_,rfl,e1⟩;simp +decide only [zq,Zaj,decide_false]
theorem ZrE {σ:AS} {d:MD} {L:Lts} {E:List Int} {fid:FuncId} {cs:Array Value} (hM:Mach σ d L E) (hf:∀s,Ext σ s→C Tryz.prog Kn 0 fid ((#[]:Array Value).toList++[d.fmt]++cs.toList) s fun v s'=>v=.bool false∧Ext s s'):C Tryz.prog Kn 0 125 [slc d.bf 1 d.cf,.func (.func fid) #[] cs] σ fun v σ'=>v=.int .i64 (-1)∧Ext σ σ':=by
 refine C_of (kn (by decide)) Tryz.func125 rfl (zD rfl) ?_
 show W _ _ _ 19 _ _ _ _;unfold Tryz.f125;dsimp only;have d1:decide ((0:Int)<((1:Nat):Int))=true:=by decide
 have d11:decide ((1:Int)<((1:Nat):Int))=false:=by decide
 have w01:IntKind.i64.wrap (0+1)=1:=by decide
 have lt1:(0:Int)<1:=by decide
 have ixf:Zal Tryz.prog 33 (slc d.bf 1 d.cf) (.int .i64 0)=some (.pointer (some ⟨d.bf,0,none⟩)):=ZoK (i:=0) (by omega)
 have ldx:=hM.ldFo;repeat apply Zaa
 apply Zad;intro _;simp +decide only [zq,ZaI,↓Zab,↓reduceIte,aOp];rfl;repeat apply Zaa
 apply Zad;intro _;simp +decide only [zq,↓Zab,↓reduceIte,aOp,Zan,aevs,Zaf,Tryz.underlying33,goInt,aLen];rfl;repeat apply Zaa
 refine ZaM (Zbk ?_);repeat apply Zaa
 apply Zad;intro _;simp +decide only [zq,↓Zab,↓reduceIte,aOp,Zah,U.lssI];rfl;repeat apply Zaa
 refine ZaQ (by simp +decide only [zq,decide_true]) ?_
 apply Zak;refine ZaM ?_;repeat apply Zaa
 apply Zad;intro _;simp +decide only [zq,↓Zab,↓reduceIte,aOp];rfl;repeat apply Zaa
 apply ZaF;apply Zay 5;intro _;simp +decide only [zq,List.take,↓Zab,↓reduceIte,aOp,Zae,Zag,ixf,ldx];rfl;dsimp only [List.drop];refine Zfp (first:=#[]) (captured:=cs) (fid:=fid) (vs:=[d.fmt]) (by simp +decide only [zq]) (by simp +decide only [zq,aevs]) (by decide) (C.mono (hf σ (Ext.refl _)) ?_)
 rintro u s ⟨rfl,e2⟩;apply ZaG;intro _;simp +decide only [aOps];rfl;generalize s=σ2 at e2;refine Zao ?_;repeat apply Zaa
 refine ZaC (by simp +decide only [zq,decide_true]) ?_
 apply Zak;refine Zap ⟨fun _=>?_,fun h=>absurd rfl h⟩;refine Zao ?_;repeat apply Zaa
 apply Zad;intro _;simp +decide only [zq,↓Zab,↓reduceIte,aOp,Zah,U.addI,w01];rfl;refine Zap ⟨fun _=>?_,fun h=>absurd rfl h⟩;refine Zbk ?_;repeat apply Zaa
 apply Zad;intro _;simp +decide only [zq,↓Zab,↓reduceIte,aOp,Zah,U.lssI];rfl;repeat apply Zaa
 refine ZaC (by simp +decide only [zq,decide_true,decide_false]) ?_
 refine ZaA ⟨fun h=>(nomatch h),fun _=>⟨fun _=>?_,fun h1 h2=>absurd rfl h2⟩⟩;repeat apply Zaa
 apply Zad;intro _;simp +decide only [zq,↓Zab,↓reduceIte,aOp];rfl;refine ZaL ⟨zA _,[.int .i64 (-1)],?_,rfl,e2⟩;simp +decide only [zq,Zaj]
theorem Zo3 {σ:AS} {d:MD} {L:Lts} {E:List Int} {fid:FuncId} {cs:Array Value} (hM:Mach σ d L E) (hf:∀s,Ext σ s→C Tryz.prog Kn 0 fid ((#[]:Array Value).toList++[d.fmt]++cs.toList) s fun v s'=>v=.bool false∧Ext s s'):C Tryz.prog Kn 0 87 [slc d.bf 1 d.cf,.func (.func fid) #[] cs] σ fun v σ'=>v=.bool false∧Ext σ σ':=by
 refine C_of (kn (by decide)) Tryz.func87 rfl (zD rfl) ?_
 show W _ _ _ 9 _ _ _ _;unfold Tryz.f87;dsimp only;repeat apply Zaa
 apply Zad;intro _;simp +decide only [zq,ZaI,↓Zab,↓reduceIte,aOp];rfl;repeat apply Zaa
 apply ZaF;apply Zay 2;intro _;simp +decide only [zq,List.take,↓Zab,↓reduceIte,aOp];rfl;dsimp only [List.drop];refine ZaV (vs:=[slc d.bf 1 d.cf,.func (.func fid) #[] cs]) (by simp +decide only [zq,aevs]) (by decide) (C.mono (ZrE hM hf) ?_)
 rintro u s ⟨rfl,e1⟩;have dg:decide ((-1:Int)≥0)=false:=by decide
 apply ZaG;intro _;simp +decide only [zq,↓Zab,↓reduceIte,aOp,Zah,U.geqI];rfl;refine ZaL ⟨zA _,[.bool false],?_,rfl,e1⟩;simp +decide only [zq,Zaj,decide_false]
theorem Zqs {σ:AS} {d:MD} {L:Lts} {E:List Int} (hM:Mach σ d L E):C Tryz.prog Kn 0 86 [d.cmp] σ fun v σ'=>v=.bool false∧Ext σ σ':=by
 obtain ⟨lb,lc,hlv,-⟩:=id hM.rows;obtain ⟨rb,rc,hrv,-⟩:=id hM.rules;unfold MD.cmp;rw [hlv];refine C_of (kn (by decide)) Tryz.func86 rfl (zD rfl) ?_
 show W _ _ _ 7 _ _ _ _;unfold Tryz.f86;dsimp only;repeat apply Zaa
 apply Zad;intro _;simp +decide only [zq,ZaI,↓Zab,↓reduceIte,aOp,Zbm,aRow];rfl;have e1:Ext σ (σ.new ⟨1,61,0,((.agg #[.slice lb L.length lc,.slice none 0 0]:Value)).cells.toList,[]⟩):=Ext.new σ _;have B1:BxAt (σ.new ⟨1,61,0,((.agg #[.slice lb L.length lc,.slice none 0 0]:Value)).cells.toList,[]⟩) 61 σ.next [.slice lb L.length lc,.slice none 0 0]:=BxAt.new σ _ _;generalize hnx:σ.next=xb at B1;generalize σ.new ⟨1,61,0,((.agg #[.slice lb L.length lc,.slice none 0 0]:Value)).cells.toList,[]⟩=σ1 at e1 B1;have dg:decide (((0:Nat):Int)>0)=false:=by decide
 have l1:Zat Tryz.prog σ1 59 (.pointer (some ⟨xb,1,none⟩))=some (.slice none 0 0):=Zaw Tryz.underlying59 rfl (B1.cell (i:=1) rfl);repeat apply Zaa
 apply Zad;intro _;simp +decide only [zq,↓Zab,↓reduceIte,aOp,Zah,Zan,Zac,Zag,aevs,Zaf,ZqQ,l1,Tryz.underlying59,goInt,aLen,U.gtrI];rfl;refine ZaL ⟨zA _,[.bool false],?_,rfl,e1⟩;simp +decide only [zq,Zaj,decide_false]
theorem Zqr {σ:AS} {d:MD} {L:Lts} {E:List Int} (hM:Mach σ d L E):C Tryz.prog Kn 0 88 [d.fmt] σ fun v σ'=>v=.bool false∧Ext σ σ':=by
 obtain ⟨lb,lc,hlv,-⟩:=id hM.rows;obtain ⟨rb,rc,hrv,-⟩:=id hM.rules;unfold MD.fmt;rw [hrv];refine C_of (kn (by decide)) Tryz.func88 rfl (zD rfl) ?_
 show W _ _ _ 6 _ _ _ _;unfold Tryz.f88;dsimp only;repeat apply Zaa
 apply Zad;intro _;simp +decide only [zq,ZaI,↓Zab,↓reduceIte,aOp,Zbm,aRow];rfl;have e1:Ext σ (σ.new ⟨1,66,0,((.agg #[.string ⟨#[]⟩,slc d.ba 1 d.ca,.slice rb E.length rc]:Value)).cells.toList,[]⟩):=Ext.new σ _;have B1:BxAt (σ.new ⟨1,66,0,((.agg #[.string ⟨#[]⟩,slc d.ba 1 d.ca,.slice rb E.length rc]:Value)).cells.toList,[]⟩) 66 σ.next [.string ⟨#[]⟩,slc d.ba 1 d.ca,.slice rb E.length rc]:=BxAt.new σ _ _;generalize hnx:σ.next=xb at B1;generalize σ.new ⟨1,66,0,((.agg #[.string ⟨#[]⟩,slc d.ba 1 d.ca,.slice rb E.length rc]:Value)).cells.toList,[]⟩=σ1 at e1 B1;have dg:decide (((0:Nat):Int)>0)=false:=by decide
 have l1:Zat Tryz.prog σ1 63 (.pointer (some ⟨xb,0,none⟩))=some (.string ⟨#[]⟩):=Zaw Tryz.underlying63 rfl (B1.cell (i:=0) rfl);have ne:∀xo yo:Operand,aBin Tryz.prog .neq 63 xo yo (.string ⟨#[]⟩) (.string ⟨#[]⟩)=some (.bool false):=fun xo yo=>by kernel_rfl
 repeat apply Zaa
 apply Zad;intro _;simp +decide only [zq,↓Zab,↓reduceIte,aOp,Zah,Zac,Zag,fldFo0,l1,ne];rfl;refine ZaL ⟨zA _,[.bool false],?_,rfl,e1⟩;simp +decide only [zq,Zaj]
theorem evt_c {σ:AS} {e:Int} (h0:0≤e) (h1:e≤1025):C Tryz.prog Kn 0 162 [.int .i64 e] σ fun v σ'=>v=.bool true∧Ext σ σ':=by
 refine C_of (kn (by decide)) Tryz.func162 rfl (zD rfl) ?_
 show W _ _ _ 9 _ _ _ _;unfold Tryz.f162;dsimp only;repeat apply Zaa
 apply Zad;intro _;simp +decide only [zq,ZaI,↓Zab,↓reduceIte,aOp];rfl;have g0:decide (e≥0)=true:=zM h0;have g1:decide (e<1026)=true:=zM (by omega)
 repeat apply Zaa
 apply Zad;intro _;simp +decide only [zq,↓Zab,↓reduceIte,aOp,Zah,ZaH,beq_self_eq_true,U.geqI,U.lssI,g0,g1];rfl;refine ZaL ⟨zA _,[.bool true],?_,rfl,Ext.refl _⟩;simp +decide only [zq,Zaj]
theorem Zo5 {σ:AS} {a b ca cb:Nat} {x y:Int} (hxy:x<y) (ha:Zav σ ⟨a,0,none⟩ 1=some [.int .i64 x]) (hb:Zav σ ⟨b,0,none⟩ 1=some [.int .i64 y]):C Tryz.prog Kn 0 92 [slc a 1 ca,slc b 1 cb] σ fun v σ'=>v=.int .i64 (cmpI x y)∧Ext σ σ':=by
 have hne:cmpI x y≠0:=by unfold cmpI;rw [if_pos hxy];decide
 have nz:(cmpI x y != 0)=true:=by rw [bne_iff_ne];exact hne
 have dl0:decide ((0:Int)<((1:Nat):Int))=true:=by decide
 have dg0:decide ((0:Int)≥((1:Nat):Int))=false:=by decide
 have lt1:(0:Int)<1:=by decide
 have ixa0:Zal Tryz.prog 22 (slc a 1 ca) (.int .i64 0)=some (.pointer (some ⟨a,0,none⟩)):=idxI (i:=0) (by omega)
 have ixb0:Zal Tryz.prog 22 (slc b 1 cb) (.int .i64 0)=some (.pointer (some ⟨b,0,none⟩)):=idxI (i:=0) (by omega)
 have lda:Zat Tryz.prog σ 3 (.pointer (some ⟨a,0,none⟩))=some (.int .i64 x):=Zaw Tryz.underlying3 rfl ha;have ldb:Zat Tryz.prog σ 3 (.pointer (some ⟨b,0,none⟩))=some (.int .i64 y):=Zaw Tryz.underlying3 rfl hb;refine C_of (kn (by decide)) Tryz.func92 rfl (zD rfl) ?_
 show W _ _ _ 36 _ _ _ _;unfold Tryz.f92;dsimp only;repeat apply Zaa
 apply Zad;intro _;simp +decide only [zq,ZaI,↓Zab,↓reduceIte,aOp];rfl;repeat apply Zaa
 apply Zad;intro _;simp +decide only [zq,↓Zab,↓reduceIte,aOp,Zan,aevs,Zaf,Tryz.underlying22,goInt,aLen];rfl;repeat apply Zaa
 refine ZaM (Zbk ?_);repeat apply Zaa
 apply Zad;intro _;simp +decide only [zq,↓Zab,↓reduceIte,aOp,Zah,U.lssI];rfl;repeat apply Zaa
 refine ZaQ (by simp +decide only [zq,decide_true]) ?_
 apply Zak;refine ZaM ?_;repeat apply Zaa
 apply Zad;intro _;simp +decide only [zq,↓Zab,↓reduceIte,aOp,Zae,Zag,ixa0,lda];rfl;repeat apply Zaa
 apply Zad;intro _;simp +decide only [zq,↓Zab,↓reduceIte,aOp,Zah,Zan,aevs,Zaf,Tryz.underlying22,goInt,aLen,U.geqI];rfl;repeat apply Zaa
 refine ZaC (by simp +decide only [zq,decide_true,decide_false]) ?_
 apply Zak;repeat apply Zaa
 apply Zad;intro _;simp +decide only [zq,↓Zab,↓reduceIte,aOp,Zae,Zag,ixb0,ldb];rfl;repeat apply Zaa
 apply ZaF;apply Zay 2;intro _;simp +decide only [zq,List.take,↓Zab,↓reduceIte,aOp];rfl;dsimp only [List.drop];refine ZaV (vs:=[.int .i64 x,.int .i64 y]) (by simp +decide only [zq,aevs]) (by decide) (C.mono (Za7 x y) ?_)
 rintro u s ⟨rfl,e1⟩;apply ZaG;intro _;simp +decide only [zq,↓Zab,↓reduceIte,aOp];rfl;repeat apply Zaa
 apply Zad;intro _;simp +decide only [zq,↓Zab,↓reduceIte,aOp,Zah,U.neII,nz];rfl;refine Zao ?_;repeat apply Zaa
 refine ZaQ (by simp +decide only [zq,decide_true,decide_false]) ?_
 repeat apply Zaa
 apply Zad;intro _;simp +decide only [zq,↓Zab,↓reduceIte,aOp];rfl;refine Zbj ⟨fun h=>h.elim (fun h=>(nomatch h)) (fun h=>(nomatch h)),fun _ _=>⟨fun h=>(nomatch h),fun _=>⟨fun h=>h.elim (fun h=>(nomatch h)) (fun h=>(nomatch h)),fun _ _=>⟨zA _,[.int .i64 (cmpI x y)],?_,?_,e1⟩⟩⟩⟩
 ·simp +decide only [zq,Zaj]
 ·rfl
def vRu (p cp:Nat) (e:Int):Value:=.agg #[slc p 1 cp,.int .i64 e,.int .i64 0]
theorem Zr1 {σ:AS} {p cp q cq:Nat} {x y:Int} (hxy:x<y) (hp1:p<σ.next) (hp2:Zav σ ⟨p,0,none⟩ 1=some [.int .i64 x]) (hq1:q<σ.next) (hq2:Zav σ ⟨q,0,none⟩ 1=some [.int .i64 y]) :
  C Tryz.prog Kn 0 163 [vRu p cp x,vRu q cq y] σ fun v σ'=>v=.int .i64 (-1)∧Ext σ σ':=by
 have ho:orI [cmpI x y,cmpI x y,cmpI 0 0]=-1:=by
  have:cmpI x y=-1:=by unfold cmpI;rw [if_pos hxy]
  rw [this];rfl
 rw [←ho];refine C_of (kn (by decide)) Tryz.func163 rfl (zD rfl) ?_
 show W _ _ _ 22 _ _ _ _;unfold Tryz.f163;dsimp only;repeat apply Zaa
 apply Zad;intro _;simp +decide only [zq,ZaI,↓Zab,↓reduceIte,aOp,Zbm,aRow];rfl;have e1:=(Ext.new σ ⟨1,69,0,(vRu p cp x).cells.toList,[]⟩).trans (Ext.new (σ.new ⟨1,69,0,(vRu p cp x).cells.toList,[]⟩) ⟨1,69,0,(vRu q cq y).cells.toList,[]⟩);have A1:BxAt ((σ.new ⟨1,69,0,(vRu p cp x).cells.toList,[]⟩).new ⟨1,69,0,(vRu q cq y).cells.toList,[]⟩) 69 σ.next [slc p 1 cp,.int .i64 x,.int .i64 0]:=(BxAt.new σ 69 [slc p 1 cp,.int .i64 x,.int .i64 0]).ext (Ext.new (σ.new ⟨1,69,0,(vRu p cp x).cells.toList,[]⟩) ⟨1,69,0,(vRu q cq y).cells.toList,[]⟩);have B1:BxAt ((σ.new ⟨1,69,0,(vRu p cp x).cells.toList,[]⟩).new ⟨1,69,0,(vRu q cq y).cells.toList,[]⟩) 69 (σ.new ⟨1,69,0,(vRu p cp x).cells.toList,[]⟩).next [slc q 1 cq,.int .i64 y,.int .i64 0]:=BxAt.new (σ.new ⟨1,69,0,(vRu p cp x).cells.toList,[]⟩) 69 [slc q 1 cq,.int .i64 y,.int .i64 0];generalize hn2:(σ.new ⟨1,69,0,(vRu p cp x).cells.toList,[]⟩).next=n2 at B1;generalize hn1:σ.next=n1 at A1;generalize (σ.new ⟨1,69,0,(vRu p cp x).cells.toList,[]⟩).new ⟨1,69,0,(vRu q cq y).cells.toList,[]⟩=σ1 at e1 A1 B1;repeat apply Zaa
 refine Za8 [6,8,11,13] [n1,n2] (by kernel_rfl) (by kernel_rfl) ?_
 apply Zau 1;intro _;simp +decide only [zq,zr,List.take,aQ,↓Zab,↓reduceIte,aOp,Zac,ZeU];rfl;dsimp only [List.drop,List.take,List.length];have q2:Ext σ1 (σ1.merge σ1.reset):=(Ext.refl _).merge;generalize σ1.merge σ1.reset=σ2 at q2;have e1:=e1.trans q2;have A1:=A1.ext q2;have B1:=B1.ext q2;have ld:Zat Tryz.prog σ2.reset 22 (.pointer (some ⟨n1,0,none⟩))=some (slc p 1 cp):=Zaw Tryz.underlying22 rfl ((A1.ext (Ext.reset _)).cell (i:=0) rfl);apply Zau 1;intro _;simp +decide only [zq,zr,List.take,aQ,↓Zab,↓reduceIte,aOp,Zag,ld];rfl;dsimp only [List.drop,List.take,List.length];have q3:Ext σ2 (σ2.merge σ2.reset):=(Ext.refl _).merge;generalize σ2.merge σ2.reset=σ3 at q3;have e1:=e1.trans q3;have A1:=A1.ext q3;have B1:=B1.ext q3;apply Zau 1;intro _;simp +decide only [zq,zr,List.take,aQ,↓Zab,↓reduceIte,aOp,Zac,ZeU];rfl;dsimp only [List.drop,List.take,List.length];have q4:Ext σ3 (σ3.merge σ3.reset):=(Ext.refl _).merge;generalize σ3.merge σ3.reset=σ4 at q4;have e1:=e1.trans q4;have A1:=A1.ext q4;have B1:=B1.ext q4;have ld:Zat Tryz.prog σ4.reset 22 (.pointer (some ⟨n2,0,none⟩))=some (slc q 1 cq):=Zaw Tryz.underlying22 rfl ((B1.ext (Ext.reset _)).cell (i:=0) rfl);apply Zau 1;intro _;simp +decide only [zq,zr,List.take,aQ,↓Zab,↓reduceIte,aOp,Zag,ld];rfl;dsimp only [List.drop,List.take,List.length];have q5:Ext σ4 (σ4.merge σ4.reset):=(Ext.refl _).merge;generalize σ4.merge σ4.reset=σ5 at q5;have e1:=e1.trans q5;have A1:=A1.ext q5;have B1:=B1.ext q5;refine Zbx (vs:=[slc p 1 cp,slc q 1 cq]) (by simp +decide only [zq,aevs]) (by decide) rfl (C.mono (Zo5 hxy (by rw [(e1.trans (Ext.reset _)).cells (a:=⟨p,0,none⟩) hp1];exact hp2) (by rw [(e1.trans (Ext.reset _)).cells (a:=⟨q,0,none⟩) hq1];exact hq2)) ?_)
 rintro v s1 ⟨rfl,e2⟩;refine ⟨e2.quiet,?_⟩;have q6:=e2.merge;generalize σ5.merge s1=σ6 at q6;have e1:=e1.trans q6;have A1:=A1.ext q6;have B1:=B1.ext q6;apply Zau 1;intro _;simp +decide only [zq,zr,List.take,aQ,↓Zab,↓reduceIte,aOp,Zac,Zkm];rfl;dsimp only [List.drop,List.take,List.length];have q7:Ext σ6 (σ6.merge σ6.reset):=(Ext.refl _).merge;generalize σ6.merge σ6.reset=σ7 at q7;have e1:=e1.trans q7;have A1:=A1.ext q7;have B1:=B1.ext q7;refine ZaZ (b:=n1) (off:=1) (v:=.int .i64 x) (by simp +decide only [zq]) (Zaw Tryz.underlying3 rfl ((A1.ext (Ext.reset _)).cell (i:=1) rfl)) (sv_i) A1.lt (by simp [memb]) (by decide) ?_
 have q8:Ext σ7 (σ7.merge σ7.reset):=(Ext.refl _).merge;generalize σ7.merge σ7.reset=σ8 at q8;have e1:=e1.trans q8;have A1:=A1.ext q8;have B1:=B1.ext q8;apply Zau 1;intro _;simp +decide only [zq,zr,List.take,aQ,↓Zab,↓reduceIte,aOp,Zac,Zkm];rfl;dsimp only [List.drop,List.take,List.length];have q9:Ext σ8 (σ8.merge σ8.reset):=(Ext.refl _).merge;generalize σ8.merge σ8.reset=σ9 at q9;have e1:=e1.trans q9;have A1:=A1.ext q9;have B1:=B1.ext q9;refine ZaZ (b:=n2) (off:=1) (v:=.int .i64 y) (by simp +decide only [zq]) (Zaw Tryz.underlying3 rfl ((B1.ext (Ext.reset _)).cell (i:=1) rfl)) (sv_i) B1.lt (by simp [memb]) (by decide) ?_
 have q10:Ext σ9 (σ9.merge σ9.reset):=(Ext.refl _).merge;generalize σ9.merge σ9.reset=σ10 at q10;have e1:=e1.trans q10;have A1:=A1.ext q10;have B1:=B1.ext q10;refine Zbx (vs:=[.int .i64 x,.int .i64 y]) (by simp +decide only [zq,aevs]) (by decide) rfl (C.mono (Za7 x y) ?_)
 rintro v s1 ⟨rfl,e2⟩;refine ⟨e2.quiet,?_⟩;have q11:=e2.merge;generalize σ10.merge s1=σ11 at q11;have e1:=e1.trans q11;have A1:=A1.ext q11;have B1:=B1.ext q11;apply Zau 1;intro _;simp +decide only [zq,zr,List.take,aQ,↓Zab,↓reduceIte,aOp,Zac,ZfI];rfl;dsimp only [List.drop,List.take,List.length];have q12:Ext σ11 (σ11.merge σ11.reset):=(Ext.refl _).merge;generalize σ11.merge σ11.reset=σ12 at q12;have e1:=e1.trans q12;have A1:=A1.ext q12;have B1:=B1.ext q12;refine ZaZ (b:=n1) (off:=2) (v:=.int .i64 0) (by simp +decide only [zq]) (Zaw Tryz.underlying3 rfl ((A1.ext (Ext.reset _)).cell (i:=2) rfl)) (sv_i) A1.lt (by simp [memb]) (by decide) ?_
 have q13:Ext σ12 (σ12.merge σ12.reset):=(Ext.refl _).merge;generalize σ12.merge σ12.reset=σ13 at q13;have e1:=e1.trans q13;have A1:=A1.ext q13;have B1:=B1.ext q13;apply Zau 1;intro _;simp +decide only [zq,zr,List.take,aQ,↓Zab,↓reduceIte,aOp,Zac,ZfI];rfl;dsimp only [List.drop,List.take,List.length];have q14:Ext σ13 (σ13.merge σ13.reset):=(Ext.refl _).merge;generalize σ13.merge σ13.reset=σ14 at q14;have e1:=e1.trans q14;have A1:=A1.ext q14;have B1:=B1.ext q14;refine ZaZ (b:=n2) (off:=2) (v:=.int .i64 0) (by simp +decide only [zq]) (Zaw Tryz.underlying3 rfl ((B1.ext (Ext.reset _)).cell (i:=2) rfl)) (sv_i) B1.lt (by simp [memb]) (by decide) ?_
 have q15:Ext σ14 (σ14.merge σ14.reset):=(Ext.refl _).merge;generalize σ14.merge σ14.reset=σ15 at q15;have e1:=e1.trans q15;have A1:=A1.ext q15;have B1:=B1.ext q15;refine Zbx (vs:=[.int .i64 0,.int .i64 0]) (by simp +decide only [zq,aevs]) (by decide) rfl (C.mono (Za7 0 0) ?_)
 rintro v s1 ⟨rfl,e2⟩;refine ⟨e2.quiet,?_⟩;have q16:=e2.merge;generalize σ15.merge s1=σ16 at q16;have e1:=e1.trans q16;have A1:=A1.ext q16;have B1:=B1.ext q16;apply Zau 1;intro _;simp +decide only [zq,zr,List.take,aQ,↓Zab,↓reduceIte,aOp,Zar,ZaN,ZoV];rfl;dsimp only [List.drop,List.take,List.length];have e3:=e1.trans ((Ext.new σ16.reset ⟨1,3,0,[.int .i64 (cmpI x y),.int .i64 (cmpI x y),.int .i64 (cmpI 0 0)],[]⟩).merge);have B3:BxAt (σ16.merge (σ16.reset.new ⟨1,3,0,[.int .i64 (cmpI x y),.int .i64 (cmpI x y),.int .i64 (cmpI 0 0)],[]⟩)) 3 σ16.next [.int .i64 (cmpI x y),.int .i64 (cmpI x y),.int .i64 (cmpI 0 0)]:=⟨zG _,(AS.get_new σ16.reset _ σ16.reset.next).trans (if_pos rfl)⟩;generalize hn3:σ16.next=n3 at B3;generalize σ16.merge (σ16.reset.new ⟨1,3,0,[.int .i64 (cmpI x y),.int .i64 (cmpI x y),.int .i64 (cmpI 0 0)],[]⟩)=τ at e3 B3;refine Zbx (vs:=[slc n3 3 3]) (by simp +decide only [zq,aevs]) (by decide) rfl (C.mono (Zga (RS3 (B3.ext (Ext.reset _))) (by simp)) ?_)
 rintro v s1 ⟨rfl,e4⟩;refine ⟨e4.quiet,?_⟩;apply ZaO;intro _;simp +decide only [zq,zr,aQ,↓Zab,↓reduceIte,aOp];rfl;refine ZaL ⟨zA _,[.int .i64 (orI [cmpI x y,cmpI x y,cmpI 0 0])],?_,?_,e3.trans (e4.merge.trans ?_)⟩
 ·simp +decide only [zq,Zaj]
 ·rfl
 ·exact (Ext.refl _).merge
end Go.Proofs.YteangeffgjolpaaGreatDoor.Nest
namespace Go.Proofs.YteangeffgjolpaaGreatDoor.U
open Abs
def encW (k:Int):Value:=keyW k.toNat
def encN (k:Int):Value:=keyN k.toNat
def D6 (k:Int):Prop:=0≤k∧k<6
def Zmp (o:Option Bool) (b:Bool):Bool:=match o with|some x=>x == b|none=>false
theorem Zn8 {o:Option Bool} {b:Bool} (h:Zmp o b=true):o=some b:=by
 cases o with
 | none=>cases h
 | some x=>rw [show x=b from eq_of_beq h]
theorem allW:((List.range 6).all fun a=>(List.range 6).all fun b=>Zmp (Instr.sameNow .string (keyW a) (keyW b)) (Nat.beq a b))=true:=by kernel_rfl
theorem allN:((List.range 6).all fun a=>(List.range 6).all fun b=>Zmp (Instr.sameNow .string (keyN a) (keyN b)) (Nat.beq a b))=true:=by kernel_rfl
theorem same6 {f:Nat→Value} (h:((List.range 6).all fun a=>(List.range 6).all fun b=>Zmp (Instr.sameNow .string (f a) (f b)) (Nat.beq a b))=true) (k k':Int) (hk:D6 k) (hk':D6 k'):Instr.sameNow .string (f k.toNat) (f k'.toNat)=some (k == k'):=by
 have h1:=List.all_eq_true.1 (List.all_eq_true.1 h k.toNat (List.mem_range.2 (by unfold D6 at hk;omega))) k'.toNat (List.mem_range.2 (by unfold D6 at hk';omega))
 rw [Zn8 h1]
 congr 1
 unfold D6 at hk hk';by_cases e:k=k'
 ·subst e;rw [Nat.beq_refl,beq_self_eq_true]
 ·rw [show (k == k')=false from by rw [beq_eq_false_iff_ne];exact e]
  cases hb:Nat.beq k.toNat k'.toNat with
  | false=>rfl
  | true=>have:=zK hb;omega
theorem keysW:Keys Tryz.prog 9 .string encW D6:=⟨Tryz.underlying9,rfl,fun k k' h h'=>same6 allW k k' h h'⟩
theorem Zrx:Keys Tryz.prog 9 .string encN D6:=⟨Tryz.underlying9,rfl,fun k k' h h'=>same6 allN k k' h h'⟩
end Go.Proofs.YteangeffgjolpaaGreatDoor.U
namespace Go.Proofs.YteangeffgjolpaaGreatDoor.Nest
open Abs
section
variable {P:Program} {K:Tbl} {G n:Nat} {ops:Array Oper} {r:Regs} {σ:AS} {l:List Oper} {Q Q':Regs→AS→Prop}
theorem Zse (h:Ls P K G n ops l r σ Q) (hq:∀r' σ',Q r' σ'→Q' r' σ'):Ls P K G n ops l r σ Q':=by
 obtain ⟨r',σ',N,h1,h2⟩:=h;exact ⟨r',σ',N,h1,hq _ _ h2⟩
end
theorem out_c {δ:Type} {X:List Nat} {σ0:AS} {xb N M:Nat} {fid:FuncId} {fs cs:Array Value} {ask:δ→Nat→δ×List Arc} {Kw:δ→Nat→Prop} {ER:δ→AS→Prop}
  (P:Prov X σ0 N fid fs cs ask Kw ER) (hA:Ask N ask Kw) (hN:N≤400) (hM:N≤M) :
  ∀(f:Nat) {σ:AS} {dl:δ} {x:SS} {s:Nat},PNo X σ0 N M ER (.func (.func fid) fs cs) xb σ dl x [] []→Kw dl s→s<N→x.found=false→x.loop=[]→cnt x.outer≤f→x.outer[s]?=some false→
   x.stem.length+f≤900→C Tryz.prog Kn 0 35 [.pointer (some ⟨xb,0,none⟩),.int .i64 (s:Int)] σ fun v σ'=>
    v=.bool (mouter ask N f (dl,x) s).2.found∧KR X σ0 σ σ'∧((mouter ask N f (dl,x) s).2.found=false→PNo X σ0 N M ER (.func (.func fid) fs cs) xb σ' (mouter ask N f (dl,x) s).1 (mouter ask N f (dl,x) s).2 [] [])∧((mouter ask N f (dl,x) s).2.found=true→PYes X σ0 N M ER (.func (.func fid) fs cs) xb σ' (mouter ask N f (dl,x) s).1 (mouter ask N f (dl,x) s).2):=by
 have INN:=@in_c δ X σ0 xb N M fid fs cs ask Kw ER P hA hN hM N;intro f
 induction f with
 | zero=>
  intro σ dl x s _ _ _ _ _ hc hs;have:=ZhM hs;omega
 | succ f ih=>
  intro σ dl x s hP hKs hs hfd hlp hc hout hst;obtain ⟨d,R,hnil,hE⟩:=hP;have hcs:=ZhM hout;refine C_of (kn (by decide)) Tryz.func35 rfl (zD rfl) ?_
  show W _ _ _ 84 _ _ _ _;unfold Tryz.f35;dsimp only;repeat apply Zaa
  apply Zad;intro _;simp +decide only [zq,ZaI,↓Zab,↓reduceIte,aOp];rfl;have RQ:=R.ext (Ext.reset σ);repeat apply Zaa
  refine Za8 [] [] (by kernel_rfl) (by kernel_rfl) ?_
  apply Zau 10;intro _;simp +decide only [zq,zr,List.take,aQ,↓Zab,↓reduceIte,aOp,Zac,Zag,Zbo,Zly,Zgi,RQ.ld3,RQ.ld4];rfl;dsimp only [List.drop,List.take,List.length];have e1:Ext σ (σ.merge σ.reset):=(Ext.refl _).merge;generalize σ.merge σ.reset=σ1 at e1;have R1:=R.ext e1;refine ZiR (vs:=[.pointer (some ⟨xb,0,none⟩),d.om,d.im,.int .i64 (s:Int)]) (by simp +decide only [zq,aevs]) (by decide) rfl (by kernel_rfl) (C.mono (Zno (R1.ext (Ext.reset σ1)) hs (by omega) hout) ?_)
  rintro v s1 M1;refine ⟨fun y hy=>(nomatch hy),?_⟩;have R2:=M1.merge R1.c.ext;generalize σ1.merge s1=σ2 at R2;clear M1 R1 RQ;apply ZaO
  ·intro callf;rfl
  show W _ _ _ 84 _ _ _ _;have hcu:=zB (zB (ZlL (x.outer.set s true) x.inner) (Nat.le_of_eq R2.c.ol)) hM;have hfin1:(menter ask N (dl,{ x with outer:=x.outer.set s true }) s).2.found=true→mouter ask N (f+1) (dl,x) s=menter ask N (dl,{ x with outer:=x.outer.set s true }) s:=fun h=>by
   show (if _ then _ else _)=_
   rw [if_pos h]
  have hfin2:(menter ask N (dl,{ x with outer:=x.outer.set s true }) s).2.found=false→mouter ask N (f+1) (dl,x) s=mogo (mouter ask N f) s 0 (ask (menter ask N (dl,{ x with outer:=x.outer.set s true }) s).1 s).2
    ((ask (menter ask N (dl,{ x with outer:=x.outer.set s true }) s).1 s).1,(menter ask N (dl,{ x with outer:=x.outer.set s true }) s).2):=fun h=>by
   show (if _ then _ else _)=_
   rw [if_neg (by rw [h];decide)]
  have hOP:=Zhv (N:=N) ask hN (y:=(dl,{ x with outer:=x.outer.set s true })) (s:=s) hfd (by show x.stem.length≤1000;omega)
  have hUP:=Zj9 hA (dl,{ x with outer:=x.outer.set s true }) s hKs
  have hx1:({ x with outer:=x.outer.set s true }:SS).found=false:=hfd
  have hx2:({ x with outer:=x.outer.set s true }:SS).loop=[]:=hlp
  have hx3:cnt ({ x with outer:=x.outer.set s true }:SS).outer≤f:=by show cnt (x.outer.set s true)≤f;omega
  have hx4:({ x with outer:=x.outer.set s true }:SS).stem=x.stem:=rfl
  have hP1:Zh6 X σ0 σ σ2 xb N M (.func (.func fid) fs cs) ⟨({ x with outer:=x.outer.set s true }:SS).outer,({ x with outer:=x.outer.set s true }:SS).inner,[],({ x with outer:=x.outer.set s true }:SS).stem,[],[],[]⟩ d:=R2
  have hcu1:cU ({ x with outer:=x.outer.set s true }:SS).outer ({ x with outer:=x.outer.set s true }:SS).inner≤M:=hcu
  have hst1:({ x with outer:=x.outer.set s true }:SS).stem.length≤900:=by rw [hx4];omega
  generalize ({ x with outer:=x.outer.set s true }:SS)=x1 at hfin1 hfin2 hx1 hx2 hx3 hx4 hOP hUP hP1 hcu1 hst1
  clear R2 hcu;repeat apply Zaa
  apply ZaF;refine Zse (Q:=fun r σ'=>rget r 0=.pointer (some ⟨xb,0,none⟩)∧rget r 1=.int .i64 (s:Int)∧rget r 33=.bool (menter ask N (dl,x1) s).2.found∧KR X σ0 σ σ'∧((menter ask N (dl,x1) s).2.found=false→PNo X σ0 N M ER (.func (.func fid) fs cs) xb σ' (menter ask N (dl,x1) s).1 (menter ask N (dl,x1) s).2 [] [])∧((menter ask N (dl,x1) s).2.found=true→PYes X σ0 N M ER (.func (.func fid) fs cs) xb σ' (menter ask N (dl,x1) s).1 (menter ask N (dl,x1) s).2)) ?_ ?_
  ·apply Zay 1;intro _;simp +decide only [zq,List.take,↓Zab,↓reduceIte,aOp];rfl;dsimp only [List.drop];refine ZaV (vs:=[.pointer (some ⟨xb,0,none⟩)]) (by simp +decide only [zq,aevs]) (by decide) (C.mono (ZoP hP1 hcu1) ?_)
   rintro v σ' ⟨rfl,e3⟩;have R3:=hP1.ext e3;generalize σ'=σ3 at R3;have lk:=Zkd R3.c.inner s;dsimp only at lk;have hil:=R3.c.il;dsimp only at hil;have hgd2:x1.inner.getD s true=x1.inner.getD s false:=by
    have h1:s<x1.inner.length:=by rw [hil];exact hs
    simp [List.getD,h1]
   cases hb:x1.inner.getD s false with
   | true=>
    rw [hb] at lk;have he:menter ask N (dl,x1) s=(dl,x1):=by
     unfold menter;rw [if_pos (by rw [hgd2,hb])]
    rw [he];apply ZaG;intro _;simp +decide only [zq,↓Zab,↓reduceIte,aOp,opUn,Zac,Zag,ZaH,beq_self_eq_true,Bool.not_true,Bool.false_beq,Zbo,Zgi,Zba,R3.ld4,lk,not_b,ZaH];rfl;refine ⟨?_,?_,?_,KR.of_fr R3.c.fr,fun _=>⟨d,R3.anew,hnil,P.mono hE R3.c.fr⟩,fun h=>by rw [hx1] at h;cases h⟩
    ·simp +decide only [zq]
    ·simp +decide only [zq]
    ·simp +decide only [zq,hx1]
   | false=>
    rw [hb] at lk;have he:menter ask N (dl,x1) s=minner ask N (dl,{ x1 with path:=[],on:=[(s:Int)] }) s:=by
     unfold menter;rw [if_neg (by rw [hgd2,hb];decide)]
    have hit:x1.inner[s]?=some false:=by
     have h1:s<x1.inner.length:=by rw [hil];exact hs
     rw [zL,zP h1] at hb;rw [zP h1];exact congrArg some hb
    have CC:=INN (σ:=σ3) (dl:=dl) (x:={ x1 with path:=[],on:=[(s:Int)] }) (s:=s) (oo:=[]) ⟨d,R3.anew,hnil,P.mono hE R3.c.fr⟩ rfl hKs hs hx1 hx2 rfl (by have:=Zm0 x1.inner;rw [hil] at this;exact this) hit (fun t ht=>(nomatch ht)) (by show 0+N≤900;omega) (by show x1.stem.length≤1000;omega)
    rw [←he] at CC;apply Zay 11;intro _;simp +decide only [zq,List.take,↓Zab,↓reduceIte,aOp,opUn,Zac,Zag,beq_self_eq_true,Bool.not_false,Zbo,Zgi,Zba,R3.ld4,lk,not_b];rfl;dsimp only [List.drop];refine Zb7 (vs:=[.pointer (some ⟨xb,0,none⟩),.int .i64 (s:Int)]) (by simp +decide only [zq]) (by simp +decide only [zq,aevs]) (by decide) (C.mono CC ?_)
    rintro v σ' ⟨rfl,KZ,hno,hyes⟩;apply ZaG;intro _;simp +decide only [zq,↓Zab,↓reduceIte,aOp,ZaH,beq_self_eq_true,ZaH];rfl;refine ⟨?_,?_,?_,(KR.of_fr R3.c.fr).trans KZ,hno,hyes⟩<;>simp +decide only [zq]
  rintro r σ3 ⟨h0,h1,h33,K3,hno,hyes⟩;cases hzf:(menter ask N (dl,x1) s).2.found with
  | true=>
   obtain ⟨dz,yz,cz,RZ,hz1,hz2,hz3⟩:=hyes hzf;rw [hzf] at h33;repeat apply Zaa
   refine ZaQ (by simp +decide only [aev,h33]) ?_
   repeat apply Zaa
   apply Zad;intro _;simp +decide only [zq,↓Zab,↓reduceIte,aOp];rfl;refine Zbj ⟨zA _,[.bool true],?_,?_⟩
   ·simp +decide only [zq,Zaj]
   ·rw [hfin1 hzf];exact ⟨by rw [hzf];rfl,K3,(fun h=>by rw [hzf] at h;cases h),fun _=>⟨dz,yz,cz,RZ,hz1,hz2,hz3⟩⟩
  | false=>
   have hP2:=hno hzf;rw [hzf] at h33;repeat apply Zaa
   refine ZaC (by simp +decide only [aev,h33]) ?_
   apply Zak;have hs2:(menter ask N (dl,x1) s).2.stem=x.stem:=(hOP.no hzf).1.trans hx4;have hl2:(menter ask N (dl,x1) s).2.loop=[]:=(hOP.no hzf).2.trans hx2;have hc2:cnt (menter ask N (dl,x1) s).2.outer≤f:=zB hOP.cnt hx3;have hfin3:=hfin2 hzf;have hKs3:=hUP s hKs;generalize menter ask N (dl,x1) s=y2 at hP2 hfin3 hs2 hl2 hc2 hzf hKs3;clear hno hyes hOP INN hP1 hfin1 hfin2 hUP;obtain ⟨dl3,x2⟩:=y2;dsimp only at hP2 hfin3 hs2 hl2 hc2 hzf hKs3;obtain ⟨dl1,row,hask⟩:∃dl1 row,ask dl3 s=(dl1,row):=⟨_,_,rfl⟩;have hto:∀a∈row,0≤a.2∧a.2<(N:Int)∧Kw dl1 a.2.toNat:=by have h:=hA.to hKs3;rw [hask] at h;exact h
   have hrl:row.length≤100:=by have h:=hA.len hKs3;rw [hask] at h;exact h
   have hfin:∀(y:δ×SS),y=mogo (mouter ask N f) s 0 row (dl1,x2)→mouter ask N (f+1) (dl,x) s=y:=fun y e=>by rw [hfin3,hask,←e]
   obtain ⟨d3,R3,hnil3,hE3⟩:=hP2;repeat apply Zaa
   apply ZaF;apply Zay 5;intro _;simp +decide only [zq,List.take,↓Zab,↓reduceIte,aOp,Zac,Zag,Zbo,ZoR,h0,h1,R3.ld0];rfl;dsimp only [List.drop];refine Zfp (first:=fs) (captured:=cs) (fid:=fid) (vs:=[.int .i64 (s:Int)]) (by simp +decide only [zq]) (by simp +decide only [zq,aevs]) (by decide) (C.mono (P.call hE3 hKs3 hs R3.c.ext.nxt) ?_)
   rintro v σ' ⟨hE6,hrow,hpf6⟩;rw [hask] at hE6 hrow;obtain ⟨rb,rc,rfl,-⟩:=id hrow.1;have K6:=K3.trans (KR.of_pfr hpf6);have R6:=R3.prov hpf6;generalize σ'=σ6 at R6 hE6 hrow hpf6 K6;apply ZaG;intro _;simp +decide only [zq,↓Zab,↓reduceIte,aOp,Zan,aevs,Zaf,aLen,Tryz.underlying44,goInt];rfl;repeat apply Zaa
   refine Zbs (fun (p:Nat×δ×SS) r σ'=>p.1≤row.length∧p.2.2.found=false∧p.2.2.stem=x.stem∧p.2.2.loop=[]∧cnt p.2.2.outer≤f∧PNo X σ0 N M ER (.func (.func fid) fs cs) xb σ' p.2.1 p.2.2 [] []∧KR X σ0 σ6 σ'∧(∀a∈row,Kw p.2.1 a.2.toNat)∧
     mogo (mouter ask N f) s p.1 (row.drop p.1) p.2=mogo (mouter ask N f) s 0 row (dl1,x2)∧rget r 0=.pointer (some ⟨xb,0,none⟩)∧rget r 1=.int .i64 (s:Int)∧rget r 39=.slice rb row.length rc∧rget r 40=.int .i64 (row.length:Int)∧rget r 41=.int .i64 (p.1:Int))
    (fun p=>row.length-p.1) (fun r σ'=>∃y:δ×SS,y.2.found=false∧PNo X σ0 N M ER (.func (.func fid) fs cs) xb σ' y.1 y.2 [] []∧KR X σ0 σ6 σ'∧y=mogo (mouter ask N f) s 0 row (dl1,x2)) ?_ ?_ (0,dl1,x2) ?_
   rotate_left 2
   ·simp +decide only [zq,h0,h1];refine ⟨zH _,hzf,hs2,hl2,hc2,⟨d3,R6,hnil3,hE6⟩,KR.refl,fun a ha=>(hto a ha).2.2,rfl,?_⟩;exact ⟨trivial,trivial,trivial,trivial,rfl⟩
   rotate_left
   ·rintro r σ7 ⟨⟨dy,y⟩,hyf,hP7,K7,hy⟩;dsimp only at hyf hP7;repeat apply Zaa
    repeat apply Zaa
    apply Zad;intro _;simp +decide only [zq,↓Zab,↓reduceIte,aOp];rfl;refine ZaL ⟨zA _,[.bool false],?_,?_⟩
    ·simp +decide only [zq,Zaj]
    ·rw [hfin _ hy];exact ⟨by rw [hyf];rfl,K6.trans K7,fun _=>hP7,(fun h=>by rw [hyf] at h;cases h)⟩
   clear h0 h1 h33 R3 R6;rintro ⟨i,dy,y⟩ r σ7 ⟨hi,hyf,hs2,hl2,hc2,hP7,K7,hKr,hgo,h0,h1,h37,h38,h39⟩;dsimp only at hi hyf hs2 hl2 hc2 hP7 hKr hgo h39;by_cases hlt:i<row.length;rotate_left
   ·have d1:decide ((i:Int)<(row.length:Int))=false:=zI (by omega)
    repeat apply Zaa
    apply Zad;intro _;simp +decide only [zq,↓Zab,↓reduceIte,aOp,Zah,h38,h39,d1,aBin,ZaB,Zam];rfl;repeat apply Zaa
    refine ZaC (by simp +decide only [zq]) ?_
    refine ZaA ⟨fun h=>(nomatch h),fun _=>⟨(dy,y),hyf,hP7,K7,?_⟩,fun h1 h2=>absurd rfl h2⟩;rw [List.drop_eq_nil_of_le (by omega)] at hgo
    exact hgo
   have d1:decide ((i:Int)<(row.length:Int))=true:=zM (by omega)
   repeat apply Zaa
   apply Zad;intro _;simp +decide only [zq,↓Zab,↓reduceIte,aOp,Zah,h38,h39,d1,aBin,ZaB,Zam];rfl;repeat apply Zaa
   refine ZaQ (by simp +decide only [zq]) ?_
   apply Zak;refine ZaM ?_;obtain ⟨a,ha⟩:∃a,row[i]?=some a:=⟨row[i],by simp [hlt]⟩
   have hrow7:=hrow.keep K7;obtain ⟨-,b1',off1,rfl,-,hat⟩:=Zfm hrow7.1 ha;have hdrop:row.drop i=a::row.drop (i+1):=by
    rw [List.drop_eq_getElem_cons hlt,(zE.1 ha).2]
   have hat2:=hto a (zF ha);rw [hdrop] at hgo;obtain ⟨d7,R7,hnil,hE7⟩:=hP7;repeat apply Zaa
   apply Zad;intro _;simp +decide only [zq,↓Zab,↓reduceIte,aOp,Zae,Zag,ZaE,unn,h37,h39,Zfh hlt,(hat _ (Ext.refl _)).1,Zgp,Zf6];rfl;have AY:=decl_at σ7 a;have ed:=decl_ext σ7 a;generalize hab:σ7.next=ab at AY;generalize decl σ7 a=σ8 at AY ed;have R8:=R7.ext ed;have w1:IntKind.i64.wrap ((i:Int)+1)=((i+1:Nat):Int):=by rw [Zas _ (by omega) (by omega)];omega
   have et:((a.2.toNat:Nat):Int)=a.2:=by omega
   have ht:a.2.toNat<N:=by omega
   have RQ:=R8.ext (Ext.reset σ8);have lk5:=Zkd RQ.c.outer a.2.toNat;rw [et] at lk5;dsimp only at lk5;have hol:=R8.c.ol;dsimp only at hol;have hgd2:y.outer.getD a.2.toNat true=y.outer.getD a.2.toNat false:=by
    have h1:a.2.toNat<y.outer.length:=by rw [hol];exact ht
    simp [List.getD,h1]
   repeat apply Zaa
   refine Za8 [] [] (by kernel_rfl) (by kernel_rfl) ?_
   apply ZaO;intro _;simp +decide only [zq,zr,aQ,↓Zab,↓reduceIte,aOp,Zac,Zag,Zbo,Zly,h0,Zba,RQ.ld3,lk5,fld1,(AY.ext (Ext.reset σ8)).to];rfl;have e9:Ext σ8 (σ8.merge σ8.reset):=(Ext.refl _).merge;generalize σ8.merge σ8.reset=σ9 at e9;have R9:=R8.ext e9;have A9:=AY.ext e9;cases hb:y.outer.getD a.2.toNat false with
   | true=>
    repeat apply Zaa
    refine ZaQ (by simp +decide only [zq]) ?_
    have hgo2:mogo (mouter ask N f) s (i+1) (row.drop (i+1)) (dy,y)=mogo (mouter ask N f) s 0 row (dl1,x2):=by
     rw [←hgo];show _=mogo (mouter ask N f) s i (a::row.drop (i+1)) (dy,y)
     conv=>rhs;unfold mogo
     dsimp only;rw [if_neg (by rw [hyf];decide),if_pos (by rw [hgd2,hb])]
    refine ZaA ⟨fun _=>?_,fun h1 h2=>absurd rfl (h2:1+2≠1+2)⟩;refine Zao ?_;repeat apply Zaa
    apply Zad;intro _;simp +decide only [zq,↓Zab,↓reduceIte,aOp,Zah,h39,w1,aBin,ZaB,Zam];rfl;refine Zap ⟨fun _=>⟨(i+1,dy,y),?_,?_⟩,fun h=>(nomatch h),fun h=>absurd rfl h⟩
    ·show row.length-(i+1)<row.length-i;omega
    ·refine ⟨by show i+1≤row.length;omega,hyf,hs2,hl2,hc2,⟨d7,R9.anew,hnil,P.mono hE7 R9.c.fr⟩,K7.trans (KR.of_fr R9.c.fr),hKr,hgo2,?_,?_,?_,?_,?_⟩<;>simp +decide only [zq,h0,h1,h37,h38,h39]
   | false=>
    repeat apply Zaa
    refine ZaC (by simp +decide only [zq]) ?_
    apply Zak;have hB:(σ9.new ⟨1,102,0,[.int .i64 (s:Int),.int .i64 (i:Int)],[]⟩).get σ9.next=⟨1,102,0,[.int .i64 (s:Int),.int .i64 (i:Int)],[]⟩:=by rw [AS.get_new,if_pos rfl]
    have e10:=Ext.new σ9 ⟨1,102,0,[.int .i64 (s:Int),.int .i64 (i:Int)],[]⟩;have heps:y.stem.length=x.stem.length:=by rw [hs2]
    obtain ⟨v3,s9,ha9,M9,hv9,hA9⟩:=(R9.ext e10).pushP (y:=.slice (some ⟨σ9.next,0,none⟩) 1 1) (Src.of (m:=[((s:Int),(i:Int))]) (.inr (.inr ⟨σ9.next,0,1,rfl,Zaq hB rfl (zA _)⟩))) ⟨rfl,rfl⟩ hnil (by show y.stem.length+1≤_;omega)
    have A10:=hA9 _ _ (A9.ext e10);have hst9:=M9.st6 hv9;repeat apply Zaa
    apply Zad;intro _;simp +decide only [zq,↓Zab,↓reduceIte,aOp,Zan,Zac,Zag,ZaE,Zar,Zbl,aevs,ZaN,unn,Zaf,Zbo,Zlx,h0,h1,R9.ld6,Zpd,Zmk,ha9,hst9];rfl;have R10:=M9.put;have A10:=A10.putP M9.c.kd M9.c.el (pblk (.func (.func fid) fs cs) M (cU y.outer y.inner) { d7 with pv:=v3 })
    generalize s9.put xb (pblk (.func (.func fid) fs cs) M (cU y.outer y.inner) { d7 with pv:=v3 })=σ10 at R10 A10
    clear M9 A9 hA9 ha9 hst9 hB e10;dsimp only at R10;have hit:y.outer[a.2.toNat]?=some false:=by
     have h1:a.2.toNat<y.outer.length:=by rw [hol];exact ht
     rw [zL,zP h1] at hb;rw [zP h1];exact congrArg some hb
    have hKa:=hKr a (zF ha);have CC:=ih (σ:=σ10) (dl:=dy) (x:=Zd9 ((s:Int),(i:Int)) y) (s:=a.2.toNat) ⟨{ d7 with pv:=v3 },R10.anew,hnil,P.mono hE7 R10.c.fr⟩ hKa ht hyf hl2 hc2 hit (by show (y.stem++[_]).length+f≤900;rw [hs2];simp;omega)
    have hup:=Zj1 hA f (dy,Zd9 ((s:Int),(i:Int)) y) a.2.toNat hKa;have hsp:=Zhr ask hN f (dy,Zd9 ((s:Int),(i:Int)) y) a.2.toNat hyf (by show (y.stem++[_]).length+f≤1000;rw [hs2];simp;omega)
    have hgo2:=hgo
    conv at hgo2=>lhs;unfold mogo
    dsimp only at hgo2;rw [if_neg (by rw [hyf];decide),if_neg (by rw [hgd2,hb];decide)] at hgo2
    rw [et] at CC;have eps:(Zd9 ((s:Int),(i:Int)) y).stem=y.stem++[((s:Int),(i:Int))]:=rfl;have epl:(Zd9 ((s:Int),(i:Int)) y).loop=y.loop:=rfl;have epo:(Zd9 ((s:Int),(i:Int)) y).outer=y.outer:=rfl;have KT:=KR.of_fr (X:=X) R10.c.fr;generalize mouter ask N f (dy,Zd9 ((s:Int),(i:Int)) y) a.2.toNat=z at CC hsp hgo2 hup;obtain ⟨dz0,z⟩:=z;clear R7 R8 R9 R10 RQ;repeat apply Zaa
    apply ZaF;apply Zay 3;intro _;simp +decide only [zq,List.take,↓Zab,↓reduceIte,aOp,Zac,Zag,h0,A10.to,fld1];rfl;dsimp only [List.drop];refine ZaV (vs:=[.pointer (some ⟨xb,0,none⟩),.int .i64 a.2]) (by simp +decide only [zq,aevs]) (by decide) (C.mono (CC) ?_)
    rintro v σ' ⟨rfl,KZ,hno,hyes⟩;dsimp only at hno hyes hsp hup;have KZ:=KT.trans KZ;apply ZaG;intro _;simp +decide only [aOps];rfl;generalize σ'=σ14 at hno hyes KZ;cases hzf:z.found with
    | true=>
     obtain ⟨dz,yz,cz,RZ,hz1,hz2,hz3⟩:=hyes hzf;repeat apply Zaa
     refine ZaQ (by simp +decide only [zq]) ?_
     repeat apply Zaa
     apply Zad;intro _;simp +decide only [zq,↓Zab,↓reduceIte,aOp];rfl;have hbk:Zdq (dz0,z)=(dz0,z):=by unfold Zdq;rw [if_pos hzf]
     rw [hbk,Zir hzf] at hgo2;refine Zbj ⟨fun h=>h.elim (fun h=>(nomatch h)) (fun h=>(nomatch h)),fun _ _=>⟨fun h=>(nomatch h),fun h=>(nomatch h),fun _ _=>⟨zA _,[.bool true],?_,?_⟩⟩⟩
     ·simp +decide only [zq,Zaj]
     ·rw [hfin _ hgo2];refine ⟨by rw [hzf];rfl,K6.trans (K7.trans KZ),fun h=>?_,fun _=>⟨dz,yz,cz,RZ,hz1,hz2,hz3⟩⟩
      rw [hzf] at h;cases h
    | false=>
     obtain ⟨dz,RZ,hnz,hEz⟩:=hno hzf;repeat apply Zaa
     refine ZaC (by simp +decide only [zq]) ?_
     apply Zak;obtain ⟨g3,g4⟩:=hsp.no hzf;rw [eps] at g3;rw [epl] at g4;have hzl:z.loop=[]:=by rw [g4];exact hl2
     have q1:z.stem.dropLast=x.stem:=by rw [g3,hs2];simp
     have hzp:z.stem.length=x.stem.length+1:=by rw [g3,hs2];simp
     have hbk:Zdq (dz0,z)=(dz0,{ z with stem:=z.stem.dropLast }):=by unfold Zdq;rw [if_neg (by rw [hzf];decide)]
     rw [hbk] at hgo2;refine Zao ?_;have RQ:=RZ.ext (Ext.reset σ14);obtain ⟨v5,hs5,M5,hv5⟩:=RQ.popP ⟨rfl,rfl⟩ hnz;obtain ⟨pa,pc,hpv⟩:=RQ.c.path.len;have l7:=RQ.ld6;dsimp only at l7 hs5 hpv M5;rw [hpv] at l7 hs5;have w9:IntKind.i64.wrap ((z.stem.length:Int)-1)=((z.stem.length-1:Nat):Int):=by rw [Zas _ (by omega) (by omega)];omega
     repeat apply Zaa
     refine Za8 [] [] (by kernel_rfl) (by kernel_rfl) ?_
     apply Zau 14;intro _;simp +decide only [zq,zr,List.take,aQ,↓Zab,↓reduceIte,aOp,Zah,Zan,Zac,Zag,ZbE,aevs,Zaf,aLen,Zbo,Zlx,h0,l7,w9,hs5,aopt,Tryz.underlying97,goInt,aBin,ZaB,Zam];rfl;dsimp only [List.drop,List.take,List.length];have M8:=M5.merge RZ.c.ext;generalize σ14.merge σ14.reset=τ1 at M8;refine ZnN (v:=undef) (s1:=τ1.reset.put xb (pblk (.func (.func fid) fs cs) M (cU z.outer z.inner) { dz with pv:=v5 })) (by intro callf;simp +decide only [zq,↓reduceIte,aOp,ZaE,unn,(M8.ext (Ext.reset τ1)).st6 hv5]) (by kernel_rfl) ?_
     have RP:=(M8.ext (Ext.reset τ1)).put.merge M8.c.ext;clear M5 hs5 l7 hpv RQ w9 M8;generalize τ1.merge (τ1.reset.put xb (pblk (.func (.func fid) fs cs) M (cU z.outer z.inner) { dz with pv:=v5 }))=τ2 at RP
     show W _ _ _ 84 _ _ _ _;refine Zap ⟨fun _=>?_,fun h=>absurd rfl h⟩;refine Zao ?_;repeat apply Zaa
     apply Zad;intro _;simp +decide only [zq,↓Zab,↓reduceIte,aOp,Zah,h39,w1,aBin,ZaB,Zam];rfl;refine Zap ⟨fun _=>⟨(i+1,dz0,({ z with stem:=z.stem.dropLast }:SS)),?_,?_⟩,fun h=>(nomatch h),fun h=>absurd rfl h⟩
     ·show row.length-(i+1)<row.length-i;omega
     ·refine ⟨by show i+1≤row.length;omega,hzf,q1,hzl,zB hsp.cnt hc2,⟨{ dz with pv:=v5 },RP.anew,hnz,P.mono hEz RP.c.fr⟩,K7.trans (KZ.trans (KR.of_fr RP.c.fr)),fun a ha=>hup _ (hKr a ha),hgo2,?_,?_,?_,?_,?_⟩<;>simp +decide only [zq,h0,h1,h37,h38,h39]
open Abs
theorem ZkE (N:Nat):bmap (List.replicate N false)=fun _=>none:=by
 funext k
 unfold bmap;rw [if_neg];rintro ⟨-,h⟩;rw [zL,List.getElem?_replicate] at h;split at h<;>cases h
theorem Zog:pmap []=fun _=>none:=rfl
theorem Zpa:∀N:Nat,cU (List.replicate N false) (List.replicate N false)=0
 | 0=>rfl
 | N+1=>by rw [List.replicate_succ];unfold cU;rw [Zpa N];rfl
theorem Zr7 {fid:FuncId} {fs cs:Array Value} {n:Int} {a b c:Nat}:Zdb Tryz.prog 99 [(0,.func (.func fid) fs cs),(1,.int .i64 n),(3,.map (some a)),(4,.map (some b)),(5,.map (some c))]=some (.agg #[.func (.func fid) fs cs,.int .i64 n,.int .i64 0,.map (some a),.map (some b),.map (some c),.slice none 0 0,.slice none 0 0,.slice none 0 0,.slice none 0 0]):=by kernel_rfl
theorem _root_.Go.Proofs.YteangeffgjolpaaGreatDoor.Abs.MapAt.empty {lo r:Nat} {σ:AS} (h1:lo≤r) (h2:r<σ.next) (h:σ.get r=⟨3,0,0,[],[]⟩):MapAt lo σ (.map (some r)) (fun _=>none):=
 ⟨r,[],rfl,h1,h2,by rw [h],by rw [h];rfl,List.nodup_nil,fun _=>rfl,fun _ h=>(nomatch h)⟩
theorem _root_.Go.Proofs.YteangeffgjolpaaGreatDoor.Abs.Stk.nil {lo:Nat} {σ:AS}:Stk lo 102 2 σ (.slice none 0 0) 0 []:=⟨rfl,rfl,.inl ⟨rfl,rfl⟩⟩
theorem Zhp {σ:AS} {N M:Nat} {fid:FuncId} {fs cs:Array Value}:C Tryz.prog Kn 0 33 [(.func (.func fid) fs cs),.int .i64 (M:Int)] σ fun v σ'=>
  ∃xb d,v=.pointer (some ⟨xb,0,none⟩)∧Zh6 [] σ σ σ' xb N M (.func (.func fid) fs cs) ⟨List.replicate N false,List.replicate N false,[],[],[],[],[]⟩ d∧d.sv=.slice none 0 0∧d.lv=.slice none 0 0:=by
 refine C_of (kn (by decide)) Tryz.func33 rfl (zD rfl) ?_
 show W _ _ _ 12 _ _ _ _;unfold Tryz.f33;dsimp only;repeat apply Zaa
 apply Zad;intro _;simp +decide only [zq,ZaI,↓Zab,↓reduceIte,aOp];rfl;repeat apply Zaa
 apply Zad;intro _;simp +decide only [zq,↓Zab,↓reduceIte,aOp,Zbm,Zbl,aRow,ZaN,Zr7,aRow];rfl;refine ZaL ⟨zA _,[.pointer (some ⟨σ.next+1+1+1,0,none⟩)],?_,_,⟨.map (some σ.next),.map (some (σ.next+1)),.map (some (σ.next+1+1)),.slice none 0 0,.slice none 0 0,.slice none 0 0,.slice none 0 0⟩,rfl,?_,rfl,rfl⟩
 ·simp +decide only [zq,Zaj];rfl
 generalize hA:(Value.agg _).cells.toList=vals;obtain ⟨n1,hn1⟩:∃n1,σ.next=n1:=⟨_,rfl⟩;have g0:((((σ.new ⟨3,0,0,[],[]⟩).new ⟨3,0,0,[],[]⟩).new ⟨3,0,0,[],[]⟩).new ⟨1,99,0,vals,[]⟩).get n1=⟨3,0,0,[],[]⟩:=by
  rw [AS.get_new,if_neg (by show σ.next+1+1+1≠_;omega),AS.get_new,if_neg (by show σ.next+1+1≠_;omega),AS.get_new,if_neg (by show σ.next+1≠_;omega),AS.get_new,if_pos hn1]
 have g1:((((σ.new ⟨3,0,0,[],[]⟩).new ⟨3,0,0,[],[]⟩).new ⟨3,0,0,[],[]⟩).new ⟨1,99,0,vals,[]⟩).get (n1+1)=⟨3,0,0,[],[]⟩:=by
  rw [AS.get_new,if_neg (by show σ.next+1+1+1≠_;omega),AS.get_new,if_neg (by show σ.next+1+1≠_;omega),AS.get_new,if_pos (by show σ.next+1=_;omega)]
 have g2:((((σ.new ⟨3,0,0,[],[]⟩).new ⟨3,0,0,[],[]⟩).new ⟨3,0,0,[],[]⟩).new ⟨1,99,0,vals,[]⟩).get (n1+1+1)=⟨3,0,0,[],[]⟩:=by
  rw [AS.get_new,if_neg (by show σ.next+1+1+1≠_;omega),AS.get_new,if_pos (by show σ.next+1+1=_;omega)]
 have g3:((((σ.new ⟨3,0,0,[],[]⟩).new ⟨3,0,0,[],[]⟩).new ⟨3,0,0,[],[]⟩).new ⟨1,99,0,vals,[]⟩).get (n1+1+1+1)=⟨1,99,0,vals,[]⟩:=by
  rw [AS.get_new,if_pos (by show σ.next+1+1+1=_;omega)]
 have gn:((((σ.new ⟨3,0,0,[],[]⟩).new ⟨3,0,0,[],[]⟩).new ⟨3,0,0,[],[]⟩).new ⟨1,99,0,vals,[]⟩).next=n1+4:=by show σ.next+1+1+1+1=_;omega
 have ge:Ext σ ((((σ.new ⟨3,0,0,[],[]⟩).new ⟨3,0,0,[],[]⟩).new ⟨3,0,0,[],[]⟩).new ⟨1,99,0,vals,[]⟩):=(((Ext.new _ _).trans (Ext.new _ _)).trans (Ext.new _ _)).trans (Ext.new _ _);show PMid [] σ σ ((((σ.new ⟨3,0,0,[],[]⟩).new ⟨3,0,0,[],[]⟩).new ⟨3,0,0,[],[]⟩).new ⟨1,99,0,vals,[]⟩) _ _ _ _ _ _ _ _;generalize ((((σ.new ⟨3,0,0,[],[]⟩).new ⟨3,0,0,[],[]⟩).new ⟨3,0,0,[],[]⟩).new ⟨1,99,0,vals,[]⟩)=τ at g0 g1 g2 g3 gn ge;refine ⟨⟨ExtX.of ge,Fr.of ge,by omega,by omega,?_,?_,by simp,by simp,?_,?_,?_,?_,?_,?_,Stk.nil,Stk.nil,fun i h=>absurd h Zle,Stk.nil,Stk.nil⟩,?_⟩
 ·rw [hn1,g3]
 ·rw [hn1,g3]
 ·rw [ZkE];exact MapAt.empty (zA _) (by omega) (by rw [hn1];exact g0)
 ·rw [ZkE];exact MapAt.empty (by show σ.next≤σ.next+1;omega) (by show σ.next+1<_;omega) (by show τ.get (σ.next+1)=_;rw [hn1];exact g1)
 ·rw [Zog];exact MapAt.empty (by show σ.next≤σ.next+1+1;omega) (by show σ.next+1+1<_;omega) (by show τ.get (σ.next+1+1)=_;rw [hn1];exact g2)
 ·intro i h h2;unfold MOwn at h h2;have h3:=h.symm.trans (show Value.map (some σ.next)=.map (some σ.next) from rfl)
  cases h;have h4:(Value.map (some (σ.next+1)))=.map (some σ.next):=h2;simp at h4
 ·intro i h h2;unfold MOwn at h h2;cases h;have h4:(Value.map (some (σ.next+1+1)))=.map (some σ.next):=h2;simp at h4;omega
 ·intro i h h2;unfold MOwn at h h2;cases h;have h4:(Value.map (some (σ.next+1+1)))=.map (some (σ.next+1)):=h2;simp at h4
 ·subst hn1;rw [g3,←hA];dsimp only;rw [Zpa];rfl
end Go.Proofs.YteangeffgjolpaaGreatDoor.Nest
