/- The operations on slices and maps,append,and the building of structs,continued. -/
import Derived.Test.YteangeffgjolpaaGreatDoorAbsD
set_option linter.unusedSimpArgs false
set_option linter.unusedVariables false
namespace Go.Proofs.YteangeffgjolpaaGreatDoor.Abs
section ops
variable {P:Program} {G:Nat} {ρ:Ren} {σ σ':AS} {w:World} {r:Regs} {a:Act}
theorem Zcp {x x':Value} {y y' m:Nat} {c:BoundsCode} (h:ZeA x y=some m) (hy:y≤y') (hx:VRel ρ x x') :
  m≤y∧(Instr.sliceBound x' y' c).run P w=.ok m w:=by
 unfold ZeA at h;split at h
 ·rename_i k i;obtain rfl:=vrel_int.1 hx;split at h
  ·rename_i hi;cases h;refine ⟨by omega,?_⟩
   have:0≤i∧i≤(y':Int):=by omega
   simp [Instr.sliceBound,asIntOf,this]
  ·cases h
 ·cases h
def ZeP (ρ:Ren):Option Value→Option Value→Prop
 | none,none=>True
 | some x,some y=>VRel ρ x y
 | _,_=>False
def Zsa (x:Option Value) (y d m:Nat):Prop:=match x with|some v=>ZeA v y=some m|none=>m=d
def mSpec (hi mx:Option Value) (cap cap' m:Nat):Prop:=match mx with|some v=>ZeA v cap=some m∧cap≤cap'∧hi≠none|none=>m=cap
theorem Zex {isS:Bool} {len cap cap' l hh m:Nat} {lo hi mx lo' hi' mx':Option Value} (hlo:ZeP ρ lo lo') (hhi:ZeP ρ hi hi') (hmx:ZeP ρ mx mx')
  (hm:mSpec hi mx cap cap' m) (hh':Zsa hi m len hh) (hl:Zsa lo hh 0 l)
  (hcap:mx=none→cap≤cap') :
  (Instr.sliceBounds isS len cap' lo' hi' mx').run P w=.ok (l,hh,if mx.isSome then m else cap') w:=by
 unfold Instr.sliceBounds;cases mx with
 | some v=>
  cases mx' with
  | none=>exact hmx.elim
  | some v'=>
   obtain ⟨h1,h2,h3⟩:=hm;cases hi with
   | none=>exact absurd rfl h3
   | some hv=>
    cases hi' with
    | none=>exact hhi.elim
    | some hv'=>
     have hb1:=fun c=>(Zcp (P:=P) (w:=w) (c:=c) h1 h2 hmx).2;have hb2:=fun c=>(Zcp (P:=P) (w:=w) (c:=c) hh' (zA _) hhi).2;cases lo with
     | none=>
      cases lo' with
      | some _=>exact hlo.elim
      | none=>subst hl;simp [hb1,hb2]
     | some lv=>
      cases lo' with
      | none=>exact hlo.elim
      | some lv'=>
       have hb3:=fun c=>(Zcp (P:=P) (w:=w) (c:=c) hl (zA _) hlo).2;simp [hb1,hb2,hb3]
 | none=>
  cases mx' with
  | some _=>exact hmx.elim
  | none=>
   subst hm;have hc:=hcap rfl;cases hi with
   | none=>
    cases hi' with
    | some _=>exact hhi.elim
    | none=>
     subst hh';cases lo with
     | none=>
      cases lo' with
      | some _=>exact hlo.elim
      | none=>subst hl;simp
     | some lv=>
      cases lo' with
      | none=>exact hlo.elim
      | some lv'=>
       have hb3:=fun c=>(Zcp (P:=P) (w:=w) (c:=c) hl (zA _) hlo).2;simp [hb3]
   | some hv=>
    cases hi' with
    | none=>exact hhi.elim
    | some hv'=>
     have hb2:=fun c=>(Zcp (P:=P) (w:=w) (c:=c) hh' hc hhi).2;cases lo with
     | none=>
      cases lo' with
      | some _=>exact hlo.elim
      | none=>subst hl;simp [hb2]
     | some lv=>
      cases lo' with
      | none=>exact hlo.elim
      | some lv'=>
       have hb3:=fun c=>(Zcp (P:=P) (w:=w) (c:=c) hl (zA _) hlo).2;simp [hb2,hb3]
theorem Zcw {x:Option Value} {y d m:Nat} (h:ZbW x y d=some m):Zsa x y d m:=by
 cases x with
 | none=>cases h;rfl
 | some v=>exact h
def Zps (ρ:Ren) (size:Nat) (base:Option Addr) (cap:Nat) (base':Option Addr) (cap':Nat):Prop:=
 match base with
 | none=>base'=none∧cap'=cap
 | some a=>∃b,ρ.bl a.block=some b∧a.spot=none∧base'=some ⟨b,a.off,none⟩∧CapRel (ρ.sz a.block) a.off cap cap'∧(Zax≤cap→(ρ.sz a.block).2=size)
theorem Ze0 {isS:Bool} {size:Nat} {base base':Option Addr} {len cap cap':Nat} {lo hi mx lo' hi' mx':Option Value} {v:Value}
  (h:Zbg size base len cap lo hi mx=some v) (hb:Zps ρ size base cap base' cap') (hno:base=none→cap<Zax)
  (hlo:ZeP ρ lo lo') (hhi:ZeP ρ hi hi') (hmx:ZeP ρ mx mx') :
  ∃l hh m,(Instr.sliceBounds isS len cap' lo' hi' mx').run P w=.ok (l,hh,m) w∧
   VRel ρ v (.slice (if m=l then base' else base'.map (·.add (l*size))) (hh-l) (m-l)):=by
 have hcaple:ZdX cap≤cap':=by
  unfold ZdX;cases base with
  | none=>have:=hno rfl;obtain ⟨_,rfl⟩:=hb;simp [Nat.blt_eq,this]
  | some x=>
   obtain ⟨b,_,_,_,hc,_⟩:=hb;unfold CapRel at hc;simp only [Nat.blt_eq];split at hc
   ·rename_i h1;rw [if_pos h1];omega
   ·rename_i h1;rw [if_neg h1];exact hc.1
 unfold Zbg at h;split at h
 ·
  rename_i mv;split at h
  ·rename_i m hv hm;split at h
   ·rename_i hh hhh;split at h
    ·rename_i l hl;split at h
     ·cases h
     ·rename_i hop;have hop:m<Zax:=by simpa [Nat.ble_eq] using hop
      cases h;cases mx' with
      | none=>exact hmx.elim
      | some mv'=>
       refine ⟨l,hh,m,by
        have:=Zex (P:=P) (w:=w) (isS:=isS) (len:=len) (cap:=ZdX cap) (cap':=cap') (l:=l) (hh:=hh) (m:=m) hlo hhi hmx ⟨hm,hcaple,by simp⟩ hhh (Zcw hl) (by simp)
        simpa using this,?_⟩
       have hml:(Nat.beq m l=true)↔m=l:=by rw [Nat.beq_eq]
       cases base with
       | none=>
        obtain ⟨rfl,_⟩:=hb;simp only [Option.map_none,ite_self];exact vrel_slice_none.2 rfl
       | some x=>
        obtain ⟨b,h1,h2,rfl,_,_⟩:=hb;have hcr:∀s off,CapRel s off (m-l) (m-l):=fun s off=>by
         unfold CapRel;rw [if_pos (by omega)]
        by_cases e:m=l
        ·rw [if_pos (hml.2 e),if_pos e];exact Za2 ⟨b,_,h1,h2,hcr _ _,rfl⟩
        ·rw [if_neg (fun h=>e (hml.1 h)),if_neg e];simp only [Option.map_some,Zch h2,ZbP];exact Za2 ⟨b,_,h1,rfl,hcr _ _,rfl⟩
    ·cases h
   ·cases h
  ·cases h
 ·cases mx' with
  | some _=>exact hmx.elim
  | none=>
   split at h
   ·rename_i hh hhh;split at h
    ·rename_i l hl;have hbd:=Zex (P:=P) (w:=w) (isS:=isS) (len:=len) (cap:=ZdX cap) (cap':=cap') (l:=l) (hh:=hh) (m:=ZdX cap) hlo hhi hmx rfl (Zcw hhh) (Zcw hl) (fun _=>hcaple);simp only [Option.isSome_none,Bool.false_eq_true,if_false] at hbd;refine ⟨l,hh,cap',hbd,?_⟩;split at h
     ·rename_i hop;have hop:Zax≤cap:=by simpa [Zc6,Nat.ble_eq] using hop
      cases base with
      | none=>have:=hno rfl;omega
      | some x=>
       obtain ⟨b,h1,h2,rfl,hc,hsz⟩:=hb;have hsz:=hsz hop;unfold CapRel at hc;rw [if_neg (by omega)] at hc
       obtain ⟨hc1,hc2,hc3⟩:=hc;split at h
       ·rename_i h0;have h0:l=0:=zK h0;subst h0;cases h;have:(if cap'=0 then some (⟨b,x.off,none⟩:Addr) else Option.map (fun y:Addr=>y.add (0*size)) (some (⟨b,x.off,none⟩:Addr)))=some (⟨b,x.off,none⟩:Addr):=by
         simp [ZbP]
        rw [this];refine Za2 ⟨b,_,h1,h2,?_,rfl⟩;unfold CapRel;rw [if_neg (by omega)]
        exact ⟨by omega,hc2,by simpa using hc3⟩
       ·split at h
        ·rename_i hlt;have hlt:l<ZdX cap:=by simpa [Nat.blt_eq] using hlt
         cases h;have hlb:ZdX cap=cap-Zax:=by unfold ZdX;rw [if_neg (by simp [Nat.blt_eq];omega)]
         rw [if_neg (by omega)]
         simp only [Option.map_some,Zch h2,ZbP];refine Za2 ⟨b,_,h1,rfl,?_,rfl⟩;unfold CapRel;rw [if_neg (by omega)]
         refine ⟨by omega,hc2,?_⟩
         rw [hsz] at hc3 ⊢;rw [←hc3,Nat.add_assoc,←Nat.add_mul]
         congr 2
         omega
        ·split at h
         ·rename_i he;have he:hh=l:=zK he;cases h;refine vrel_void.2 (.inr ⟨x,cap,l,size,b,cap',rfl,h1,?_,?_⟩)
          ·unfold CapRel;rw [if_neg (by omega)];exact ⟨hc1,hc2,hc3⟩
          ·rw [he,Nat.sub_self];by_cases e:cap'=l
           ·rw [if_pos e,if_pos e]
           ·rw [if_neg e,if_neg e,Option.map_some,ZbP]
         ·cases h
     ·rename_i hop;have hop:cap<Zax:=by simpa [Zc6,Nat.ble_eq] using hop
      cases h;have hml:(Nat.beq cap l=true)↔cap=l:=by rw [Nat.beq_eq]
      cases base with
      | none=>
       obtain ⟨rfl,rfl⟩:=hb;simp only [Option.map_none,ite_self];exact vrel_slice_none.2 rfl
      | some x=>
       obtain ⟨b,h1,h2,rfl,hc,_⟩:=hb;unfold CapRel at hc;rw [if_pos hop] at hc;subst hc;have hcr:∀s off,CapRel s off (cap'-l) (cap'-l):=fun s off=>by
        unfold CapRel;rw [if_pos (by omega)]
       by_cases e:cap'=l
       ·rw [if_pos (hml.2 e),if_pos e];exact Za2 ⟨b,_,h1,h2,hcr _ _,rfl⟩
       ·rw [if_neg (fun h=>e (hml.1 h)),if_neg e];simp only [Option.map_some,Zch h2,ZbP];exact Za2 ⟨b,_,h1,rfl,hcr _ _,rfl⟩
    ·cases h
   ·cases h
theorem ZkL {t:TypeId} {x x':Value} {lo hi mx lo' hi' mx':Option Value} {v:Value} (h:Zbv P σ t x lo hi mx=some v) (hR:R G ρ σ w) (hx:VRel ρ x x')
  (hlo:ZeP ρ lo lo') (hhi:ZeP ρ hi hi') (hmx:ZeP ρ mx mx') :
  ∃v',(Instr.sliceAt t x' lo' hi' mx').run P w=.ok v' w∧VRel ρ v v':=by
 unfold Zbv at h;split at h
 ·rename_i elem base len cap hd;split at h
  ·rename_i inf hi0;have fin:∀base' cap',x'=.slice base' len cap'→Zps ρ inf.size base cap base' cap'→(base=none→cap<Zax)→
     Zbg inf.size base len cap lo hi mx=some v→∃v',(Instr.sliceAt t x' lo' hi' mx').run P w=.ok v' w∧VRel ρ v v':=by
    rintro base' cap' rfl hb hno h;obtain ⟨l,hh,m,h1,h2⟩:=Ze0 (P:=P) (w:=w) (isS:=true) h hb hno hlo hhi hmx;refine ⟨_,?_,h2⟩;simp [Instr.sliceAt,Instr.slice,Zai hd,h1,ZaX hi0]
   cases base with
   | none=>
    obtain rfl:=vrel_slice_none.1 hx;split at h
    ·cases h
    ·rename_i hop;exact fin none cap rfl ⟨rfl,rfl⟩ (fun _=>by simpa [Zc6,Nat.ble_eq] using hop) h
   | some y=>
    rcases vrel_slice.1 hx with ⟨b,c',hb,hs,hc,rfl⟩|⟨hs,rfl,rfl,rfl⟩
    rotate_left
    ·rw [if_neg (by unfold Zc6 Zax;decide)] at h
     dsimp only at h;rw [if_pos (by cases hsp:y.spot with|none=>exact absurd hsp hs|some _=>rfl)] at h
     cases h
    split at h
    ·dsimp only at h;split at h
     ·rename_i hk;simp only [Bool.and_eq_true,Nat.beq_eq] at hk;obtain ⟨_,o,ho,hbr⟩:=hR.blk _ _ hb;unfold BRel at hbr;rw [hk.1] at hbr;obtain ⟨c,fr,p,q,_,_,_,_,h5⟩:=hbr;exact fin _ c' rfl ⟨b,hb,hs,rfl,hc,fun _=>by rw [h5];exact hk.2⟩ (by simp) h
     ·cases h
    ·rename_i hop;have hop:cap<Zax:=by simpa [Zc6,Nat.ble_eq] using hop
     dsimp only at h;rw [if_neg (by rw [hs];decide)] at h
     exact fin _ c' rfl ⟨b,hb,hs,rfl,hc,fun h=>by omega⟩ (by simp) h
  ·cases h
 ·rename_i s hd;obtain rfl:=vrel_string.1 hx;split at h
  ·cases h
  ·cases mx' with
   | some _=>exact hmx.elim
   | none=>
    split at h
    ·rename_i hh hhh;split at h
     ·rename_i l hl;cases h;have hbd:=Zex (P:=P) (w:=w) (isS:=false) (len:=s.size) (cap:=s.size) (cap':=s.size) (l:=l) (hh:=hh) (m:=s.size) hlo hhi hmx rfl (Zcw hhh) (Zcw hl) (fun _=>zA _);simp only [Option.isSome_none,Bool.false_eq_true,if_false] at hbd;refine ⟨.string (s.extract l hh),?_,vrel_string.2 rfl⟩;simp [Instr.sliceAt,Instr.slice,Zai hd,hbd]
     ·cases h
    ·cases h
 ·rename_i n elem y hd;obtain ⟨b,hb,hs,rfl⟩:=vrel_ptr.1 hx;split at h
  ·rename_i inf hi0;split at h
   ·rename_i hn;have hn:n<Zax:=by simpa [Nat.blt_eq] using hn
    obtain ⟨l,hh,m,h1,h2⟩:=Ze0 (P:=P) (w:=w) (isS:=false) (base':=some ⟨b,y.off,none⟩) (cap':=n) h
     ⟨b,hb,hs,rfl,by unfold CapRel;rw [if_pos hn],fun h=>by omega⟩ (by simp) hlo hhi hmx
    refine ⟨_,?_,h2⟩;simp only [Instr.sliceAt,Sem.run_bind,Zai hd,Result.andThen_ok,Instr.sureAddr,Sem.run_pure,h1,ZaX hi0];by_cases e:m=l
    ·simp [e]
    ·simp [e]
   ·cases h
  ·cases h
 ·cases h
end ops
theorem LRel.modify {α β:Type} {R:α→β→Prop} {f:β→β} {a:α}:∀(i:Nat) {l:List α} {m:List β},LRel R l m→(∀b,m[i]?=some b→R a (f b))→LRel R (l.set i a) (m.modify i f)
 | _,[],[],_,_=>by simp [LRel]
 | 0,_::_,b::_,h,hf=>⟨hf b (by simp),h.2⟩
 | i+1,_::_,_::_,h,hf=>⟨h.1,LRel.modify i h.2 fun b hb=>hf b (by simpa using hb)⟩
 | _,[],_::_,h,_=>h.elim
 | _,_::_,[],h,_=>h.elim
theorem LRel.erase {α β:Type} {R:α→β→Prop}:∀(i:Nat) {l:List α} {m:List β},LRel R l m→LRel R (l.eraseIdx i) (m.eraseIdx i)
 | _,[],[],_=>by simp [LRel]
 | 0,_::_,_::_,h=>h.2
 | i+1,_::_,_::_,h=>⟨h.1,LRel.erase i h.2⟩
 | _,[],_::_,h=>h.elim
 | _,_::_,[],h=>h.elim
section ops
variable {P:Program} {G:Nat} {ρ:Ren} {σ σ':AS} {w:World} {r:Regs} {a:Act}
theorem Zee {d:TypeDesc} {k x:Value} {b:Bool} (h:Instr.sameNow d k x=some b):ZcO k=true∧ZcO x=true:=by
 unfold Instr.sameNow at h;split at h<;>first|exact ⟨rfl,rfl⟩|cases h
theorem Zqp {s t:ByteArray} (h:(s == t)=true):s=t:=by
 cases s;cases t;have h:ByteArray.beq (ByteArray.mk _) (ByteArray.mk _)=true:=h;unfold ByteArray.beq at h;simp at h;rw [h]
theorem ZnD (s:ByteArray):(s == s)=true:=by
 have h:ByteArray.beq s s=true:=by unfold ByteArray.beq;simp
 exact h
theorem ZjM {d:TypeDesc} {k x:Value} (h:Instr.sameNow d k x=some true):∀n,Instr.sameBits n x k=true:=by
 intro n;unfold Instr.sameNow at h;split at h
 ·split at h
  ·rename_i e;subst e;simp only [Option.some.injEq,beq_iff_eq] at h;subst h;cases n<;>simp [Instr.sameBits]
  ·cases h
 ·simp only [Option.some.injEq] at h;obtain rfl:=Zqp h;cases n<;>simp [Instr.sameBits,ZnD]
 ·simp only [Option.some.injEq,beq_iff_eq] at h;subst h;cases n<;>simp [Instr.sameBits]
 ·cases h
theorem ZiM {d:TypeDesc} {k k':Value}:∀{l:List (Value×Value)} {m:List MapEntry} {i:Nat},ZkP d k l i=some none→LRel (ERel ρ) l m→VRel ρ k k'→
  Instr.findNow d k' m i=some none
 | [],[],_,_,_,_=>rfl
 | e::l,f::m,i,h,hl,hk=>by
  simp only [ZkP] at h;split at h
  ·cases h
  ·rename_i hs;obtain ⟨f1,f2⟩:=Zee hs;obtain rfl:=(Zby f1).1 hk;have e2:=(Zby f2).1 hl.1.1;simp only [Instr.findNow,e2,hs];exact ZiM h hl.2 hk
  ·cases h
 | [],_::_,_,_,h,_=>h.elim
 | _::_,[],_,_,h,_=>h.elim
theorem ZiL {d:TypeDesc} {k k' v:Value} {j:Nat}:∀{l:List (Value×Value)} {m:List MapEntry} {i:Nat},ZkP d k l i=some (some (j,v))→LRel (ERel ρ) l m→VRel ρ k k'→
  ∃v' e,Instr.findNow d k' m i=some (some (j,v'))∧VRel ρ v v'∧i≤j∧m[j-i]?=some e∧k'=k∧(∀n,Instr.sameBits n e.key k=true)
 | [],_,_,h,_,_=>by cases h
 | e::l,f::m,i,h,hl,hk=>by
  simp only [ZkP] at h;split at h
  ·rename_i hs;obtain ⟨f1,f2⟩:=Zee hs;obtain rfl:=(Zby f1).1 hk;have e2:=(Zby f2).1 hl.1.1;cases h;refine ⟨f.val,f,?_,hl.1.2,zA _,by simp,rfl,?_⟩
   ·simp only [Instr.findNow,e2,hs]
   ·rw [e2];exact ZjM hs
  ·rename_i hs;obtain ⟨f1,f2⟩:=Zee hs;obtain rfl:=(Zby f1).1 hk;have e2:=(Zby f2).1 hl.1.1;obtain ⟨v',e',h1,h2,h3,h4,h5,h6⟩:=ZiL h hl.2 hk;refine ⟨v',e',?_,h2,by omega,?_,rfl,h6⟩
   ·simp only [Instr.findNow,e2,hs];exact h1
   ·rw [show j-i=(j-(i+1))+1 from by omega];simpa using h4
  ·cases h
 | _::_,[],_,_,h,_=>h.elim
theorem Zef {d:TypeDesc} {t:TypeId} {e:Bool} {k:Value} (hd:P.underlying t=some d) (hb:ZfT d=true):(Instr.checkKey e 10000 t k).run P w=.ok () w:=by
 show (Instr.checkKey e (9999+1) t k).run P w=_;rw [Instr.checkKey.eq_2];rw [Sem.run_bind,Zai hd,Result.andThen_ok];cases d<;>simp [ZfT] at hb<;>rfl
theorem Zhg {d:TypeDesc} {t:TypeId} {k:Value} {es:List MapEntry} {x:Option (Nat×Value)} (hd:P.underlying t=some d) (h:Instr.findNow d k es 0=some x) :
  (Instr.findKey t k es).run P w=.ok x w:=by
 unfold Instr.findKey;rw [Sem.run_bind,Zai hd,Result.andThen_ok,h];rfl
theorem Zh3 {t:TypeId} {k:Value}:∀{l:List (Value×Value)} {m:List MapEntry} {i:Nat},ZiN P t k l i=some none→LRel (ERel ρ) l m→∀w:World,
  (Instr.findAsking t k m i).run P w=.ok none w
 | [],[],_,_,_,_=>rfl
 | e::l,f::m,i,h,hl,w=>by
  simp only [ZiN] at h;split at h
  ·rename_i hf;have e2:=(ZaR hf).1 hl.1.1;split at h
   ·split at h<;>cases h
   ·rename_i hs;rw [Instr.findAsking,e2,Sem.run_bind,Zbz hs,Result.andThen_ok];exact Zh3 h hl.2 w
   ·cases h
  ·cases h
 | [],_::_,_,_,h,_=>h.elim
 | _::_,[],_,_,h,_=>h.elim
theorem Zh2 {t:TypeId} {k v:Value} {j:Nat}:∀{l:List (Value×Value)} {m:List MapEntry} {i:Nat},ZiN P t k l i=some (some (j,v))→LRel (ERel ρ) l m→
  ∃v' e,(∀w:World,(Instr.findAsking t k m i).run P w=.ok (some (j,v')) w)∧VRel ρ v v'∧i≤j∧m[j-i]?=some e∧Instr.sameBits 10000 e.key k=true
 | [],_,_,h,_=>by cases h
 | e::l,f::m,i,h,hl=>by
  simp only [ZiN] at h;split at h
  ·rename_i hf;have e2:=(ZaR hf).1 hl.1.1;split at h
   ·rename_i hs;split at h
    ·rename_i hb;cases h;refine ⟨f.val,f,fun w=>?_,hl.1.2,zA _,by simp,by rw [e2];exact hb⟩
     rw [Instr.findAsking,e2,Sem.run_bind,Zbz hs,Result.andThen_ok];rfl
    ·cases h
   ·rename_i hs;obtain ⟨v',e',h1,h2,h3,h4,h5⟩:=Zh2 h hl.2;refine ⟨v',e',fun w=>?_,h2,by omega,?_,h5⟩
    ·rw [Instr.findAsking,e2,Sem.run_bind,Zbz hs,Result.andThen_ok];exact h1 w
    ·rw [show j-i=(j-(i+1))+1 from by omega];simpa using h4
   ·cases h
  ·cases h
 | _::_,[],_,_,h=>h.elim
theorem ZhI {t:TypeId} {d:TypeDesc} {k:Value} {m:List MapEntry} {x:Option (Nat×Value)} (hd:P.underlying t=some d) (ha:ZgE d=true)
  (h:(Instr.findAsking t k m 0).run P w=.ok x w):(Instr.findKey t k m).run P w=.ok x w:=by
 unfold Instr.findKey;rw [Sem.run_bind,Zai hd,Result.andThen_ok];cases m with
 | nil=>exact h
 | cons e m=>
  have hs:Instr.sameNow d k e.key=none:=by cases d<;>simp [ZgE] at ha<;>rfl
  simp only [Instr.findNow,hs];exact h
theorem Zkg {t:TypeId} {k:Value} (h:ZrB P t k=true):flat k=true∧∀(e:Bool) (w:World),(Instr.checkKey e 10000 t k).run P w=.ok () w:=by
 unfold ZrB at h;simp only [Bool.and_eq_true] at h;obtain ⟨⟨h1,h2⟩,h3⟩:=h;obtain ⟨u,hu⟩:=Option.isSome_iff_exists.1 h2;obtain ⟨v,hv⟩:=Option.isSome_iff_exists.1 h3;refine ⟨h1,fun e w=>?_⟩;cases e
 ·exact Zbz hv
 ·exact Zbz hu
theorem Zd1 {t:TypeId} {d:TypeDesc} {k k':Value} {l:List (Value×Value)} {m:List MapEntry} (h:Ze2 P t d k l=some none) (hd:P.underlying t=some d)
  (hl:LRel (ERel ρ) l m) (hk:VRel ρ k k') :
  (∀(e:Bool) (w:World),(Instr.checkKey e 10000 t k').run P w=.ok () w)∧∀w:World,(Instr.findKey t k' m).run P w=.ok none w:=by
 unfold Ze2 at h;split at h
 ·rename_i hb;exact ⟨fun e w=>Zef hd hb,fun w=>Zhg hd (ZiM h hl hk)⟩
 ·split at h
  ·rename_i hc;simp only [Bool.and_eq_true] at hc;obtain ⟨hf,hr⟩:=Zkg hc.2;obtain rfl:=(ZaR hf).1 hk;exact ⟨hr,fun w=>ZhI hd hc.1 (Zh3 h hl w)⟩
  ·cases h
theorem Zd0 {t:TypeId} {d:TypeDesc} {k k' v:Value} {j:Nat} {l:List (Value×Value)} {m:List MapEntry} (h:Ze2 P t d k l=some (some (j,v))) (hd:P.underlying t=some d)
  (hl:LRel (ERel ρ) l m) (hk:VRel ρ k k') :
  ∃v' e,(∀(e:Bool) (w:World),(Instr.checkKey e 10000 t k').run P w=.ok () w)∧(∀w:World,(Instr.findKey t k' m).run P w=.ok (some (j,v')) w)∧VRel ρ v v'∧m[j]?=some e∧
   Instr.sameBits 10000 e.key k'=true:=by
 unfold Ze2 at h;split at h
 ·rename_i hb;obtain ⟨v',e,h1,h2,_,h4,h5,h6⟩:=ZiL h hl hk;exact ⟨v',e,fun e w=>Zef hd hb,fun w=>Zhg hd h1,h2,by simpa using h4,by rw [h5];exact h6 _⟩
 ·split at h
  ·rename_i hc;simp only [Bool.and_eq_true] at hc;obtain ⟨hf,hr⟩:=Zkg hc.2;obtain rfl:=(ZaR hf).1 hk;obtain ⟨v',e,h1,h2,_,h4,h5⟩:=Zh2 h hl;exact ⟨v',e,hr,fun w=>ZhI hd hc.1 (h1 w),h2,by simpa using h4,h5⟩
  ·cases h
theorem Zis {i b:Nat} (hR:R G ρ σ w) (hi:ρ.bl i=some b) (hk:(σ.get i).kind=3) :
  ∃es clock,w.heap[b]?=some (.map es clock)∧LRel (ERel ρ) (σ.get i).ents es.toList∧clock=(σ.get i).esz∧(σ.get i).vals=es.toList.map fun e=>Value.int .i64 (e.born:Int):=by
 obtain ⟨_,o,ho,hb⟩:=hR.blk i b hi;unfold BRel at hb;rw [hk] at hb;obtain ⟨es,clock,rfl,h⟩:=hb;exact ⟨es,clock,ho,h⟩
theorem ZbS {b clock:Nat} {es:Array MapEntry} (h:w.heap[b]?=some (.map es clock)):(getObj b).run P w=.ok (.map es clock) w:=by
 simp [getObj,Sem.run,h]
theorem Zf2 {t:TypeId} {m m' k k' v:Value} {ok:Bool} (h:ZbX P σ t m k ok=some v) (hR:R G ρ σ w) (hm:VRel ρ m m') (hk:VRel ρ k k') :
  ∃v',(Instr.lookup t m' k' ok).run P w=.ok v' w∧VRel ρ v v':=by
 unfold ZbX at h;split at h
 ·rename_i key elem hd;split at h
  ·rename_i d hkd;split at h
   ·rename_i es hes;have hent:∃fs:Array MapEntry,((m'=.map none∧fs=#[])∨∃b cl,m'=.map (some b)∧w.heap[b]?=some (.map fs cl))∧LRel (ERel ρ) es fs.toList:=by
     unfold ZnI at hes;split at hes
     ·cases hes;obtain rfl:=vrel_map_none.1 hm;exact ⟨#[],.inl ⟨rfl,rfl⟩,trivial⟩
     ·rename_i i;obtain ⟨b,hb,rfl⟩:=vrel_map.1 hm;split at hes
      ·rename_i hk3;cases hes;obtain ⟨fs,cl,h1,h2,_⟩:=Zis hR hb (zK hk3);exact ⟨fs,.inr ⟨b,cl,rfl,h1⟩,h2⟩
      ·cases hes
     ·cases hes
    obtain ⟨fs,hf1,hf2⟩:=hent;have hrun:∀x,(∀(e:Bool) (w:World),(Instr.checkKey e 10000 key k').run P w=.ok () w)→(∀w:World,(Instr.findKey key k' fs.toList).run P w=.ok x w)→
      (Instr.lookup t m' k' ok).run P w=
      (match x with
       | some (_,v)=>.ok (if ok then .tuple #[v,.bool true] else v) w
       | none=>((zeroValue elem).run P w).andThen fun v w=>.ok (if ok then .tuple #[v,.bool false] else v) w:Result Value):=by
     intro x hc hx;rcases hf1 with ⟨rfl,rfl⟩|⟨b,cl,rfl,hb⟩
     ·have hx':∀w:World,(Instr.findKey key k' []).run P w=.ok x w:=hx;simp [Instr.lookup,Zai hd,hc,hx'];cases x<;>simp
     ·simp [Instr.lookup,Zai hd,ZbS hb,hc,hx];cases x<;>simp
    split at h
    ·rename_i j u hfind;obtain ⟨v',e,hc,h1,h2,_⟩:=Zd0 hfind hkd hf2 hk;cases h;rw [hrun _ hc h1];cases ok
     ·exact ⟨v',by simp,by simpa using h2⟩
     ·exact ⟨.tuple #[v',.bool true],by simp,vrel_tuple.2 ⟨[v',.bool true],⟨h2,vrel_bool.2 rfl,trivial⟩,rfl⟩⟩
    ·rename_i hfind;obtain ⟨hc,h1⟩:=Zd1 hfind hkd hf2 hk;split at h
     ·rename_i inf hi;split at h
      ·rename_i z hz;split at h
       ·rename_i hfz;cases h;rw [hrun _ hc h1];cases ok
        ·exact ⟨z,by simp [Za0 hi hz],by simpa using (ZaR hfz).2 rfl⟩
        ·exact ⟨.tuple #[z,.bool false],by simp [Za0 hi hz],vrel_tuple.2 ⟨[z,.bool false],⟨(ZaR hfz).2 rfl,vrel_bool.2 rfl,trivial⟩,rfl⟩⟩
       ·cases h
      ·cases h
     ·cases h
    ·cases h
   ·cases h
  ·cases h
 ·cases h
theorem ZbD {b clock:Nat} {es:Array MapEntry} {o:Obj} (h:w.heap[b]?=some (.map es clock)) :
  (setObj b o).run P w=.ok () { w with heap:=w.heap.setIfInBounds b o }:=by
 simp [setObj,Sem.run,h]
theorem Zc3 {α β:Type} (g:α→β) (f:α→α):∀(l:List α) (i:Nat),(∀a,g (f a)=g a)→(l.modify i f).map g=l.map g:=fun l i h=>by
 apply List.ext_getElem?;intro j;rw [List.getElem?_map,List.getElem?_map,List.getElem?_modify];cases l[j]? with
 | none=>rfl
 | some a=>by_cases e:i=j<;>simp [e,h]
theorem List.map_eraseIdx' {α β:Type} (g:α→β):∀(l:List α) (i:Nat),(l.map g).eraseIdx i=(l.eraseIdx i).map g
 | [],_=>rfl
 | _::_,0=>rfl
 | a::l,i+1=>by simp [List.map_eraseIdx' g l i]
theorem Zki {i:Nat} {b:Blk} {es:Array MapEntry} {cl:Nat} {k k' v v':Value} (hk3:b.kind=3) (h2:LRel (ERel ρ) b.ents es.toList) (hcl:cl=b.esz)
  (hbo:b.vals=es.toList.map fun e=>Value.int .i64 (e.born:Int)) (hk:VRel ρ k k') (hv:VRel ρ v v'):BRel ρ i (grown b k v) (.map (es.push { key:=k',val:=v',born:=cl }) (cl+1)):=by
 unfold BRel grown;simp only [hk3];refine ⟨_,_,rfl,?_,by rw [hcl],?_⟩
 ·rw [Array.toList_push];exact h2.append ⟨⟨hk,hv⟩,trivial⟩
 ·rw [Array.toList_push,List.map_append,hbo,hcl];rfl
theorem ZfW {t:TypeId} {m m' k k' v v':Value} (h:Zce P σ t m k v=some σ') (hR:R G ρ σ w) (hm:VRel ρ m m') (hk:VRel ρ k k') (hv:VRel ρ v v') :
  ∃w',(Instr.mapUpdate t m' k' v').run P w=.ok () w'∧Sim G ρ σ w ρ σ' w':=by
 unfold Zce at h;split at h
 ·rename_i key elem i hd;obtain ⟨b,hb,rfl⟩:=vrel_map.1 hm;split at h
  ·rename_i d hkd;split at h
   ·rename_i hk3;have hk3:=zK hk3;obtain ⟨es,cl,h1,h2,hcl,hbo⟩:=Zis hR hb hk3;have hne:(σ.get i).kind≠0:=by omega
    have hrun:∀x,(∀(e:Bool) (w:World),(Instr.checkKey e 10000 key k').run P w=.ok () w)→(∀w:World,(Instr.findKey key k' es.toList).run P w=.ok x w)→
      (Instr.mapUpdate t (.map (some b)) k' v').run P w=
      ((match x with
       | some (i,_)=>do
        let key ←Instr.keyThatStays (((es[i]?).map (·.key)).getD k') k'
        setObj b (.map (es.modify i fun e=>{ e with key,val:=v' }) cl)
       | none=>setObj b (.map (es.push { key:=k',val:=v',born:=cl }) (cl+1)):Sem Unit)).run P w:=by
     intro x hc hx;unfold Instr.mapUpdate;rw [Sem.run_bind,Zai hd,Result.andThen_ok];simp only [];rw [Sem.run_bind,ZbS h1,Result.andThen_ok];simp only [];rw [Sem.run_bind,hc,Result.andThen_ok,Sem.run_bind,hx,Result.andThen_ok];rcases x with _|⟨j,u⟩<;>rfl
    split at h
    ·rename_i j u hfind;obtain ⟨v0,e,hc,f1,f2,f4,f6⟩:=Zd0 hfind hkd h2 hk;cases h;rw [hrun _ hc f1];simp only [Array.getElem?_toList] at f4;refine ⟨{ w with heap:=w.heap.setIfInBounds b (.map (es.modify j fun e=>{ e with key:=k',val:=v' }) cl) },?_,?_⟩
     ·simp [f4,Instr.keyThatStays,f6,ZbD h1]
     ·refine Sim.put hR hb hne rfl ⟨rfl,rfl⟩ ?_;unfold BRel;simp only [hk3];refine ⟨_,_,rfl,?_,hcl,?_⟩
      ·rw [Array.toList_modify];exact h2.modify j fun e he=>⟨hk,hv⟩
      ·rw [Array.toList_modify];refine hbo.trans (Zc3 _ _ _ _ ?_).symm;exact fun _=>rfl
    ·rename_i hfind;obtain ⟨hc,f1⟩:=Zd1 hfind hkd h2 hk;cases h;rw [hrun _ hc f1];refine ⟨_,ZbD h1,?_⟩;refine Sim.put hR hb hne rfl ⟨rfl,rfl⟩ ?_;exact Zki hk3 h2 hcl hbo hk hv
    ·cases h
   ·cases h
  ·cases h
 ·cases h
theorem ZkQ {t:TypeId} {m m' k k' v:Value} (h:ZgJ P σ t m k=some (v,σ')) (hR:R G ρ σ w) (hm:VRel ρ m m') (hk:VRel ρ k k') :
  ∃v' w',(Instr.mapEntry t m' k').run P w=.ok v' w'∧VRel ρ v v'∧Sim G ρ σ w ρ σ' w':=by
 unfold ZgJ at h;split at h
 ·rename_i key elem i hd;obtain ⟨b,hb,rfl⟩:=vrel_map.1 hm;split at h
  ·rename_i d hkd;split at h
   ·rename_i hk3;have hk3:=zK hk3;obtain ⟨es,cl,h1,h2,hcl,hbo⟩:=Zis hR hb hk3;have hne:(σ.get i).kind≠0:=by omega
    have hrun:∀x,(∀(e:Bool) (w:World),(Instr.checkKey e 10000 key k').run P w=.ok () w)→(∀w:World,(Instr.findKey key k' es.toList).run P w=.ok x w)→
      (Instr.mapEntry t (.map (some b)) k').run P w=
      ((match x with
       | some (i,v)=>do
        let key ←Instr.keyThatStays (((es[i]?).map (·.key)).getD k') k'
        setObj b (.map (es.modify i fun e=>{ e with key }) cl)
        pure (.tuple #[v,goInt (((es[i]?).map (·.born)).getD 0)])
       | none=>do
        let zero ←zeroValue elem
        setObj b (.map (es.push { key:=k',val:=zero,born:=cl }) (cl+1))
        pure (.tuple #[zero,goInt cl]):Sem Value)).run P w:=by
     intro x hc hx;unfold Instr.mapEntry;rw [Sem.run_bind,Zai hd,Result.andThen_ok];simp only [];rw [Sem.run_bind,ZbS h1,Result.andThen_ok];simp only [];rw [Sem.run_bind,hc,Result.andThen_ok,Sem.run_bind,hx,Result.andThen_ok];rcases x with _|⟨j,u⟩<;>rfl
    split at h
    ·rename_i j u hfind;obtain ⟨v0,e,hc,f1,f2,f4,f6⟩:=Zd0 hfind hkd h2 hk;split at h
     ·rename_i s hs;split at h
      ·rename_i e0 he0;cases h;rw [hrun _ hc f1];have f5:es[j]?=some e:=by simpa using f4
       refine ⟨.tuple #[v0,goInt e.born],{ w with heap:=w.heap.setIfInBounds b (.map (es.modify j fun e=>{ e with key:=k' }) cl) },?_,?_,?_⟩
       ·simp [f5,Instr.keyThatStays,f6,ZbD h1]
       ·refine vrel_tuple.2 ⟨[v0,goInt e.born],⟨f2,?_,trivial⟩,rfl⟩;rw [hbo,List.getElem?_map,f4] at hs;cases hs;exact vrel_int.2 rfl
       ·refine Sim.put hR hb hne rfl ⟨rfl,rfl⟩ ?_;unfold BRel;simp only [hk3];refine ⟨_,_,rfl,?_,hcl,?_⟩
        ·rw [Array.toList_modify];refine h2.modify j fun e' he'=>⟨hk,?_⟩;obtain ⟨y,hy,hr⟩:=h2.get j he0;rw [he'] at hy;cases hy;exact hr.2
        ·rw [Array.toList_modify];refine hbo.trans (Zc3 _ _ _ _ ?_).symm;exact fun _=>rfl
      ·cases h
     ·cases h
    ·rename_i hfind;obtain ⟨hc,f1⟩:=Zd1 hfind hkd h2 hk;split at h
     ·rename_i inf hi;split at h
      ·rename_i z hz;split at h
       ·rename_i hfz;cases h;rw [hrun _ hc f1];refine ⟨.tuple #[z,goInt cl],{ w with heap:=w.heap.setIfInBounds b (.map (es.push { key:=k',val:=z,born:=cl }) (cl+1)) },?_,?_,?_⟩
        ·simp [Za0 hi hz,ZbD h1]
        ·exact vrel_tuple.2 ⟨[z,goInt cl],⟨(ZaR hfz).2 rfl,by rw [hcl];exact vrel_int.2 rfl,trivial⟩,rfl⟩
        ·refine Sim.put hR hb hne rfl ⟨rfl,rfl⟩ ?_;exact Zki hk3 h2 hcl hbo hk ((ZaR hfz).2 rfl)
       ·cases h
      ·cases h
     ·cases h
    ·cases h
   ·cases h
  ·cases h
 ·cases h
theorem ZkN {z:Int}:∀(l:List MapEntry) (n:Nat),aIdx z (l.map fun e=>Value.int .i64 (e.born:Int)) n=(l.findIdx? fun e=>(e.born:Int) == z).map (·+n)
 | [],n=>rfl
 | e::l,n=>by
  rw [List.map_cons,aIdx,List.findIdx?_cons,ZqM,ZkN l (n+1)];cases hz:((e.born:Int) == z)
  ·simp only [Bool.false_eq_true,if_false,Option.map_map]
   congr 1
   funext x
   simp only [Function.comp];omega
  ·simp
theorem Zgr {t:TypeId} {m m' s s' v v':Value} (h:Zb6 σ m s v=some σ') (hR:R G ρ σ w) (hm:VRel ρ m m') (hs:VRel ρ s s') (hv:VRel ρ v v') :
  ∃w',(Instr.entryStore t m' s' v').run P w=.ok () w'∧Sim G ρ σ w ρ σ' w':=by
 unfold Zb6 at h;split at h
 ·rename_i i kk z;obtain ⟨b,hb,rfl⟩:=vrel_map.1 hm;obtain rfl:=vrel_int.1 hs;split at h
  ·rename_i hk3;have hk3:=zK hk3;obtain ⟨es,cl,h1,h2,hcl,hbo⟩:=Zis hR hb hk3;have hne:(σ.get i).kind≠0:=by omega
   split at h
   ·rename_i j hj;split at h
    ·rename_i e0 he0;cases h;rw [hbo,ZkN] at hj;have hj':es.findIdx? (fun e=>(e.born:Int) == z)=some j:=by
      rw [show es.findIdx? (fun e=>(e.born:Int) == z)=es.toList.findIdx? (fun e=>(e.born:Int) == z) by cases es;simp]
      cases hq:es.toList.findIdx? (fun e=>(e.born:Int) == z) with
      | none=>rw [hq] at hj;cases hj
      | some q=>rw [hq] at hj;simpa using hj
     refine ⟨{ w with heap:=w.heap.setIfInBounds b (.map (es.modify j fun e=>{ e with val:=v' }) cl) },?_,?_⟩
     ·simp [Instr.entryStore,ZbS h1,asInt,asIntOf,hj',ZbD h1]
     ·refine Sim.put hR hb hne rfl ⟨rfl,rfl⟩ ?_;unfold BRel;simp only [hk3];refine ⟨_,_,rfl,?_,hcl,?_⟩
      ·rw [Array.toList_modify];refine h2.modify j fun e' he'=>⟨?_,hv⟩;obtain ⟨y,hy,hr⟩:=h2.get j he0;rw [he'] at hy;cases hy;exact hr.1
      ·rw [Array.toList_modify];refine hbo.trans (Zc3 _ _ _ _ ?_).symm;exact fun _=>rfl
    ·cases h
   ·cases h
  ·cases h
 ·cases h
theorem ZnG {t:TypeId} {x x' v:Value} (h:aLen P σ t x=some v) (hR:R G ρ σ w) (hx:VRel ρ x x') {at_:Array TypeId} (hat:at_[0]?=some t) (ty:TypeId) :
  ∃v',(Builtin.len_ at_ ty #[x']).run P w=.ok v' w∧VRel ρ v v':=by
 unfold aLen at h;split at h
 ·rename_i s hd;obtain rfl:=vrel_string.1 hx;cases h;exact ⟨goInt s.size,by simp [Builtin.len_,hat,Zai hd],vrel_int.2 rfl⟩
 ·rename_i n e hd;cases h;exact ⟨goInt n,by simp [Builtin.len_,hat,Zai hd],vrel_int.2 rfl⟩
 ·rename_i e base n c hd;cases h;cases base with
  | none=>
   obtain rfl:=vrel_slice_none.1 hx;exact ⟨goInt n,by simp [Builtin.len_,hat,Zai hd],vrel_int.2 rfl⟩
  | some y=>
   obtain ⟨_,_,rfl,_⟩:=Za1 hx;exact ⟨goInt n,by simp [Builtin.len_,hat,Zai hd],vrel_int.2 rfl⟩
 ·rename_i e k hd;cases h;obtain ⟨a,c,rfl⟩:=ZcD hx;exact ⟨goInt 0,by simp [Builtin.len_,hat,Zai hd],vrel_int.2 rfl⟩
 ·rename_i k e hd;obtain rfl:=vrel_map_none.1 hx;cases h;exact ⟨goInt 0,by simp [Builtin.len_,hat,Zai hd],vrel_int.2 rfl⟩
 ·rename_i k e i hd;obtain ⟨b,hb,rfl⟩:=vrel_map.1 hx;split at h
  ·rename_i hk3;cases h;obtain ⟨es,cl,h1,h2,_⟩:=Zis hR hb (zK hk3);refine ⟨goInt es.size,?_,vrel_int.2 ?_⟩
   ·simp [Builtin.len_,hat,Zai hd,ZbS h1]
   ·have:=h2.length;simp at this;simp [goInt,this]
  ·cases h
 ·cases h
theorem Zjw {t:TypeId} {m m' k k':Value} (h:ZcQ P σ t m k=some σ') (hR:R G ρ σ w) (hm:VRel ρ m m') (hk:VRel ρ k k')
  {at_:Array TypeId} (hat:at_[0]?=some t) (ty:TypeId) :
  ∃w',(Builtin.delete_ at_ ty #[m',k']).run P w=.ok (.tuple #[]) w'∧Sim G ρ σ w ρ σ' w':=by
 unfold ZcQ at h;split at h
 ·rename_i key elem i hd;obtain ⟨b,hb,rfl⟩:=vrel_map.1 hm;split at h
  ·rename_i d hkd;split at h
   ·rename_i hk3;have hk3:=zK hk3;obtain ⟨es,cl,h1,h2,hcl,hbo⟩:=Zis hR hb hk3;have hne:(σ.get i).kind≠0:=by omega
    have hrun:∀x,(∀(e:Bool) (w:World),(Instr.checkKey e 10000 key k').run P w=.ok () w)→(∀w:World,(Instr.findKey key k' es.toList).run P w=.ok x w)→(Builtin.delete_ at_ ty #[.map (some b),k']).run P w=
      ((do
       match x with
        | some (i,_)=>setObj b (.map (es.eraseIdxIfInBounds i) cl)
        | none=>setObj b (.map es cl)
       pure (.tuple #[]):Sem Value)).run P w:=by
     intro x hc hx;unfold Builtin.delete_;simp only [hat,Array.getElem?_eq_getElem,List.size_toArray,List.length_cons,List.length_nil,Nat.zero_add,Nat.reduceAdd,Nat.reduceLT,List.getElem_toArray,List.getElem_cons_zero,List.getElem_cons_succ];rw [Sem.run_bind,Zai hd,Result.andThen_ok];simp [ZbS h1,hc,hx];cases x<;>rfl
    split at h
    ·rename_i j u hfind;obtain ⟨v0,e,hc,f1,f2,f4,f6⟩:=Zd0 hfind hkd h2 hk;cases h;rw [hrun _ hc f1];refine ⟨{ w with heap:=w.heap.setIfInBounds b (.map (es.eraseIdxIfInBounds j) cl) },?_,?_⟩
     ·simp [ZbD h1]
     ·refine Sim.put hR hb hne rfl ⟨rfl,rfl⟩ ?_;unfold BRel;simp only [hk3];refine ⟨_,_,rfl,?_,hcl,?_⟩
      ·rw [Array.toList_eraseIdxIfInBounds];exact h2.erase j
      ·rw [Array.toList_eraseIdxIfInBounds,hbo,List.map_eraseIdx']
    ·rename_i hfind;obtain ⟨hc,f1⟩:=Zd1 hfind hkd h2 hk;cases h;rw [hrun _ hc f1];refine ⟨{ w with heap:=w.heap.setIfInBounds b (.map es cl) },by simp [ZbD h1],?_⟩
     refine Sim.of_heap (w':=w) ?_ ⟨rfl,rfl⟩ (Sim.refl hR);apply Array.ext_getElem?;intro c;rw [ZaW h1];split
     ·rename_i e;subst e;exact h1.symm
     ·rfl
    ·cases h
   ·cases h
  ·cases h
 ·rename_i key elem hd;obtain rfl:=vrel_map_none.1 hm;split at h
  ·rename_i d hkd;split at h
   ·rename_i hbk;cases h;refine ⟨w,?_,Sim.refl hR⟩;unfold Builtin.delete_;simp [hat,Zai hd,Zef hkd hbk]
   ·cases h
  ·cases h
 ·cases h
end ops
theorem Zkj (n:Nat):∀(r c:Nat),c≤2*n+400→Builtin.growBy n r c≤2*n+400
 | 0,c,h=>h
 | r+1,c,h=>by
  unfold Builtin.growBy;split
  ·exact h
  ·exact Zkj n r _ (by omega)
theorem Zho (n c:Nat) (h:c<n):Builtin.nextslicecap n c≤4*n+4000:=by
 unfold Builtin.nextslicecap;split
 ·omega
 ·split
  ·omega
  ·have:=Zkj n 4 c (by omega);omega
def ZoI (d:TypeDesc):Bool:=match d with | .int _=>true|_=>false
section ops
variable {P:Program} {G:Nat} {ρ:Ren} {σ σ':AS} {w:World} {r:Regs} {a:Act}
def Src (P:Program) (w:World) (zeros:Bool) (inf:TypeInfo) (x:Value) (n:Nat) (new:Array Value):Prop:=
 if zeros then (∃k z,x=.int k (n:Int)∧n≤1000000∧inf.zero=some z∧z.cells.size=inf.size∧new=Builtin.zeroCells z.cells n)
 else (Builtin.lenOf x).run P w=.ok n w∧∀w':World,w'.heap=w.heap→(Builtin.firstCells inf.size n x).run P w'=.ok new w'
theorem ZeD {n:Nat} (h:n≤1000000):IntKind.i64.wrap (n:Int)=(n:Int):=by
 simp [IntKind.wrap,IntKind.bits,IntKind.signed];omega
theorem ZdK {z:Array Value} {n:Nat} (h:n*z.size=0):Builtin.zeroCells z n=#[]:=by
 unfold Builtin.zeroCells;rw [h];simp
theorem Zb0 {at_:Array TypeId} {ty st xt elem:TypeId} {xd:TypeDesc} {inf:TypeInfo} {base:Option Addr} {sLen sCap n:Nat} {x:Value} {new:Array Value}
  (h0:at_[0]?=some st) (h1:at_[1]?=some xt) (hs:P.underlying st=some (.slice elem)) (hx:P.underlying xt=some xd) (hi:P.info? elem=some inf)
  (hsrc:Src P w (ZoI xd) inf x n new) (hb:(4*(sLen+n)+4000)*inf.bytes≤281474976710656) (hroom:sLen+n≤sCap) :
  (Builtin.append_ at_ ty #[.slice base sLen sCap,x]).run P w=
   (match base with
    | some a=>((storeCells (a.add (sLen*inf.size)) new.toList).run P w).andThen fun _ w'=>.ok (.slice base (sLen+n) sCap) w'
    | none=>.ok (.slice none (sLen+n) sCap) w):=by
 unfold Builtin.append_;simp only [h0,h1,List.getElem?_toArray,List.getElem?_cons_zero,List.getElem?_cons_succ];rw [Sem.run_bind,Zai hs,Result.andThen_ok];simp only [];rw [Sem.run_bind,ZaX hi,Result.andThen_ok,Sem.run_bind,Zai hx,Result.andThen_ok,Sem.run_bind,Sem.run_pure,Result.andThen_ok,Sem.run_ite];cases hzz:ZoI xd with
 | false=>
  unfold Src at hsrc;rw [hzz] at hsrc;simp only [Bool.false_eq_true,if_false] at hsrc;obtain ⟨hl,hf⟩:=hsrc;have hf:=hf w rfl;cases xd
  case int k=>cases hzz
  all_goals
   dsimp only;rw [if_neg Bool.false_ne_true,Sem.run_bind,hl,Result.andThen_ok,Sem.run_ite,if_pos hroom,Bool.not_false,if_pos rfl,Sem.run_bind,hf,Result.andThen_ok];cases base with
   | none=>rfl
   | some b=>simp only [Sem.run_bind];rfl
 | true=>
  unfold Src at hsrc;rw [hzz] at hsrc;simp only [if_true] at hsrc;obtain ⟨k,z,rfl,hn,hzv,hzs,rfl⟩:=hsrc;have hw:=ZeD hn;have hbb:¬((n:Int)*(inf.bytes:Int)>2^48):=by
   have:n*inf.bytes≤(4*(sLen+n)+4000)*inf.bytes:=Nat.mul_le_mul_right _ (by omega)
   have h2:((n*inf.bytes:Nat):Int)≤281474976710656:=by omega
   rw [Int.natCast_mul] at h2;omega
  have hneg:¬((n:Int)<0):=by omega
  have hasi:(asInt (.int k (n:Int))).run P w=.ok (n:Int) w:=rfl;cases xd
  case int kk=>
   dsimp only;rw [if_pos rfl,Sem.run_bind,hasi,Result.andThen_ok,Sem.run_ite,hw,if_neg hneg,Sem.run_bind,Za9 hi,Result.andThen_ok,Sem.run_ite,if_neg hbb,Sem.run_bind,Sem.run_pure,Result.andThen_ok,
    zW,Sem.run_ite,if_pos hroom,Bool.not_true,if_neg (by decide),Sem.run_bind,Sem.run_ite]
   have hnew:(if n*inf.size=0 then (pure #[]:Sem (Array Value)).run P w else (do let __do_lift ←zeroValue elem;pure (Builtin.zeroCells __do_lift.cells n):Sem (Array Value)).run P w)
     = .ok (Builtin.zeroCells z.cells n) w:=by
    by_cases hns:n*inf.size=0
    ·rw [if_pos hns,ZdK (z:=z.cells) (n:=n) (by rw [hzs];exact hns)];rfl
    ·rw [if_neg hns,Sem.run_bind,Za0 hi hzv];rfl
   rw [hnew,Result.andThen_ok];cases base with
   | none=>rfl
   | some b=>simp only [Sem.run_bind];rfl
  all_goals cases hzz
def ZeI (w:World) (need sCap:Nat) (elem:TypeId):Nat:=(Question.appendCap need sCap elem).cut (w.tape w.drawn (Question.appendCap need sCap elem))
theorem Zhq (w:World) (need sCap:Nat) (elem:TypeId):need≤ZeI w need sCap elem:=by
 unfold ZeI Question.cut;simp only;exact Nat.le_add_right _ _
theorem i64max:IntKind.i64.max=9223372036854775807:=by decide
theorem Zeg {at_:Array TypeId} {ty st xt elem:TypeId} {xd:TypeDesc} {inf:TypeInfo} {base:Option Addr} {sLen sCap n:Nat} {x z:Value} {old new:Array Value}
  (h0:at_[0]?=some st) (h1:at_[1]?=some xt) (hs:P.underlying st=some (.slice elem)) (hx:P.underlying xt=some xd) (hi:P.info? elem=some inf)
  (hz:inf.zero=some z) (hsz:0<inf.size) (hsrc:Src P w (ZoI xd) inf x n new) (hb:(4*(sLen+n)+4000)*inf.bytes≤281474976710656) (hsmall:sLen+n≤1000000000000)
  (hroom:¬sLen+n≤sCap) (hold:∀w':World,w'.heap=w.heap→(Builtin.firstCells inf.size sLen (.slice base sLen sCap)).run P w'=.ok old w') :
  (Builtin.append_ at_ ty #[.slice base sLen sCap,x]).run P w=
   .ok (.slice (some ⟨w.heap.size,0,none⟩) (sLen+n) (ZeI w (sLen+n) sCap elem))
    (w.drew.alloc (.cells (old++new++Builtin.zeroCells z.cells (ZeI w (sLen+n) sCap elem-(sLen+n))) elem)):=by
 have hmax:∀q:Prop,¬(((sLen+n:Nat):Int)>IntKind.i64.max∧q):=fun q h=>by have:=h.1;rw [i64max] at this;omega
 have hnext:¬(Builtin.nextslicecap (sLen+n) sCap*inf.bytes>2^48):=by
  have h1:=Zho (sLen+n) sCap (by omega)
  have h2:Builtin.nextslicecap (sLen+n) sCap*inf.bytes≤(4*(sLen+n)+4000)*inf.bytes:=Nat.mul_le_mul_right _ h1;omega
 have hforced:(Question.appendCap (sLen+n) sCap elem).forced=false:=rfl;unfold Builtin.append_;simp only [h0,h1,List.getElem?_toArray,List.getElem?_cons_zero,List.getElem?_cons_succ];rw [Sem.run_bind,Zai hs,Result.andThen_ok];simp only [];rw [Sem.run_bind,ZaX hi,Result.andThen_ok,Sem.run_bind,Zai hx,Result.andThen_ok,Sem.run_bind,Sem.run_pure,Result.andThen_ok,Sem.run_ite];cases hzz:ZoI xd with
 | false=>
  unfold Src at hsrc;rw [hzz] at hsrc;simp only [Bool.false_eq_true,if_false] at hsrc;obtain ⟨hl,hf⟩:=hsrc;have hf:=hf w.drew rfl;have hold:=hold w.drew rfl;cases xd
  case int k=>cases hzz
  all_goals
   dsimp only;rw [if_neg Bool.false_ne_true,Sem.run_bind,hl,Result.andThen_ok,Sem.run_ite,if_neg hroom,Sem.run_bind,Za9 hi,Result.andThen_ok,Sem.run_ite,if_neg (hmax _),
    Sem.run_bind,Za9 hi,Result.andThen_ok,Sem.run_ite,if_neg hnext,Sem.run_bind,run_choose,hforced,if_neg Bool.false_ne_true,Result.andThen_ok,World.drew_eq,
    Sem.run_bind,Za9 hi,Result.andThen_ok,Sem.run_bind,run_askRoom,Result.andThen_ok,Sem.run_bind,hold,Result.andThen_ok,Bool.not_false,if_pos rfl,Sem.run_bind,hf,Result.andThen_ok,
    Sem.run_bind,Za0 hi hz,Result.andThen_ok]
   rfl
 | true=>
  unfold Src at hsrc;rw [hzz] at hsrc;simp only [if_true] at hsrc;obtain ⟨k,z',rfl,hn,hzv,hzs,rfl⟩:=hsrc;obtain rfl:z=z':=by rw [hz] at hzv;cases hzv;rfl
  have hw:=ZeD hn;have hbb:¬((n:Int)*(inf.bytes:Int)>2^48):=by
   have:n*inf.bytes≤(4*(sLen+n)+4000)*inf.bytes:=Nat.mul_le_mul_right _ (by omega)
   have h2:((n*inf.bytes:Nat):Int)≤281474976710656:=by omega
   rw [Int.natCast_mul] at h2;omega
  have hneg:¬((n:Int)<0):=by omega
  have hasi:(asInt (.int k (n:Int))).run P w=.ok (n:Int) w:=rfl;have hold:=hold w.drew rfl;cases xd
  case int kk=>
   dsimp only;rw [if_pos rfl,Sem.run_bind,hasi,Result.andThen_ok,Sem.run_ite,hw,if_neg hneg,Sem.run_bind,Za9 hi,Result.andThen_ok,Sem.run_ite,if_neg hbb,Sem.run_bind,Sem.run_pure,Result.andThen_ok,
    zW,Sem.run_ite,if_neg hroom,Sem.run_bind,Za9 hi,Result.andThen_ok,Sem.run_ite,if_neg (hmax _),
    Sem.run_bind,Za9 hi,Result.andThen_ok,Sem.run_ite,if_neg hnext,Sem.run_bind,run_choose,hforced,if_neg Bool.false_ne_true,Result.andThen_ok,World.drew_eq,
    Sem.run_bind,Za9 hi,Result.andThen_ok,Sem.run_bind,run_askRoom,Result.andThen_ok,Sem.run_bind,hold,Result.andThen_ok,Bool.not_true,if_neg Bool.false_ne_true,Sem.run_bind,Sem.run_ite]
   have hnew:(if n*inf.size=0 then (pure #[]:Sem (Array Value)).run P w.drew else (do let __do_lift ←zeroValue elem;pure (Builtin.zeroCells __do_lift.cells n):Sem (Array Value)).run P w.drew)
     = .ok (Builtin.zeroCells z.cells n) w.drew:=by
    by_cases hns:n*inf.size=0
    ·rw [if_pos hns,ZdK (z:=z.cells) (n:=n) (by rw [hzs];exact hns)];rfl
    ·rw [if_neg hns,Sem.run_bind,Za0 hi hzv];rfl
   rw [hnew,Result.andThen_ok,Sem.run_bind,Za0 hi hz,Result.andThen_ok];rfl
  all_goals cases hzz
theorem Zh7 (z:Array Value) (n:Nat):(Builtin.zeroCells z n).size=n*z.size:=by
 simp [Builtin.zeroCells]
theorem Zkb {l:List Value} (h:∀x∈l,VRel ρ x x):LRel (VRel ρ) l l:=by
 induction l with
 | nil=>trivial
 | cons a l ih=>exact ⟨h a (by simp),ih fun x hx=>h x (by simp [hx])⟩
theorem ZpX {l:List Value} (h:LRel (VRel ρ) l l):∀x∈l,VRel ρ x x:=by
 induction l with
 | nil=>intro x hx;cases hx
 | cons a l ih=>
  intro x hx;rcases List.mem_cons.1 hx with rfl|hx
  ·exact h.1
  ·exact ih h.2 x hx
theorem Zel {z:Array Value} {n:Nat} (hz:LRel (VRel ρ) z.toList z.toList) (h0:n≠0→0<z.size) :
  LRel (VRel ρ) ((Array.range n).map (z[· % z.size]!)).toList ((Array.range n).map (z[· % z.size]!)).toList:=by
 refine Zkb fun x hx=>?_;simp only [Array.toList_map,List.mem_map,Array.toList_range,List.mem_range] at hx;obtain ⟨i,hi,rfl⟩:=hx;have hlt:i % z.size<z.size:=Nat.mod_lt _ (h0 (by omega))
 rw [getElem!_pos z (i % z.size) hlt];exact ZpX hz _ (by simp)
theorem Zdw {z:Value} (h:flat z=true):LRel (VRel ρ) z.cells.toList z.cells.toList:=((ZaR h).2 rfl).cells
theorem Zfq {z:Value} {n:Nat} (h:flat z=true):LRel (VRel ρ) (Builtin.zeroCells z.cells n).toList (Builtin.zeroCells z.cells n).toList:=by
 by_cases h0:n*z.cells.size=0
 ·rw [ZdK h0];trivial
 ·exact Zel (Zdw h) fun _=>by
   rcases Nat.eq_zero_or_pos z.cells.size with e|e
   ·rw [e] at h0;simp at h0
   ·exact e
theorem Zoz {x x':Value} {n:Nat} (h:match x with | .slice _ m _=>n=m | .string s=>n=s.size|_=>False) (hx:VRel ρ x x'):(Builtin.lenOf x').run P w=.ok n w:=by
 cases x<;>first|exact h.elim|skip
 case slice b m c=>
  cases b with
  | none=>obtain rfl:=vrel_slice_none.1 hx;subst h;rfl
  | some y=>obtain ⟨_,_,rfl,_⟩:=Za1 hx;subst h;rfl
 case string s=>obtain rfl:=vrel_string.1 hx;subst h;rfl
theorem ZkD (l:List UInt8):LRel (VRel ρ) (l.map fun b=>Value.int .u8 b.toNat) (l.map fun b=>Value.int .u8 b.toNat):=
 Zkb fun x hx=>by
  obtain ⟨b,_,rfl⟩:=List.mem_map.1 hx;exact vrel_int.2 rfl
theorem Zjs {zeros:Bool} {inf:TypeInfo} {x x':Value} {n:Nat} {new:List Value} (h:Zbd P σ zeros inf x=some (n,new)) (hR:R G ρ σ w) (hx:VRel ρ x x')
  (hz:∀z,inf.zero=some z→z.cells.size=inf.size):∃new':Array Value,Src P w zeros inf x' n new'∧LRel (VRel ρ) new new'.toList:=by
 unfold Zbd at h;split at h
 ·rename_i hzz;split at h
  ·rename_i k m z hzv;obtain rfl:=vrel_int.1 hx;split at h
   ·rename_i hc;cases h;refine ⟨_,?_,Zfq hc.2.2⟩;unfold Src;rw [if_pos hzz];exact ⟨k,z,by rw [Int.toNat_of_nonneg hc.1],by omega,hzv,hz z hzv,rfl⟩
   ·cases h
  ·cases h
 ·rename_i hzz;unfold Src;simp only [if_neg hzz];split at h
  ·rename_i m c;obtain rfl:=vrel_slice_none.1 hx;cases h;exact ⟨#[],⟨rfl,fun _ _=>rfl⟩,trivial⟩
  ·rename_i y m c;rcases vrel_slice.1 hx with ⟨b,c',hb,hs,hc,rfl⟩|⟨hs,rfl,rfl,rfl⟩
   rotate_left
   ·split at h
    ·rename_i cs hcs;cases h;obtain ⟨-,rfl⟩:=Zd2 hs hcs;refine ⟨#[],⟨rfl,fun w' hw'=>?_⟩,trivial⟩;have:=run_loadCells_list (P:=P) w' (litA y) [] fun j v hj=>by simp at hj
     simp only [Builtin.firstCells,Nat.zero_mul];exact this
    ·cases h
   rw [ZdJ hs] at h;split at h
   ·rename_i cs hcs;cases h;obtain ⟨ds,h1,h2,h3⟩:=ZcM hcs hR hb;refine ⟨ds.toArray,⟨rfl,fun w' hw'=>?_⟩,h1⟩;have:=run_loadCells_list (P:=P) w' ⟨b,y.off,none⟩ ds fun j v hj=>by
     rw [ZbP];have:=h3 j v hj;unfold World.cell? at this ⊢;rw [hw'];exact this
    simp only [Builtin.firstCells];rw [←h2];exact this
   ·cases h
  ·obtain ⟨a,c,rfl⟩:=ZcD hx;cases h;refine ⟨#[],⟨rfl,fun w' hw'=>?_⟩,trivial⟩;have:=run_loadCells_list (P:=P) w' a [] fun j v hj=>by simp at hj
   simp only [Builtin.firstCells,Nat.zero_mul];exact this
  ·rename_i s;obtain rfl:=vrel_string.1 hx;split at h
   ·rename_i h1;have h1:=zK h1;cases h;refine ⟨(s.extract 0 s.size).data.map fun b=>.int .u8 b.toNat,⟨rfl,fun _ _=>rfl⟩,?_⟩;have:(s.extract 0 s.size).data=s.data:=by simp
    rw [this,Array.toList_map];exact ZkD _
   ·cases h
  ·cases h
theorem Zd5 {size n c:Nat} {base:Option Addr} {old:List Value} {s':Value} (h:Zd8 σ size n base=some old) (hR:R G ρ σ w) (hs:VRel ρ (.slice base n c) s') :
  ∃old':Array Value,LRel (VRel ρ) old old'.toList∧∀w':World,w'.heap=w.heap→(Builtin.firstCells size n s').run P w'=.ok old' w':=by
 cases base with
 | none=>
  obtain rfl:=vrel_slice_none.1 hs;cases h;exact ⟨#[],trivial,fun _ _=>rfl⟩
 | some y=>
  have h:Zcx σ y (n*size)=some old:=h;rcases vrel_slice.1 hs with ⟨b,c',hb,hsp,hc,rfl⟩|⟨hsp,rfl,rfl,rfl⟩
  rotate_left
  ·obtain ⟨-,rfl⟩:=Zd2 hsp h;refine ⟨#[],trivial,fun w' hw'=>?_⟩;have:=run_loadCells_list (P:=P) w' (litA y) [] fun j v hj=>by simp at hj
   simp only [Builtin.firstCells,Nat.zero_mul];exact this
  rw [ZdJ hsp] at h;obtain ⟨ds,h1,h2,h3⟩:=ZcM h hR hb;refine ⟨ds.toArray,h1,fun w' hw'=>?_⟩;have:=run_loadCells_list (P:=P) w' ⟨b,y.off,none⟩ ds fun j v hj=>by
   rw [ZbP];have:=h3 j v hj;unfold World.cell? at this ⊢;rw [hw'];exact this
  simp only [Builtin.firstCells];rw [←h2];exact this
theorem Ziw {elem:TypeId} {inf:TypeInfo} {z:Value} {sLen n nc:Nat} {old new:List Value} {old' new':Array Value} (hR:R G ρ σ w) (hzs:z.cells.size=inf.size) (hsz:0<inf.size)
  (ho:LRel (VRel ρ) old old'.toList) (hn:LRel (VRel ρ) new new'.toList) (hol:old.length=sLen*inf.size) (hnl:new.length=n*inf.size) (hnc:sLen+n≤nc) :
  ∃τ,Sim G ρ σ w τ (σ.new ⟨2,elem,inf.size,old++new,[]⟩) (w.drew.alloc (.cells (old'++new'++Builtin.zeroCells z.cells (nc-(sLen+n))) elem))∧
   VRel τ (.slice (some ⟨σ.next,0,none⟩) (sLen+n) (Zax+(sLen+n))) (.slice (some ⟨w.heap.size,0,none⟩) (sLen+n) nc):=by
 have hsize:(old'++new'++Builtin.zeroCells z.cells (nc-(sLen+n))).size=nc*inf.size:=by
  rw [Array.size_append,Array.size_append,Zh7,←Array.length_toList (xs:=old'),←Array.length_toList (xs:=new'),←ho.length,←hn.length,hol,hnl,hzs,←Nat.add_mul,←Nat.add_mul]
  congr 1;omega
 refine ⟨ρ.add σ.next w.heap.size (nc*inf.size,inf.size),?_,?_⟩
 ·refine Sim.of_heap0 (w:=w) (w0:=w.drew) rfl ⟨rfl,rfl⟩ (Sim.alloc (w:=w.drew) (R.of_heap (w:=w) (w':=w.drew) rfl hR) (nc*inf.size,inf.size) ?_);have hle:ρ.le (ρ.add σ.next w.drew.heap.size (nc*inf.size,inf.size)):=Ren.le_add hR.fresh;refine ⟨_,(0,0),old'.toList++new'.toList,(Builtin.zeroCells z.cells (nc-(sLen+n))).toList,rfl,.inl rfl,by simp,?_,?_⟩
  ·exact (ho.append hn).mono fun _ _ h=>h.ext hle
  ·rw [hsize];simp [Ren.add]
 ·refine Za2 ⟨_,nc,by simp [Ren.add],rfl,?_,rfl⟩
  unfold CapRel;rw [if_neg (by omega)]
  refine ⟨by omega,?_,?_⟩
  ·simp [Ren.add,hsz]
  ·simp [Ren.add]
theorem ZjB {at_:Array TypeId} {ty:TypeId} {s s' x x' v:Value} (h:ZaU P σ at_ s x=some (v,σ')) (hR:R G ρ σ w) (hs:VRel ρ s s') (hx:VRel ρ x x') :
  ∃v' τ w',(Builtin.append_ at_ ty #[s',x']).run P w=.ok v' w'∧VRel τ v v'∧Sim G ρ σ w τ σ' w':=by
 unfold ZaU at h;split at h
 ·rename_i st xt base sLen sCap h0 h1;split at h
  ·rename_i elem xd hst hxt;split at h
   ·rename_i inf hi;split at h
    ·rename_i z hz;split at h
     ·cases h
     ·rename_i hchk;simp only [Bool.or_eq_true,not_or,Bool.not_eq_true',Bool.not_eq_false,Nat.beq_eq] at hchk;obtain ⟨⟨hc1,hc2⟩,hc3⟩:=hchk;have hsz:0<inf.size:=by
       rcases Nat.eq_zero_or_pos inf.size with e|e
       ·rw [e] at hc1;simp at hc1
       ·exact e
      have hzs:z.cells.size=inf.size:=hc2;split at h
      ·rename_i n new hsrc;obtain ⟨new',hS,hnr⟩:=Zjs (P:=P) (zeros:=ZoI xd) hsrc hR hx (fun z' hz'=>by rw [hz] at hz';cases hz';exact hzs)
       dsimp only at h;split at h
       ·cases h
       ·rename_i hchk;simp only [Bool.or_eq_true,not_or,Bool.not_eq_true',Bool.not_eq_false,Nat.beq_eq,Nat.ble_eq] at hchk;obtain ⟨⟨hb,hsmall⟩,hnl⟩:=hchk;split at h
        ·
         rename_i hop;have hop:Zax≤sCap:=by simpa [Zc6,Nat.ble_eq] using hop
         have hlb:ZdX sCap=sCap-Zax:=by unfold ZdX;rw [if_neg (by simp [Nat.blt_eq];omega)]
         split at h
         ·rename_i y;rcases vrel_slice.1 hs with ⟨b,c',hbl,hsp,hcr,rfl⟩|⟨_,_,hc0,_⟩
          rotate_left
          ·rw [hc0] at hop;exact absurd hop (by decide)
          split at h
          ·cases h
          ·rename_i hk;simp only [Bool.not_eq_true',Bool.not_eq_false,Bool.and_eq_true,Nat.beq_eq] at hk;obtain ⟨hk2,hesz⟩:=hk;unfold CapRel at hcr;rw [if_neg (by omega)] at hcr
           obtain ⟨hcr1,hcr2,hcr3⟩:=hcr;have hcr':CapRel (ρ.sz y.block) y.off sCap c':=by
            unfold CapRel;rw [if_neg (by omega)];exact ⟨hcr1,hcr2,hcr3⟩
           split at h
           ·rename_i hneed;have hneed:sLen+n≤ZdX sCap:=by simpa [Nat.ble_eq] using hneed
            split at h
            ·rename_i σ1 hw;cases h;obtain ⟨w',hrun,hsim⟩:=ZcL (P:=P) hw hR hbl hnr;refine ⟨.slice (some ⟨b,y.off,none⟩) (sLen+n) c',ρ,w',?_,Za2 ⟨b,c',hbl,hsp,hcr',rfl⟩,hsim⟩;rw [Zb0 h0 h1 hst hxt hi hS hb (by omega)]
             simp only [ZbP,hrun,Result.andThen_ok]
            ·cases h
           ·split at h
            ·rename_i hneed hcond;simp only [Bool.and_eq_true,Nat.beq_eq,Nat.ble_eq] at hcond;obtain ⟨⟨⟨hoff,hfr⟩,hel⟩,hone⟩:=hcond;have hkz:(σ.get y.block).kind≠0:=by omega
             obtain ⟨c,fr,pre,post,hwb,hfro,hcl,hpr,_,hszi⟩:=Zg4 hR hbl (isCells_iff.2 (.inr hk2));have hszi:=hszi hk2;have hcsz:c.size=c'*inf.size:=by
              rw [hszi] at hcr3;simp only at hcr3;rw [hoff,hesz] at hcr3;omega
             by_cases hroom:sLen+n≤c'
             ·cases h;have hlen:0+sLen*inf.size+new'.toList.length≤c.size:=by
               rw [←hnr.length,hnl,hcsz,Nat.zero_add,←Nat.add_mul];exact Nat.mul_le_mul_right _ hroom
              obtain ⟨w',hrun,hheap,hout⟩:=Zdn P (e:=(σ.get y.block).elem) (b:=b) (off:=sLen*inf.size) new'.toList 0 c w hwb hfro (by omega) (Zjq hnr hone)
              refine ⟨.slice (some ⟨b,y.off,none⟩) (sLen+n) c',ρ.add σ.next b (ρ.sz y.block),w',?_,?_,?_⟩
              ·rw [Zb0 h0 h1 hst hxt hi hS hb hroom];simp only [ZbP,hoff,Nat.zero_add,hrun,Result.andThen_ok]
              ·rw [hoff];refine Za2 ⟨b,c',by simp [Ren.add],rfl,?_,rfl⟩
               unfold CapRel;rw [if_neg (by omega)]
               refine ⟨by omega,by simpa [Ren.add] using hcr2,?_⟩
               rw [hoff] at hcr3;simpa [Ren.add] using hcr3
              ·refine Sim.move hR hbl hkz hheap hout ?_;have hsp2:Za3 c.toList (sLen*inf.size+0) new'.toList=(pre.take (sLen*inf.size)++new'.toList)++c.toList.drop (sLen*inf.size+new'.toList.length):=by
                rw [Nat.add_zero,ZcX _ _ _ (by simp;simp at hlen;omega),hcl,List.take_append_of_le_length (by rw [←hpr.length];exact hfr)]
               refine ⟨_,fr,_,_,by rw [hel],?_,hsp2,?_,?_⟩
               ·rcases hfro with hf|hf
                ·exact .inl hf
                ·refine .inr ?_;simp only [List.size_toArray,ZbU,Array.length_toList];exact hf
               ·exact ((hpr.take _).append hnr).mono fun _ _ h=>h.ext (Ren.le_add hR.fresh)
               ·simp [Ren.add,hszi,ZbU,hesz]
             ·cases h;have hold:Zd8 σ inf.size sLen (some y)=some ((σ.get y.block).vals.take (sLen*inf.size)):=by
               simp only [Zd8,ZdJ hsp,Zav,ZaJ,isCells_iff.2 (.inr hk2),hoff,Nat.zero_add,Bool.true_and,Nat.ble_eq,hfr,if_true,List.drop_zero]
              obtain ⟨old',hor,hofn⟩:=Zd5 (P:=P) hold hR hs;have hgr:=Zeg (ty:=ty) h0 h1 hst hxt hi hz hsz hS hb hsmall hroom hofn;have hk:=Sim.kill hR hbl hkz;obtain ⟨τ,hsim,hv⟩:=Ziw (elem:=elem) (nc:=ZeI w (sLen+n) c' elem) hk.rel hzs hsz hor hnr (by rw [zX,Nat.min_eq_left hfr]) hnl (Zhq _ _ _ _)
              exact ⟨_,τ,_,hgr,hv,hk.trans hsim⟩
            ·cases h
         ·cases h
        ·
         rename_i hop;have hop:sCap<Zax:=by simpa [Zc6,Nat.ble_eq] using hop
         split at h
         ·rename_i hneed;have hneed:sLen+n≤sCap:=by simpa [Nat.ble_eq] using hneed
          split at h
          ·rename_i y;rcases vrel_slice.1 hs with ⟨b,c',hbl,hsp,hcr,rfl⟩|⟨hsp,rfl,rfl,rfl⟩
           rotate_left
           ·split at h
            ·rename_i σ1 hw;cases h;obtain ⟨hnil,rfl⟩:=ZhY (by exact hsp) hw
             have hn0:n=0:=by omega
             subst hn0;have hnew0:new'.toList=[]:=by
              rw [hnil] at hnr;cases hq:new'.toList with
              | nil=>rfl
              | cons a l=>rw [hq] at hnr;exact hnr.elim
             refine ⟨.slice (some (litA y)) (0+0) 0,ρ,w,?_,vrel_slice.2 (.inr ⟨hsp,rfl,rfl,rfl⟩),Sim.refl hR⟩;rw [Zb0 h0 h1 hst hxt hi hS hb (by omega)]
             simp only [hnew0];rfl
            ·cases h
           have hcc:c'=sCap:=by unfold CapRel at hcr;rw [if_pos hop] at hcr;exact hcr
           rw [ZiJ (by exact hsp)] at h
           split at h
           ·rename_i σ1 hw;cases h;obtain ⟨w',hrun,hsim⟩:=ZcL (P:=P) hw hR hbl hnr;refine ⟨.slice (some ⟨b,y.off,none⟩) (sLen+n) c',ρ,w',?_,Za2 ⟨b,c',hbl,hsp,hcr,rfl⟩,hsim⟩;rw [Zb0 h0 h1 hst hxt hi hS hb (by omega)]
            simp only [ZbP,hrun,Result.andThen_ok]
           ·cases h
          ·obtain rfl:=vrel_slice_none.1 hs;split at h
           ·cases h;refine ⟨.slice none (sLen+n) sCap,ρ,w,?_,vrel_slice_none.2 rfl,Sim.refl hR⟩;rw [Zb0 h0 h1 hst hxt hi hS hb hneed]
           ·cases h
         ·rename_i hneed;have hneed:¬sLen+n≤sCap:=by simpa [Nat.ble_eq] using hneed
          split at h
          ·rename_i old hold;split at h
           ·rename_i hol;have hol:old.length=sLen*inf.size:=zK hol;cases h;obtain ⟨old',hor,hofn⟩:=Zd5 (P:=P) hold hR hs;have hcap:∃base',s'=.slice base' sLen sCap:=by
             cases base with
             | none=>exact ⟨_,vrel_slice_none.1 hs⟩
             | some y=>
              obtain ⟨a',c',rfl,hcc⟩:=Za1 hs;exact ⟨_,by rw [hcc hop]⟩
            obtain ⟨base',rfl⟩:=hcap;have hgr:=Zeg (ty:=ty) h0 h1 hst hxt hi hz hsz hS hb hsmall hneed hofn;obtain ⟨τ,hsim,hv⟩:=Ziw (elem:=elem) (nc:=ZeI w (sLen+n) sCap elem) hR hzs hsz hor hnr hol hnl (Zhq _ _ _ _);exact ⟨_,τ,_,hgr,hv,hsim⟩
           ·cases h
          ·cases h
      ·cases h
    ·cases h
   ·cases h
  ·cases h
 ·cases h
end ops
section ops
variable {P:Program} {G:Nat} {ρ:Ren} {σ σ':AS} {w:World} {r:Regs} {a:Act}
theorem ZgA:∀(cs ds:List Value) (off j:Nat) (c d:Array Value),LRel (VRel ρ) cs ds→LRel (VRel ρ) c.toList d.toList→
  LRel (VRel ρ) ((cs.zipIdx j).foldl (fun cs (x,j)=>cs.setIfInBounds (off+j) x) c).toList ((ds.zipIdx j).foldl (fun cs (x,j)=>cs.setIfInBounds (off+j) x) d).toList
 | [],[],_,_,_,_,_,h=>h
 | x::cs,y::ds,off,j,c,d,h,hc=>by
  simp only [List.zipIdx_cons,List.foldl_cons];refine ZgA cs ds off (j+1) _ _ h.2 ?_;simp only [Array.toList_setIfInBounds];exact hc.set _ h.1
 | [],_::_,_,_,_,_,h,_=>h.elim
 | _::_,[],_,_,_,_,h,_=>h.elim
theorem ZeT (off:Nat) (a c:Array Value) :
  a.zipIdx.foldl (fun cs (x,j)=>cs.setIfInBounds (off+j) x) c=(a.toList.zipIdx).foldl (fun cs (x,j)=>cs.setIfInBounds (off+j) x) c:=by
 rw [←Array.foldl_toList,Array.toList_zipIdx]
theorem Zg3 {place:Nat→Option (Nat×Nat)}:∀{ps qs:List (Nat×Value)} {c d:Array Value} {c':Array Value},
  Instr.fill place c ps=some c'→LRel (fun p q=>p.1=q.1∧VRel ρ p.2 q.2) ps qs→LRel (VRel ρ) c.toList d.toList→
  ∃d',Instr.fill place d qs=some d'∧LRel (VRel ρ) c'.toList d'.toList
 | [],[],c,d,c',h,_,hc=>by cases h;exact ⟨d,rfl,hc⟩
 | (i,v)::ps,(k,u)::qs,c,d,c',h,hp,hc=>by
  obtain ⟨⟨hik,hv⟩,hp⟩:=hp;dsimp only at hik hv;subst hik;simp only [Instr.fill] at h ⊢;split at h
  ·cases h
  ·rename_i off size hpl;have hcs:=hv.cells;have hsz:u.cells.size=v.cells.size:=by rw [←Array.length_toList,←Array.length_toList,hcs.length]
   have hds:d.size=c.size:=by rw [←Array.length_toList,←Array.length_toList,hc.length]
   rw [hsz,hds];split at h
   ·cases h
   ·rename_i hn;rw [if_neg hn];refine Zg3 h hp ?_;rw [ZeT,ZeT];exact ZgA _ _ _ _ _ _ hcs hc
 | [],_::_,_,_,_,_,h,_=>h.elim
 | _::_,[],_,_,_,_,h,_=>h.elim
theorem ZhA (P:Program) (w:World):∀(fs:List Field) (places:List (Nat×Nat)),fs.mapM (fun f=>(P.info? f.type).map fun i=>(f.offset,i.size))=some places→
  (fs.mapM fun f=>(do pure (f.offset,←sizeOf f.type):Sem (Nat×Nat))).run P w=.ok places w
 | [],_,h=>by cases h;rfl
 | f::fs,places,h=>by
  rw [List.mapM_cons] at h ⊢;cases hi:P.info? f.type with
  | none=>rw [hi] at h;cases h
  | some i=>
   rw [hi] at h;cases hr:fs.mapM (fun f=>(P.info? f.type).map fun i=>(f.offset,i.size)) with
   | none=>rw [hr] at h;cases h
   | some ps=>
    rw [hr] at h;cases h;have ih:=ZhA P w fs ps hr;simp only [Sem.run_bind,ZaX hi,Result.andThen_ok,Sem.run_pure,ih]
theorem ZgN {t:TypeId} {ps:List (Nat×Value)} {qs:Array (Nat×Value)} {v:Value} (h:Zdb P t ps=some v) (hp:LRel (fun p q=>p.1=q.1∧VRel ρ p.2 q.2) ps qs.toList) :
  ∃v',(Instr.build t qs).run P w=.ok v' w∧VRel ρ v v':=by
 unfold Zdb at h;split at h
 ·rename_i inf hi;split at h
  ·rename_i z hz;split at h
   ·rename_i hf;split at h
    ·rename_i fields hd;split at h
     ·rename_i places hpl;split at h
      ·rename_i cells hfill;cases h;obtain ⟨d',h1,h2⟩:=Zg3 hfill hp (Zdw (ρ:=ρ) hf);have hm:(fields.mapM fun f=>(do pure (f.offset,←sizeOf f.type):Sem (Nat×Nat))).run P w=.ok places.toArray w:=by
        rw [Array.mapM_eq_mapM_toList,Sem.run_map,ZhA P w _ _ hpl];rfl
       refine ⟨.agg d',?_,vrel_agg.2 ⟨d'.toList,h2,by simp⟩⟩
       simp only [Instr.build,Sem.run_bind,Za0 hi hz,Result.andThen_ok,Zai hd];rw [hm];simp only [Result.andThen_ok,h1,Sem.run_pure]
      ·cases h
     ·cases h
    ·rename_i len elem hd;split at h
     ·rename_i i hie;split at h
      ·rename_i cells hfill;cases h;obtain ⟨d',h1,h2⟩:=Zg3 hfill hp (Zdw (ρ:=ρ) hf);refine ⟨.agg d',?_,vrel_agg.2 ⟨d'.toList,h2,by simp⟩⟩
       simp only [Instr.build,Sem.run_bind,Za0 hi hz,Result.andThen_ok,Zai hd,ZaX hie,h1,Sem.run_pure]
      ·cases h
     ·cases h
    ·cases h
   ·cases h
  ·cases h
 ·cases h
theorem Zgt {t:TypeId} {len:Nat} {ps:List (Nat×Value)} {qs:Array (Nat×Value)} {v:Value} (h:Zaz P σ t len ps=some (v,σ')) (hR:R G ρ σ w)
  (hp:LRel (fun p q=>p.1=q.1∧VRel ρ p.2 q.2) ps qs.toList):∃v' τ w',(Instr.buildSlice t len qs).run P w=.ok v' w'∧VRel τ v v'∧Sim G ρ σ w τ σ' w':=by
 unfold Zaz at h;split at h
 ·rename_i elem hd;split at h
  ·rename_i inf hi;split at h
   ·rename_i hc;simp only [Bool.and_eq_true,Nat.ble_eq,Nat.blt_eq] at hc;obtain ⟨hc1,hc2⟩:=hc;have hlim:¬(len*inf.size>2^24):=by omega
    have fin:∀zero:Array Value,LRel (VRel ρ) zero.toList zero.toList→((len*inf.size=0∧zero=#[])∨(len*inf.size≠0∧0<zero.size∧∃z,inf.zero=some z∧zero=z.cells))→
      (match Instr.fill (fun i=>some (i*inf.size,inf.size)) ((Array.range (len*inf.size)).map (zero[· % zero.size]!)) ps with
       | some cells=>some (Value.slice (some ⟨σ.next,0,none⟩) len len,aRow σ elem cells.toList)
       | none=>none)=some (v,σ')→∃v' τ w',(Instr.buildSlice t len qs).run P w=.ok v' w'∧VRel τ v v'∧Sim G ρ σ w τ σ' w':=by
     intro zero hz0 hz1 h;split at h
     ·rename_i cells hfill;cases h;obtain ⟨d',h1,h2⟩:=Zg3 hfill hp (Zel hz0 (fun hh=>hz1.elim (fun h=>absurd h.1 hh) (fun h=>h.2.1)));obtain ⟨τ,hn,hsim,hb⟩:=ZcI (P:=P) (elem:=elem) hR h2;refine ⟨.slice (some ⟨w.heap.size,0,none⟩) len len,τ,_,?_,Za2 ⟨_,len,hb,rfl,by unfold CapRel;rw [if_pos hc2],rfl⟩,hsim⟩
      unfold Instr.buildSlice;rw [Sem.run_bind,Zai hd,Result.andThen_ok];simp only [];rw [Sem.run_bind,ZaX hi,Result.andThen_ok,Sem.run_ite,if_neg hlim,Sem.run_ite];rcases hz1 with ⟨h0,rfl⟩|⟨h0,_,z,hz,rfl⟩
      ·rw [if_pos h0,Sem.run_bind,Sem.run_pure,Result.andThen_ok];simp only [h1];rw [Sem.run_bind,hn,Result.andThen_ok];rfl
      ·rw [if_neg h0,Sem.run_bind,Za0 hi hz,Result.andThen_ok,Sem.run_bind,Sem.run_pure,Result.andThen_ok];simp only [h1];rw [Sem.run_bind,hn,Result.andThen_ok];rfl
     ·cases h
    split at h
    ·rename_i zero hzero;split at hzero
     ·rename_i h0;have h0:len*inf.size=0:=zK h0;cases hzero;exact fin #[] trivial (.inl ⟨h0,rfl⟩) h
     ·rename_i h0;have h0:¬len*inf.size=0:=fun e=>h0 (by rw [e];rfl)
      split at hzero
      ·rename_i z hz;split at hzero
       ·rename_i hf;simp only [Bool.and_eq_true,Nat.blt_eq] at hf;cases hzero;exact fin z.cells (Zdw hf.1) (.inr ⟨h0,hf.2,z,hz,rfl⟩) h
       ·cases hzero
      ·cases hzero
    ·cases h
   ·cases h
  ·cases h
 ·cases h
theorem ZgP {t:TypeId} {l l' c c' v:Value} (h:ZbM P σ t l c=some (v,σ')) (hR:R G ρ σ w) (hl:VRel ρ l l') (hc:VRel ρ c c') :
  ∃v' τ w',(Instr.makeSlice t l' c').run P w=.ok v' w'∧VRel τ v v'∧Sim G ρ σ w τ σ' w':=by
 unfold ZbM at h;split at h
 ·rename_i elem k1 l k2 c hd;obtain rfl:=vrel_int.1 hl;obtain rfl:=vrel_int.1 hc;split at h
  ·rename_i inf hi;split at h
   ·rename_i z hz;split at h
    ·rename_i hcond;obtain ⟨c1,c2,c3,c4,c5,c6⟩:=hcond;cases h;obtain ⟨n,rfl⟩:=Int.eq_ofNat_of_zero_le c1;obtain ⟨m,rfl⟩:=Int.eq_ofNat_of_zero_le (show 0≤c from by omega)
     have hwn:=ZeD (n:=n) (by omega)
     have hwm:=ZeD (n:=m) (by omega)
     simp only [zW];have hmb:m<Zax:=by unfold Zax;omega
     have hcells:=Zel (ρ:=ρ) (z:=z.cells) (n:=m*inf.size) (Zdw c5) (fun _=>c6);obtain ⟨τ,hn,hsim,hb⟩:=ZcI (P:=P) (elem:=elem) hR hcells;refine ⟨.slice (some ⟨w.heap.size,0,none⟩) n m,τ,_,?_,Za2 ⟨_,m,hb,rfl,by unfold CapRel;rw [if_pos hmb],rfl⟩,hsim⟩
     have hbad:¬((decide ((m:Int)<0)||decide ((inf.bytes:Int)*(m:Int)>2^48))||decide ((n:Int)<0)||decide ((n:Int)>(m:Int)))=true:=by
      simp only [Bool.or_eq_true,decide_eq_true_eq];omega
     unfold Instr.makeSlice;rw [Sem.run_bind,Zai hd,Result.andThen_ok];simp only [];rw [Sem.run_bind,show (asInt (.int k1 (n:Int))).run P w=.ok (n:Int) w from rfl,Result.andThen_ok,Sem.run_bind,show (asInt (.int k2 (m:Int))).run P w=.ok (m:Int) w from rfl,Result.andThen_ok,
      Sem.run_bind,Za9 hi,Result.andThen_ok]
     simp only [hwn,hwm];rw [Sem.run_ite,if_neg hbad,Sem.run_bind,run_askRoom,Result.andThen_ok,Sem.run_bind,ZaX hi,Result.andThen_ok];simp only [zW];rw [Sem.run_ite];by_cases h0:m*inf.size=0
     ·rw [if_pos h0,Sem.run_bind,Sem.run_pure,Result.andThen_ok];have e:∀zz:Array Value,(Array.range (m*inf.size)).map (zz[· % zz.size]!)=#[]:=fun zz=>by rw [h0];simp
      rw [e z.cells] at hn;rw [e #[],e z.cells,Sem.run_bind,hn,Result.andThen_ok];rfl
     ·rw [if_neg h0,Sem.run_bind,Za0 hi hz,Result.andThen_ok,Sem.run_bind,Sem.run_pure,Result.andThen_ok,Sem.run_bind,hn,Result.andThen_ok];rfl
    ·cases h
   ·cases h
  ·cases h
 ·cases h
theorem ZkT {at_:Array TypeId} {ty:TypeId} {d d' s s' v:Value} (h:ZgK P σ at_ d s=some (v,σ')) (hR:R G ρ σ w) (hd:VRel ρ d d') (hs:VRel ρ s s') :
  ∃v' w',(Builtin.copy_ at_ ty #[d',s']).run P w=.ok v' w'∧VRel ρ v v'∧Sim G ρ σ w ρ σ' w':=by
 unfold ZgK at h;split at h
 ·rename_i dt base dLen dc h0;split at h
  ·rename_i elem hdt;split at h
   ·rename_i inf hi;split at h
    ·rename_i m hm;dsimp only at h;split at h
     ·rename_i cs hcs;have hlen:(Builtin.lenOf s').run P w=.ok m w:=by
       refine Zoz ?_ hs;split at hm
       ·cases hm;rfl
       ·split at hm
        ·cases hm;rfl
        ·cases hm
       ·cases hm
      have hnew:∃new':Array Value,LRel (VRel ρ) cs new'.toList∧(Builtin.firstCells inf.size (Nat.min m dLen) s').run P w=.ok new' w:=by
       split at hcs
       ·obtain rfl:=vrel_slice_none.1 hs;cases hcs;exact ⟨#[],trivial,rfl⟩
       ·rcases vrel_slice.1 hs with ⟨b,c',hb,hsp,hc,rfl⟩|⟨hsp,_,_,rfl⟩
        ·rw [ZdJ hsp] at hcs;obtain ⟨ds,h1,h2⟩:=Zc4 (P:=P) hcs hR hb;exact ⟨ds.toArray,h1,h2⟩
        ·obtain ⟨h0,rfl⟩:=Zd2 hsp hcs;refine ⟨#[],trivial,?_⟩;simp only [Builtin.firstCells,h0];exact run_loadCells_list (P:=P) w _ [] fun j v hj=>by simp at hj
       ·obtain rfl:=vrel_string.1 hs;cases hcs;refine ⟨_,?_,rfl⟩;rw [Array.toList_map];exact ZkD _
       ·cases hcs
      obtain ⟨new',hn1,hn2⟩:=hnew;split at h
      ·rename_i y;rcases vrel_slice.1 hd with ⟨b,c',hb,hsp,hc,rfl⟩|⟨hsp,rfl,rfl,rfl⟩
       rotate_left
       ·split at h
        ·rename_i σ1 hw;cases h;obtain ⟨hnil,rfl⟩:=ZhY hsp hw;have hnew0:new'.toList=[]:=by
          rw [hnil] at hn1;cases hq:new'.toList with
          | nil=>rfl
          | cons a l=>rw [hq] at hn1;exact hn1.elim
         have hrun:(storeCells (litA y) new'.toList).run P w=.ok () w:=by rw [hnew0];rfl
         refine ⟨goInt (Nat.min m 0:Nat),w,?_,vrel_int.2 rfl,Sim.refl hR⟩;unfold Builtin.copy_;simp only [h0,List.getElem?_toArray,List.getElem?_cons_zero,List.getElem?_cons_succ];rw [Sem.run_bind,Zai hdt,Result.andThen_ok];simp only [];rw [Sem.run_bind,hlen,Result.andThen_ok,Sem.run_bind,ZaX hi,Result.andThen_ok,Sem.run_bind,hn2,Result.andThen_ok,Sem.run_bind,hrun];rfl
        ·cases h
       rw [ZiJ hsp] at h;split at h
       ·rename_i σ1 hw;cases h;obtain ⟨w',hrun,hsim⟩:=ZcL (P:=P) hw hR hb hn1;refine ⟨goInt (Nat.min m dLen:Nat),w',?_,vrel_int.2 rfl,hsim⟩;unfold Builtin.copy_;simp only [h0,List.getElem?_toArray,List.getElem?_cons_zero,List.getElem?_cons_succ];rw [Sem.run_bind,Zai hdt,Result.andThen_ok];simp only [];rw [Sem.run_bind,hlen,Result.andThen_ok,Sem.run_bind,ZaX hi,Result.andThen_ok,Sem.run_bind,hn2,Result.andThen_ok,Sem.run_bind,hrun];rfl
       ·cases h
      ·obtain rfl:=vrel_slice_none.1 hd;cases h;refine ⟨goInt (Nat.min m dLen:Nat),w,?_,vrel_int.2 rfl,Sim.refl hR⟩;unfold Builtin.copy_;simp only [h0,List.getElem?_toArray,List.getElem?_cons_zero,List.getElem?_cons_succ];rw [Sem.run_bind,Zai hdt,Result.andThen_ok];simp only [];rw [Sem.run_bind,hlen,Result.andThen_ok,Sem.run_bind,ZaX hi,Result.andThen_ok,Sem.run_bind,hn2,Result.andThen_ok];rfl
     ·cases h
    ·cases h
   ·cases h
  ·cases h
 ·cases h
theorem Zfu {v v':Value} (h:Zhd v=true) (hr:VRel ρ v v'):∃a l c,v'=.slice a l c∧(ZoH v=true→l=0):=by
 cases v<;>try (cases h;done)
 case slice a l c=>
  cases a with
  | none=>obtain rfl:=vrel_slice_none.1 hr;exact ⟨_,_,_,rfl,fun h=>(nomatch h)⟩
  | some a=>
   rcases vrel_slice.1 hr with ⟨b,c',hb,hsp,hc,rfl⟩|⟨hsp,_,_,rfl⟩
   ·exact ⟨_,_,_,rfl,fun h=>(nomatch h)⟩
   ·exact ⟨_,_,_,rfl,fun h=>(nomatch h)⟩
 case chan r=>
  obtain ⟨a,c,rfl⟩:=ZcD hr;exact ⟨_,_,_,rfl,fun _=>rfl⟩
theorem Zl5 {at_:Array TypeId} {ty:TypeId} {d d' s s' v:Value} (h:ZkV P σ at_ d s=some (v,σ')) (hR:R G ρ σ w) (hd:VRel ρ d d') (hs:VRel ρ s s') :
  ∃v' w',(Builtin.copy_ at_ ty #[d',s']).run P w=.ok v' w'∧VRel ρ v v'∧Sim G ρ σ w ρ σ' w':=by
 unfold ZkV at h;split at h
 ·rename_i hc;simp only [Bool.and_eq_true,Bool.or_eq_true] at hc;obtain ⟨⟨hv,h1⟩,h2⟩:=hc;obtain ⟨a,l,c,rfl,hl⟩:=Zfu h1 hd;obtain ⟨a',l',c',rfl,hl'⟩:=Zfu h2 hs;split at h
  ·rename_i dt h0;split at h
   ·rename_i elem hdt;split at h
    ·rename_i inf hi;cases h;have hn:Nat.min l' l=0:=by
      rcases hv with hv|hv
      ·rw [hl hv];exact Nat.min_zero _
      ·rw [hl' hv];exact Nat.zero_min _
     have hnew:(Builtin.firstCells inf.size 0 (.slice a' l' c')).run P w=.ok #[] w:=by
      cases a' with
      | none=>rfl
      | some a'=>
       simp only [Builtin.firstCells,Nat.zero_mul];exact run_loadCells_list (P:=P) w _ [] fun j v hj=>by simp at hj
     refine ⟨goInt 0,w,?_,vrel_int.2 rfl,Sim.refl hR⟩;have hlen:(Builtin.lenOf (.slice a' l' c')).run P w=.ok l' w:=rfl;unfold Builtin.copy_;simp only [h0,List.getElem?_toArray,List.getElem?_cons_zero,List.getElem?_cons_succ];rw [Sem.run_bind,Zai hdt,Result.andThen_ok];simp only [];rw [Sem.run_bind,hlen,Result.andThen_ok,Sem.run_bind,ZaX hi,Result.andThen_ok,Sem.run_bind,hn,hnew,Result.andThen_ok];cases a with
     | none=>rfl
     | some a=>rfl
    ·cases h
   ·cases h
  ·cases h
 ·exact ZkT h hR hd hs
theorem ZnM {t:TypeId} {x x' v:Value} (h:aCap P t x=some v) (hx:VRel ρ x x') {at_:Array TypeId} (hat:at_[0]?=some t) (ty:TypeId) :
  ∃v',(Builtin.cap_ at_ ty #[x']).run P w=.ok v' w∧VRel ρ v v':=by
 unfold aCap at h;split at h
 ·rename_i e base n c hd;split at h
  ·rename_i hc;have hc:c<Zax:=by simpa [Nat.blt_eq] using hc
   cases h;cases base with
   | none=>
    obtain rfl:=vrel_slice_none.1 hx;exact ⟨goInt c,by simp [Builtin.cap_,hat,Zai hd],vrel_int.2 rfl⟩
   | some y=>
    obtain ⟨a',c',rfl,hcc⟩:=Za1 hx;obtain rfl:=hcc hc;exact ⟨goInt c',by simp [Builtin.cap_,hat,Zai hd],vrel_int.2 rfl⟩
  ·cases h
 ·rename_i n e hd;cases h;exact ⟨goInt n,by simp [Builtin.cap_,hat,Zai hd],vrel_int.2 rfl⟩
 ·cases h
theorem ZcZ {o:Option Value} {v:Value} (h:Zib o=some v):o=some v∧flat v=true:=by
 cases o with
 | none=>cases h
 | some u=>
  simp only [Zib] at h;split at h
  ·rename_i hf;cases h;exact ⟨rfl,hf⟩
  ·cases h
theorem ZjN {d:TypeDesc} {t:TypeId} {x x' y y':Value} {b:Bool} (hd:P.underlying t=some d) (h:ZiK d x y=some b) (hx:VRel ρ x x') (hy:VRel ρ y y') :
  (Op.equal t x' y').run P w=.ok b w∧(∀op xo yo,(eqGuard op t xo yo x' y').run P w=.ok () w)∧
   (binOp .eql t x' y'=(do pure (.bool (←Op.equal t x' y'))))∧(binOp .neq t x' y'=(do pure (.bool (!(←Op.equal t x' y'))))):=by
 have key:(Op.equal t x' y')=Op.equalIn (9999+1) t x' y':=rfl;rw [key,Op.equalIn.eq_2,Sem.run_bind,Zai hd,Result.andThen_ok];unfold ZiK at h;split at h
 ·cases h;obtain ⟨_,_,rfl,_⟩:=Za1 hx;obtain rfl:=vrel_slice_none.1 hy;exact ⟨rfl,fun op xo yo=>by cases op<;>rfl,rfl,rfl⟩
 ·cases h;obtain ⟨_,_,rfl,_⟩:=Za1 hy;obtain rfl:=vrel_slice_none.1 hx;exact ⟨rfl,fun op xo yo=>by cases op<;>rfl,rfl,rfl⟩
 ·cases h;obtain ⟨_,_,rfl⟩:=vrel_map.1 hx;obtain rfl:=vrel_map_none.1 hy;exact ⟨rfl,fun op xo yo=>by cases op<;>rfl,rfl,rfl⟩
 ·cases h;obtain ⟨_,_,rfl⟩:=vrel_map.1 hy;obtain rfl:=vrel_map_none.1 hx;exact ⟨rfl,fun op xo yo=>by cases op<;>rfl,rfl,rfl⟩
 ·cases h;obtain ⟨_,_,_,rfl⟩:=vrel_ptr.1 hx;obtain rfl:=vrel_ptr_none.1 hy;exact ⟨rfl,fun op xo yo=>by cases op<;>rfl,rfl,rfl⟩
 ·cases h;obtain ⟨_,_,_,rfl⟩:=vrel_ptr.1 hy;obtain rfl:=vrel_ptr_none.1 hx;exact ⟨rfl,fun op xo yo=>by cases op<;>rfl,rfl,rfl⟩
 ·cases h;obtain ⟨_,_,_,_,rfl⟩:=vrel_func.1 hx;obtain rfl:=vrel_nilFunc.1 hy;exact ⟨rfl,fun op xo yo=>by cases op<;>rfl,rfl,rfl⟩
 ·cases h;obtain ⟨_,_,_,_,rfl⟩:=vrel_func.1 hy;obtain rfl:=vrel_nilFunc.1 hx;exact ⟨rfl,fun op xo yo=>by cases op<;>rfl,rfl,rfl⟩
 ·cases h;obtain ⟨_,_,rfl⟩:=vrel_iface.1 hx;obtain rfl:=vrel_nilIface.1 hy;exact ⟨rfl,fun op xo yo=>by cases op<;>rfl,rfl,rfl⟩
 ·cases h;obtain ⟨_,_,rfl⟩:=vrel_iface.1 hy;obtain rfl:=vrel_nilIface.1 hx;exact ⟨rfl,fun op xo yo=>by cases op<;>rfl,rfl,rfl⟩
 ·cases h
theorem Zl2 {op:BinOp} {t:TypeId} {xo yo:Operand} {x x' y y' v:Value} (h:ZaB op x y=some v) (hx:VRel ρ x x') (hy:VRel ρ y y') :
  (do eqGuard op t xo yo x' y';binOp op t x' y':Sem Value).run P w=.ok v w∧VRel ρ v v:=by
 unfold ZaB at h;split at h
 ·rename_i k a k' b;obtain rfl:=vrel_int.1 hx;obtain rfl:=vrel_int.1 hy;split at h
  ·rename_i e;subst e;have hg:∀op,(eqGuard op t xo yo (.int k a) (.int k b)).run P w=.ok () w:=fun op=>by cases op<;>rfl
   rw [Sem.run_bind,hg,Result.andThen_ok];rw [Zam] at h;cases op<;>dsimp only at h<;>first | (cases h;done)|skip
   all_goals
    cases h
    first
     | exact ⟨by simp [binOp,Op.intArith],vrel_int.2 rfl⟩
     | exact ⟨by simp [binOp,Op.intCmp],vrel_bool.2 rfl⟩
  ·cases h
 ·cases h
theorem ZiP {op:BinOp} {t:TypeId} {xo yo:Operand} {x x' y y' v:Value} (h:aBin P op t xo yo x y=some v) (hx:VRel ρ x x') (hy:VRel ρ y y') :
  ∃v',(do eqGuard op t xo yo x' y';binOp op t x' y':Sem Value).run P w=.ok v' w∧VRel ρ v v':=by
 unfold aBin at h;split at h
 ·rename_i u hu;cases h;obtain ⟨h1,h2⟩:=Zl2 (P:=P) (w:=w) (t:=t) (xo:=xo) (yo:=yo) hu hx hy;exact ⟨v,h1,h2⟩
 unfold Zdm at h;split at h
 ·rename_i hf;simp only [Bool.and_eq_true] at hf;obtain rfl:=(ZaR hf.1).1 hx;obtain rfl:=(ZaR hf.2).1 hy;obtain ⟨h1,h2⟩:=ZcZ h;exact ⟨v,Zbz h1,(ZaR h2).2 rfl⟩
 ·split at h
  ·rename_i d hd _;cases hn:ZiK d x y with
   | none=>rw [hn] at h;cases h
   | some b=>
    rw [hn] at h;cases h;obtain ⟨h1,h2,h3,_⟩:=ZjN (P:=P) (w:=w) hd hn hx hy;exact ⟨.bool b,by rw [Sem.run_bind,h2,Result.andThen_ok,h3,Sem.run_bind,h1];rfl,vrel_bool.2 rfl⟩
  ·rename_i d hd _;cases hn:ZiK d x y with
   | none=>rw [hn] at h;cases h
   | some b=>
    rw [hn] at h;cases h;obtain ⟨h1,h2,_,h3⟩:=ZjN (P:=P) (w:=w) hd hn hx hy;exact ⟨.bool (!b),by rw [Sem.run_bind,h2,Result.andThen_ok,h3,Sem.run_bind,h1];rfl,vrel_bool.2 rfl⟩
  ·cases h
theorem Zf1 {f:Value→Value→Sem Value} {args args':List Value} {v:Value} (h:Zgq f P args=some v) (ha:LRel (VRel ρ) args args') :
  ∃x l,args'=x::l∧(l.foldlM f x).run P w=.ok v w∧VRel ρ v v:=by
 unfold Zgq at h;split at h
 ·rename_i hf;obtain rfl:=(ZcY hf).1 ha;split at h
  ·cases h
  ·rename_i x l;obtain ⟨h1,h2⟩:=ZcZ h;exact ⟨x,l,rfl,Zbz h1,(ZaR h2).2 rfl⟩
 ·cases h
theorem ZkW {t:TypeId} {x x':Value} (h:Ze4 P σ t x=some σ') (hR:R G ρ σ w) (hx:VRel ρ x x') {at_:Array TypeId} (hat:at_[0]?=some t) (ty:TypeId) :
  ∃w',(Builtin.clear_ at_ ty #[x']).run P w=.ok (.tuple #[]) w'∧Sim G ρ σ w ρ σ' w':=by
 unfold Ze4 at h;split at h
 ·rename_i e m c hd;obtain rfl:=vrel_slice_none.1 hx;cases h;refine ⟨w,?_,Sim.refl hR⟩;unfold Builtin.clear_;simp [hat,Zai hd]
 ·rename_i elem y m c hd;rcases vrel_slice.1 hx with ⟨b,c',hb,_,_,rfl⟩|⟨hsp,rfl,rfl,rfl⟩
  rotate_left
  ·rw [if_pos (show Nat.beq 0 0=true from rfl)] at h
   cases h;refine ⟨w,?_,Sim.refl hR⟩;unfold Builtin.clear_;simp [hat,Zai hd]
  split at h
  ·rename_i hm;obtain rfl:=zK hm;cases h;refine ⟨w,?_,Sim.refl hR⟩;unfold Builtin.clear_;simp [hat,Zai hd]
  ·rename_i hm;have hm:m≠0:=fun e=>hm (by rw [e];rfl)
   split at h
   ·rename_i inf hi;split at h
    ·rename_i z hz;split at h
     ·rename_i hf;obtain ⟨w',h1,h2⟩:=ZcL (P:=P) h hR hb (Zfq (ρ:=ρ) (n:=m) hf);refine ⟨w',?_,h2⟩;unfold Builtin.clear_;cases m with
      | zero=>exact absurd rfl hm
      | succ m=>
       simp only [hat,Array.getElem?_eq_getElem,List.size_toArray,List.length_cons,List.length_nil,Nat.zero_add,Nat.reduceLT,List.getElem_toArray,List.getElem_cons_zero];rw [Sem.run_bind,Zai hd,Result.andThen_ok];simp only [];rw [Sem.run_bind,Za0 hi hz,Result.andThen_ok,Sem.run_bind,h1,Result.andThen_ok];rfl
     ·cases h
    ·cases h
   ·cases h
 ·cases h
theorem Zie {b:Builtin} {at_:Array TypeId} {ty:TypeId} {consts:Array Bool} {args args':List Value} {v:Value} (h:Zaf P σ b at_ args=some (v,σ')) (hR:R G ρ σ w)
  (ha:LRel (VRel ρ) args args'):OpOk P G ρ σ w v σ' (builtin b at_ ty consts args'.toArray):=by
 unfold Zaf at h;split at h
 ·
  rename_i x
  match args',ha with
  | [x'],ha=>
   split at h
   ·rename_i t ht;split at h
    ·rename_i u hu;cases h;obtain ⟨v',h1,h2⟩:=ZnG hu hR ha.1 ht ty;exact .same hR h1 h2
    ·cases h
   ·cases h
 ·
  rename_i x
  match args',ha with
  | [x'],ha=>
   split at h
   ·rename_i t ht;split at h
    ·rename_i u hu;cases h;obtain ⟨v',h1,h2⟩:=ZnM (w:=w) hu ha.1 ht ty;exact .same hR h1 h2
    ·cases h
   ·cases h
 ·
  rename_i s x
  match args',ha with
  | [s',x'],ha=>
   obtain ⟨v',τ,w',h1,h2,h3⟩:=ZjB (ty:=ty) h hR ha.1 ha.2.1;exact .val h1 h2 h3
 ·
  rename_i d s
  match args',ha with
  | [d',s'],ha=>
   obtain ⟨v',w',h1,h2,h3⟩:=Zl5 (ty:=ty) h hR ha.1 ha.2.1;exact .val h1 h2 h3
 ·
  rename_i m k
  match args',ha with
  | [m',k'],ha=>
   split at h
   ·rename_i t ht;split at h
    ·rename_i σ1 hd;cases h;obtain ⟨w',h1,h2⟩:=Zjw hd hR ha.1 ha.2.1 ht ty;exact .val h1 (vrel_tuple.2 ⟨[],trivial,rfl⟩) h2
    ·cases h
   ·cases h
 ·
  rename_i x
  match args',ha with
  | [x'],ha=>
   split at h
   ·rename_i t ht;split at h
    ·rename_i σ1 hd;cases h;obtain ⟨w',h1,h2⟩:=ZkW hd hR ha.1 ht ty;exact .val h1 (vrel_tuple.2 ⟨[],trivial,rfl⟩) h2
    ·cases h
   ·cases h
 ·
  split at h
  ·rename_i u hu;cases h;obtain ⟨x,l,rfl,h1,h2⟩:=Zf1 (w:=w) hu ha;exact .same hR h1 h2
  ·cases h
 ·
  split at h
  ·rename_i u hu;cases h;obtain ⟨x,l,rfl,h1,h2⟩:=Zf1 (w:=w) hu ha;exact .same hR h1 h2
  ·cases h
 ·cases h
theorem ZhQ (f:Value→ByteArray→Sem (ForInStep ByteArray)) (hf:∀n s w,(f (.int .u8 n) s).run P w=.ok (.yield (s.push (UInt8.ofNat n.toNat))) w) :
  ∀(cs ds:List Value) (s s':ByteArray),bytesOf cs s=some s'→LRel (VRel ρ) cs ds→(forIn ds s f).run P w=.ok s' w
 | [],[],s,s',h,_=>by cases h;rfl
 | c::cs,e::ds,s,s',h,hl=>by
  cases c with
  | int k n=>
   cases k<;>first | (cases h;done)|skip
   obtain rfl:=vrel_int.1 hl.1;rw [List.forIn_cons,Sem.run_bind,hf,Result.andThen_ok];exact ZhQ f hf cs ds _ s' h hl.2
  | _=>cases h
 | [],_::_,_,_,_,h=>h.elim
 | _::_,[],_,_,_,h=>h.elim
theorem ZkY {x x' v:Value} (h:ZiO σ x=some v) (hR:R G ρ σ w) (hx:VRel ρ x x'):∃v',(Conv.bytesToString x').run P w=.ok v' w∧VRel ρ v v'∧∃b n c,x'=.slice (some b) n c:=by
 unfold ZiO at h;split at h
 ·rename_i y n c;split at h
  ·rename_i cs hcs;obtain ⟨a',c',ds,rfl,h1,h2⟩:∃a' c' ds,x'=.slice (some a') n c'∧LRel (VRel ρ) cs ds∧(loadCells a' n).run P w=.ok ds.toArray w:=by
    rcases vrel_slice.1 hx with ⟨b,c',hb,hsp,_,rfl⟩|⟨hsp,rfl,rfl,rfl⟩
    ·rw [ZdJ hsp] at hcs;obtain ⟨ds,h1,h2⟩:=Zc4 (P:=P) hcs hR hb;exact ⟨_,_,ds,rfl,h1,h2⟩
    ·obtain ⟨_,rfl⟩:=Zd2 hsp hcs;exact ⟨_,_,[],rfl,trivial,run_loadCells_list (P:=P) w (litA y) [] fun j v hj=>by simp at hj⟩
   split at h
   ·rename_i s hs;cases h;refine ⟨.string s,?_,vrel_string.2 rfl,_,_,_,rfl⟩;unfold Conv.bytesToString;dsimp only;rw [Sem.run_bind,h2,Result.andThen_ok,List.forIn_toArray,Sem.run_bind,ZhQ _ (fun n s w=>rfl) cs ds _ s hs h1,Result.andThen_ok];rfl
   ·cases h
  ·cases h
 ·cases h
theorem Zlp {s d:TypeId} {x:Value} (h:Zgg P s d=true) (hx:∃b n c,x=.slice (some b) n c):(convert s d x).run P w=(Conv.bytesToString x).run P w:=by
 obtain ⟨b,n,c,rfl⟩:=hx;unfold Zgg at h;split at h
 ·rename_i e hs hd;split at h
  ·rename_i he;unfold convert;rw [Sem.run_bind,Zai hs,Result.andThen_ok,Sem.run_bind,Zai hd,Result.andThen_ok];dsimp only;rw [Sem.run_bind,Zai he,Result.andThen_ok]
  ·cases h
 ·cases h
end ops
section ops
variable {P:Program} {G:Nat} {ρ:Ren} {σ σ':AS} {w:World} {r:Regs} {a:Act}
def OpRel (G:Nat) (ρ:Ren) (r:Regs) (a:Act) (xs:Array Operand):Prop:=∀x∈xs.toList,∀v,aev G r x=some v→VRel ρ v (a.eval x)
theorem OpRel.of_regs {xs:Array Operand} (hR:R G ρ σ w) (hr:RegsRel ρ r a.tmps):OpRel G ρ r a xs:=fun _ _ _ h=>Zez h hR hr
theorem ZcU:∀{l:List Operand} {vs:List Value},aevs G r l=some vs→(∀x∈l,∀v,aev G r x=some v→VRel ρ v (a.eval x))→LRel (VRel ρ) vs (l.map a.eval)
 | [],vs,h,_=>by cases h;trivial
 | x::l,vs,h,hr=>by
  simp only [aevs] at h;split at h
  ·cases h
  ·rename_i v hv;split at h
   ·cases h
   ·rename_i us hu;cases h;exact ⟨hr x (by simp) v hv,ZcU hu fun y hy=>hr y (by simp [hy])⟩
theorem ZeL:∀{l:List (Nat×Operand)} {vs:List (Nat×Value)},ZaN G r l=some vs→(∀x∈l,∀v,aev G r x.2=some v→VRel ρ v (a.eval x.2))→
  LRel (fun p q=>p.1=q.1∧VRel ρ p.2 q.2) vs (l.map fun x=>(x.1,a.eval x.2))
 | [],vs,h,_=>by cases h;trivial
 | x::l,vs,h,hr=>by
  simp only [ZaN] at h;split at h
  ·cases h
  ·rename_i v hv;split at h
   ·cases h
   ·rename_i us hu;cases h;exact ⟨⟨rfl,hr x (by simp) v hv⟩,ZeL hu fun y hy=>hr y (by simp [hy])⟩
theorem Zjn {x:Option Operand} {v:Option Value} (h:aopt G r x=some v) (hr:∀y,x=some y→∀v,aev G r y=some v→VRel ρ v (a.eval y)):ZeP ρ v (x.map a.eval):=by
 cases x with
 | none=>cases h;trivial
 | some x=>
  simp only [aopt] at h;split at h
  ·cases h
  ·rename_i u hu;cases h;exact hr x rfl u hu
theorem Zpl {o:Oper} {v:Value} (h:aOp P G r σ o.op=some (v,σ')) (hR:R G ρ σ w) (hr:OpRel G ρ r a o.op.operands):OpOk P G ρ σ w v σ' (execOp a.eval o):=by
 obtain ⟨dst,op,ty,pos,aft,guard⟩:=o;dsimp only at h hr;unfold OpRel at hr;cases op<;>try (cases h;done)
 case move x=>
  obtain ⟨hq,rfl⟩:=ZaT h;exact ⟨a.eval x,ρ,w,.inl rfl,hr x (by simp [Op.operands]) v hq,.refl hR⟩
 case assign x=>
  obtain ⟨hq,rfl⟩:=ZaT h;exact ⟨a.eval x,ρ,w,.inl rfl,hr x (by simp [Op.operands]) v hq,.refl hR⟩
 case pick c x y=>
  simp only [aOp,ZaH] at h;split at h
  ·rename_i t u1 u2 h1 h2 h3;cases h;have hc:=vrel_bool.1 (hr c (by simp [Op.operands]) _ h1)
   have hx:=hr x (by simp [Op.operands]) _ h2
   have hy:=hr y (by simp [Op.operands]) _ h3
   refine ⟨if t then a.eval x else a.eval y,ρ,w,.inl ?_,?_,.refl hR⟩
   ·simp [execOp,hc,asBool]
   ·cases t
    ·exact hy
    ·exact hx
  ·cases h
 case alloc elem=>
  simp only [aOp,Zcl] at h;split at h
  ·rename_i inf hi;split at h
   ·rename_i z hz;split at h
    ·rename_i hf;cases h;obtain ⟨τ,h1,h2,h3⟩:=ZcI (P:=P) (elem:=elem) hR (Zdw (ρ:=ρ) hf);refine ⟨_,τ,_,.inl ?_,vrel_ptr.2 ⟨_,h3,rfl,rfl⟩,h2⟩;simp [execOp,Instr.alloc,Za0 hi hz,newVar,h1]
    ·cases h
   ·cases h
  ·cases h
 case box elem x=>
  simp only [aOp,Zbm] at h;split at h
  ·rename_i u hu;cases h;have hx:=hr x (by simp [Op.operands]) _ hu
   obtain ⟨τ,h1,h2,h3⟩:=ZcI (P:=P) (elem:=elem) hR hx.cells;refine ⟨_,τ,_,.inl ?_,vrel_ptr.2 ⟨_,h3,rfl,rfl⟩,h2⟩;simp [execOp,Instr.box,newVar,h1]
  ·cases h
 case build t parts=>
  simp only [aOp,Zbl] at h;split at h
  ·rename_i ps hps;obtain ⟨hq,rfl⟩:=ZaT h;have hp:=ZeL (ρ:=ρ) (a:=a) hps fun x hx=>hr x.2 (by simp [Op.operands];exact ⟨_,by simpa using hx⟩)
   obtain ⟨v',h1,h2⟩:=ZgN (P:=P) (w:=w) (qs:=parts.map fun (i,x)=>(i,a.eval x)) hq (by simpa using hp)
   exact .same hR h1 h2
  ·cases h
 case buildSlice t len parts=>
  simp only [aOp,Zar] at h;split at h
  ·rename_i ps hps;have hp:=ZeL (ρ:=ρ) (a:=a) hps fun x hx=>hr x.2 (by simp [Op.operands];exact ⟨_,by simpa using hx⟩)
   obtain ⟨v',τ,w',h1,h2,h3⟩:=Zgt (P:=P) (w:=w) (qs:=parts.map fun (i,x)=>(i,a.eval x)) h hR (by simpa using hp)
   exact .val h1 h2 h3
  ·cases h
 case load t x=>
  simp only [aOp,Zag] at h;split at h
  ·rename_i u hu;obtain ⟨hq,rfl⟩:=ZaT h;obtain ⟨v',h1,h2⟩:=Zfn (P:=P) hq hR (hr x (by simp [Op.operands]) _ hu)
   exact .same hR h1 h2
  ·cases h
 case store t x y=>
  simp only [aOp,ZaE] at h;split at h
  ·rename_i p u hp hu;obtain ⟨hq,rfl⟩:=ZcS h;obtain ⟨w',h1,h2⟩:=ZkJ (P:=P) hq hR (hr x (by simp [Op.operands]) _ hp) (hr y (by simp [Op.operands]) _ hu)
   exact .unit h1 h2
  ·cases h
 case nilCheck x=>
  simp only [aOp,Zbo] at h;split at h
  ·rename_i y hu;cases h;have hx:=hr x (by simp [Op.operands]) _ hu
   obtain ⟨b,_,_,e⟩:=vrel_ptr.1 hx;exact ⟨a.eval x,ρ,w,.inl (by simp [execOp,e]),hx,.refl hR⟩
  ·rename_i f b c hu;cases h;have hx:=hr x (by simp [Op.operands]) _ hu
   obtain ⟨_,_,_,_,e⟩:=vrel_func.1 hx;exact ⟨a.eval x,ρ,w,.inl (by simp [execOp,e]),hx,.refl hR⟩
  ·rename_i t u hu;cases h;have hx:=hr x (by simp [Op.operands]) _ hu
   obtain ⟨_,_,e⟩:=vrel_iface.1 hx;exact ⟨a.eval x,ρ,w,.inl (by simp [execOp,e]),hx,.refl hR⟩
  ·cases h
 case binOp op t x y yt=>
  simp only [aOp,Zah] at h;split at h
  ·rename_i u1 u2 h1 h2;obtain ⟨hq,rfl⟩:=ZaT h;obtain ⟨v',h3,h4⟩:=ZiP (w:=w) hq (hr x (by simp [Op.operands]) _ h1) (hr y (by simp [Op.operands]) _ h2)
   exact .same hR h3 h4
  ·cases h
 case unOp op t x=>
  simp only [aOp,opUn] at h;split at h
  ·rename_i u hu;split at h
   ·rename_i hf;obtain ⟨hq,rfl⟩:=ZaT h;obtain ⟨h1,h2⟩:=ZcZ hq;have hx:=(ZaR hf).1 (hr x (by simp [Op.operands]) _ hu)
    refine .same (v':=v) (s:=Op.unary op (a.eval x)) hR ?_ ((ZaR h2).2 rfl);rw [hx];exact Zbz h1
   ·cases h
  ·cases h
 case convert s d x=>
  simp only [aOp,Zct] at h;split at h
  ·rename_i u hu;split at h
   ·rename_i hf;obtain ⟨hq,rfl⟩:=ZaT h;obtain ⟨h1,h2⟩:=ZcZ hq;have hx:=(Zby hf).1 (hr x (by simp [Op.operands]) _ hu)
    refine .same (v':=v) (s:=convert s d (a.eval x)) hR ?_ ((ZaR h2).2 rfl);rw [hx];exact Zbz h1
   ·split at h
    ·rename_i hby;obtain ⟨hq,rfl⟩:=ZaT h;obtain ⟨v',h3,h4,h5⟩:=ZkY (P:=P) (w:=w) hq hR (hr x (by simp [Op.operands]) _ hu)
     exact .same (s:=convert s d (a.eval x)) hR (by rw [Zlp hby h5];exact h3) h4
    ·cases h
  ·cases h
 case makeInterface t x=>
  simp only [aOp,Zfc] at h;split at h
  ·cases h
  ·rename_i u d hne hu hd;cases h;have hx:=hr x (by simp [Op.operands]) _ hu
   refine .same (v':=.iface t (a.eval x)) (s:=Instr.makeInterface t (a.eval x)) hR ?_ (vrel_iface.2 ⟨_,hx,rfl⟩);unfold Instr.makeInterface;rw [Sem.run_bind,Zai hd,Result.andThen_ok];cases d<;>first|rfl|exact (hne _ rfl).elim
  ·cases h
 case makeFunc fn first captured=>
  simp only [aOp,Zd4] at h;split at h
  ·rename_i f c hf hc;cases h;have h1:=ZcU (ρ:=ρ) (a:=a) hf fun x hx=>hr x (by simp [Op.operands];exact .inl (by simpa using hx))
   have h2:=ZcU (ρ:=ρ) (a:=a) hc fun x hx=>hr x (by simp [Op.operands];exact .inr (by simpa using hx))
   refine .same (v':=.func fn (first.map a.eval) (captured.map a.eval)) (s:=Instr.makeFunc fn (first.map a.eval) (captured.map a.eval)) hR rfl ?_
   exact vrel_func.2 ⟨_,_,h1,h2,by simp [←Array.toList_map]⟩
  ·cases h
 case range t x=>
  simp only [aOp,Zi4] at h;split at h
  ·rename_i s hd hu;cases h;have hx:=vrel_string.1 (hr x (by simp [Op.operands]) _ hu)
   have hb:BRel (ρ.add σ.next w.heap.size (0,0)) σ.next ⟨4,0,0,[.string s],[]⟩ (.stringIter s 0):=⟨s,rfl,rfl⟩;refine .val (s:=Instr.range t (a.eval x)) (v':=.pointer (some ⟨w.heap.size,0,none⟩)) ?_ (vrel_ptr.2 ⟨w.heap.size,by simp [Ren.add],rfl,rfl⟩) (Sim.alloc hR (0,0) hb)
   simp [Instr.range,Zai hd,hx]
  ·cases h
 case next it st=>
  simp only [aOp,Zmv] at h;split at h
  ·rename_i p hu;split at h
   ·rename_i hk;simp only [Bool.and_eq_true,Nat.beq_eq] at hk;split at h
    ·rename_i s hs;obtain ⟨b,hb,_,he⟩:=vrel_ptr.1 (hr it (by simp [Op.operands]) _ hu)
     obtain ⟨_,o,ho,hB⟩:=hR.blk _ b hb;unfold BRel at hB;rw [hk.2] at hB;obtain ⟨s',h1,rfl⟩:=hB;rw [hs] at h1;obtain rfl:s=s':=by simpa using h1
     have hget:(getObj b).run P w=.ok (.stringIter s (σ.get p.block).esz) w:=by simp [getObj,Sem.run,ho]
     have hset:∀o',(setObj b o').run P w=.ok () { w with heap:=w.heap.setIfInBounds b o' }:=fun o'=>by simp [setObj,Sem.run,ho]
     split at h
     ·rename_i hlt;rw [Nat.blt_eq] at hlt;cases h;refine .val (s:=Instr.next (a.eval it) true ty) (v':=.tuple #[.bool true,goInt (σ.get p.block).esz,.int .i32 (Utf8.decode s (σ.get p.block).esz).1]) (w':={ w with heap:=w.heap.setIfInBounds b (.stringIter s ((σ.get p.block).esz+(Utf8.decode s (σ.get p.block).esz).2)) }) ?_
       ((ZaR rfl).2 rfl) (Sim.put hR hb (by omega) rfl ⟨rfl,rfl⟩ ⟨s,rfl,rfl⟩)
      rw [he];simp [Instr.next,hk.1,hget,hset,hlt]
     ·rename_i hlt;rw [Nat.blt_eq] at hlt;cases h;refine .same (s:=Instr.next (a.eval it) true ty) (v':=.tuple #[.bool false]) hR ?_ ((ZaR rfl).2 rfl);rw [he];simp [Instr.next,hk.1,hget,hlt]
    ·cases h
   ·cases h
  ·cases h
 case makeMap t res=>
  have hb:BRel (ρ.add σ.next w.heap.size (0,0)) σ.next ⟨3,0,0,[],[]⟩ (.map #[] 0):=⟨#[],0,rfl,trivial,rfl,rfl⟩;have fin:OpOk P G ρ σ w (.map (some σ.next)) (σ.new ⟨3,0,0,[],[]⟩) (do pure (.value (.map (some (←newObj (.map #[] 0)))))):=
   ⟨_,_,_,.inl (by simp),vrel_map.2 ⟨w.heap.size,by simp [Ren.add],rfl⟩,Sim.alloc hR (0,0) hb⟩
  cases res with
  | none=>
   cases h;obtain ⟨v',τ,w',h1,h2,h3⟩:=fin;exact ⟨v',τ,w',by simpa [execOp,Instr.makeMap] using h1,h2,h3⟩
  | some x=>
   simp only [aOp,ZjY] at h;split at h
   ·rename_i k e kk n hd hu;cases h;have hx:=vrel_int.1 (hr x (by simp [Op.operands]) _ hu)
    obtain ⟨v',τ,w',h1,h2,h3⟩:=fin;exact ⟨v',τ,w',by simpa [execOp,Instr.makeMap,Zai hd,asInt,asIntOf,hx] using h1,h2,h3⟩
   ·cases h
 case makeSlice t l c=>
  simp only [aOp,ZbN] at h;split at h
  ·rename_i u1 u2 h1 h2;obtain ⟨v',τ,w',h3,h4,h5⟩:=ZgP (P:=P) (w:=w) h hR (hr l (by simp [Op.operands]) _ h1) (hr c (by simp [Op.operands]) _ h2)
   exact .val h3 h4 h5
  ·cases h
 case slice t x lo hi mx=>
  simp only [aOp,ZbE] at h;split at h
  ·rename_i u l hh m hu h1 h2 h3;obtain ⟨hq,rfl⟩:=ZaT h;obtain ⟨v',h4,h5⟩:=ZkL (P:=P) (w:=w) hq hR (hr x (by simp [Op.operands]) _ hu)
    (Zjn h1 fun y hy=>hr y (by simp [Op.operands,hy])) (Zjn h2 fun y hy=>hr y (by simp [Op.operands,hy])) (Zjn h3 fun y hy=>hr y (by simp [Op.operands,hy]))
   exact .same hR h4 h5
  ·cases h
 case fieldAddr s x f=>
  simp only [aOp,Zac] at h;split at h
  ·rename_i u hu;obtain ⟨hq,rfl⟩:=ZaT h;obtain ⟨v',h1,h2⟩:=ZgI (P:=P) (w:=w) hq (hr x (by simp [Op.operands]) _ hu)
   exact .same hR h1 h2
  ·cases h
 case field t x f=>
  simp only [aOp,Zfd] at h;split at h
  ·rename_i u hu;obtain ⟨hq,rfl⟩:=ZaT h;obtain ⟨v',h1,h2⟩:=Ze3 (P:=P) (w:=w) hq (hr x (by simp [Op.operands]) _ hu)
   exact .same hR h1 h2
  ·cases h
 case indexAddr t x ix=>
  simp only [aOp,Zae] at h;split at h
  ·rename_i u1 u2 h1 h2;obtain ⟨hq,rfl⟩:=ZaT h;obtain ⟨v',h3,h4⟩:=Zd7 (P:=P) (w:=w) hq (hr x (by simp [Op.operands]) _ h1) (hr ix (by simp [Op.operands]) _ h2)
   exact .same hR h3 h4
  ·cases h
 case index t x ix=>
  simp only [aOp,Zfb] at h;split at h
  ·rename_i u1 u2 h1 h2;obtain ⟨hq,rfl⟩:=ZaT h;obtain ⟨v',h3,h4⟩:=Ze1 (P:=P) (w:=w) hq (hr x (by simp [Op.operands]) _ h1) (hr ix (by simp [Op.operands]) _ h2)
   exact .same hR h3 h4
  ·cases h
 case lookup t x ix ok=>
  simp only [aOp,Zba] at h;split at h
  ·rename_i u1 u2 h1 h2;obtain ⟨hq,rfl⟩:=ZaT h;obtain ⟨v',h3,h4⟩:=Zf2 (P:=P) (w:=w) hq hR (hr x (by simp [Op.operands]) _ h1) (hr ix (by simp [Op.operands]) _ h2)
   exact .same hR h3 h4
  ·cases h
 case mapUpdate t m k x=>
  simp only [aOp,ZbG] at h;split at h
  ·rename_i u1 u2 u3 h1 h2 h3;obtain ⟨hq,rfl⟩:=ZcS h;obtain ⟨w',h4,h5⟩:=ZfW (P:=P) (w:=w) hq hR (hr m (by simp [Op.operands]) _ h1) (hr k (by simp [Op.operands]) _ h2) (hr x (by simp [Op.operands]) _ h3)
   exact .unit h4 h5
  ·cases h
 case insert t m k x=>
  simp only [aOp,ZbG] at h;split at h
  ·rename_i u1 u2 u3 h1 h2 h3;obtain ⟨hq,rfl⟩:=ZcS h;obtain ⟨w',h4,h5⟩:=ZfW (P:=P) (w:=w) hq hR (hr m (by simp [Op.operands]) _ h1) (hr k (by simp [Op.operands]) _ h2) (hr x (by simp [Op.operands]) _ h3)
   exact .unit h4 h5
  ·cases h
 case mapEntry t m k=>
  simp only [aOp,Zhm] at h;split at h
  ·rename_i u1 u2 h1 h2;obtain ⟨v',w',h3,h4,h5⟩:=ZkQ (P:=P) (w:=w) h hR (hr m (by simp [Op.operands]) _ h1) (hr k (by simp [Op.operands]) _ h2)
   exact .val h3 h4 h5
  ·cases h
 case entryStore t m s x=>
  simp only [aOp,ZcH] at h;split at h
  ·rename_i u1 u2 u3 h1 h2 h3;obtain ⟨hq,rfl⟩:=ZcS h;obtain ⟨w',h4,h5⟩:=Zgr (P:=P) (w:=w) (t:=t) hq hR (hr m (by simp [Op.operands]) _ h1) (hr s (by simp [Op.operands]) _ h2) (hr x (by simp [Op.operands]) _ h3)
   exact .unit h4 h5
  ·cases h
 case extract t ix=>
  simp only [aOp,Zbb] at h;split at h
  ·rename_i vs hu;split at h
   ·rename_i u hix;cases h;obtain ⟨ds,hl,e⟩:=vrel_tuple.1 (hr t (by simp [Op.operands]) _ hu)
    obtain ⟨u',h1,h2⟩:=hl.get ix (by simpa using hix)
    refine .same (v':=u') (s:=Instr.extract (a.eval t) ix) hR ?_ h2;simp [e,Instr.extract,h1]
   ·cases h
  ·cases h
 case call c=>
  obtain ⟨callee,args,argTypes⟩:=c;simp only [aOp,Zan] at h;cases callee with
  | builtin b=>
   simp only [] at h;split at h
   ·rename_i vs hvs;have h1:=ZcU (ρ:=ρ) (a:=a) hvs fun x hx=>hr x (by simp [Op.operands,Call.operands];simpa using hx)
    have h2:=Zie (ty:=ty) (consts:=args.map fun | .const _=>true|_=>false) h hR h1;obtain ⟨v',τ,w',h3,h4,h5⟩:=h2;refine ⟨v',τ,w',?_,h4,h5⟩;have e:execOp a.eval ⟨dst,.call ⟨.builtin b,args,argTypes⟩,ty,pos,aft,guard⟩=builtin b argTypes ty (args.map fun | .const _=>true|_=>false) (args.map a.eval):=rfl;rw [e];have e2:(List.map a.eval args.toList).toArray=args.map a.eval:=by simp [←Array.toList_map]
    rw [e2] at h3;exact h3
   ·cases h
  | value f=>cases h
  | invoke x m=>cases h
end ops
end Go.Proofs.YteangeffgjolpaaGreatDoor.Abs
