/- Definitions of an abstract memory,the relation between it and the model's world,and their plain laws. No program. -/
import Derived.WalkKit
import Derived.IntWalk
set_option linter.unusedSimpArgs false
set_option linter.unusedVariables false
namespace Go.Proofs.YteangeffgjolpaaGreatDoor.Abs
set_option linter.defProp false
def zA:=@Nat.le_refl
def zB:=@Nat.le_trans
def zC:=@Nat.lt_of_lt_of_le
def zD:=@Nat.le_of_ble_eq_true
def zE:=@List.getElem?_eq_some_iff
def zF:=@List.mem_of_getElem?
def zG:=@Nat.lt_succ_self
def zH:=@Nat.zero_le
def zI:=@decide_eq_false
def zJ:=@List.take_of_length_le
def zK:=@Nat.eq_of_beq_eq_true
def zL:=@List.getD_eq_getElem?_getD
def zM:=@decide_eq_true
def zN:=@List.getElem?_append_left
def zO:=@List.getElem?_append_right
def zP:=@List.getElem?_eq_getElem
def zQ:=@Nat.lt_of_le_of_lt
def zR:=@List.mem_append
def zS:=@List.length_append
def zT:=@List.take_add_one
def zU:=@Nat.lt_irrefl
def zV:=@List.getElem?_eq_none
def zW:=@Int.toNat_natCast
def zX:=@List.length_take
def lget {α:Type} (d:α):List α→Nat→α
 | [],_=>d
 | a::_,0=>a
 | _::l,n+1=>lget d l n
inductive D8 where
 | d0|d1|d2|d3|d4|d5|d6|d7
inductive P8 where
 | here
 | go (d:D8) (p:P8)
inductive T (α:Type) where
 | e
 | n (v:α) (c0 c1 c2 c3 c4 c5 c6 c7:T α)
noncomputable def bite {α:Type} (b:Bool) (x y:α):α:=@Bool.rec (fun _=>α) y x b
theorem Zab {α:Type} (b:Bool) (x y:α):bite b x y=if b=true then x else y:=by cases b<;>rfl
noncomputable def d8 {α:Type} (d:D8) (x0 x1 x2 x3 x4 x5 x6 x7:α):α:=@D8.rec (fun _=>α) x0 x1 x2 x3 x4 x5 x6 x7 d
noncomputable def dig (n:Nat):D8:=
 bite (Nat.beq n 0) .d0 (bite (Nat.beq n 1) .d1 (bite (Nat.beq n 2) .d2 (bite (Nat.beq n 3) .d3 (bite (Nat.beq n 4) .d4 (bite (Nat.beq n 5) .d5 (bite (Nat.beq n 6) .d6 .d7))))))
noncomputable def pthF (fuel:Nat):Nat→P8:=
 @Nat.rec (fun _=>Nat→P8) (fun _=>.here) (fun _ ih i=>bite (Nat.beq i 0) .here (.go (dig (Nat.mod (Nat.pred i) 8)) (ih (Nat.div (Nat.pred i) 8)))) fuel
noncomputable def pth (i:Nat):P8:=pthF (Nat.succ i) i
noncomputable def pget {α:Type} (d:α) (t:T α):P8→α:=
 @T.rec α (fun _=>P8→α) (fun _=>d)
  (fun v _ _ _ _ _ _ _ _ g0 g1 g2 g3 g4 g5 g6 g7 p=>@P8.rec (fun _=>α) v (fun dg p' _=>d8 dg (g0 p') (g1 p') (g2 p') (g3 p') (g4 p') (g5 p') (g6 p') (g7 p')) p) t
noncomputable def pone {α:Type} (d:α) (p:P8) (x:α):T α:=
 @P8.rec (fun _=>T α) (.n x .e .e .e .e .e .e .e .e) (fun dg _ ih=>d8 dg (.n d ih .e .e .e .e .e .e .e) (.n d .e ih .e .e .e .e .e .e) (.n d .e .e ih .e .e .e .e .e) (.n d .e .e .e ih .e .e .e .e) (.n d .e .e .e .e ih .e .e .e) (.n d .e .e .e .e .e ih .e .e) (.n d .e .e .e .e .e .e ih .e) (.n d .e .e .e .e .e .e .e ih)) p
noncomputable def pset {α:Type} (d:α) (t:T α):P8→α→T α:=
 @T.rec α (fun _=>P8→α→T α) (fun p x=>pone d p x)
  (fun v c0 c1 c2 c3 c4 c5 c6 c7 g0 g1 g2 g3 g4 g5 g6 g7 p x=>@P8.rec (fun _=>T α) (.n x c0 c1 c2 c3 c4 c5 c6 c7) (fun dg p' _=>d8 dg (.n v (g0 p' x) c1 c2 c3 c4 c5 c6 c7) (.n v c0 (g1 p' x) c2 c3 c4 c5 c6 c7) (.n v c0 c1 (g2 p' x) c3 c4 c5 c6 c7) (.n v c0 c1 c2 (g3 p' x) c4 c5 c6 c7) (.n v c0 c1 c2 c3 (g4 p' x) c5 c6 c7) (.n v c0 c1 c2 c3 c4 (g5 p' x) c6 c7) (.n v c0 c1 c2 c3 c4 c5 (g6 p' x) c7) (.n v c0 c1 c2 c3 c4 c5 c6 (g7 p' x))) p) t
noncomputable def tget {α:Type} (d:α) (t:T α) (i:Nat):α:=pget d t (pth i)
noncomputable def tset {α:Type} (d:α) (t:T α) (i:Nat) (x:α):T α:=pset d t (pth i) x
section trees
variable {α:Type} {d v x:α} {c0 c1 c2 c3 c4 c5 c6 c7:T α} {p q:P8} {k j:D8}
theorem pget_e:pget d .e p=d:=rfl
theorem ZjU:pget d (.n v c0 c1 c2 c3 c4 c5 c6 c7) .here=v:=rfl
theorem Zi2:pget d (.n v c0 c1 c2 c3 c4 c5 c6 c7) (.go k p)=pget d (d8 k c0 c1 c2 c3 c4 c5 c6 c7) p:=by cases k<;>rfl
theorem ZjS:pone d .here x=.n x .e .e .e .e .e .e .e .e:=rfl
theorem pset_e:pset d .e p x=pone d p x:=rfl
theorem ZjR:pset d (.n v c0 c1 c2 c3 c4 c5 c6 c7) .here x=.n x c0 c1 c2 c3 c4 c5 c6 c7:=rfl
theorem ZjT [DecidableEq P8]:∀(p q:P8),pget d (pone d p x) q=if p=q then x else d
 | .here,.here=>by rw [ZjS,ZjU,if_pos rfl]
 | .here,.go j q=>by
  rw [ZjS,Zi2,if_neg (fun h=>nomatch h)];cases j<;>rfl
 | .go k p,.here=>by
  rw [if_neg (fun h=>nomatch h)];cases k<;>rfl
 | .go k p,.go j q=>by
  have ih:=ZjT p q;by_cases e:k=j
  ·subst e;have h1:pget d (pone d (.go k p) x) (.go k q)=pget d (pone d p x) q:=by cases k<;>rfl
   rw [h1,ih];by_cases e2:p=q
   ·rw [if_pos e2,if_pos (by rw [e2])]
   ·rw [if_neg e2,if_neg (fun h=>e2 (P8.go.inj h).2)]
  ·rw [if_neg (fun h=>e (P8.go.inj h).1)];cases k<;>cases j<;>first|rfl|exact absurd rfl e
theorem Zcr [DecidableEq P8]:∀(t:T α) (p q:P8),pget d (pset d t p x) q=if p=q then x else pget d t q
 | .e,p,q=>by rw [pset_e,ZjT,pget_e]
 | .n v c0 c1 c2 c3 c4 c5 c6 c7,.here,.here=>by rw [ZjR,ZjU,if_pos rfl]
 | .n v c0 c1 c2 c3 c4 c5 c6 c7,.here,.go j q=>by rw [ZjR,Zi2,Zi2,if_neg (fun h=>nomatch h)]
 | .n v c0 c1 c2 c3 c4 c5 c6 c7,.go k p,.here=>by
  rw [if_neg (fun h=>nomatch h)];cases k<;>rfl
 | .n v c0 c1 c2 c3 c4 c5 c6 c7,.go k p,.go j q=>by
  by_cases e:k=j
  ·subst e;have h1:pget d (pset d (.n v c0 c1 c2 c3 c4 c5 c6 c7) (.go k p) x) (.go k q)=pget d (pset d (d8 k c0 c1 c2 c3 c4 c5 c6 c7) p x) q:=by cases k<;>rfl
   have ih:pget d (pset d (d8 k c0 c1 c2 c3 c4 c5 c6 c7) p x) q=if p=q then x else pget d (d8 k c0 c1 c2 c3 c4 c5 c6 c7) q:=by
    cases k
    ·exact Zcr c0 p q
    ·exact Zcr c1 p q
    ·exact Zcr c2 p q
    ·exact Zcr c3 p q
    ·exact Zcr c4 p q
    ·exact Zcr c5 p q
    ·exact Zcr c6 p q
    ·exact Zcr c7 p q
   rw [h1,ih,Zi2];by_cases e2:p=q
   ·rw [if_pos e2,if_pos (by rw [e2])]
   ·rw [if_neg e2,if_neg (fun h=>e2 (P8.go.inj h).2)]
  ·rw [if_neg (fun h=>e (P8.go.inj h).1)];cases k<;>cases j<;>first|rfl|exact absurd rfl e
theorem ZrT {a b:Nat} (ha:a<8) (hb:b<8) (h:dig a=dig b):a=b:=by
 have one:∀n,n<8→dig n=.d0∧n=0∨dig n=.d1∧n=1∨dig n=.d2∧n=2∨dig n=.d3∧n=3∨dig n=.d4∧n=4∨dig n=.d5∧n=5∨dig n=.d6∧n=6∨dig n=.d7∧n=7:=by
  intro n hn
  match n,hn with
  | 0,_=>exact .inl ⟨rfl,rfl⟩
  | 1,_=>exact .inr (.inl ⟨rfl,rfl⟩)
  | 2,_=>exact .inr (.inr (.inl ⟨rfl,rfl⟩))
  | 3,_=>exact .inr (.inr (.inr (.inl ⟨rfl,rfl⟩)))
  | 4,_=>exact .inr (.inr (.inr (.inr (.inl ⟨rfl,rfl⟩))))
  | 5,_=>exact .inr (.inr (.inr (.inr (.inr (.inl ⟨rfl,rfl⟩)))))
  | 6,_=>exact .inr (.inr (.inr (.inr (.inr (.inr (.inl ⟨rfl,rfl⟩))))))
  | 7,_=>exact .inr (.inr (.inr (.inr (.inr (.inr (.inr ⟨rfl,rfl⟩))))))
 rcases one a ha with h1|h1|h1|h1|h1|h1|h1|h1<;>rcases one b hb with h2|h2|h2|h2|h2|h2|h2|h2 <;>
  first | (rw [h1.2,h2.2];done) | (rw [h1.1,h2.1] at h;cases h)
theorem ZqG (f i:Nat):pthF (f+1) i=if i=0 then .here else .go (dig ((i-1) % 8)) (pthF f ((i-1) / 8)):=by
 show bite (Nat.beq i 0) P8.here (.go (dig (Nat.pred i % 8)) (pthF f (Nat.pred i / 8)))=_;rw [Zab];simp only [Nat.beq_eq];rfl
theorem Zmt:∀(f g i j:Nat),i<f→j<g→pthF f i=pthF g j→i=j
 | 0,_,_,_,h,_,_=>by omega
 | _+1,0,_,_,_,h,_=>by omega
 | f+1,g+1,i,j,hi,hj,h=>by
  rw [ZqG,ZqG] at h;by_cases h1:i=0
  ·rw [if_pos h1] at h;by_cases h2:j=0
   ·omega
   ·rw [if_neg h2] at h;cases h
  ·rw [if_neg h1] at h;by_cases h2:j=0
   ·rw [if_pos h2] at h;cases h
   ·rw [if_neg h2] at h;obtain ⟨h3,h4⟩:=P8.go.inj h;have h3:=ZrT (Nat.mod_lt _ (by omega)) (Nat.mod_lt _ (by omega)) h3
    have h4:=Zmt f g _ _ (by omega) (by omega) h4
    omega
theorem ZjH (d:α) (t:T α) (i j:Nat) (x:α):tget d (tset d t i x) j=if i=j then x else tget d t j:=by
 unfold tget tset
 haveI:DecidableEq P8:=fun _ _=>Classical.propDecidable _
 rw [Zcr];by_cases e:i=j
 ·rw [if_pos e,if_pos (by rw [e])]
 ·rw [if_neg e,if_neg (show ¬pth i=pth j from fun h=>e (Zmt _ _ _ _ (zG _) (zG _) h))]
end trees
structure Blk where
 kind:Nat
 elem:TypeId
 esz:Nat
 vals:List Value
 ents:List (Value×Value)
def Blk.dead:Blk:=⟨0,0,0,[],[]⟩
abbrev ZnP:Type:=T Blk
noncomputable def hget (h:ZnP) (i:Nat):Blk:=tget Blk.dead h i
noncomputable def hput (h:ZnP) (i:Nat) (b:Blk):ZnP:=tset Blk.dead h i b
theorem ZfG (h:ZnP) (i j:Nat) (b:Blk):hget (hput h i b) j=if i=j then b else hget h j:=ZjH _ _ _ _ _
structure AS where
 next:Nat
 low:Nat
 heap:ZnP
noncomputable def AS.get (σ:AS) (i:Nat):Blk:=hget σ.heap i
noncomputable def AS.new (σ:AS) (b:Blk):AS:=⟨σ.next+1,σ.low,hput σ.heap σ.next b⟩
noncomputable def AS.put (σ:AS) (i:Nat) (b:Blk):AS:=⟨σ.next,Nat.min σ.low i,hput σ.heap i b⟩
theorem AS.get_new (σ:AS) (b:Blk) (j:Nat):(σ.new b).get j=if σ.next=j then b else σ.get j:=ZfG _ _ _ _
theorem AS.get_put (σ:AS) (i:Nat) (b:Blk) (j:Nat):(σ.put i b).get j=if i=j then b else σ.get j:=ZfG _ _ _ _
def LRel {α β:Type} (R:α→β→Prop):List α→List β→Prop
 | [],[]=>True
 | a::l,b::m=>R a b∧LRel R l m
 | _,_=>False
theorem LRel.length {α β:Type} {R:α→β→Prop}:∀{l:List α} {m:List β},LRel R l m→l.length=m.length
 | [],[],_=>rfl
 | _::_,_::_,h=>by simp [LRel.length h.2]
 | [],_::_,h=>h.elim
 | _::_,[],h=>h.elim
theorem LRel.mono {α β:Type} {R S:α→β→Prop} (hrs:∀a b,R a b→S a b):∀{l:List α} {m:List β},LRel R l m→LRel S l m
 | [],[],_=>trivial
 | _::_,_::_,h=>⟨hrs _ _ h.1,LRel.mono hrs h.2⟩
 | [],_::_,h=>h.elim
 | _::_,[],h=>h.elim
theorem LRel.append {α β:Type} {R:α→β→Prop}:∀{l:List α} {m:List β} {l':List α} {m':List β},LRel R l m→LRel R l' m'→LRel R (l++l') (m++m')
 | [],[],_,_,_,h'=>h'
 | _::_,_::_,_,_,h,h'=>⟨h.1,LRel.append h.2 h'⟩
 | [],_::_,_,_,h,_=>h.elim
 | _::_,[],_,_,h,_=>h.elim
theorem LRel.take {α β:Type} {R:α→β→Prop}:∀(n:Nat) {l:List α} {m:List β},LRel R l m→LRel R (l.take n) (m.take n)
 | 0,_,_,_=>by simp [LRel]
 | _+1,[],[],_=>by simp [LRel]
 | n+1,_::_,_::_,h=>⟨h.1,LRel.take n h.2⟩
 | _+1,[],_::_,h=>h.elim
 | _+1,_::_,[],h=>h.elim
theorem LRel.drop {α β:Type} {R:α→β→Prop}:∀(n:Nat) {l:List α} {m:List β},LRel R l m→LRel R (l.drop n) (m.drop n)
 | 0,_,_,h=>h
 | _+1,[],[],_=>by simp [LRel]
 | n+1,_::_,_::_,h=>LRel.drop n h.2
 | _+1,[],_::_,h=>h.elim
 | _+1,_::_,[],h=>h.elim
theorem LRel.get {α β:Type} {R:α→β→Prop}:∀{l:List α} {m:List β} (i:Nat) {a:α},LRel R l m→l[i]?=some a→∃b,m[i]?=some b∧R a b
 | [],_,i,a,_,h=>by simp at h
 | x::l,y::m,0,a,h,e=>by simp at e;subst e;exact ⟨y,by simp,h.1⟩
 | x::l,y::m,i+1,a,h,e=>by
  obtain ⟨b,hb,hr⟩:=LRel.get i h.2 (by simpa using e)
  exact ⟨b,by simpa using hb,hr⟩
 | _::_,[],_,_,h,_=>h.elim
theorem LRel.set {α β:Type} {R:α→β→Prop}:∀{l:List α} {m:List β} (i:Nat) {a:α} {b:β},LRel R l m→R a b→LRel R (l.set i a) (m.set i b)
 | [],[],_,_,_,_,_=>by simp [LRel]
 | _::_,_::_,0,_,_,h,r=>⟨r,h.2⟩
 | _::_,_::_,i+1,_,_,h,r=>⟨h.1,LRel.set i h.2 r⟩
 | [],_::_,_,_,_,h,_=>h.elim
 | _::_,[],_,_,_,h,_=>h.elim
structure Ren where
 bl:Nat→Option Nat
 sz:Nat→Nat×Nat
def Ren.le (ρ τ:Ren):Prop:=∀i b,ρ.bl i=some b→τ.bl i=some b∧τ.sz i=ρ.sz i
theorem Ren.le_refl (ρ:Ren):ρ.le ρ:=fun _ _ h=>⟨h,rfl⟩
theorem Ren.le_trans {ρ τ υ:Ren} (h:ρ.le τ) (h':τ.le υ):ρ.le υ:=fun i b hb=>
 ⟨(h' i b (h i b hb).1).1,((h' i b (h i b hb).1).2).trans (h i b hb).2⟩
def Ren.below (ρ:Ren) (n:Nat):Ren:=⟨fun i=>if i<n then ρ.bl i else none,ρ.sz⟩
theorem Ren.below_le (ρ:Ren) (n:Nat):(ρ.below n).le ρ:=fun i b h=>by
 simp only [Ren.below] at h;split at h
 ·exact ⟨h,rfl⟩
 ·cases h
theorem Ren.below_mono {ρ τ:Ren} {n m:Nat} (h:ρ.le τ) (hn:n≤m):(ρ.below n).le (τ.below m):=fun i b hb=>by
 simp only [Ren.below] at hb ⊢;split at hb
 ·rename_i hi;rw [if_pos (by omega)];exact h i b hb
 ·cases hb
def Zax:Nat:=18446744073709551616
def CapRel (s:Nat×Nat) (off c c':Nat):Prop:=
 if c<Zax then c'=c else c-Zax≤c'∧0<s.2∧off+c'*s.2=s.1
def enc (x y:Nat):Nat:=(x+y)*(x+y)+y
theorem Zgk {x y z w:Nat} (h:enc x y=enc z w):x=z∧y=w:=by
 unfold enc at h;have h1:x+y=z+w:=by
  rcases Nat.lt_trichotomy (x+y) (z+w) with hlt|he|hgt
  ·have h2:(x+y+1)*(x+y+1)≤(z+w)*(z+w):=Nat.mul_le_mul hlt hlt;have h3:(x+y+1)*(x+y+1)=(x+y)*(x+y)+(x+y)+(x+y+1):=by rw [Nat.add_mul,Nat.mul_add];omega
   omega
  ·exact he
  ·have h2:(z+w+1)*(z+w+1)≤(x+y)*(x+y):=Nat.mul_le_mul hgt hgt;have h3:(z+w+1)*(z+w+1)=(z+w)*(z+w)+(z+w)+(z+w+1):=by rw [Nat.add_mul,Nat.mul_add];omega
   omega
 rw [h1] at h;omega
def Zmi:Nat→Option Nat
 | 0=>none
 | n+1=>some n
def Zmj:Option Nat→Nat
 | none=>0
 | some n=>n+1
theorem Zhb (s:Option Nat):Zmi (Zmj s)=s:=by cases s<;>rfl
def Zg8 (a:Addr):Nat:=2*enc a.block (enc a.off (Zmj a.spot))
def Zea (a:Addr) (c l z:Nat):Nat:=2*enc a.block (enc a.off (enc c (enc l z)))+1
def Void (ρ:Ren) (k:Nat) (v':Value):Prop:=
 (∃a:Addr,k=Zg8 a∧v'=.slice (some a) 0 0)∨
 (∃(a:Addr) (c l z b c':Nat),k=Zea a c l z∧ρ.bl a.block=some b∧CapRel (ρ.sz a.block) a.off c c'∧
  v'=.slice (some ⟨b,if c'=l then a.off else a.off+l*z,none⟩) 0 (c'-l))
theorem Zk3 {a b:Addr} (h:Zg8 a=Zg8 b):a=b:=by
 obtain ⟨h1,h2⟩:=Zgk (Nat.eq_of_mul_eq_mul_left (by decide) h)
 obtain ⟨h2,h3⟩:=Zgk h2;obtain ⟨x,y,s⟩:=a;obtain ⟨x',y',s'⟩:=b;have h4:s=s':=by rw [←Zhb s,←Zhb s'];exact congrArg Zmi h3
 simp only at h1 h2;rw [h1,h2,h4]
theorem CapRel.det {s:Nat×Nat} {o c x y:Nat} (h:CapRel s o c x) (h':CapRel s o c y):x=y:=by
 unfold CapRel at h h';split at h
 ·rename_i hc;rw [if_pos hc] at h';omega
 ·rename_i hc;rw [if_neg hc] at h';exact Nat.eq_of_mul_eq_mul_right h.2.1 (by omega)
theorem Znc (a:Addr) (c l z:Nat):Zea a c l z % 2=1∧a.block≤Zea a c l z:=by
 unfold Zea;refine ⟨by omega,?_⟩
 have:∀x y,x≤enc x y:=fun x y=>by
  unfold enc;rcases Nat.eq_zero_or_pos x with h|h
  ·omega
  ·have:(x+y)*1≤(x+y)*(x+y):=Nat.mul_le_mul_left _ (by omega)
   omega
 have:=this a.block (enc a.off (enc c (enc l z)));omega
theorem Void.slice {ρ:Ren} {k:Nat} {v':Value} (h:Void ρ k v'):∃a c,v'=.slice (some a) 0 c:=by
 rcases h with ⟨a,_,rfl⟩|⟨a,c,l,z,b,c',_,_,_,rfl⟩
 ·exact ⟨_,_,rfl⟩
 ·exact ⟨_,_,rfl⟩
theorem Void.ext {ρ τ:Ren} {k:Nat} {v':Value} (hle:ρ.le τ) (h:Void ρ k v'):Void τ k v':=by
 rcases h with h|⟨a,c,l,z,b,c',h1,h2,h3,h4⟩
 ·exact .inl h
 ·exact .inr ⟨a,c,l,z,b,c',h1,(hle _ _ h2).1,by rw [(hle _ _ h2).2];exact h3,h4⟩
theorem Void.det {ρ τ:Ren} {k:Nat} {v w:Value} (hle:ρ.le τ) (h:Void ρ k v) (h':Void τ k w):v=w:=by
 rcases h with ⟨a,rfl,rfl⟩|⟨a,c,l,z,b,c',rfl,h2,h3,rfl⟩<;>rcases h' with ⟨a',e,rfl⟩|⟨a',x,m,y,b',x',e,e2,e3,rfl⟩
 ·rw [Zk3 e]
 ·unfold Zg8 Zea at e;omega
 ·unfold Zg8 Zea at e;omega
 ·obtain ⟨g1,e⟩:=Zgk (Nat.eq_of_mul_eq_mul_left (show 0<2 by decide) (Nat.add_right_cancel e))
  obtain ⟨g2,e⟩:=Zgk e;obtain ⟨g3,e⟩:=Zgk e;obtain ⟨g4,g5⟩:=Zgk e;rw [←g1] at e2 e3;rw [(hle _ _ h2).1] at e2;rw [(hle _ _ h2).2,←g2,←g3] at e3;cases e2;rw [h3.det e3,g2,g4,g5]
def litA (a:Addr):Addr:=⟨a.block,a.off,Zmi (a.spot.getD 0)⟩
def Zp0 (a:Addr):Addr:=⟨a.block,a.off,some (Zmj a.spot)⟩
theorem Zrt (a:Addr):litA (Zp0 a)=a:=by
 obtain ⟨b,o,s⟩:=a;show (⟨b,o,Zmi (Zmj s)⟩:Addr)=⟨b,o,s⟩;rw [Zhb]
def VRelN (ρ:Ren):Nat→Value→Value→Prop
 | 0,_,_=>False
 | n+1,v,v'=>match v with
  | .pointer (some a)=>∃b,ρ.bl a.block=some b∧a.spot=none∧v'=.pointer (some ⟨b,a.off,none⟩)
  | .slice (some a) l c=>(∃b c',ρ.bl a.block=some b∧a.spot=none∧CapRel (ρ.sz a.block) a.off c c'∧v'=.slice (some ⟨b,a.off,none⟩) l c')∨
    (a.spot≠none∧l=0∧c=0∧v'=.slice (some (litA a)) 0 0)
  | .map (some r)=>∃b,ρ.bl r=some b∧v'=.map (some b)
  | .func fn f c=>∃f' c',LRel (VRelN ρ n) f.toList f'∧LRel (VRelN ρ n) c.toList c'∧v'=.func fn f'.toArray c'.toArray
  | .iface t x=>∃x',VRelN ρ n x x'∧v'=.iface t x'
  | .agg cs=>∃cs',LRel (VRelN ρ n) cs.toList cs'∧v'=.agg cs'.toArray
  | .tuple cs=>∃cs',LRel (VRelN ρ n) cs.toList cs'∧v'=.tuple cs'.toArray
  | .chan none=>False
  | .chan (some k)=>Void ρ k v'
  | v=>v'=v
theorem VRelN.succ {ρ:Ren}:∀{n:Nat} {v v':Value},VRelN ρ n v v'→VRelN ρ (n+1) v v'
 | 0,_,_,h=>h.elim
 | n+1,v,v',h=>by
  have ih:∀a b,VRelN ρ n a b→VRelN ρ (n+1) a b:=fun a b=>VRelN.succ;cases v
  case func fn f c=>
   obtain ⟨f',c',hf,hc,e⟩:=h;exact ⟨f',c',hf.mono ih,hc.mono ih,e⟩
  case iface t x=>
   obtain ⟨x',hx,e⟩:=h;exact ⟨x',ih _ _ hx,e⟩
  case agg cs=>
   obtain ⟨x',hx,e⟩:=h;exact ⟨x',hx.mono ih,e⟩
  case tuple cs=>
   obtain ⟨x',hx,e⟩:=h;exact ⟨x',hx.mono ih,e⟩
  case pointer a=>cases a<;>exact h
  case slice a l c=>cases a<;>exact h
  case map a=>cases a<;>exact h
  case chan a=>cases a<;>exact h
  all_goals exact h
theorem VRelN.up {ρ:Ren} {n m:Nat} {v v':Value} (hnm:n≤m) (h:VRelN ρ n v v'):VRelN ρ m v v':=by
 induction hnm with
 | refl=>exact h
 | step _ ih=>exact ih.succ
theorem VRelN.ext {ρ τ:Ren} (hle:ρ.le τ):∀{n:Nat} {v v':Value},VRelN ρ n v v'→VRelN τ n v v'
 | 0,_,_,h=>h.elim
 | n+1,v,v',h=>by
  have ih:∀a b,VRelN ρ n a b→VRelN τ n a b:=fun a b=>VRelN.ext hle;cases v
  case pointer a=>
   cases a with
   | none=>exact h
   | some a=>obtain ⟨b,hb,hs,e⟩:=h;exact ⟨b,(hle _ _ hb).1,hs,e⟩
  case slice a l c=>
   cases a with
   | none=>exact h
   | some a=>
    rcases h with ⟨b,c',hb,hs,hc,e⟩|h
    ·exact .inl ⟨b,c',(hle _ _ hb).1,hs,by rw [(hle _ _ hb).2];exact hc,e⟩
    ·exact .inr h
  case map a=>
   cases a with
   | none=>exact h
   | some a=>obtain ⟨b,hb,e⟩:=h;exact ⟨b,(hle _ _ hb).1,e⟩
  case chan a=>
   cases a with
   | none=>exact h
   | some a=>exact Void.ext hle h
  case func fn f c=>
   obtain ⟨f',c',hf,hc,e⟩:=h;exact ⟨f',c',hf.mono ih,hc.mono ih,e⟩
  case iface t x=>
   obtain ⟨x',hx,e⟩:=h;exact ⟨x',ih _ _ hx,e⟩
  case agg cs=>
   obtain ⟨x',hx,e⟩:=h;exact ⟨x',hx.mono ih,e⟩
  case tuple cs=>
   obtain ⟨x',hx,e⟩:=h;exact ⟨x',hx.mono ih,e⟩
  all_goals exact h
def VRel (ρ:Ren) (v v':Value):Prop:=∃n,VRelN ρ n v v'
theorem VRel.ext {ρ τ:Ren} {v v':Value} (hle:ρ.le τ) (h:VRel ρ v v'):VRel τ v v':=h.imp fun _ h=>h.ext hle
theorem VRel.inv {ρ:Ren} {v v':Value} (h:VRel ρ v v'):∃n,VRelN ρ (n+1) v v':=by
 obtain ⟨n,h⟩:=h;cases n with
 | zero=>exact h.elim
 | succ n=>exact ⟨n,h⟩
theorem LRel.depth {ρ:Ren}:∀{l l':List Value},LRel (VRel ρ) l l'→∃n,LRel (VRelN ρ n) l l'
 | [],[],_=>⟨0,trivial⟩
 | _::_,_::_,h=>by
  obtain ⟨⟨n,hn⟩,ht⟩:=h;obtain ⟨m,hm⟩:=LRel.depth ht;exact ⟨max n m,hn.up (Nat.le_max_left _ _),hm.mono fun _ _ h=>h.up (Nat.le_max_right _ _)⟩
 | [],_::_,h=>h.elim
 | _::_,[],h=>h.elim
theorem LRel.of_depth {ρ:Ren} {n:Nat} {l l':List Value} (h:LRel (VRelN ρ n) l l'):LRel (VRel ρ) l l':=h.mono fun _ _ h=>⟨n,h⟩
section shapes
variable {ρ:Ren} {v':Value}
theorem vrel_bool {b:Bool}:VRel ρ (.bool b) v'↔v'=.bool b:=⟨fun h=>by obtain ⟨n,h⟩:=h.inv;exact h,fun h=>⟨1,h⟩⟩
theorem vrel_int {k:IntKind} {i:Int}:VRel ρ (.int k i) v'↔v'=.int k i:=⟨fun h=>by obtain ⟨n,h⟩:=h.inv;exact h,fun h=>⟨1,h⟩⟩
theorem vrel_float {k:FloatKind} {i:Nat}:VRel ρ (.float k i) v'↔v'=.float k i:=⟨fun h=>by obtain ⟨n,h⟩:=h.inv;exact h,fun h=>⟨1,h⟩⟩
theorem vrel_complex {k:FloatKind} {a b:Nat}:VRel ρ (.complex k a b) v'↔v'=.complex k a b:=⟨fun h=>by obtain ⟨n,h⟩:=h.inv;exact h,fun h=>⟨1,h⟩⟩
theorem vrel_string {s:ByteArray}:VRel ρ (.string s) v'↔v'=.string s:=⟨fun h=>by obtain ⟨n,h⟩:=h.inv;exact h,fun h=>⟨1,h⟩⟩
theorem vrel_ptr_none:VRel ρ (.pointer none) v'↔v'=.pointer none:=⟨fun h=>by obtain ⟨n,h⟩:=h.inv;exact h,fun h=>⟨1,h⟩⟩
theorem vrel_slice_none {l c:Nat}:VRel ρ (.slice none l c) v'↔v'=.slice none l c:=⟨fun h=>by obtain ⟨n,h⟩:=h.inv;exact h,fun h=>⟨1,h⟩⟩
theorem vrel_map_none:VRel ρ (.map none) v'↔v'=.map none:=⟨fun h=>by obtain ⟨n,h⟩:=h.inv;exact h,fun h=>⟨1,h⟩⟩
theorem vrel_nilFunc:VRel ρ .nilFunc v'↔v'=.nilFunc:=⟨fun h=>by obtain ⟨n,h⟩:=h.inv;exact h,fun h=>⟨1,h⟩⟩
theorem vrel_nilIface:VRel ρ .nilIface v'↔v'=.nilIface:=⟨fun h=>by obtain ⟨n,h⟩:=h.inv;exact h,fun h=>⟨1,h⟩⟩
theorem vrel_chan_none:VRel ρ (.chan none) v'↔False:=⟨fun ⟨n,h⟩=>by cases n<;>exact h.elim,False.elim⟩
theorem vrel_void {k:Nat}:VRel ρ (.chan (some k)) v'↔Void ρ k v':=⟨fun h=>by obtain ⟨n,h⟩:=h.inv;exact h,fun h=>⟨1,h⟩⟩
theorem ZcD {r:Option Nat} (h:VRel ρ (.chan r) v'):∃a c,v'=.slice (some a) 0 c:=by
 cases r with
 | none=>exact (vrel_chan_none.1 h).elim
 | some k=>exact (vrel_void.1 h).slice
theorem vrel_ptr {a:Addr}:VRel ρ (.pointer (some a)) v'↔∃b,ρ.bl a.block=some b∧a.spot=none∧v'=.pointer (some ⟨b,a.off,none⟩):=
 ⟨fun h=>by obtain ⟨n,h⟩:=h.inv;exact h,fun h=>⟨1,h⟩⟩
theorem vrel_slice {a:Addr} {l c:Nat}:VRel ρ (.slice (some a) l c) v'↔
  (∃b c',ρ.bl a.block=some b∧a.spot=none∧CapRel (ρ.sz a.block) a.off c c'∧v'=.slice (some ⟨b,a.off,none⟩) l c')∨(a.spot≠none∧l=0∧c=0∧v'=.slice (some (litA a)) 0 0):=
 ⟨fun h=>by obtain ⟨n,h⟩:=h.inv;exact h,fun h=>⟨1,h⟩⟩
theorem Za2 {a:Addr} {l c:Nat} (h:∃b c',ρ.bl a.block=some b∧a.spot=none∧CapRel (ρ.sz a.block) a.off c c'∧v'=.slice (some ⟨b,a.off,none⟩) l c'):VRel ρ (.slice (some a) l c) v':=vrel_slice.2 (.inl h)
theorem Za1 {a:Addr} {l c:Nat} (h:VRel ρ (.slice (some a) l c) v'):∃a' c',v'=.slice (some a') l c'∧(c<Zax→c'=c):=by
 rcases vrel_slice.1 h with ⟨b,c',_,_,h3,rfl⟩|⟨_,rfl,rfl,rfl⟩
 ·exact ⟨_,_,rfl,fun hc=>by unfold CapRel at h3;rw [if_pos hc] at h3;exact h3⟩
 ·exact ⟨_,_,rfl,fun _=>rfl⟩
theorem vrel_map {r:Nat}:VRel ρ (.map (some r)) v'↔∃b,ρ.bl r=some b∧v'=.map (some b):=
 ⟨fun h=>by obtain ⟨n,h⟩:=h.inv;exact h,fun h=>⟨1,h⟩⟩
theorem vrel_iface {t:TypeId} {x:Value}:VRel ρ (.iface t x) v'↔∃x',VRel ρ x x'∧v'=.iface t x':=
 ⟨fun ⟨n,h⟩=>by
  cases n with
  | zero=>exact h.elim
  | succ n=>obtain ⟨x',hx,e⟩:=h;exact ⟨x',⟨n,hx⟩,e⟩,fun ⟨x',⟨n,hx⟩,e⟩=>⟨n+1,x',hx,e⟩⟩
theorem vrel_agg {cs:Array Value}:VRel ρ (.agg cs) v'↔∃cs',LRel (VRel ρ) cs.toList cs'∧v'=.agg cs'.toArray:=
 ⟨fun ⟨n,h⟩=>by
  cases n with
  | zero=>exact h.elim
  | succ n=>obtain ⟨x',hx,e⟩:=h;exact ⟨x',hx.of_depth,e⟩,fun ⟨x',hx,e⟩=>by obtain ⟨n,hn⟩:=hx.depth;exact ⟨n+1,x',hn,e⟩⟩
theorem vrel_tuple {cs:Array Value}:VRel ρ (.tuple cs) v'↔∃cs',LRel (VRel ρ) cs.toList cs'∧v'=.tuple cs'.toArray:=
 ⟨fun ⟨n,h⟩=>by
  cases n with
  | zero=>exact h.elim
  | succ n=>obtain ⟨x',hx,e⟩:=h;exact ⟨x',hx.of_depth,e⟩,fun ⟨x',hx,e⟩=>by obtain ⟨n,hn⟩:=hx.depth;exact ⟨n+1,x',hn,e⟩⟩
theorem vrel_func {fn:Fn} {f c:Array Value}:VRel ρ (.func fn f c) v'↔
  ∃f' c',LRel (VRel ρ) f.toList f'∧LRel (VRel ρ) c.toList c'∧v'=.func fn f'.toArray c'.toArray:=
 ⟨fun ⟨n,h⟩=>by
  cases n with
  | zero=>exact h.elim
  | succ n=>obtain ⟨f',c',hf,hc,e⟩:=h;exact ⟨f',c',hf.of_depth,hc.of_depth,e⟩,
 fun ⟨f',c',hf,hc,e⟩=>by
  obtain ⟨n,hn⟩:=hf.depth;obtain ⟨m,hm⟩:=hc.depth;exact ⟨max n m+1,f',c',hn.mono fun _ _ h=>h.up (Nat.le_max_left _ _),hm.mono fun _ _ h=>h.up (Nat.le_max_right _ _),e⟩⟩
theorem Zb8:VRel ρ undef undef:=vrel_tuple.2 ⟨[],trivial,rfl⟩
end shapes
theorem VRel.cells {ρ:Ren} {v v':Value} (h:VRel ρ v v'):LRel (VRel ρ) v.cells.toList v'.cells.toList:=by
 have one:∀u u',VRel ρ u u'→LRel (VRel ρ) [u] [u']:=fun _ _ h=>⟨h,trivial⟩;cases v
 case agg cs=>obtain ⟨cs',hc,rfl⟩:=vrel_agg.1 h;exact hc
 case pointer a=>
  cases a with
  | none=>obtain rfl:=vrel_ptr_none.1 h;exact one _ _ h
  | some a=>obtain ⟨b,_,_,rfl⟩:=vrel_ptr.1 h;exact one _ _ h
 case slice a l c=>
  cases a with
  | none=>obtain rfl:=vrel_slice_none.1 h;exact one _ _ h
  | some a=>obtain ⟨_,_,rfl,_⟩:=Za1 h;exact one _ _ h
 case map a=>
  cases a with
  | none=>obtain rfl:=vrel_map_none.1 h;exact one _ _ h
  | some a=>obtain ⟨b,_,rfl⟩:=vrel_map.1 h;exact one _ _ h
 case func fn f c=>obtain ⟨f',c',_,_,rfl⟩:=vrel_func.1 h;exact one _ _ h
 case iface t x=>obtain ⟨x',_,rfl⟩:=vrel_iface.1 h;exact one _ _ h
 case tuple cs=>obtain ⟨x',_,rfl⟩:=vrel_tuple.1 h;exact one _ _ h
 case chan r=>obtain ⟨a,c,rfl⟩:=ZcD h;exact one _ _ h
 case bool b=>obtain rfl:=vrel_bool.1 h;exact one _ _ h
 case int k i=>obtain rfl:=vrel_int.1 h;exact one _ _ h
 case float k i=>obtain rfl:=vrel_float.1 h;exact one _ _ h
 case complex k a b=>obtain rfl:=vrel_complex.1 h;exact one _ _ h
 case string b=>obtain rfl:=vrel_string.1 h;exact one _ _ h
 case nilFunc=>obtain rfl:=vrel_nilFunc.1 h;exact one _ _ h
 case nilIface=>obtain rfl:=vrel_nilIface.1 h;exact one _ _ h
def ZcO:Value→Bool
 | .bool _ | .int _ _ | .float _ _ | .complex _ _ _ | .string _ | .pointer none | .slice none _ _ | .map none | .nilFunc | .nilIface=>true
 | _=>false
def flat:Value→Bool
 | .agg cs=>cs.toList.all ZcO
 | .tuple cs=>cs.toList.all ZcO
 | .func (.func _) ⟨[]⟩ ⟨[]⟩=>true
 | v=>ZcO v
theorem Zby {ρ:Ren} {v v':Value} (h:ZcO v=true):VRel ρ v v'↔v'=v:=by
 cases v
 case bool b=>exact vrel_bool
 case int k i=>exact vrel_int
 case float k i=>exact vrel_float
 case complex k a b=>exact vrel_complex
 case string b=>exact vrel_string
 case nilFunc=>exact vrel_nilFunc
 case nilIface=>exact vrel_nilIface
 case pointer a=>cases a with
  | none=>exact vrel_ptr_none
  | some a=>simp [ZcO] at h
 case slice a l c=>cases a with
  | none=>exact vrel_slice_none
  | some a=>simp [ZcO] at h
 case map a=>cases a with
  | none=>exact vrel_map_none
  | some a=>simp [ZcO] at h
 all_goals simp [ZcO] at h
theorem ZcY {ρ:Ren}:∀{l l':List Value},l.all ZcO=true→(LRel (VRel ρ) l l'↔l'=l)
 | [],[],_=>by simp [LRel]
 | [],_::_,_=>by simp [LRel]
 | _::_,[],_=>by simp [LRel]
 | a::l,b::m,h=>by
  simp only [List.all_cons,Bool.and_eq_true] at h;simp only [LRel,Zby h.1,ZcY h.2,List.cons.injEq]
theorem ZaR {ρ:Ren} {v v':Value} (h:flat v=true):VRel ρ v v'↔v'=v:=by
 by_cases h1:ZcO v=true
 ·exact Zby h1
 ·cases v<;>try exact absurd h h1
  case agg cs=>
   rw [vrel_agg]
   constructor
   ·rintro ⟨cs',hc,rfl⟩;rw [ZcY h] at hc;rw [hc]
   ·rintro rfl;exact ⟨cs.toList,(ZcY h).2 rfl,by simp⟩
  case tuple cs=>
   rw [vrel_tuple]
   constructor
   ·rintro ⟨cs',hc,rfl⟩;rw [ZcY h] at hc;rw [hc]
   ·rintro rfl;exact ⟨cs.toList,(ZcY h).2 rfl,by simp⟩
  case func fn f c=>
   obtain ⟨f⟩:=f;obtain ⟨c⟩:=c;cases fn<;>cases f<;>cases c<;>simp [flat,ZcO] at h;rw [vrel_func]
   constructor
   ·rintro ⟨f',c',hf,hc,rfl⟩;cases f'<;>cases c'<;>first|rfl|exact hf.elim|exact hc.elim
   ·rintro rfl;exact ⟨[],[],trivial,trivial,rfl⟩
abbrev Regs:Type:=T Value
noncomputable def rget (r:Regs) (t:Nat):Value:=tget undef r t
noncomputable def rput (r:Regs) (t:Nat) (v:Value):Regs:=tset undef r t v
theorem rget_rput (r:Regs) (i j:Nat) (v:Value):rget (rput r i v) j=if i=j then v else rget r j:=ZjH _ _ _ _ _
noncomputable def ZaI:List Value→Nat→Regs→Regs
 | [],_,r=>r
 | v::l,i,r=>ZaI l (i+1) (rput r i v)
noncomputable def ZaY {α:Type} (P:Program):Sem α→Option α
 | .pure a=>some a
 | .program k=>ZaY P (k P)
 | _=>none
noncomputable def aev (G:Nat) (r:Regs):Operand→Option Value
 | .tmp t=>some (rget r t)
 | .const v=>if flat v then some v else none
 | .global g=>if g<G then some (.pointer (some ⟨g,0,none⟩)) else none
 | .func f=>some (.func (.func f) #[] #[])
noncomputable def aevs (G:Nat) (r:Regs):List Operand→Option (List Value)
 | []=>some []
 | x::l=>match aev G r x with
  | none=>none
  | some v=>match aevs G r l with
   | none=>none
   | some vs=>some (v::vs)
noncomputable def ZaN (G:Nat) (r:Regs):List (Nat×Operand)→Option (List (Nat×Value))
 | []=>some []
 | x::l=>match aev G r x.2 with
  | none=>none
  | some v=>match ZaN G r l with
   | none=>none
   | some vs=>some ((x.1,v)::vs)
noncomputable def aopt (G:Nat) (r:Regs):Option Operand→Option (Option Value)
 | none=>some none
 | some x=>match aev G r x with
  | none=>none
  | some v=>some (some v)
noncomputable def known (v:Value):Bool:=match v with | .chan none=>false|_=>true
noncomputable def Zcm (b:Blk):Bool:=Nat.beq b.kind 1||Nat.beq b.kind 2
noncomputable def ZmQ {α:Type} (l:List α):Nat→Bool:=
 @List.rec α (fun _=>Nat→Bool) (fun n=>Nat.beq n 0) (fun _ _ ih n=>bite (Nat.beq n 0) true (ih (Nat.pred n))) l
theorem ZaJ {α:Type}:∀(l:List α) (n:Nat),ZmQ l n=Nat.ble n l.length
 | [],0=>rfl
 | [],_+1=>rfl
 | _::_,0=>rfl
 | _::l,n+1=>ZaJ l n
noncomputable def Zav (σ:AS) (a:Addr) (n:Nat):Option (List Value):=
 if Zcm (σ.get a.block)&&ZmQ (σ.get a.block).vals (a.off+n) then some (((σ.get a.block).vals.drop a.off).take n)
 else if Nat.beq (σ.get a.block).kind 5&&ZmQ (σ.get a.block).vals (a.off+n)&&(((σ.get a.block).vals.drop a.off).take n).all known then some (((σ.get a.block).vals.drop a.off).take n)
 else none
noncomputable def ZdV {α:Type}:List α→List α→List α
 | l,[]=>l
 | [],_=>[]
 | _::l,c::cs=>c::ZdV l cs
noncomputable def Za3 {α:Type}:List α→Nat→List α→List α
 | l,0,cs=>ZdV l cs
 | [],_,_=>[]
 | a::l,n+1,cs=>a::Za3 l n cs
noncomputable def one (v:Value):Bool:=match v with | .agg _ | .tuple _=>false|_=>true
noncomputable def Zbc (σ:AS) (a:Addr) (cs:List Value):Option AS:=
 if Zcm (σ.get a.block)&&ZmQ (σ.get a.block).vals (a.off+cs.length)&&cs.all one then
  some (match cs with
   | []=>σ
   | _::_=>σ.put a.block { σ.get a.block with vals:=Za3 (σ.get a.block).vals a.off cs })
 else none
noncomputable def ZgE:TypeDesc→Bool
 | .struct _ | .array _ _=>true
 | _=>false
noncomputable def Zat (P:Program) (σ:AS) (t:TypeId):Value→Option Value
 | .pointer (some a)=>match P.underlying t with
  | none=>none
  | some d=>
   if ZgE d then match P.info? t with
    | none=>none
    | some i=>match Zav σ a i.size with
     | none=>none
     | some cs=>some (.agg cs.toArray)
   else match Zav σ a 1 with
    | some [v]=>some v
    | _=>none
 | _=>none
noncomputable def ZaK (P:Program) (σ:AS) (t:TypeId) (x:Value):Value→Option AS
 | .pointer (some a)=>match P.info? t with
  | none=>none
  | some i=>if Nat.beq x.cells.size i.size then Zbc σ a x.cells.toList else none
 | _=>none
noncomputable def aRow (σ:AS) (elem:TypeId) (cs:List Value):AS:=σ.new ⟨1,elem,0,cs,[]⟩
noncomputable def Za4 (P:Program) (s:TypeId) (f:Nat):Value→Option Value
 | .pointer (some a)=>match P.underlying s with
  | some (.struct fields)=>match fields[f]? with
   | some fd=>match P.info? fd.type with
    | some i=>if Nat.beq i.size 0 then none else some (.pointer (some (a.add fd.offset)))
    | none=>none
   | none=>none
  | _=>none
 | _=>none
noncomputable def inR (i:Int) (n:Nat):Bool:=match i with
 | .ofNat m=>Nat.blt m n
 | .negSucc _=>false
theorem Zlr (i:Int) (n:Nat):inR i n=true↔0≤i∧i<n:=by
 cases i with
 | ofNat m=>
  show Nat.blt m n=true↔_;rw [Nat.blt_eq]
  constructor
  ·intro h;exact ⟨Int.natCast_nonneg m,Int.ofNat_lt.2 h⟩
  ·intro h;exact Int.ofNat_lt.1 h.2
 | negSucc m=>
  constructor
  ·intro h;cases h
  ·intro h;have:=h.1;omega
noncomputable def Zal (P:Program) (t:TypeId) (x ix:Value):Option Value:=
 match ix with
 | .int _ i=>match P.underlying t,x with
  | some (.array len elem),.pointer (some a)=>match P.info? elem with
   | some inf=>if 0≤i∧i<len then some (.pointer (some (a.add (i.toNat*inf.size)))) else none
   | none=>none
  | some (.slice elem),.slice (some a) len _=>match P.info? elem with
   | some inf=>if inR i len=true then some (.pointer (some (a.add (i.toNat*inf.size)))) else none
   | none=>none
  | _,_=>none
 | _=>none
noncomputable def Zqu (P:Program) (t:TypeId) (cs:List Value) (off:Nat):Option Value:=
 match P.underlying t with
 | none=>none
 | some d=>
  if ZgE d then match P.info? t with
   | none=>none
   | some i=>some (.agg ((cs.take (off+i.size)).drop off).toArray)
  else cs[off]?
noncomputable def Zjv (P:Program) (t:TypeId) (f:Nat):Value→Option Value
 | .agg cs=>match P.underlying t with
  | some (.struct fields)=>match fields[f]? with
   | some fd=>Zqu P fd.type cs.toList fd.offset
   | none=>none
  | _=>none
 | _=>none
noncomputable def Zju (P:Program) (t:TypeId) (x ix:Value):Option Value:=
 match ix with
 | .int _ i=>match P.underlying t,x with
  | some (.array len elem),.agg cs=>match P.info? elem with
   | some inf=>if 0≤i∧i<len then Zqu P elem cs.toList (i.toNat*inf.size) else none
   | none=>none
  | some .string,.string s=>if 0≤i then match s[i.toNat]? with
   | some b=>some (.int .u8 b.toNat)
   | none=>none
   else none
  | _,_=>none
 | _=>none
noncomputable def ZdX (c:Nat):Nat:=if Nat.blt c Zax then c else c-Zax
noncomputable def Zc6 (c:Nat):Bool:=Nat.ble Zax c
noncomputable def ZeA (x:Value) (y:Nat):Option Nat:=
 match x with
 | .int _ i=>if 0≤i∧i≤y then some i.toNat else none
 | _=>none
noncomputable def ZbW (x:Option Value) (y d:Nat):Option Nat:=
 match x with
 | none=>some d
 | some v=>ZeA v y
noncomputable def Zbg (size:Nat) (base:Option Addr) (len cap:Nat) (lo hi mx:Option Value):Option Value:=
 match mx with
 | some v=>match ZeA v (ZdX cap),hi with
  | some m,some hv=>match ZeA hv m with
   | some h=>match ZbW lo h 0 with
    | some l=>
     if Nat.ble Zax m then none else
     some (.slice (if Nat.beq m l then base else base.map (·.add (l*size))) (h-l) (m-l))
    | none=>none
   | none=>none
  | _,_=>none
 | none=>match ZbW hi (ZdX cap) len with
  | some h=>match ZbW lo h 0 with
   | some l=>
    if Zc6 cap then
     if Nat.beq l 0 then some (.slice base h cap)
     else if Nat.blt l (ZdX cap) then some (.slice (base.map (·.add (l*size))) (h-l) (Zax+(ZdX cap-l)))
     else if Nat.beq h l then base.map fun a=>.chan (some (Zea a cap l size)) else none
    else some (.slice (if Nat.beq cap l then base else base.map (·.add (l*size))) (h-l) (cap-l))
   | none=>none
  | none=>none
noncomputable def Zbv (P:Program) (σ:AS) (t:TypeId) (x:Value) (lo hi mx:Option Value):Option Value:=
 match P.underlying t,x with
 | some (.slice elem),.slice base len cap=>match P.info? elem with
  | some inf=>
   if Zc6 cap then match base with
    | some a=>if Nat.beq (σ.get a.block).kind 2&&Nat.beq (σ.get a.block).esz inf.size then Zbg inf.size base len cap lo hi mx else none
    | none=>none
   else match base with
    | some a=>if a.spot.isSome then none else Zbg inf.size (some a) len cap lo hi mx
    | none=>Zbg inf.size none len cap lo hi mx
  | none=>none
 | some .string,.string s=>match mx with
  | some _=>none
  | none=>match ZbW hi s.size s.size with
   | some h=>match ZbW lo h 0 with
    | some l=>some (.string (s.extract l h))
    | none=>none
   | none=>none
 | some (.array n elem),.pointer (some a)=>match P.info? elem with
  | some inf=>if Nat.blt n Zax then Zbg inf.size (some a) n n lo hi mx else none
  | none=>none
 | _,_=>none
noncomputable def ZfT:TypeDesc→Bool
 | .bool | .int _ | .string=>true
 | _=>false
noncomputable def ZkP (d:TypeDesc) (k:Value):List (Value×Value)→Nat→Option (Option (Nat×Value))
 | [],_=>some none
 | e::l,i=>match Instr.sameNow d k e.1 with
  | some true=>some (some (i,e.2))
  | some false=>ZkP d k l (i+1)
  | none=>none
noncomputable def ZiN (P:Program) (t:TypeId) (k:Value):List (Value×Value)→Nat→Option (Option (Nat×Value))
 | [],_=>some none
 | e::l,i=>if flat e.1 then match ZaY P (Op.equal t k e.1) with
   | some true=>if Instr.sameBits 10000 e.1 k then some (some (i,e.2)) else none
   | some false=>ZiN P t k l (i+1)
   | none=>none
  else none
noncomputable def ZrB (P:Program) (t:TypeId) (k:Value):Bool:=
 flat k&&(ZaY P (Instr.checkKey true 10000 t k)).isSome&&(ZaY P (Instr.checkKey false 10000 t k)).isSome
noncomputable def Ze2 (P:Program) (t:TypeId) (d:TypeDesc) (k:Value) (l:List (Value×Value)):Option (Option (Nat×Value)):=
 if ZfT d then ZkP d k l 0
 else if ZgE d&&ZrB P t k then ZiN P t k l 0
 else none
noncomputable def ZnI (σ:AS):Value→Option (List (Value×Value))
 | .map none=>some []
 | .map (some r)=>if Nat.beq (σ.get r).kind 3 then some (σ.get r).ents else none
 | _=>none
noncomputable def ZbX (P:Program) (σ:AS) (t:TypeId) (m k:Value) (ok:Bool):Option Value:=
 match P.underlying t with
 | some (.map key elem)=>match P.underlying key with
  | some d=>match ZnI σ m with
    | some es=>match Ze2 P key d k es with
     | some (some (_,v))=>some (if ok then .tuple #[v,.bool true] else v)
     | some none=>match P.info? elem with
      | some inf=>match inf.zero with
       | some z=>if flat z then some (if ok then .tuple #[z,.bool false] else z) else none
       | none=>none
      | none=>none
     | none=>none
    | none=>none
  | none=>none
 | _=>none
noncomputable def grown (b:Blk) (k v:Value):Blk:=⟨b.kind,b.elem,b.esz+1,b.vals++[.int .i64 b.esz],b.ents++[(k,v)]⟩
noncomputable def Zce (P:Program) (σ:AS) (t:TypeId) (m k v:Value):Option AS:=
 match P.underlying t,m with
 | some (.map key _),.map (some r)=>match P.underlying key with
  | some d=>if Nat.beq (σ.get r).kind 3 then match Ze2 P key d k (σ.get r).ents with
    | some (some (i,_))=>some (σ.put r { σ.get r with ents:=(σ.get r).ents.set i (k,v) })
    | some none=>some (σ.put r (grown (σ.get r) k v))
    | none=>none
   else none
  | none=>none
 | _,_=>none
noncomputable def ZcQ (P:Program) (σ:AS) (t:TypeId) (m k:Value):Option AS:=
 match P.underlying t,m with
 | some (.map key _),.map (some r)=>match P.underlying key with
  | some d=>if Nat.beq (σ.get r).kind 3 then match Ze2 P key d k (σ.get r).ents with
    | some (some (i,_))=>some (σ.put r { σ.get r with ents:=(σ.get r).ents.eraseIdx i,vals:=(σ.get r).vals.eraseIdx i })
    | some none=>some σ
    | none=>none
   else none
  | none=>none
 | some (.map key _),.map none=>match P.underlying key with
  | some d=>if ZfT d then some σ else none
  | none=>none
 | _,_=>none
noncomputable def Zcx (σ:AS) (a:Addr) (n:Nat):Option (List Value):=match a.spot with
 | none=>Zav σ a n
 | some _=>if Nat.beq n 0 then some [] else none
theorem ZdJ {σ:AS} {a:Addr} {n:Nat} (h:a.spot=none):Zcx σ a n=Zav σ a n:=by unfold Zcx;rw [h]
theorem Zbh {σ:AS} {b off n:Nat}:Zcx σ ⟨b,off,none⟩ n=Zav σ ⟨b,off,none⟩ n:=rfl
theorem Zd2 {σ:AS} {a:Addr} {n:Nat} {cs:List Value} (h:a.spot≠none) (hc:Zcx σ a n=some cs):n=0∧cs=[]:=by
 unfold Zcx at hc;split at hc
 ·rename_i e;exact absurd e h
 ·split at hc
  ·rename_i hn;cases hc;exact ⟨zK hn,rfl⟩
  ·cases hc
noncomputable def Zb4 (σ:AS) (a:Addr) (cs:List Value):Option AS:=match a.spot with
 | none=>Zbc σ a cs
 | some _=>match cs with | []=>some σ|_::_=>none
theorem ZiJ {σ:AS} {a:Addr} {cs:List Value} (h:a.spot=none):Zb4 σ a cs=Zbc σ a cs:=by unfold Zb4;rw [h]
theorem ZgF {σ:AS} {b off:Nat} {cs:List Value}:Zb4 σ ⟨b,off,none⟩ cs=Zbc σ ⟨b,off,none⟩ cs:=rfl
theorem ZhY {σ σ':AS} {a:Addr} {cs:List Value} (h:a.spot≠none) (hc:Zb4 σ a cs=some σ'):cs=[]∧σ'=σ:=by
 unfold Zb4 at hc;split at hc
 ·rename_i e;exact absurd e h
 ·cases cs with
  | nil=>cases hc;exact ⟨rfl,rfl⟩
  | cons=>cases hc
noncomputable def aLen (P:Program) (σ:AS) (t:TypeId) (x:Value):Option Value:=
 match P.underlying t,x with
 | some .string,.string s=>some (goInt s.size)
 | some (.array n _),_=>some (goInt n)
 | some (.slice _),.slice _ n _=>some (goInt n)
 | some (.slice _),.chan (some _)=>some (goInt 0)
 | some (.map _ _),.map none=>some (goInt 0)
 | some (.map _ _),.map (some r)=>if Nat.beq (σ.get r).kind 3 then some (goInt (σ.get r).ents.length) else none
 | _,_=>none
noncomputable def aCap (P:Program) (t:TypeId) (x:Value):Option Value:=
 match P.underlying t,x with
 | some (.slice _),.slice _ _ n=>if Nat.blt n Zax then some (goInt n) else none
 | some (.array n _),_=>some (goInt n)
 | _,_=>none
noncomputable def Zbd (P:Program) (σ:AS) (zeros:Bool) (inf:TypeInfo) (x:Value):Option (Nat×List Value):=
 if zeros then match x,inf.zero with
  | .int _ n,some z=>
   if 0≤n∧n≤1000000∧flat z then some (n.toNat,(Builtin.zeroCells z.cells n.toNat).toList) else none
  | _,_=>none
 else match x with
  | .slice none n _=>some (n,[])
  | .slice (some a) n _=>match Zcx σ a (n*inf.size) with
   | some cs=>some (n,cs)
   | none=>none
  | .chan (some _)=>some (0,[])
  | .string s=>if Nat.beq inf.size 1 then some (s.size,s.data.toList.map fun b=>.int .u8 b.toNat) else none
  | _=>none
noncomputable def Zd8 (σ:AS) (size n:Nat):Option Addr→Option (List Value)
 | none=>some []
 | some a=>Zcx σ a (n*size)
noncomputable def ZaU (P:Program) (σ:AS) (argTypes:Array TypeId) (s x:Value):Option (Value×AS):=
 match argTypes[0]?,argTypes[1]?,s with
 | some st,some xt,.slice base sLen sCap=>match P.underlying st,P.underlying xt with
  | some (.slice elem),some xd=>match P.info? elem with
   | some inf=>match inf.zero with
    | some z=>
     if Nat.beq inf.size 0||!Nat.beq z.cells.size inf.size||!flat z then none else
     match Zbd P σ (match xd with | .int _=>true|_=>false) inf x with
     | some (n,new)=>
      let need:=sLen+n
      if !Nat.ble ((4*need+4000)*inf.bytes) 281474976710656||!Nat.ble need 1000000000000||!Nat.beq new.length (n*inf.size) then none else
      if Zc6 sCap then match base with
       | some a=>
        if !(Nat.beq (σ.get a.block).kind 2&&Nat.beq (σ.get a.block).esz inf.size) then none else
        if Nat.ble need (ZdX sCap) then match Zbc σ { a with off:=a.off+sLen*inf.size } new with
         | some σ'=>some (.slice base need sCap,σ')
         | none=>none
        else if Nat.beq a.off 0&&Nat.ble (sLen*inf.size) (σ.get a.block).vals.length&&Nat.beq (σ.get a.block).elem elem&&new.all one then
         some (.slice (some ⟨σ.next,0,none⟩) need (Zax+need),
          (σ.put a.block Blk.dead).new ⟨2,elem,inf.size,(σ.get a.block).vals.take (sLen*inf.size)++new,[]⟩)
        else none
       | none=>none
      else if Nat.ble need sCap then match base with
       | some a=>match Zb4 σ { a with off:=a.off+sLen*inf.size } new with
        | some σ'=>some (.slice base need sCap,σ')
        | none=>none
       | none=>if Nat.beq n 0 then some (.slice none need sCap,σ) else none
      else match Zd8 σ inf.size sLen base with
       | some old=>if Nat.beq old.length (sLen*inf.size) then some (.slice (some ⟨σ.next,0,none⟩) need (Zax+need),σ.new ⟨2,elem,inf.size,old++new,[]⟩) else none
       | none=>none
     | none=>none
    | none=>none
   | none=>none
  | _,_=>none
 | _,_,_=>none
noncomputable def ZgK (P:Program) (σ:AS) (argTypes:Array TypeId) (dst src:Value):Option (Value×AS):=
 match argTypes[0]?,dst with
 | some dt,.slice base dLen _=>match P.underlying dt with
  | some (.slice elem)=>match P.info? elem with
   | some inf=>
    match (match src with | .slice _ n _=>some n | .string s=>if Nat.beq inf.size 1 then some s.size else none|_=>none:Option Nat) with
    | some m=>
     let n:=Nat.min m dLen
     match (match src with
      | .slice none _ _=>some []
      | .slice (some a) _ _=>Zcx σ a (n*inf.size)
      | .string s=>some ((s.extract 0 n).data.toList.map fun b=>.int .u8 b.toNat)
      | _=>none:Option (List Value)) with
     | some cs=>match base with
      | some a=>match Zb4 σ a cs with
       | some σ'=>some (goInt n,σ')
       | none=>none
      | none=>some (goInt n,σ)
     | none=>none
    | none=>none
   | none=>none
  | _=>none
 | _,_=>none
noncomputable def ZoH:Value→Bool | .chan (some _)=>true|_=>false
noncomputable def Zhd:Value→Bool | .slice _ _ _=>true | .chan (some _)=>true|_=>false
noncomputable def ZkV (P:Program) (σ:AS) (argTypes:Array TypeId) (dst src:Value):Option (Value×AS):=
 if (ZoH dst||ZoH src)&&Zhd dst&&Zhd src then
  match argTypes[0]? with
  | some dt=>match P.underlying dt with
   | some (.slice elem)=>match P.info? elem with
    | some _=>some (goInt 0,σ)
    | none=>none
   | _=>none
  | none=>none
 else ZgK P σ argTypes dst src
noncomputable def ZbM (P:Program) (σ:AS) (t:TypeId) (l c:Value):Option (Value×AS):=
 match P.underlying t,l,c with
 | some (.slice elem),.int _ l,.int _ c=>match P.info? elem with
  | some inf=>match inf.zero with
   | some z=>
    if 0≤l∧l≤c∧c≤1000000∧(inf.bytes*c≤281474976710656)∧flat z∧0<z.cells.size then
     some (.slice (some ⟨σ.next,0,none⟩) l.toNat c.toNat,
      aRow σ elem ((Array.range (c.toNat*inf.size)).map (z.cells[· % z.cells.size]!)).toList)
    else none
   | none=>none
  | none=>none
 | _,_,_=>none
noncomputable def Zib (o:Option Value):Option Value:=match o with|some v=>if flat v then some v else none|none=>none
noncomputable def ZiK (d:TypeDesc) (x y:Value):Option Bool:=
 match d,x,y with
 | .slice _,.slice (some _) _ _,.slice none _ _ | .slice _,.slice none _ _,.slice (some _) _ _=>some false
 | .map _ _,.map (some _),.map none | .map _ _,.map none,.map (some _)=>some false
 | .pointer _,.pointer (some _),.pointer none | .pointer _,.pointer none,.pointer (some _)=>some false
 | .func _ _ _,.func _ _ _,.nilFunc | .func _ _ _,.nilFunc,.func _ _ _=>some false
 | .interface _,.iface _ _,.nilIface | .interface _,.nilIface,.iface _ _=>some false
 | _,_,_=>none
noncomputable def ilt:Int→Int→Bool
 | .ofNat a,.ofNat b=>Nat.blt a b
 | .ofNat _,.negSucc _=>false
 | .negSucc _,.ofNat _=>true
 | .negSucc a,.negSucc b=>Nat.blt b a
noncomputable def ieq:Int→Int→Bool
 | .ofNat a,.ofNat b=>Nat.beq a b
 | .negSucc a,.negSucc b=>Nat.beq a b
 | _,_=>false
noncomputable def ZoG (x:Int):Int:=match x with
 | .ofNat n=>bite (Nat.blt n 9223372036854775808) (.ofNat n) (IntKind.i64.wrap (.ofNat n))
 | .negSucc n=>bite (Nat.blt n 9223372036854775808) (.negSucc n) (IntKind.i64.wrap (.negSucc n))
noncomputable def Zp3 (k:IntKind) (x:Int):Int:=match k with
 | .i64=>ZoG x
 | k=>k.wrap x
theorem ilt_eq (a b:Int):ilt a b=decide (a<b):=by
 rw [Bool.eq_iff_iff];cases a<;>cases b<;>simp [ilt,Nat.blt_eq]<;>omega
theorem ZqM (a b:Int):ieq a b=(a == b):=by
 rw [Bool.eq_iff_iff];cases a<;>cases b<;>simp [ieq]<;>omega
theorem Zas (x:Int) (h1:-9223372036854775808≤x) (h2:x<9223372036854775808):IntKind.i64.wrap x=x:=by
 exact IntWalk.i64_in x ⟨h1,by omega⟩
theorem Zp2 (k:IntKind) (x:Int):Zp3 k x=k.wrap x:=by
 cases k
 case i64=>
  show ZoG x=_;cases x with
  | ofNat n=>
   show bite (Nat.blt n 9223372036854775808) (Int.ofNat n) (IntKind.i64.wrap (.ofNat n))=_;rw [Zab];split
   ·rename_i h;rw [Nat.blt_eq] at h;rw [Zas (.ofNat n) (by show (-9223372036854775808:Int)≤(n:Int);omega) (by show (n:Int)<9223372036854775808;omega)]
   ·rfl
  | negSucc n=>
   show bite (Nat.blt n 9223372036854775808) (Int.negSucc n) (IntKind.i64.wrap (.negSucc n))=_;rw [Zab];split
   ·rename_i h;rw [Nat.blt_eq] at h;rw [Zas (.negSucc n) (by omega) (by omega)]
   ·rfl
 all_goals rfl
noncomputable def aInt (op:BinOp) (k:IntKind) (a b:Int):Option Value:=
 match op with
 | .add=>some (.int k (Zp3 k (a+b)))
 | .sub=>some (.int k (Zp3 k (a-b)))
 | .mul=>some (.int k (Zp3 k (a*b)))
 | .eql=>some (.bool (ieq a b))
 | .neq=>some (.bool (!ieq a b))
 | .lss=>some (.bool (ilt a b))
 | .leq=>some (.bool (!ilt b a))
 | .gtr=>some (.bool (ilt b a))
 | .geq=>some (.bool (!ilt a b))
 | _=>none
theorem Zam (op:BinOp) (k:IntKind) (a b:Int):aInt op k a b=(match op with
 | .add=>some (.int k (k.wrap (a+b)))
 | .sub=>some (.int k (k.wrap (a-b)))
 | .mul=>some (.int k (k.wrap (a*b)))
 | .eql=>some (.bool (a == b))
 | .neq=>some (.bool (a != b))
 | .lss=>some (.bool (decide (a<b)))
 | .leq=>some (.bool (decide (a≤b)))
 | .gtr=>some (.bool (decide (a>b)))
 | .geq=>some (.bool (decide (a≥b)))
 | _=>none):=by
 cases op<;>simp only [aInt,Zp2,ZqM,ilt_eq]<;>first|rfl | (congr 2;rw [Bool.eq_iff_iff];simp)
noncomputable def aIdx (z:Int):List Value→Nat→Option Nat
 | [],_=>none
 | .int _ a::l,i=>if ieq a z then some i else aIdx z l (i+1)
 | _::_,_=>none
noncomputable def ZgJ (P:Program) (σ:AS) (t:TypeId) (m k:Value):Option (Value×AS):=
 match P.underlying t,m with
 | some (.map key elem),.map (some r)=>match P.underlying key with
  | some d=>if Nat.beq (σ.get r).kind 3 then match Ze2 P key d k (σ.get r).ents with
    | some (some (i,v))=>match (σ.get r).vals[i]? with
     | some s=>match (σ.get r).ents[i]? with
      | some e=>some (.tuple #[v,s],σ.put r { σ.get r with ents:=(σ.get r).ents.set i (k,e.2) })
      | none=>none
     | none=>none
    | some none=>match P.info? elem with
     | some inf=>match inf.zero with
      | some z=>if flat z then some (.tuple #[z,.int .i64 (σ.get r).esz],σ.put r (grown (σ.get r) k z)) else none
      | none=>none
     | none=>none
    | none=>none
   else none
  | none=>none
 | _,_=>none
noncomputable def Zb6 (σ:AS) (m s v:Value):Option AS:=
 match m,s with
 | .map (some r),.int _ z=>if Nat.beq (σ.get r).kind 3 then match aIdx z (σ.get r).vals 0 with
   | some i=>match (σ.get r).ents[i]? with
    | some e=>some (σ.put r { σ.get r with ents:=(σ.get r).ents.set i (e.1,v) })
    | none=>none
   | none=>none
  else none
 | _,_=>none
noncomputable def ZaB (op:BinOp):Value→Value→Option Value
 | .int k a,.int k' b=>if k=k' then aInt op k a b else none
 | _,_=>none
noncomputable def Zdm (P:Program) (op:BinOp) (t:TypeId) (xo yo:Operand) (x y:Value):Option Value:=
 if flat x&&flat y then Zib (ZaY P (do eqGuard op t xo yo x y;binOp op t x y))
 else match op,P.underlying t with
  | .eql,some d=>(ZiK d x y).map .bool
  | .neq,some d=>(ZiK d x y).map fun b=>.bool (!b)
  | _,_=>none
noncomputable def aBin (P:Program) (op:BinOp) (t:TypeId) (xo yo:Operand) (x y:Value):Option Value:=
 match ZaB op x y with
 | some v=>some v
 | none=>Zdm P op t xo yo x y
noncomputable def Zgq (f:Value→Value→Sem Value) (P:Program) (args:List Value):Option Value:=
 if args.all ZcO then match args with
  | []=>none
  | x::l=>Zib (ZaY P (l.foldlM f x))
 else none
noncomputable def Ze4 (P:Program) (σ:AS) (t:TypeId) (x:Value):Option AS:=
 match P.underlying t,x with
 | some (.slice _),.slice none _ _=>some σ
 | some (.slice elem),.slice (some a) n _=>if Nat.beq n 0 then some σ else match P.info? elem with
  | some inf=>match inf.zero with
   | some z=>if flat z then Zbc σ a (Builtin.zeroCells z.cells n).toList else none
   | none=>none
  | none=>none
 | _,_=>none
noncomputable def Zaf (P:Program) (σ:AS) (b:Builtin) (argTypes:Array TypeId) (args:List Value):Option (Value×AS):=
 match b,args with
 | .len,[x]=>match argTypes[0]? with
  | some t=>match aLen P σ t x with
   | some v=>some (v,σ)
   | none=>none
  | none=>none
 | .cap,[x]=>match argTypes[0]? with
  | some t=>match aCap P t x with
   | some v=>some (v,σ)
   | none=>none
  | none=>none
 | .append,[s,x]=>ZaU P σ argTypes s x
 | .copy,[d,s]=>ZkV P σ argTypes d s
 | .delete,[m,k]=>match argTypes[0]? with
  | some t=>match ZcQ P σ t m k with
   | some σ'=>some (.tuple #[],σ')
   | none=>none
  | none=>none
 | .clear,[x]=>match argTypes[0]? with
  | some t=>match Ze4 P σ t x with
   | some σ'=>some (.tuple #[],σ')
   | none=>none
  | none=>none
 | .min,args=>match Zgq Builtin.min2 P args with
  | some v=>some (v,σ)
  | none=>none
 | .max,args=>match Zgq Builtin.max2 P args with
  | some v=>some (v,σ)
  | none=>none
 | _,_=>none
noncomputable def ann (σ:AS) (o:Option Value):Option (Value×AS):=match o with|some v=>some (v,σ)|none=>none
noncomputable def unn (o:Option AS):Option (Value×AS):=match o with|some σ=>some (undef,σ)|none=>none
noncomputable def Zdb (P:Program) (t:TypeId) (parts:List (Nat×Value)):Option Value:=
 match P.info? t with
 | some inf=>match inf.zero with
  | some z=>if flat z then match P.underlying t with
    | some (.struct fields)=>match fields.toList.mapM (fun f=>(P.info? f.type).map fun i=>(f.offset,i.size)) with
     | some places=>match Instr.fill (places.toArray[·]?) z.cells parts with
      | some cells=>some (.agg cells)
      | none=>none
     | none=>none
    | some (.array _ elem)=>match P.info? elem with
     | some i=>match Instr.fill (fun k=>some (k*i.size,i.size)) z.cells parts with
      | some cells=>some (.agg cells)
      | none=>none
     | none=>none
    | _=>none
   else none
  | none=>none
 | none=>none
noncomputable def Zaz (P:Program) (σ:AS) (t:TypeId) (len:Nat) (parts:List (Nat×Value)):Option (Value×AS):=
 match P.underlying t with
 | some (.slice elem)=>match P.info? elem with
  | some inf=>
   if Nat.ble (len*inf.size) 16777216&&Nat.blt len Zax then
    match (if Nat.beq (len*inf.size) 0 then some #[] else match inf.zero with|some z=>if flat z&&Nat.blt 0 z.cells.size then some z.cells else none|none=>none:Option (Array Value)) with
    | some zero=>match Instr.fill (fun i=>some (i*inf.size,inf.size)) ((Array.range (len*inf.size)).map (zero[· % zero.size]!)) parts with
     | some cells=>some (.slice (some ⟨σ.next,0,none⟩) len len,aRow σ elem cells.toList)
     | none=>none
    | none=>none
   else none
  | none=>none
 | _=>none
noncomputable def ZaH (G:Nat) (r:Regs) (σ:AS) (c a b:Operand):Option (Value×AS):=
 match aev G r c,aev G r a,aev G r b with
 | some (.bool t),some x,some y=>some (if t then x else y,σ)
 | _,_,_=>none
noncomputable def Zcl (P:Program) (σ:AS) (elem:TypeId):Option (Value×AS):=
 match P.info? elem with
 | some inf=>match inf.zero with
  | some z=>if flat z then some (.pointer (some ⟨σ.next,0,none⟩),aRow σ elem z.cells.toList) else none
  | none=>none
 | none=>none
noncomputable def Zbm (G:Nat) (r:Regs) (σ:AS) (elem:TypeId) (x:Operand):Option (Value×AS):=
 match aev G r x with
 | some v=>some (.pointer (some ⟨σ.next,0,none⟩),aRow σ elem v.cells.toList)
 | none=>none
noncomputable def Zbl (P:Program) (G:Nat) (r:Regs) (σ:AS) (t:TypeId) (parts:Array (Nat×Operand)):Option (Value×AS):=
 match ZaN G r parts.toList with
 | some ps=>ann σ (Zdb P t ps)
 | none=>none
noncomputable def Zar (P:Program) (G:Nat) (r:Regs) (σ:AS) (t:TypeId) (len:Nat) (parts:Array (Nat×Operand)):Option (Value×AS):=
 match ZaN G r parts.toList with
 | some ps=>Zaz P σ t len ps
 | none=>none
noncomputable def Zag (P:Program) (G:Nat) (r:Regs) (σ:AS) (t:TypeId) (a:Operand):Option (Value×AS):=
 match aev G r a with
 | some v=>ann σ (Zat P σ t v)
 | none=>none
noncomputable def ZaE (P:Program) (G:Nat) (r:Regs) (σ:AS) (t:TypeId) (a x:Operand):Option (Value×AS):=
 match aev G r a,aev G r x with
 | some p,some v=>unn (ZaK P σ t v p)
 | _,_=>none
noncomputable def Zbo (G:Nat) (r:Regs) (σ:AS) (x:Operand):Option (Value×AS):=
 match aev G r x with
 | some (.pointer (some a))=>some (.pointer (some a),σ)
 | some (.func (.func f) b c)=>some (.func (.func f) b c,σ)
 | some (.iface t v)=>some (.iface t v,σ)
 | _=>none
noncomputable def Zah (P:Program) (G:Nat) (r:Regs) (σ:AS) (op:BinOp) (t:TypeId) (x y:Operand):Option (Value×AS):=
 match aev G r x,aev G r y with
 | some a,some b=>ann σ (aBin P op t x y a b)
 | _,_=>none
noncomputable def opUn (P:Program) (G:Nat) (r:Regs) (σ:AS) (op:UnOp) (x:Operand):Option (Value×AS):=
 match aev G r x with
 | some a=>if flat a then ann σ (Zib (ZaY P (Op.unary op a))) else none
 | none=>none
noncomputable def Zgg (P:Program) (s d:TypeId):Bool:=
 match P.underlying s,P.underlying d with
 | some (.slice e),some .string=>match P.underlying e with
  | some (.int .u8)=>true
  | _=>false
 | _,_=>false
noncomputable def bytesOf:List Value→ByteArray→Option ByteArray
 | [],s=>some s
 | .int .u8 n::l,s=>bytesOf l (s.push (UInt8.ofNat n.toNat))
 | _,_=>none
noncomputable def ZiO (σ:AS):Value→Option Value
 | .slice (some a) n _=>match Zcx σ a n with
  | some cs=>match bytesOf cs .empty with
   | some s=>some (.string s)
   | none=>none
  | none=>none
 | _=>none
noncomputable def Zct (P:Program) (G:Nat) (r:Regs) (σ:AS) (s d:TypeId) (x:Operand):Option (Value×AS):=
 match aev G r x with
 | some a=>if ZcO a then ann σ (Zib (ZaY P (convert s d a))) else if Zgg P s d then ann σ (ZiO σ a) else none
 | none=>none
noncomputable def Zfc (P:Program) (G:Nat) (r:Regs) (σ:AS) (t:TypeId) (x:Operand):Option (Value×AS):=
 match aev G r x,P.underlying t with
 | some _,some (.interface _)=>none
 | some a,some _=>some (.iface t a,σ)
 | _,_=>none
noncomputable def Zd4 (G:Nat) (r:Regs) (σ:AS) (fn:Fn) (first captured:Array Operand):Option (Value×AS):=
 match aevs G r first.toList,aevs G r captured.toList with
 | some f,some c=>some (.func fn f.toArray c.toArray,σ)
 | _,_=>none
noncomputable def ZjY (P:Program) (G:Nat) (r:Regs) (σ:AS) (t:TypeId) (x:Operand):Option (Value×AS):=
 match P.underlying t,aev G r x with
 | some (.map _ _),some (.int _ _)=>some (.map (some σ.next),σ.new ⟨3,0,0,[],[]⟩)
 | _,_=>none
noncomputable def ZbN (P:Program) (G:Nat) (r:Regs) (σ:AS) (t:TypeId) (l c:Operand):Option (Value×AS):=
 match aev G r l,aev G r c with
 | some x,some y=>ZbM P σ t x y
 | _,_=>none
noncomputable def ZbE (P:Program) (G:Nat) (r:Regs) (σ:AS) (t:TypeId) (x:Operand) (lo hi mx:Option Operand):Option (Value×AS):=
 match aev G r x,aopt G r lo,aopt G r hi,aopt G r mx with
 | some v,some l,some h,some m=>ann σ (Zbv P σ t v l h m)
 | _,_,_,_=>none
noncomputable def Zac (P:Program) (G:Nat) (r:Regs) (σ:AS) (s:TypeId) (x:Operand) (f:Nat):Option (Value×AS):=
 match aev G r x with
 | some v=>ann σ (Za4 P s f v)
 | none=>none
noncomputable def Zfd (P:Program) (G:Nat) (r:Regs) (σ:AS) (t:TypeId) (x:Operand) (f:Nat):Option (Value×AS):=
 match aev G r x with
 | some v=>ann σ (Zjv P t f v)
 | none=>none
noncomputable def Zae (P:Program) (G:Nat) (r:Regs) (σ:AS) (t:TypeId) (x ix:Operand):Option (Value×AS):=
 match aev G r x,aev G r ix with
 | some v,some i=>ann σ (Zal P t v i)
 | _,_=>none
noncomputable def Zfb (P:Program) (G:Nat) (r:Regs) (σ:AS) (t:TypeId) (x ix:Operand):Option (Value×AS):=
 match aev G r x,aev G r ix with
 | some v,some i=>ann σ (Zju P t v i)
 | _,_=>none
noncomputable def Zba (P:Program) (G:Nat) (r:Regs) (σ:AS) (t:TypeId) (x ix:Operand) (ok:Bool):Option (Value×AS):=
 match aev G r x,aev G r ix with
 | some v,some i=>ann σ (ZbX P σ t v i ok)
 | _,_=>none
noncomputable def ZbG (P:Program) (G:Nat) (r:Regs) (σ:AS) (t:TypeId) (m k x:Operand):Option (Value×AS):=
 match aev G r m,aev G r k,aev G r x with
 | some a,some b,some c=>unn (Zce P σ t a b c)
 | _,_,_=>none
noncomputable def Zhm (P:Program) (G:Nat) (r:Regs) (σ:AS) (t:TypeId) (m k:Operand):Option (Value×AS):=
 match aev G r m,aev G r k with
 | some a,some b=>ZgJ P σ t a b
 | _,_=>none
noncomputable def ZcH (G:Nat) (r:Regs) (σ:AS) (m s x:Operand):Option (Value×AS):=
 match aev G r m,aev G r s,aev G r x with
 | some a,some b,some c=>unn (Zb6 σ a b c)
 | _,_,_=>none
noncomputable def Zbb (G:Nat) (r:Regs) (σ:AS) (t:Operand) (ix:Nat):Option (Value×AS):=
 match aev G r t with
 | some (.tuple vs)=>match vs[ix]? with
  | some v=>some (v,σ)
  | none=>none
 | _=>none
noncomputable def Zi4 (P:Program) (G:Nat) (r:Regs) (σ:AS) (t:TypeId) (x:Operand):Option (Value×AS):=
 match P.underlying t,aev G r x with
 | some .string,some (.string s)=>some (.pointer (some ⟨σ.next,0,none⟩),σ.new ⟨4,0,0,[.string s],[]⟩)
 | _,_=>none
noncomputable def Zmv (G:Nat) (r:Regs) (σ:AS) (it:Operand) (isString:Bool):Option (Value×AS):=
 match isString,aev G r it with
 | true,some (.pointer (some a))=>if Nat.beq a.off 0&&Nat.beq (σ.get a.block).kind 4 then match (σ.get a.block).vals with
   | [.string s]=>if Nat.blt (σ.get a.block).esz s.size then
     some (.tuple #[.bool true,goInt (σ.get a.block).esz,.int .i32 (Utf8.decode s (σ.get a.block).esz).1],σ.put a.block ⟨4,0,(σ.get a.block).esz+(Utf8.decode s (σ.get a.block).esz).2,[.string s],[]⟩)
     else some (.tuple #[.bool false],σ)
   | _=>none
  else none
 | _,_=>none
noncomputable def Zan (P:Program) (G:Nat) (r:Regs) (σ:AS) (c:Call):Option (Value×AS):=
 match c.callee with
 | .builtin b=>match aevs G r c.args.toList with
  | some vs=>Zaf P σ b c.argTypes vs
  | none=>none
 | _=>none
noncomputable def aOp (P:Program) (G:Nat) (r:Regs) (σ:AS):Op→Option (Value×AS)
 | .move x=>ann σ (aev G r x)
 | .assign x=>ann σ (aev G r x)
 | .pick c a b=>ZaH G r σ c a b
 | .alloc elem=>Zcl P σ elem
 | .box elem x=>Zbm G r σ elem x
 | .build t parts=>Zbl P G r σ t parts
 | .buildSlice t len parts=>Zar P G r σ t len parts
 | .load t a=>Zag P G r σ t a
 | .store t a x=>ZaE P G r σ t a x
 | .nilCheck x=>Zbo G r σ x
 | .binOp op t x y _=>Zah P G r σ op t x y
 | .unOp op _ x=>opUn P G r σ op x
 | .convert s d x=>Zct P G r σ s d x
 | .makeInterface t x=>Zfc P G r σ t x
 | .makeFunc fn first captured=>Zd4 G r σ fn first captured
 | .makeMap _ none=>some (.map (some σ.next),σ.new ⟨3,0,0,[],[]⟩)
 | .makeMap t (some x)=>ZjY P G r σ t x
 | .makeSlice t l c=>ZbN P G r σ t l c
 | .slice t x lo hi mx=>ZbE P G r σ t x lo hi mx
 | .fieldAddr s x f=>Zac P G r σ s x f
 | .field t x f=>Zfd P G r σ t x f
 | .indexAddr t x ix=>Zae P G r σ t x ix
 | .index t x ix=>Zfb P G r σ t x ix
 | .lookup t x ix ok=>Zba P G r σ t x ix ok
 | .mapUpdate t m k x=>ZbG P G r σ t m k x
 | .insert t m k x=>ZbG P G r σ t m k x
 | .mapEntry t m k=>Zhm P G r σ t m k
 | .entryStore _ m s x=>ZcH G r σ m s x
 | .extract t ix=>Zbb G r σ t ix
 | .range t x=>Zi4 P G r σ t x
 | .next it s=>Zmv G r σ it s
 | .call c=>Zan P G r σ c
 | _=>none
noncomputable def Zgd (G:Nat) (callf:FuncId→List Value→AS→Option (Value×AS)) (r:Regs) (σ:AS) (args:Array Operand):Option Value→Option (Value×AS)
 | some (.func (.func f) first captured)=>match aevs G r args.toList with
  | some vs=>callf f (first.toList++vs++captured.toList) σ
  | none=>none
 | _=>none
noncomputable def aStepOld (P:Program) (G:Nat) (callf:FuncId→List Value→AS→Option (Value×AS)) (r:Regs) (σ:AS) (o:Op):Option (Value×AS):=
 match o with
 | .call c=>match c.callee with
  | .value f=>Zgd G callf r σ c.args (aev G r f)
  | _=>aOp P G r σ o
 | _=>aOp P G r σ o
noncomputable def ZqJ (G:Nat) (r:Regs) (σ:AS) (x:Operand):Option (Value×AS):=ann σ (aev G r x)
noncomputable def Zok (P:Program) (G:Nat) (r:Regs) (σ:AS) (t:TypeId):Option Operand→Option (Value×AS)
 | none=>some (.map (some σ.next),σ.new ⟨3,0,0,[],[]⟩)
 | some x=>ZjY P G r σ t x
noncomputable def Zgc (P:Program) (G:Nat) (callf:FuncId→List Value→AS→Option (Value×AS)) (r:Regs) (σ:AS) (c:Call):Option (Value×AS):=
 match c.callee with
 | .value f=>Zgd G callf r σ c.args (aev G r f)
 | _=>Zan P G r σ c
noncomputable def Zb5 (P:Program) (G:Nat) (callf:FuncId→List Value→AS→Option (Value×AS)) (r:Regs) (σ:AS) (o:Op):Option (Value×AS):=
 @Op.rec (fun _=>Option (Value×AS))
  (ZqJ G r σ) (ZqJ G r σ) (ZaH G r σ) (Zcl P σ) (Zbm G r σ) (Zbl P G r σ) (Zar P G r σ)
  (ZbG P G r σ) (Zag P G r σ) (ZaE P G r σ) (fun _=>none) (fun _=>none) (Zbo G r σ)
  (fun op t x y _=>Zah P G r σ op t x y) (fun op _ x=>opUn P G r σ op x) (Zct P G r σ) (fun _ _=>none) (Zfc P G r σ) (Zd4 G r σ)
  (Zok P G r σ) (fun _ _=>none) (ZbN P G r σ) (ZbE P G r σ) (Zac P G r σ) (Zfd P G r σ) (Zae P G r σ) (Zfb P G r σ)
  (Zba P G r σ) (ZbG P G r σ) (Zhm P G r σ) (fun _ m s x=>ZcH G r σ m s x) (Zi4 P G r σ) (Zmv G r σ) (fun _=>none) (fun _ _ _ _=>none)
  (Zbb G r σ) (Zgc P G callf r σ) (fun _=>none) (fun _=>none) (fun _=>none) (fun _ _=>none) (fun _ _ _=>none) (fun _ _=>none) o
theorem aStep_eq (P:Program) (G:Nat) (callf:FuncId→List Value→AS→Option (Value×AS)) (r:Regs) (σ:AS) (o:Op):Zb5 P G callf r σ o=aStepOld P G callf r σ o:=by
 cases o
 case makeMap t x=>cases x<;>rfl
 case call c=>
  show Zgc P G callf r σ c=_;unfold Zgc aStepOld;dsimp only;cases c.callee<;>rfl
 all_goals rfl
noncomputable def aWanted (ops:Array Oper) (r:Regs) (o:Oper):Bool:=
 match o.guard with
 | none=>true
 | some (j,want)=>match (ops[j]?).bind (·.dst) with
  | some t=>match rget r t with
   | .bool b=>b == want
   | _=>false
  | none=>false
noncomputable def aPut (n:Nat) (r:Regs) (dst:Option Tmp) (v:Value):Option Regs:=
 match dst with
 | none=>some r
 | some d=>bite (Nat.blt d n) (some (rput r d v)) none
noncomputable def aOps (P:Program) (G:Nat) (callf:FuncId→List Value→AS→Option (Value×AS)) (n:Nat) (ops:Array Oper):List Oper→Regs→AS→Option (Regs×AS)
 | [],r,σ=>some (r,σ)
 | o::rest,r,σ=>
  bite (aWanted ops r o)
   (match Zb5 P G callf r σ o.op with
   | some (v,σ')=>match aPut n r o.dst v with
    | some r'=>aOps P G callf n ops rest r' σ'
    | none=>none
   | none=>none)
   (match aPut n r o.dst undef with
   | some r'=>aOps P G callf n ops rest r' σ
   | none=>none)
noncomputable def ZpG:List Oper→List Nat→List Nat
 | [],acc=>acc
 | o::l,acc=>ZpG l ((o.after.toList.foldl (fun s e=>if Region.binds .any e then s ||| 2^e.on ||| lget 0 acc.reverse e.on else s) 0)::acc)
def ERel (ρ:Ren) (e:Value×Value) (m:MapEntry):Prop:=VRel ρ e.1 m.key∧VRel ρ e.2 m.val
def BRel (ρ:Ren) (i:Nat) (b:Blk) (o:Obj):Prop:=
 match b.kind with
 | 0=>True
 | 1=>∃c fr,o=.cells c b.elem fr∧(fr=(0,0)∨c.size≤fr.1)∧LRel (VRel ρ) b.vals c.toList
 | 2=>∃c fr pre post,o=.cells c b.elem fr∧(fr=(0,0)∨c.size≤fr.1)∧c.toList=pre++post∧LRel (VRel ρ) b.vals pre∧ρ.sz i=(c.size,b.esz)
 | 3=>∃es clock,o=.map es clock∧LRel (ERel ρ) b.ents es.toList∧clock=b.esz∧b.vals=es.toList.map fun e=>Value.int .i64 (e.born:Int)
 | 4=>∃s,b.vals=[.string s]∧o=.stringIter s b.esz
 | 5=>∃c fr,o=.cells c b.elem fr∧∀(j:Nat) (v:Value),b.vals[j]?=some v→known v=true→∃u,c[j]?=some u∧VRel ρ v u
 | _=>False
theorem BRel.ext {ρ τ:Ren} {i:Nat} {b:Blk} {o:Obj} (hle:ρ.le τ) (hi:τ.sz i=ρ.sz i) (h:BRel ρ i b o):BRel τ i b o:=by
 have hv:∀a c,VRel ρ a c→VRel τ a c:=fun _ _ h=>h.ext hle;obtain ⟨kind,elem,esz,vals,ents⟩:=b
 match kind,h with
 | 0,_=>trivial
 | 1,⟨c,fr,h1,h2,h3⟩=>exact ⟨c,fr,h1,h2,h3.mono hv⟩
 | 2,⟨c,fr,p,q,h1,h2,h3,h4,h5⟩=>exact ⟨c,fr,p,q,h1,h2,h3,h4.mono hv,by rw [hi];exact h5⟩
 | 3,⟨es,cl,h1,h2,h3⟩=>exact ⟨es,cl,h1,h2.mono fun a m h=>⟨hv _ _ h.1,hv _ _ h.2⟩,h3⟩
 | 4,⟨s,h1,h2⟩=>exact ⟨s,h1,h2⟩
 | 5,⟨c,fr,h1,h2⟩=>exact ⟨c,fr,h1,fun j v hj hk=>(h2 j v hj hk).imp fun u h=>⟨h.1,h.2.ext hle⟩⟩
theorem ZfC {R S:Value→Value→Prop} (h:∀v a b,R v a→S v b→a=b):∀{l m m':List Value},LRel R l m→LRel S l m'→m=m'
 | [],[],[],_,_=>rfl
 | _::_,_::_,_::_,h1,h2=>by rw [h _ _ _ h1.1 h2.1,ZfC h h1.2 h2.2]
 | [],_::_,_,h1,_=>h1.elim
 | _::_,[],_,h1,_=>h1.elim
 | [],[],_::_,_,h2=>h2.elim
 | _::_,_::_,[],_,h2=>h2.elim
theorem VRelN.det {ρ τ:Ren} (hle:ρ.le τ):∀{n m:Nat} {v a b:Value},VRelN ρ n v a→VRelN τ m v b→a=b
 | 0,_,_,_,_,h,_=>h.elim
 | _+1,0,_,_,_,_,h=>h.elim
 | n+1,m+1,v,a,b,h1,h2=>by
  have ih:∀v a b,VRelN ρ n v a→VRelN τ m v b→a=b:=fun _ _ _ h h'=>VRelN.det hle h h';cases v
  case pointer x=>
   cases x with
   | none=>exact Eq.trans h1 (Eq.symm h2)
   | some x=>
    obtain ⟨b1,e1,_,rfl⟩:=h1;obtain ⟨b2,e2,_,rfl⟩:=h2;rw [(hle _ _ e1).1] at e2;cases e2;rfl
  case slice x l c=>
   cases x with
   | none=>exact Eq.trans h1 (Eq.symm h2)
   | some x=>
    rcases h1 with ⟨b1,c1,e1,s1,k1,rfl⟩|⟨s1,_,_,rfl⟩<;>rcases h2 with ⟨b2,c2,e2,s2,k2,rfl⟩|⟨s2,_,_,rfl⟩
    rotate_left
    ·exact absurd s1 s2
    ·exact absurd s2 s1
    ·rfl
    rw [(hle _ _ e1).1] at e2;rw [(hle _ _ e1).2] at k2;cases e2;rw [k1.det k2]
  case map x=>
   cases x with
   | none=>exact Eq.trans h1 (Eq.symm h2)
   | some x=>
    obtain ⟨b1,e1,rfl⟩:=h1;obtain ⟨b2,e2,rfl⟩:=h2;rw [(hle _ _ e1).1] at e2;cases e2;rfl
  case func fn f c=>
   obtain ⟨f1,c1,a1,a2,rfl⟩:=h1;obtain ⟨f2,c2,b1,b2,rfl⟩:=h2;rw [ZfC ih a1 b1,ZfC ih a2 b2]
  case iface t x=>
   obtain ⟨x1,a1,rfl⟩:=h1;obtain ⟨x2,b1,rfl⟩:=h2;rw [ih _ _ _ a1 b1]
  case agg cs=>
   obtain ⟨x1,a1,rfl⟩:=h1;obtain ⟨x2,b1,rfl⟩:=h2;rw [ZfC ih a1 b1]
  case tuple cs=>
   obtain ⟨x1,a1,rfl⟩:=h1;obtain ⟨x2,b1,rfl⟩:=h2;rw [ZfC ih a1 b1]
  case chan x=>
   cases x with
   | none=>exact h1.elim
   | some x=>exact Void.det hle h1 h2
  all_goals exact Eq.trans h1 (Eq.symm h2)
theorem VRel.det {ρ τ:Ren} (hle:ρ.le τ) {v a b:Value} (h1:VRel ρ v a) (h2:VRel τ v b):a=b:=by
 obtain ⟨n,h1⟩:=h1;obtain ⟨m,h2⟩:=h2;exact VRelN.det hle h1 h2
def Sc (ρ:Ren) (v:Value):Prop:=∃v',VRel ρ v v'
theorem Sc.rel {ρ τ:Ren} (hle:ρ.le τ) {v v':Value} (h:Sc ρ v) (h':VRel τ v v'):VRel ρ v v':=by
 obtain ⟨u,hu⟩:=h;rw [←VRel.det hle hu h'];exact hu
def BSc (ρ:Ren) (b:Blk):Prop:=((b.kind=1∨b.kind=2)→∀v∈b.vals,Sc ρ v)∧(b.kind=3→∀e∈b.ents,Sc ρ e.1∧Sc ρ e.2)∧(b.kind=5→∀v∈b.vals,known v=true→Sc ρ v)
theorem BSc.ext {ρ τ:Ren} (hle:ρ.le τ) {b:Blk} (h:BSc ρ b):BSc τ b:=
 ⟨fun hk v hv=>(h.1 hk v hv).imp fun _ h=>h.ext hle,fun hk e he=>⟨(h.2.1 hk e he).1.imp fun _ h=>h.ext hle,(h.2.1 hk e he).2.imp fun _ h=>h.ext hle⟩,
  fun hk v hv hkn=>(h.2.2 hk v hv hkn).imp fun _ h=>h.ext hle⟩
theorem Zi7 {α β:Type} {R S:α→β→Prop}:∀{l:List α} {m:List β},(∀a∈l,∀b,R a b→S a b)→LRel R l m→LRel S l m
 | [],[],_,_=>trivial
 | a::_,_::_,h,h'=>⟨h a (by simp) _ h'.1,Zi7 (fun x hx=>h x (by simp [hx])) h'.2⟩
 | [],_::_,_,h=>h.elim
 | _::_,[],_,h=>h.elim
theorem BRel.back {ρ τ:Ren} {i:Nat} {b:Blk} {o:Obj} (hle:ρ.le τ) (hi:τ.sz i=ρ.sz i) (hs:BSc ρ b) (h:BRel τ i b o):BRel ρ i b o:=by
 obtain ⟨kind,elem,esz,vals,ents⟩:=b
 match kind,hs,h with
 | 0,_,_=>trivial
 | 1,hs,⟨c,fr,h1,h2,h3⟩=>exact ⟨c,fr,h1,h2,Zi7 (fun a ha c hc=>(hs.1 (.inl rfl) a ha).rel hle hc) h3⟩
 | 2,hs,⟨c,fr,p,q,h1,h2,h3,h4,h5⟩=>exact ⟨c,fr,p,q,h1,h2,h3,Zi7 (fun a ha c hc=>(hs.1 (.inr rfl) a ha).rel hle hc) h4,by rw [←hi];exact h5⟩
 | 3,hs,⟨es,cl,h1,h2,h3⟩=>exact ⟨es,cl,h1,Zi7 (fun a ha c hc=>⟨(hs.2.1 rfl a ha).1.rel hle hc.1,(hs.2.1 rfl a ha).2.rel hle hc.2⟩) h2,h3⟩
 | 4,hs,⟨s,h1,h2⟩=>exact ⟨s,h1,h2⟩
 | 5,hs,⟨c,fr,h1,h2⟩=>exact ⟨c,fr,h1,fun j v hj hk=>(h2 j v hj hk).imp fun u h=>⟨h.1,(hs.2.2 rfl v (zF hj) hk).rel hle h.2⟩⟩
theorem ZfB {α β:Type} {R:α→β→Prop}:∀{l:List α} {m:List β},LRel R l m→∀a∈l,∃b,R a b
 | [],[],_,_,h=>by cases h
 | a::_,b::_,h,x,hx=>by
  rcases List.mem_cons.1 hx with rfl|hx
  ·exact ⟨b,h.1⟩
  ·exact ZfB h.2 x hx
 | [],_::_,h,_,_=>h.elim
 | _::_,[],h,_,_=>h.elim
theorem BRel.sc {ρ:Ren} {i:Nat} {b:Blk} {o:Obj} (h:BRel ρ i b o):BSc ρ b:=by
 obtain ⟨kind,elem,esz,vals,ents⟩:=b
 match kind,h with
 | 0,_=>exact ⟨fun h=>h.elim (fun h=>nomatch h) (fun h=>nomatch h),fun h=>(nomatch h),fun h=>nomatch h⟩
 | 1,⟨c,fr,h1,h2,h3⟩=>exact ⟨fun _ v hv=>ZfB h3 v hv,fun h=>(nomatch h),fun h=>nomatch h⟩
 | 2,⟨c,fr,p,q,h1,h2,h3,h4,h5⟩=>exact ⟨fun _ v hv=>ZfB h4 v hv,fun h=>(nomatch h),fun h=>nomatch h⟩
 | 3,⟨es,cl,h1,h2,_⟩=>
  refine ⟨fun h=>h.elim (fun h=>nomatch h) (fun h=>nomatch h),fun _ e he=>?_,fun h=>nomatch h⟩;obtain ⟨m,hm⟩:=ZfB h2 e he;exact ⟨⟨_,hm.1⟩,⟨_,hm.2⟩⟩
 | 4,_=>exact ⟨fun h=>h.elim (fun h=>nomatch h) (fun h=>nomatch h),fun h=>(nomatch h),fun h=>nomatch h⟩
 | 5,⟨c,fr,h1,h2⟩=>
  refine ⟨fun h=>h.elim (fun h=>nomatch h) (fun h=>nomatch h),fun h=>(nomatch h),fun _ v hv hk=>?_⟩;obtain ⟨j,hj⟩:=List.mem_iff_getElem?.1 hv;obtain ⟨u,_,hu⟩:=h2 j v hj hk;exact ⟨u,hu⟩
structure R (G:Nat) (ρ:Ren) (σ:AS) (w:World):Prop where
 blk:∀i b,ρ.bl i=some b→i<σ.next∧∃o,w.heap[b]?=some o∧BRel ρ i (σ.get i) o
 inj:∀i j b,ρ.bl i=some b→ρ.bl j=some b→(σ.get i).kind≠0→(σ.get j).kind≠0→i=j
 glob:∀g,g<G→ρ.bl g=some g
 globN:G≤σ.next
structure Sim (G:Nat) (ρ:Ren) (σ:AS) (w:World) (τ:Ren) (σ':AS) (w':World):Prop where
 base:R G ρ σ w
 le:ρ.le τ
 rel:R G τ σ' w'
 frame:∀b,b<w.heap.size→(∀i,ρ.bl i=some b→(σ.get i).kind=0)→w'.heap[b]?=w.heap[b]?
 hsz:w.heap.size≤w'.heap.size
 nxt:σ.next≤σ'.next
 newid:∀i b,τ.bl i=some b→ρ.bl i=none→σ.next≤i
 newblk:∀i b,τ.bl i=some b→ρ.bl i=none→w.heap.size≤b∨∃j,ρ.bl j=some b∧(σ.get j).kind≠0∧(σ'.get j).kind=0
 low:σ'.low≤σ.low
 keep:∀i,i<σ.next→i<σ'.low→σ'.get i=σ.get i
 dead:∀i,i<σ.next→(σ.get i).kind=0→(σ'.get i).kind=0
 stay:∀i b,ρ.bl i=some b→(σ.get i).kind≠0→i<σ'.low→w'.heap[b]?=w.heap[b]?
 out:w'.os=w.os∧w'.output=w.output
theorem R.lt {G:Nat} {ρ:Ren} {σ:AS} {w:World} (h:R G ρ σ w) {i b:Nat} (hi:ρ.bl i=some b):b<w.heap.size:=by
 obtain ⟨_,o,ho,_⟩:=h.blk i b hi;rcases Nat.lt_or_ge b w.heap.size with h|h
 ·exact h
 ·simp [Array.getElem?_eq_none h] at ho
theorem Sim.refl {G:Nat} {ρ:Ren} {σ:AS} {w:World} (h:R G ρ σ w):Sim G ρ σ w ρ σ w where
 base:=h
 le:=Ren.le_refl ρ
 rel:=h
 frame:=fun _ _ _=>rfl
 hsz:=zA _
 nxt:=zA _
 newid:=fun i b h h'=>by rw [h] at h';cases h'
 newblk:=fun i b h h'=>by rw [h] at h';cases h'
 low:=zA _
 keep:=fun _ _ _=>rfl
 dead:=fun _ _ h=>h
 stay:=fun _ _ _ _ _=>rfl
 out:=⟨rfl,rfl⟩
theorem Sim.trans {G:Nat} {ρ τ υ:Ren} {σ σ' σ'':AS} {w w' w'':World} (h:Sim G ρ σ w τ σ' w') (k:Sim G τ σ' w' υ σ'' w''):Sim G ρ σ w υ σ'' w'' where
 base:=h.base
 le:=Ren.le_trans h.le k.le
 rel:=k.rel
 frame b hb hd:=by
  rw [k.frame b (zC hb h.hsz) ?_,h.frame b hb hd];intro i hi;cases hρ:ρ.bl i with
  | some b'=>
   have:=(h.le i b' hρ).1;rw [hi] at this;cases this;exact h.dead i (h.base.blk i b hρ).1 (hd i hρ)
  | none=>
   rcases h.newblk i b hi hρ with h1|⟨j,hj,hj1,hj2⟩
   ·omega
   ·exact absurd (hd j hj) hj1
 hsz:=zB h.hsz k.hsz
 nxt:=zB h.nxt k.nxt
 newid i b hi hn:=by
  cases hτ:τ.bl i with
  | none=>exact zB h.nxt (k.newid i b hi hτ)
  | some b'=>exact h.newid i b' hτ hn
 newblk i b hi hn:=by
  cases hτ:τ.bl i with
  | none=>
   rcases k.newblk i b hi hτ with h1|⟨j,hj,hj1,hj2⟩
   ·exact .inl (zB h.hsz h1)
   ·cases hρ:ρ.bl j with
    | none=>
     rcases h.newblk j b hj hρ with h2|⟨l,hl,hl1,hl2⟩
     ·exact .inl h2
     ·refine .inr ⟨l,hl,hl1,k.dead l ?_ hl2⟩;have:=(h.rel.blk l b (h.le l b hl).1).1;exact this
    | some b'=>
     have:=(h.le j b' hρ).1;rw [hj] at this;cases this;refine .inr ⟨j,hρ,fun h0=>hj1 (h.dead j (h.base.blk j b hρ).1 h0),hj2⟩
  | some b'=>
   have:=(k.le i b' hτ).1;rw [hi] at this;cases this;rcases h.newblk i b hτ hn with h1|⟨j,hj,hj1,hj2⟩
   ·exact .inl h1
   ·exact .inr ⟨j,hj,hj1,k.dead j (h.rel.blk j b (h.le j b hj).1).1 hj2⟩
 low:=zB k.low h.low
 keep i hi hl:=by
  rw [k.keep i (zC hi h.nxt) hl,h.keep i hi (zC hl k.low)]
 dead i hi h0:=k.dead i (zC hi h.nxt) (h.dead i hi h0)
 stay i b hi hk hl:=by
  rw [k.stay i b (h.le i b hi).1 (by rw [h.keep i (h.base.blk i b hi).1 (zC hl k.low)];exact hk) hl,h.stay i b hi hk (zC hl k.low)]
 out:=⟨k.out.1.trans h.out.1,k.out.2.trans h.out.2⟩
theorem R.of_heap {G:Nat} {ρ:Ren} {σ:AS} {w w':World} (e:w'.heap=w.heap) (h:R G ρ σ w):R G ρ σ w':=
 ⟨fun i b hi=>by rw [e];exact h.blk i b hi,h.inj,h.glob,h.globN⟩
theorem Sim.of_heap {G:Nat} {ρ τ:Ren} {σ σ':AS} {w w' w'':World} (e:w''.heap=w'.heap) (eo:w''.os=w'.os∧w''.output=w'.output) (h:Sim G ρ σ w τ σ' w'):Sim G ρ σ w τ σ' w'':=
 { h with rel:=h.rel.of_heap e,frame:=fun b hb hd=>by rw [e];exact h.frame b hb hd,hsz:=by rw [e];exact h.hsz,stay:=fun i b h1 h2 h3=>by rw [e];exact h.stay i b h1 h2 h3,out:=⟨eo.1.trans h.out.1,eo.2.trans h.out.2⟩ }
theorem Sim.of_heap0 {G:Nat} {ρ τ:Ren} {σ σ':AS} {w w0 w':World} (e:w0.heap=w.heap) (eo:w0.os=w.os∧w0.output=w.output) (h:Sim G ρ σ w0 τ σ' w'):Sim G ρ σ w τ σ' w':=
 { h with out:=⟨h.out.1.trans eo.1,h.out.2.trans eo.2⟩,base:=h.base.of_heap e.symm,frame:=fun b hb hd=>by rw [h.frame b (by rw [e];exact hb) hd,e],hsz:=by rw [←e];exact h.hsz,stay:=fun i b h1 h2 h3=>by rw [h.stay i b h1 h2 h3,e],newblk:=fun i b h1 h2=>by rw [←e];exact h.newblk i b h1 h2 }
def Ren.add (ρ:Ren) (i b:Nat) (s:Nat×Nat):Ren:=⟨fun j=>if j=i then some b else ρ.bl j,fun j=>if j=i then s else ρ.sz j⟩
theorem Ren.le_add {ρ:Ren} {i b:Nat} {s:Nat×Nat} (h:ρ.bl i=none):ρ.le (ρ.add i b s):=fun j c hj=>by
 have hne:j≠i:=fun e=>by rw [e,h] at hj;cases hj
 simp [Ren.add,hne,hj]
theorem R.fresh {G:Nat} {ρ:Ren} {σ:AS} {w:World} (h:R G ρ σ w):ρ.bl σ.next=none:=by
 cases hb:ρ.bl σ.next with
 | none=>rfl
 | some b=>have:=(h.blk _ b hb).1;omega
theorem ZfU {w:World} {o:Obj} {b:Nat}:(w.alloc o).heap[b]?=if b=w.heap.size then some o else w.heap[b]?:=by
 show (w.heap.push o)[b]?=_;rw [Array.getElem?_push]
theorem Sim.alloc {G:Nat} {ρ:Ren} {σ:AS} {w:World} (h:R G ρ σ w) {o:Obj} {blk:Blk} (s:Nat×Nat)
  (hb:BRel (ρ.add σ.next w.heap.size s) σ.next blk o):Sim G ρ σ w (ρ.add σ.next w.heap.size s) (σ.new blk) (w.alloc o) where
 base:=h
 le:=Ren.le_add h.fresh
 rel:=by
  have hle:ρ.le (ρ.add σ.next w.heap.size s):=Ren.le_add h.fresh;refine ⟨?_,?_,?_,Nat.le_succ_of_le h.globN⟩
  ·intro i b hi;by_cases e:i=σ.next
   ·subst e;simp [Ren.add] at hi;subst hi;exact ⟨zG _,o,by rw [ZfU,if_pos rfl],by rw [AS.get_new,if_pos rfl];exact hb⟩
   ·simp [Ren.add,e] at hi;obtain ⟨h1,o',ho',hr⟩:=h.blk i b hi;refine ⟨Nat.lt_succ_of_lt h1,o',?_,?_⟩
    ·have:=h.lt hi;rw [ZfU,if_neg (by omega)];exact ho'
    ·rw [AS.get_new,if_neg (by omega)]
     exact hr.ext hle (by simp [Ren.add,e])
  ·intro i j b hi hj ki kj;by_cases ei:i=σ.next
   ·by_cases ej:j=σ.next
    ·rw [ei,ej]
    ·simp [Ren.add,ei] at hi;simp [Ren.add,ej] at hj;have:=h.lt hj;omega
   ·by_cases ej:j=σ.next
    ·simp [Ren.add,ej] at hj;simp [Ren.add,ei] at hi;have:=h.lt hi;omega
    ·simp [Ren.add,ei] at hi;simp [Ren.add,ej] at hj;rw [AS.get_new,if_neg (by omega)] at ki kj
     exact h.inj i j b hi hj ki kj
  ·intro g hg;have:=h.glob g hg;exact (hle g g this).1
 frame b hb _:=by
  rw [ZfU,if_neg (by omega)]
 hsz:=by simp
 nxt:=Nat.le_succ _
 newid i b hi hn:=by
  by_cases e:i=σ.next
  ·omega
  ·simp [Ren.add,e] at hi;rw [hi] at hn;cases hn
 newblk i b hi hn:=by
  by_cases e:i=σ.next
  ·subst e;simp [Ren.add] at hi;exact .inl (by omega)
  ·simp [Ren.add,e] at hi;rw [hi] at hn;cases hn
 low:=zA _
 keep i hi _:=by rw [AS.get_new,if_neg (by omega)]
 dead i hi h0:=by rw [AS.get_new,if_neg (by omega)];exact h0
 stay i b hi _ _:=by
  have:=h.lt hi;rw [ZfU,if_neg (by omega)]
 out:=⟨rfl,rfl⟩
theorem ZaW {h:Array Obj} {b c:Nat} {o o':Obj} (hb:h[b]?=some o):(h.setIfInBounds b o')[c]?=if b=c then some o' else h[c]?:=by
 have hlt:b<h.size:=by
  rcases Nat.lt_or_ge b h.size with h'|h'
  ·exact h'
  ·simp [Array.getElem?_eq_none h'] at hb
 rw [Array.getElem?_setIfInBounds];split
 ·rename_i e;subst e;simp []
 ·rfl
theorem Sim.put {G:Nat} {ρ:Ren} {σ:AS} {w w':World} (h:R G ρ σ w) {i b:Nat} {o':Obj} {blk:Blk} (hi:ρ.bl i=some b) (hk:(σ.get i).kind≠0)
  (hw:w'.heap=w.heap.setIfInBounds b o') (ho:w'.os=w.os∧w'.output=w.output) (hb:BRel ρ i blk o'):Sim G ρ σ w ρ (σ.put i blk) w' where
 base:=h
 le:=Ren.le_refl ρ
 rel:=by
  obtain ⟨_,o,ho,_⟩:=h.blk i b hi;refine ⟨?_,?_,h.glob,h.globN⟩
  ·intro j c hj;obtain ⟨h1,oj,hoj,hr⟩:=h.blk j c hj;refine ⟨h1,?_⟩;rw [hw,ZaW ho,AS.get_put];by_cases e:i=j
   ·subst e;rw [hi] at hj;cases hj;exact ⟨o',by simp,by rw [if_pos rfl];exact hb⟩
   ·rw [if_neg e];by_cases ec:b=c
    ·subst ec;have hd:(σ.get j).kind=0:=by
      by_cases hz:(σ.get j).kind=0
      ·exact hz
      ·exact absurd (h.inj i j b hi hj hk hz) e
     refine ⟨o',by simp,?_⟩
     unfold BRel;rw [hd];trivial
    ·exact ⟨oj,by rw [if_neg ec];exact hoj,hr⟩
  ·intro j l c hj hl kj kl;have key:∀x,((σ.put i blk).get x).kind≠0→(σ.get x).kind≠0:=fun x hx=>by
    rw [AS.get_put] at hx;by_cases e:i=x
    ·subst e;exact hk
    ·rw [if_neg e] at hx;exact hx
   exact h.inj j l c hj hl (key j kj) (key l kl)
 frame c hc hd:=by
  obtain ⟨_,o,ho,_⟩:=h.blk i b hi;rw [hw,ZaW ho,if_neg];intro e;subst e;exact hk (hd i hi)
 hsz:=by rw [hw];simp
 nxt:=zA _
 newid j c h1 h2:=by rw [h1] at h2;cases h2
 newblk j c h1 h2:=by rw [h1] at h2;cases h2
 low:=Nat.min_le_left _ _
 keep j hj hl:=by
  rw [AS.get_put,if_neg];intro e;subst e;exact absurd hl (Nat.not_lt.2 (Nat.min_le_right _ _))
 dead j hj h0:=by
  rw [AS.get_put,if_neg,h0];intro e;subst e;exact hk h0
 stay j c hj hkj hl:=by
  obtain ⟨_,o,ho,_⟩:=h.blk i b hi;rw [hw,ZaW ho,if_neg];intro e;subst e;have hlt:j<i:=zC hl (Nat.min_le_right _ _);have:=h.inj j i b hj hi hkj hk;omega
 out:=ho
theorem Sim.move {G:Nat} {ρ:Ren} {σ:AS} {w w':World} (h:R G ρ σ w) {i b:Nat} {o':Obj} {blk:Blk} {s:Nat×Nat} (hi:ρ.bl i=some b)
  (hk:(σ.get i).kind≠0)
  (hw:w'.heap=w.heap.setIfInBounds b o') (hout:w'.os=w.os∧w'.output=w.output) (hb:BRel (ρ.add σ.next b s) σ.next blk o') :
  Sim G ρ σ w (ρ.add σ.next b s) ((σ.put i Blk.dead).new blk) w' where
 base:=h
 le:=Ren.le_add h.fresh
 rel:=by
  have hle:ρ.le (ρ.add σ.next b s):=Ren.le_add h.fresh;obtain ⟨hin,o,ho,_⟩:=h.blk i b hi;have hget:∀j,((σ.put i Blk.dead).new blk).get j=if σ.next=j then blk else if i=j then Blk.dead else σ.get j:=fun j=>by
   rw [AS.get_new,AS.get_put];rfl
  refine ⟨?_,?_,?_,Nat.le_succ_of_le h.globN⟩
  ·intro j c hj;rw [hw,ZaW ho,hget];by_cases e:j=σ.next
   ·subst e;simp [Ren.add] at hj;subst hj;exact ⟨zG _,o',by simp,by rw [if_pos rfl];exact hb⟩
   ·simp [Ren.add,e] at hj;obtain ⟨h1,oj,hoj,hr⟩:=h.blk j c hj;refine ⟨Nat.lt_succ_of_lt h1,?_⟩;rw [if_neg (show ¬σ.next=j from fun e'=>e e'.symm)]
    by_cases ec:b=c
    ·subst ec;refine ⟨o',by simp,?_⟩
     by_cases e2:i=j
     ·rw [if_pos e2];exact trivial
     ·rw [if_neg e2];have hd:(σ.get j).kind=0:=by
       by_cases hz:(σ.get j).kind=0
       ·exact hz
       ·exact absurd (h.inj i j b hi hj hk hz) e2
      unfold BRel;rw [hd];trivial
    ·refine ⟨oj,by rw [if_neg ec];exact hoj,?_⟩
     rw [if_neg (fun e2=>by subst e2;rw [hi] at hj;cases hj;exact ec rfl)]
     exact hr.ext hle (by simp [Ren.add,e])
  ·intro j l c hj hl kj kl;rw [hget] at kj kl;have key:∀x,(σ.next≠x)→(if σ.next=x then blk else if i=x then Blk.dead else σ.get x).kind≠0→i≠x∧(σ.get x).kind≠0:=fun x hx hh=>by
    rw [if_neg hx] at hh;by_cases e:i=x
    ·rw [if_pos e] at hh;exact absurd rfl hh
    ·rw [if_neg e] at hh;exact ⟨e,hh⟩
   by_cases ej:j=σ.next
   ·by_cases el:l=σ.next
    ·rw [ej,el]
    ·simp [Ren.add,ej] at hj;simp [Ren.add,el] at hl;subst hj;obtain ⟨k1,k2⟩:=key l (fun e=>el e.symm) kl;exact absurd (h.inj i l b hi hl hk k2) k1
   ·by_cases el:l=σ.next
    ·simp [Ren.add,ej] at hj;simp [Ren.add,el] at hl;subst hl;obtain ⟨k1,k2⟩:=key j (fun e=>ej e.symm) kj;exact absurd (h.inj i j b hi hj hk k2) k1
    ·simp [Ren.add,ej] at hj;simp [Ren.add,el] at hl;exact h.inj j l c hj hl (key j (fun e=>ej e.symm) kj).2 (key l (fun e=>el e.symm) kl).2
  ·intro g hg;exact (hle g g (h.glob g hg)).1
 frame c hc hd:=by
  obtain ⟨_,o,ho,_⟩:=h.blk i b hi;rw [hw,ZaW ho,if_neg];intro e;subst e;exact hk (hd i hi)
 hsz:=by rw [hw];simp
 nxt:=Nat.le_succ _
 newid j c hj hn:=by
  by_cases e:j=σ.next
  ·omega
  ·simp [Ren.add,e] at hj;rw [hj] at hn;cases hn
 newblk j c hj hn:=by
  by_cases e:j=σ.next
  ·subst e;simp [Ren.add] at hj;subst hj;refine .inr ⟨i,hi,hk,?_⟩;have:=(h.blk i b hi).1;rw [AS.get_new,if_neg (by show ¬σ.next=i;omega),AS.get_put,if_pos rfl];rfl
  ·simp [Ren.add,e] at hj;rw [hj] at hn;cases hn
 low:=Nat.min_le_left _ _
 keep j hj hl:=by
  rw [AS.get_new,if_neg (by show ¬σ.next=j;omega),AS.get_put,if_neg]
  intro e;subst e;exact absurd hl (Nat.not_lt.2 (Nat.min_le_right _ _))
 dead j hj h0:=by
  rw [AS.get_new,if_neg (by show ¬σ.next=j;omega),AS.get_put]
  split
  ·rfl
  ·exact h0
 stay j c hj hkj hl:=by
  obtain ⟨_,o,ho,_⟩:=h.blk i b hi;rw [hw,ZaW ho,if_neg];intro e;subst e;have hlt:j<i:=zC hl (Nat.min_le_right _ _);have:=h.inj j i b hj hi hkj hk;omega
 out:=hout
theorem Sim.kill {G:Nat} {ρ:Ren} {σ:AS} {w:World} (h:R G ρ σ w) {i b:Nat} (hi:ρ.bl i=some b) (hk:(σ.get i).kind≠0):Sim G ρ σ w ρ (σ.put i Blk.dead) w:=by
 obtain ⟨_,o,ho,_⟩:=h.blk i b hi;refine Sim.of_heap (w':={ w with heap:=w.heap.setIfInBounds b o }) ?_ ⟨rfl,rfl⟩ (Sim.put h hi hk rfl ⟨rfl,rfl⟩ trivial)
 apply Array.ext_getElem?;intro c;rw [ZaW ho];split
 ·rename_i e;subst e;exact ho
 ·rfl
theorem Zgx {α:Type}:∀(l cs:List α),(ZdV l cs).length=l.length
 | _,[]=>by simp [ZdV]
 | [],_::_=>rfl
 | _::l,_::cs=>by simp [ZdV,Zgx l cs]
theorem ZbU {α:Type}:∀(l:List α) (n:Nat) (cs:List α),(Za3 l n cs).length=l.length
 | l,0,cs=>by cases l<;>simp [Za3,Zgx]
 | [],_+1,_=>rfl
 | _::l,n+1,cs=>by simp [Za3,ZbU l n cs]
theorem Zbe {α:Type}:∀(l:List α) (n:Nat),Za3 l n []=l
 | [],0=>rfl
 | _::_,0=>rfl
 | [],_+1=>rfl
 | a::l,n+1=>by simp [Za3,Zbe l n]
theorem ZaP {α:Type}:∀(l:List α) (n:Nat) (c:α) (cs:List α),Za3 l n (c::cs)=Za3 (l.set n c) (n+1) cs
 | [],0,c,cs=>by simp [Za3,ZdV]
 | a::l,0,c,cs=>by cases l<;>simp [Za3,ZdV]
 | [],n+1,c,cs=>by simp [Za3]
 | a::l,n+1,c,cs=>by simp [Za3,ZaP l n c cs]
theorem LRel.over {α β:Type} {R:α→β→Prop}:∀{l:List α} {m:List β} {cs:List α} {ds:List β},LRel R l m→LRel R cs ds→LRel R (ZdV l cs) (ZdV m ds)
 | _,_,[],[],h,_=>by simpa [ZdV] using h
 | [],[],_::_,_::_,_,_=>by simp [ZdV,LRel]
 | _::_,_::_,_::_,_::_,h,h'=>⟨h'.1,LRel.over h.2 h'.2⟩
 | _,_,[],_::_,_,h=>h.elim
 | _,_,_::_,[],_,h=>h.elim
 | [],_::_,_::_,_::_,h,_=>h.elim
 | _::_,[],_::_,_::_,h,_=>h.elim
theorem LRel.splice {α β:Type} {R:α→β→Prop}:∀(n:Nat) {l:List α} {m:List β} {cs:List α} {ds:List β},LRel R l m→LRel R cs ds→
  LRel R (Za3 l n cs) (Za3 m n ds)
 | 0,l,m,_,_,h,h'=>by
  have:=h.over h';cases l<;>cases m<;>first|exact this|exact h.elim
 | _+1,[],[],_,_,_,_=>trivial
 | n+1,_::_,_::_,_,_,h,h'=>⟨h.1,LRel.splice n h.2 h'⟩
 | _+1,[],_::_,_,_,h,_=>h.elim
 | _+1,_::_,[],_,_,h,_=>h.elim
theorem Zgy {α:Type}:∀(p q cs:List α),cs.length≤p.length→ZdV (p++q) cs=ZdV p cs++q
 | p,q,[],_=>by simp [ZdV]
 | [],q,_::_,h=>by simp at h
 | a::p,q,c::cs,h=>by simp [ZdV,Zgy p q cs (by simpa using h)]
theorem ZeR {α:Type}:∀(p:List α) (n:Nat) (q cs:List α),n+cs.length≤p.length→Za3 (p++q) n cs=Za3 p n cs++q
 | p,0,q,cs,h=>by
  have:=Zgy p q cs (by simpa using h)
  have e:∀l:List α,Za3 l 0 cs=ZdV l cs:=fun l=>by cases l<;>rfl
  rw [e,e,this]
 | [],n+1,q,cs,h=>by simp at h
 | a::p,n+1,q,cs,h=>by simp [Za3,ZeR p n q cs (by simp at h;omega)]
theorem ZmL {α:Type}:∀(l cs:List α),cs.length≤l.length→ZdV l cs=cs++l.drop cs.length
 | l,[],_=>by simp [ZdV]
 | [],_::_,h=>by simp at h
 | _::l,c::cs,h=>by simp [ZdV,ZmL l cs (by simpa using h)]
theorem ZcX {α:Type}:∀(l:List α) (n:Nat) (cs:List α),n+cs.length≤l.length→Za3 l n cs=l.take n++cs++l.drop (n+cs.length)
 | l,0,cs,h=>by
  have:=ZmL l cs (by simpa using h)
  cases l<;>simpa [Za3] using this
 | [],n+1,cs,h=>by simp at h
 | a::l,n+1,cs,h=>by
  simp only [Za3,ZcX l n cs (by simp at h;omega)]
  simp [show n+1+cs.length=(n+cs.length)+1 from by omega]
theorem Zkl {w:World} {b off:Nat} {c:Array Value} {e:TypeId} {fr:Nat×Nat} (h:w.heap[b]?=some (.cells c e fr)) (hf:fr=(0,0)∨c.size≤fr.1)
  (ho:off<c.size):w.frozen? ⟨b,off,none⟩=false:=by
 unfold World.frozen?;simp only [h];obtain ⟨lo,hi⟩:=fr;rcases hf with hf|hf
 ·cases hf;simp
 ·simp only at hf;simp;omega
theorem Zld {v:Value} (h:one v=true):v.oneCell'=true:=by cases v<;>first|rfl|exact h
theorem Zdn (P:Program) {e:TypeId} {fr:Nat×Nat} {b off:Nat}:∀(cs:List Value) (i:Nat) (c:Array Value) (w:World),
  w.heap[b]?=some (.cells c e fr)→(fr=(0,0)∨c.size≤fr.1)→off+i+cs.length≤c.size→cs.all one=true→
  ∃w',(storeCells ⟨b,off,none⟩ cs i).run P w=.ok () w'∧w'.heap=w.heap.setIfInBounds b (.cells (Za3 c.toList (off+i) cs).toArray e fr)∧w'.os=w.os∧w'.output=w.output
 | [],i,c,w,hb,hf,hl,ho=>by
  refine ⟨w,rfl,?_,rfl,rfl⟩;rw [Zbe];apply Array.ext_getElem?;intro j;rw [ZaW hb];split
  ·rename_i h;subst h;rw [hb]
  ·rfl
 | v::cs,i,c,w,hb,hf,hl,ho=>by
  simp only [List.all_cons,Bool.and_eq_true] at ho;simp only [List.length_cons] at hl;have hadd:(⟨b,off,none⟩:Addr).add i=⟨b,off+i,none⟩:=by
   unfold Addr.add;split
   ·rename_i h;subst h;rfl
   ·rfl
  have hlt:off+i<c.size:=by omega
  have hcell:w.cell? ⟨b,off+i,none⟩=some c[off+i]:=by
   simp [World.cell?,hb,hlt]
  have hfz:w.frozen? ⟨b,off+i,none⟩=false:=Zkl hb hf hlt;have hset:(w.setCell ⟨b,off+i,none⟩ v).heap=w.heap.setIfInBounds b (.cells (c.setIfInBounds (off+i) v) e fr):=by
   apply Array.ext_getElem?;intro j;rw [ZaW hb];simp only [World.setCell,Array.getElem?_modify];split
   ·rename_i h;subst h;simp [hb]
   ·rfl
  have hlb:b<w.heap.size:=by
   rcases Nat.lt_or_ge b w.heap.size with h'|h'
   ·exact h'
   ·simp [Array.getElem?_eq_none h'] at hb
  have hl':off+(i+1)+cs.length≤(c.setIfInBounds (off+i) v).size:=by rw [Array.size_setIfInBounds];omega
  obtain ⟨w',hr,hw',ho'⟩:=Zdn P cs (i+1) (c.setIfInBounds (off+i) v) (w.setCell ⟨b,off+i,none⟩ v)
   (by rw [hset,ZaW hb,if_pos rfl]) (by rw [Array.size_setIfInBounds];exact hf) hl' ho.2
  refine ⟨w',?_,?_,ho'⟩
  ·simp only [storeCells,hadd];rw [Sem.run_bind,run_store P w _ v _ (Zld ho.1),hcell];simp only [hfz,Bool.false_eq_true,if_false,Result.andThen_ok];exact hr
  ·rw [hw',hset];apply Array.ext_getElem?;intro j;rw [ZaW (o:=.cells (c.setIfInBounds (off+i) v) e fr) (by rw [ZaW hb,if_pos rfl]),ZaW hb,ZaW hb]
   split
   ·rename_i h;subst h;rw [ZaP,Array.toList_setIfInBounds];rfl
   ·rfl
section runs
variable {P:Program} {w:World}
theorem Zai {t:TypeId} {d:TypeDesc} (h:P.underlying t=some d):(underlying t).run P w=.ok d w:=by
 simp [underlying,h]
theorem Za9 {t:TypeId} {i:TypeInfo} (h:P.info? t=some i):(typeInfo t).run P w=.ok i w:=by
 simp [typeInfo,h]
theorem ZaX {t:TypeId} {i:TypeInfo} (h:P.info? t=some i):(sizeOf t).run P w=.ok i.size w:=by
 simp [sizeOf,Za9 h]
theorem Za0 {t:TypeId} {i:TypeInfo} {z:Value} (h:P.info? t=some i) (hz:i.zero=some z):(zeroValue t).run P w=.ok z w:=by
 simp [zeroValue,Za9 h,hz]
theorem ZeG {t:TypeId} {d:TypeDesc} (h:P.underlying t=some d):(isAgg t).run P w=.ok (ZgE d) w:=by
 unfold isAgg;rw [Sem.run_bind,Zai h];cases d<;>rfl
end runs
theorem ZbP (b off n:Nat):(⟨b,off,none⟩:Addr).add n=⟨b,off+n,none⟩:=by
 unfold Addr.add;split
 ·rename_i h;subst h;rfl
 ·rfl
theorem Zch {a:Addr} (h:a.spot=none) (n:Nat):a.add n=⟨a.block,a.off+n,none⟩:=by
 obtain ⟨b,o,s⟩:=a;cases h;exact ZbP b o n
theorem Zbz {α:Type} {P:Program} {w:World}:∀{s:Sem α} {a:α},ZaY P s=some a→s.run P w=.ok a w
 | .pure _,_,h=>by simp only [ZaY,Option.some.injEq] at h;subst h;rfl
 | .program k,_,h=>by simp only [ZaY] at h;exact Zbz (s:=k P) h
 | .load _ _ _,_,h=>by simp [ZaY] at h
 | .store _ _ _ _,_,h=>by simp [ZaY] at h
 | .new _ _,_,h=>by simp [ZaY] at h
 | .shape _ _,_,h=>by simp [ZaY] at h
 | .freeze _ _ _,_,h=>by simp [ZaY] at h
 | .frozen _ _,_,h=>by simp [ZaY] at h
 | .getObj _ _,_,h=>by simp [ZaY] at h
 | .setObj _ _ _,_,h=>by simp [ZaY] at h
 | .choose _ _,_,h=>by simp [ZaY] at h
 | .sys _ _,_,h=>by simp [ZaY] at h
 | .mark _ _,_,h=>by simp [ZaY] at h
 | .halt _,_,h=>by simp [ZaY] at h
def RegsRel (ρ:Ren) (r:Regs) (tmps:Array Value):Prop:=∀t,VRel ρ (rget r t) (tmps.getD t undef)
theorem RegsRel.ext {ρ τ:Ren} {r:Regs} {tmps:Array Value} (hle:ρ.le τ) (h:RegsRel ρ r tmps):RegsRel τ r tmps:=fun t=>(h t).ext hle
theorem isCells_iff {b:Blk}:Zcm b=true↔b.kind=1∨b.kind=2:=by
 simp only [Zcm,Bool.or_eq_true,Nat.beq_eq]
section ops
variable {P:Program} {G:Nat} {ρ:Ren} {σ σ':AS} {w:World} {r:Regs} {a:Act}
theorem Zez {x:Operand} {v:Value} (h:aev G r x=some v) (hR:R G ρ σ w) (hr:RegsRel ρ r a.tmps):VRel ρ v (a.eval x):=by
 cases x with
 | tmp t=>cases h;exact hr t
 | const c=>
  simp only [aev] at h;split at h
  ·rename_i hf;cases h;exact (ZaR hf).2 rfl
  ·cases h
 | global g=>
  simp only [aev] at h;split at h
  ·rename_i hg;cases h;exact vrel_ptr.2 ⟨g,hR.glob g hg,rfl,rfl⟩
  ·cases h
 | func f=>cases h;exact vrel_func.2 ⟨[],[],trivial,trivial,rfl⟩
def OpOk (P:Program) (G:Nat) (ρ:Ren) (σ:AS) (w:World) (v:Value) (σ':AS) (s:Sem Next):Prop:=
 ∃v' τ w',(s.run P w=.ok (.value v') w'∨(s.run P w=.ok .skip w'∧v'=undef))∧VRel τ v v'∧Sim G ρ σ w τ σ' w'
theorem OpOk.val {v:Value} {s:Sem Value} {v':Value} {τ:Ren} {w':World} (hs:s.run P w=.ok v' w') (hv:VRel τ v v') (hm:Sim G ρ σ w τ σ' w') :
  OpOk P G ρ σ w v σ' (do pure (.value (←s))):=
 ⟨v',τ,w',.inl (by simp [hs]),hv,hm⟩
theorem OpOk.unit {s:Sem Unit} {τ:Ren} {w':World} (hs:s.run P w=.ok () w') (hm:Sim G ρ σ w τ σ' w'):OpOk P G ρ σ w undef σ' (do s;pure .skip):=
 ⟨undef,τ,w',.inr ⟨by simp [hs],rfl⟩,Zb8,hm⟩
theorem OpOk.same {v:Value} {s:Sem Value} {v':Value} (hR:R G ρ σ w) (hs:s.run P w=.ok v' w) (hv:VRel ρ v v'):OpOk P G ρ σ w v σ (do pure (.value (←s))):=
 .val hs hv (.refl hR)
theorem ZaT {σ σ':AS} {o:Option Value} {v:Value} (h:ann σ o=some (v,σ')):o=some v∧σ'=σ:=by
 cases o with
 | none=>cases h
 | some u=>cases h;exact ⟨rfl,rfl⟩
theorem ZcS {σ':AS} {o:Option AS} {v:Value} (h:unn o=some (v,σ')):o=some σ'∧v=undef:=by
 cases o with
 | none=>cases h
 | some u=>cases h;exact ⟨rfl,rfl⟩
theorem ZcI {elem:TypeId} {cs:List Value} {ds:Array Value} (hR:R G ρ σ w) (hc:LRel (VRel ρ) cs ds.toList) :
  ∃τ,(newRow elem ds).run P w=.ok ⟨w.heap.size,0,none⟩ (w.alloc (.cells ds elem))∧Sim G ρ σ w τ (aRow σ elem cs) (w.alloc (.cells ds elem))∧τ.bl σ.next=some w.heap.size:=by
 refine ⟨ρ.add σ.next w.heap.size (0,0),by simp [newRow],Sim.alloc hR (0,0) ?_,by simp [Ren.add]⟩
 exact ⟨ds,(0,0),rfl,.inl rfl,hc.mono fun _ _ h=>h.ext (Ren.le_add hR.fresh)⟩
theorem newRow_ok {elem:TypeId} {cs:List Value} {ds:Array Value} (hR:R G ρ σ w) (hc:LRel (VRel ρ) cs ds.toList) :
  OpOk P G ρ σ w (.pointer (some ⟨σ.next,0,none⟩)) (aRow σ elem cs) (do pure (.value (.pointer (some (←newRow elem ds))))):=by
 obtain ⟨τ,h1,h2,h3⟩:=ZcI (P:=P) (elem:=elem) hR hc;exact ⟨_,τ,_,.inl (by simp [h1]),vrel_ptr.2 ⟨_,h3,rfl,rfl⟩,h2⟩
theorem Zg4 {i b:Nat} (hR:R G ρ σ w) (hi:ρ.bl i=some b) (hk:Zcm (σ.get i)=true) :
  ∃c fr pre post,w.heap[b]?=some (.cells c (σ.get i).elem fr)∧(fr=(0,0)∨c.size≤fr.1)∧c.toList=pre++post∧LRel (VRel ρ) (σ.get i).vals pre∧
   ((σ.get i).kind=1→post=[])∧((σ.get i).kind=2→ρ.sz i=(c.size,(σ.get i).esz)):=by
 obtain ⟨_,o,ho,hb⟩:=hR.blk i b hi;unfold BRel at hb;rw [isCells_iff] at hk;rcases hk with hk|hk<;>rw [hk] at hb
 ·obtain ⟨c,fr,rfl,h2,h3⟩:=hb;exact ⟨c,fr,c.toList,[],ho,h2,by simp,h3,(fun _=>rfl),(fun h=>by rw [hk] at h;cases h)⟩
 ·obtain ⟨c,fr,p,q,rfl,h2,h3,h4,h5⟩:=hb;exact ⟨c,fr,p,q,ho,h2,h3,h4,(fun h=>by rw [hk] at h;cases h),fun _=>h5⟩
theorem ZcM {x:Addr} {n b:Nat} {cs:List Value} (h:Zav σ x n=some cs) (hR:R G ρ σ w) (hi:ρ.bl x.block=some b) :
  ∃ds,LRel (VRel ρ) cs ds∧ds.length=n∧∀j v,ds[j]?=some v→w.cell? ⟨b,x.off+j,none⟩=some v:=by
 unfold Zav at h;rw [ZaJ] at h;split at h
 ·rename_i hc;simp only [Bool.and_eq_true,Nat.ble_eq] at hc;cases h;obtain ⟨c,fr,pre,post,hw,_,hl,hr,_,_⟩:=Zg4 hR hi hc.1;refine ⟨(pre.drop x.off).take n,(hr.drop _).take _,?_,?_⟩
  ·rw [zX,List.length_drop,←hr.length];omega
  ·intro j v hj;have hjn:j<n:=by
    rcases Nat.lt_or_ge j n with h|h
    ·exact h
    ·rw [zV (by rw [zX];omega)] at hj;cases hj
   rw [List.getElem?_take_of_lt hjn,List.getElem?_drop] at hj;unfold World.cell?;simp only [hw];have:c.toList[x.off+j]?=some v:=by
    rw [hl,zN]
    ·exact hj
    ·rcases Nat.lt_or_ge (x.off+j) pre.length with h|h
     ·exact h
     ·rw [zV h] at hj;cases hj
   simpa using this
 ·split at h
  ·rename_i hc;simp only [Bool.and_eq_true,Nat.ble_eq,Nat.beq_eq] at hc;cases h;obtain ⟨_,o,ho,hb⟩:=hR.blk _ b hi;unfold BRel at hb;rw [hc.1.1] at hb;obtain ⟨c,fr,rfl,hcell⟩:=hb;have key:∀(cs:List Value) (off:Nat),(∀j v,cs[j]?=some v→(σ.get x.block).vals[off+j]?=some v)→cs.all known=true→∃ds,LRel (VRel ρ) cs ds∧ds.length=cs.length∧∀j v,ds[j]?=some v→w.cell? ⟨b,off+j,none⟩=some v:=by
    intro cs
    induction cs with
    | nil=>intro off _ _;exact ⟨[],trivial,rfl,fun j v h=>by simp at h⟩
    | cons v cs ih=>
     intro off hat hall;simp only [List.all_cons,Bool.and_eq_true] at hall;obtain ⟨u,h1,h2⟩:=hcell (off+0) v (hat 0 v rfl) hall.1;obtain ⟨ds,h3,h4,h5⟩:=ih (off+1) (fun j u hj=>by rw [show off+1+j=off+(j+1) by omega];exact hat (j+1) u (by simpa using hj)) hall.2
     refine ⟨u::ds,⟨h2,h3⟩,by simp [h4],fun j u' hj=>?_⟩
     cases j with
     | zero=>
      simp only [List.getElem?_cons_zero,Option.some.injEq] at hj;subst hj;unfold World.cell?;simp only [ho];simpa using h1
     | succ j=>
      rw [show off+(j+1)=off+1+j by omega]
      exact h5 j u' (by simpa using hj)
   obtain ⟨ds,h1,h2,h3⟩:=key _ x.off (fun j v hj=>by
    have hjn:j<n:=by
     rcases Nat.lt_or_ge j n with h|h
     ·exact h
     ·rw [zV (by rw [zX];omega)] at hj;cases hj
    rw [List.getElem?_take_of_lt hjn,List.getElem?_drop] at hj;exact hj) hc.2
   refine ⟨ds,h1,?_,h3⟩;rw [h2,zX,List.length_drop];have:=hc.1.2;omega
  ·cases h
theorem Zc4 {x:Addr} {n b:Nat} {cs:List Value} (h:Zav σ x n=some cs) (hR:R G ρ σ w) (hi:ρ.bl x.block=some b) :
  ∃ds,LRel (VRel ρ) cs ds∧(loadCells ⟨b,x.off,none⟩ n).run P w=.ok ds.toArray w:=by
 obtain ⟨ds,h1,h2,h3⟩:=ZcM h hR hi;refine ⟨ds,h1,?_⟩;subst h2;exact run_loadCells_list w _ ds fun j v hj=>by rw [ZbP];exact h3 j v hj
theorem Zfn {t:TypeId} {p p' v:Value} (h:Zat P σ t p=some v) (hR:R G ρ σ w) (hp:VRel ρ p p') :
  ∃v',(Instr.loadAt t p').run P w=.ok v' w∧VRel ρ v v':=by
 unfold Zat at h;split at h
 ·rename_i x;obtain ⟨b,hb,hs,rfl⟩:=vrel_ptr.1 hp;split at h
  ·cases h
  ·rename_i d hd;split at h
   ·rename_i hag;split at h
    ·cases h
    ·rename_i i hi;split at h
     ·cases h
     ·rename_i cs hc;cases h;obtain ⟨ds,h1,h2⟩:=Zc4 (P:=P) hc hR hb;exact ⟨.agg ds.toArray,by simp [Instr.loadAt,Instr.sureAddr,loadVar,ZeG hd,hag,ZaX hi,h2],vrel_agg.2 ⟨ds,h1,rfl⟩⟩
   ·rename_i hag;split at h
    ·rename_i u hc;cases h;obtain ⟨ds,h1,h2,h3⟩:=ZcM hc hR hb
     match ds,h1,h2 with
     | [d],h1,_=>
      have hcell:=h3 0 d rfl;simp only [Nat.add_zero] at hcell;exact ⟨d,by simp [Instr.loadAt,Instr.sureAddr,loadVar,ZeG hd,hag,hcell],h1.1⟩
    ·cases h
 ·cases h
theorem oneR {v v':Value} (h:VRel ρ v v'):one v'=one v:=by
 cases v
 case agg cs=>obtain ⟨_,_,rfl⟩:=vrel_agg.1 h;rfl
 case tuple cs=>obtain ⟨_,_,rfl⟩:=vrel_tuple.1 h;rfl
 case pointer a=>cases a with
  | none=>obtain rfl:=vrel_ptr_none.1 h;rfl
  | some a=>obtain ⟨_,_,_,rfl⟩:=vrel_ptr.1 h;rfl
 case slice a l c=>cases a with
  | none=>obtain rfl:=vrel_slice_none.1 h;rfl
  | some a=>obtain ⟨_,_,rfl,_⟩:=Za1 h;rfl
 case map a=>cases a with
  | none=>obtain rfl:=vrel_map_none.1 h;rfl
  | some a=>obtain ⟨_,_,rfl⟩:=vrel_map.1 h;rfl
 case func=>obtain ⟨_,_,_,_,rfl⟩:=vrel_func.1 h;rfl
 case iface=>obtain ⟨_,_,rfl⟩:=vrel_iface.1 h;rfl
 case chan=>obtain ⟨_,_,rfl⟩:=ZcD h;rfl
 case bool b=>obtain rfl:=vrel_bool.1 h;rfl
 case int b=>obtain rfl:=vrel_int.1 h;rfl
 case float b=>obtain rfl:=vrel_float.1 h;rfl
 case complex b=>obtain rfl:=vrel_complex.1 h;rfl
 case string b=>obtain rfl:=vrel_string.1 h;rfl
 case nilFunc=>obtain rfl:=vrel_nilFunc.1 h;rfl
 case nilIface=>obtain rfl:=vrel_nilIface.1 h;rfl
theorem Zjq:∀{l l':List Value},LRel (VRel ρ) l l'→l.all one=true→l'.all one=true
 | [],[],_,_=>rfl
 | _::_,_::_,h,h'=>by
  simp only [List.all_cons,Bool.and_eq_true] at h' ⊢;exact ⟨by rw [oneR h.1];exact h'.1,Zjq h.2 h'.2⟩
 | [],_::_,h,_=>h.elim
 | _::_,[],h,_=>h.elim
theorem ZcL {x:Addr} {b:Nat} {cs ds:List Value} (h:Zbc σ x cs=some σ') (hR:R G ρ σ w) (hi:ρ.bl x.block=some b) (hc:LRel (VRel ρ) cs ds) :
  ∃w',(storeCells ⟨b,x.off,none⟩ ds).run P w=.ok () w'∧Sim G ρ σ w ρ σ' w':=by
 unfold Zbc at h;rw [ZaJ] at h;split at h
 ·rename_i hk;simp only [Bool.and_eq_true,Nat.ble_eq] at hk;obtain ⟨⟨hk,hn⟩,ho⟩:=hk;cases cs with
  | nil=>
   cases h;cases ds with
   | cons _ _=>exact hc.elim
   | nil=>exact ⟨w,rfl,Sim.refl hR⟩
  | cons c0 cs0=>
  cases h;show ∃w',(storeCells ⟨b,x.off,none⟩ ds).run P w=.ok () w'∧Sim G ρ σ w ρ (σ.put x.block { σ.get x.block with vals:=Za3 (σ.get x.block).vals x.off (c0::cs0) }) w'
  generalize c0::cs0=cs at hc hn ho ⊢;obtain ⟨c,fr,pre,post,hw,hf,hl,hr,h1,h2⟩:=Zg4 hR hi hk;have hsz:c.size=pre.length+post.length:=by rw [←zS,←hl];simp
  obtain ⟨w',hrun,hheap,hout⟩:=Zdn P (e:=(σ.get x.block).elem) (b:=b) (off:=x.off) ds 0 c w hw hf (by rw [←hc.length,hsz,←hr.length];omega) (Zjq hc ho)
  refine ⟨w',hrun,?_⟩;have hkz:(σ.get x.block).kind≠0:=by
   intro h0;rw [isCells_iff,h0] at hk;omega
  refine Sim.put hR hi hkz hheap hout ?_;have hsp:Za3 c.toList (x.off+0) ds=Za3 pre x.off ds++post:=by
   rw [hl,Nat.add_zero,ZeR];rw [←hc.length,←hr.length];exact hn
  have hlen:(Za3 c.toList (x.off+0) ds).toArray.size=c.size:=by simp [ZbU]
  rw [isCells_iff] at hk;unfold BRel;rcases hk with hk|hk
  ·simp only [hk];refine ⟨_,fr,rfl,by rw [hlen];exact hf,?_⟩
   rw [h1 hk] at hsp;simp only [hsp,List.append_nil];exact hr.splice _ hc
  ·simp only [hk];refine ⟨_,fr,_,post,rfl,by rw [hlen];exact hf,by simp only [hsp],hr.splice _ hc,?_⟩
   rw [hlen];exact h2 hk
 ·cases h
theorem ZkJ {t:TypeId} {p p' x x':Value} (h:ZaK P σ t x p=some σ') (hR:R G ρ σ w) (hp:VRel ρ p p') (hx:VRel ρ x x') :
  ∃w',(Instr.storeAt t p' x').run P w=.ok () w'∧Sim G ρ σ w ρ σ' w':=by
 unfold ZaK at h;split at h
 ·rename_i y;obtain ⟨b,hb,hs,rfl⟩:=vrel_ptr.1 hp;split at h
  ·cases h
  ·rename_i i hi;split at h
   ·rename_i hsz;have hsz:=zK hsz;have hcs:=hx.cells;obtain ⟨w',h1,h2⟩:=ZcL (P:=P) h hR hb hcs;refine ⟨w',?_,h2⟩;have hz:x'.cells.size=i.size:=by
     rw [←hsz,←Array.length_toList,←Array.length_toList,hcs.length]
    simp [Instr.storeAt,Instr.sureAddr,storeVar,ZaX hi,hz,h1]
   ·cases h
 ·cases h
theorem ZgI {s:TypeId} {f:Nat} {p p' v:Value} (h:Za4 P s f p=some v) (hp:VRel ρ p p') :
  ∃v',(Instr.fieldAt s p' f).run P w=.ok v' w∧VRel ρ v v':=by
 unfold Za4 at h;split at h
 ·rename_i x;obtain ⟨b,hb,hs,rfl⟩:=vrel_ptr.1 hp;split at h
  ·rename_i fields hd;split at h
   ·rename_i fd hf;split at h
    ·rename_i i hi;split at h
     ·cases h
     ·rename_i hz;cases h;have hz':¬i.size=0:=by simpa using hz
      refine ⟨.pointer (some ⟨b,x.off+fd.offset,none⟩),?_,?_⟩
      ·simp [Instr.fieldAt,Instr.sureAddr,Zai hd,hf,fieldPlace,ZaX hi,hz',ZbP]
      ·rw [Zch hs];exact vrel_ptr.2 ⟨b,hb,rfl,rfl⟩
    ·cases h
   ·cases h
  ·cases h
 ·cases h
theorem Zd7 {t:TypeId} {x x' ix ix' v:Value} (h:Zal P t x ix=some v) (hx:VRel ρ x x') (hix:VRel ρ ix ix') :
  ∃v',(Instr.indexAt t x' ix').run P w=.ok v' w∧VRel ρ v v':=by
 unfold Zal at h;split at h
 ·rename_i k i;obtain rfl:=vrel_int.1 hix;split at h
  ·rename_i len elem y hd;obtain ⟨b,hb,hs,rfl⟩:=vrel_ptr.1 hx;split at h
   ·rename_i inf hi;split at h
    ·rename_i hr;cases h;refine ⟨.pointer (some ⟨b,y.off+i.toNat*inf.size,none⟩),?_,?_⟩
     ·simp [Instr.indexAt,asIntOf,Instr.sureAddr,Zai hd,hr,ZaX hi,ZbP]
     ·rw [Zch hs];exact vrel_ptr.2 ⟨b,hb,rfl,rfl⟩
    ·cases h
   ·cases h
  ·rename_i elem y len cp hd;rcases vrel_slice.1 hx with ⟨b,c',hb,hs,hc,rfl⟩|⟨hs,rfl,rfl,rfl⟩
   rotate_left
   ·split at h
    ·split at h
     ·rename_i hr;have hr:=(Zlr _ _).1 hr;exact absurd hr (by omega)
     ·cases h
    ·cases h
   split at h
   ·rename_i inf hi;split at h
    ·rename_i hr;have hr:=(Zlr _ _).1 hr;cases h;refine ⟨.pointer (some ⟨b,y.off+i.toNat*inf.size,none⟩),?_,?_⟩
     ·simp [Instr.indexAt,asIntOf,Instr.sureAddr,Zai hd,hr,ZaX hi,ZbP]
     ·rw [Zch hs];exact vrel_ptr.2 ⟨b,hb,rfl,rfl⟩
    ·cases h
   ·cases h
  ·cases h
 ·cases h
theorem ZhZ {t:TypeId} {cs ds:List Value} {off:Nat} {v:Value} (h:Zqu P t cs off=some v) (hc:LRel (VRel ρ) cs ds) :
  ∃v',(part t ds.toArray off).run P w=.ok v' w∧VRel ρ v v':=by
 unfold Zqu at h;split at h
 ·cases h
 ·rename_i d hd;split at h
  ·rename_i hag;split at h
   ·cases h
   ·rename_i i hi;cases h;refine ⟨.agg (ds.toArray.extract off (off+i.size)),by simp [part,ZeG hd,hag,ZaX hi],?_⟩
    refine vrel_agg.2 ⟨(ds.take (off+i.size)).drop off,(hc.take _).drop _,?_⟩
    congr 1
    apply Array.ext';simp [List.extract_eq_take_drop,List.drop_take]
  ·rename_i hag;obtain ⟨u,hu,hr⟩:=hc.get off h;exact ⟨u,by simp [part,ZeG hd,hag,hu],hr⟩
theorem Ze3 {t:TypeId} {f:Nat} {x x' v:Value} (h:Zjv P t f x=some v) (hx:VRel ρ x x') :
  ∃v',(Instr.field t x' f).run P w=.ok v' w∧VRel ρ v v':=by
 unfold Zjv at h;split at h
 ·rename_i cs;obtain ⟨ds,hc,rfl⟩:=vrel_agg.1 hx;split at h
  ·rename_i fields hd;split at h
   ·rename_i fd hf;obtain ⟨v',h1,h2⟩:=ZhZ (P:=P) (w:=w) h hc;exact ⟨v',by simp [Instr.field,Zai hd,hf,asAgg,h1],h2⟩
   ·cases h
  ·cases h
 ·cases h
theorem Ze1 {t:TypeId} {x x' ix ix' v:Value} (h:Zju P t x ix=some v) (hx:VRel ρ x x') (hix:VRel ρ ix ix') :
  ∃v',(Instr.index t x' ix').run P w=.ok v' w∧VRel ρ v v':=by
 unfold Zju at h;split at h
 ·rename_i k i;obtain rfl:=vrel_int.1 hix;split at h
  ·rename_i len elem cs hd;obtain ⟨ds,hc,rfl⟩:=vrel_agg.1 hx;split at h
   ·rename_i inf hi;split at h
    ·rename_i hr;obtain ⟨v',h1,h2⟩:=ZhZ (P:=P) (w:=w) h hc;exact ⟨v',by simp [Instr.index,asIntOf,Zai hd,hr,ZaX hi,h1],h2⟩
    ·cases h
   ·cases h
  ·rename_i s hd;obtain rfl:=vrel_string.1 hx;split at h
   ·rename_i h0;split at h
    ·rename_i b hb;cases h;exact ⟨_,by simp [Instr.index,asIntOf,Zai hd,h0,hb],vrel_int.2 rfl⟩
    ·cases h
   ·cases h
  ·cases h
 ·cases h
end ops
end Go.Proofs.YteangeffgjolpaaGreatDoor.Abs
