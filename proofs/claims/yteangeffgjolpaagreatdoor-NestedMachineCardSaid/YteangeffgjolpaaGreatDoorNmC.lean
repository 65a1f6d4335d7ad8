/- What is kept while some blocks change;lists that grow;steps of drawn regions. No program. -/
import Derived.Test.YteangeffgjolpaaGreatDoorNmK
import Derived.KernelRfl
set_option linter.unusedSimpArgs false
set_option linter.unusedVariables false
set_option maxHeartbeats 64000000
namespace Go.Proofs.YteangeffgjolpaaGreatDoor.Abs
theorem ZnQ {P:Program} {K:Tbl} {G N:Nat} {f:FuncId} {args:List Value} {σ σ':AS} {v:Value} {Q:Value→AS→Prop} (h:ZcB P K G N f args σ=some (v,σ')) (hq:Q v σ'):C P K G f args σ Q:=
 ⟨v,σ',N,fun fuel hf=>Zfk (Zjz hf) _ _ _ _ h,hq⟩
section
variable {P:Program} {K:Tbl} {G n:Nat} {ops:Array Oper} {r:Regs} {σ:AS} {l:List Oper}
theorem Zb7 {Q:Regs→AS→Prop} {d:Nat} {args:Array Operand} {ts:Array TypeId} {ty:TypeId} {pos:String} {aft:Array Edge} {fid:FuncId} {vs:List Value} {gd:Option (Nat×Bool)}
  (hw:aWanted ops r ⟨some d,.call ⟨.value (.func fid),args,ts⟩,ty,pos,aft,gd⟩=true) (hv:aevs G r args.toList=some vs) (hd:d<n)
  (h:C P K G fid vs σ fun v σ'=>Ls P K G n ops l (rput r d v) σ' Q):Ls P K G n ops (⟨some d,.call ⟨.value (.func fid),args,ts⟩,ty,pos,aft,gd⟩::l) r σ Q:=
 Zpn hw (ZiQ (first:=#[]) (captured:=#[]) rfl hv (by
  have e:(#[]:Array Value).toList++vs++(#[]:Array Value).toList=vs:=by simp
  rw [e];exact h.mono fun v σ' h=>⟨_,by simp only [aPut,Zab];rw [if_pos (by rw [Nat.blt_eq];exact hd)],h⟩))
theorem Zpo {sj X:List Nat} {Q:Regs→AS→Prop} {k0:Nat} {d:Nat} {args:Array Operand} {ts:Array TypeId} {ty:TypeId} {pos:String} {aft:Array Edge} {fid:FuncId} {vs:List Value} {gd:Option (Nat×Bool)}
  (hw:aWanted ops r ⟨some d,.call ⟨.value (.func fid),args,ts⟩,ty,pos,aft,gd⟩=true) (hv:aevs G r args.toList=some vs) (hd:d<n) (hm:memb sj k0=false)
  (h:C P K G fid vs σ.reset fun v s1=>σ.next≤s1.low∧Lg P K G n ops sj X (k0+1) l (rput r d v) (σ.merge s1) Q) :
  Lg P K G n ops sj X k0 (⟨some d,.call ⟨.value (.func fid),args,ts⟩,ty,pos,aft,gd⟩::l) r σ Q:=by
 refine ⟨fun _=>ZiQ (first:=#[]) (captured:=#[]) rfl hv ?_,fun h=>by rw [hw] at h;cases h⟩
 have e:(#[]:Array Value).toList++vs++(#[]:Array Value).toList=vs:=by simp
 rw [e];exact h.mono fun v s1 ⟨h1,h2⟩=>⟨⟨.inl h1,fun h=>by rw [hm] at h;cases h⟩,_,by simp only [aPut,Zab];rw [if_pos (by rw [Nat.blt_eq];exact hd)],h2⟩
end
noncomputable def hid:List Nat→AS→AS
 | [],σ=>σ
 | x::X,σ=>(hid X σ).put x Blk.dead
theorem ZbH:∀(X:List Nat) (σ:AS),(hid X σ).next=σ.next
 | [],_=>rfl
 | _::X,σ=>ZbH X σ
theorem Zdv:∀{X:List Nat} {x:Nat} (σ:AS),x∈X→(hid X σ).get x=Blk.dead
 | y::X,x,σ,h=>by
  unfold hid;rw [AS.get_put];by_cases e:y=x
  ·rw [if_pos e]
  ·rw [if_neg e];rcases List.mem_cons.1 h with h|h
   ·exact absurd h.symm e
   ·exact Zdv σ h
theorem Zcd:∀{X:List Nat} {x:Nat} (σ:AS),x∉X→(hid X σ).get x=σ.get x
 | [],_,_,_=>rfl
 | y::X,x,σ,h=>by
  unfold hid;rw [AS.get_put,if_neg (fun e=>h (by rw [e];exact List.mem_cons_self)),Zcd σ (fun h2=>h (List.mem_cons_of_mem _ h2))]
theorem hid_low:∀{X:List Nat} {σ:AS} {m:Nat},m≤(hid X σ).low↔m≤σ.low∧∀x∈X,m≤x
 | [],σ,m=>by simp [hid]
 | y::X,σ,m=>by
  have:=hid_low (X:=X) (σ:=σ) (m:=m)
  constructor
  ·intro h;have h1:m≤(hid X σ).low∧m≤y:=Nat.le_min.1 h;obtain ⟨h3,h4⟩:=this.1 h1.1;refine ⟨h3,fun x hx=>?_⟩;rcases List.mem_cons.1 hx with rfl|hx
   ·exact h1.2
   ·exact h4 x hx
  ·rintro ⟨h1,h2⟩;have h3:=this.2 ⟨h1,fun x hx=>h2 x (List.mem_cons_of_mem _ hx)⟩;exact Nat.le_min.2 ⟨h3,h2 y List.mem_cons_self⟩
structure ExtX (X:List Nat) (σ σ':AS):Prop where
 nxt:σ.next≤σ'.next
 get:∀i,i<σ.next→i∉X→σ'.get i=σ.get i
 low:∀m,m≤σ.low→m≤σ.next→(∀x∈X,m≤x)→m≤σ'.low
theorem ExtX.refl (X:List Nat) (σ:AS):ExtX X σ σ:=⟨zA _,fun _ _ _=>rfl,fun _ h _ _=>h⟩
theorem ExtX.of {X:List Nat} {σ σ':AS} (h:Ext σ σ'):ExtX X σ σ':=⟨h.nxt,fun i hi _=>h.get i hi,fun m h1 h2 _=>h.low m h1 h2⟩
theorem ExtX.trans {X:List Nat} {σ σ' σ'':AS} (h:ExtX X σ σ') (k:ExtX X σ' σ''):ExtX X σ σ'':=
 ⟨zB h.nxt k.nxt,fun i hi hx=>by rw [k.get i (zC hi h.nxt) hx,h.get i hi hx],fun m h1 h2 h3=>k.low m (h.low m h1 h2 h3) (zB h2 h.nxt) h3⟩
theorem ExtX.sub {X Y:List Nat} {σ σ':AS} (h:ExtX X σ σ') (hx:∀x∈X,x∈Y):ExtX Y σ σ':=
 ⟨h.nxt,fun i hi hn=>h.get i hi fun h2=>hn (hx i h2),fun m h1 h2 h3=>h.low m h1 h2 fun x h4=>h3 x (hx x h4)⟩
theorem ExtX.lt {X:List Nat} {σ σ':AS} (h:ExtX X σ σ') {i:Nat} (hi:i<σ.next):i<σ'.next:=zC hi h.nxt
theorem ExtX.put {X:List Nat} {σ σ':AS} (h:ExtX X σ σ') {i:Nat} (hi:i∈X) (b:Blk):ExtX X σ (σ'.put i b):=
 ⟨h.nxt,fun j hj hx=>by rw [AS.get_put,if_neg (fun e=>hx (by rw [←e];exact hi)),h.get j hj hx],fun m h1 h2 h3=>Nat.le_min.2 ⟨h.low m h1 h2 h3,h3 i hi⟩⟩
theorem ExtX.merge {X:List Nat} {σ s1:AS} (h:ExtX X σ.reset s1):ExtX X σ (σ.merge s1):=
 ⟨h.nxt,h.get,fun m h1 h2 h3=>Nat.le_min.2 ⟨h1,h.low m h2 h2 h3⟩⟩
theorem ExtX.hid {X:List Nat} {σ σ':AS} (h:ExtX X σ σ'):Ext (hid X σ) (hid X σ'):=by
 refine ⟨by rw [ZbH,ZbH];exact h.nxt,fun i hi=>?_,fun m h1 h2=>?_⟩
 ·rw [ZbH] at hi;by_cases hx:i∈X
  ·rw [Zdv _ hx,Zdv _ hx]
  ·rw [Zcd _ hx,Zcd _ hx,h.get i hi hx]
 ·rw [ZbH] at h2;rw [hid_low] at h1 ⊢;exact ⟨h.low m h1.1 h2 h1.2,h1.2⟩
theorem Ext.hid {X:List Nat} {σ σ':AS} (h:Ext σ σ'):Ext (hid X σ) (hid X σ'):=(ExtX.of h).hid
theorem Znz {σ:AS} {a:Addr} (h:σ.get a.block=Blk.dead) (n:Nat):Zav σ a n=none:=by
 unfold Zav;rw [h];rfl
theorem ZhF {X:List Nat} {σ:AS} {a:Addr} {n:Nat} {cs:List Value} (h:Zav (hid X σ) a n=some cs):a.block∉X∧Zav σ a n=some cs:=by
 by_cases hx:a.block∈X
 ·rw [Znz (Zdv σ hx)] at h;cases h
 ·refine ⟨hx,?_⟩;unfold Zav at h ⊢;rw [Zcd σ hx] at h;exact h
theorem RS.shown {α:Type} {sz:Nat} {R:AS→List Value→α→Prop} {X:List Nat} {σ:AS} {v:Value} {l:List α} (hR:∀cs x,R (hid X σ) cs x→R σ cs x) (h:RS sz R (hid X σ) v l):RS sz R σ v l:=by
 obtain ⟨base,cap,e,hb⟩:=h;refine ⟨base,cap,e,fun hl=>?_⟩;obtain ⟨b,off,e1,e2,e3⟩:=hb hl;rw [ZbH] at e2;refine ⟨b,off,e1,e2,fun i x hi=>?_⟩;obtain ⟨cs,h1,h2⟩:=e3 i x hi;exact ⟨cs,(ZhF h1).2,hR _ _ h2⟩
section
variable {P:Program} {K:Tbl} {G n:Nat} {r:Regs} {σ:AS} {c d e:Code} {Q:Nat→Regs→AS→Prop}
theorem Zk1 {x:Operand} {b:Bool} (M:Regs→AS→Prop) (hb:aev G r x=some (.bool b)) (ht:b=true→W P K G n c r σ fun e r' σ'=>e=0∧M r' σ') (hf:b=false→W P K G n d r σ fun e r' σ'=>e=0∧M r' σ')
  (hM:∀r' σ',M r' σ'→W P K G n e r' σ' Q):W P K G n (.seq (.cond x c d) e) r σ Q:=
 W_if hb (fun h=>ZjD ((ht h).mono fun x r' σ' ⟨h1,h2⟩=>⟨fun _=>hM _ _ h2,fun h=>absurd h1 h⟩)) (fun h=>ZjD ((hf h).mono fun x r' σ' ⟨h1,h2⟩=>⟨fun _=>hM _ _ h2,fun h=>absurd h1 h⟩))
end
theorem aRem {P:Program} {t:TypeId} (xo yo:Operand) {k:IntKind} {a b:Int} (hb:b≠0):aBin P .rem t xo yo (.int k a) (.int k b)=some (.int k (a.tmod b)):=by
 have e1:ZaB .rem (.int k a) (.int k b)=none:=by simp only [ZaB,if_true,Zam]
 have e2:ZaY P (do eqGuard .rem t xo yo (.int k a) (.int k b);binOp .rem t (.int k a) (.int k b))=some (.int k (a.tmod b)):=by
  rw [ZbO];show (some ()).bind _=_;rw [Option.bind_some];unfold binOp;simp only [ne_eq,not_true_eq_false,if_false,Op.intDiv,if_neg hb];rfl
 unfold aBin;rw [e1];dsimp only;unfold Zdm;rw [show (flat (.int k a)&&flat (.int k b))=true from rfl,if_pos rfl,e2]
 rfl
theorem aLss {P:Program} {t:TypeId} (xo yo:Operand) {k:IntKind} {a b:Int}:aBin P .lss t xo yo (.int k a) (.int k b)=some (.bool (decide (a<b))):=by
 simp only [aBin,ZaB,Zam,if_true]
section
variable {P:Program} {K:Tbl} {G n id:Nat} {r:Regs} {σ:AS} {c d:Code} {Q:Nat→Regs→AS→Prop}
theorem Zbs {α:Type} (inv:α→Regs→AS→Prop) (μ:α→Nat) (M:Regs→AS→Prop)
  (h:∀a r σ,inv a r σ→W P K G n c r σ fun e r' σ'=>(e=0→∃a',μ a'<μ a∧inv a' r' σ')∧(e=id+2→M r' σ')∧(e≠0→e≠id+2→Q e r' σ'))
  (hM:∀r' σ',M r' σ'→W P K G n d r' σ' Q) (a:α) (h0:inv a r σ):W P K G n (.seq (.block id (.loop c)) d) r σ Q:=
 Zdc inv μ (fun a r σ hi=>(h a r σ hi).mono fun e r' σ' ⟨h1,h2,h3⟩=>⟨h1,fun he=>hM _ _ (h2 he),h3⟩) a h0
end
theorem Zbn (n:Nat):Zc6 (Zax+n)=true:=by unfold Zc6;rw [Nat.ble_eq];omega
theorem Zcb (n:Nat):ZdX (Zax+n)=n:=by
 unfold ZdX;have:Nat.blt (Zax+n) Zax=false:=by
  cases h:Nat.blt (Zax+n) Zax with
  | false=>rfl
  | true=>rw [Nat.blt_eq] at h;omega
 rw [this];simp only [Bool.false_eq_true,if_false];omega
theorem ZbR:Zc6 0=false:=by kernel_rfl
theorem Zjj {a b:Nat} (h:b<a):Nat.ble a b=false:=by
 cases e:Nat.ble a b with
 | false=>rfl
 | true=>rw [Nat.ble_eq] at e;omega
theorem ZbF {a b:Nat} (h:a≤b):Nat.ble a b=true:=by rw [Nat.ble_eq];exact h
theorem abound_at (i n:Nat) (h:i≤n):ZeA (.int .i64 (i:Int)) n=some i:=by
 show (if (0:Int)≤(i:Int)∧(i:Int)≤(n:Int) then some (i:Int).toNat else none)=some i
 rw [if_pos ⟨by omega,by omega⟩];rfl
theorem ZbA {n b off l c:Nat} (h:b<n):(vsc n 9 (.slice (some ⟨b,off,none⟩) l c)&&veq 9 (.slice (some ⟨b,off,none⟩) l c) (.slice (some ⟨b,off,none⟩) l c))=true:=by
 unfold vsc veq;simp [h]
theorem ZnX {n l c:Nat}:(vsc n 9 (.slice none l c)&&veq 9 (.slice none l c) (.slice none l c))=true:=by
 unfold vsc veq;simp
section
variable {P:Program} {K:Tbl} {G n:Nat} {ops:Array Oper} {sj X:List Nat} {r:Regs} {σ s1:AS} {l:List Oper} {Q:Regs→AS→Prop}
theorem ZaZ {k0 d b off:Nat} {t:TypeId} {a:Operand} {ty:TypeId} {pos:String} {aft:Array Edge} {v:Value} (ha:aev G r a=some (.pointer (some ⟨b,off,none⟩)))
  (hl:Zat P σ.reset t (.pointer (some ⟨b,off,none⟩))=some v) (hsv:(vsc σ.next 9 v&&veq 9 v v)=true) (hb:b<σ.next) (hX:memb X b=true) (hd:d<n)
  (h:Lg P K G n ops sj X (k0+1) l (rput r d v) (σ.merge σ.reset) Q):Lg P K G n ops sj X k0 (⟨some d,.load t a,ty,pos,aft,none⟩::l) r σ Q:=by
 refine ⟨fun _=>⟨v,σ.reset,0,fun fuel _=>?_,⟨.inl (zA _),fun _=>?_⟩,_,?_,h⟩,fun h=>(nomatch h)⟩
 ·simp only [aStep_eq,aStepOld,aOp,Zag,ha,hl,ann]
 ·unfold ZjQ;rw [hsv];simp only [fpOf,ha,fpO,fpV,hX,Bool.and_true,Bool.true_and];rw [Nat.blt_eq];exact hb
 ·simp only [aPut,Zab];rw [if_pos (by rw [Nat.blt_eq];exact hd)]
theorem ZiR {k0:Nat} {d:Nat} {args:Array Operand} {ts:Array TypeId} {ty:TypeId} {pos:String} {aft:Array Edge} {fid:FuncId} {vs:List Value}
  (hv:aevs G r args.toList=some vs) (hd:d<n) (hm:memb sj k0=false) (hbar:ZhU P ops sj k0=true)
  (h:C P K G fid vs σ.reset fun v s1=>(∀x∈X,x<σ.next→s1.get x=σ.get x)∧Lg P K G n ops sj X (k0+1) l (rput r d v) (σ.merge s1) Q) :
  Lg P K G n ops sj X k0 (⟨some d,.call ⟨.value (.func fid),args,ts⟩,ty,pos,aft,none⟩::l) r σ Q:=
 ZjE (first:=#[]) (captured:=#[]) rfl hv hd hm (by
  have e:(#[]:Array Value).toList++vs++(#[]:Array Value).toList=vs:=by simp
  rw [e];exact h.mono fun v s1 ⟨h1,h2⟩=>⟨.inr ⟨hbar,fun x hx hl=>.inl (h1 x hx hl)⟩,h2⟩)
theorem Zf5 {k0 b off:Nat} {t:TypeId} {a x:Operand} {ty:TypeId} {pos:String} {aft:Array Edge} {v:Value} (ha:aev G r a=some (.pointer (some ⟨b,off,none⟩))) (hx:aev G r x=some v)
  (hs:ZaK P σ.reset t v (.pointer (some ⟨b,off,none⟩))=some s1) (hg:∀y,y≠b→s1.get y=σ.get y) (hm:memb sj k0=false) (hbar:ZhU P ops sj k0=true) (hlast:Zke ops sj k0=true)
  (h:Lg P K G n ops sj X (k0+1) l r (σ.merge s1) Q):Lg P K G n ops sj X k0 (⟨none,.store t a x,ty,pos,aft,none⟩::l) r σ Q:=by
 refine ⟨fun _=>⟨undef,s1,0,fun fuel _=>?_,⟨.inr ⟨hbar,fun y hy hlt=>?_⟩,fun h=>by rw [hm] at h;cases h⟩,_,rfl,h⟩,fun h=>(nomatch h)⟩
 ·simp only [aStep_eq,aStepOld,aOp,ZaE,ha,hx,hs,unn]
 ·by_cases e:y=b
  ·subst e;exact .inr ⟨hlast,by simp only [fpOf,ha,fpO,fpV,ZmO];exact Nat.beq_refl _⟩
  ·exact .inl (hg y e)
end
theorem ExtX.drop {tb lb:Nat} {X:List Nat} {σ σ1 σ2:AS} (h:ExtX [tb] σ σ1) (k:ExtX X σ1 σ2) (hX:∀x∈X,x=tb∨σ.next≤x):ExtX [tb] σ σ2:=
 ⟨zB h.nxt k.nxt,fun i hi hx=>by
  rw [k.get i (zC hi h.nxt) (fun h2=>by
   rcases hX i h2 with e|e
   ·exact hx (by rw [e];exact List.mem_cons_self)
   ·omega),h.get i hi hx],fun m h1 h2 h3=>k.low m (h.low m h1 h2 h3) (zB h2 h.nxt) fun x hx=>by
   rcases hX x hx with e|e
   ·rw [e];exact h3 tb List.mem_cons_self
   ·omega⟩
structure El (P:Program) (T E z:Nat):Prop where
 und:P.underlying T=some (.slice E)
 info:∃inf zz,P.info? E=some inf∧inf.size=z∧inf.bytes≤1000∧inf.zero=some zz∧zz.cells.size=z∧flat zz=true
 pos:0<z
def Own (v:Value) (i:Nat):Prop:=∃n c,v=.slice (some ⟨i,0,none⟩) n c
def Stk (lo E z:Nat) (σ:AS) (v:Value) (k:Nat) (cs:List Value):Prop:=
 cs.length=k*z∧cs.all one=true∧((v=.slice none 0 0∧k=0)∨
  ∃b n vals,v=.slice (some ⟨b,0,none⟩) k (Zax+n)∧k≤n∧lo≤b∧b<σ.next∧σ.get b=⟨2,E,z,vals,[]⟩∧n*z≤vals.length∧vals.take (k*z)=cs)
def StkC (lo E z:Nat) (σ:AS) (v:Value) (k:Nat) (cs:List Value):Prop:=
 (k=1∧cs.length=z∧cs.all one=true∧∃b,v=.slice (some ⟨b,0,none⟩) 1 1∧lo≤b∧b<σ.next∧σ.get b=⟨1,E,0,cs,[]⟩)∨Stk lo E z σ v k cs
section
variable {P:Program} {lo T E z k m:Nat} {σ σ':AS} {v x:Value} {cs new:List Value}
theorem Stk.len (h:Stk lo E z σ v k cs):∃a c,v=.slice a k c:=by
 obtain ⟨_,_,⟨rfl,rfl⟩|⟨b,n,vals,rfl,_⟩⟩:=h<;>exact ⟨_,_,rfl⟩
theorem StkC.len (h:StkC lo E z σ v k cs):∃a c,v=.slice a k c:=by
 rcases h with ⟨rfl,_,_,b,rfl,_⟩|h
 ·exact ⟨_,_,rfl⟩
 ·exact h.len
theorem Stk.keep (h:Stk lo E z σ v k cs) (hn:σ.next≤σ'.next) (hg:∀i,Own v i→i<σ.next→σ'.get i=σ.get i):Stk lo E z σ' v k cs:=by
 obtain ⟨h1,h2,h3|⟨b,n,vals,rfl,h4,h5,h6,h7,h8⟩⟩:=h
 ·exact ⟨h1,h2,.inl h3⟩
 ·exact ⟨h1,h2,.inr ⟨b,n,vals,rfl,h4,h5,by omega,(hg b ⟨_,_,rfl⟩ h6).trans h7,h8⟩⟩
theorem StkC.keep (h:StkC lo E z σ v k cs) (hn:σ.next≤σ'.next) (hg:∀i,Own v i→i<σ.next→σ'.get i=σ.get i):StkC lo E z σ' v k cs:=by
 rcases h with ⟨h0,h1,h2,b,rfl,h3,h4,h5⟩|h
 ·exact .inl ⟨h0,h1,h2,b,rfl,h3,by omega,(hg b ⟨_,_,rfl⟩ h4).trans h5⟩
 ·exact .inr (h.keep hn hg)
theorem Stk.own (h:Stk lo E z σ v k cs) {i:Nat} (ho:Own v i):lo≤i∧i<σ.next∧(σ.get i).kind=2∧(σ.get i).elem=E:=by
 obtain ⟨n,c,rfl⟩:=ho;obtain ⟨_,_,⟨h3,_⟩|⟨b,n,vals,h3,h4,h5,h6,h7,h8⟩⟩:=h
 ·cases h3
 ·cases h3;exact ⟨h5,h6,by rw [h7],by rw [h7]⟩
theorem StkC.own (h:StkC lo E z σ v k cs) {i:Nat} (ho:Own v i):lo≤i∧i<σ.next∧(σ.get i).elem=E:=by
 rcases h with ⟨_,_,_,b,rfl,h3,h4,h5⟩|h
 ·obtain ⟨n,c,e⟩:=ho;cases e;exact ⟨h3,h4,by rw [h5]⟩
 ·exact ⟨(h.own ho).1,(h.own ho).2.1,(h.own ho).2.2.2⟩
theorem ZlP {a b:Nat} (h:a≠b):Nat.beq a b=false:=by
 cases e:Nat.beq a b with
 | false=>rfl
 | true=>exact absurd (zK e) h
theorem Stk.push (el:El P T E z) (h:Stk lo E z σ v k cs) (hlo:lo≤σ.next) (hx:∀inf:TypeInfo,inf.size=z→Zbd P σ false inf x=some (m,new)) (hn:new.length=m*z) (h1:new.all one=true) (hk:k+m≤1000000) :
  ∃v' s,ZaU P σ #[T,T] v x=some (v',s)∧Stk lo E z s v' (k+m) (cs++new)∧σ.next≤s.next∧(∀i,i<σ.next→¬Own v i→s.get i=σ.get i)∧(∀q,q≤lo→q≤σ.low→q≤s.low)∧
   ∀i,Own v' i→Own v i∨σ.next≤i:=by
 obtain ⟨hu,⟨inf,zz,g1,g2,g3,g4,g5,g6⟩,g7⟩:=el;have hs:=hx inf g2;obtain ⟨c1,c2,hv⟩:=h;have d1:Nat.beq z 0=false:=ZlP (by omega)
 have d2:Nat.beq z z=true:=Nat.beq_refl _;have d3:Nat.ble ((4*(k+m)+4000)*inf.bytes) 281474976710656=true:=ZbF (zB (Nat.mul_le_mul (show 4*(k+m)+4000≤4004000 by omega) g3) (by decide))
 have d4:Nat.ble (k+m) 1000000000000=true:=ZbF (by omega)
 have d5:Nat.beq new.length (m*z)=true:=by rw [hn];exact Nat.beq_refl _
 have hlen:(cs++new).length=(k+m)*z:=by rw [zS,c1,hn,Nat.add_mul]
 have hone:(cs++new).all one=true:=by rw [List.all_append,c2,h1];rfl
 rcases hv with ⟨rfl,rfl⟩|⟨b,n,vals,rfl,h4,h5,h6,h7,h8,h9⟩
 ·have hcs:cs=[]:=List.length_eq_zero_iff.1 (by rw [c1,Nat.zero_mul])
  subst hcs;by_cases hm:m=0
  ·subst hm;have hnew:new=[]:=List.length_eq_zero_iff.1 (by rw [hn,Nat.zero_mul])
   subst hnew;refine ⟨.slice none 0 0,σ,?_,⟨by simp,rfl,.inl ⟨rfl,rfl⟩⟩,zA _,fun _ _ _=>rfl,fun _ _ h=>h,fun i hi=>.inl hi⟩
   have d6:Nat.ble (0+0) 0=true:=rfl;unfold ZaU;simp only [List.getElem?_toArray,List.getElem?_cons_zero,List.getElem?_cons_succ,hu,g1,g2,g4,g5,g6,hs,d1,d2,d3,d4,d6,ZbR,Bool.not_true,Bool.or_false,Bool.false_eq_true,if_false,Nat.beq_refl,if_true,List.length_nil,Nat.zero_mul]
  ·refine ⟨.slice (some ⟨σ.next,0,none⟩) (0+m) (Zax+(0+m)),σ.new ⟨2,E,z,[]++new,[]⟩,?_,⟨hlen,hone,.inr ⟨σ.next,0+m,[]++new,rfl,zA _,hlo,zG _,by rw [AS.get_new,if_pos rfl],by rw [←hlen];exact zA _,?_⟩⟩,Nat.le_succ _,fun i hi _=>by rw [AS.get_new,if_neg (by omega)],fun _ _ h=>h,fun i hi=>.inr ?_⟩
   ·have d6:Nat.ble (0+m) 0=false:=Zjj (by omega)
    unfold ZaU;simp only [List.getElem?_toArray,List.getElem?_cons_zero,List.getElem?_cons_succ,hu,g1,g2,g4,g5,g6,hs,d1,d2,d3,d4,d5,d6,ZbR,Zd8,Bool.not_true,Bool.or_false,Bool.false_eq_true,if_false,Nat.beq_refl,if_true,List.length_nil,Nat.zero_mul]
   ·rw [zJ (by rw [hlen];exact zA _)]
   ·obtain ⟨_,_,e⟩:=hi;cases e;exact zA _
 ·have d7:(Nat.beq (σ.get b).kind 2&&Nat.beq (σ.get b).esz z)=true:=by rw [h7];show (Nat.beq 2 2&&Nat.beq z z)=true;rw [d2];rfl
  have hkz:k*z≤vals.length:=zB (Nat.mul_le_mul_right z h4) h8;by_cases hfit:k+m≤n
  ·have hfz:k*z+new.length≤vals.length:=by
    rw [hn,←Nat.add_mul];exact zB (Nat.mul_le_mul_right z hfit) h8
   by_cases hm:m=0
   ·subst hm;have hnew:new=[]:=List.length_eq_zero_iff.1 (by rw [hn,Nat.zero_mul])
    subst hnew;have hw:Zbc σ ⟨b,0+k*z,none⟩ []=some σ:=by
     unfold Zbc;simp only [h7,ZaJ,Nat.zero_add,List.length_nil,Nat.add_zero,List.all_nil];rw [ZbF hkz];rfl
    rw [List.append_nil];refine ⟨.slice (some ⟨b,0,none⟩) (k+0) (Zax+n),σ,?_,⟨by simpa using c1,c2,.inr ⟨b,n,vals,rfl,hfit,h5,h6,h7,h8,h9⟩⟩,zA _,fun _ _ _=>rfl,fun _ _ h=>h,fun i hi=>.inl ?_⟩
    ·have d6:Nat.ble (k+0) n=true:=ZbF hfit;unfold ZaU;simp only [List.getElem?_toArray,List.getElem?_cons_zero,List.getElem?_cons_succ,hu,g1,g2,g4,g5,g6,hs,d1,d2,d3,d4,d5,d6,d7,Zbn,Zcb,Bool.not_true,Bool.or_false,Bool.false_eq_true,if_false,Nat.beq_refl,if_true,hw]
    ·obtain ⟨_,_,e⟩:=hi;cases e;exact ⟨_,_,rfl⟩
   have hw:Zbc σ ⟨b,0+k*z,none⟩ new=some (σ.put b ⟨2,E,z,Za3 vals (k*z) new,[]⟩):=by
    obtain ⟨n0,nl,rfl⟩:∃n0 nl,new=n0::nl:=by
     cases new with
     | nil=>
      have:m*z=0:=hn.symm;rcases Nat.mul_eq_zero.1 this with h|h<;>omega
     | cons n0 nl=>exact ⟨_,_,rfl⟩
    unfold Zbc;simp only [h7,ZaJ,h1,Nat.zero_add];rw [ZbF hfz];rfl
   refine ⟨.slice (some ⟨b,0,none⟩) (k+m) (Zax+n),σ.put b ⟨2,E,z,Za3 vals (k*z) new,[]⟩,?_,⟨hlen,hone,.inr ⟨b,n,_,rfl,hfit,h5,h6,by rw [AS.get_put,if_pos rfl],by rw [ZbU];exact h8,?_⟩⟩,zA _,fun i hi ho=>by rw [AS.get_put,if_neg (fun e=>ho (by rw [←e];exact ⟨_,_,rfl⟩))],fun q g1 g2=>Nat.le_min.2 ⟨g2,zB g1 h5⟩,fun i hi=>.inl ?_⟩
   ·have d6:Nat.ble (k+m) n=true:=ZbF hfit;unfold ZaU;simp only [List.getElem?_toArray,List.getElem?_cons_zero,List.getElem?_cons_succ,hu,g1,g2,g4,g5,g6,hs,d1,d2,d3,d4,d5,d6,d7,Zbn,Zcb,Bool.not_true,Bool.or_false,Bool.false_eq_true,if_false,Nat.beq_refl,if_true,hw]
   ·rw [ZcX _ _ _ hfz,←h9,List.take_append_of_le_length (by simp only [zS,zX];rw [Nat.min_eq_left hkz,hn,←Nat.add_mul];exact zA _),zJ (by simp only [zS,zX];rw [Nat.min_eq_left hkz,hn,←Nat.add_mul];exact zA _)]
   ·obtain ⟨_,_,e⟩:=hi;cases e;exact ⟨_,_,rfl⟩
  ·refine ⟨.slice (some ⟨σ.next,0,none⟩) (k+m) (Zax+(k+m)),(σ.put b Blk.dead).new ⟨2,E,z,vals.take (k*z)++new,[]⟩,?_,⟨hlen,hone,.inr ⟨σ.next,k+m,cs++new,rfl,zA _,hlo,zG _,?_,by rw [←hlen];exact zA _,?_⟩⟩,Nat.le_succ _,fun i hi ho=>?_,fun q g1 g2=>Nat.le_min.2 ⟨g2,zB g1 h5⟩,fun i hi=>.inr ?_⟩
   ·have d6:Nat.ble (k+m) n=false:=Zjj (by omega)
    have d8:Nat.ble (k*z) (σ.get b).vals.length=true:=by rw [h7];exact ZbF hkz
    have d9:Nat.beq (σ.get b).elem E=true:=by rw [h7];exact Nat.beq_refl _
    have d10:(σ.get b).vals.take (k*z)=vals.take (k*z):=by rw [h7]
    unfold ZaU;simp only [List.getElem?_toArray,List.getElem?_cons_zero,List.getElem?_cons_succ,hu,g1,g2,g4,g5,g6,hs,d1,d2,d3,d4,d5,d6,d7,d8,d9,d10,h1,Zbn,Zcb,Bool.not_true,Bool.or_false,Bool.and_self,Bool.false_eq_true,if_false,Nat.beq_refl,if_true]
   ·rw [AS.get_new,h9];exact if_pos rfl
   ·rw [zJ (by rw [hlen];exact zA _)]
   ·rw [AS.get_new,if_neg (by show σ.next≠i;omega),AS.get_put,if_neg (fun e=>ho (by rw [←e];exact ⟨_,_,rfl⟩))]
   ·obtain ⟨_,_,e⟩:=hi;cases e;exact zA _
theorem StkC.push (el:El P T E z) (h:StkC lo E z σ v k cs) (hlo:lo≤σ.next) (hx:∀inf:TypeInfo,inf.size=z→Zbd P σ false inf x=some (m,new)) (hn:new.length=m*z) (h1:new.all one=true) (hk:k+m≤1000000) (hm:0<m) :
  ∃v' s,ZaU P σ #[T,T] v x=some (v',s)∧Stk lo E z s v' (k+m) (cs++new)∧σ.next≤s.next∧(∀i,i<σ.next→¬Own v i→s.get i=σ.get i)∧(∀q,q≤lo→q≤σ.low→q≤s.low)∧
   ∀i,Own v' i→Own v i∨σ.next≤i:=by
 rcases h with ⟨rfl,c1,c2,b,rfl,h5,h6,h7⟩|h
 ·obtain ⟨hu,⟨inf,zz,g1,g2,g3,g4,g5,g6⟩,g7⟩:=el;have hs:=hx inf g2;have d1:Nat.beq z 0=false:=ZlP (by omega)
  have d2:Nat.beq z z=true:=Nat.beq_refl _;have d3:Nat.ble ((4*(1+m)+4000)*inf.bytes) 281474976710656=true:=ZbF (zB (Nat.mul_le_mul (show 4*(1+m)+4000≤4004000 by omega) g3) (by decide))
  have d4:Nat.ble (1+m) 1000000000000=true:=ZbF (by omega)
  have d5:Nat.beq new.length (m*z)=true:=by rw [hn];exact Nat.beq_refl _
  have d6:Nat.ble (1+m) 1=false:=Zjj (by omega)
  have d7:Zc6 1=false:=by kernel_rfl
  have d8:Nat.beq cs.length (1*z)=true:=by rw [c1,Nat.one_mul];exact Nat.beq_refl _
  have hc:Zav σ ⟨b,0,none⟩ (1*z)=some cs:=Zaq h7 (by rw [Nat.one_mul];exact zJ (by rw [List.drop_zero,c1];exact zA _)) (by rw [c1];omega)
  have hlen:(cs++new).length=(1+m)*z:=by rw [zS,c1,hn,Nat.add_mul,Nat.one_mul]
  have hone:(cs++new).all one=true:=by rw [List.all_append,c2,h1];rfl
  refine ⟨.slice (some ⟨σ.next,0,none⟩) (1+m) (Zax+(1+m)),σ.new ⟨2,E,z,cs++new,[]⟩,?_,⟨hlen,hone,.inr ⟨σ.next,1+m,cs++new,rfl,zA _,hlo,zG _,by rw [AS.get_new,if_pos rfl],by rw [←hlen];exact zA _,?_⟩⟩,Nat.le_succ _,fun i hi _=>by rw [AS.get_new,if_neg (by omega)],fun _ _ h=>h,fun i hi=>.inr ?_⟩
  ·unfold ZaU;simp only [List.getElem?_toArray,List.getElem?_cons_zero,List.getElem?_cons_succ,hu,g1,g2,g4,g5,g6,hs,d1,d2,d3,d4,d5,d6,d7,d8,Zd8,Zbh,hc,Bool.not_true,Bool.or_false,Bool.false_eq_true,if_false,Nat.beq_refl,if_true]
  ·rw [zJ (by rw [hlen];exact zA _)]
  ·obtain ⟨_,_,e⟩:=hi;cases e;exact zA _
 ·exact h.push el hlo hx hn h1 hk
theorem Zdt {b n k:Nat} {E z:Nat} {vals:List Value} (el:El P T E z) (hg:σ.get b=⟨2,E,z,vals,[]⟩) {lo hi:Option Value} {y:Value}
  (h:Zbg z (some ⟨b,0,none⟩) k (Zax+n) lo hi none=some y):Zbv P σ T (.slice (some ⟨b,0,none⟩) k (Zax+n)) lo hi none=some y:=by
 obtain ⟨hu,⟨inf,zz,g1,g2,g3,g4,g5,g6⟩,g7⟩:=el;unfold Zbv;simp only [hu,g1,g2,Zbn,hg,if_true];rw [if_pos (by show (Nat.beq 2 2&&Nat.beq z z)=true;rw [Nat.beq_refl z];rfl)]
 exact h
theorem Stk.cut (el:El P T E z) (h:Stk lo E z σ v k cs) {j:Nat} (hj:j≤k):∃x,Zbv P σ T v none (some (.int .i64 (j:Int))) none=some x∧Stk lo E z σ x j (cs.take (j*z))∧(∀i,Own x i→Own v i)∧
  ∀inf:TypeInfo,inf.size=z→Zbd P σ false inf x=some (j,cs.take (j*z)):=by
 obtain ⟨c1,c2,⟨rfl,rfl⟩|⟨b,n,vals,rfl,h4,h5,h6,h7,h8,h9⟩⟩:=h
 ·obtain rfl:j=0:=by omega
  refine ⟨.slice none 0 0,?_,⟨by simp,by simp,.inl ⟨rfl,rfl⟩⟩,fun i hi=>hi,fun inf hi=>by rw [Nat.zero_mul];rfl⟩
  obtain ⟨hu,⟨inf,zz,g1,g2,g3,g4,g5,g6⟩,g7⟩:=el;unfold Zbv;simp only [hu,g1,ZbR,g2];rfl
 ·have hjz:j*z≤k*z:=Nat.mul_le_mul_right z hj;have hkz:k*z≤vals.length:=zB (Nat.mul_le_mul_right z h4) h8;have ht:cs.take (j*z)=vals.take (j*z):=by rw [←h9,List.take_take,Nat.min_eq_left hjz]
  refine ⟨.slice (some ⟨b,0,none⟩) j (Zax+n),Zdt el h7 ?_,⟨by rw [zX,c1,Nat.min_eq_left hjz],?_,.inr ⟨b,n,vals,rfl,by omega,h5,h6,h7,h8,ht.symm⟩⟩,fun i hi=>by obtain ⟨_,_,e⟩:=hi;cases e;exact ⟨_,_,rfl⟩,fun inf hi=>?_⟩
  ·unfold Zbg;simp only [ZbW,Zcb,abound_at j n (by omega),Zbn,if_true,Nat.beq_refl]
  ·rw [List.all_eq_true] at c2 ⊢;exact fun x hx=>c2 x (List.mem_of_mem_take hx)
  ·have hc:Zav σ ⟨b,0,none⟩ (j*z)=some (cs.take (j*z)):=by
    unfold Zav;simp only [h7,ZaJ,Nat.zero_add];rw [ZbF (show j*z≤vals.length by omega),ht]
    rfl
   unfold Zbd;simp only [Bool.false_eq_true,if_false,hi,Zbh,hc]
theorem StkC.at (h:StkC lo E z σ v k cs) {i:Nat} (hi:i<k):∃b c,v=.slice (some ⟨b,0,none⟩) k c∧b<σ.next∧Zav σ ⟨b,i*z,none⟩ z=some ((cs.drop (i*z)).take z):=by
 have e1:i*z+z≤k*z:=by
  have:=Nat.mul_le_mul_right z (show i+1≤k by omega)
  rw [Nat.add_mul,Nat.one_mul] at this;exact this
 rcases h with ⟨rfl,c1,c2,b,rfl,h3,h4,h5⟩|⟨c1,c2,⟨rfl,rfl⟩|⟨b,n,vals,rfl,h4,h5,h6,h7,h8,h9⟩⟩
 ·exact ⟨b,1,rfl,h4,Zaq h5 rfl (by rw [c1];omega)⟩
 ·omega
 ·have hkz:k*z≤vals.length:=zB (Nat.mul_le_mul_right z h4) h8;refine ⟨b,_,rfl,h6,?_⟩;unfold Zav;simp only [h7,ZaJ];rw [ZbF (show i*z+z≤vals.length by omega),←h9,List.drop_take,List.take_take,Nat.min_eq_left (by omega)]
  rfl
end
section
variable {P:Program} {K:Tbl} {G n:Nat} {ops:Array Oper} {r:Regs} {σ s1:AS} {l:List Oper} {Q:Regs→AS→Prop}
theorem Lg_op {k0 d:Nat} {op:Op} {ty:TypeId} {pos:String} {aft:Array Edge} {v:Value} (hs:∀callf,Zb5 P G callf r σ.reset op=some (v,s1)) (hd:d<n) (hbar:ZhU P ops [] k0=true)
  (h:Lg P K G n ops [] [] (k0+1) l (rput r d v) (σ.merge s1) Q):Lg P K G n ops [] [] k0 (⟨some d,op,ty,pos,aft,none⟩::l) r σ Q:=by
 refine ⟨fun _=>⟨v,s1,0,fun fuel _=>hs _,⟨.inr ⟨hbar,fun y hy=>(nomatch hy)⟩,fun h=>by cases h⟩,_,?_,h⟩,fun h=>(nomatch h)⟩
 simp only [aPut,Zab];rw [if_pos (by rw [Nat.blt_eq];exact hd)]
theorem ZnN {k0:Nat} {op:Op} {ty:TypeId} {pos:String} {aft:Array Edge} {v:Value} (hs:∀callf,Zb5 P G callf r σ.reset op=some (v,s1)) (hbar:ZhU P ops [] k0=true)
  (h:Lg P K G n ops [] [] (k0+1) l r (σ.merge s1) Q):Lg P K G n ops [] [] k0 (⟨none,op,ty,pos,aft,none⟩::l) r σ Q:=
 ⟨fun _=>⟨v,s1,0,fun fuel _=>hs _,⟨.inr ⟨hbar,fun y hy=>(nomatch hy)⟩,fun h=>by cases h⟩,_,rfl,h⟩,fun h=>(nomatch h)⟩
end
theorem ZfJ {σ0 σ s:AS} (h:Ext σ0 σ) (hs:Ext σ0 s):Ext σ0 (σ.merge s):=⟨hs.nxt,hs.get,fun m h1 h2=>Nat.le_min.2 ⟨h.low m h1 h2,hs.low m h1 h2⟩⟩
section
variable {P:Program} {K:Tbl} {G n:Nat} {r:Regs} {σ:AS}
section draws
variable {ops:Array Oper} {Y Z:List Nat} {Q:Regs→AS→Prop} {l:List Oper} {r':Regs} {σ':AS} {d:Code} {id:Nat}
noncomputable def sepAt (P:Program) (ops:Array Oper) (Y:List Nat) (k:Nat):Bool:=
 ZbJ P ops [] k||Y.all fun j=>Nat.beq k j||Zbu (Zbp ops) k j||Zbu (Zbp ops) j k
def StepZ (P:Program) (G:Nat) (ops:Array Oper) (Y Z:List Nat) (k:Nat) (r:Regs) (σ:AS) (o:Oper) (v:Value) (s1:AS):Prop:=
 (σ.next≤s1.low∨ZhU P ops [] k=true∨(memb Y k=true∧∃x F,fpOf P G r o.op=some (x::F)∧x∈Z))∧
 (sepAt P ops Y k=true∨∃F,fpOf P G r o.op=some F∧∀x∈F,x∉Z)
def Lz (P:Program) (K:Tbl) (G n:Nat) (ops:Array Oper) (Y Z:List Nat):Nat→List Oper→Regs→AS→(Regs→AS→Prop)→Prop
 | _,[],r,σ,Q=>Q r σ
 | k,o::l,r,σ,Q=>(aWanted ops r o=true→O P K G r σ.reset o.op fun v s1=>StepZ P G ops Y Z k r σ o v s1∧∃r',aPut n r o.dst v=some r'∧Lz P K G n ops Y Z (k+1) l r' (σ.merge s1) Q)∧
  (aWanted ops r o=false→∃r',aPut n r o.dst undef=some r'∧Lz P K G n ops Y Z (k+1) l r' σ Q)
theorem Lz_st {k0:Nat} {op:Op} {ty:TypeId} {pos:String} {aft:Array Edge} {v:Value} {s1:AS} (hs:∀callf,Zb5 P G callf r σ.reset op=some (v,s1)) (hbar:ZhU P ops [] k0=true) (hsep:sepAt P ops Y k0=true)
  (h:Lz P K G n ops Y Z (k0+1) l r (σ.merge s1) Q):Lz P K G n ops Y Z k0 (⟨none,op,ty,pos,aft,none⟩::l) r σ Q:=
 ⟨fun _=>⟨v,s1,0,fun fuel _=>hs _,⟨.inr (.inl hbar),.inl hsep⟩,_,rfl,h⟩,fun h=>(nomatch h)⟩
end draws
end
end Go.Proofs.YteangeffgjolpaaGreatDoor.Abs
namespace Go.Proofs.YteangeffgjolpaaGreatDoor.Nest
open Abs
abbrev Arc:Type:=Int×Int
def RArc (_:AS) (cs:List Value) (x:Arc):Prop:=cs=[.int .i64 x.1,.int .i64 x.2]
theorem RArc.keeps:ZnO RArc:=fun _ _ _ _ _ h=>h
def vArc (x:Arc):Value:=.agg #[.int .i64 x.1,.int .i64 x.2]
theorem eqArc (xo yo:Operand) (x y:Arc):aBin Tryz.prog .eql 57 xo yo (vArc x) (vArc y)=some (.bool (decide (x=y))):=by
 obtain ⟨a,b⟩:=x;obtain ⟨c,d⟩:=y;refine (Zh5 Tryz.underlying57 (by kernel_rfl) rfl rfl ?_ (by kernel_rfl) xo yo).1
 have p1:∀x y:Int,ZaY Tryz.prog (part 3 #[.int .i64 x,.int .i64 y] 0)=some (.int .i64 x):=fun x y=>by kernel_rfl
 have p2:∀x y:Int,ZaY Tryz.prog (part 3 #[.int .i64 x,.int .i64 y] 1)=some (.int .i64 y):=fun x y=>by kernel_rfl
 simp only [Zc7,p1,p2,Option.bind_some,Zd6 9998 _ _ Tryz.underlying3];by_cases h1:a=c<;>by_cases h2:b=d<;>simp [h1,h2]
theorem ZdL {i n:Nat} (h:i<n) (hn:n≤2^62):IntKind.i64.wrap ((i:Int)+1)=((i+1:Nat):Int):=by
 rw [Zas _ (by omega) (by omega)];omega
theorem Zfh {b off len cap i:Nat} (h:i<len):Zal Tryz.prog 44 (.slice (some ⟨b,off,none⟩) len cap) (.int .i64 (i:Int))=some (.pointer (some ⟨b,off+i*2,none⟩)):=
 ZaD (inf:=(Tryz.prog.info? 57).get!) Tryz.underlying44 (by kernel_rfl) (by kernel_rfl) h
theorem loadArc {σ:AS} {b off:Nat} {x:Arc} {cs:List Value} (h:Zav σ ⟨b,off,none⟩ 2=some cs) (hc:RArc σ cs x):Zat Tryz.prog σ 57 (.pointer (some ⟨b,off,none⟩))=some (vArc x):=by
 unfold RArc at hc;subst hc;exact ZbK Tryz.underlying57 rfl (i:=(Tryz.prog.info? 57).get!) (by kernel_rfl) (by rw [show ((Tryz.prog.info? 57).get!).size=2 by kernel_rfl];exact h)
noncomputable abbrev Kn:Tbl:=U.KA
theorem kn {f:Nat} (h:(Nat.beq f 16||(Nat.beq f 191||(Nat.beq f 23||Nat.beq f 69)))=false) {xs:List Value} {σ:AS}:Kn.ask f xs σ=none:=by
 rw [Bool.or_eq_false_iff] at h;exact U.ka h.1 h.2
structure ArcAt (σ:AS) (b:Nat) (x:Arc):Prop where
 lt:b<σ.next
 get:σ.get b=⟨1,57,0,(vArc x).cells.toList,[]⟩
theorem ArcAt.ext {σ σ':AS} {b:Nat} {x:Arc} (h:ArcAt σ b x) (e:Ext σ σ'):ArcAt σ' b x:=⟨e.lt h.lt,by rw [e.get b h.lt,h.get]⟩
theorem ArcAt.new (σ:AS) (x:Arc):ArcAt (σ.new ⟨1,57,0,(vArc x).cells.toList,[]⟩) σ.next x:=⟨zG _,by rw [AS.get_new,if_pos rfl]⟩
theorem ArcAt.load {σ:AS} {b:Nat} {x:Arc} (h:ArcAt σ b x):Zat Tryz.prog σ 57 (.pointer (some ⟨b,0,none⟩))=some (vArc x):=loadArc (Zaq h.get rfl (zA _)) rfl
theorem ArcAt.ev {σ:AS} {b:Nat} {x:Arc} (h:ArcAt σ b x):Zat Tryz.prog σ 3 (.pointer (some ⟨b,0,none⟩))=some (.int .i64 x.1):=Zaw Tryz.underlying3 rfl (Zaq h.get rfl (Nat.le_succ _))
theorem ArcAt.to {σ:AS} {b:Nat} {x:Arc} (h:ArcAt σ b x):Zat Tryz.prog σ 3 (.pointer (some ⟨b,1,none⟩))=some (.int .i64 x.2):=Zaw Tryz.underlying3 rfl (Zaq h.get rfl (zA _))
theorem fld0 {b off:Nat}:Za4 Tryz.prog 57 0 (.pointer (some ⟨b,off,none⟩))=some (.pointer (some ⟨b,off,none⟩)):=
 ZdH (fd:=⟨"Event",3,0,false,"","",0⟩) (inf:=(Tryz.prog.info? 3).get!) Tryz.underlying57 rfl (by kernel_rfl) (by kernel_rfl)
theorem fld1 {b off:Nat}:Za4 Tryz.prog 57 1 (.pointer (some ⟨b,off,none⟩))=some (.pointer (some ⟨b,off+1,none⟩)):=
 ZdH (fd:=⟨"To",3,1,false,"","",8⟩) (inf:=(Tryz.prog.info? 3).get!) Tryz.underlying57 rfl (by kernel_rfl) (by kernel_rfl)
theorem fldL {b off:Nat}:Za4 Tryz.prog 27 0 (.pointer (some ⟨b,off,none⟩))=some (.pointer (some ⟨b,off,none⟩)):=
 ZdH (fd:=⟨"Out",25,0,false,"","",0⟩) (inf:=(Tryz.prog.info? 25).get!) Tryz.underlying27 rfl (by kernel_rfl) (by kernel_rfl)
theorem Zkh {σ:AS} (x:Int):C Tryz.prog Kn 0 64 [.int .i64 x] σ fun v σ'=>v=.bool false∧Ext σ σ':=by
 refine C_of (kn (by decide)) Tryz.func64 rfl (zD rfl) ?_
 show W _ _ _ 6 _ _ _ _;unfold Tryz.f64;dsimp only;repeat apply Zaa
 apply Zad;intro _;simp +decide only [zq,ZaI,Zab,aOp];rfl;repeat apply Zaa
 apply Zad;intro _;simp +decide only [zq,Zab,aOp,Zah,aBin,ZaB,Zam];rfl;refine ZaL ⟨zA _,[.bool (x != x)],?_,?_,Ext.refl _⟩
 ·simp +decide only [zq,Zaj]
 ·simp [Zbw]
def cmpI (x y:Int):Int:=if x<y then -1 else if y<x then 1 else 0
theorem Za7 {σ:AS} (x y:Int):C Tryz.prog Kn 0 28 [.int .i64 x,.int .i64 y] σ fun v σ'=>v=.int .i64 (cmpI x y)∧Ext σ σ':=by
 refine C_of (kn (by decide)) Tryz.func28 rfl (zD rfl) ?_
 show W _ _ _ 20 _ _ _ _;unfold Tryz.f28;dsimp only;repeat apply Zaa
 apply Zad;intro _;simp +decide only [zq,ZaI,Zab,aOp];rfl;repeat apply Zaa
 apply ZaF;apply Zay 1;intro _;simp +decide only [zq,List.take,Zab,aOp];rfl;dsimp only [List.drop];refine ZaV (vs:=[.int .i64 x]) (by simp +decide only [zq,aevs]) (by decide) (C.mono (Zkh x) ?_)
 rintro v σ' ⟨rfl,e1⟩;apply ZaG;intro _;simp +decide only [zq,Zab,aOp];rfl;repeat apply Zaa
 apply ZaF;apply Zay 1;intro _;simp +decide only [zq,List.take,Zab,aOp];rfl;dsimp only [List.drop];refine ZaV (vs:=[.int .i64 y]) (by simp +decide only [zq,aevs]) (by decide) (C.mono (Zkh y) ?_)
 rintro v σ' ⟨rfl,e2⟩;apply ZaG;intro _;simp +decide only [zq,Zab,aOp];rfl;repeat apply Zaa
 apply Zad;intro _;simp +decide only [zq,Zab,aOp];rfl;repeat apply Zaa
 refine ZaC (by simp +decide only [zq]) ?_
 apply Zak;repeat apply Zaa
 apply Zad;intro _;simp +decide only [zq,Zab,aOp];rfl;repeat apply Zaa
 refine ZaC (by simp +decide only [zq]) ?_
 apply Zak;repeat apply Zaa
 apply Zad;intro _;simp +decide only [zq,Zab,aOp,Zah,aBin,ZaB,Zam];rfl;repeat apply Zaa
 refine W_if (b:=decide (x<y)) ?_ ?_ ?_
 ·simp +decide only [zq]
 ·intro h;have h:=of_decide_eq_true h;repeat apply Zaa
  apply Zad;intro _;simp +decide only [zq,Zab,aOp];rfl;refine Zbj ⟨zA _,[.int .i64 (-1)],?_,?_,e1.trans e2⟩
  ·simp +decide only [zq,Zaj]
  ·simp only [Zbw,cmpI,if_pos h]
 intro h;have h:=of_decide_eq_false h;apply Zak;repeat apply Zaa
 apply Zad;intro _;simp +decide only [zq,Zab,aOp,Zah,aBin,ZaB,Zam];rfl;repeat apply Zaa
 refine W_if (b:=decide (x>y)) ?_ ?_ ?_
 ·simp +decide only [zq]
 ·intro h2;have h2:=of_decide_eq_true h2;repeat apply Zaa
  apply Zad;intro _;simp +decide only [zq,Zab,aOp];rfl;refine Zbj ⟨zA _,[.int .i64 1],?_,?_,e1.trans e2⟩
  ·simp +decide only [zq,Zaj]
  ·simp only [Zbw,cmpI,if_neg h];rw [if_pos (by omega)]
 intro h2;have h2:=of_decide_eq_false h2;apply Zak;repeat apply Zaa
 apply Zad;intro _;simp +decide only [zq,Zab,aOp];rfl;refine ZaL ⟨zA _,[.int .i64 0],?_,?_,e1.trans e2⟩
 ·simp +decide only [zq,Zaj]
 ·simp only [Zbw,cmpI,if_neg h];rw [if_neg (by omega)]
def RInt (_:AS) (cs:List Value) (x:Int):Prop:=cs=[.int .i64 x]
theorem RInt.keeps:ZnO RInt:=fun _ _ _ _ _ h=>h
theorem ZrG {b off len cap i:Nat} (h:i<len):Zal Tryz.prog 22 (.slice (some ⟨b,off,none⟩) len cap) (.int .i64 (i:Int))=some (.pointer (some ⟨b,off+i*1,none⟩)):=
 ZaD (inf:=(Tryz.prog.info? 3).get!) Tryz.underlying22 (by kernel_rfl) (by kernel_rfl) h
theorem Zrr {σ:AS} {b off:Nat} {x:Int} {cs:List Value} (h:Zav σ ⟨b,off,none⟩ 1=some cs) (hc:RInt σ cs x):Zat Tryz.prog σ 3 (.pointer (some ⟨b,off,none⟩))=some (.int .i64 x):=by
 unfold RInt at hc;subst hc;exact Zaw Tryz.underlying3 rfl h
def orI:List Int→Int
 | []=>0
 | a::l=>if a=0 then orI l else a
theorem Zmu:∀{l:List Int},(∀a∈l,a=0)→orI l=0
 | [],_=>rfl
 | a::l,h=>by rw [orI,if_pos (h a (by simp))];exact Zmu fun b hb=>h b (by simp [hb])
theorem ZqI:∀{l:List Int} {i:Nat} {a:Int},(∀b∈l.take i,b=0)→l[i]?=some a→a≠0→orI l=a
 | [],i,a,_,h,_=>by simp at h
 | x::l,0,a,_,h,ha=>by simp at h;subst h;rw [orI,if_neg ha]
 | x::l,i+1,a,h0,h,ha=>by
  rw [orI,if_pos (h0 x (by simp))]
  exact ZqI (i:=i) (fun b hb=>h0 b (by rw [List.take_succ_cons];exact List.mem_cons_of_mem _ hb)) (by simpa using h) ha
theorem Zga {σ:AS} {s:Value} {l:List Int} (hs:RS 1 RInt σ s l) (hl:l.length≤2^62):C Tryz.prog Kn 0 27 [s] σ fun v σ'=>v=.int .i64 (orI l)∧Ext σ σ':=by
 obtain ⟨base,cap,rfl,hbase⟩:=hs;refine C_of (kn (by decide)) Tryz.func27 rfl (zD rfl) ?_
 show W _ _ _ 18 _ _ _ _;unfold Tryz.f27;dsimp only;repeat apply Zaa
 apply Zad;intro _;simp +decide only [zq,ZaI,Zab,aOp];rfl;repeat apply Zaa
 apply Zad;intro _;simp +decide only [zq,Zab,aOp];rfl;repeat apply Zaa
 apply Zad;intro _;simp +decide only [zq,Zab,aOp,Zan,aevs,Zaf,aLen,Tryz.underlying22];rfl;repeat apply Zaa
 refine Zdc (fun (i:Nat) r σ'=>i≤l.length∧Ext σ σ'∧rget r 3=.int .i64 0∧rget r 6=.slice base l.length cap∧rget r 7=.int .i64 (l.length:Int)∧rget r 8=.int .i64 (i:Int)∧∀a∈l.take i,a=0)
  (fun i=>l.length-i) ?_ 0 ?_
 rotate_left
 ·simp +decide only [zq,goInt];refine ⟨zH _,Ext.refl _,trivial,trivial,trivial,rfl,by simp⟩
 rintro i r σ2 ⟨hi,e2,h3,h6,h7,h8,hz⟩;repeat apply Zaa
 apply Zad;intro _;simp +decide only [zq,Zab,aOp,Zah,h7,h8,aBin,ZaB,Zam];rfl;repeat apply Zaa
 refine W_if (b:=decide ((i:Int)<(l.length:Int))) ?_ ?_ ?_
 ·simp +decide only [zq]
 rotate_left
 ·intro hb;have hb:i=l.length:=by
   have:=of_decide_eq_false hb;omega
  refine ZaA ⟨fun h=>(nomatch h),fun _=>?_,fun h1 h2=>absurd rfl h2⟩;repeat apply Zaa
  apply Zad;intro _;simp +decide only [zq,Zab,aOp,h3];rfl;refine ZaL ⟨zA _,[.int .i64 0],?_,?_,e2⟩
  ·simp +decide only [zq,Zaj]
  ·subst hb;simp only [Zbw,Zmu (l:=l) (by simpa using hz)]
 intro hb;have hb:i<l.length:=by
  have:=of_decide_eq_true hb;omega
 apply Zak;refine ZaM ?_;obtain ⟨y,hy⟩:∃y,l[i]?=some y:=⟨l[i],by simp [hb]⟩
 obtain ⟨b,off,rfl,hbl,hat⟩:=hbase (fun h=>by rw [h] at hy;simp at hy)
 obtain ⟨cs,hc1,hc2⟩:=hat i y hy;have L:Zat Tryz.prog σ2 3 (.pointer (some ⟨b,off+i*1,none⟩))=some (.int .i64 y):=Zrr (by rw [e2.cells (a:=⟨b,off+i*1,none⟩) hbl];exact hc1) hc2
 repeat apply Zaa
 apply Zad;intro _;simp +decide only [zq,Zab,aOp,Zae,Zag,h6,h8,ZrG hb,L];rfl;repeat apply Zaa
 apply Zad;intro _;simp +decide only [zq,Zab,aOp,Zah,h3,aBin,ZaB,Zam];rfl;refine Zao ?_;repeat apply Zaa
 refine W_if (b:=(y != 0)) ?_ ?_ ?_
 ·simp +decide only [zq]
 ·intro h;have h:y≠0:=by simpa using h
  repeat apply Zaa
  apply Zad;intro _;simp +decide only [zq,Zab,aOp];rfl;refine Zbj ⟨fun h=>(nomatch h),fun _ _=>⟨fun h=>(nomatch h),fun h=>(nomatch h),fun _ _=>⟨zA _,[.int .i64 y],?_,?_,e2⟩⟩⟩
  ·simp +decide only [zq,Zaj]
  ·simp only [Zbw,ZqI hz hy h]
 ·intro h;have h:y=0:=by simpa using h
  refine Zak (Zap ⟨fun _=>?_,fun h=>absurd rfl h⟩);refine Zao ?_;repeat apply Zaa
  apply Zad;intro _;simp +decide only [zq,Zab,aOp,Zah,h8,ZdL hb hl,aBin,ZaB,Zam];rfl;refine Zap ⟨fun _=>⟨i+1,?_,?_⟩,fun h=>(nomatch h),fun h=>absurd rfl h⟩
  ·omega
  ·simp +decide only [zq,h3,h6,h7];refine ⟨by omega,e2,trivial,trivial,trivial,trivial,?_⟩
   rw [zT,hy];simp only [Option.toList_some,zR,List.mem_singleton];exact fun a ha=>ha.elim (hz a) (fun e=>e.trans h)
theorem ZgW {k:IntKind} {a:Int}:veq 9 (.int k a) (.int k a)=true:=by unfold veq;simp
theorem ZgV {n:Nat} {k:IntKind} {a:Int}:vsc n 9 (.int k a)=true:=rfl
def cmpA (a b:Arc):Int:=orI [cmpI a.1 b.1,cmpI a.2 b.2]
theorem fill2 {σ:AS} (x y:Int):Zaz Tryz.prog σ 22 2 [(0,.int .i64 x),(1,.int .i64 y)]=some (.slice (some ⟨σ.next,0,none⟩) 2 2,σ.new ⟨1,3,0,[.int .i64 x,.int .i64 y],[]⟩):=by kernel_rfl
theorem Zkv {σ:AS} (a b:Arc):C Tryz.prog Kn 0 71 [vArc a,vArc b] σ fun v σ'=>v=.int .i64 (cmpA a b)∧Ext σ σ':=by
 refine C_of (kn (by decide)) Tryz.func71 rfl (zD rfl) ?_
 show W _ _ _ 17 _ _ _ _;unfold Tryz.f71;dsimp only;repeat apply Zaa
 apply Zad;intro _;simp +decide only [zq,ZaI,Zab,aOp,Zbm,aRow];rfl;generalize hσ1:(σ.new _).new _=σ1;have e1:Ext σ σ1:=by rw [←hσ1];exact (Ext.new _ _).trans (Ext.new _ _)
 have A:ArcAt σ1 σ.next a:=by rw [←hσ1];exact (ArcAt.new σ a).ext (Ext.new _ _)
 have B:ArcAt σ1 (σ.new ⟨1,57,0,(vArc a).cells.toList,[]⟩).next b:=by rw [←hσ1];exact ArcAt.new _ b
 generalize (σ.new ⟨1,57,0,(vArc a).cells.toList,[]⟩).next=n2 at B;repeat apply Zaa
 refine Za8 [6,8] [σ.next,n2] (by kernel_rfl) (by kernel_rfl) ?_
 have A0:=A.ext (Ext.reset _);have B0:=B.ext (Ext.reset _);apply Zau 4;intro _;simp +decide only [zq,zr,List.take,aQ,Zab,aOp,Zac,Zag,fld0,A0.ev,B0.ev];rfl;dsimp only [List.drop,List.take,List.length];have A1:=A.ext ((Ext.refl _).merge (σ:=σ1));have B1:=B.ext ((Ext.refl _).merge (σ:=σ1));have e2:=e1.trans ((Ext.refl _).merge (σ:=σ1));generalize σ1.merge σ1.reset=σ2 at A1 B1 e2;refine Zbx (vs:=[.int .i64 a.1,.int .i64 b.1]) (by simp +decide only [zq,aevs]) (by decide) rfl (C.mono (Za7 a.1 b.1) ?_)
 rintro v s1 ⟨rfl,e3⟩;refine ⟨e3.quiet,?_⟩;have A2:=A1.ext e3.merge;have B2:=B1.ext e3.merge;have e4:=e2.trans e3.merge;generalize σ2.merge s1=σ3 at A2 B2 e4;have A3:=A2.ext (Ext.reset _);have B3:=B2.ext (Ext.reset _);have q1:Nat.blt σ.next σ3.next=true:=by rw [Nat.blt_eq];exact A2.lt
 have q2:Nat.blt n2 σ3.next=true:=by rw [Nat.blt_eq];exact B2.lt
 apply Zau 4;intro _;simp +decide only [zq,zr,List.take,aQ,Zab,aOp,Zac,Zag,fld1,A3.to,B3.to,ZjQ,ZgW,ZgV,fpOf,fpO,fpV,Nat.beq_refl,q1,q2];rfl;dsimp only [List.drop,List.take,List.length];have e5:=e4.trans ((Ext.refl _).merge (σ:=σ3));generalize σ3.merge σ3.reset=σ4 at e5;refine Zbx (vs:=[.int .i64 a.2,.int .i64 b.2]) (by simp +decide only [zq,aevs]) (by decide) rfl (C.mono (Za7 a.2 b.2) ?_)
 rintro v s1 ⟨rfl,e6⟩;refine ⟨e6.quiet,?_⟩;have e7:=e5.trans e6.merge;generalize σ4.merge s1=σ5 at e7;apply Zau 1;intro _;simp +decide only [zq,zr,List.take,aQ,Zab,aOp,Zar,ZaN,fill2];rfl;dsimp only [List.drop,List.take,List.length];have e8:=e7.trans ((Ext.new σ5.reset ⟨1,3,0,[.int .i64 (cmpI a.1 b.1),.int .i64 (cmpI a.2 b.2)],[]⟩).merge);have g6:(σ5.merge (σ5.reset.new ⟨1,3,0,[.int .i64 (cmpI a.1 b.1),.int .i64 (cmpI a.2 b.2)],[]⟩)).get σ5.next=⟨1,3,0,[.int .i64 (cmpI a.1 b.1),.int .i64 (cmpI a.2 b.2)],[]⟩:=by
  rw [Zb3,AS.get_new,reset_next,if_pos rfl]
 have l6:σ5.next<(σ5.merge (σ5.reset.new ⟨1,3,0,[.int .i64 (cmpI a.1 b.1),.int .i64 (cmpI a.2 b.2)],[]⟩)).next:=zG _;generalize σ5.merge (σ5.reset.new ⟨1,3,0,[.int .i64 (cmpI a.1 b.1),.int .i64 (cmpI a.2 b.2)],[]⟩)=σ6 at e8 g6 l6;have S6:RS 1 RInt σ6.reset (.slice (some ⟨σ5.next,0,none⟩) 2 2) [cmpI a.1 b.1,cmpI a.2 b.2]:=by
  refine RS.ext RInt.keeps (Ext.reset _) (RS.of_block (l:=[cmpI a.1 b.1,cmpI a.2 b.2]) l6 g6 (zA _) fun i x hx=>?_)
  match i,hx with
  | 0,hx=>cases hx;rfl
  | 1,hx=>cases hx;rfl
  | i+2,hx=>simp at hx
 refine Zbx (vs:=[.slice (some ⟨σ5.next,0,none⟩) 2 2]) (by simp +decide only [zq,aevs]) (by decide) rfl (C.mono (Zga S6 (by simp)) ?_)
 rintro v s1 ⟨rfl,e9⟩;refine ⟨e9.quiet,?_⟩;apply ZaO;intro _;simp +decide only [zq,zr,aQ,Zab,aOp];rfl;refine ZaL ⟨zA _,[.int .i64 (cmpA a b)],?_,rfl,e8.trans (e9.merge.trans ?_)⟩
 ·simp +decide only [zq,Zaj,cmpA]
 ·exact (Ext.refl _).merge
open Abs
def Zb2 (a b:Arc):Bool:=decide (a.1<b.1)||(decide (a.1=b.1)&&decide (a.2<b.2))
theorem Zox {σ:AS} (a b:Arc):C Tryz.prog Kn 0 48 [vArc a,vArc b] σ fun v σ'=>v=.bool (Zb2 a b)∧Ext σ σ':=by
 refine C_of (kn (by decide)) Tryz.func48 rfl (zD rfl) ?_
 show W _ _ _ 24 _ _ _ _;unfold Tryz.f48;dsimp only;repeat apply Zaa
 apply Zad;intro _;simp +decide only [zq,ZaI,↓Zab,↓reduceIte,aOp,Zbm,aRow];rfl;generalize hσ1:(σ.new _).new _=σ1;have e1:Ext σ σ1:=by rw [←hσ1];exact (Ext.new _ _).trans (Ext.new _ _)
 have A:ArcAt σ1 σ.next a:=by rw [←hσ1];exact (ArcAt.new σ a).ext (Ext.new _ _)
 have B:ArcAt σ1 (σ.new ⟨1,57,0,(vArc a).cells.toList,[]⟩).next b:=by rw [←hσ1];exact ArcAt.new _ b
 generalize (σ.new ⟨1,57,0,(vArc a).cells.toList,[]⟩).next=n2 at B;by_cases h1:a.1<b.1
 ·have d1:decide (a.1<b.1)=true:=zM h1;repeat apply Zaa
  apply Zad;intro _;simp +decide only [zq,↓Zab,↓reduceIte,aOp,Zah,Zac,Zag,ZaH,Bool.true_beq,fld0,A.ev,B.ev,aBin,ZaB,Zam,d1];rfl;refine ZaL ⟨zA _,[.bool true],?_,?_,e1⟩
  ·simp +decide only [zq,Zaj]
  ·simp [Zbw,Zb2,h1]
 have d1:decide (a.1<b.1)=false:=zI h1;by_cases h2:a.1=b.1
 ·have d2:(a.1 == b.1)=true:=by rw [beq_iff_eq];exact h2
  repeat apply Zaa
  apply Zad;intro _;simp +decide only [zq,↓Zab,↓reduceIte,aOp,Zah,Zac,Zag,ZaH,beq_self_eq_true,fld0,fld1,A.ev,A.to,B.ev,B.to,aBin,ZaB,Zam,d1,d2];rfl;refine ZaL ⟨zA _,[.bool (decide (a.2<b.2))],?_,?_,e1⟩
  ·simp +decide only [zq,Zaj]
  ·simp [Zbw,Zb2,h2]
 ·have d2:(a.1 == b.1)=false:=by rw [beq_eq_false_iff_ne];exact h2
  repeat apply Zaa
  apply Zad;intro _;simp +decide only [zq,↓Zab,↓reduceIte,aOp,Zah,Zac,Zag,ZaH,beq_self_eq_true,Bool.not_true,Bool.false_beq,fld0,A.ev,B.ev,aBin,ZaB,Zam,d1,d2];rfl;refine ZaL ⟨zA _,[.bool false],?_,?_,e1⟩
  ·simp +decide only [zq,Zaj]
  ·simp [Zbw,Zb2,h1,h2]
abbrev Lts:Type:=List (List Arc)
structure WF (L:Lts):Prop where
 len:L.length≤2^62
 row:∀r∈L,r.length≤2^62
 to:∀r∈L,∀a∈r,0≤a.2∧a.2<L.length
def RRow (σ:AS) (cs:List Value) (row:List Arc):Prop:=∃v,cs=[v]∧RS 2 RArc σ v row
theorem RRow.keeps:ZnO RRow:=fun _ _ _ _ e ⟨v,h1,h2⟩=>⟨v,h1,h2.ext RArc.keeps e⟩
def RLts (σ:AS) (v:Value) (L:Lts):Prop:=∃s,v=.agg #[s]∧RS 1 RRow σ s L
structure LtsAt (σ:AS) (b:Nat) (s:Value) (L:Lts):Prop where
 lt:b<σ.next
 get:σ.get b=⟨1,27,0,[s],[]⟩
 rd:RS 1 RRow σ s L
theorem LtsAt.ext {σ σ':AS} {b:Nat} {s:Value} {L:Lts} (h:LtsAt σ b s L) (e:Ext σ σ'):LtsAt σ' b s L:=⟨e.lt h.lt,by rw [e.get b h.lt,h.get],h.rd.ext RRow.keeps e⟩
theorem LtsAt.new {σ:AS} {s:Value} {L:Lts} (h:RS 1 RRow σ s L):LtsAt (σ.new ⟨1,27,0,(Value.agg #[s]).cells.toList,[]⟩) σ.next s L:=
 ⟨zG _,by rw [AS.get_new,if_pos rfl];rfl,h.ext RRow.keeps (Ext.new _ _)⟩
theorem LtsAt.load {σ:AS} {b:Nat} {s:Value} {L:Lts} (h:LtsAt σ b s L):Zat Tryz.prog σ 27 (.pointer (some ⟨b,0,none⟩))=some (.agg #[s]):=
 ZbK Tryz.underlying27 rfl (i:=(Tryz.prog.info? 27).get!) (by kernel_rfl) (by rw [show ((Tryz.prog.info? 27).get!).size=1 by kernel_rfl];exact Zaq h.get rfl (zA _))
theorem LtsAt.out {σ:AS} {b:Nat} {s:Value} {L:Lts} (h:LtsAt σ b s L):Zat Tryz.prog σ 25 (.pointer (some ⟨b,0,none⟩))=some s:=Zaw Tryz.underlying25 rfl (Zaq h.get rfl (zA _))
theorem Zia {b off len cap i:Nat} (h:i<len):Zal Tryz.prog 25 (.slice (some ⟨b,off,none⟩) len cap) (.int .i64 (i:Int))=some (.pointer (some ⟨b,off+i*1,none⟩)):=
 ZaD (inf:=(Tryz.prog.info? 44).get!) Tryz.underlying25 (by kernel_rfl) (by kernel_rfl) h
theorem ZiZ {σ:AS} {base:Option Addr} {len cap:Nat} {L:Lts} (h:RS 1 RRow σ (.slice base len cap) L) {i:Nat} {row:List Arc} (hi:L[i]?=some row) :
  len=L.length∧∃b off v,base=some ⟨b,off,none⟩∧b<σ.next∧(∀σ',Ext σ σ'→Zat Tryz.prog σ' 44 (.pointer (some ⟨b,off+i*1,none⟩))=some v)∧RS 2 RArc σ v row:=by
 obtain ⟨base',cap',e,hb⟩:=h;cases e;obtain ⟨b,off,rfl,h2,h3⟩:=hb (fun h=>by rw [h] at hi;simp at hi)
 obtain ⟨cs,h4,v,rfl,h5⟩:=h3 i row hi;exact ⟨rfl,b,off,v,rfl,h2,fun σ' e=>Zaw Tryz.underlying44 rfl (by rw [e.cells (a:=⟨b,off+i*1,none⟩) h2];exact h4),h5⟩
theorem Zfm {σ:AS} {base:Option Addr} {len cap:Nat} {l:List Arc} (h:RS 2 RArc σ (.slice base len cap) l) {i:Nat} {a:Arc} (hi:l[i]?=some a) :
  len=l.length∧∃b off,base=some ⟨b,off,none⟩∧b<σ.next∧∀σ',Ext σ σ'→Zat Tryz.prog σ' 57 (.pointer (some ⟨b,off+i*2,none⟩))=some (vArc a)∧
   Zat Tryz.prog σ' 3 (.pointer (some ⟨b,off+i*2,none⟩))=some (.int .i64 a.1)∧Zat Tryz.prog σ' 3 (.pointer (some ⟨b,off+i*2+1,none⟩))=some (.int .i64 a.2):=by
 obtain ⟨base',cap',e,hb⟩:=h;cases e;obtain ⟨b,off,rfl,h2,h3⟩:=hb (fun h=>by rw [h] at hi;simp at hi)
 obtain ⟨cs,h4,h5⟩:=h3 i a hi;refine ⟨rfl,b,off,rfl,h2,fun σ' e=>?_⟩;have h6:Zav σ' ⟨b,off+i*2,none⟩ 2=some [.int .i64 a.1,.int .i64 a.2]:=by
  rw [e.cells (a:=⟨b,off+i*2,none⟩) h2,h4];exact congrArg some h5
 obtain ⟨h7,h8⟩:=cells_two h6;exact ⟨loadArc h6 rfl,Zaw Tryz.underlying3 rfl h7,Zaw Tryz.underlying3 rfl h8⟩
noncomputable def decl (σ:AS) (x:Arc):AS:=(σ.new ⟨1,57,0,[.int .i64 0,.int .i64 0],[]⟩).put σ.next ⟨1,57,0,(vArc x).cells.toList,[]⟩
theorem decl_ext (σ:AS) (x:Arc):Ext σ (decl σ x):=Ext.put (Ext.new σ _) (zA _) _
theorem decl_at (σ:AS) (x:Arc):ArcAt (decl σ x) σ.next x:=⟨zG _,by unfold decl;rw [AS.get_put,if_pos rfl]⟩
theorem Zgp {σ:AS}:Zcl Tryz.prog σ 57=some (.pointer (some ⟨σ.next,0,none⟩),σ.new ⟨1,57,0,[.int .i64 0,.int .i64 0],[]⟩):=by kernel_rfl
theorem Zf6 {σ:AS} {x:Arc}:ZaK Tryz.prog (σ.new ⟨1,57,0,[.int .i64 0,.int .i64 0],[]⟩) 57 (vArc x) (.pointer (some ⟨σ.next,0,none⟩))=some (decl σ x):=by
 obtain ⟨inf,hi,hs⟩:∃inf,Tryz.prog.info? 57=some inf∧inf.size=2:=⟨(Tryz.prog.info? 57).get!,by kernel_rfl,by kernel_rfl⟩
 have hz:Nat.beq (vArc x).cells.size 2=true:=rfl;have g:(σ.new ⟨1,57,0,[.int .i64 0,.int .i64 0],[]⟩).get σ.next=⟨1,57,0,[.int .i64 0,.int .i64 0],[]⟩:=by rw [AS.get_new,if_pos rfl]
 unfold ZaK;simp only [hi,hs,hz,if_true];unfold Zbc;simp only [g];rfl
theorem not_b {P:Program} {b:Bool}:Zib (ZaY P (Op.unary .not (.bool b)))=some (.bool (!b)):=by cases b<;>rfl
def Za6 (L:Lts):Nat→List Arc→Nat×Bool
 | k,[]=>(k,true)
 | k,a::p=>if a∈L.getD k [] then Za6 L a.2.toNat p else (k,false)
theorem rowD {L:Lts} {k:Nat} {row:List Arc} (h:L[k]?=some row):L.getD k []=row:=by rw [zL,h];rfl
def okA (n:Nat) (a:Arc):Bool:=decide (0≤a.1)&&decide (a.1≤1025)&&decide (0≤a.2)&&decide (a.2<(n:Int))
def Zed (L:Lts):Nat:=(L.map List.length).sum
def Zco (L:Lts):Bool:=decide (1≤L.length)&&decide (L.length≤16384)&&decide (Zed L≤262144)&&L.all fun r=>r.all (okA L.length)
theorem Zne {L:Lts} {i:Nat} {row:List Arc} (h:L[i]?=some row):Zed (L.take (i+1))=Zed (L.take i)+row.length:=by
 unfold Zed;rw [zT,h,List.map_append,List.sum_append];simp
theorem Zpx {L:Lts} {i:Nat}:Zed (L.take i)≤Zed L:=by
 unfold Zed;have:L=L.take i++L.drop i:=(List.take_append_drop i L).symm;rw [congrArg (List.map List.length) this,List.map_append,List.sum_append];omega
structure Small (L:Lts):Prop where
 len:L.length≤2^62
 row:∀r∈L,r.length≤2^61
theorem Zpt {a b:Nat} (h:b≤a) (ha:a≤2^62):IntKind.i64.wrap ((a:Int)-(b:Int))=((a-b:Nat):Int):=by
 rw [Zas _ (by omega) (by omega)];omega
theorem Zkc {L:Lts} (h:¬(1≤L.length∧L.length≤16384)):Zco L=false:=by
 unfold Zco;by_cases h1:1≤L.length
 ·have h2:¬L.length≤16384:=fun h2=>h ⟨h1,h2⟩;simp [h2]
 ·simp [h1]
theorem Zlk {L:Lts} (h:¬Zed L≤262144):Zco L=false:=by
 unfold Zco;simp [h]
theorem ZfD {L:Lts} {row:List Arc} {a:Arc} (h1:row∈L) (h2:a∈row) (h3:okA L.length a=false):Zco L=false:=by
 have:(L.all fun r=>r.all (okA L.length))=false:=by
  rw [List.all_eq_false];refine ⟨row,h1,?_⟩;rw [Bool.not_eq_true,List.all_eq_false];exact ⟨a,h2,by rw [h3];simp⟩
 unfold Zco;rw [this];simp
theorem Znq {L:Lts} (h1:1≤L.length∧L.length≤16384) (h2:Zed L≤262144) (h3:∀r∈L,∀a∈r,okA L.length a=true):Zco L=true:=by
 unfold Zco;simp only [h1.1,h1.2,h2,decide_true,Bool.true_and,List.all_eq_true];exact h3
theorem okA_false {n:Nat} {a:Arc}:okA n a=false↔(decide (a.1<0)=true∨decide (a.1>1025)=true∨decide (a.2<0)=true∨decide (a.2≥(n:Int))=true):=by
 unfold okA;by_cases h1:a.1<0<;>by_cases h2:a.1>1025<;>by_cases h3:a.2<0<;>by_cases h4:a.2≥(n:Int)<;>simp [h1,h2,h3,h4]<;>omega
theorem Znr {σ:AS} {s:Value} {L:Lts} (hs:RS 1 RRow σ s L) (hz:Small L):C Tryz.prog Kn 0 70 [.agg #[s]] σ fun v σ'=>v=.bool (Zco L)∧Ext σ σ':=by
 refine C_of (kn (by decide)) Tryz.func70 rfl (zD rfl) ?_
 show W _ _ _ 60 _ _ _ _;unfold Tryz.f70;dsimp only;repeat apply Zaa
 apply Zad;intro _;simp +decide only [zq,ZaI,↓Zab,↓reduceIte,aOp,Zbm,aRow];rfl;have B:=LtsAt.new hs;have e1:=Ext.new σ ⟨1,27,0,(Value.agg #[s]).cells.toList,[]⟩;generalize σ.new ⟨1,27,0,(Value.agg #[s]).cells.toList,[]⟩=σ1 at B e1;obtain ⟨sb,sc,rfl,-⟩:=id hs;repeat apply Zaa
 apply Zad;intro _;simp +decide only [zq,↓Zab,↓reduceIte,aOp,Zan,Zac,Zag,aevs,Zaf,aLen,fldL,B.out,Tryz.underlying25,goInt];rfl;by_cases hn:1≤L.length∧L.length≤16384;rotate_left
 ·by_cases h1:(L.length:Int)<1
  ·have d1:decide ((L.length:Int)<1)=true:=zM h1;repeat apply Zaa
   apply Zad;intro _;simp +decide only [zq,↓Zab,↓reduceIte,aOp,Zah,ZaH,Bool.true_beq,d1,aBin,ZaB,Zam];rfl;repeat apply Zaa
   refine W_if (b:=true) ?_ ?_ ?_
   ·simp +decide only [zq]
   ·intro _;repeat apply Zaa
    apply Zad;intro _;simp +decide only [zq,↓Zab,↓reduceIte,aOp];rfl;refine Zbj ⟨zA _,[.bool false],?_,?_,e1⟩
    ·simp +decide only [zq,Zaj]
    ·simp only [Zbw,Zkc hn]
   ·intro h;cases h
  ·have d1:decide ((L.length:Int)<1)=false:=zI h1;have d2:decide ((L.length:Int)>16384)=true:=zM (by omega)
   repeat apply Zaa
   apply Zad;intro _;simp +decide only [zq,↓Zab,↓reduceIte,aOp,Zah,ZaH,beq_self_eq_true,d1,d2,aBin,ZaB,Zam];rfl;repeat apply Zaa
   refine W_if (b:=true) ?_ ?_ ?_
   ·simp +decide only [zq]
   ·intro _;repeat apply Zaa
    apply Zad;intro _;simp +decide only [zq,↓Zab,↓reduceIte,aOp];rfl;refine Zbj ⟨zA _,[.bool false],?_,?_,e1⟩
    ·simp +decide only [zq,Zaj]
    ·simp only [Zbw,Zkc hn]
   ·intro h;cases h
 have d1:decide ((L.length:Int)<1)=false:=zI (by omega)
 have d2:decide ((L.length:Int)>16384)=false:=zI (by omega)
 repeat apply Zaa
 apply Zad;intro _;simp +decide only [zq,↓Zab,↓reduceIte,aOp,Zah,ZaH,beq_self_eq_true,d1,d2,aBin,ZaB,Zam];rfl;repeat apply Zaa
 refine ZaC (by simp +decide only [zq]) ?_
 apply Zak;repeat apply Zaa
 apply Zad;intro _;simp +decide only [zq,↓Zab,↓reduceIte,aOp];rfl;repeat apply Zaa
 apply Zad;intro _;simp +decide only [zq,↓Zab,↓reduceIte,aOp,Zan,Zac,Zag,aevs,Zaf,aLen,fldL,B.out,Tryz.underlying25,goInt];rfl;repeat apply Zaa
 refine Zdc (fun (i:Nat) r σ'=>i≤L.length∧Ext σ1 σ'∧rget r 3=.int .i64 (L.length:Int)∧rget r 4=.int .i64 ((262144-Zed (L.take i):Nat):Int)∧rget r 19=.slice sb L.length sc∧rget r 20=.int .i64 (L.length:Int)∧rget r 21=.int .i64 (i:Int)∧
   Zed (L.take i)≤262144∧∀w∈L.take i,∀a∈w,okA L.length a=true)
  (fun i=>L.length-i) ?_ 0 ?_
 rotate_left
 ·simp +decide only [zq];refine ⟨zH _,Ext.refl _,trivial,?_,trivial,trivial,rfl,?_,?_⟩
  ·simp [Zed]
  ·simp [Zed]
  ·intro w hw;simp at hw
 rintro i r σ2 ⟨hi,e2,h3,h4,h19,h20,h21,ht,hok⟩;repeat apply Zaa
 apply Zad;intro _;simp +decide only [zq,↓Zab,↓reduceIte,aOp,Zah,h20,h21,aBin,ZaB,Zam];rfl;repeat apply Zaa
 refine W_if (b:=decide ((i:Int)<(L.length:Int))) ?_ ?_ ?_
 ·simp +decide only [zq]
 rotate_left
 ·intro hb;have hb:i=L.length:=by
   have:=of_decide_eq_false hb;omega
  refine ZaA ⟨fun h=>(nomatch h),fun _=>?_,fun h1 h2=>absurd rfl h2⟩;repeat apply Zaa
  apply Zad;intro _;simp +decide only [zq,↓Zab,↓reduceIte,aOp];rfl;refine ZaL ⟨zA _,[.bool true],?_,?_,e1.trans e2⟩
  ·simp +decide only [zq,Zaj]
  ·subst hb;rw [List.take_length] at ht hok;rw [Znq hn ht hok];rfl
 intro hb;have hb:i<L.length:=by
  have:=of_decide_eq_true hb;omega
 apply Zak;refine ZaM ?_;obtain ⟨row,hrow⟩:∃row,L[i]?=some row:=⟨L[i],by simp [hb]⟩
 have hrm:row∈L:=zF hrow;obtain ⟨-,rb,roff,rv,rfl,hrb,hrl,hrs⟩:=ZiZ B.rd hrow;obtain ⟨vb,vc,rfl,-⟩:=id hrs;have htt:=Zne hrow;have htl:=Zpx (L:=L) (i:=i+1);repeat apply Zaa
 apply Zad;intro _;simp +decide only [zq,↓Zab,↓reduceIte,aOp,Zae,Zag,h19,h21,Zia hb,hrl σ2 e2];rfl;repeat apply Zaa
 apply Zad;intro _;simp +decide only [zq,↓Zab,↓reduceIte,aOp,Zah,Zan,aevs,Zaf,aLen,h4,Tryz.underlying44,goInt,aBin,ZaB,Zam];rfl;repeat apply Zaa
 refine W_if (b:=decide ((row.length:Int)>((262144-Zed (L.take i):Nat):Int))) ?_ ?_ ?_
 ·simp +decide only [zq]
 ·intro hg;have hg:=of_decide_eq_true hg;repeat apply Zaa
  apply Zad;intro _;simp +decide only [zq,↓Zab,↓reduceIte,aOp];rfl;refine Zbj ⟨fun h=>h.elim (fun h=>(nomatch h)) (fun h=>(nomatch h)),fun _ _=>⟨fun h=>(nomatch h),fun h=>(nomatch h),fun _ _=>⟨zA _,[.bool false],?_,?_,e1.trans e2⟩⟩⟩
  ·simp +decide only [zq,Zaj]
  ·rw [Zlk (by omega)];rfl
 intro hg;have hg:=of_decide_eq_false hg;have hg:row.length≤262144-Zed (L.take i):=by omega
 apply Zak;repeat apply Zaa
 apply Zad;intro _;simp +decide only [zq,↓Zab,↓reduceIte,aOp,Zah,Zan,aevs,Zaf,aLen,h4,Tryz.underlying44,goInt,Zpt hg (by omega),aBin,ZaB,Zam];rfl
 repeat apply Zaa
 apply Zad;intro _;simp +decide only [zq,↓Zab,↓reduceIte,aOp,Zan,aevs,Zaf,aLen,Tryz.underlying44,goInt];rfl;refine Zao ?_;refine Zdc (fun (j:Nat) r σ'=>j≤row.length∧Ext σ1 σ'∧rget r 3=.int .i64 (L.length:Int)∧rget r 4=.int .i64 ((262144-Zed (L.take i)-row.length:Nat):Int)∧rget r 19=.slice (some ⟨rb,roff,none⟩) L.length sc∧rget r 20=.int .i64 (L.length:Int)∧rget r 21=.int .i64 (i:Int)∧
   rget r 33=.slice vb row.length vc∧rget r 34=.int .i64 (row.length:Int)∧rget r 35=.int .i64 (j:Int)∧∀a∈row.take j,okA L.length a=true)
  (fun j=>row.length-j) ?_ 0 ?_
 rotate_left
 ·simp +decide only [zq,h3,h19,h20,h21];exact ⟨zH _,e2,trivial,trivial,trivial,trivial,trivial,trivial,trivial,rfl,by simp⟩
 rintro j r σ3 ⟨hj,e3,h3,h4,h19,h20,h21,h33,h34,h35,hokj⟩;repeat apply Zaa
 apply Zad;intro _;simp +decide only [zq,↓Zab,↓reduceIte,aOp,Zah,h34,h35,aBin,ZaB,Zam];rfl;repeat apply Zaa
 refine W_if (b:=decide ((j:Int)<(row.length:Int))) ?_ ?_ ?_
 ·simp +decide only [zq]
 rotate_left
 ·intro hb;have hb:j=row.length:=by
   have:=of_decide_eq_false hb;omega
  refine ZaA ⟨fun h=>(nomatch h),fun _=>?_,fun h1 h2=>absurd rfl h2⟩;refine Zap ⟨fun _=>?_,fun h=>absurd rfl h⟩;refine Zao ?_;repeat apply Zaa
  apply Zad;intro _;simp +decide only [zq,↓Zab,↓reduceIte,aOp,Zah,h21,ZdL ‹i<L.length› hz.len,aBin,ZaB,Zam];rfl;refine Zap ⟨fun _=>⟨i+1,?_,?_⟩,fun h=>(nomatch h),fun h=>absurd rfl h⟩
  ·omega
  ·simp +decide only [zq,h3,h4,h19,h20];refine ⟨by omega,e3,trivial,?_,trivial,trivial,trivial,by omega,?_⟩
   ·rw [htt];congr 2;omega
   ·rw [zT,hrow];simp only [Option.toList_some,zR,List.mem_singleton];rintro w (hw|rfl)
    ·exact hok w hw
    ·subst hb;rw [List.take_length] at hokj;exact hokj
 intro hb;have hb:j<row.length:=by
  have:=of_decide_eq_true hb;omega
 apply Zak;refine ZaM ?_;obtain ⟨y,hy⟩:∃y,row[j]?=some y:=⟨row[j],by simp [hb]⟩
 have hym:y∈row:=zF hy;obtain ⟨-,b,off,rfl,hbl,hat⟩:=Zfm hrs hy;repeat apply Zaa
 apply Zad;intro _;simp +decide only [zq,↓Zab,↓reduceIte,aOp,Zae,Zag,ZaE,unn,h33,h35,Zfh hb,(hat σ3 e3).1,Zgp,Zf6];rfl;have D:=decl_at σ3 y;have e4:=e3.trans (decl_ext σ3 y);generalize decl σ3 y=σ4 at D e4;refine Zao ?_;by_cases c1:decide (y.1<0)=true
 ·have d1:=c1;repeat apply Zaa
  apply Zad;intro _;simp +decide only [zq,↓Zab,↓reduceIte,aOp,Zah,Zac,Zag,ZaH,Bool.true_beq,fld0,D.ev,aBin,ZaB,Zam,d1];rfl;repeat apply Zaa
  refine W_if (b:=true) ?_ ?_ ?_
  ·simp +decide only [zq]
  ·intro _;repeat apply Zaa
   apply Zad;intro _;simp +decide only [zq,↓Zab,↓reduceIte,aOp];rfl;refine Zbj ⟨fun h=>(nomatch h),fun _ _=>⟨fun h=>(nomatch h),fun h=>(nomatch h),fun _ _=>⟨fun h=>h.elim (fun h=>(nomatch h)) (fun h=>(nomatch h)),fun _ _=>⟨fun h=>(nomatch h),fun h=>(nomatch h),fun _ _=>⟨zA _,[.bool false],?_,?_,e1.trans e4⟩⟩⟩⟩⟩
   ·simp +decide only [zq,Zaj]
   ·rw [ZfD hrm hym (okA_false.2 (.inl d1))];rfl
  ·intro h;cases h
 have d1:decide (y.1<0)=false:=by simpa using c1
 by_cases c2:decide (y.1>1025)=true
 ·have d2:=c2;repeat apply Zaa
  apply Zad;intro _;simp +decide only [zq,↓Zab,↓reduceIte,aOp,Zah,Zac,Zag,ZaH,beq_self_eq_true,Bool.true_beq,fld0,D.ev,aBin,ZaB,Zam,d1,d2];rfl;repeat apply Zaa
  refine W_if (b:=true) ?_ ?_ ?_
  ·simp +decide only [zq]
  ·intro _;repeat apply Zaa
   apply Zad;intro _;simp +decide only [zq,↓Zab,↓reduceIte,aOp];rfl;refine Zbj ⟨fun h=>(nomatch h),fun _ _=>⟨fun h=>(nomatch h),fun h=>(nomatch h),fun _ _=>⟨fun h=>h.elim (fun h=>(nomatch h)) (fun h=>(nomatch h)),fun _ _=>⟨fun h=>(nomatch h),fun h=>(nomatch h),fun _ _=>⟨zA _,[.bool false],?_,?_,e1.trans e4⟩⟩⟩⟩⟩
   ·simp +decide only [zq,Zaj]
   ·rw [ZfD hrm hym (okA_false.2 (.inr (.inl d2)))];rfl
  ·intro h;cases h
 have d2:decide (y.1>1025)=false:=by simpa using c2
 by_cases c3:decide (y.2<0)=true
 ·have d3:=c3;repeat apply Zaa
  apply Zad;intro _;simp +decide only [zq,↓Zab,↓reduceIte,aOp,Zah,Zac,Zag,ZaH,beq_self_eq_true,Bool.true_beq,fld0,fld1,D.ev,D.to,aBin,ZaB,Zam,d1,d2,d3];rfl;repeat apply Zaa
  refine W_if (b:=true) ?_ ?_ ?_
  ·simp +decide only [zq]
  ·intro _;repeat apply Zaa
   apply Zad;intro _;simp +decide only [zq,↓Zab,↓reduceIte,aOp];rfl;refine Zbj ⟨fun h=>(nomatch h),fun _ _=>⟨fun h=>(nomatch h),fun h=>(nomatch h),fun _ _=>⟨fun h=>h.elim (fun h=>(nomatch h)) (fun h=>(nomatch h)),fun _ _=>⟨fun h=>(nomatch h),fun h=>(nomatch h),fun _ _=>⟨zA _,[.bool false],?_,?_,e1.trans e4⟩⟩⟩⟩⟩
   ·simp +decide only [zq,Zaj]
   ·rw [ZfD hrm hym (okA_false.2 (.inr (.inr (.inl d3))))];rfl
  ·intro h;cases h
 have d3:decide (y.2<0)=false:=by simpa using c3
 by_cases c4:decide (y.2≥(L.length:Int))=true
 ·have d4:=c4;repeat apply Zaa
  apply Zad;intro _;simp +decide only [zq,↓Zab,↓reduceIte,aOp,Zah,Zac,Zag,ZaH,beq_self_eq_true,fld0,fld1,D.ev,D.to,h3,aBin,ZaB,Zam,d1,d2,d3,d4];rfl;repeat apply Zaa
  refine W_if (b:=true) ?_ ?_ ?_
  ·simp +decide only [zq]
  ·intro _;repeat apply Zaa
   apply Zad;intro _;simp +decide only [zq,↓Zab,↓reduceIte,aOp];rfl;refine Zbj ⟨fun h=>(nomatch h),fun _ _=>⟨fun h=>(nomatch h),fun h=>(nomatch h),fun _ _=>⟨fun h=>h.elim (fun h=>(nomatch h)) (fun h=>(nomatch h)),fun _ _=>⟨fun h=>(nomatch h),fun h=>(nomatch h),fun _ _=>⟨zA _,[.bool false],?_,?_,e1.trans e4⟩⟩⟩⟩⟩
   ·simp +decide only [zq,Zaj]
   ·rw [ZfD hrm hym (okA_false.2 (.inr (.inr (.inr d4))))];rfl
  ·intro h;cases h
 have d4:decide (y.2≥(L.length:Int))=false:=by simpa using c4
 repeat apply Zaa
 apply Zad;intro _;simp +decide only [zq,↓Zab,↓reduceIte,aOp,Zah,Zac,Zag,ZaH,beq_self_eq_true,fld0,fld1,D.ev,D.to,h3,aBin,ZaB,Zam,d1,d2,d3,d4];rfl;repeat apply Zaa
 refine ZaC (by simp +decide only [zq]) ?_
 have hok:okA L.length y=true:=by
  cases h:okA L.length y with
  | true=>rfl
  | false=>
   rcases okA_false.1 h with h|h|h|h
   ·rw [d1] at h;cases h
   ·rw [d2] at h;cases h
   ·rw [d3] at h;cases h
   ·rw [d4] at h;cases h
 apply Zak;refine Zap ⟨fun _=>?_,fun h=>absurd rfl h⟩;refine Zao ?_;repeat apply Zaa
 apply Zad;intro _;simp +decide only [zq,↓Zab,↓reduceIte,aOp,Zah,h35,ZdL hb (zB (hz.row row hrm) (by decide)),aBin,ZaB,Zam];rfl
 refine Zap ⟨fun _=>⟨j+1,?_,?_⟩,fun h=>(nomatch h),fun h=>absurd rfl h⟩
 ·omega
 ·simp +decide only [zq,h3,h4,h19,h20,h21,h33,h34];refine ⟨by omega,e4,trivial,trivial,trivial,trivial,trivial,trivial,trivial,trivial,?_⟩
  rw [zT,hy];simp only [Option.toList_some,zR,List.mem_singleton];exact fun a ha=>ha.elim (hokj a) (fun e=>by rw [e];exact hok)
def asc:List Arc→Bool
 | []=>true
 | [_]=>true
 | a::b::l=>Zb2 a b&&asc (b::l)
theorem Zjk:∀{l:List Arc} {i:Nat} {a b:Arc},asc (l.take (i+1))=true→l[i]?=some a→l[i+1]?=some b→asc (l.take (i+2))=Zb2 a b
 | [],i,a,b,_,h,_=>by simp at h
 | [x],i,a,b,_,_,h=>by simp at h
 | x::y::l,0,a,b,_,h1,h2=>by
  simp at h1 h2;subst h1;subst h2;simp [asc]
 | x::y::l,i+1,a,b,h,h1,h2=>by
  have e1:(x::y::l).take (i+1+1)=x::y::l.take i:=by simp
  have e2:(x::y::l).take (i+1+2)=x::y::l.take (i+1):=by simp
  rw [e1,asc,Bool.and_eq_true] at h;rw [e2,asc,h.1,Bool.true_and];have e3:(y::l).take (i+1)=y::l.take i:=by simp
  have e4:(y::l).take (i+2)=y::l.take (i+1):=by simp
  rw [←e4];exact Zjk (by rw [e3];exact h.2) (by simpa using h1) (by simpa using h2)
theorem ZkG:∀{l:List Arc} (i:Nat),asc (l.take i)=false→asc l=false
 | [],i,h=>by simpa using h
 | [x],i,h=>by cases i<;>simp [asc] at h
 | x::y::l,0,h=>by simp [asc] at h
 | x::y::l,1,h=>by simp [asc] at h
 | x::y::l,i+2,h=>by
  have e1:(x::y::l).take (i+2)=x::y::l.take i:=by simp
  rw [e1,asc,Bool.and_eq_false_iff] at h;rw [asc,Bool.and_eq_false_iff];rcases h with h|h
  ·exact .inl h
  ·refine .inr (ZkG (i+1) ?_);simpa using h
def Zec (L:Lts):Bool:=Zco L&&L.all asc
theorem ZnV {L:Lts} {row:List Arc} (h:row∈L) (hr:asc row=false):Zec L=false:=by
 have:L.all asc=false:=by rw [List.all_eq_false];exact ⟨row,h,by rw [hr];simp⟩
 unfold Zec;rw [this];simp
theorem Zo8 (a b:Arc):decide (cmpA a b≥0)=!Zb2 a b:=by
 have e:cmpA a b=if a.1<b.1 then -1 else if b.1<a.1 then 1 else if a.2<b.2 then -1 else if b.2<a.2 then 1 else 0:=by
  show (if cmpI a.1 b.1=0 then (if cmpI a.2 b.2=0 then 0 else cmpI a.2 b.2) else cmpI a.1 b.1)=_
  unfold cmpI
  (repeat' split)<;>first|rfl|omega
 rw [e,Bool.eq_iff_iff];unfold Zb2;simp only [decide_eq_true_eq,Bool.not_eq_true',Bool.or_eq_false_iff,Bool.and_eq_false_iff,decide_eq_false_iff_not]
 (repeat' split)<;>omega
theorem Znd {σ:AS} {s:Value} {L:Lts} (hs:RS 1 RRow σ s L) (hz:Small L):C Tryz.prog Kn 0 40 [.agg #[s]] σ fun v σ'=>v=.bool (Zec L)∧Ext σ σ':=by
 refine C_of (kn (by decide)) Tryz.func40 rfl (zD rfl) ?_
 show W _ _ _ 34 _ _ _ _;unfold Tryz.f40;dsimp only;repeat apply Zaa
 apply Zad;intro _;simp +decide only [zq,ZaI,↓Zab,↓reduceIte,aOp,Zbm,aRow];rfl;have B:=LtsAt.new hs;have e1:=Ext.new σ ⟨1,27,0,(Value.agg #[s]).cells.toList,[]⟩;generalize σ.new ⟨1,27,0,(Value.agg #[s]).cells.toList,[]⟩=σ1 at B e1;obtain ⟨sb,sc,rfl,-⟩:=id hs;repeat apply Zaa
 apply ZaF;apply Zay 1;intro _;simp +decide only [zq,List.take,↓Zab,↓reduceIte,aOp,Zag,B.load];rfl;dsimp only [List.drop];refine ZaV (vs:=[.agg #[.slice sb L.length sc]]) (by simp +decide only [zq,aevs]) (by decide) (C.mono (Znr (hs.ext RRow.keeps e1) hz) ?_)
 rintro v σ' ⟨rfl,e0⟩;apply ZaG;intro _;simp +decide only [zq,↓Zab,↓reduceIte,aOp,opUn,flat,ZcO,not_b];rfl;have B:=B.ext e0;have e1:=e1.trans e0;generalize σ'=σ1 at B e1;repeat apply Zaa
 refine W_if (b:=(!Zco L)) ?_ ?_ ?_
 ·simp +decide only [zq]
 ·intro h;have h:Zco L=false:=by simpa using h
  repeat apply Zaa
  apply Zad;intro _;simp +decide only [zq,↓Zab,↓reduceIte,aOp];rfl;refine Zbj ⟨zA _,[.bool false],?_,?_,e1⟩
  ·simp +decide only [zq,Zaj]
  ·simp [Zbw,Zec,h]
 intro h;have hlo:Zco L=true:=by simpa using h
 apply Zak;repeat apply Zaa
 apply Zad;intro _;simp +decide only [zq,↓Zab,↓reduceIte,aOp,Zan,Zac,Zag,aevs,Zaf,aLen,fldL,B.out,Tryz.underlying25,goInt];rfl;repeat apply Zaa
 refine Zdc (fun (i:Nat) r σ'=>i≤L.length∧Ext σ1 σ'∧rget r 10=.slice sb L.length sc∧rget r 11=.int .i64 (L.length:Int)∧rget r 12=.int .i64 (i:Int)∧∀w∈L.take i,asc w=true)
  (fun i=>L.length-i) ?_ 0 ?_
 rotate_left
 ·simp +decide only [zq];exact ⟨zH _,Ext.refl _,trivial,trivial,rfl,by simp⟩
 rintro i r σ2 ⟨hi,e2,h10,h11,h12,hok⟩;repeat apply Zaa
 apply Zad;intro _;simp +decide only [zq,↓Zab,↓reduceIte,aOp,Zah,h11,h12,aBin,ZaB,Zam];rfl;repeat apply Zaa
 refine W_if (b:=decide ((i:Int)<(L.length:Int))) ?_ ?_ ?_
 ·simp +decide only [zq]
 rotate_left
 ·intro hb;have hb:i=L.length:=by
   have:=of_decide_eq_false hb;omega
  refine ZaA ⟨fun h=>(nomatch h),fun _=>?_,fun h1 h2=>absurd rfl h2⟩;repeat apply Zaa
  apply Zad;intro _;simp +decide only [zq,↓Zab,↓reduceIte,aOp];rfl;refine ZaL ⟨zA _,[.bool true],?_,?_,e1.trans e2⟩
  ·simp +decide only [zq,Zaj]
  ·subst hb;rw [List.take_length] at hok;have:L.all asc=true:=List.all_eq_true.2 hok;unfold Zec;rw [hlo,this];rfl
 intro hb;have hb:i<L.length:=by
  have:=of_decide_eq_true hb;omega
 apply Zak;refine ZaM ?_;obtain ⟨row,hrow⟩:∃row,L[i]?=some row:=⟨L[i],by simp [hb]⟩
 have hrm:row∈L:=zF hrow;obtain ⟨-,rb,roff,rv,rfl,hrb,hrl,hrs⟩:=ZiZ B.rd hrow;obtain ⟨vb,vc,rfl,-⟩:=id hrs;repeat apply Zaa
 apply Zad;intro _;simp +decide only [zq,↓Zab,↓reduceIte,aOp,Zae,Zag,h10,h12,Zia hb,hrl σ2 e2];rfl;repeat apply Zaa
 apply Zad;intro _;simp +decide only [zq,↓Zab,↓reduceIte,aOp];rfl;refine Zao ?_;refine Zdc (fun (j:Nat) r σ'=>Ext σ1 σ'∧rget r 4=.slice vb row.length vc∧rget r 10=.slice (some ⟨rb,roff,none⟩) L.length sc∧rget r 11=.int .i64 (L.length:Int)∧rget r 12=.int .i64 (i:Int)∧rget r 5=.int .i64 ((j+1:Nat):Int)∧asc (row.take (j+1))=true)
  (fun j=>row.length-j) ?_ 0 ?_
 rotate_left
 ·simp +decide only [zq,h10,h11,h12];refine ⟨e2,trivial,trivial,trivial,trivial,rfl,?_⟩;cases row with
  | nil=>rfl
  | cons a l=>rfl
 rintro j r σ3 ⟨e3,h4,h10,h11,h12,h5,hasc⟩;repeat apply Zaa
 apply Zad;intro _;simp +decide only [zq,↓Zab,↓reduceIte,aOp,Zah,Zan,aevs,Zaf,aLen,h4,h5,Tryz.underlying44,goInt,aBin,ZaB,Zam];rfl;repeat apply Zaa
 refine W_if (b:=decide (((j+1:Nat):Int)<(row.length:Int))) ?_ ?_ ?_
 ·simp +decide only [zq]
 rotate_left
 ·intro hb2;have hb2:row.length≤j+1:=by
   have:=of_decide_eq_false hb2;omega
  refine ZaA ⟨fun h=>(nomatch h),fun _=>?_,fun h1 h2=>absurd rfl h2⟩;refine Zap ⟨fun _=>?_,fun h=>absurd rfl h⟩;refine Zao ?_;repeat apply Zaa
  apply Zad;intro _;simp +decide only [zq,↓Zab,↓reduceIte,aOp,Zah,h12,ZdL hb hz.len,aBin,ZaB,Zam];rfl;refine Zap ⟨fun _=>⟨i+1,?_,?_⟩,fun h=>(nomatch h),fun h=>absurd rfl h⟩
  ·omega
  ·simp +decide only [zq,h10,h11];refine ⟨by omega,e3,trivial,trivial,trivial,?_⟩
   rw [zT,hrow];simp only [Option.toList_some,zR,List.mem_singleton];rintro w (hw|rfl)
   ·exact hok w hw
   ·rw [zJ hb2] at hasc;exact hasc
 intro hb2;have hb2:j+1<row.length:=by
  have:=of_decide_eq_true hb2;omega
 apply Zak;refine ZaM ?_;obtain ⟨x,hx⟩:∃x,row[j]?=some x:=⟨row[j],by simp [show j<row.length by omega]⟩
 obtain ⟨y,hy⟩:∃y,row[j+1]?=some y:=⟨row[j+1],by simp [hb2]⟩
 obtain ⟨-,b,off,rfl,hbl,hat1⟩:=Zfm hrs hx;obtain ⟨-,b2,off2,hbb,hbl2,hat2⟩:=Zfm hrs hy;cases hbb;have hj:IntKind.i64.wrap (((j+1:Nat):Int)-1)=(j:Int):=by
  have:=hz.row row hrm;rw [Zas _ (by omega) (by omega)];omega
 repeat apply Zaa
 refine Za8 [] [] (by kernel_rfl) (by kernel_rfl) ?_
 apply Zau 9;intro _;simp +decide only [zq,zr,List.take,aQ,↓Zab,↓reduceIte,aOp,Zah,Zae,Zag,h4,h5,hj,Zfh (show j<row.length by omega),Zfh hb2,(hat1 _ (e3.trans (Ext.reset _))).1,(hat2 _ (e3.trans (Ext.reset _))).1,aBin,ZaB,Zam];rfl
 dsimp only [List.drop,List.take,List.length];have e4:=e3.trans ((Ext.refl _).merge (σ:=σ3));generalize σ3.merge σ3.reset=σ4 at e4;refine Zbx (vs:=[vArc x,vArc y]) (by simp +decide only [zq,aevs]) (by decide) rfl (C.mono (Zkv x y) ?_)
 rintro v s1 ⟨rfl,e5⟩;refine ⟨e5.quiet,?_⟩;have e6:=e4.trans e5.merge;generalize σ4.merge s1=σ5 at e6;apply ZaO;intro _;simp +decide only [zq,zr,aQ,↓Zab,↓reduceIte,aOp,Zah,aBin,ZaB,Zam];rfl;have e7:=e6.trans ((Ext.refl _).merge (σ:=σ5));generalize σ5.merge σ5.reset=σ6 at e7;refine Zao ?_;repeat apply Zaa
 refine W_if (b:=decide (cmpA x y≥0)) ?_ ?_ ?_
 ·simp +decide only [zq]
 ·intro h;rw [Zo8] at h;have h:Zb2 x y=false:=by simpa using h
  repeat apply Zaa
  apply Zad;intro _;simp +decide only [zq,↓Zab,↓reduceIte,aOp];rfl;refine Zbj ⟨fun h=>(nomatch h),fun _ _=>⟨fun h=>(nomatch h),fun h=>(nomatch h),fun _ _=>⟨fun h=>h.elim (fun h=>(nomatch h)) (fun h=>(nomatch h)),fun _ _=>⟨fun h=>(nomatch h),fun h=>(nomatch h),fun _ _=>⟨zA _,[.bool false],?_,?_,e1.trans e7⟩⟩⟩⟩⟩
  ·simp +decide only [zq,Zaj]
  ·rw [ZnV hrm (ZkG (j+2) (by rw [Zjk hasc hx hy];exact h))];rfl
 intro h;rw [Zo8] at h;have h:Zb2 x y=true:=by simpa using h
 apply Zak;refine Zap ⟨fun _=>?_,fun h=>absurd rfl h⟩;refine Zao ?_;repeat apply Zaa
 apply Zad;intro _;simp +decide only [zq,↓Zab,↓reduceIte,aOp,Zah,h5,ZdL hb2 (zB (hz.row row hrm) (by decide)),aBin,ZaB,Zam];rfl
 refine Zap ⟨fun _=>⟨j+1,?_,?_⟩,fun h=>(nomatch h),fun h=>absurd rfl h⟩
 ·omega
 ·simp +decide only [zq,h4,h10,h11,h12];exact ⟨e7,trivial,trivial,trivial,trivial,trivial,(Zjk hasc hx hy).trans h⟩
open Abs
theorem RArc.shown {X:List Nat} {σ:AS} (cs:List Value) (x:Arc) (h:RArc (hid X σ) cs x):RArc σ cs x:=h
theorem RRow.shown {X:List Nat} {σ:AS} (cs:List Value) (x:List Arc) (h:RRow (hid X σ) cs x):RRow σ cs x:=by
 obtain ⟨v,h1,h2⟩:=h;exact ⟨v,h1,RS.shown RArc.shown h2⟩
structure Tape (tb:Nat) (σ:AS) (k:Nat):Prop where
 lt:tb<σ.next
 own:∃(lv:Value) (ints:List Int) (pos:Int),σ.get tb=⟨1,54,0,[lv,.int .i64 pos],[]⟩∧RS 1 RInt (hid [tb] σ) lv ints∧ints.length≤2^62∧0≤pos∧pos≤k
structure TapeV (tb:Nat) (σ:AS) (lv:Value) (ints:List Int) (k:Nat):Prop where
 lt:tb<σ.next
 own:∃pos:Int,σ.get tb=⟨1,54,0,[lv,.int .i64 pos],[]⟩∧0≤pos∧pos≤k
 rs:RS 1 RInt (hid [tb] σ) lv ints
 len:ints.length≤2^62
theorem TapeV.tape {tb k:Nat} {σ:AS} {lv:Value} {ints:List Int} (h:TapeV tb σ lv ints k):Tape tb σ k:=by
 obtain ⟨h1,⟨pos,h2,h3,h4⟩,h5,h6⟩:=h;exact ⟨h1,lv,ints,pos,h2,h5,h6,h3,h4⟩
theorem Tape.V {tb k:Nat} {σ:AS} (h:Tape tb σ k):∃lv ints,TapeV tb σ lv ints k:=by
 obtain ⟨h1,lv,ints,pos,h2,h5,h6,h3,h4⟩:=h;exact ⟨lv,ints,h1,⟨pos,h2,h3,h4⟩,h5,h6⟩
theorem Tape.ext {tb:Nat} {σ σ':AS} {k:Nat} (h:Tape tb σ k) (e:Ext σ σ'):Tape tb σ' k:=by
 obtain ⟨h1,lv,ints,pos,h2,h3,h4⟩:=h;exact ⟨e.lt h1,lv,ints,pos,by rw [e.get tb h1,h2],h3.ext RInt.keeps (Ext.hid e),h4⟩
theorem Tape.up {tb:Nat} {σ:AS} {k k':Nat} (h:Tape tb σ k) (hk:k≤k'):Tape tb σ k':=by
 obtain ⟨h1,lv,ints,pos,h2,h3,h4,h5,h6⟩:=h;exact ⟨h1,lv,ints,pos,h2,h3,h4,h5,by omega⟩
theorem fldT0 {b off:Nat}:Za4 Tryz.prog 54 0 (.pointer (some ⟨b,off,none⟩))=some (.pointer (some ⟨b,off,none⟩)):=
 ZdH (fd:=⟨"l",22,0,false,"","cspcheck/cspcheckgen2",0⟩) (inf:=(Tryz.prog.info? 22).get!) Tryz.underlying54 rfl (by kernel_rfl) (by kernel_rfl)
theorem Zp9 {b off:Nat}:Za4 Tryz.prog 54 1 (.pointer (some ⟨b,off,none⟩))=some (.pointer (some ⟨b,off+1,none⟩)):=
 ZdH (fd:=⟨"at",3,1,false,"","cspcheck/cspcheckgen2",24⟩) (inf:=(Tryz.prog.info? 3).get!) Tryz.underlying54 rfl (by kernel_rfl) (by kernel_rfl)
theorem intOf {σ:AS} {base:Option Addr} {len cap:Nat} {l:List Int} (h:RS 1 RInt σ (.slice base len cap) l) {i:Nat} {x:Int} (hi:l[i]?=some x) :
  len=l.length∧∃b off,base=some ⟨b,off,none⟩∧b<σ.next∧Zav σ ⟨b,off+i*1,none⟩ 1=some [.int .i64 x]:=by
 obtain ⟨base',cap',e,hb⟩:=h;cases e;obtain ⟨b,off,rfl,h2,h3⟩:=hb (fun h=>by rw [h] at hi;simp at hi)
 obtain ⟨cs,h4,h5⟩:=h3 i x hi;exact ⟨rfl,b,off,rfl,h2,by rw [h4];exact congrArg some h5⟩
theorem storeT {σ:AS} {tb:Nat} {lv:Value} {pos x:Int} (h:σ.get tb=⟨1,54,0,[lv,.int .i64 pos],[]⟩) :
  ZaK Tryz.prog σ 3 (.int .i64 x) (.pointer (some ⟨tb,1,none⟩))=some (σ.put tb ⟨1,54,0,[lv,.int .i64 x],[]⟩):=by
 obtain ⟨inf,hi,hs⟩:∃inf,Tryz.prog.info? 3=some inf∧inf.size=1:=⟨(Tryz.prog.info? 3).get!,by kernel_rfl,by kernel_rfl⟩
 have hz:Nat.beq (Value.int .i64 x).cells.size 1=true:=rfl;unfold ZaK;simp only [hi,hs,hz,if_true];unfold Zbc;simp only [h];rfl
theorem Znl {σ:AS} {tb k:Nat} {n:Int} {lv:Value} {ints:List Int} (h:TapeV tb σ lv ints k) (hk:k<2^62) (hn:n≤2^62):C Tryz.prog Kn 0 49 [.pointer (some ⟨tb,0,none⟩),.int .i64 n] σ fun v σ'=>(∃m:Int,v=.int .i64 m∧(1≤n→0≤m∧m<n))∧TapeV tb σ' lv ints (k+1)∧ExtX [tb] σ σ':=by
 obtain ⟨hlt,⟨pos,hg,p0,pk⟩,hr,hl⟩:=h;obtain ⟨base,cap,rfl,-⟩:=id hr;obtain ⟨p,rfl⟩:∃p:Nat,pos=(p:Int):=⟨pos.toNat,by omega⟩
 have L1:∀σ',Ext σ σ'→Zat Tryz.prog σ' 3 (.pointer (some ⟨tb,1,none⟩))=some (.int .i64 (p:Int)):=fun σ' e=>Zaw Tryz.underlying3 rfl (Zaq ((e.get tb hlt).trans hg) rfl (zA _));have L0:∀σ',Ext σ σ'→Zat Tryz.prog σ' 22 (.pointer (some ⟨tb,0,none⟩))=some (.slice base ints.length cap):=fun σ' e=>Zaw Tryz.underlying22 rfl (Zaq ((e.get tb hlt).trans hg) rfl (by simp))
 have w1:IntKind.i64.wrap ((p:Int)+1)=((p+1:Nat):Int):=by rw [Zas _ (by omega) (by omega)];omega
 have ew:Ext σ σ:=Ext.refl σ;refine C_of (kn (by decide)) Tryz.func49 rfl (zD rfl) ?_
 show W _ _ _ 50 _ _ _ _;unfold Tryz.f49;dsimp only;repeat apply Zaa
 apply Zad;intro _;simp +decide only [zq,ZaI,↓Zab,↓reduceIte,aOp];rfl;repeat apply Zaa
 apply Zad;intro _;simp +decide only [zq,↓Zab,↓reduceIte,aOp,Zah,Zac,Zag,Zbo,Zp9,L1 _ ew,aBin,ZaB,Zam];rfl;repeat apply Zaa
 refine Za8 [] [] (by kernel_rfl) (by kernel_rfl) ?_
 apply ZaO;intro _;simp +decide only [zq,zr,aQ,↓Zab,↓reduceIte,aOp,Zah,Zan,Zac,Zag,aevs,Zaf,aLen,Zbo,fldT0,Zp9,L0 _ (Ext.reset _),L1 _ (Ext.reset _),Tryz.underlying22,goInt,aBin,ZaB,Zam];rfl;have e1:Ext σ (σ.merge σ.reset):=(Ext.refl _).merge;generalize σ.merge σ.reset=σ1 at e1;repeat apply Zaa
 refine Zk1 (b:=decide ((p:Int)<(ints.length:Int))) (fun r σ2=>Ext σ σ2∧rget r 0=.pointer (some ⟨tb,0,none⟩)∧rget r 1=.int .i64 n∧∃z:Int,rget r 5=.int .i64 z) ?_ ?_ ?_ ?_
 ·simp +decide only [zq]
 ·intro hb;have hb:p<ints.length:=by
   have:=of_decide_eq_true hb;omega
  obtain ⟨x,hx⟩:∃x,ints[p]?=some x:=⟨ints[p],by simp [hb]⟩
  obtain ⟨-,b,off,rfl,hbl,hat⟩:=intOf hr hx;rw [ZbH] at hbl;have L2:∀σ',Ext σ σ'→Zat Tryz.prog σ' 3 (.pointer (some ⟨b,off+p*1,none⟩))=some (.int .i64 x):=fun σ' e=>Zaw Tryz.underlying3 rfl (by rw [e.cells (a:=⟨b,off+p*1,none⟩) hbl];exact (ZhF hat).2)
  refine Zao ?_;repeat apply Zaa
  refine Za8 [] [] (by kernel_rfl) (by kernel_rfl) ?_
  apply ZaO;intro _;simp +decide only [zq,zr,aQ,↓Zab,↓reduceIte,aOp,Zae,Zac,Zag,Zbo,fldT0,Zp9,L0 _ (e1.trans (Ext.reset _)),L1 _ (e1.trans (Ext.reset _)),ZrG hb,L2 _ (e1.trans (Ext.reset _))];rfl;refine Zap ⟨rfl,e1.trans ((Ext.refl _).merge (σ:=σ1)),?_,?_,x,?_⟩<;>simp +decide only [zq]
 ·intro _;refine Zap ⟨rfl,e1,?_,?_,IntKind.i64.wrap (IntKind.i64.wrap (5*(p:Int))+3),?_⟩<;>simp +decide only [zq]
 rintro r σ2 ⟨e2,h0,h1,z,h5⟩;have hg2:=(e2.get tb hlt).trans hg;repeat apply Zaa
 apply Zad;intro _;simp +decide only [zq,↓Zab,↓reduceIte,aOp,Zah,Zac,Zag,ZaE,unn,Zbo,h0,Zp9,L1 _ e2,storeT hg2,w1,aBin,ZaB,Zam];rfl;have Tf:TapeV tb (σ2.put tb ⟨1,54,0,[.slice base ints.length cap,.int .i64 ((p+1:Nat):Int)],[]⟩) (.slice base ints.length cap) ints (k+1):=by
  have ef:ExtX [tb] σ (σ2.put tb ⟨1,54,0,[.slice base ints.length cap,.int .i64 ((p+1:Nat):Int)],[]⟩):=(ExtX.of e2).put List.mem_cons_self _;exact ⟨e2.lt hlt,⟨_,by rw [AS.get_put,if_pos rfl],by omega,by omega⟩,hr.ext RInt.keeps ef.hid,hl⟩
 have ef:ExtX [tb] σ (σ2.put tb ⟨1,54,0,[.slice base ints.length cap,.int .i64 ((p+1:Nat):Int)],[]⟩):=(ExtX.of e2).put List.mem_cons_self _;generalize σ2.put tb ⟨1,54,0,[.slice base ints.length cap,.int .i64 ((p+1:Nat):Int)],[]⟩=σ3 at Tf ef;by_cases hn1:n<1
 ·have d1:decide (n<1)=true:=zM hn1;repeat apply Zaa
  apply Zad;intro _;simp +decide only [zq,↓Zab,↓reduceIte,aOp,Zah,h1,d1,aBin,ZaB,Zam];rfl;repeat apply Zaa
  refine W_if (b:=true) ?_ ?_ ?_
  ·simp +decide only [zq]
  ·intro _;repeat apply Zaa
   apply Zad;intro _;simp +decide only [zq,↓Zab,↓reduceIte,aOp];rfl;refine Zbj ⟨zA _,[.int .i64 (0)],?_,⟨_,rfl,fun h=>absurd hn1 (by omega)⟩,Tf,ef⟩
   simp +decide only [zq,Zaj]
  ·intro h;cases h
 have d1:decide (n<1)=false:=zI hn1;have hn0:n≠0:=by omega
 repeat apply Zaa
 apply Zad;intro _;simp +decide only [zq,↓Zab,↓reduceIte,aOp,Zah,h1,d1,aBin,ZaB,Zam];rfl;repeat apply Zaa
 refine ZaC (by simp +decide only [zq]) ?_
 apply Zak;repeat apply Zaa
 apply Zad;intro _;simp +decide only [zq,↓Zab,↓reduceIte,aOp,Zah,h1,h5,aRem _ _ hn0];rfl;have t1:z.tmod n<n:=Int.tmod_lt_of_pos z (by omega)
 have t2:-n<z.tmod n:=by
  have:=Int.lt_tmod_of_pos z (show 0<n by omega)
  exact this
 by_cases hz:z.tmod n<0
 ·have d2:decide (z.tmod n<0)=true:=zM hz;have w2:IntKind.i64.wrap (z.tmod n+n)=z.tmod n+n:=by rw [Zas _ (by omega) (by omega)]
  repeat apply Zaa
  apply Zad;intro _;simp +decide only [zq,↓Zab,↓reduceIte,aOp,Zah,d2,aBin,ZaB,Zam];rfl;repeat apply Zaa
  refine W_if (b:=true) ?_ ?_ ?_
  ·simp +decide only [zq]
  ·intro _;repeat apply Zaa
   apply Zad;intro _;simp +decide only [zq,↓Zab,↓reduceIte,aOp,Zah,h1,w2,aBin,ZaB,Zam];rfl;repeat apply Zaa
   apply Zad;intro _;simp +decide only [zq,↓Zab,↓reduceIte,aOp];rfl;refine ZaL ⟨zA _,[.int .i64 (z.tmod n+n)],?_,⟨_,rfl,fun _=>⟨by omega,by omega⟩⟩,Tf,ef⟩
   simp +decide only [zq,Zaj]
  ·intro h;cases h
 have d2:decide (z.tmod n<0)=false:=zI hz;repeat apply Zaa
 apply Zad;intro _;simp +decide only [zq,↓Zab,↓reduceIte,aOp,Zah,d2,aBin,ZaB,Zam];rfl;repeat apply Zaa
 refine ZaC (by simp +decide only [zq]) ?_
 apply Zak;repeat apply Zaa
 apply Zad;intro _;simp +decide only [zq,↓Zab,↓reduceIte,aOp];rfl;refine ZaL ⟨zA _,[.int .i64 (z.tmod n)],?_,⟨_,rfl,fun _=>⟨by omega,by omega⟩⟩,Tf,ef⟩
 simp +decide only [zq,Zaj]
theorem Zfx {σ:AS} {tb k:Nat} {n:Int} (h:Tape tb σ k) (hk:k<2^62) (hn:n≤2^62):C Tryz.prog Kn 0 49 [.pointer (some ⟨tb,0,none⟩),.int .i64 n] σ fun v σ'=>(∃m:Int,v=.int .i64 m∧(1≤n→0≤m∧m<n))∧Tape tb σ' (k+1)∧ExtX [tb] σ σ':=by
 obtain ⟨lv,ints,h⟩:=h.V;exact (Znl h hk hn).mono fun v σ' ⟨h1,h2,h3⟩=>⟨h1,h2.tape,h3⟩
theorem Zr6 {b:Option Addr} {n c:Nat}:Zdb Tryz.prog 54 [(0,.slice b n c)]=some (.agg #[.slice b n c,.int .i64 0]):=by kernel_rfl
theorem ZhR {x y:Int}:Zdb Tryz.prog 57 [(0,.int .i64 x),(1,.int .i64 y)]=some (vArc (x,y)):=by kernel_rfl
def evs:List Int:=[0,0,2,3,4,2,3,1,2,5,1025]
theorem evs_ok:∀x∈evs,0≤x∧x≤1025:=by decide
theorem Zrd {σ:AS}:Zaz Tryz.prog σ 22 11 [(0,.int .i64 0),(1,.int .i64 0),(2,.int .i64 2),(3,.int .i64 3),(4,.int .i64 4),(5,.int .i64 2),(6,.int .i64 3),(7,.int .i64 1),(8,.int .i64 2),(9,.int .i64 5),(10,.int .i64 1025)]=
  some (.slice (some ⟨σ.next,0,none⟩) 11 11,σ.new ⟨1,3,0,evs.map (Value.int .i64),[]⟩):=by kernel_rfl
theorem Zhe {σ:AS} {x:Arc}:Zaz Tryz.prog σ 44 1 [(0,vArc x)]=some (.slice (some ⟨σ.next,0,none⟩) 1 1,σ.new ⟨1,57,0,[.int .i64 x.1,.int .i64 x.2],[]⟩):=by kernel_rfl
theorem Zml {σ:AS}:Zaz Tryz.prog σ 44 0 []=some (.slice (some ⟨σ.next,0,none⟩) 0 0,σ.new ⟨1,57,0,[],[]⟩):=by kernel_rfl
theorem ZpQ {σ:AS} {lv:Value} {ints:List Int} (h:RS 1 RInt σ lv ints) (hl:ints.length≤2^62):C Tryz.prog Kn 0 4 [lv] σ fun v σ'=>v=.pointer (some ⟨σ.next,0,none⟩)∧Tape σ.next σ' 0∧Ext σ σ':=by
 obtain ⟨base,cap,rfl,-⟩:=id h;refine C_of (kn (by decide)) Tryz.func4 rfl (zD rfl) ?_
 show W _ _ _ 6 _ _ _ _;unfold Tryz.f4;dsimp only;repeat apply Zaa
 apply Zad;intro _;simp +decide only [zq,ZaI,↓Zab,↓reduceIte,aOp];rfl;repeat apply Zaa
 apply Zad;intro _;simp +decide only [zq,↓Zab,↓reduceIte,aOp,Zbm,Zbl,aRow,ZaN,Zr6];rfl;refine ZaL ⟨zA _,[.pointer (some ⟨σ.next,0,none⟩)],?_,rfl,?_,Ext.new _ _⟩
 ·simp +decide only [zq,Zaj]
 ·have e:Ext σ (hid [σ.next] (σ.new ⟨1,54,0,[.slice base ints.length cap,.int .i64 ((0:Nat):Int)],[]⟩)):=Ext.put (Ext.new _ _) (zA _) _;exact ⟨zG _,_,ints,_,by rw [AS.get_new,if_pos rfl];rfl,h.ext RInt.keeps e,hl,by simp,by simp⟩
theorem ZrQ {σ:AS} {tb k:Nat} (h:Tape tb σ k) (hk:k<2^62):C Tryz.prog Kn 0 19 [.pointer (some ⟨tb,0,none⟩)] σ fun v σ'=>(∃e:Int,v=.int .i64 e∧e∈evs)∧Tape tb σ' (k+1)∧ExtX [tb] σ σ':=by
 refine C_of (kn (by decide)) Tryz.func19 rfl (zD rfl) ?_
 show W _ _ _ 12 _ _ _ _;unfold Tryz.f19;dsimp only;repeat apply Zaa
 apply Zad;intro _;simp +decide only [zq,ZaI,↓Zab,↓reduceIte,aOp];rfl;repeat apply Zaa
 apply Zad;intro _;simp +decide only [zq,↓Zab,↓reduceIte,aOp,Zar,ZaN,Zrd];rfl;have e1:=Ext.new σ ⟨1,3,0,evs.map (Value.int .i64),[]⟩;have hg:(σ.new ⟨1,3,0,evs.map (Value.int .i64),[]⟩).get σ.next=⟨1,3,0,evs.map (Value.int .i64),[]⟩:=by rw [AS.get_new,if_pos rfl]
 have hlt:σ.next<(σ.new ⟨1,3,0,evs.map (Value.int .i64),[]⟩).next:=zG _;have h0:=h.lt;generalize σ.new ⟨1,3,0,evs.map (Value.int .i64),[]⟩=σ1 at e1 hg hlt;repeat apply Zaa
 apply ZaF;apply Zay 4;intro _;simp +decide only [zq,List.take,↓Zab,↓reduceIte,aOp,Zan,aevs,Zaf,aLen,Tryz.underlying22,goInt];rfl;dsimp only [List.drop];refine ZaV (vs:=[.pointer (some ⟨tb,0,none⟩),.int .i64 ((11:Nat):Int)]) (by simp +decide only [zq,aevs]) (by decide) (C.mono (Zfx (h.ext e1) hk (n:=((11:Nat):Int)) (by decide)) ?_)
 rintro v σ' ⟨⟨m,rfl,hm⟩,T1,e2⟩;obtain ⟨m0,m1⟩:=hm (by decide)
 obtain ⟨i,rfl⟩:∃i:Nat,m=(i:Int):=⟨m.toNat,by omega⟩
 have hi:i<11:=by omega
 have hg2:=(e2.get σ.next hlt (by intro h;simp at h;omega)).trans hg
 obtain ⟨x,hx⟩:∃x,evs[i]?=some x:=⟨evs[i]'hi,zP hi⟩;have L:Zat Tryz.prog σ' 3 (.pointer (some ⟨σ.next,i,none⟩))=some (.int .i64 x):=Zaw Tryz.underlying3 rfl (Zaq hg2 (by
  rw [List.drop_eq_getElem_cons (by rw [List.length_map];exact hi)]
  obtain ⟨h1,h2⟩:=zE.1 hx;rw [List.getElem_map,h2];rfl) (by rw [List.length_map];exact hi))
 apply ZaG;intro _;simp +decide only [zq,↓Zab,↓reduceIte,aOp,Zae,Zag,ZrG hi,L,Nat.mul_one];rfl;refine ZaL ⟨zA _,[.int .i64 x],?_,⟨x,rfl,zF hx⟩,T1,(ExtX.of e1).trans e2⟩;simp +decide only [zq,Zaj]
def cellsOf:List Arc→List Value
 | []=>[]
 | x::l=>.int .i64 x.1::.int .i64 x.2::cellsOf l
theorem ZaS:∀l:List Arc,(cellsOf l).length=l.length*2
 | []=>rfl
 | _::l=>by show (cellsOf l).length+1+1=(l.length+1)*2;rw [ZaS l];omega
theorem Zcf:∀l m:List Arc,cellsOf (l++m)=cellsOf l++cellsOf m
 | [],_=>rfl
 | x::l,m=>by show _::_::cellsOf (l++m)=_::_::(cellsOf l++cellsOf m);rw [Zcf l m]
theorem Zdh:∀(l:List Arc) (i:Nat),(cellsOf l).take (i*2)=cellsOf (l.take i)
 | [],i=>by simp [cellsOf]
 | x::l,0=>by simp [cellsOf]
 | x::l,i+1=>by
  rw [show (i+1)*2=i*2+1+1 by omega]
  show _::_::(cellsOf l).take (i*2)=_::_::cellsOf (l.take i);rw [Zdh l i]
theorem ZcK:∀(l:List Arc) (i:Nat),(cellsOf l).drop (i*2)=cellsOf (l.drop i)
 | [],i=>by simp [cellsOf]
 | x::l,0=>by simp [cellsOf]
 | x::l,i+1=>by
  rw [show (i+1)*2=i*2+1+1 by omega]
  exact ZcK l i
theorem cellsOf_at {l:List Arc} {i:Nat} {x:Arc} (h:l[i]?=some x):((cellsOf l).drop (i*2)).take 2=[.int .i64 x.1,.int .i64 x.2]:=by
 obtain ⟨h1,h2⟩:=zE.1 h;rw [ZcK,List.drop_eq_getElem_cons h1,h2];rfl
theorem ZcA:∀l:List Arc,(cellsOf l).all one=true
 | []=>rfl
 | x::l=>by show (_&&(_&&(cellsOf l).all one))=true;rw [ZcA l];rfl
def Src (σ:AS) (x:Value) (m:List Arc):Prop:=∀inf:TypeInfo,inf.size=2→Zbd Tryz.prog σ false inf x=some (m.length,cellsOf m)
theorem Src.of {σ:AS} {x:Value} {m:List Arc} (h:(∃c,x=.slice none 0 c∧m=[])∨(∃k,x=.chan (some k)∧m=[])∨∃b off c,x=.slice (some ⟨b,off,none⟩) m.length c∧Zav σ ⟨b,off,none⟩ (m.length*2)=some (cellsOf m)):Src σ x m:=by
 intro inf hs;rcases h with ⟨c,rfl,rfl⟩|⟨k,rfl,rfl⟩|⟨b,off,c,rfl,h⟩
 ·rfl
 ·rfl
 ·unfold Zbd;simp only [Bool.false_eq_true,if_false,hs,Zbh,h]
theorem Src.source {σ:AS} {x:Value} {m:List Arc} {inf:TypeInfo} (hs:inf.size=2) (h:Src σ x m):Zbd Tryz.prog σ false inf x=some (m.length,cellsOf m):=h inf hs
def outV (b:Nat) (l:List Arc):Value:=.slice (some ⟨b,0,none⟩) l.length (Zax+l.length)
def outB (l:List Arc):Blk:=⟨2,57,2,cellsOf l,[]⟩
theorem Ziv:∃inf z,Tryz.prog.info? 57=some inf∧inf.size=2∧inf.bytes=16∧inf.zero=some z∧z.cells.size=2∧flat z=true:=
 ⟨(Tryz.prog.info? 57).get!,(((Tryz.prog.info? 57).get!).zero).get!,by kernel_rfl,by kernel_rfl,by kernel_rfl,by kernel_rfl,by kernel_rfl,by kernel_rfl⟩
section
variable {σ:AS} {x:Value} {l m:List Arc}
theorem ZkI {b0:Nat} (hx:Src σ x m) (hm:m≠[]) (hn:m.length≤1000000) (hb:σ.get b0=⟨1,57,0,[],[]⟩) :
  ZaU Tryz.prog σ #[44,44] (.slice (some ⟨b0,0,none⟩) 0 0) x=some (outV σ.next m,σ.new (outB m)):=by
 obtain ⟨inf,z,h1,h2,h3,h4,h5,h6⟩:=Ziv;have hs:=hx.source h2;have hp:0<m.length:=List.length_pos_iff.2 hm;have hc:Zav σ ⟨b0,0,none⟩ 0=some []:=Zaq hb rfl (zA _);have d1:Nat.beq (2:Nat) 0=false:=rfl;have d2:Nat.beq (2:Nat) 2=true:=rfl;have d3:Nat.ble ((4*m.length+4000)*16) 281474976710656=true:=ZbF (by omega)
 have d4:Nat.ble m.length 1000000000000=true:=ZbF (by omega)
 have d5:Nat.beq (cellsOf m).length (m.length*2)=true:=by rw [ZaS];exact Nat.beq_refl _
 have d6:Nat.ble m.length 0=false:=Zjj hp;unfold ZaU;simp only [List.getElem?_toArray,List.getElem?_cons_zero,List.getElem?_cons_succ,Tryz.underlying44,h1,h2,h3,h4,h5,h6,hs,d1,d2,Nat.zero_add,d3,d4,d5,d6,ZbR,Zd8,Nat.zero_mul,Zbh,hc,Bool.not_true,Bool.or_false,Bool.false_eq_true,if_false,List.length_nil,Nat.beq_refl,if_true,List.nil_append];rfl
theorem append_nil {b0:Nat} (hx:Src σ x []) (hb:σ.get b0=⟨1,57,0,[],[]⟩) :
  ZaU Tryz.prog σ #[44,44] (.slice (some ⟨b0,0,none⟩) 0 0) x=some (.slice (some ⟨b0,0,none⟩) 0 0,σ):=by
 obtain ⟨inf,z,h1,h2,h3,h4,h5,h6⟩:=Ziv;have hs:=hx.source h2;have d1:Nat.beq (2:Nat) 0=false:=rfl;have d2:Nat.beq (2:Nat) 2=true:=rfl;have d3:Nat.ble ((4*0+4000)*16) 281474976710656=true:=rfl;have d4:Nat.ble 0 1000000000000=true:=rfl;have d6:Nat.ble 0 0=true:=rfl;have hw:Zb4 σ ⟨b0,0+0*2,none⟩ []=some σ:=by
  rw [ZgF];unfold Zbc;simp only [hb];rfl
 unfold ZaU;simp only [List.getElem?_toArray,List.getElem?_cons_zero,List.getElem?_cons_succ,Tryz.underlying44,h1,h2,h3,h4,h5,h6,hs,d1,d2,List.length_nil,Nat.add_zero,d3,d4,d6,cellsOf,Nat.zero_mul,ZbR,Bool.not_true,Bool.or_false,Bool.false_eq_true,if_false,Nat.beq_refl,if_true];rw [show (⟨b0,0+0*2,none⟩:Addr)=⟨b0,0,none⟩ from rfl] at hw
 first|rw [hw]|simp only [hw]
theorem ZlW {b:Nat} (hx:Src σ x m) (hm:m≠[]) (hn:l.length+m.length≤1000000) (hb:σ.get b=outB l) :
  ZaU Tryz.prog σ #[44,44] (outV b l) x=some (outV σ.next (l++m),(σ.put b Blk.dead).new (outB (l++m))):=by
 obtain ⟨inf,z,h1,h2,h3,h4,h5,h6⟩:=Ziv;have hs:=hx.source h2;have hp:0<m.length:=List.length_pos_iff.2 hm;have d1:Nat.beq (2:Nat) 0=false:=rfl;have d2:Nat.beq (2:Nat) 2=true:=rfl;have d3:Nat.ble ((4*(l.length+m.length)+4000)*16) 281474976710656=true:=ZbF (by omega)
 have d4:Nat.ble (l.length+m.length) 1000000000000=true:=ZbF (by omega)
 have d5:Nat.beq (cellsOf m).length (m.length*2)=true:=by rw [ZaS];exact Nat.beq_refl _
 have d6:Nat.ble (l.length+m.length) l.length=false:=Zjj (by omega)
 have d7:Nat.ble (l.length*2) (cellsOf l).length=true:=ZbF (by rw [ZaS];omega)
 have d8:(cellsOf l).take (l.length*2)=cellsOf l:=by rw [zJ (by rw [ZaS];omega)]
 unfold ZaU outV outB;unfold outB at hb;simp only [List.getElem?_toArray,List.getElem?_cons_zero,List.getElem?_cons_succ,Tryz.underlying44,h1,h2,h3,h4,h5,h6,hs,d1,d2,d3,d4,d5,d6,d7,d8,Zbn,Zcb,hb,ZcA,Zcf,zS,Bool.not_true,Bool.or_false,Bool.and_self,Bool.false_eq_true,if_false,Nat.beq_refl,if_true]
theorem ZlV {b:Nat} (hx:Src σ x []) (hn:l.length≤1000000) (hb:σ.get b=outB l) :
  ZaU Tryz.prog σ #[44,44] (outV b l) x=some (outV b l,σ):=by
 obtain ⟨inf,z,h1,h2,h3,h4,h5,h6⟩:=Ziv;have hs:=hx.source h2;have d1:Nat.beq (2:Nat) 0=false:=rfl;have d2:Nat.beq (2:Nat) 2=true:=rfl;have d3:Nat.ble ((4*l.length+4000)*16) 281474976710656=true:=ZbF (by omega)
 have d4:Nat.ble l.length 1000000000000=true:=ZbF (by omega)
 have d6:Nat.ble l.length l.length=true:=ZbF (zA _);have hw:Zbc σ ⟨b,0+l.length*2,none⟩ []=some σ:=by
  unfold Zbc;simp only [hb,List.length_nil,List.all_nil,ZaJ,outB,ZaS,Nat.add_zero,Nat.zero_add];rw [ZbF (zA _)];rfl
 unfold ZaU outV;simp only [List.getElem?_toArray,List.getElem?_cons_zero,List.getElem?_cons_succ,Tryz.underlying44,h1,h2,h3,h4,h5,h6,hs,d1,d2,List.length_nil,Nat.add_zero,d3,d4,d6,cellsOf,Nat.zero_mul,Zbn,Zcb,hb,Bool.not_true,Bool.or_false,Bool.false_eq_true,if_false,Nat.beq_refl,if_true,hw]
 first|rfl | (rw [show (Nat.beq (outB l).kind 2&&Nat.beq (outB l).esz 2)=true from rfl];rfl)|skip
end
def GRow (σ:AS) (v:Value) (l:List Arc):Prop:=(v=.slice none 0 0∧l=[])∨(l≠[]∧∃b,v=outV b l∧b<σ.next∧σ.get b=outB l)
theorem GRow.shown {X:List Nat} {σ:AS} {v:Value} {l:List Arc} (h:GRow (hid X σ) v l):GRow σ v l:=by
 refine h.imp_right fun ⟨h0,b,h1,h2,h3⟩=>⟨h0,b,h1,by rw [ZbH] at h2;exact h2,?_⟩
 by_cases hb:b∈X
 ·rw [Zdv _ hb] at h3;have:=congrArg Blk.kind h3;simp [outB,Blk.dead] at this
 ·rw [Zcd _ hb] at h3;exact h3
theorem GRow.ext {σ σ':AS} {v:Value} {l:List Arc} (h:GRow σ v l) (e:Ext σ σ'):GRow σ' v l:=
 h.imp_right fun ⟨h0,b,h1,h2,h3⟩=>⟨h0,b,h1,e.lt h2,(e.get b h2).trans h3⟩
theorem Zek {σ:AS} {b:Nat} {l:List Arc} (h:σ.get b=outB l) {i n:Nat} (hi:i+n≤l.length):Zav σ ⟨b,i*2,none⟩ (n*2)=some (cellsOf ((l.drop i).take n)):=by
 unfold Zav;simp only [h,outB,ZaJ,ZaS];rw [ZbF (by omega),ZcK,Zdh]
 rfl
theorem GRow.rs {σ:AS} {v:Value} {l:List Arc} (h:GRow σ v l):RS 2 RArc σ v l:=by
 rcases h with ⟨rfl,rfl⟩|⟨h0,b,rfl,h2,h3⟩
 ·exact ⟨none,0,rfl,fun h=>absurd rfl h⟩
 ·refine ⟨_,_,rfl,fun _=>⟨b,0,rfl,h2,fun i x hx=>?_⟩⟩;have hi:i<l.length:=(zE.1 hx).1;have:=Zek h3 (i:=i) (n:=1) (by omega)
  rw [Nat.one_mul] at this;rw [Nat.zero_add];refine ⟨_,this,?_⟩;show cellsOf _=_;obtain ⟨h1,h2⟩:=zE.1 hx;rw [List.drop_eq_getElem_cons h1,h2];rfl
theorem abound_at (i n:Nat) (h:i≤n):ZeA (.int .i64 (i:Int)) n=some i:=by
 show (if (0:Int)≤(i:Int)∧(i:Int)≤(n:Int) then some (i:Int).toNat else none)=some i
 rw [if_pos ⟨by omega,by omega⟩];rfl
theorem GRow.slice_to {σ:AS} {v:Value} {l:List Arc} (h:GRow σ v l) {i:Nat} (hi:i≤l.length):∃x,Zbv Tryz.prog σ 44 v none (some (.int .i64 (i:Int))) none=some x∧Src σ x (l.take i):=by
 obtain ⟨inf,z,h1,h2,-⟩:=Ziv;rcases h with ⟨rfl,rfl⟩|⟨h0,b,rfl,hb,hg⟩
 ·obtain rfl:i=0:=by simpa using hi
  refine ⟨.slice none 0 0,?_,Src.of (.inl ⟨0,rfl,by simp⟩)⟩
  unfold Zbv;simp only [Tryz.underlying44,h1,ZbR,h2];rfl
 ·refine ⟨.slice (some ⟨b,0,none⟩) i (Zax+l.length),?_,Src.of (.inr (.inr ⟨b,0,Zax+l.length,by rw [zX,Nat.min_eq_left hi],?_⟩))⟩
  ·unfold Zbv outV;simp only [Tryz.underlying44,h1,h2,Zbn,hg,if_true];rw [show (Nat.beq (outB l).kind 2&&Nat.beq (outB l).esz 2)=true from rfl,if_pos rfl]
   unfold Zbg;simp only [ZbW,Zcb,abound_at i _ hi,Zbn,if_true,Nat.beq_refl]
  ·have:=Zek hg (i:=0) (n:=i) (by omega)
   rw [zX,Nat.min_eq_left hi];simpa using this
theorem GRow.slice_from {σ:AS} {v:Value} {l:List Arc} (h:GRow σ v l) {i:Nat} (hi:i≤l.length):∃x,Zbv Tryz.prog σ 44 v (some (.int .i64 (i:Int))) none none=some x∧Src σ x (l.drop i):=by
 obtain ⟨inf,z,h1,h2,-⟩:=Ziv;rcases h with ⟨rfl,rfl⟩|⟨h0,b,rfl,hb,hg⟩
 ·obtain rfl:i=0:=by simpa using hi
  refine ⟨.slice none 0 0,?_,Src.of (.inl ⟨0,rfl,by simp⟩)⟩
  unfold Zbv;simp only [Tryz.underlying44,h1,ZbR,h2];rfl
 ·have hs:∀x,Zbg 2 (some ⟨b,0,none⟩) l.length (Zax+l.length) (some (.int .i64 (i:Int))) none none=some x→Zbv Tryz.prog σ 44 (outV b l) (some (.int .i64 (i:Int))) none none=some x:=fun x hx=>by
   unfold Zbv outV;simp only [Tryz.underlying44,h1,h2,Zbn,hg,if_true];rw [show (Nat.beq (outB l).kind 2&&Nat.beq (outB l).esz 2)=true from rfl,if_pos rfl]
   exact hx
  by_cases h3:i=0
  ·subst h3;refine ⟨_,hs (.slice (some ⟨b,0,none⟩) l.length (Zax+l.length)) ?_,Src.of (.inr (.inr ⟨b,0,Zax+l.length,by simp,?_⟩))⟩
   ·unfold Zbg;simp only [ZbW,Zcb,abound_at 0 _ (zH _),Zbn,if_true,Nat.beq_refl]
   ·have:=Zek hg (i:=0) (n:=l.length) (by omega)
    simpa using this
  have d0:Nat.beq i 0=false:=by
   cases e:Nat.beq i 0 with
   | false=>rfl
   | true=>exact absurd (zK e) h3
  by_cases h4:i<l.length
  ·refine ⟨_,hs (.slice (some ⟨b,i*2,none⟩) (l.length-i) (Zax+(l.length-i))) ?_,Src.of (.inr (.inr ⟨b,i*2,Zax+(l.length-i),by rw [List.length_drop],?_⟩))⟩
   ·unfold Zbg;simp only [ZbW,Zcb,abound_at i _ hi,Zbn,if_true,d0,Bool.false_eq_true,if_false];rw [if_pos (by rw [Nat.blt_eq];exact h4)]
    simp only [Option.map_some,Addr.add,Nat.zero_add];rw [if_neg (by omega)]
   ·have:=Zek hg (i:=i) (n:=l.length-i) (by omega)
    rw [List.length_drop,this];rw [zJ (by rw [List.length_drop];exact zA _)]
  ·obtain rfl:i=l.length:=by omega
   refine ⟨_,hs (.chan (some (Zea ⟨b,0,none⟩ (Zax+l.length) l.length 2))) ?_,Src.of (.inr (.inl ⟨_,rfl,by simp⟩))⟩
   unfold Zbg;have d1:Nat.blt l.length l.length=false:=by
    cases e:Nat.blt l.length l.length with
    | false=>rfl
    | true=>rw [Nat.blt_eq] at e;omega
   simp only [ZbW,Zcb,abound_at l.length _ (zA _),Zbn,if_true,d0,d1,Nat.beq_refl,Bool.false_eq_true,if_false,Option.map_some]
def Zpp:Prop:=∀{X:List Nat} {σ:AS} {v:Value} {l:List Arc} {a:Arc},GRow (hid X σ) v l→l.length≤1000→(∀x∈X,x<σ.next)→
 C Tryz.prog Kn 0 17 [v,vArc a] σ fun v' σ'=>Ext σ σ'∧∃l',GRow (hid X σ') v' l'∧l'.length≤l.length+1∧(∀x∈l',x=a∨x∈l)∧a∈l'∧(asc l=true→asc l'=true)∧∀x∈l,x∈l'
structure Gen (tb lb:Nat) (σ:AS) (L:Lts) (m:Nat):Prop where
 lt:lb<σ.next
 ne:lb≠tb
 own:∃rows,σ.get lb=⟨1,44,0,rows,[]⟩∧rows.length=L.length∧∀(i:Nat) (v:Value) (l:List Arc),rows[i]?=some v→L[i]?=some l→GRow (hid [tb,lb] σ) v l
 row:∀l∈L,l.length≤m∧∀a∈l,0≤a.2∧a.2<(L.length:Int)
theorem Gen.extX {tb lb:Nat} {σ σ':AS} {L:Lts} {m:Nat} (h:Gen tb lb σ L m) (e:ExtX [tb] σ σ'):Gen tb lb σ' L m:=by
 obtain ⟨h1,h2,⟨rows,h3,h4,h5⟩,h6⟩:=h;have e2:ExtX [tb,lb] σ σ':=e.sub fun x hx=>by rw [List.mem_singleton.1 hx];exact List.mem_cons_self
 exact ⟨e.lt h1,h2,⟨rows,(e.get lb h1 (by simpa using h2)).trans h3,h4,fun i v l hv hl=>(h5 i v l hv hl).ext e2.hid⟩,h6⟩
theorem Gen.ext {tb lb:Nat} {σ σ':AS} {L:Lts} {m:Nat} (h:Gen tb lb σ L m) (e:Ext σ σ'):Gen tb lb σ' L m:=h.extX (.of e)
theorem Gen.up {tb lb:Nat} {σ:AS} {L:Lts} {m m':Nat} (h:Gen tb lb σ L m) (hm:m≤m'):Gen tb lb σ L m':=
 ⟨h.lt,h.ne,h.own,fun l hl=>⟨zB (h.row l hl).1 hm,(h.row l hl).2⟩⟩
theorem Gen.set {tb lb i m:Nat} {σ:AS} {L:Lts} {v:Value} {l:List Arc} (h:Gen tb lb σ L m) (hg:GRow (hid [tb,lb] σ) v l) (hl:l.length≤m) (ha:∀a∈l,0≤a.2∧a.2<(L.length:Int)) :
  ∃rows,σ.get lb=⟨1,44,0,rows,[]⟩∧rows.length=L.length∧Gen tb lb (σ.put lb ⟨1,44,0,rows.set i v,[]⟩) (L.set i l) m∧ExtX [tb,lb] σ (σ.put lb ⟨1,44,0,rows.set i v,[]⟩):=by
 obtain ⟨h1,h2,⟨rows,h3,h4,h5⟩,h6⟩:=h;have e:ExtX [tb,lb] σ (σ.put lb ⟨1,44,0,rows.set i v,[]⟩):=(ExtX.refl _ _).put (by simp) _
 refine ⟨rows,h3,h4,⟨h1,h2,⟨rows.set i v,by rw [AS.get_put,if_pos rfl],by rw [List.length_set,List.length_set,h4],fun j u k hu hk=>?_⟩,fun k hk=>?_⟩,e⟩
 ·by_cases hj:i=j
  ·subst hj;have hi:i<rows.length:=by
    have:=(zE.1 hu).1
    rwa [List.length_set] at this
   rw [List.getElem?_set_self hi] at hu;rw [List.getElem?_set_self (by omega)] at hk
   cases hu;cases hk;exact hg.ext e.hid
  ·rw [List.getElem?_set_ne hj] at hu hk;exact (h5 j u k hu hk).ext e.hid
 ·rw [List.length_set];rcases List.mem_or_eq_of_mem_set hk with hk|rfl
  ·exact h6 k hk
  ·exact ⟨hl,ha⟩
theorem Gen.at {tb lb i m:Nat} {σ:AS} {L:Lts} (h:Gen tb lb σ L m) (hi:i<L.length) :
  ∃v l,L[i]?=some l∧l∈L∧GRow (hid [tb,lb] σ) v l∧∀σ',ExtX [tb] σ σ'→Zat Tryz.prog σ' 44 (.pointer (some ⟨lb,i,none⟩))=some v:=by
 obtain ⟨h1,h2,⟨rows,h3,h4,h5⟩,h6⟩:=h;obtain ⟨v,hv⟩:∃v,rows[i]?=some v:=⟨rows[i],by simp [show i<rows.length by omega]⟩
 obtain ⟨l,hl⟩:∃l,L[i]?=some l:=⟨L[i],by simp [hi]⟩
 refine ⟨v,l,hl,zF hl,h5 i v l hv hl,fun σ' e=>Zaw Tryz.underlying44 rfl (Zaq ((e.get lb h1 (by simpa using h2)).trans h3) ?_ (by omega))⟩
 obtain ⟨h7,h8⟩:=zE.1 hv;rw [List.drop_eq_getElem_cons h7,h8];rfl
theorem Zn4 {σ:AS} {lb i:Nat} {rows:List Value} {v:Value} {b:Option Addr} {n c:Nat} (hv:v=.slice b n c) (h:σ.get lb=⟨1,44,0,rows,[]⟩) (hi:i<rows.length) :
  ZaK Tryz.prog σ 44 v (.pointer (some ⟨lb,i,none⟩))=some (σ.put lb ⟨1,44,0,rows.set i v,[]⟩):=by
 subst hv;obtain ⟨inf,hi2,hs⟩:∃inf,Tryz.prog.info? 44=some inf∧inf.size=1:=⟨(Tryz.prog.info? 44).get!,by kernel_rfl,by kernel_rfl⟩
 have hz:Nat.beq (Value.slice b n c).cells.size 1=true:=rfl;have hc:(Value.slice b n c).cells.toList=[.slice b n c]:=rfl;unfold ZaK;simp only [hi2,hs,hz,if_true,hc];unfold Zbc;simp only [h,ZaJ,List.length_cons,List.length_nil,Nat.zero_add];rw [ZbF (by omega),ZaP,Zbe]
 rfl
theorem GRow.slice {σ:AS} {v:Value} {l:List Arc} (h:GRow σ v l):∃b c,v=.slice b l.length c:=by
 rcases h with ⟨rfl,rfl⟩|⟨_,b,rfl,_⟩
 ·exact ⟨none,0,rfl⟩
 ·exact ⟨_,_,rfl⟩
theorem Gen.rs {tb lb cap m:Nat} {σ:AS} {L:Lts} (h:Gen tb lb σ L m):RS 1 RRow (hid [tb] σ) (.slice (some ⟨lb,0,none⟩) L.length cap) L:=by
 obtain ⟨h1,h2,⟨rows,h3,h4,h5⟩,h6⟩:=h;refine RS.of_block (e:=44) (s:=0) (vals:=rows) (ents:=[]) (by rw [ZbH];exact h1) (by rw [Zcd σ (by simpa using h2)];exact h3) (by omega) fun i l hl=>?_
 have hi:i<rows.length:=by rw [h4];exact (zE.1 hl).1
 refine ⟨rows[i],?_,?_⟩
 ·rw [Nat.mul_one,List.drop_eq_getElem_cons hi];rfl
 ·have hg:=h5 i rows[i] l (by simp [hi]) hl
  have:=hg.rs;refine RS.shown (X:=[lb]) (fun _ _ h=>h) ?_;have e:Ext (hid [tb,lb] σ) (hid [lb] (hid [tb] σ)):=by
   refine ⟨by simp only [ZbH];exact zA _,fun j _=>?_,fun k hk hk2=>?_⟩
   ·by_cases hj:j=lb
    ·subst hj;rw [Zdv _ (by simp),Zdv _ (by simp)]
    ·rw [Zcd (X:=[lb]) _ (by simpa using hj)]
     by_cases hj2:j=tb
     ·subst hj2;rw [Zdv _ (by simp),Zdv _ (by simp)]
     ·rw [Zcd _ (by simpa using hj2),Zcd _ (by simp;exact ⟨hj2,hj⟩)]
   ·rw [hid_low] at hk ⊢;refine ⟨hid_low.2 ⟨hk.1,fun x hx=>hk.2 x (by simp at hx ⊢;exact .inl hx)⟩,fun x hx=>hk.2 x (by simp at hx ⊢;exact .inr hx)⟩
  exact this.ext RArc.keeps e
end Go.Proofs.YteangeffgjolpaaGreatDoor.Nest
