/- What the evaluator keeps of the abstract memory;the registers;regions in the text's order. -/
import Derived.Test.YteangeffgjolpaaGreatDoorAbsI
import Derived.Orders
set_option linter.unusedSimpArgs false
set_option linter.unusedVariables false
namespace Go.Proofs.YteangeffgjolpaaGreatDoor.Abs
structure AMono (σ σ':AS):Prop where
 nxt:σ.next≤σ'.next
 low:σ'.low≤σ.low
 keep:∀i,i<σ.next→i<σ'.low→σ'.get i=σ.get i
 dead:∀i,i<σ.next→(σ.get i).kind=0→(σ'.get i).kind=0
 ro:∀n,n≤σ.next→n≤σ.low→(∀i,i<n→(σ.get i).kind=0∨(σ.get i).kind=5)→n≤σ'.low∧∀i,i<n→σ'.get i=σ.get i
theorem AMono.refl (σ:AS):AMono σ σ:=⟨zA _,zA _,fun _ _ _=>rfl,fun _ _ h=>h,fun _ _ h _=>⟨h,fun _ _=>rfl⟩⟩
theorem AMono.trans {σ σ' σ'':AS} (h:AMono σ σ') (k:AMono σ' σ''):AMono σ σ'' where
 nxt:=zB h.nxt k.nxt
 low:=zB k.low h.low
 keep i hi hl:=by rw [k.keep i (zC hi h.nxt) hl,h.keep i hi (zC hl k.low)]
 dead i hi h0:=k.dead i (zC hi h.nxt) (h.dead i hi h0)
 ro n hn hl hk:=by
  obtain ⟨h1,h2⟩:=h.ro n hn hl hk;obtain ⟨h3,h4⟩:=k.ro n (zB hn h.nxt) h1 fun i hi=>by rw [h2 i hi];exact hk i hi
  exact ⟨h3,fun i hi=>by rw [h4 i hi,h2 i hi]⟩
theorem AMono.new (σ:AS) (b:Blk):AMono σ (σ.new b) where
 nxt:=Nat.le_succ _
 low:=zA _
 keep i hi _:=by rw [AS.get_new,if_neg (by omega)]
 dead i hi h0:=by rw [AS.get_new,if_neg (by omega)];exact h0
 ro n hn hl _:=⟨hl,fun i hi=>by rw [AS.get_new,if_neg (by omega)]⟩
theorem AMono.put {σ:AS} {i:Nat} (b:Blk) (hk:(σ.get i).kind≠0∧(σ.get i).kind≠5):AMono σ (σ.put i b) where
 nxt:=zA _
 low:=Nat.min_le_left _ _
 keep j hj hl:=by
  rw [AS.get_put,if_neg];intro e;subst e;exact absurd hl (Nat.not_lt.2 (Nat.min_le_right _ _))
 dead j hj h0:=by
  rw [AS.get_put,if_neg,h0];intro e;subst e;exact hk.1 h0
 ro n hn hl hall:=by
  have hge:n≤i:=by
   rcases Nat.lt_or_ge i n with h|h
   ·have:=hall i h;omega
   ·exact h
  exact ⟨Nat.le_min.2 ⟨hl,hge⟩,fun j hj=>by rw [AS.get_put,if_neg (by omega)]⟩
section mono
variable {P:Program} {G:Nat} {σ σ':AS} {r:Regs}
theorem ZdZ {x:Addr} {cs:List Value} (h:Zbc σ x cs=some σ'):AMono σ σ':=by
 unfold Zbc at h;split at h
 ·rename_i hk;simp only [Bool.and_eq_true] at hk;cases cs with
  | nil=>cases h;exact AMono.refl _
  | cons c0 cs0=>
  cases h;refine AMono.put _ ?_;have:=isCells_iff.1 hk.1.1;omega
 ·cases h
theorem ZgG {x:Addr} {cs:List Value} (h:Zb4 σ x cs=some σ'):AMono σ σ':=by
 unfold Zb4 at h;split at h
 ·exact ZdZ h
 ·cases cs with
  | nil=>cases h;exact AMono.refl _
  | cons=>cases h
theorem Zl0 {t:TypeId} {x p:Value} (h:ZaK P σ t x p=some σ'):AMono σ σ':=by
 unfold ZaK at h;split at h
 ·split at h
  ·cases h
  ·split at h
   ·exact ZdZ h
   ·cases h
 ·cases h
theorem ZgH {t:TypeId} {m k v:Value} (h:Zce P σ t m k v=some σ'):AMono σ σ':=by
 unfold Zce at h;split at h
 ·split at h
  ·split at h
   ·rename_i hc;simp only [Nat.beq_eq] at hc;split at h
    ·cases h;exact AMono.put _ (by omega)
    ·cases h;exact AMono.put _ (by omega)
    ·cases h
   ·cases h
  ·cases h
 ·cases h
theorem Zl4 {t:TypeId} {m k v:Value} (h:ZgJ P σ t m k=some (v,σ')):AMono σ σ':=by
 unfold ZgJ at h;split at h
 ·split at h
  ·split at h
   ·rename_i hc;simp only [Nat.beq_eq] at hc;split at h
    ·split at h
     ·split at h
      ·cases h;exact AMono.put _ (by omega)
      ·cases h
     ·cases h
    ·split at h
     ·split at h
      ·split at h
       ·cases h;exact AMono.put _ (by omega)
       ·cases h
      ·cases h
     ·cases h
    ·cases h
   ·cases h
  ·cases h
 ·cases h
theorem ZgR {m s v:Value} (h:Zb6 σ m s v=some σ'):AMono σ σ':=by
 unfold Zb6 at h;split at h
 ·split at h
  ·rename_i hc;simp only [Nat.beq_eq] at hc;split at h
   ·split at h
    ·cases h;exact AMono.put _ (by omega)
    ·cases h
   ·cases h
  ·cases h
 ·cases h
theorem ZkS {t:TypeId} {m k:Value} (h:ZcQ P σ t m k=some σ'):AMono σ σ':=by
 unfold ZcQ at h;split at h
 ·split at h
  ·split at h
   ·rename_i hc;simp only [Nat.beq_eq] at hc;split at h
    ·cases h;exact AMono.put _ (by omega)
    ·cases h;exact AMono.refl _
    ·cases h
   ·cases h
  ·cases h
 ·split at h
  ·split at h
   ·cases h;exact AMono.refl _
   ·cases h
  ·cases h
 ·cases h
theorem Zk0 {at_:Array TypeId} {s x v:Value} (h:ZaU P σ at_ s x=some (v,σ')):AMono σ σ':=by
 unfold ZaU at h;split at h
 ·split at h
  ·split at h
   ·split at h
    ·split at h
     ·cases h
     ·split at h
      ·dsimp only at h;split at h
       ·cases h
       ·split at h
        ·split at h
         ·split at h
          ·cases h
          ·rename_i hk;simp only [Bool.not_eq_true',Bool.not_eq_false,Bool.and_eq_true,Nat.beq_eq] at hk;split at h
           ·split at h
            ·rename_i hw;cases h;exact ZdZ hw
            ·cases h
           ·split at h
            ·cases h;exact (AMono.put _ (by omega)).trans (AMono.new _ _)
            ·cases h
         ·cases h
        ·split at h
         ·split at h
          ·split at h
           ·rename_i hw;cases h;exact ZgG hw
           ·cases h
          ·split at h
           ·cases h;exact AMono.refl _
           ·cases h
         ·split at h
          ·split at h
           ·cases h;exact AMono.new _ _
           ·cases h
          ·cases h
      ·cases h
    ·cases h
   ·cases h
  ·cases h
 ·cases h
theorem Zl7 {at_:Array TypeId} {s x v:Value} (h:ZgK P σ at_ s x=some (v,σ')):AMono σ σ':=by
 unfold ZgK at h;split at h
 ·split at h
  ·split at h
   ·split at h
    ·dsimp only at h;split at h
     ·split at h
      ·split at h
       ·rename_i hw;cases h;exact ZgG hw
       ·cases h
      ·cases h;exact AMono.refl _
     ·cases h
    ·cases h
   ·cases h
  ·cases h
 ·cases h
theorem ZnL {at_:Array TypeId} {s x v:Value} (h:ZkV P σ at_ s x=some (v,σ')):AMono σ σ':=by
 unfold ZkV at h;split at h
 ·split at h
  ·split at h
   ·split at h
    ·cases h;exact AMono.refl _
    ·cases h
   ·cases h
  ·cases h
 ·exact Zl7 h
theorem Zl8 {t:TypeId} {x:Value} (h:Ze4 P σ t x=some σ'):AMono σ σ':=by
 unfold Ze4 at h;split at h
 ·cases h;exact AMono.refl _
 ·split at h
  ·cases h;exact AMono.refl _
  ·split at h
   ·split at h
    ·split at h
     ·exact ZdZ h
     ·cases h
    ·cases h
   ·cases h
 ·cases h
theorem ZjA {b:Builtin} {at_:Array TypeId} {args:List Value} {v:Value} (h:Zaf P σ b at_ args=some (v,σ')):AMono σ σ':=by
 unfold Zaf at h;split at h
 ·split at h
  ·split at h
   ·cases h;exact AMono.refl _
   ·cases h
  ·cases h
 ·split at h
  ·split at h
   ·cases h;exact AMono.refl _
   ·cases h
  ·cases h
 ·exact Zk0 h
 ·exact ZnL h
 ·split at h
  ·split at h
   ·rename_i hd;cases h;exact ZkS hd
   ·cases h
  ·cases h
 ·split at h
  ·split at h
   ·rename_i hd;cases h;exact Zl8 hd
   ·cases h
  ·cases h
 ·split at h
  ·cases h;exact AMono.refl _
  ·cases h
 ·split at h
  ·cases h;exact AMono.refl _
  ·cases h
 ·cases h
theorem ZbZ {o:Option Value} {v:Value} (h:ann σ o=some (v,σ')):AMono σ σ':=by
 obtain ⟨_,rfl⟩:=ZaT h;exact AMono.refl _
theorem Zm8 {op:Op} {v:Value} (h:aOp P G r σ op=some (v,σ')):AMono σ σ':=by
 cases op<;>try (cases h;done)
 case move x=>exact ZbZ h
 case assign x=>exact ZbZ h
 case pick c x y=>
  simp only [aOp,ZaH] at h;split at h
  ·cases h;exact AMono.refl _
  ·cases h
 case alloc elem=>
  simp only [aOp,Zcl] at h;split at h
  ·split at h
   ·split at h
    ·cases h;exact AMono.new _ _
    ·cases h
   ·cases h
  ·cases h
 case box elem x=>
  simp only [aOp,Zbm] at h;split at h
  ·cases h;exact AMono.new _ _
  ·cases h
 case build t parts=>
  simp only [aOp,Zbl] at h;split at h
  ·exact ZbZ h
  ·cases h
 case buildSlice t len parts=>
  simp only [aOp,Zar] at h;split at h
  ·unfold Zaz at h;split at h
   ·split at h
    ·split at h
     ·split at h
      ·split at h
       ·cases h;exact AMono.new _ _
       ·cases h
      ·cases h
     ·cases h
    ·cases h
   ·cases h
  ·cases h
 case load t x=>
  simp only [aOp,Zag] at h;split at h
  ·exact ZbZ h
  ·cases h
 case store t x y=>
  simp only [aOp,ZaE] at h;split at h
  ·obtain ⟨h,_⟩:=ZcS h;exact Zl0 h
  ·cases h
 case nilCheck x=>
  simp only [aOp,Zbo] at h;split at h<;>cases h<;>exact AMono.refl _
 case binOp op t x y yt=>
  simp only [aOp,Zah] at h;split at h
  ·exact ZbZ h
  ·cases h
 case unOp op t x=>
  simp only [aOp,opUn] at h;split at h
  ·split at h
   ·exact ZbZ h
   ·cases h
  ·cases h
 case convert s d x=>
  simp only [aOp,Zct] at h;split at h
  ·split at h
   ·exact ZbZ h
   ·split at h
    ·exact ZbZ h
    ·cases h
  ·cases h
 case makeInterface t x=>
  simp only [aOp,Zfc] at h;split at h
  ·cases h
  ·cases h;exact AMono.refl _
  ·cases h
 case makeFunc fn first captured=>
  simp only [aOp,Zd4] at h;split at h
  ·cases h;exact AMono.refl _
  ·cases h
 case makeMap t res=>
  cases res with
  | none=>cases h;exact AMono.new _ _
  | some x=>
   simp only [aOp,ZjY] at h;split at h
   ·cases h;exact AMono.new _ _
   ·cases h
 case makeSlice t l c=>
  simp only [aOp,ZbN] at h;split at h
  ·unfold ZbM at h;split at h
   ·split at h
    ·split at h
     ·split at h
      ·cases h;exact AMono.new _ _
      ·cases h
     ·cases h
    ·cases h
   ·cases h
  ·cases h
 case slice t x lo hi mx=>
  simp only [aOp,ZbE] at h;split at h
  ·exact ZbZ h
  ·cases h
 case fieldAddr s x f=>
  simp only [aOp,Zac] at h;split at h
  ·exact ZbZ h
  ·cases h
 case field t x f=>
  simp only [aOp,Zfd] at h;split at h
  ·exact ZbZ h
  ·cases h
 case indexAddr t x ix=>
  simp only [aOp,Zae] at h;split at h
  ·exact ZbZ h
  ·cases h
 case index t x ix=>
  simp only [aOp,Zfb] at h;split at h
  ·exact ZbZ h
  ·cases h
 case lookup t x ix ok=>
  simp only [aOp,Zba] at h;split at h
  ·exact ZbZ h
  ·cases h
 case mapUpdate t m k x=>
  simp only [aOp,ZbG] at h;split at h
  ·obtain ⟨h,_⟩:=ZcS h;exact ZgH h
  ·cases h
 case insert t m k x=>
  simp only [aOp,ZbG] at h;split at h
  ·obtain ⟨h,_⟩:=ZcS h;exact ZgH h
  ·cases h
 case mapEntry t m k=>
  simp only [aOp,Zhm] at h;split at h
  ·exact Zl4 h
  ·cases h
 case entryStore t m s x=>
  simp only [aOp,ZcH] at h;split at h
  ·obtain ⟨h,_⟩:=ZcS h;exact ZgR h
  ·cases h
 case extract t ix=>
  simp only [aOp,Zbb] at h;split at h
  ·split at h
   ·cases h;exact AMono.refl _
   ·cases h
  ·cases h
 case range t x=>
  simp only [aOp,Zi4] at h;split at h
  ·cases h;exact AMono.new _ _
  ·cases h
 case next it s=>
  simp only [aOp,Zmv] at h;split at h
  ·split at h
   ·rename_i hk;simp only [Bool.and_eq_true,Nat.beq_eq] at hk;split at h
    ·split at h
     ·cases h;exact AMono.put _ (by omega)
     ·cases h;exact AMono.refl _
    ·cases h
   ·cases h
  ·cases h
 case call c=>
  obtain ⟨callee,args,argTypes⟩:=c;simp only [aOp,Zan] at h;cases callee with
  | builtin b=>
   simp only [] at h;split at h
   ·exact ZjA h
   ·cases h
  | value f=>cases h
  | invoke x m=>cases h
def ZbI (callf:FuncId→List Value→AS→Option (Value×AS)):Prop:=∀f args σ v σ',callf f args σ=some (v,σ')→AMono σ σ'
theorem Zcq {callf:FuncId→List Value→AS→Option (Value×AS)} (hc:ZbI callf) {op:Op} {v:Value} (h:Zb5 P G callf r σ op=some (v,σ')):AMono σ σ':=by
 rw [aStep_eq] at h;unfold aStepOld at h;split at h
 ·split at h
  ·unfold Zgd at h;split at h
   ·split at h
    ·exact hc _ _ _ _ _ h
    ·cases h
   ·cases h
  ·exact Zm8 h
 ·exact Zm8 h
end mono
def ZbC (P:Program) (G:Nat) (callf:FuncId→List Value→AS→Option (Value×AS)):Prop:=
 ∀f args σ v σ' ρ w args',callf f args σ=some (v,σ')→R G ρ σ w→LRel (VRel ρ) args args'→
  (callFunc f args'.toArray).run P w=.ok (.enter f args'.toArray) w∧
  Calls P f args'.toArray w (fun e w'=>∃v' τ,e=.returned v'∧VRel τ v v'∧Sim G ρ σ w τ σ' w')
section steps
variable {P:Program} {G:Nat} {ρ:Ren} {σ σ':AS} {w:World} {r r':Regs} {a:Act} {callf:FuncId→List Value→AS→Option (Value×AS)} {Q:Exit→Act→World→Prop}
theorem ZfY (hc:ZbC P G callf) {o:Oper} {v:Value} (h:Zb5 P G callf r σ o.op=some (v,σ')) (hR:R G ρ σ w) (hr:OpRel G ρ r a o.op.operands)
  {next:Act→World→Prop} (hn:∀v' τ w',VRel τ v v'→Sim G ρ σ w τ σ' w'→next (a.put o.dst v') w'):o.wp P a w next Q:=by
 have viaOp:aOp P G r σ o.op=some (v,σ')→o.wp P a w next Q:=fun h=>by
  obtain ⟨v',τ,w',h1,h2,h3⟩:=Zpl h hR hr;unfold Oper.wp;rcases h1 with h1|⟨h1,rfl⟩
  ·rw [h1,Oper.upon_value];exact hn v' τ w' h2 h3
  ·rw [h1,Oper.upon_skip];exact hn undef τ w' h2 h3
 rw [aStep_eq] at h;unfold aStepOld at h;split at h
 ·rename_i c hop;split at h
  ·rename_i f hcal;unfold Zgd at h;split at h
   ·rename_i _ fid first captured hf
    split at h
    ·rename_i vs hvs;have hmem:f∈o.op.operands.toList∧∀x∈c.args.toList,x∈o.op.operands.toList:=by
      rw [hop];simp only [Op.operands,Call.operands,hcal];exact ⟨by simp,fun x hx=>by simp;exact .inr (by simpa using hx)⟩
     obtain ⟨f',c',hf1,hc1,e⟩:=vrel_func.1 (hr f hmem.1 _ hf);have hvs':=ZcU (ρ:=ρ) (a:=a) hvs fun x hx=>hr x (hmem.2 x hx);obtain ⟨h1,h2⟩:=hc fid _ σ v σ' ρ w _ h hR ((hf1.append hvs').append hc1);have hexec:(execOp a.eval o).run P w=.ok (.enter fid (f'++c.args.toList.map a.eval++c').toArray) w:=by
      unfold execOp;rw [hop];simp only [];have e2:resolve a.eval c o.type=pure { target:=.fn (.func fid) c'.toArray,args:=f'.toArray++c.args.map a.eval }:=by
       unfold resolve;rw [hcal];simp only [e,Deferred.ofValue]
      rw [e2];have e3:((f'.toArray++c.args.map a.eval)++c'.toArray)=(f'++c.args.toList.map a.eval++c').toArray:=by
       apply Array.ext';simp
      simp only [pure_bind,invoke,e3];exact h1
     unfold Oper.wp;rw [hexec,Oper.upon_enter];refine h2.mono fun e w' ⟨v',τ,he,hv,hs⟩=>?_;subst he;exact hn v' τ w' hv hs
    ·cases h
   ·cases h
  ·exact viaOp h
 ·exact viaOp h
theorem ZiT {v:Value} {b:Bool} (h:VRel ρ v (.bool b)):v=.bool b:=by
 cases v
 case bool c=>have:=vrel_bool.1 h;cases this;rfl
 case agg cs=>obtain ⟨_,_,e⟩:=vrel_agg.1 h;cases e
 case tuple cs=>obtain ⟨_,_,e⟩:=vrel_tuple.1 h;cases e
 case pointer a=>cases a with
  | none=>have:=vrel_ptr_none.1 h;cases this
  | some a=>obtain ⟨_,_,_,e⟩:=vrel_ptr.1 h;cases e
 case slice a l c=>cases a with
  | none=>have:=vrel_slice_none.1 h;cases this
  | some a=>obtain ⟨_,_,e,_⟩:=Za1 h;cases e
 case map a=>cases a with
  | none=>have:=vrel_map_none.1 h;cases this
  | some a=>obtain ⟨_,_,e⟩:=vrel_map.1 h;cases e
 case func=>obtain ⟨_,_,_,_,e⟩:=vrel_func.1 h;cases e
 case iface=>obtain ⟨_,_,e⟩:=vrel_iface.1 h;cases e
 case chan=>obtain ⟨_,_,e⟩:=ZcD h;cases e
 case int=>have:=vrel_int.1 h;cases this
 case float=>have:=vrel_float.1 h;cases this
 case complex=>have:=vrel_complex.1 h;cases this
 case string=>have:=vrel_string.1 h;cases this
 case nilFunc=>have:=vrel_nilFunc.1 h;cases this
 case nilIface=>have:=vrel_nilIface.1 h;cases this
theorem ZeM {ops:Array Oper} {o:Oper} (h:∀j b t,o.guard=some (j,b)→(ops[j]?).bind (·.dst)=some t→VRel ρ (rget r t) (a.tmps.getD t undef)) :
  aWanted ops r o=Region.wanted o (yielded ops a.tmps):=by
 unfold aWanted Region.wanted;cases hg:o.guard with
 | none=>rfl
 | some g=>
  obtain ⟨j,want⟩:=g;simp only [];unfold yielded;cases hd:(ops[j]?).bind (·.dst) with
  | none=>simp
  | some t=>
   have hv:=h j want t hg hd;simp only [Option.bind_some];rcases Nat.lt_or_ge t a.tmps.size with hlt|hge
   ·have e1:a.tmps.getD t undef=a.tmps[t]:=by simp [Array.getD,hlt]
    have e2:a.tmps[t]?=some a.tmps[t]:=by simp [hlt]
    rw [e1] at hv;rw [e2];cases hb:a.tmps[t] with
    | bool b=>
     rw [hb] at hv;rw [ZiT hv];simp [Bool.beq_comm]
    | _=>
     have hnb:∀b,rget r t≠.bool b:=fun b e=>by
      rw [e] at hv;have:=vrel_bool.1 hv;rw [hb] at this;cases this
     simp
     try (split<;>first | (rename_i e;exact absurd e (hnb _))|rfl)
   ·have e1:a.tmps.getD t undef=undef:=by simp [Array.getD,Nat.not_lt.2 hge]
    have e2:a.tmps[t]?=none:=by simp [hge]
    rw [e1] at hv;rw [e2];have hnb:∀b,rget r t≠.bool b:=fun b e=>by
     rw [e] at hv;have:=vrel_bool.1 hv;cases this
    simp
    try (split<;>first | (rename_i e;exact absurd e (hnb _))|rfl)
theorem ZcC (a:Act) (dst:Option Tmp) (v:Value):(a.put dst v).tmps.size=a.tmps.size:=by
 cases dst<;>simp [Act.put]
theorem ZbT (a:Act) (dst:Option Tmp) (v:Value):(a.put dst v).defers=a.defers:=by cases dst<;>rfl
theorem ZdP {a:Act} {d t:Nat} {v:Value} (hd:d<a.tmps.size):(a.put (some d) v).tmps.getD t undef=if d=t then v else a.tmps.getD t undef:=by
 simp only [Act.put,Array.getD_eq_getD_getElem?,Array.getElem?_setIfInBounds];split
 ·rename_i e;subst e;simp []
 ·rfl
theorem Zdk {n:Nat} {dst:Option Tmp} {v v':Value} (h:aPut n r dst v=some r') (hr:RegsRel ρ r a.tmps) (hv:VRel ρ v v') (hn:a.tmps.size=n):RegsRel ρ r' (a.put dst v').tmps:=by
 cases dst with
 | none=>cases h;exact hr
 | some d=>
  simp only [aPut,Zab] at h;split at h
  ·rename_i hd;have hd:d<a.tmps.size:=by rw [hn];simpa [Nat.blt_eq] using hd
   cases h;intro t;rw [rget_rput,ZdP hd];split
   ·exact hv
   ·exact hr t
  ·cases h
theorem Zl1 (hc:ZbC P G callf) {n:Nat} {ops:Array Oper} {ds:List Deferred}:∀(l:List Oper) (r:Regs) (σ:AS) (ρ:Ren) (w:World) (a:Act),aOps P G callf n ops l r σ=some (r',σ')→
  R G ρ σ w→RegsRel ρ r a.tmps→a.tmps.size=n→a.defers=ds→
  (∀τ a' w',RegsRel τ r' a'.tmps→a'.tmps.size=n→a'.defers=ds→Sim G ρ σ w τ σ' w'→Q .normal a' w')→wpList P ops Q l a w
 | [],r,σ,ρ,w,a,h,hR,hr,hn,hd,hQ=>by cases h;exact hQ ρ a w hr hn hd (Sim.refl hR)
 | o::l,r,σ,ρ,w,a,h,hR,hr,hn,hd,hQ=>by
  simp only [aOps,Zab] at h;have hw:aWanted ops r o=Region.wanted o (yielded ops a.tmps):=ZeM fun _ _ t _ _=>hr t;unfold wpList;rw [←hw];split at h
  ·rename_i hwt;rw [if_pos hwt];split at h
   ·rename_i v σ1 hst;split at h
    ·rename_i r1 hput;refine .inl (ZfY hc hst hR (OpRel.of_regs hR hr) fun v' τ w' hv hs=>?_);exact Zl1 hc l r1 σ1 τ w' _ h hs.rel (Zdk hput (hr.ext hs.le) hv hn) (by rw [ZcC];exact hn) (by rw [ZbT];exact hd)
      fun τ' a' w'' h1 h2 h3 h4=>hQ τ' a' w'' h1 h2 h3 (hs.trans h4)
    ·cases h
   ·cases h
  ·rename_i hwt;rw [if_neg hwt];split at h
   ·rename_i r1 hput;exact Zl1 hc l r1 σ ρ w _ h hR (Zdk hput hr Zb8 hn) (by rw [ZcC];exact hn) (by rw [ZbT];exact hd) hQ
   ·cases h
theorem Zf0 (hc:ZbI callf) {n:Nat} {ops:Array Oper}:∀(l:List Oper) (r:Regs) (σ:AS),aOps P G callf n ops l r σ=some (r',σ')→AMono σ σ'
 | [],r,σ,h=>by cases h;exact AMono.refl _
 | o::l,r,σ,h=>by
  simp only [aOps,Zab] at h;split at h
  ·split at h
   ·rename_i v σ1 hst;split at h
    ·exact (Zcq hc hst).trans (Zf0 hc l _ _ h)
    ·cases h
   ·cases h
  ·split at h
   ·exact Zf0 hc l _ _ h
   ·cases h
end steps
structure Agree (F:List Nat) (σ S:AS):Prop where
 next:S.next=σ.next
 low:S.low=σ.low
 get:∀x∈F,S.get x=σ.get x
structure Moves (F:List Nat) (σ s1 S S1:AS):Prop where
 next:S1.next=s1.next
 low:S1.low=s1.low
 foot:∀x∈F,S1.get x=s1.get x
 made:∀x,σ.next≤x→x<s1.next→S1.get x=s1.get x
 rest:∀x,x∉F.take 1→x<σ.next→s1.get x=σ.get x∧S1.get x=S.get x
section
variable {P:Program} {G:Nat} {callf:FuncId→List Value→AS→Option (Value×AS)} {F:List Nat} {σ s1 S:AS} {r:Regs}
theorem Moves.refl (h:Agree F σ S):Moves F σ σ S S:=⟨h.next,h.low,h.get,fun x h1 h2=>by omega,fun _ _ _=>⟨rfl,rfl⟩⟩
theorem ZcT {F:List Nat} {i:Nat} (hi:F.head?=some i):i∈F∧i∈F.take 1:=by
 cases F with
 | nil=>cases hi
 | cons a l=>cases hi;simp
theorem Moves.put (h:Agree F σ S) {i:Nat} (hi:F.head?=some i) (b:Blk):Moves F σ (σ.put i b) S (S.put i b) where
 next:=h.next
 low:=by show Nat.min S.low i=Nat.min σ.low i;rw [h.low]
 foot x hx:=by rw [AS.get_put,AS.get_put,h.get x hx]
 made x h1 h2:=by have:(σ.put i b).next=σ.next:=rfl;omega
 rest x hx hlt:=by
  have hne:¬i=x:=fun e=>hx (e▸(ZcT hi).2);rw [AS.get_put,AS.get_put,if_neg hne,if_neg hne];exact ⟨rfl,rfl⟩
theorem Moves.new (h:Agree F σ S) (b:Blk):Moves F σ (σ.new b) S (S.new b) where
 next:=by show S.next+1=σ.next+1;rw [h.next]
 low:=h.low
 foot x hx:=by rw [AS.get_new,AS.get_new,h.get x hx,h.next]
 made x h1 h2:=by
  have:(σ.new b).next=σ.next+1:=rfl;have hx:σ.next=x:=by omega
  rw [AS.get_new,AS.get_new,h.next,if_pos hx,if_pos hx]
 rest x hx hlt:=by
  rw [AS.get_new,AS.get_new,h.next,if_neg (by omega),if_neg (by omega)]
  exact ⟨rfl,rfl⟩
theorem Moves.putNew (h:Agree F σ S) {i:Nat} (hi:F.head?=some i) (d b:Blk):Moves F σ ((σ.put i d).new b) S ((S.put i d).new b) where
 next:=by show S.next+1=σ.next+1;rw [h.next]
 low:=by show Nat.min S.low i=Nat.min σ.low i;rw [h.low]
 foot x hx:=by
  rw [AS.get_new,AS.get_new,AS.get_put,AS.get_put,h.get x hx];have e1:(S.put i d).next=S.next:=rfl;have e2:(σ.put i d).next=σ.next:=rfl;rw [e1,e2,h.next]
 made x h1 h2:=by
  have:((σ.put i d).new b).next=σ.next+1:=rfl;have hx:σ.next=x:=by omega
  have e1:(S.put i d).next=S.next:=rfl;have e2:(σ.put i d).next=σ.next:=rfl;rw [AS.get_new,AS.get_new,e1,e2,h.next,if_pos hx,if_pos hx]
 rest x hx hlt:=by
  have hne:¬i=x:=fun e=>hx (e▸(ZcT hi).2);have e1:(S.put i d).next=S.next:=rfl;have e2:(σ.put i d).next=σ.next:=rfl;rw [AS.get_new,AS.get_new,e1,e2,h.next,if_neg (by omega),if_neg (by omega),AS.get_put,AS.get_put,if_neg hne,if_neg hne]
  exact ⟨rfl,rfl⟩
theorem ZgL (h:Agree F σ S) {a:Addr} (ha:a.block∈F) (n:Nat):Zav S a n=Zav σ a n:=by
 unfold Zav;rw [h.get _ ha]
theorem ZcV (h:Agree F σ S) {a:Addr} (ha:a.block∈F) (n:Nat):Zcx S a n=Zcx σ a n:=by
 unfold Zcx;rw [ZgL h ha]
theorem Zdj (h:Agree F σ S) {a:Addr} (ha:F.head?=some a.block) {cs:List Value} (hw:Zbc σ a cs=some s1):∃S1,Zbc S a cs=some S1∧Moves F σ s1 S S1:=by
 unfold Zbc at hw ⊢;rw [h.get _ (ZcT ha).1];split at hw
 ·rename_i hc;rw [if_pos hc];cases cs with
  | nil=>cases hw;exact ⟨_,rfl,Moves.refl h⟩
  | cons c0 cs0=>
  cases hw;exact ⟨_,rfl,Moves.put h ha _⟩
 ·cases hw
theorem ZfV (h:Agree F σ S) {a:Addr} (ha:F.head?=some a.block) {cs:List Value} (hw:Zb4 σ a cs=some s1):∃S1,Zb4 S a cs=some S1∧Moves F σ s1 S S1:=by
 unfold Zb4 at hw ⊢;split at hw
 ·exact Zdj h ha hw
 ·cases cs with
  | nil=>cases hw;exact ⟨_,rfl,Moves.refl h⟩
  | cons=>cases hw
theorem ZkK {t:TypeId} {x p:Value} (h:Agree F σ S) (hp:∀a,p=.pointer (some a)→F.head?=some a.block) (hs:ZaK P σ t x p=some s1) :
  ∃S1,ZaK P S t x p=some S1∧Moves F σ s1 S S1:=by
 unfold ZaK at hs ⊢;split at hs
 ·rename_i a;split at hs
  ·cases hs
  ·rename_i i hi;split at hs
   ·rename_i hc;rw [if_pos hc];exact Zdj h (hp a rfl) hs
   ·cases hs
 ·cases hs
theorem Zjt (h:Agree F σ S) {zeros:Bool} {inf:TypeInfo} {x:Value} (hx:∀a n c,x=.slice (some a) n c→a.block∈F):Zbd P S zeros inf x=Zbd P σ zeros inf x:=by
 unfold Zbd;cases zeros with
 | true=>rfl
 | false=>
  cases x with
  | slice b n c=>
   cases b with
   | none=>rfl
   | some a=>simp only [ZcV h (hx a n c rfl)]
  | chan r=>cases r<;>rfl
  | _=>rfl
theorem ZkO (h:Agree F σ S) {size n:Nat} {b:Option Addr} (hb:∀a,b=some a→a.block∈F):Zd8 S size n b=Zd8 σ size n b:=by
 cases b with
 | none=>rfl
 | some a=>exact ZcV h (hb a rfl) _
theorem ZjC {at_:Array TypeId} {s x v:Value} (h:Agree F σ S) (hs:∀a n c,s=.slice (some a) n c→F.head?=some a.block) (hx:∀a n c,x=.slice (some a) n c→a.block∈F)
  (ha:ZaU P σ at_ s x=some (v,s1)):∃S1,ZaU P S at_ s x=some (v,S1)∧Moves F σ s1 S S1:=by
 unfold ZaU at ha ⊢;split at ha
 ·rename_i st xt base sLen sCap h0 h1;split at ha
  ·rename_i elem xd hst hxt;split at ha
   ·rename_i inf hi;split at ha
    ·rename_i z hz;split at ha
     ·cases ha
     ·rename_i hchk;split at ha
      ·rename_i n new hsrc;simp only [Zjt h hx,if_neg hchk,hsrc];dsimp only at ha;split at ha
       ·cases ha
       ·rename_i hchk2;rw [if_neg hchk2];split at ha
        ·rename_i hop;rw [if_pos hop];split at ha
         ·rename_i a;have hF:=hs a sLen sCap rfl;rw [h.get _ (ZcT hF).1];split at ha
          ·cases ha
          ·rename_i hk;rw [if_neg hk];split at ha
           ·rename_i hn;rw [if_pos hn];split at ha
            ·rename_i σ1 hw;cases ha;obtain ⟨S1,e1,e2⟩:=Zdj (F:=F) (a:={ a with off:=a.off+sLen*inf.size }) h hF hw
             rw [e1];exact ⟨S1,rfl,e2⟩
            ·cases ha
           ·rename_i hn;rw [if_neg hn];split at ha
            ·rename_i hc;rw [if_pos hc,h.next];cases ha;exact ⟨_,rfl,Moves.putNew h hF _ _⟩
            ·cases ha
         ·cases ha
        ·rename_i hop;rw [if_neg hop];split at ha
         ·rename_i hn;rw [if_pos hn];split at ha
          ·rename_i a;have hF:=hs a sLen sCap rfl;split at ha
           ·rename_i σ1 hw;cases ha;obtain ⟨S1,e1,e2⟩:=ZfV (F:=F) (a:={ a with off:=a.off+sLen*inf.size }) h hF hw
            rw [e1];exact ⟨S1,rfl,e2⟩
           ·cases ha
          ·split at ha
           ·rename_i hn0;cases ha;rw [if_pos hn0];exact ⟨S,rfl,Moves.refl h⟩
           ·cases ha
         ·rename_i hn;rw [if_neg hn,ZkO h fun a e=>(ZcT (hs a sLen sCap (by rw [e]))).1]
          split at ha
          ·rename_i old hold
           try rw [hold]
           try dsimp only
           split at ha
           ·rename_i hl;rw [if_pos hl,h.next];cases ha;exact ⟨_,rfl,Moves.new h _⟩
           ·cases ha
          ·cases ha
      ·cases ha
    ·cases ha
   ·cases ha
  ·cases ha
 ·cases ha
noncomputable def fpV:Value→List Nat
 | .pointer (some a)=>[a.block]
 | .slice (some a) _ _=>[a.block]
 | .map (some r)=>[r]
 | _=>[]
theorem ZrH {p:Value} {a:Addr} (e:p=.pointer (some a)):fpV p=[a.block]:=by rw [e];rfl
theorem Zep {p:Value} {a:Addr} {n c:Nat} (e:p=.slice (some a) n c):fpV p=[a.block]:=by rw [e];rfl
theorem ZhG {p:Value} {r:Nat} (e:p=.map (some r)):fpV p=[r]:=by rw [e];rfl
theorem Zh0 {t:TypeId} {p:Value} (h:Agree F σ S) (hp:∀x∈fpV p,x∈F):Zat P S t p=Zat P σ t p:=by
 unfold Zat;split
 ·rename_i a;have ha:a.block∈F:=hp _ (by simp [fpV])
  simp only [ZgL h ha]
 ·rfl
theorem Zl3 {m:Value} (h:Agree F σ S) (hp:∀x∈fpV m,x∈F):ZnI S m=ZnI σ m:=by
 unfold ZnI;split
 ·rfl
 ·rename_i b;rw [h.get _ (hp _ (by simp [fpV]))]
 ·rfl
theorem Zf3 {t:TypeId} {m k:Value} {ok:Bool} (h:Agree F σ S) (hp:∀x∈fpV m,x∈F):ZbX P S t m k ok=ZbX P σ t m k ok:=by
 unfold ZbX;simp only [Zl3 h hp]
theorem ZnH {t:TypeId} {x:Value} (h:Agree F σ S) (hp:∀i∈fpV x,i∈F):aLen P S t x=aLen P σ t x:=by
 unfold aLen;split<;>try rfl
 rename_i b _;rw [h.get _ (hp _ (by simp [fpV]))]
theorem ZkM {t:TypeId} {x:Value} {lo hi mx:Option Value} (h:Agree F σ S) (hp:∀i∈fpV x,i∈F):Zbv P S t x lo hi mx=Zbv P σ t x lo hi mx:=by
 unfold Zbv;split<;>try rfl
 rename_i elem base len cap hu;cases P.info? elem with
 | none=>rfl
 | some inf=>
  dsimp only;cases base with
  | none=>rfl
  | some a=>
   have ha:a.block∈F:=hp _ (by simp [fpV])
   dsimp only;rw [h.get _ ha]
theorem ZkZ {x:Value} (h:Agree F σ S) (hp:∀i∈fpV x,i∈F):ZiO S x=ZiO σ x:=by
 unfold ZiO;split
 ·rename_i a n c;rw [ZcV h (hp _ (by simp [fpV]))]
 ·rfl
theorem ZfX {t:TypeId} {m k v:Value} (h:Agree F σ S) (hp:∀b,m=.map (some b)→F.head?=some b) (hu:Zce P σ t m k v=some s1) :
  ∃S1,Zce P S t m k v=some S1∧Moves F σ s1 S S1:=by
 unfold Zce at hu ⊢;split at hu
 ·rename_i key elem b ht;have hb:=hp b rfl;rw [h.get _ (ZcT hb).1];split at hu
  ·rename_i d hd;split at hu
   ·rename_i hk
    try simp only []
    rw [if_pos hk];split at hu
    ·rename_i i u hf;cases hu;exact ⟨_,rfl,Moves.put h hb _⟩
    ·rename_i hf;cases hu;exact ⟨_,rfl,Moves.put h hb _⟩
    ·cases hu
   ·cases hu
  ·cases hu
 ·cases hu
theorem ZkR {t:TypeId} {m k v:Value} (h:Agree F σ S) (hp:∀b,m=.map (some b)→F.head?=some b) (hu:ZgJ P σ t m k=some (v,s1)) :
  ∃S1,ZgJ P S t m k=some (v,S1)∧Moves F σ s1 S S1:=by
 unfold ZgJ at hu ⊢;split at hu
 ·rename_i key elem b ht;have hb:=hp b rfl;rw [h.get _ (ZcT hb).1];split at hu
  ·rename_i d hd;split at hu
   ·rename_i hk
    try simp only []
    rw [if_pos hk];split at hu
    ·rename_i i u hf;split at hu
     ·rename_i s hs;split at hu
      ·rename_i e he;cases hu
       try simp only []
       exact ⟨_,rfl,Moves.put h hb _⟩
      ·cases hu
     ·cases hu
    ·rename_i hf;split at hu
     ·rename_i inf hi;split at hu
      ·rename_i z hz;split at hu
       ·rename_i hfl;cases hu;simp only [hfl,if_true];exact ⟨_,rfl,Moves.put h hb _⟩
       ·cases hu
      ·cases hu
     ·cases hu
    ·cases hu
   ·cases hu
  ·cases hu
 ·cases hu
theorem Zgs {m s v:Value} (h:Agree F σ S) (hp:∀b,m=.map (some b)→F.head?=some b) (hu:Zb6 σ m s v=some s1) :
  ∃S1,Zb6 S m s v=some S1∧Moves F σ s1 S S1:=by
 unfold Zb6 at hu ⊢;split at hu
 ·rename_i b _ z;have hb:=hp b rfl;dsimp only;rw [h.get _ (ZcT hb).1];split at hu
  ·rename_i hk;rw [if_pos hk];split at hu
   ·rename_i i hi;split at hu
    ·rename_i e he;cases hu
     try simp only []
     exact ⟨_,rfl,Moves.put h hb _⟩
    ·cases hu
   ·cases hu
  ·cases hu
 ·cases hu
theorem Zjx {t:TypeId} {m k:Value} (h:Agree F σ S) (hp:∀b,m=.map (some b)→F.head?=some b) (hu:ZcQ P σ t m k=some s1) :
  ∃S1,ZcQ P S t m k=some S1∧Moves F σ s1 S S1:=by
 unfold ZcQ at hu ⊢;split at hu
 ·rename_i key elem b ht;have hb:=hp b rfl;rw [h.get _ (ZcT hb).1];split at hu
  ·rename_i d hd;split at hu
   ·rename_i hk
    try simp only []
    rw [if_pos hk];split at hu
    ·rename_i i u hf;cases hu;exact ⟨_,rfl,Moves.put h hb _⟩
    ·rename_i hf;cases hu;exact ⟨_,rfl,Moves.refl h⟩
    ·cases hu
   ·cases hu
  ·cases hu
 ·rename_i key elem ht;split at hu
  ·rename_i d hd;split at hu
   ·rename_i hk;cases hu
    try simp only [ht,hd]
    rw [if_pos hk];exact ⟨_,rfl,Moves.refl h⟩
   ·cases hu
  ·cases hu
 ·cases hu
theorem ZkX {t:TypeId} {x:Value} (h:Agree F σ S) (hp:∀a n c,x=.slice (some a) n c→F.head?=some a.block) (hu:Ze4 P σ t x=some s1) :
  ∃S1,Ze4 P S t x=some S1∧Moves F σ s1 S S1:=by
 unfold Ze4 at hu ⊢;split at hu
 ·rename_i ht;cases hu;exact ⟨_,rfl,Moves.refl h⟩
 ·rename_i elem a n c ht;split at hu
  ·rename_i hn;cases hu;rw [if_pos hn];exact ⟨_,rfl,Moves.refl h⟩
  ·rename_i hn;rw [if_neg hn];split at hu
   ·rename_i inf hi;split at hu
    ·rename_i z hz;split at hu
     ·rename_i hf
      try simp only [hi,hz]
      rw [if_pos hf];exact Zdj h (hp a n c rfl) hu
     ·cases hu
    ·cases hu
   ·cases hu
 ·cases hu
theorem Zds {base:Option Addr} {v:Value} {n:Nat} {cs:List Value} (h:Agree F σ S) (hs:∀a,base=some a→F.head?=some a.block)
  (hc:(match (generalizing:=false) base with
   | some a=>match Zb4 σ a cs with
    | some σ'=>some (goInt n,σ')
    | none=>none
   | none=>some (goInt n,σ):Option (Value×AS))=some (v,s1)):∃S1,(match (generalizing:=false) base with
   | some a=>match Zb4 S a cs with
    | some σ'=>some (goInt n,σ')
    | none=>none
   | none=>some (goInt n,S):Option (Value×AS))=some (v,S1)∧Moves F σ s1 S S1:=by
 cases base with
 | none=>cases hc;exact ⟨S,rfl,Moves.refl h⟩
 | some a=>
  dsimp only at hc ⊢;cases hw:Zb4 σ a cs with
  | none=>rw [hw] at hc;cases hc
  | some σ1=>
   rw [hw] at hc;cases hc;obtain ⟨S1,e1,e2⟩:=ZfV h (hs a rfl) hw;exact ⟨S1,by rw [e1],e2⟩
theorem ZkU {at_:Array TypeId} {s x v:Value} (h:Agree F σ S) (hs:∀a n c,s=.slice (some a) n c→F.head?=some a.block) (hx:∀a n c,x=.slice (some a) n c→a.block∈F)
  (hc:ZgK P σ at_ s x=some (v,s1)):∃S1,ZgK P S at_ s x=some (v,S1)∧Moves F σ s1 S S1:=by
 unfold ZgK at hc ⊢;cases h0:at_[0]? with
 | none=>rw [h0] at hc;cases hc
 | some dt=>
  rw [h0] at hc;cases s<;>try (cases hc;done)
  rename_i base dLen dc;have hs':∀a,base=some a→F.head?=some a.block:=fun a e=>hs a dLen dc (by rw [e])
  dsimp only at hc ⊢;cases hd:P.underlying dt with
  | none=>rw [hd] at hc;cases hc
  | some d=>
   rw [hd] at hc;cases d<;>try (cases hc;done)
   rename_i elem;dsimp only at hc ⊢;cases hi:P.info? elem with
   | none=>rw [hi] at hc;cases hc
   | some inf=>
    rw [hi] at hc;dsimp only at hc ⊢;cases x<;>try (cases hc;done)
    case string str=>
     dsimp only at hc ⊢;split at hc
     ·rename_i hsz
      try rw [if_pos hsz]
      exact Zds h hs' hc
     ·cases hc
    case slice b m c=>
     cases b with
     | none=>exact Zds h hs' hc
     | some a=>
      dsimp only at hc ⊢;rw [ZcV h (hx a m c rfl)];cases hcs:Zcx σ a (Nat.min m dLen*inf.size) with
      | none=>rw [hcs] at hc;cases hc
      | some cs=>rw [hcs] at hc;exact Zds h hs' hc
theorem Zl6 {at_:Array TypeId} {s x v:Value} (h:Agree F σ S) (hs:∀a n c,s=.slice (some a) n c→F.head?=some a.block) (hx:∀a n c,x=.slice (some a) n c→a.block∈F)
  (hc:ZkV P σ at_ s x=some (v,s1)):∃S1,ZkV P S at_ s x=some (v,S1)∧Moves F σ s1 S S1:=by
 unfold ZkV at hc ⊢;split at hc
 ·rename_i hv;rw [if_pos hv];split at hc
  ·split at hc
   ·split at hc
    ·cases hc;exact ⟨S,by simp only [*],Moves.refl h⟩
    ·cases hc
   ·cases hc
  ·cases hc
 ·rename_i hv;rw [if_neg hv];exact ZkU h hs hx hc
theorem ZgQ {t:TypeId} {l c v:Value} (h:Agree F σ S) (hm:ZbM P σ t l c=some (v,s1)):∃S1,ZbM P S t l c=some (v,S1)∧Moves F σ s1 S S1:=by
 unfold ZbM at hm ⊢;split at hm
 ·rename_i elem k1 l k2 c ht;split at hm
  ·rename_i inf hi;split at hm
   ·rename_i z hz;split at hm
    ·rename_i hc;cases hm
     try simp only [hi,hz]
     rw [if_pos hc,h.next];exact ⟨_,rfl,Moves.new h _⟩
    ·cases hm
   ·cases hm
  ·cases hm
 ·cases hm
theorem Zgu {t:TypeId} {n:Nat} {ps:List (Nat×Value)} {v:Value} (h:Agree F σ S) (hm:Zaz P σ t n ps=some (v,s1)) :
  ∃S1,Zaz P S t n ps=some (v,S1)∧Moves F σ s1 S S1:=by
 unfold Zaz at hm ⊢;split at hm
 ·rename_i elem ht;split at hm
  ·rename_i inf hi;split at hm
   ·rename_i hc;split at hm
    ·rename_i zero hz;split at hm
     ·rename_i cells hf;cases hm
      try simp only [hi]
      rw [if_pos hc]
      try simp only [h.next]
      exact ⟨_,rfl,Moves.new h _⟩
     ·cases hm
    ·cases hm
   ·cases hm
  ·cases hm
 ·cases hm
theorem Zdg {x:Value} {l:List Value} {i:Nat} (hi:(fpV x).head?=some i):((x::l).flatMap fpV).head?=some i:=by
 rw [List.flatMap_cons];cases hx:fpV x with
 | nil=>rw [hx] at hi;cases hi
 | cons a t=>rw [hx] at hi;simpa using hi
theorem Zif {b:Builtin} {at_:Array TypeId} {args:List Value} {v:Value} (h:Agree (args.flatMap fpV) σ S) (hb:Zaf P σ b at_ args=some (v,s1)) :
  ∃S1,Zaf P S b at_ args=some (v,S1)∧Moves (args.flatMap fpV) σ s1 S S1:=by
 unfold Zaf at hb ⊢;split at hb
 ·rename_i x;split at hb
  ·rename_i t ht;split at hb
   ·rename_i u hu;cases hb
    try simp only [ht]
    rw [ZnH h (fun i hi=>by simpa using hi)]
    try rw [hu]
    exact ⟨S,rfl,Moves.refl h⟩
   ·cases hb
  ·cases hb
 ·rename_i x;split at hb
  ·rename_i t ht;split at hb
   ·rename_i u hu;cases hb
    try simp only [ht,hu]
    exact ⟨S,rfl,Moves.refl h⟩
   ·cases hb
  ·cases hb
 ·rename_i s x;exact ZjC h (fun a n c e=>Zdg (by rw [Zep e];rfl)) (fun a n c e=>by simp [Zep e]) hb
 ·rename_i d s;exact Zl6 h (fun a n c e=>Zdg (by rw [Zep e];rfl)) (fun a n c e=>by simp [Zep e]) hb
 ·rename_i m k;split at hb
  ·rename_i t ht;split at hb
   ·rename_i σ1 hd;cases hb;obtain ⟨S1,e1,e2⟩:=Zjx h (fun b e=>Zdg (by rw [ZhG e];rfl)) hd
    try simp only [ht]
    rw [e1];exact ⟨S1,rfl,e2⟩
   ·cases hb
  ·cases hb
 ·rename_i x;split at hb
  ·rename_i t ht;split at hb
   ·rename_i σ1 hd;cases hb;obtain ⟨S1,e1,e2⟩:=ZkX h (fun a n c e=>Zdg (by rw [Zep e];rfl)) hd
    try simp only [ht]
    rw [e1];exact ⟨S1,rfl,e2⟩
   ·cases hb
  ·cases hb
 ·split at hb
  ·rename_i u hu;cases hb
   try simp only [hu]
   exact ⟨S,rfl,Moves.refl h⟩
  ·cases hb
 ·split at hb
  ·rename_i u hu;cases hb
   try simp only [hu]
   exact ⟨S,rfl,Moves.refl h⟩
  ·cases hb
 ·cases hb
theorem ZgM {ts:Array TypeId} {vs:List Value} {v:Value} (h:Zaf P σ .len ts vs=some (v,s1)):s1=σ∧∃x t,vs=[x]∧ts[0]?=some t∧aLen P σ t x=some v:=by
 cases vs with
 | nil=>cases h
 | cons x l=>
  cases l with
  | cons y l=>cases h
  | nil=>
   simp only [Zaf] at h;cases ht:ts[0]? with
   | none=>rw [ht] at h;cases h
   | some t=>
    rw [ht] at h;dsimp only at h;cases hl:aLen P σ t x with
    | none=>rw [hl] at h;cases h
    | some u=>
     rw [hl] at h;cases h;exact ⟨rfl,x,t,rfl,rfl,hl⟩
noncomputable def ZhS (P:Program) (c:Call):Bool:=match c.callee with
 | .builtin .len=>match c.argTypes[0]? with
  | some t=>match P.underlying t with
   | some (.slice _)|some .string|some (.array _ _)=>true
   | _=>false
  | none=>false
 | _=>false
noncomputable def Zc1 (P:Program):Op→Bool
 | .call c=>ZhS P c
 | .move _ | .assign _ | .pick .. | .nilCheck _ | .fieldAddr .. | .field .. | .indexAddr .. | .index .. | .binOp .. | .unOp .. | .extract .. | .makeInterface .. | .makeFunc .. | .build ..=>true
 | .convert s d _=>!Zgg P s d
 | _=>false
noncomputable def fpO:Option Value→Option (List Nat)
 | some v=>some (fpV v)
 | none=>none
noncomputable def fpOf (P:Program) (G:Nat) (r:Regs) (op:Op):Option (List Nat):=
 match op with
 | .alloc _=>some []
 | .box _ _=>some []
 | .makeMap _ _=>some []
 | .makeSlice _ _ _=>some []
 | .buildSlice _ _ _=>some []
 | .load _ a=>fpO (aev G r a)
 | .lookup _ x _ _=>fpO (aev G r x)
 | .slice _ x _ _ _=>fpO (aev G r x)
 | .store _ a _=>fpO (aev G r a)
 | .mapUpdate _ m _ _=>fpO (aev G r m)
 | .insert _ m _ _=>fpO (aev G r m)
 | .mapEntry _ m _=>fpO (aev G r m)
 | .entryStore _ m _ _=>fpO (aev G r m)
 | .convert s d x=>if Zgg P s d then fpO (aev G r x) else some []
 | .call c=>match c.callee with
  | .builtin _=>match aevs G r c.args.toList with
   | some vs=>some (vs.flatMap fpV)
   | none=>none
  | _=>none
 | op=>if Zc1 P op then some [] else none
theorem ZbB {o:Option Value} {v:Value} (h:Agree F σ S) (ha:ann σ o=some (v,s1)):∃S1,ann S o=some (v,S1)∧Moves F σ s1 S S1:=by
 obtain ⟨h1,rfl⟩:=ZaT ha;exact ⟨S,by rw [h1];rfl,Moves.refl h⟩
theorem Zfs {o o':Option AS} {v:Value} (h:∀σ1,o=some σ1→∃S1,o'=some S1∧Moves F σ σ1 S S1) (ha:unn o=some (v,s1)):∃S1,unn o'=some (v,S1)∧Moves F σ s1 S S1:=by
 obtain ⟨h1,rfl⟩:=ZcS ha;obtain ⟨S1,e1,e2⟩:=h _ h1;exact ⟨S1,by rw [e1];rfl,e2⟩
theorem Zb9 {o:Option Value} {v:Value} (ho:o=some v) (hf:fpO o=some F):F=fpV v:=by
 rw [ho] at hf;exact (Option.some.inj hf).symm
theorem Zix {op:Op} {v:Value} (hf:fpOf P G r op=some F) (ha:Zb5 P G callf r σ op=some (v,s1)) (h:Agree F σ S):∃S1,Zb5 P G callf r S op=some (v,S1)∧Moves F σ s1 S S1:=by
 cases op<;>simp only [fpOf,Zc1] at hf<;>(try (simp at hf;done))<;>simp only [aStep_eq,aStepOld,aOp,ZaH,Zcl,Zbm,Zbl,Zar,Zag,ZaE,Zbo,Zah,opUn,Zct,Zfc,Zd4,ZjY,ZbN,ZbE,Zac,Zfd,Zae,Zfb,Zba,ZbG,Zhm,ZcH,Zbb,Zan] at ha ⊢
 case move x=>exact ZbB h ha
 case assign x=>exact ZbB h ha
 case pick c x y=>
  split at ha
  ·cases ha;exact ⟨S,rfl,Moves.refl h⟩
  ·cases ha
 case alloc elem=>
  split at ha
  ·split at ha
   ·split at ha
    ·rename_i hz;cases ha;rw [if_pos hz,h.next];exact ⟨_,rfl,Moves.new h _⟩
    ·cases ha
   ·cases ha
  ·cases ha
 case box elem x=>
  split at ha
  ·cases ha;rw [h.next];exact ⟨_,rfl,Moves.new h _⟩
  ·cases ha
 case build t parts=>
  split at ha
  ·exact ZbB h ha
  ·cases ha
 case buildSlice t n parts=>
  split at ha
  ·exact Zgu h ha
  ·cases ha
 case insert t m k x=>
  split at ha
  ·rename_i u1 u2 u3 h1 h2 h3;obtain rfl:=Zb9 h1 hf;exact Zfs (fun σ1 hu=>ZfX h (fun b e=>by rw [ZhG e];rfl) hu) ha
  ·cases ha
 case load t x=>
  split at ha
  ·rename_i u hu;obtain rfl:=Zb9 hu hf;rw [Zh0 h fun x hx=>hx];exact ZbB h ha
  ·cases ha
 case store t a x=>
  split at ha
  ·rename_i p u hp hu;obtain rfl:=Zb9 hp hf;exact Zfs (fun σ1 hs=>ZkK h (fun a e=>by rw [ZrH e];rfl) hs) ha
  ·cases ha
 case nilCheck x=>
  split at ha
  ·cases ha;exact ⟨S,rfl,Moves.refl h⟩
  ·cases ha;exact ⟨S,rfl,Moves.refl h⟩
  ·cases ha;exact ⟨S,rfl,Moves.refl h⟩
  ·cases ha
 case binOp op t x y yt=>
  split at ha
  ·exact ZbB h ha
  ·cases ha
 case unOp op t x=>
  split at ha
  ·split at ha
   ·rename_i hfl;rw [if_pos hfl];exact ZbB h ha
   ·cases ha
  ·cases ha
 case convert s d x=>
  split at ha
  ·rename_i u hu;split at ha
   ·rename_i hfl;rw [if_pos hfl];exact ZbB h ha
   ·rename_i hfl;rw [if_neg hfl];split at ha
    ·rename_i hb;rw [if_pos hb] at hf ⊢;obtain rfl:=Zb9 hu hf;rw [ZkZ h fun x hx=>hx];exact ZbB h ha
    ·cases ha
  ·cases ha
 case makeInterface t x=>
  split at ha
  ·cases ha
  ·cases ha;exact ⟨S,rfl,Moves.refl h⟩
  ·cases ha
 case makeFunc fn first captured=>
  split at ha
  ·cases ha;exact ⟨S,rfl,Moves.refl h⟩
  ·cases ha
 case makeMap t x=>
  cases x with
  | none=>
   cases ha;simp only [h.next];exact ⟨_,rfl,Moves.new h _⟩
  | some x=>
   simp only [] at ha ⊢;split at ha
   ·cases ha;simp only [h.next];exact ⟨_,rfl,Moves.new h _⟩
   ·cases ha
 case makeSlice t l c=>
  split at ha
  ·exact ZgQ h ha
  ·cases ha
 case slice t x lo hi mx=>
  split at ha
  ·rename_i u1 u2 u3 u4 h1 h2 h3 h4;obtain rfl:=Zb9 h1 hf;rw [ZkM h fun x hx=>hx];exact ZbB h ha
  ·cases ha
 case fieldAddr s x f=>
  split at ha
  ·exact ZbB h ha
  ·cases ha
 case field t x f=>
  split at ha
  ·exact ZbB h ha
  ·cases ha
 case indexAddr t x ix=>
  split at ha
  ·exact ZbB h ha
  ·cases ha
 case index t x ix=>
  split at ha
  ·exact ZbB h ha
  ·cases ha
 case lookup t x ix ok=>
  split at ha
  ·rename_i u1 u2 h1 h2;obtain rfl:=Zb9 h1 hf;rw [Zf3 h fun x hx=>hx];exact ZbB h ha
  ·cases ha
 case mapUpdate t m k x=>
  split at ha
  ·rename_i u1 u2 u3 h1 h2 h3;obtain rfl:=Zb9 h1 hf;exact Zfs (fun σ1 hu=>ZfX h (fun b e=>by rw [ZhG e];rfl) hu) ha
  ·cases ha
 case mapEntry t m k=>
  split at ha
  ·rename_i u1 u2 h1 h2;obtain rfl:=Zb9 h1 hf;exact ZkR h (fun b e=>by rw [ZhG e];rfl) ha
  ·cases ha
 case entryStore t m s x=>
  split at ha
  ·rename_i u1 u2 u3 h1 h2 h3;obtain rfl:=Zb9 h1 hf;exact Zfs (fun σ1 hu=>Zgs h (fun b e=>by rw [ZhG e];rfl) hu) ha
  ·cases ha
 case extract t ix=>
  split at ha
  ·split at ha
   ·cases ha;exact ⟨S,rfl,Moves.refl h⟩
   ·cases ha
  ·cases ha
 case call c=>
  obtain ⟨callee,args,argTypes⟩:=c;cases callee with
  | builtin b=>
   simp only [] at ha hf ⊢;split at ha
   ·rename_i vs hvs;rw [hvs] at hf;obtain rfl:=Option.some.inj hf;exact Zif h ha
   ·cases ha
  | value f=>simp at hf
  | invoke x m=>simp at hf
end
noncomputable def bindsOn (o:Oper):List Nat:=(o.after.toList.filter (Region.binds .any)).map (·.on)
noncomputable def Zof:List Oper→List Nat→List Nat
 | [],acc=>acc
 | o::l,acc=>Zof l (acc++[(bindsOn o).foldl (fun s e=>s ||| 2^e ||| acc.getD e 0) 0])
noncomputable def Zbp (ops:Array Oper):List Nat:=Zof ops.toList []
noncomputable def Zbu (pb:List Nat) (k j:Nat):Bool:=(pb.getD k 0).testBit j
noncomputable def ZhT (P:Program) (ops:Array Oper) (j:Nat):Bool:=match ops[j]? with|some o=>Zc1 P o.op|none=>false
noncomputable def Zck:Op→Bool
 | .load .. | .lookup ..=>true
 | _=>false
noncomputable def Zrj:Op→Bool
 | .call c=>match c.callee with
  | .value _=>true
  | _=>false
 | _=>false
noncomputable def memb (sj:List Nat) (j:Nat):Bool:=sj.any (Nat.beq j)
noncomputable def ZbJ (P:Program) (ops:Array Oper) (sj:List Nat) (j:Nat):Bool:=ZhT P ops j||memb sj j
noncomputable def Zf9 (ops:Array Oper) (pb:List Nat) (N:Nat):List Nat:=
 (List.range N).filter fun j=>(match ops[j]? with|some o=>Zck o.op|none=>false) &&
  (List.range N).any fun k=>(match ops[k]? with|some o=>Zrj o.op|none=>false)&&!(Zbu pb k j)&&!(Zbu pb j k)
noncomputable def Zgl (ops:Array Oper) (pb:List Nat) (o:Oper) (k:Nat):Bool:=
 (bindsOn o).all (fun e=>Nat.blt e k) &&
 (match o.dst with|some t=>(ops.toList.take k).all (fun o'=>!(o'.dst == some t))|none=>true) &&
 (o.looksAt ops).all fun t=>ops.toList.zipIdx.all fun (o',j)=>!(o'.dst == some t)||Zbu pb k j||Zbu pb j k||j == k
noncomputable def Zdy (ops:Array Oper) (pb:List Nat):Bool:=ops.toList.zipIdx.all fun (o,k)=>Zgl ops pb o k
noncomputable def AS.reset (σ:AS):AS:=⟨σ.next,σ.next,σ.heap⟩
noncomputable def AS.merge (σ s1:AS):AS:=⟨s1.next,Nat.min σ.low s1.low,s1.heap⟩
noncomputable def vsc (n:Nat):Nat→Value→Bool
 | 0,_=>false
 | f+1,v=>match v with
  | .pointer (some a)=>Nat.blt a.block n
  | .slice (some a) _ _=>a.spot.isSome||Nat.blt a.block n
  | .map (some r)=>Nat.blt r n
  | .chan (some k)=>Nat.beq (k % 2) 0||Nat.blt k n
  | .func _ x c=>x.toList.all (vsc n f)&&c.toList.all (vsc n f)
  | .iface _ x=>vsc n f x
  | .agg cs=>cs.toList.all (vsc n f)
  | .tuple cs=>cs.toList.all (vsc n f)
  | _=>true
noncomputable def veqL (eq:Value→Value→Bool):List Value→List Value→Bool
 | [],[]=>true
 | a::l,b::m=>eq a b&&veqL eq l m
 | _,_=>false
noncomputable def veq:Nat→Value→Value→Bool
 | 0,_,_=>false
 | f+1,v,u=>match v,u with
  | .int k a,.int k' b=>decide (k=k')&&decide (a=b)
  | .bool a,.bool b=>a == b
  | .string a,.string b=>decide (a=b)
  | .pointer a,.pointer b=>decide (a=b)
  | .slice a l c,.slice b l' c'=>decide (a=b)&&Nat.beq l l'&&Nat.beq c c'
  | .map a,.map b=>decide (a=b)
  | .chan a,.chan b=>decide (a=b)
  | .nilFunc,.nilFunc=>true
  | .nilIface,.nilIface=>true
  | .func (.func g) x c,.func (.func g') x' c'=>Nat.beq g g'&&veqL (veq f) x.toList x'.toList&&veqL (veq f) c.toList c'.toList
  | .iface t x,.iface t' x'=>Nat.beq t t'&&veq f x x'
  | .agg x,.agg x'=>veqL (veq f) x.toList x'.toList
  | .tuple x,.tuple x'=>veqL (veq f) x.toList x'.toList
  | _,_=>false
structure Ent where
 s:AS
 r:Regs
 v:Value
 f:Bool
noncomputable def Zk9 (x:Option (Value×AS)) (v:Value):Bool:=match x with
 | some (u,_)=>veq 9 u v
 | none=>false
noncomputable def Zcj (L:List Ent) (σ:AS) (m:Nat):AS:=match L[m]? with
 | some e=>e.s
 | none=>σ
noncomputable def ZcR (P:Program) (G:Nat) (ops:Array Oper) (sj:List Nat) (L:List Ent) (j:Nat):Option (List Nat):=
 match ops[j]?,L[j]? with
 | some o,some e=>bite (ZbJ P ops sj j||!aWanted ops e.r o) (some []) (fpOf P G e.r o.op)
 | _,_=>none
noncomputable def Zih (L:List Ent) (k:Nat):Bool:=match L[k]? with|some e=>e.f|none=>false
noncomputable def ZmO (F:Option (List Nat)) (x:Nat):Bool:=match F with
 | some (y::_)=>Nat.beq y x
 | some []=>false
 | none=>true
noncomputable def wrAt (P:Program) (G:Nat) (ops:Array Oper) (sj:List Nat) (L:List Ent) (σ:AS) (q x:Nat):Bool:=
 Zih L q&&Nat.blt x (Zcj L σ q).next&&ZmO (ZcR P G ops sj L q) x
open Classical in
noncomputable def ZpA (L:List Ent) (σ:AS) (k j:Nat):Bool:=
 decide (∀x,(Zcj L σ j).next≤x→x<(Zcj L σ (j+1)).next→(Zcj L σ (k+1)).get x=(Zcj L σ k).get x)
noncomputable def ZdB (P:Program) (G:Nat) (ops:Array Oper) (sj:List Nat) (L:List Ent) (σ:AS) (k j:Nat):Bool:=
 match ZcR P G ops sj L k,ZcR P G ops sj L j with
 | some [],_=>true
 | some (x::_),some F=>!(memb F x)&&!(Nat.ble (Zcj L σ j).next x&&Nat.blt x (Zcj L σ (j+1)).next)
 | none,some []=>Nat.blt k j||(Nat.beq (Zcj L σ j).next (Zcj L σ (j+1)).next||ZpA L σ k j)
 | _,none=>false
 | none,some (_::_)=>false
noncomputable def Zlc (P:Program) (G:Nat) (ops:Array Oper) (pb:List Nat) (N:Nat) (sj:List Nat) (L:List Ent) (σ:AS):Bool:=
 (List.range N).all fun k=>!Zih L k||(List.range N).all fun j=>Nat.beq j k||Zbu pb k j||Zbu pb j k||ZdB P G ops sj L σ k j
noncomputable def Zin (P:Program) (G:Nat) (ops:Array Oper) (pb:List Nat) (N:Nat) (sj:List Nat) (L:List Ent) (σ:AS) (j m x:Nat):Bool:=
 Nat.ble (Zcj L σ m).next x ||
 (List.range N).any (fun q=>Zbu pb j q&&Nat.ble m q&&wrAt P G ops sj L σ q x) ||
 (List.range m).any (fun q=>Zbu pb q j&&wrAt P G ops sj L σ q x)
noncomputable def ZcE (P:Program) (G:Nat) (callf:FuncId→List Value→AS→Option (Value×AS)) (ops:Array Oper) (pb:List Nat) (N:Nat) (sj:List Nat) (L:List Ent) (σ:AS) (j:Nat):Bool:=
 match L[j]?,ops[j]? with
 | some e,some o=>Zck o.op&&(!aWanted ops e.r o||(vsc e.s.next 9 e.v&&(match fpOf P G e.r o.op with
   | some []=>true
   | some [x]=>(List.range (N+1)).all fun m=>Zin P G ops pb N sj L σ j m x||Zk9 (Zb5 P G callf e.r (Zcj L σ m).reset o.op) e.v
   | _=>false)))
 | _,_=>false
noncomputable def Zdz (P:Program) (G:Nat) (callf:FuncId→List Value→AS→Option (Value×AS)) (ops:Array Oper) (pb:List Nat) (N:Nat) (sj:List Nat) (L:List Ent) (σ:AS):Bool:=
 bite (L.any (·.f)) (Zlc P G ops pb N sj L σ) true&&sj.all (ZcE P G callf ops pb N sj L σ)
noncomputable def ZbQ (P:Program) (G:Nat) (callf:FuncId→List Value→AS→Option (Value×AS)) (n:Nat) (ops:Array Oper) (pb:List Nat) (N:Nat) (sj:List Nat):List Oper→Regs→AS→List Ent→Option (Regs×AS)
 | [],r,σ,acc=>bite (Zdz P G callf ops pb N sj acc.reverse σ) (some (r,σ)) none
 | o::l,r,σ,acc=>
  bite (aWanted ops r o)
   (match Zb5 P G callf r σ.reset o.op with
   | some (v,s1)=>match aPut n r o.dst v with
     | some r'=>ZbQ P G callf n ops pb N sj l r' (σ.merge s1) (⟨σ,r,v,!Nat.ble σ.next s1.low⟩::acc)
     | none=>none
   | none=>none)
   (match aPut n r o.dst undef with
   | some r'=>ZbQ P G callf n ops pb N sj l r' σ (⟨σ,r,undef,false⟩::acc)
   | none=>none)
noncomputable def Zid (P:Program) (G:Nat) (callf:FuncId→List Value→AS→Option (Value×AS)) (n:Nat) (ops:Array Oper) (r:Regs) (σ:AS):Option (Regs×AS):=
 if Zdy ops (Zbp ops) then ZbQ P G callf n ops (Zbp ops) ops.size (Zf9 ops (Zbp ops) ops.size) ops.toList r σ [] else none
theorem Zg7 {π:Ren} {n:Nat}:∀(f:Nat) (v v':Value) (k:Nat),vsc n f v=true→VRelN π k v v'→VRelN (π.below n) k v v'
 | 0,_,_,_,h,_=>by cases h
 | _+1,_,_,0,_,h=>h.elim
 | f+1,v,v',k+1,h,hv=>by
  have hl:∀(l l':List Value),l.all (vsc n f)=true→LRel (VRelN π k) l l'→LRel (VRelN (π.below n) k) l l':=by
   intro l
   induction l with
   | nil=>intro l' _ h;cases l' with|nil=>trivial|cons=>exact h.elim
   | cons a l ih=>
    intro l' h1 h2;cases l' with
    | nil=>exact h2.elim
    | cons b l'=>
     simp only [List.all_cons,Bool.and_eq_true] at h1;exact ⟨Zg7 f _ _ _ h1.1 h2.1,ih l' h1.2 h2.2⟩
  have hb:∀i b,Nat.blt i n=true→π.bl i=some b→(π.below n).bl i=some b:=fun i b h1 h2=>by
   rw [Nat.blt_eq] at h1;simp only [Ren.below];rw [if_pos h1];exact h2
  cases v
  case pointer a=>
   cases a with
   | none=>exact hv
   | some a=>obtain ⟨b,h1,h2,h3⟩:=hv;exact ⟨b,hb _ _ h h1,h2,h3⟩
  case slice a l c=>
   cases a with
   | none=>exact hv
   | some a=>
    have h:(a.spot.isSome||Nat.blt a.block n)=true:=h;rcases hv with ⟨b,c',h1,h2,h3,h4⟩|hv
    ·exact Or.inl ⟨b,c',hb _ _ (by rw [h2] at h;exact h) h1,h2,h3,h4⟩
    ·exact Or.inr hv
  case map a=>
   cases a with
   | none=>exact hv
   | some a=>obtain ⟨b,h1,h2⟩:=hv;exact ⟨b,hb _ _ h h1,h2⟩
  case chan a=>
   cases a with
   | none=>exact hv
   | some a=>
    have h:(Nat.beq (a % 2) 0||Nat.blt a n)=true:=h;rcases hv with hv|⟨x,c,l,z,b,c',h1,h2,h3⟩
    ·exact Or.inl hv
    ·obtain ⟨g1,g2⟩:=Znc x c l z;have hn:Nat.blt x.block n=true:=by
      rw [Nat.blt_eq];simp only [Bool.or_eq_true,Nat.beq_eq,Nat.blt_eq] at h;omega
     exact Or.inr ⟨x,c,l,z,b,c',h1,hb _ _ hn h2,h3⟩
  case func g x c=>
   obtain ⟨f',c',h1,h2,h3⟩:=hv;simp only [vsc,Bool.and_eq_true] at h;exact ⟨f',c',hl _ _ h.1 h1,hl _ _ h.2 h2,h3⟩
  case iface t x=>obtain ⟨x',h1,h2⟩:=hv;exact ⟨x',Zg7 f _ _ _ h h1,h2⟩
  case agg cs=>obtain ⟨x',h1,h2⟩:=hv;exact ⟨x',hl _ _ h h1,h2⟩
  case tuple cs=>obtain ⟨x',h1,h2⟩:=hv;exact ⟨x',hl _ _ h h1,h2⟩
  all_goals exact hv
theorem Zg9 {eq:Value→Value→Bool} (he:∀a b,eq a b=true→a=b):∀{l m:List Value},veqL eq l m=true→l=m
 | [],[],_=>rfl
 | a::l,b::m,h=>by
  simp only [veqL,Bool.and_eq_true] at h;rw [he _ _ h.1,Zg9 he h.2]
 | [],_::_,h=>by cases h
 | _::_,[],h=>by cases h
theorem Zgv:∀(f:Nat) (v u:Value),veq f v u=true→v=u
 | 0,_,_,h=>by cases h
 | f+1,v,u,h=>by
  have hl:∀x y:Array Value,veqL (veq f) x.toList y.toList=true→x=y:=fun x y h=>Array.toList_inj.1 (Zg9 (Zgv f) h);unfold veq at h;split at h
  ·simp only [Bool.and_eq_true,decide_eq_true_eq] at h;rw [h.1,h.2]
  ·rw [beq_iff_eq] at h;rw [h]
  ·simp only [decide_eq_true_eq] at h;rw [h]
  ·simp only [decide_eq_true_eq] at h;rw [h]
  ·simp only [Bool.and_eq_true,decide_eq_true_eq,Nat.beq_eq] at h;rw [h.1.1,h.1.2,h.2]
  ·simp only [decide_eq_true_eq] at h;rw [h]
  ·simp only [decide_eq_true_eq] at h;rw [h]
  ·rfl
  ·rfl
  ·simp only [Bool.and_eq_true,Nat.beq_eq] at h;rw [h.1.1,hl _ _ h.1.2,hl _ _ h.2]
  ·simp only [Bool.and_eq_true,Nat.beq_eq] at h;rw [h.1,Zgv f _ _ h.2]
  ·rw [hl _ _ h]
  ·rw [hl _ _ h]
  ·cases h
theorem ZgY {sj:List Nat} {k:Nat} (h:memb sj k=true):k∈sj:=by
 unfold memb at h;rw [List.any_eq_true] at h;obtain ⟨x,hx,h⟩:=h;rw [zK h];exact hx
theorem fold_bits (acc:List Nat):∀(l:List Nat) (s j:Nat),(l.foldl (fun s e=>s ||| 2^e ||| acc.getD e 0) s).testBit j=true→s.testBit j=true∨∃e∈l,j=e∨(acc.getD e 0).testBit j=true
 | [],s,j,h=>.inl h
 | e::l,s,j,h=>by
  simp only [List.foldl_cons] at h;rcases fold_bits acc l _ j h with h|⟨e',he,h⟩
  ·rw [Nat.testBit_or,Nat.testBit_or] at h;simp only [Bool.or_eq_true] at h;rcases h with (h|h)|h
   ·exact .inl h
   ·rw [Nat.testBit_two_pow] at h;exact .inr ⟨e,by simp,(.inl (of_decide_eq_true h).symm)⟩
   ·exact .inr ⟨e,by simp,.inr h⟩
  ·exact .inr ⟨e',by simp [he],h⟩
theorem Zhk {D:Nat→Prop} {all:List Oper} (hD:∀k o,all[k]?=some o→D k→∀e∈bindsOn o,D e):∀(l:List Oper) (acc:List Nat),(∀i,l[i]?=all[acc.length+i]?)→
  (∀k o,k<acc.length→all[k]?=some o→(∀e∈bindsOn o,D e)→∀j,(acc.getD k 0).testBit j=true→D j)→
  ∀k o,all[k]?=some o→k<acc.length+l.length→(∀e∈bindsOn o,D e)→∀j,((Zof l acc).getD k 0).testBit j=true→D j
 | [],acc,_,h,k,o,ho,hk,hb,j,hj=>h k o (by simpa using hk) ho hb j hj
 | x::l,acc,hl,h,k,o,ho,hk,hb,j,hj=>by
  refine Zhk hD l (acc++[(bindsOn x).foldl (fun s e=>s ||| 2^e ||| acc.getD e 0) 0]) ?_ ?_ k o ho (by simp at hk ⊢;omega) hb j hj
  ·intro i;have:=hl (i+1);simp only [List.getElem?_cons_succ] at this;rw [this];simp only [zS,List.length_cons,List.length_nil]
   congr 1;omega
  ·intro k o hk ho hb j hj;rcases Nat.lt_or_ge k acc.length with hlt|hge
   ·refine h k o hlt ho hb j ?_;simpa [List.getD,zN hlt] using hj
   ·have hke:k=acc.length:=by simp at hk;omega
    subst hke;have hx:x=o:=by
     have:=hl 0;simp only [List.getElem?_cons_zero,Nat.add_zero] at this;rw [ho] at this;exact Option.some.inj this
    subst hx;simp only [List.getD,zO (zA _),Nat.sub_self,List.getElem?_cons_zero,Option.getD_some] at hj;rcases fold_bits acc _ _ _ hj with h0|⟨e,he,h1⟩
    ·simp at h0
    ·rcases h1 with rfl|h1
     ·exact hb _ he
     ·rcases Nat.lt_or_ge e acc.length with hle|hgt
      ·cases hoe:all[e]? with
       | none=>
        exfalso
        have h2:=List.getElem?_eq_none_iff.1 hoe;have h3:=(zE.1 ho).1;omega
       | some oe=>exact h e oe hle hoe (hD e oe hoe (hb e he)) j h1
      ·simp [List.getD,zV hgt] at h1
theorem Zc5 {D:Nat→Prop} {ops:Array Oper} (hD:∀k o,ops.toList[k]?=some o→D k→∀e∈bindsOn o,D e) {k j:Nat} {o:Oper} (ho:ops.toList[k]?=some o)
  (hb:∀e∈bindsOn o,D e) (hj:Zbu (Zbp ops) k j=true):D j:=
 Zhk hD ops.toList [] (fun i=>by simp) (fun k o hk=>by simp at hk) k o ho (by simpa using (zE.1 ho).1) hb j hj
theorem Zig {α:Type} {l:List α} {f:α×Nat→Bool} (h:l.zipIdx.all f=true) {k:Nat} {o:α} (ho:l[k]?=some o):f (o,k)=true:=by
 rw [List.all_eq_true] at h;refine h (o,k) ?_;rw [List.mem_iff_getElem?];exact ⟨k,by simp [List.getElem?_zipIdx,ho]⟩
structure Static (ops:Array Oper):Prop where
 back:∀(k:Nat) (o:Oper),ops.toList[k]?=some o→∀e∈bindsOn o,e<k
 uniq:∀(k:Nat) (o:Oper) (j:Nat) (o':Oper) (t:Tmp),ops.toList[k]?=some o→ops.toList[j]?=some o'→o.dst=some t→o'.dst=some t→j=k
 reads:∀(k:Nat) (o:Oper) (t:Tmp) (j:Nat) (o':Oper),ops.toList[k]?=some o→t∈o.looksAt ops→ops.toList[j]?=some o'→o'.dst=some t→Zbu (Zbp ops) k j=true∨Zbu (Zbp ops) j k=true∨j=k
theorem Static.of {ops:Array Oper} (h:Zdy ops (Zbp ops)=true):Static ops:=by
 have one:∀k o,ops.toList[k]?=some o→Zgl ops (Zbp ops) o k=true:=fun k o ho=>Zig (f:=fun (o,k)=>Zgl ops (Zbp ops) o k) h ho;have uq:∀(k:Nat) (o:Oper) (j:Nat) (o':Oper) (t:Tmp),ops.toList[k]?=some o→ops.toList[j]?=some o'→o.dst=some t→o'.dst=some t→¬j<k:=by
  intro k o j o' t ho hj hd hd' hlt;have h1:=one k o ho;simp only [Zgl,Bool.and_eq_true] at h1;have h2:=h1.1.2;rw [hd] at h2;simp only [List.all_eq_true] at h2;have:=h2 o' (zF (i:=j) (by rw [List.getElem?_take_of_lt hlt];exact hj))
  simp [hd'] at this
 refine ⟨?_,?_,?_⟩
 ·intro k o ho e he;have h1:=one k o ho;simp only [Zgl,Bool.and_eq_true,List.all_eq_true] at h1;simpa [Nat.blt_eq] using h1.1.1 e he
 ·intro k o j o' t ho hj hd hd';have a1:=uq k o j o' t ho hj hd hd';have a2:=uq j o' k o t hj ho hd' hd;omega
 ·intro k o t j o' ho ht hj hd';have h1:=one k o ho;simp only [Zgl,Bool.and_eq_true] at h1;have h2:=h1.2;rw [List.all_eq_true] at h2;have h3:=Zig (f:=fun (o',j)=>!(o'.dst == some t)||Zbu (Zbp ops) k j||Zbu (Zbp ops) j k||j == k) (h2 t ht) hj;simp only [hd',beq_self_eq_true,Bool.not_true,Bool.false_or,Bool.or_eq_true,beq_iff_eq] at h3;rcases h3 with (h3|h3)|h3
  ·exact .inl h3
  ·exact .inr (.inl h3)
  ·exact .inr (.inr h3)
section draw
variable {P:Program} {G:Nat} {callf:FuncId→List Value→AS→Option (Value×AS)} {n:Nat} {ops:Array Oper}
structure At (P:Program) (G:Nat) (callf:FuncId→List Value→AS→Option (Value×AS)) (n:Nat) (ops:Array Oper) (rS:Nat→Regs) (sS:Nat→AS) (vS:Nat→Value) (fS:Nat→Bool) (k:Nat) (o:Oper):Prop where
 yes:aWanted ops (rS k) o=true→∃s1,Zb5 P G callf (rS k) (sS k).reset o.op=some (vS k,s1)∧fS k=(!Nat.ble (sS k).next s1.low)∧sS (k+1)=(sS k).merge s1
 no:aWanted ops (rS k) o=false→vS k=undef∧sS (k+1)=sS k∧fS k=false
 put:aPut n (rS k) o.dst (vS k)=some (rS (k+1))
theorem Zf4 {sj:List Nat}:∀(l:List Oper) (k0:Nat) (r:Regs) (σ:AS) (acc:List Ent) {r':Regs} {σ':AS},ZbQ P G callf n ops (Zbp ops) ops.size sj l r σ acc=some (r',σ')→
  (∀i,l[i]?=ops.toList[k0+i]?)→
  ∃rS sS vS fS,rS k0=r∧sS k0=σ∧rS (k0+l.length)=r'∧sS (k0+l.length)=σ'∧(∀k o,k0≤k→ops.toList[k]?=some o→At P G callf n ops rS sS vS fS k o)∧
   Zdz P G callf ops (Zbp ops) ops.size sj (acc.reverse++(List.range l.length).map fun i=>⟨sS (k0+i),rS (k0+i),vS (k0+i),fS (k0+i)⟩) σ'=true
 | [],k0,r,σ,acc,r',σ',h,hl=>by
  simp only [ZbQ,Zab] at h;split at h
  ·rename_i hst;cases h;refine ⟨fun _=>r,fun _=>σ,fun _=>undef,fun _=>false,rfl,rfl,rfl,rfl,fun k o hk ho=>?_,?_⟩
   ·exfalso
    have:=hl (k-k0);rw [show k0+(k-k0)=k by omega,ho] at this
    simp at this
   ·simpa using hst
  ·cases h
 | x::l,k0,r,σ,acc,r',σ',h,hl=>by
  have hx:ops.toList[k0]?=some x:=by have:=hl 0;simpa using this.symm
  have hl':∀i,l[i]?=ops.toList[k0+1+i]?:=fun i=>by
   have:=hl (i+1);simp only [List.getElem?_cons_succ] at this;rw [this];congr 1;omega
  have go:∀r1 σ1 v1 f1,ZbQ P G callf n ops (Zbp ops) ops.size sj l r1 σ1 (⟨σ,r,v1,f1⟩::acc)=some (r',σ')→
    (∀rS sS vS fS,rS k0=r→sS k0=σ→vS k0=v1→fS k0=f1→rS (k0+1)=r1→sS (k0+1)=σ1→At P G callf n ops rS sS vS fS k0 x)→
    ∃rS sS vS fS,rS k0=r∧sS k0=σ∧rS (k0+(x::l).length)=r'∧sS (k0+(x::l).length)=σ'∧(∀k o,k0≤k→ops.toList[k]?=some o→At P G callf n ops rS sS vS fS k o)∧
     Zdz P G callf ops (Zbp ops) ops.size sj (acc.reverse++(List.range (x::l).length).map fun i=>⟨sS (k0+i),rS (k0+i),vS (k0+i),fS (k0+i)⟩) σ'=true:=by
   intro r1 σ1 v1 f1 hgo hat;obtain ⟨rS,sS,vS,fS,h1,h2,h3,h4,h5,h6⟩:=Zf4 l (k0+1) r1 σ1 _ hgo hl';have key:∀{α:Type} (f:Nat→α) (y:α) (k:Nat),k0+1≤k→(fun k=>if k=k0 then y else f k) k=f k:=fun f y k hk=>by
    simp only;rw [if_neg (by omega)]
   refine ⟨fun k=>if k=k0 then r else rS k,fun k=>if k=k0 then σ else sS k,fun k=>if k=k0 then v1 else vS k,fun k=>if k=k0 then f1 else fS k,by simp,by simp,?_,?_,?_,?_⟩
   ·rw [key rS r _ (by simp),←h3];congr 1;simp;omega
   ·rw [key sS σ _ (by simp),←h4];congr 1;simp;omega
   ·intro k o hk ho;by_cases e:k=k0
    ·subst e;obtain rfl:x=o:=by rw [hx] at ho;exact Option.some.inj ho
     exact hat _ _ _ _ (by simp) (by simp) (by simp) (by simp) ((key rS r _ (zA _)).trans h1) ((key sS σ _ (zA _)).trans h2)
    ·have hk':k0+1≤k:=by omega
     obtain ⟨a1,a2,a3⟩:=h5 k o hk' ho;refine ⟨?_,?_,?_⟩
     ·simp only [if_neg e,if_neg (show ¬k+1=k0 by omega)];exact a1
     ·simp only [if_neg e,if_neg (show ¬k+1=k0 by omega)];exact a2
     ·simp only [if_neg e,if_neg (show ¬k+1=k0 by omega)];exact a3
   ·have e:(acc.reverse++(List.range (x::l).length).map fun i=>(⟨if k0+i=k0 then σ else sS (k0+i),if k0+i=k0 then r else rS (k0+i),if k0+i=k0 then v1 else vS (k0+i),if k0+i=k0 then f1 else fS (k0+i)⟩:Ent))
      = (⟨σ,r,v1,f1⟩::acc).reverse++(List.range l.length).map fun i=>⟨sS (k0+1+i),rS (k0+1+i),vS (k0+1+i),fS (k0+1+i)⟩:=by
     rw [List.length_cons,List.range_succ_eq_map,List.map_cons,List.map_map,List.reverse_cons,List.append_assoc,List.singleton_append]
     congr 2
     ·simp
     ·refine List.map_congr_left fun i _=>?_;have e1:k0+(i+1)=k0+1+i:=by omega
      simp only [Function.comp_apply,Nat.succ_eq_add_one,e1];simp only [if_neg (show ¬k0+1+i=k0 by omega)]
    show Zdz P G callf ops (Zbp ops) ops.size sj (acc.reverse++(List.range (x::l).length).map fun i=>(⟨if k0+i=k0 then σ else sS (k0+i),if k0+i=k0 then r else rS (k0+i),if k0+i=k0 then v1 else vS (k0+i),if k0+i=k0 then f1 else fS (k0+i)⟩:Ent)) σ'=true
    rw [e];exact h6
  simp only [ZbQ,Zab] at h;split at h
  ·rename_i hwt;split at h
   ·rename_i v s1 hst;split at h
    ·rename_i r1 hput;refine go r1 (σ.merge s1) v _ h fun rS sS vS fS e1 e2 e3 e6 e4 e5=>⟨fun _=>⟨s1,?_,?_,?_⟩,fun hno=>?_,?_⟩
     ·rw [e1,e2,e3];exact hst
     ·rw [e6,e2]
     ·rw [e5,e2]
     ·rw [e1,hwt] at hno;cases hno
     ·rw [e1,e3,e4];exact hput
    ·cases h
   ·cases h
  ·rename_i hwt;split at h
   ·rename_i r1 hput;refine go r1 σ undef false h fun rS sS vS fS e1 e2 e3 e6 e4 e5=>⟨fun hy=>?_,fun _=>⟨e3,by rw [e5,e2],e6⟩,?_⟩
    ·rw [e1] at hy;exact absurd hy hwt
    ·rw [e1,e3,e4];exact hput
   ·cases h
theorem bindsOn_mem {o:Oper} {e:Nat}:e∈bindsOn o↔∃x∈o.after,Region.binds .any x=true∧x.on=e:=by
 simp only [bindsOn,List.mem_map,List.mem_filter,Array.mem_toList_iff]
 constructor
 ·rintro ⟨x,⟨h1,h2⟩,h3⟩;exact ⟨x,h1,h2,h3⟩
 ·rintro ⟨x,h1,h2,h3⟩;exact ⟨x,⟨h1,h2⟩,h3⟩
theorem ZfS {c:Call} (h:ZhS P c=true):c.callee=.builtin .len∧∃t d,c.argTypes[0]?=some t∧P.underlying t=some d∧((∃e,d=.slice e)∨d=.string∨∃n e,d=.array n e):=by
 unfold ZhS at h;split at h
 ·rename_i hc;refine ⟨hc,?_⟩;split at h
  ·rename_i t ht;split at h
   ·rename_i e he;exact ⟨t,_,ht,he,.inl ⟨e,rfl⟩⟩
   ·rename_i he;exact ⟨t,_,ht,he,.inr (.inl rfl)⟩
   ·rename_i n e he;exact ⟨t,_,ht,he,.inr (.inr ⟨n,e,rfl⟩)⟩
   ·cases h
  ·cases h
 ·cases h
theorem ZlN {r:Regs} {σ σ':AS} {a:Act} {π:Ren} {o:Oper} {v:Value} (hb:Zc1 P o.op=true) (h:Zb5 P G callf r σ o.op=some (v,σ')) (hr:OpRel G π r a o.op.operands) (w:World) :
  σ'=σ∧∃v',(execOp a.eval o).run P w=.ok (.value v') w∧VRel π v v':=by
 obtain ⟨dst,op,ty,pos,aft,guard⟩:=o;dsimp only at h hr hb;unfold OpRel at hr;have valR:∀{s:Sem Value} {v':Value},s.run P w=.ok v' w→(do pure (.value (←s)):Sem Next).run P w=.ok (.value v') w:=fun {s v'} hs=>by simp [hs]
 cases op<;>(try (simp [Zc1] at hb;done))<;>simp only [aStep_eq,aStepOld,aOp,ZaH,Zbl,Zbo,Zah,opUn,Zct,Zfc,Zd4,Zac,Zfd,Zae,Zfb,Zbb,Zan] at h
 case move x=>
  obtain ⟨h,e⟩:=ZaT h;exact ⟨e,_,rfl,hr x (by simp [Op.operands]) v h⟩
 case assign x=>
  obtain ⟨h,e⟩:=ZaT h;exact ⟨e,_,rfl,hr x (by simp [Op.operands]) v h⟩
 case pick c x y=>
  split at h
  ·rename_i t u1 u2 h1 h2 h3;cases h;have hc:=vrel_bool.1 (hr c (by simp [Op.operands]) _ h1)
   have hx:=hr x (by simp [Op.operands]) _ h2
   have hy:=hr y (by simp [Op.operands]) _ h3
   refine ⟨rfl,if t then a.eval x else a.eval y,?_,?_⟩
   ·simp [execOp,hc,asBool]
   ·cases t
    ·exact hy
    ·exact hx
  ·cases h
 case nilCheck x=>
  split at h
  ·rename_i y hu;cases h;have hx:=hr x (by simp [Op.operands]) _ hu
   obtain ⟨b,_,_,e⟩:=vrel_ptr.1 hx;exact ⟨rfl,a.eval x,by simp [execOp,e],hx⟩
  ·rename_i f b c hu;cases h;have hx:=hr x (by simp [Op.operands]) _ hu
   obtain ⟨_,_,_,_,e⟩:=vrel_func.1 hx;exact ⟨rfl,a.eval x,by simp [execOp,e],hx⟩
  ·rename_i t u hu;cases h;have hx:=hr x (by simp [Op.operands]) _ hu
   obtain ⟨_,_,e⟩:=vrel_iface.1 hx;exact ⟨rfl,a.eval x,by simp [execOp,e],hx⟩
  ·cases h
 case call c=>
  obtain ⟨callee,args,ts⟩:=c;obtain ⟨hc,t,d,ht,hd,hkind⟩:=ZfS (c:=⟨callee,args,ts⟩) hb;dsimp only at hc ht;subst hc;simp only [] at h;split at h
  ·rename_i vs hvs;obtain ⟨e,x,t',rfl,ht',hl⟩:=ZgM h;obtain rfl:t'=t:=by rw [ht] at ht';exact (Option.some.inj ht').symm
   have h1:=ZcU (ρ:=π) (a:=a) hvs fun x hx=>hr x (by simp [Op.operands,Call.operands];simpa using hx)
   refine ⟨e,?_⟩;have hargs:args.map a.eval=(List.map a.eval args.toList).toArray:=by simp [←Array.toList_map]
   have e2:execOp a.eval ⟨dst,.call ⟨.builtin .len,args,ts⟩,ty,pos,aft,guard⟩=builtin .len ts ty (args.map fun | .const _=>true|_=>false) (args.map a.eval):=rfl;rw [e2,hargs]
   match hm:List.map a.eval args.toList,h1 with
   | [x'],h1=>
    have hx:=h1.1;have key:∃v',(Builtin.len_ ts ty #[x']).run P w=.ok v' w∧VRel π v v':=by
     unfold aLen at hl;rw [hd] at hl;rcases hkind with ⟨e,rfl⟩|rfl|⟨n,e,rfl⟩
     ·cases x with
      | slice base n c=>
       cases hl;cases base with
       | none=>
        obtain rfl:=vrel_slice_none.1 hx;exact ⟨goInt n,by simp [Builtin.len_,ht,Zai hd],vrel_int.2 rfl⟩
       | some y=>
        obtain ⟨_,_,rfl,_⟩:=Za1 hx;exact ⟨goInt n,by simp [Builtin.len_,ht,Zai hd],vrel_int.2 rfl⟩
      | chan r=>
       cases r with
       | none=>cases hl
       | some k=>
        cases hl;obtain ⟨a,c,rfl⟩:=ZcD hx;exact ⟨goInt 0,by simp [Builtin.len_,ht,Zai hd],vrel_int.2 rfl⟩
      | _=>cases hl
     ·cases x with
      | string s=>
       cases hl;have e:=vrel_string.1 hx;subst e;exact ⟨goInt s.size,by simp [Builtin.len_,ht,Zai hd],vrel_int.2 rfl⟩
      | _=>cases hl
     ·cases hl;exact ⟨goInt n,by simp [Builtin.len_,ht,Zai hd],vrel_int.2 rfl⟩
    obtain ⟨v',h3,h4⟩:=key;exact ⟨v',valR (s:=Builtin.len_ ts ty #[x']) h3,h4⟩
  ·cases h
 case fieldAddr s x f=>
  split at h
  ·rename_i u hu;obtain ⟨h,e⟩:=ZaT h;obtain ⟨v',h1,h2⟩:=ZgI (P:=P) (w:=w) h (hr x (by simp [Op.operands]) _ hu)
   exact ⟨e,v',valR h1,h2⟩
  ·cases h
 case field t x f=>
  split at h
  ·rename_i u hu;obtain ⟨h,e⟩:=ZaT h;obtain ⟨v',h1,h2⟩:=Ze3 (P:=P) (w:=w) h (hr x (by simp [Op.operands]) _ hu)
   exact ⟨e,v',valR h1,h2⟩
  ·cases h
 case indexAddr t x ix=>
  split at h
  ·rename_i u1 u2 h1 h2;obtain ⟨h,e⟩:=ZaT h;obtain ⟨v',h3,h4⟩:=Zd7 (P:=P) (w:=w) h (hr x (by simp [Op.operands]) _ h1) (hr ix (by simp [Op.operands]) _ h2)
   exact ⟨e,v',valR h3,h4⟩
  ·cases h
 case index t x ix=>
  split at h
  ·rename_i u1 u2 h1 h2;obtain ⟨h,e⟩:=ZaT h;obtain ⟨v',h3,h4⟩:=Ze1 (P:=P) (w:=w) h (hr x (by simp [Op.operands]) _ h1) (hr ix (by simp [Op.operands]) _ h2)
   exact ⟨e,v',valR h3,h4⟩
  ·cases h
 case binOp op t x y yt=>
  split at h
  ·rename_i u1 u2 h1 h2;obtain ⟨h,e⟩:=ZaT h;obtain ⟨v',h3,h4⟩:=ZiP (w:=w) h (hr x (by simp [Op.operands]) _ h1) (hr y (by simp [Op.operands]) _ h2)
   exact ⟨e,v',valR h3,h4⟩
  ·cases h
 case unOp op t x=>
  split at h
  ·rename_i u hu;split at h
   ·rename_i hf;obtain ⟨h,e⟩:=ZaT h;obtain ⟨h1,h2⟩:=ZcZ h;have hx:=(ZaR hf).1 (hr x (by simp [Op.operands]) _ hu)
    refine ⟨e,v,valR (s:=Op.unary op (a.eval x)) ?_,(ZaR h2).2 rfl⟩;rw [hx];exact Zbz h1
   ·cases h
  ·cases h
 case convert s d x=>
  split at h
  ·rename_i u hu;split at h
   ·rename_i hf;obtain ⟨h,e⟩:=ZaT h;obtain ⟨h1,h2⟩:=ZcZ h;have hx:=(Zby hf).1 (hr x (by simp [Op.operands]) _ hu)
    refine ⟨e,v,valR (s:=convert s d (a.eval x)) ?_,(ZaR h2).2 rfl⟩;rw [hx];exact Zbz h1
   ·have hb:Zgg P s d=false:=by simpa [Zc1] using hb
    rw [hb] at h;simp at h
  ·cases h
 case makeInterface t x=>
  split at h
  ·cases h
  ·rename_i u d hne hu hd;cases h;have hx:=hr x (by simp [Op.operands]) _ hu
   refine ⟨rfl,.iface t (a.eval x),valR (s:=Instr.makeInterface t (a.eval x)) ?_,vrel_iface.2 ⟨_,hx,rfl⟩⟩;unfold Instr.makeInterface;rw [Sem.run_bind,Zai hd,Result.andThen_ok];cases d<;>first|rfl|exact (hne _ rfl).elim
  ·cases h
 case makeFunc fn first captured=>
  split at h
  ·rename_i f c hf hc;cases h;have h1:=ZcU (ρ:=π) (a:=a) hf fun x hx=>hr x (by simp [Op.operands];exact .inl (by simpa using hx))
   have h2:=ZcU (ρ:=π) (a:=a) hc fun x hx=>hr x (by simp [Op.operands];exact .inr (by simpa using hx))
   refine ⟨rfl,.func fn (first.map a.eval) (captured.map a.eval),valR (s:=Instr.makeFunc fn (first.map a.eval) (captured.map a.eval)) rfl,?_⟩
   exact vrel_func.2 ⟨_,_,h1,h2,by simp [←Array.toList_map]⟩
  ·cases h
 case build t parts=>
  split at h
  ·rename_i ps hps;obtain ⟨h,e⟩:=ZaT h;have hp:=ZeL (ρ:=π) (a:=a) hps fun x hx=>hr x.2 (by simp [Op.operands];exact ⟨_,by simpa using hx⟩)
   obtain ⟨v',h1,h2⟩:=ZgN (P:=P) (w:=w) (qs:=parts.map fun (i,x)=>(i,a.eval x)) h (by simpa using hp)
   exact ⟨e,v',valR h1,h2⟩
  ·cases h
 case extract t ix=>
  split at h
  ·rename_i vs hu;split at h
   ·rename_i u hix;cases h;obtain ⟨ds,hl,e⟩:=vrel_tuple.1 (hr t (by simp [Op.operands]) _ hu)
    obtain ⟨u',h1,h2⟩:=hl.get ix (by simpa using hix)
    refine ⟨rfl,u',valR (s:=Instr.extract (a.eval t) ix) ?_,h2⟩;simp [e,Instr.extract,h1]
   ·cases h
  ·cases h
theorem ZiH {r:Regs} {σ σ':AS} {op:Op} {v:Value} (hbo:Zc1 P op=true) (h1:Zb5 P G callf r σ op=some (v,σ')):σ'=σ:=by
 by_cases hcall:∃c,op=.call c
 ·obtain ⟨c,rfl⟩:=hcall;obtain ⟨callee,args,ts⟩:=c;obtain ⟨hc,_⟩:=ZfS (c:=⟨callee,args,ts⟩) hbo;dsimp only at hc;subst hc;simp only [aStep_eq,aStepOld,aOp,Zan] at h1;split at h1
  ·exact (ZgM h1).1
  ·cases h1
 cases op<;>(try (exact absurd ⟨_,rfl⟩ hcall))<;>(try (simp [Zc1] at hbo;done))<;>simp only [aStep_eq,aStepOld,aOp,ZaH,Zbl,Zbo,Zah,opUn,Zct,Zfc,Zd4,Zac,Zfd,Zae,Zfb,Zbb] at h1
 all_goals (repeat' split at h1)<;>first | (cases h1;done) | (exact (ZaT h1).2) | (exact (Prod.mk.inj (Option.some.inj h1)).2.symm)
theorem Zij {r:Regs} {σ σ':AS} {op:Op} {v:Value} (hb:Zck op=true) (h:Zb5 P G callf r σ op=some (v,σ')):σ'=σ:=by
 cases op<;>(try (simp [Zck] at hb;done))<;>simp only [aStep_eq,aStepOld,aOp,Zag,Zba] at h
 all_goals (repeat' split at h)<;>first | (cases h;done) | (exact (ZaT h).2)
theorem Zk7 {r:Regs} {σ σ':AS} {a:Act} {π:Ren} {o:Oper} {v:Value} {w:World} (hb:Zck o.op=true) (h:Zb5 P G callf r σ o.op=some (v,σ')) (hr:OpRel G π r a o.op.operands) (hR:R G π σ w) :
  ∃v',(execOp a.eval o).run P w=.ok (.value v') w∧VRel π v v':=by
 obtain ⟨dst,op,ty,pos,aft,guard⟩:=o;dsimp only at h hr hb;unfold OpRel at hr;have valR:∀{s:Sem Value} {v':Value},s.run P w=.ok v' w→(do pure (.value (←s)):Sem Next).run P w=.ok (.value v') w:=fun {s v'} hs=>by simp [hs]
 cases op<;>(try (simp [Zck] at hb;done))<;>simp only [aStep_eq,aStepOld,aOp,Zag,Zba] at h
 case load t x=>
  split at h
  ·rename_i u hu;obtain ⟨hq,rfl⟩:=ZaT h;obtain ⟨v',h1,h2⟩:=Zfn (P:=P) hq hR (hr x (by simp [Op.operands]) _ hu)
   exact ⟨v',valR h1,h2⟩
  ·cases h
 case lookup t x ix ok=>
  split at h
  ·rename_i u1 u2 h1 h2;obtain ⟨hq,rfl⟩:=ZaT h;obtain ⟨v',h3,h4⟩:=Zf2 (P:=P) (w:=w) hq hR (hr x (by simp [Op.operands]) _ h1) (hr ix (by simp [Op.operands]) _ h2)
   exact ⟨v',valR h3,h4⟩
  ·cases h
theorem Znu {r:Regs} {σ σ':AS} {a:Act} {π:Ren} {o:Oper} {v:Value} {F:List Nat} (hr:OpRel G π r a o.op.operands) (hf:fpOf P G r o.op=some F) (hb:Zck o.op=true)
  (h:Zb5 P G callf r σ o.op=some (v,σ')):∀x∈F,∃b,π.bl x=some b:=by
 have named:∀{u u':Value},(∀a n c,u≠.slice (some a) n c)→VRel π u u'→∀x∈fpV u,∃b,π.bl x=some b:=fun {u u'} hns hu x hx=>by
  unfold fpV at hx;split at hx
  ·obtain ⟨b,hb,_⟩:=vrel_ptr.1 hu;exact ⟨b,by rw [List.mem_singleton.1 hx];exact hb⟩
  ·exact absurd rfl (hns _ _ _)
  ·obtain ⟨b,hb,_⟩:=vrel_map.1 hu;exact ⟨b,by rw [List.mem_singleton.1 hx];exact hb⟩
  ·cases hx
 obtain ⟨dst,op,ty,pos,aft,guard⟩:=o;dsimp only at h hr hb hf;unfold OpRel at hr;cases op<;>(try (simp [Zck] at hb;done))<;>simp only [fpOf] at hf
 case load t x=>
  cases hx:aev G r x with
  | none=>rw [hx] at hf;cases hf
  | some u=>
   obtain rfl:=Zb9 hx hf;refine named (fun a n c e=>?_) (hr x (by simp [Op.operands]) _ hx)
   subst e;rw [aStep_eq] at h;simp only [aStepOld,aOp,Zag,hx] at h;cases h
 case lookup t x ix ok=>
  cases hx:aev G r x with
  | none=>rw [hx] at hf;cases hf
  | some u=>
   obtain rfl:=Zb9 hx hf;refine named (fun a n c e=>?_) (hr x (by simp [Op.operands]) _ hx)
   subst e;rw [aStep_eq] at h;have hl:∀i,ZbX P σ t (.slice (some a) n c) i ok=none:=fun i=>by
    unfold ZbX;split
    ·split<;>rfl
    ·rfl
   simp only [aStepOld,aOp,Zba,hx] at h;split at h
   ·rename_i e _;cases e;rw [hl] at h;cases h
   ·cases h
end draw
end Go.Proofs.YteangeffgjolpaaGreatDoor.Abs
