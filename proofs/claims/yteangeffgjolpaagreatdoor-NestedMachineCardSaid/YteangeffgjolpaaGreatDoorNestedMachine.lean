/- The law NestedMachine returns true,whatever it is handed;what it was handed reads as it did;the tied card. No condition beyond the card's own (the listed tables of the library,tied to the program's text). The code is run over an abstract memory by an evaluator that is proved right for any program (the texts Abs),by a contract for each function (the texts Nm). -/
import Derived.Test.YteangeffgjolpaaGreatDoorRows
import Derived.Test.YteangeffgjolpaaGreatDoorCards
import Derived.Test.YteangeffgjolpaaGreatDoorTie
import Derived.Test.YteangeffgjolpaaGreatDoorNmKey
import Derived.WalkKit
import Derived.ProofKit
import Derived.LaidMore
import Derived.OpenShut
import Derived.SevenTiedAt
set_option maxRecDepth 100000
namespace Go.Proofs.YteangeffgjolpaaGreatDoor.nestedMachine
open Go.ChangeShapes Go.WideShapes Go.ChangeAt Go.RowKit Go.Proofs.YteangeffgjolpaaGreatDoor.Abs Go.Proofs.YteangeffgjolpaaGreatDoor.U
set_option linter.unusedSimpArgs false
set_option linter.unusedVariables false
theorem own:ownKnob Tryz.prog.godebug=none:=by kernel_rfl
theorem j1:(laidOutB Tryz.prog)=true:=by kernel_rfl
section
variable {H:Type} {enc:TypeId×Value→H}
theorem walk {W:World} {base:Nat} {tv:Value} {d0:DataW H} {p0:List MemPlace}
  (h0:DataW.Trod enc Tryz.prog W 0 (fun _=>true) true 22 tv d0 p0) (k0:Value.okWide Tryz.prog W .any base 22 tv)
  (hw:∀m∈DataW.weightsEach Tryz.prog [22] [d0],m≤reachBytes) :
  Calls Tryz.prog 3 #[tv] W fun e W'=>e=.returned (.bool true)∧(∀b,b<W.heap.size→W'.heap[b]?=W.heap[b]?)∧W.heap.size≤W'.heap.size∧W'.os=W.os∧W'.output=W.output:=by
 obtain ⟨s0,c0⟩:=Zrk (P:=Tryz.prog) (W:=W) (T:=22) (E:=3) (base:=base) (v:=tv) Tryz.underlying22 k0;obtain ⟨n0,h0⟩:=h0;rw [c0] at h0;have hwe:∀{j:Nat} {t:TypeId} {d:DataW H},([22]:List TypeId)[j]?=some t→[d0][j]?=some d→∀m∈d.weights Tryz.prog t,m≤reachBytes:=fun ht hd m hm=>hw m (DataW.weights_mem_each ht hd m hm);obtain ⟨v0,ints,e0,r0,-,b0⟩:=ZoJ h0 (hwe (j:=0) rfl rfl);obtain rfl:=(List.cons.inj e0).1;rw [Zfv s0] at r0;have hrb:=reachBytes_lt;have hself:∀v∈[tv],VRel (ZeO W.heap.size) v v:=by
  intro v hv;rw [List.mem_singleton.1 hv];exact s0
 exact Zj5 Zeh KA_ok (args:=[tv]) hself (Nest.law_c (show RS 1 Nest.RInt (Zde W) tv ints from r0) (by omega))
end
theorem Zqg (os:Os) (args:Array Value):laidMetH Tryz.prog Rows.nestedMachineRow.laid ((World.doorLaid Tryz.prog 400 os).forCall (fun _ _=>0) ⟨#[],args,[]⟩).memory:=
 laidMetH_of_parts3 (fuel:=8) (laidMet_of_run' 8 (by kernel_rfl) (by kernel_rfl)) (by kernel_rfl) (by kernel_rfl)
theorem lifted (os:Os) (started:os.Started) (H:Type) (enc:TypeId×Value→H) :
  ReturnsInHanded {} Tryz.checked os 3 .any (fun w args=>(Rows.nestedMachineSpec.pre enc Tryz.prog Tryz.f3 [] false w args∧laidMetH Tryz.prog Rows.nestedMachineRow.laid w)∧sizedMet enc Tryz.prog Tryz.f3 (OpenSpec.ofChange Rows.nestedMachineSpec) false w args)
   (Rows.nestedMachineSpec.post enc Tryz.prog Tryz.f3 false true false false):=by
 refine returnsInHanded_of_change_and (C:=Tryz.checked) (X:=fun w _=>laidMetH Tryz.prog Rows.nestedMachineRow.laid w) (fun _ _ _ hh h=>h.of_heap hh) own started (by kernel_rfl) Tryz.func3
  (ChangeSpec.witness_shaped (enc:=enc) (C:=Tryz.checked) (os:=os) (X:=fun w _=>laidMetH Tryz.prog Rows.nestedMachineRow.laid w) false (World.doorLaid Tryz.prog 400 os) #[.slice none 0 0] 8 rfl (World.shaped_of_RefB (by kernel_rfl) (by kernel_rfl)) (by kernel_rfl) (by kernel_rfl) (by kernel_rfl) (Zqg os _)) ?_
 intro W base args ds gs before hval0 hW hcnd hwt _ _;have hW':=hW;have hlt:=hW.lt;obtain ⟨p,q,hA0,hV,rfl,hfz,hnd⟩:=hW;have hA:DataW.TrodAll enc Tryz.prog W 0 (fun _=>true) true Tryz.f3.params.toList args.toList ds p:=hA0;rw [Tryz.params3] at hA;obtain ⟨tv,d0,rfl,rfl,h0⟩:=trodAll_one hA;obtain ⟨rfl,rfl⟩:=trodVars_none hV;have k0:=hval0 0 22 tv rfl rfl;refine (walk h0 k0 fun m hm=>?_).mono fun e W' ⟨he,hg,hsz,hos,hout⟩=>?_
 ·have hwt2:(DataW.weightsEach Tryz.prog (Tryz.f3.params.toList++[]) ([d0]++[])).all (·≤reachBytes)=true:=hwt;rw [Tryz.params3] at hwt2;have:=List.all_eq_true.1 hwt2 m hm;simpa using this
 subst he;have same:∀x:MemPlace,x.block<W.heap.size→W.sameAt W' x:=fun x hx=>by
  cases x with
  | cell b o=>exact World.cell?_of_block (w:=W) (hg b hx)
  | map b=>exact hg b hx
 have stay:∀{t:TypeId} {v:Value} {d:DataW H} {ps:List MemPlace},Tryz.prog.readableRec t=true→t<Tryz.prog.types.size→DataW.Trod enc Tryz.prog W 0 (fun _=>true) true t v d ps→(∀x∈ps,x.block<W.heap.size)→
   DataW.Trod enc Tryz.prog W' 0 (fun b=>decide (b<W.heap.size)) true t v d ps:=fun hr hrow h hl=>
  Go.WideElems.Trod_stays j1 hr hrow h (fun x hx=>same x (hl x hx)) (fun x hx=>by simpa using hl x hx)
 have t0:=stay (t:=22) (by kernel_rfl) (of_decide_eq_true (by kernel_rfl)) h0 fun x hx=>hlt x (by simp [hx])
 have ta:=trodAll_mk1 t0;have hk:∀may,W.keptBut W' may:=fun may=>⟨hos,hout,fun i hi=>by
  rw [hg i hi];cases W.heap[i]? with
  | none=>rfl
  | some o=>cases o<;>simp⟩
 exact ⟨_,rfl,[d0],[],_,[],_,[],hW',trodAll_cons_mk (shut_bool Tryz.underlying4 _) trodAll_mk0,ta,rfl,hk _,fun h=>by cases h⟩
theorem over:Rows.NestedMachineSaid:=
 OpenClaim.holds_of_wide 3 Tryz.f3 rfl rfl rfl rfl rfl rfl rfl ⟨rfl,rfl,rfl,rfl,rfl⟩ rfl rfl rfl rfl rfl (by kernel_rfl) Tryz.func3 (by kernel_rfl)
  (of_decide_eq_true (by kernel_rfl)) (by unfold Func.isWrapper;first | (rw [if_pos (by decide +kernel)];kernel_rfl) | (rw [if_neg (by decide +kernel)];exact ⟨rfl,rfl⟩))
  (fun os started H enc _=>lifted os started H enc)
theorem proved:Rows.NestedMachineCardSaid:=
 Claim7.holds_tied_plain_at .later [] [.data,.data,.data] true (true,"f3b2bb7de350deb02766da5769062c4a01fa42a4f04ae929726eacec6fdbb911") false
  over (fun _ h=>by cases h) (by kernel_rfl) (fun _ h=>by cases h) nestedMachine_row_tie rfl ⟨rfl,rfl⟩ (by kernel_rfl) rfl
  (fun f fn hf hfn=>by
   obtain rfl:f=3:=Option.some.inj ((show Tryz.prog.funcNamed "cspcheck/cspchecklaw38.NestedMachine"=some 3 by kernel_rfl).symm.trans hf) |>.symm
   obtain rfl:fn=Tryz.f3:=(Option.some.inj (Tryz.func3.symm.trans hfn)).symm;exact ⟨by kernel_rfl,fun j t ht=>by
    rw [Tryz.params3] at ht;cases j with
    | zero=>
     obtain rfl:22=t:=Option.some.inj ht
     kernel_rfl
    | succ j=>simp at ht⟩)
  (by kernel_rfl)
#print axioms proved
end Go.Proofs.YteangeffgjolpaaGreatDoor.nestedMachine
