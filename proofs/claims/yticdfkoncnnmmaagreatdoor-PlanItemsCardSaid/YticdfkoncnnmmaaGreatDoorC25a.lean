/- PROVED: the law PlanItems returns true at all arguments, and its arguments read as before; over package-level variables that hold what the program's text lays. -/
import Derived.Test.YticdfkoncnnmmaaGreatDoorHI
import Derived.Test.YticdfkoncnnmmaaGreatDoorHJ
set_option linter.unusedSimpArgs false
set_option linter.unusedVariables false
namespace Go.Proofs.YticdfkoncnnmmaaGreatDoor.planItems
open Go.ChangeShapes Go.WideShapes Go.ChangeAt Go.RowKit Came
set_option maxRecDepth 100000
theorem zAip:Tryz.f6.params=#[zBm]:=by kernel_rfl
theorem zAb4 (H:Type) (enc:TypeId×Value->H) (W:World) (base:Nat) (args:Array Value) (ds gs:List (DataW H)) (before:List MemPlace)
    (hval:∀ (j:Nat) t v,Tryz.f6.params[j]? = some t->args[j]? = some v->Value.okWide Tryz.prog W .any base t v)
    (hW:DataW.Whole enc Tryz.prog Tryz.f6.params.toList Rows.planItemsSpec.vars false W args.toList ds gs before) (hL:laidMetH Tryz.prog Rows.planItemsRow.laid W) (ho:W.ShapedOpen Tryz.prog) :
    Calls Tryz.prog 6 args W fun e W'=>∃ v,e = .returned v/\Rows.planItemsSpec.post enc Tryz.prog Tryz.f6 false true false false W args v W':=by
  have hW':=hW
  obtain⟨p,q,hA0,hV,rfl,hfz,hnd⟩:=hW
  have hA:DataW.TrodAll enc Tryz.prog W 0 (fun _=>true) true Tryz.f6.params.toList args.toList ds p:=hA0
  rw[zAip]at hA hval
  obtain⟨v0,vs0,d0,ds0,p0,q0,hargs,rfl,rfl,h0,r0⟩:=trodAll_cons hA
  obtain⟨rfl,rfl,rfl⟩:=trodAll_nil r0
  obtain rfl:args=#[v0]:=by cases args;simp_all
  obtain⟨rfl,rfl⟩:=trodVars_none hV
  have k0:=h0
  have lt0:∀ x ∈ p0,x.block<W.heap.size:=by obtain⟨m,hm⟩:=k0;exact DataW.trod_lt m _ _ _ hm
  clear hA0
  obtain⟨a0,l0,c0,rfl⟩:=okWide_slice zAc3 (hval 0 zBm v0 rfl rfl)
  obtain⟨x0,hl0,hx0⟩:∃ xs:List MV,xs.length<=9223372036854775807/\zP3 (· < W.heap.size) W.heap (.slice a0 l0 c0) xs:=by
    obtain⟨m,hm⟩:=h0
    exact zAgx (Go.X.shp_of_trod hm)
  obtain⟨hT,hS⟩:=zAbx hL ho
  refine(zVB hx0 (fun b hb=>hb) hT hS W rfl).mono fun e W'=>?_
  rintro⟨v,rfl,hs,rfl,hk⟩
  have bel:Below W.heap.size W W':=⟨hs.os,hs.tape,hs.output,hk.1,fun k hk'=>hk.2 k hk' id⟩
  exact⟨_,rfl,_,_,_,[],_,[],hW',trodAll_mk1 (shut_bool zAfK _),(trodAll_cons_mk (Below.trod zAdX (by kernel_rfl) (of_decide_eq_true (by kernel_rfl)) k0 bel lt0) trodAll_mk0),rfl,bel.frame _,fun h=>by cases h⟩
def zAgQ:Value := .slice none 0 0
theorem zAb5 (os:Os):laidMet Tryz.prog Rows.planItemsRow.laid ((zOc os).forCall (fun _ _=>0) ⟨#[],#[zAgQ],[]⟩).memory :=
  laidMet_of_run' 8 (by kernel_rfl) (by kernel_rfl)
theorem reads (os:Os) {H:Type} (enc:TypeId×Value->H):∃ ds places,DataW.whole enc Tryz.prog ((zOc os).forCall (fun _ _=>0) ⟨#[],#[zAgQ],[]⟩).memory Tryz.f6.params.toList Rows.planItemsSpec.vars false #[zAgQ].toList 8=some (ds,[],places) :=
  ⟨[.nil],[],by kernel_rfl⟩
set_option maxRecDepth 100000 in
theorem zAgy (os:Os) (started:os.Started) (H:Type) (enc:TypeId×Value->H) (F:Stop.Interp) :
    ReturnsInHanded {} Tryz.checked os 6 .any ((OpenSpec.ofChange Rows.planItemsSpec).preRow enc Tryz.prog Tryz.f6 Rows.planItemsRow.domain false Rows.planItemsRow.laid) (((OpenSpec.ofChange Rows.planItemsSpec).at F).post enc Tryz.prog Tryz.f6 false true false false):=by
  obtain⟨ds,places,hx⟩:=reads os enc
  refine returnsInHanded_of_row (C:=Tryz.checked) (s:=OpenSpec.ofChange Rows.planItemsSpec) own started (by kernel_rfl) Tryz.func6
    (witness_row_at (enc:=enc) (C:=Tryz.checked) false (zOc os) #[zAgQ] rfl (by kernel_rfl) (by kernel_rfl) (by kernel_rfl)
      (OpenSpec.preRow_of_cond 8 hx (by kernel_rfl) (fun k hk=>by cases hk) (by kernel_rfl) (zAb5 os))) ?_
  intro W base args ds gs before hval hW _ _ _ hL ho _
  exact zAb4 H enc W base args ds gs before hval hW hL ho
theorem said:Rows.PlanItemsSaid :=
  OpenClaim.holds_of_cond 6 Tryz.f6 rfl rfl rfl rfl rfl rfl rfl ⟨rfl,rfl,rfl,rfl,rfl⟩ rfl rfl rfl rfl rfl (by kernel_rfl) Tryz.func6 (by kernel_rfl)
    (of_decide_eq_true (by kernel_rfl)) (by unfold Func.isWrapper;first | (rw[if_pos (by decide +kernel)];kernel_rfl) | (rw[if_neg (by decide +kernel)];exact⟨rfl,rfl⟩))
    (fun os started H enc _ F=>by rw[OpenClaim.pre_eq_preRow];exact zAgy os started H enc F)
theorem plain (f:FuncId) (fn:Func) (hf:Tryz.pinned.checked.prog.funcNamed "syngraph/syngraphlaw25.PlanItems" = some f) (hfn:Tryz.pinned.checked.prog.funcs[f]? = some fn) :
    true=Tryz.pinned.checked.prog.looks []/\∀ (j:Nat) t,fn.params[j]? = some t->Tryz.pinned.checked.prog.wantsStandIn t=false:=by
  obtain rfl:f=6:=Option.some.inj ((show Tryz.prog.funcNamed "syngraph/syngraphlaw25.PlanItems" = some 6 by kernel_rfl).symm.trans hf) |>.symm
  obtain rfl:fn=Tryz.f6:=(Option.some.inj (Tryz.func6.symm.trans hfn)).symm
  refine⟨by kernel_rfl,fun j t ht=>?_⟩
  rw[zAip]at ht
  obtain rfl:t=zBm:=by have:=Array.mem_of_getElem? ht;simpa using this
  exact(show Tryz.prog.wantsStandIn zBm=false by kernel_rfl)
end Go.Proofs.YticdfkoncnnmmaaGreatDoor.planItems
namespace Go.Proofs.YticdfkoncnnmmaaGreatDoor
theorem planItemsCardHolds:Rows.PlanItemsCardSaid :=
  Claim7.holds_tied_plain_at .later [] _ _ _ _ planItems.said (fun _ h=>by cases h) (by kernel_rfl) (fun _ h=>by cases h) planItems_row_tie rfl ⟨rfl,rfl⟩ (by kernel_rfl) rfl planItems.plain (by kernel_rfl)
#print axioms planItemsCardHolds
end Go.Proofs.YticdfkoncnnmmaaGreatDoor
