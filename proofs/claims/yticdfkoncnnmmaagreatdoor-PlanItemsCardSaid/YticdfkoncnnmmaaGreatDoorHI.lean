import Derived.Test.YticdfkoncnnmmaaGreatDoorHH
import Derived.Test.YticdfkoncnnmmaaGreatDoorHF
set_option linter.unusedSimpArgs false
set_option linter.unusedVariables false
namespace Go.Proofs.YticdfkoncnnmmaaGreatDoor
open Go.X Go.X.Diff
set_option maxRecDepth 100000
set_option linter.unusedSimpArgs false
set_option linter.unusedVariables false
theorem neItem5{x y:Item}(hx:x.wf)(hy:y.wf):binV(eqK prg zAO) .neq(.agg(itemC x).toArray)(.agg(itemC y).toArray)=some(.bool(!decide(x=y))):=by
  rw[zHk,zVA]
  show(eqCells kItem(itemC x).toArray.toList(itemC y).toArray.toList).map(fun b=>Value.bool(!b))=_
  rw[List.toList_toArray,List.toList_toArray,eqItem hx hy];rfl
theorem zSr{P:Nat→Prop}{H:Heap}{v:Value}{mv:List MV}(hp:MLst0 P H v mv)(hP:∀ b,P b→b<H.size)(hT:VerT H)(hS:ShaT H) :
    HCalls prg zFT [v] H fun u H'=>u = .bool true∧Keep No H H':=by
  apply zHI
  unfold zFE
  refine zAf(zU8(most:=20)hp)?_
  rintro _ h1⟨⟨b,rfl,hb⟩,k1⟩
  refine mpu_i rfl(mcd_i(fun _=>?_)fun e=>?_)
  · refine zAf(zQu(hT.keep k1 fun _ h=>h.elim)(hS.keep k1 fun _ h=>h.elim))?_
    rintro _ h2⟨rfl,k2⟩
    exact⟨rfl,k1.trans k2⟩
  obtain⟨hs,hl⟩:=hb(by simpa using e)
  have hp1:=(hp.to hs).keep k1 fun _ _=>id
  have g1:=k1.1
  have hT1:=hT.keep k1 fun _ h=>h.elim
  have hS1:=hS.keep k1 fun _ h=>h.elim
  refine zAf(zXC hp1(fun b hb=>by have:=hP b hb;omega)(by omega)hT1.ops hT1.pow hS1)?_
  rintro t11 h3⟨b3,k3⟩
  have l3:=b3.sl.len
  rw[List.length_map,List.length_map]at l3
  have en:binV .no .neq(.int .i64(mv.length:Nat))(.int .i64(mv.length:Nat))=some(.bool false):=by rw[zAg];simp[intV]
  refine mpu_i l3(mpu_i hp.len(mpu_i en(mcd_f rfl ?_)))
  refine range_i hp.len(fun _ h=>Keep No h3 h)(fun h=>Keep No h3 h)Keep.refl(fun _ h=>h)?_ ?_
  rotate_left
  · intro _ h k
    have k0:=(k1.trans k3).trans k
    refine zAf(zQu(hT.keep k0 fun _ h=>h.elim)(hS.keep k0 fun _ h=>h.elim))?_
    rintro _ h2⟨rfl,k2⟩
    exact⟨rfl,k0.trans k2⟩
  intro i h hlt kh k1' k6 _ hk6
  obtain⟨x,hx,hm⟩:=ex_lt hlt
  have hpx:=(hp.to hs).keep((k1.trans k3).trans kh)fun _ _=>id
  have hmx:=hpx.m x hm
  have hsx:=hpx.sm x hm
  have w:=hmx.wf
  refine cp_i hpx.h(zNE hx)zFg(zAw zM_wf)fun h9 a9 k9=>?_
  have k39:=kh.trans k9
  have k09:=(k1.trans k3).trans k39
  have g09:=k09.1
  have hw:=zR3 w
  obtain⟨b,o,hix,hpt,hb3⟩:=(b3.sl.keep k39 fun _ _=>id).at(zNE(f:=itemC)(zNE(f:=fun x:MV=>itemP x.1)hx))
  have e27:∀ h',Keep No h9 h'→ldN 37 h'(Ptr b o)=some(.agg(itemC(itemP x.1)).toArray):=fun h' k=>(hpt.keep k id).agg(zNs hw)
  have a9':At h9 h.size(manC x.1 x.2.1 x.2.2.1 x.2.2.2):=a9
  refine mpu_i(hix .i64)(mpu_i(e27 _ Keep.refl)?_)
  simp only[zAq,Nat.zero_add,Nat.add_zero,zAa,zAV a9',zCq a9' w]
  rw[a9'.ldN(zAw w),zAa]
  refine zAf(zQw(hmx.keep k9 fun _ _=>id)(fun b hb=>by have:=hP b hb;omega)(by omega)(by omega)(hT.keep k09 fun _ h=>h.elim).ops(hT.keep k09 fun _ h=>h.elim).pow)?_
  rintro t18 h10⟨sl,k10⟩
  have a10:=a9'.keep k10 id
  rw[zCq a10 w,zAV a10,e27 _ k10,zAo,zAo,zAo,zAm]
  have hln:=zND w.files fun h=>zOE w h(by omega)(by omega)
  have k010:=k09.trans k10
  refine zAf(zQv sl(hS.keep k010 fun _ h=>h.elim)(fun b hb=>hb.2)(by omega))?_
  rintro _ h11⟨rfl,k11⟩
  have a11:=a10.keep k11 id
  rw[zCq a11 w,zAV a11,e27 _(k10.trans k11),zAo,zAo,zAo,zAm,zS5 w.ver zC3,zAa]
  have ne:binV(eqK prg zAO) .neq(.agg(itemC(itemP x.1)).toArray)(.agg(itemC⟨x.1.name,x.1.ver,shaF(0 :: leafB x.1)⟩).toArray)=some(.bool false):=by
    have:=neItem5 hw hw
    rw[decide_eq_true rfl]at this
    exact this
  refine mpu_i ne(mcd_f rfl(zR4 hlt(by omega)(hk6 _((k39.trans k10).trans k11))))
end Go.Proofs.YticdfkoncnnmmaaGreatDoor
