import Derived.Test.YticdfkoncnnmmaaGreatDoorHH
import Derived.Test.YticdfkoncnnmmaaGreatDoorHF
set_option linter.unusedSimpArgs false
set_option linter.unusedVariables false
set_option maxRecDepth 100000
namespace Go.Proofs.YticdfkoncnnmmaaGreatDoor
open Go.X Go.X.Diff
theorem zAeR {x y:Item}(hx:x.wf)(hy:y.wf):zAh (eqK prg zA2) .neq (.agg (zFS x).toArray) (.agg (zFS y).toArray)=some (.bool (!decide (x=y))):=by
 rw[zJU,zAa8]
 show(zA1 zAa7 (zFS x).toArray.toList (zFS y).toArray.toList).map (fun b=>Value.bool (!b))=_
 rw[List.toList_toArray,List.toList_toArray,zAfB hx hy];rfl
theorem zVB {P:Nat->Prop}{H:zAd}{v:Value}{mv:List MV}(hp:zP3 P H v mv)(hP:∀ b,P b->b<H.size)(hT:zAdV H)(hS:zTg H) :
  zAg prg zGa [v] H fun u H'=>u = .bool true/\Keep No H H':=by
 apply zHN
 unfold zFT
 refine zAk (zAal (most:=20) hp) ?_
 rintro _ h1 ⟨⟨b,rfl,hb⟩,k1⟩
 refine zCO rfl (zZX (fun _=>?_) fun e=>?_)
 ·refine zAk (zUx (hT.keep k1 fun _ h=>h.elim) (hS.keep k1 fun _ h=>h.elim)) ?_
  rintro _ h2 ⟨rfl,k2⟩
  exact⟨rfl,k1.trans k2⟩
 obtain⟨hs,hl⟩:=hb (by simpa using e)
 have hp1:=(hp.to hs).keep k1 fun _ _=>id
 have g1:=k1.1
 have hT1:=hT.keep k1 fun _ h=>h.elim
 have hS1:=hS.keep k1 fun _ h=>h.elim
 refine zAk (zAeO hp1 (fun b hb=>by have:=hP b hb;omega) (by omega) hT1.ops hT1.pow hS1) ?_
 rintro t11 h3 ⟨b3,k3⟩
 have l3:=b3.sl.len
 rw[List.length_map,List.length_map]at l3
 have en:zAh .no .neq (.int .i64 (mv.length:Nat)) (.int .i64 (mv.length:Nat))=some (.bool false):=by rw[zAi];simp[zA9]
 refine zCO l3 (zCO hp.len (zCO en (zPC rfl ?_)))
 refine range_i hp.len (fun _ h=>Keep No h3 h) (fun h=>Keep No h3 h) Keep.refl (fun _ h=>h) ?_ ?_
 rotate_left
 ·intro _ h k
  have k0:=(k1.trans k3).trans k
  refine zAk (zUx (hT.keep k0 fun _ h=>h.elim) (hS.keep k0 fun _ h=>h.elim)) ?_
  rintro _ h2 ⟨rfl,k2⟩
  exact⟨rfl,k0.trans k2⟩
 intro i h hlt kh k1' k6 _ hk6
 obtain⟨x,hx,hm⟩:=zAeQ hlt
 have hpx:=(hp.to hs).keep ((k1.trans k3).trans kh) fun _ _=>id
 have hmx:=hpx.m x hm
 have hsx:=hpx.sm x hm
 have w:=hmx.wf
 refine zAhD hpx.h (zUB hx) zKJ (zAH zMt) fun h9 a9 k9=>?_
 have k39:=kh.trans k9
 have k09:=(k1.trans k3).trans k39
 have g09:=k09.1
 have hw:=zWQ w
 obtain⟨b,o,hix,hpt,hb3⟩:=(b3.sl.keep k39 fun _ _=>id).at (zUB (f:=zFS) (zUB (f:=fun x:MV=>zTe x.1) hx))
 have e27:∀ h',Keep No h9 h'->ldN 37 h' (Ptr b o)=some (.agg (zFS (zTe x.1)).toArray):=fun h' k=>(hpt.keep k id).agg (zQR hw)
 have a9':At h9 h.size (zEN x.1 x.2.1 x.2.2.1 x.2.2.2):=a9
 refine zCO (hix .i64) (zCO (e27 _ Keep.refl) ?_)
 simp only[zAx,Nat.zero_add,Nat.add_zero,zAa,zBE a9',zFK a9' w]
 rw[a9'.ldN (zAH w),zAa]
 refine zAk (zUz (hmx.keep k9 fun _ _=>id) (fun b hb=>by have:=hP b hb;omega) (by omega) (by omega) (hT.keep k09 fun _ h=>h.elim).ops (hT.keep k09 fun _ h=>h.elim).pow) ?_
 rintro t18 h10 ⟨sl,k10⟩
 have a10:=a9'.keep k10 id
 rw[zFK a10 w,zBE a10,e27 _ k10,zAw,zAw,zAw,zAr]
 have hln:=zRm w.files fun h=>zTd w h (by omega) (by omega)
 have k010:=k09.trans k10
 refine zAk (zUy sl (hS.keep k010 fun _ h=>h.elim) (fun b hb=>hb.2) (by omega)) ?_
 rintro _ h11 ⟨rfl,k11⟩
 have a11:=a10.keep k11 id
 rw[zFK a11 w,zBE a11,e27 _ (k10.trans k11),zAw,zAw,zAw,zAr,zAai w.ver zFQ,zAa]
 have ne:zAh (eqK prg zA2) .neq (.agg (zFS (zTe x.1)).toArray) (.agg (zFS ⟨x.1.name,x.1.ver,zXL (0 :: zVA x.1)⟩).toArray)=some (.bool false):=by
  have:=zAeR hw hw
  rw[decide_eq_true rfl]at this
  exact this
 refine zCO ne (zPC rfl (zZY hlt (by omega) (hk6 _ ((k39.trans k10).trans k11))))
end Go.Proofs.YticdfkoncnnmmaaGreatDoor
