import Derived.Test.YticdfkoncnnmmaaGreatDoorGB
import Derived.Laws.Append
import Derived.Laws.BytesArg
set_option linter.unusedSimpArgs false
set_option linter.unusedVariables false
namespace Go.X
theorem zW9 (off:Nat):∀ (vs:List Value) (k:Nat) (c:Array Value),off+k+vs.length<=c.size ->
  (vs.zipIdx k).foldl (λcs p=>cs.setIfInBounds (off+p.2) p.1) c=(c.toList.take (off+k)++vs++c.toList.drop (off+k+vs.length)).toArray
 | [],k,c,_=>by simp
 | v::vs,k,c,h=>by
  have hl:off+(k+1)+vs.length<=(c.setIfInBounds (off+k) v).size:=by simp at h ⊢;omega
  simp only[List.zipIdx_cons,List.foldl_cons]
  rw[zW9 off vs (k+1) _ hl]
  have e:=list_seg_step c.toList (off+k) v vs (by simp at h ⊢;omega)
  congr 1
  simpa [zCa,Nat.add_assoc] using e
theorem zVZ {place:Nat->Option (Nat×Nat)}:∀ (ps:List (Nat×Value)) (c r:Array Value),zQ1 place c ps=some r->Instr.fill place c ps=some r
 | [],c,r,h=>by simpa [zQ1,Instr.fill] using h
 | (i,v)::ps,c,r,h=>by
  simp only[zQ1]at h
  simp only[Instr.fill]
  cases hp:place i with
  | none=>simp[hp]at h
  | some q =>
   obtain⟨off,size⟩:=q
   simp only[hp]at h
   split at h
   ·rename_i hc
    have e:v.cells.zipIdx.foldl (λcs (x:Value×Nat)=>cs.setIfInBounds (off+x.2) x.1) c=spl c off v.cells:=by
     rw[<- Array.foldl_toList,Array.toList_zipIdx,zW9 off v.cells.toList 0 c (by simp;omega)]
     simp[spl]
    have hn:(decide (v.cells.size≠size) || decide (off+v.cells.size > c.size))=false:=by
     simp only[Bool.or_eq_false_iff,decide_eq_false_iff_not]
     omega
    simp only[hn,zAb,if_false]
    rw[<- zVZ ps _ r h]
    congr 1
   ·cases h
theorem zMA {P:Program}{T:TypeId}{cs:Array Value}(h:zBI P T=some cs):∃ i z,P.info? T=some i/\i.zero=some z/\z.cells=cs:=by
 unfold zBI at h
 cases hi:P.info? T with
 | none=>simp[hi]at h
 | some i =>
  simp only[hi,zAZ]at h
  cases hz:i.zero with
  | none=>simp[hz]at h
  | some z=>exact⟨i,z,rfl,hz,by simpa [hz] using h⟩
theorem zAb9 {P:Program}{w:World}{T:TypeId}{parts:Array (Nat×Value)}{v:Value}(h:zCM P T parts.toList=some v):(Instr.build T parts).run P w = .ok v w:=by
 unfold zCM at h
 split at h
 ·rename_i fs hu
  split at h
  ·rename_i places hp
   cases hz:zBI P T with
   | none=>simp[hz]at h
   | some z =>
    simp only[hz,zAZ]at h
    cases hf:zQ1 (places.toArray[·]?) z parts.toList with
    | none=>simp only[hf,Option.map_none,reduceCtorEq]at h
    | some r =>
     simp only[hf,zAT,zAn]at h
     subst h
     obtain⟨i,zv,hi,hzv,rfl⟩:=zMA hz
     refine run_build w T parts r ?_
     unfold Program.built
     simp only[hi,hu,hzv,hp]
     exact zVZ _ _ _ hf
  ·cases h
 ·rename_i n e hu
  split at h
  ·rename_i ie hie
   cases hz:zBI P T with
   | none=>simp[hz]at h
   | some z =>
    simp only[hz,zAZ]at h
    cases hf:zQ1 (λj=>some (j*ie.size,ie.size)) z parts.toList with
    | none=>simp only[hf,Option.map_none,reduceCtorEq]at h
    | some r =>
     simp only[hf,zAT,zAn]at h
     subst h
     obtain⟨i,zv,hi,hzv,rfl⟩:=zMA hz
     refine run_build w T parts r ?_
     unfold Program.built
     simp only[hi,hu,hzv,hie]
     exact zVZ _ _ _ hf
  ·cases h
 ·cases h
theorem zAhP {P:Program}{w:World}{T e:TypeId}{len:Nat}{parts:Array (Nat×Value)}{cs:Array Value}(hu:P.underlying T=some (.slice e))(h:zF6 P e len parts.toList=some cs) :
  (Instr.buildSlice T len parts).run P w = .ok (.slice (some ⟨w.heap.size,0,none⟩) len len) { w with heap:=w.heap.push (.cells cs e (0,0)) }:=by
 unfold zF6 at h
 split at h
 ·cases h
 ·rename_i hc
  cases hz:zBI P e with
  | none=>simp[hz]at h
  | some z =>
   simp only[hz,zAZ]at h
   split at h
   ·rename_i hzs
    obtain⟨i,zv,hi,hzv,rfl⟩:=zMA hz
    have hf:=zVZ _ _ _ h
    have hle:¬ (len*P.cellsOf e > 2 ^ 24):=by omega
    simp only[Instr.buildSlice,Sem.run_bind,zCI hu,Result.andThen_ok,zEn hi]
    rw[if_neg hle]
    by_cases h0:len*P.cellsOf e=0
    ·rw[if_pos h0]
     rw[h0]at hf ⊢
     have e0:zSo zv.cells 0=Array.map (λx=>(#[]:Array Value)[x % (#[]:Array Value).size]!) (Array.range 0):=by simp[zSo]
     rw[e0]at hf
     simp only[Sem.run_bind,Sem.run_pure,Result.andThen_ok,hf,newRow,run_newObj]
    ·rw[if_neg h0]
     have hzr:(zeroValue e).run P w = .ok zv w:=by simp[zeroValue,zJJ hi,hzv]
     simp only[Sem.run_bind,hzr,Result.andThen_ok,Sem.run_pure]
     unfold zSo at hf
     simp only[hf,newRow,Sem.run_bind,run_newObj,Result.andThen_ok,Sem.run_pure]
   ·cases h
theorem zAgu {P:Program}{w:World}{size n:Nat}{H:zAx}{x:Value}{new:Array Value}(h:zED size H x=some (n,new)):(Builtin.lenOf x).run P w = .ok n w:=by
 cases x<;>simp only[zED,reduceCtorEq]at h
 ·split at h
  ·simp only[zAn,Prod.mk.injEq]at h
   simp[Builtin.lenOf,h.1]
  ·cases h
 ·rename_i a l c
  split at h
  ·simp only[zAn,Prod.mk.injEq]at h
   simp[Builtin.lenOf];omega
  ·split at h
   ·split at h
    ·split at h
     ·simp only[zAn,Prod.mk.injEq]at h
      simp[Builtin.lenOf,h.1]
     ·cases h
    ·cases h
   ·cases h
theorem zRy {P:Program}{w:World}{size n m:Nat}{x:Value}{new:Array Value}(h:zED size w.heap x=some (n,new))(hm:m<=n):(Builtin.firstCells size m x).run P w = .ok (new.extract 0 (m*size)) w:=by
 have hms:m*size<=n*size:=zBq _ hm
 cases x<;>simp only[zED,reduceCtorEq]at h
 ·rename_i s
  split at h
  ·rename_i h1
   simp only[zAn,Prod.mk.injEq]at h
   obtain⟨rfl,rfl⟩:=h
   subst h1
   simp only[Builtin.firstCells,Sem.run_pure,zCB]
   rw[ByteArray.data_extract,Array.map_extract]
  ·cases h
 ·rename_i a l c
  split at h
  ·rename_i h0
   simp only[zAn,Prod.mk.injEq]at h
   obtain⟨rfl,rfl⟩:=h
   have hm0:m=0:=by omega
   subst hm0
   rcases a with _|a
   ·simp[Builtin.firstCells]
   ·simp only[Builtin.firstCells,Nat.zero_mul]
    rw[zW3];rfl
  ·split at h
   ·split at h
    ·rename_i c' t f hg
     split at h
     ·rename_i hle
      simp only[zAn,Prod.mk.injEq]at h
      obtain⟨rfl,rfl⟩:=h
      simp only[Builtin.firstCells]
      rw[zTR hg (by omega)]
      congr 1
      apply Array.ext'
      simp[zDf,zBN hms]
     ·cases h
    ·cases h
   ·cases h
theorem zQd {size n:Nat}{H:zAx}{x:Value}{new:Array Value}(h:zED size H x=some (n,new)):new.size=n*size:=by
 cases x<;>simp only[zED,reduceCtorEq]at h
 ·rename_i s
  split at h
  ·rename_i h1
   simp only[zAn,Prod.mk.injEq]at h
   obtain⟨rfl,rfl⟩:=h
   simp only[Array.size_map,h1,zCB]
   rfl
  ·cases h
 ·rename_i a l c
  split at h
  ·simp only[zAn,Prod.mk.injEq]at h
   obtain⟨rfl,rfl⟩:=h
   simp
  ·split at h
   ·split at h
    ·split at h
     ·simp only[zAn,Prod.mk.injEq]at h
      obtain⟨rfl,rfl⟩:=h
      simp;omega
     ·cases h
    ·cases h
   ·cases h
theorem zV0 {P:Program}{w:World}{b o:Nat}{vs:Array Value}{H:zAx}(h:stA w.heap b o vs=some H):(storeCells ⟨b,o,none⟩ vs.toList).run P w = .ok () { w with heap:=H }:=by
 unfold stA at h
 split at h
 ·rename_i c t f hg
  split at h
  ·rename_i hc
   cases h
   have hst:=zZD (P:=P) (b:=b) (o:=o) (T:=t) (f:=f) vs.toList 0 c w hg (by simp;omega) (by simpa using hc.2.1) (by
    intro v hv
    exact(zBA.1 hc.2.2) v (by simpa using hv))
   rw[hst]
   simp[spl]
  ·cases h
 ·cases h
theorem zAca {P:Program}{o:Oper}{ρ:Operand->Value}{H:zAx}{k:zAm}{T U ty e:TypeId}{s x:Value}
  (hrun:∀ w,(execOp ρ o).run P w=((Builtin.append_ #[T,U] ty #[s,x]).run P w).andThen λv w' => .ok (.value v) w')
  (hT:P.underlying T=some (.slice e)) (hU:P.underlying U=some .string\/∃ e',P.underlying U=some (.slice e')) (hz:zAbR P e=true)
  (h:zIw e (P.cellsOf e) (P.bytesOf e) H s x k):zUU P o ρ H k:=by
 obtain⟨base,len,cap,n,new,rfl,hx,hone,hin,hgrow⟩:=h
 unfold zAbR at hz
 cases hzc:zBI P e with
 | none=>simp[hzc]at hz
 | some z =>
  simp only[hzc]at hz
  have hzs:z.size=P.cellsOf e:=zA3 hz
  obtain⟨i,zv,hi,hzv,hzcells⟩:=zMA hzc
  intro w hw
  subst hw
  have hlen:=zAgu (P:=P) (w:=w) hx
  have hnew:=zRy (P:=P) (w:=w) hx (zAh n)
  rw[show new.extract 0 (n*P.cellsOf e)=new from by rw[<- zQd hx];simp]at hnew
  rcases hU with hU|⟨e',hU⟩
  all_goals
   by_cases hle:len+n<=cap
   ·have hin:=hin hle
    rcases base with _|⟨b,off,_|sp⟩
    ·refine⟨.value (.slice none (len+n) cap),w,?_,zJI.rfl' w,.inl ⟨_,rfl,hin⟩⟩
     rw[hrun]
     simp[Builtin.append_,zCI hT,zEn hi,zCI hU,hlen,hle,hnew]
    ·obtain⟨h',hst,hk⟩:=hin
     refine⟨.value (.slice (some ⟨b,off,none⟩) (len+n) cap),{ w with heap:=h' },?_,⟨rfl,rfl,rfl,zRw hst⟩,.inl ⟨_,rfl,hk⟩⟩
     rw[hrun]
     simp[Builtin.append_,zCI hT,zEn hi,zCI hU,hlen,hle,hnew,zIx,zV0 hst]
    ·exact hin.elim
   ·obtain⟨hb,hb0,old,hold,hk⟩:=hgrow (by omega)
    have hby:i.bytes=P.bytesOf e:=by simp[Program.bytesOf,hi]
    have hfit:=growslice_fits (need:=len+n) (old:=cap) (bytes:=P.bytesOf e) (by omega) hb
    have h48:¬ (281474976710656<Builtin.nextslicecap (len+n) cap*P.bytesOf e):=by omega
    have hnb:¬ (P.bytesOf e=0):=by omega
    have hoc:=zRy (P:=P) (w:=w.drew) (m:=len) (x := .slice base len cap) hold (zAh _)
    rw[show old.extract 0 (len*P.cellsOf e)=old from by rw[<- zQd hold];simp]at hoc
    have hnc:=zRy (P:=P) (w:=w.drew) (m:=n) hx (zAh _)
    rw[show new.extract 0 (n*P.cellsOf e)=new from by rw[<- zQd hx];simp]at hnc
    have hn63:len+n<2 ^ 63:=by
     have:(len+n)*1<=(len+n)*P.bytesOf e:=Nat.mul_le_mul_left _ hb0
     omega
    refine⟨.value (.slice (some ⟨w.heap.size,0,none⟩) (len+n) (grownCap w (len+n) cap e)),{ w.drew with heap:=w.heap.push (.cells (old++new++Builtin.zeroCells zv.cells (grownCap w (len+n) cap e-(len+n))) e (0,0)) },?_,⟨rfl,rfl,rfl,zF5.push⟩,.inl ⟨_,rfl,?_⟩⟩
    ·rw[hrun]
     simp[Builtin.append_,zCI hT,zEn hi,zCI hU,hlen,hle,hby,zJJ hi,hnb,h48,Question.forced,hoc,hnc,zeroValue,hzv,newRow,grownCap]
     rfl
    ·refine hk _ _ ?_ ?_ ?_
     ·simp[grownCap,Question.cut]
     ·have hp:0<2 ^ 63-(len+n):=by omega
      have:=Nat.mod_lt (w.tape w.drawn (.appendCap (len+n) cap e)) hp
      simp only[grownCap,Question.cut]
      omega
     ·simp[Builtin.zeroCells,hzcells,hzs]
theorem zAeF {P:Program}{o:Oper}{ρ:Operand->Value}{H:zAx}{k:zAm}{T U ty e:TypeId}{s x:Value}
  (hrun:∀ w,(execOp ρ o).run P w=((Builtin.append_ #[T,U] ty #[s,x]).run P w).andThen λv w' => .ok (.value v) w')
  (hT:P.underlying T=some (.slice e)) (hU:∃ ku,P.underlying U=some (.int ku)) (hz:zAbR P e=true)
  (h:zAer e (P.cellsOf e) (P.bytesOf e) H s x (zBI P e) k):zUU P o ρ H k:=by
 obtain⟨base,len,cap,kx,n,zc,rfl,rfl,hnby,hn63,hzz,hone,hin,hgrow⟩:=h
 unfold zAbR at hz
 cases hzc:zBI P e with
 | none=>simp[hzc]at hz
 | some z =>
  simp only[hzc]at hz
  have hzs:z.size=P.cellsOf e:=zA3 hz
  rw[hzc]at hzz
  cases hzz
  obtain⟨i,zv,hi,hzv,hzcells⟩:=zMA hzc
  have hby:i.bytes=P.bytesOf e:=by simp[Program.bytesOf,hi]
  have hw63:IntKind.i64.wrap (n:Int)=n:=by
   simp only[IntKind.wrap,IntKind.signed,IntKind.bits]
   simp
   omega
  have hzr:Builtin.zeroCells zv.cells n=zSo zc (n*P.cellsOf e):=by
   unfold Builtin.zeroCells zSo
   rw[hzcells,hzs]
  have hneg:¬ ((n:Int)<0):=by omega
  have hb48:¬ ((n:Int)*(P.bytesOf e:Nat) > 2 ^ 48):=by
   have:((n*P.bytesOf e:Nat):Int)<=140737488355328:=by omega
   rw[Int.natCast_mul]at this
   omega
  have hb48':¬ (281474976710656<(n:Int)*(P.bytesOf e:Nat)):=by omega
  have hz0:n*P.cellsOf e=0->zSo zc (n*P.cellsOf e)=#[]:=λh=>by rw[h];simp[zSo]
  obtain⟨ku,hU⟩:=hU
  intro w hw
  subst hw
  by_cases hle:len+n<=cap
  ·have hin:=hin hle
   rcases base with _|⟨b,off,_|sp⟩
   ·refine⟨.value (.slice none (len+n) cap),w,?_,zJI.rfl' w,.inl ⟨_,rfl,hin⟩⟩
    rw[hrun]
    by_cases h0:n*P.cellsOf e=0
    ·simp[Builtin.append_,zCI hT,zEn hi,zCI hU,asInt,asIntOf,hw63,hneg,zJJ hi,hby,hb48',hle,h0]
    ·simp[Builtin.append_,zCI hT,zEn hi,zCI hU,asInt,asIntOf,hw63,hneg,zJJ hi,hby,hb48',hle,h0,zeroValue,hzv]
   ·obtain⟨h',hst,hk⟩:=hin
    refine⟨.value (.slice (some ⟨b,off,none⟩) (len+n) cap),{ w with heap:=h' },?_,⟨rfl,rfl,rfl,zRw hst⟩,.inl ⟨_,rfl,hk⟩⟩
    rw[hrun]
    have hs:=zV0 (P:=P) hst
    by_cases h0:n*P.cellsOf e=0
    ·rw[hz0 h0]at hs
     simp[Builtin.append_,zCI hT,zEn hi,zCI hU,asInt,asIntOf,hw63,hneg,zJJ hi,hby,hb48',hle,h0,zIx]
     rw[show([]:List Value)=(#[]:Array Value).toList from rfl,hs]
     rfl
    ·simp[Builtin.append_,zCI hT,zEn hi,zCI hU,asInt,asIntOf,hw63,hneg,zJJ hi,hby,hb48',hle,h0,zeroValue,hzv,hzr,zIx,hs]
   ·exact hin.elim
  ·obtain⟨hb,hb0,old,hold,hk⟩:=hgrow (by omega)
   have hfit:=growslice_fits (need:=len+n) (old:=cap) (bytes:=P.bytesOf e) (by omega) hb
   have h48:¬ (281474976710656<Builtin.nextslicecap (len+n) cap*P.bytesOf e):=by omega
   have hnb:¬ (P.bytesOf e=0):=by omega
   have hoc:=zRy (P:=P) (w:=w.drew) (m:=len) (x := .slice base len cap) hold (zAh _)
   rw[show old.extract 0 (len*P.cellsOf e)=old from by rw[<- zQd hold];simp]at hoc
   have hn63':len+n<2 ^ 63:=by
    have:(len+n)*1<=(len+n)*P.bytesOf e:=Nat.mul_le_mul_left _ hb0
    omega
   have hmax:¬ (((len:Int)+(n:Int)) > IntKind.i64.max):=by
    have:IntKind.i64.max=9223372036854775807:=rfl
    omega
   refine⟨.value (.slice (some ⟨w.heap.size,0,none⟩) (len+n) (grownCap w (len+n) cap e)),{ w.drew with heap:=w.heap.push (.cells (old++zSo zc (n*P.cellsOf e)++Builtin.zeroCells zv.cells (grownCap w (len+n) cap e-(len+n))) e (0,0)) },?_,⟨rfl,rfl,rfl,zF5.push⟩,.inl ⟨_,rfl,?_⟩⟩
   ·rw[hrun]
    have hmax':¬ (9223372036854775807<(len:Int)+(n:Int)):=by omega
    by_cases h0:n*P.cellsOf e=0
    ·simp[Builtin.append_,zCI hT,zEn hi,zCI hU,asInt,asIntOf,hw63,hneg,hmax',hb48',hle,hby,zJJ hi,hnb,h48,Question.forced,hoc,h0,show zSo zc 0=#[] from by simp[zSo],zeroValue,hzv,newRow,grownCap]
     rfl
    ·simp[Builtin.append_,zCI hT,zEn hi,zCI hU,asInt,asIntOf,hw63,hneg,hmax',hb48',hle,hby,zJJ hi,hnb,h48,Question.forced,hoc,h0,zeroValue,hzv,hzr,newRow,grownCap]
     rfl
   ·refine hk _ _ ?_ ?_ ?_
    ·simp[grownCap,Question.cut]
    ·have hp:0<2 ^ 63-(len+n):=by omega
     have:=Nat.mod_lt (w.tape w.drawn (.appendCap (len+n) cap e)) hp
     simp only[grownCap,Question.cut]
     omega
    ·simp[Builtin.zeroCells,hzcells,hzs]
theorem zAeG {P:Program}{o:Oper}{ρ:Operand->Value}{H:zAx}{k:zAm}{T U ty e:TypeId}{d s:Value}{i:TypeInfo}
  (hrun:∀ w,(execOp ρ o).run P w=((Builtin.copy_ #[T,U] ty #[d,s]).run P w).andThen λv w' => .ok (.value v) w')
  (hT:P.underlying T=some (.slice e)) (hi:P.info? e=some i) (h:zQ0 (P.cellsOf e) H d s k):zUU P o ρ H k:=by
 obtain⟨n,new,base,len,cap,hs,rfl,h⟩:=h
 intro w hw
 subst hw
 have hlen:=zAgu (P:=P) (w:=w) hs
 have hf:=zRy (P:=P) (w:=w) (m:=Nat.min n len) hs (Nat.min_le_left _ _)
 rcases base with _|⟨b,off,_|sp⟩
 ·refine⟨.value (.int .i64 (Nat.min n len)),w,?_,zJI.rfl' w,.inl ⟨_,rfl,h⟩⟩
  rw[hrun]
  simp only[Builtin.copy_,zDk,zC5,zC4,Sem.run_bind,zCI hT,Result.andThen_ok,hlen,zEn hi,hf,Sem.run_pure]
  rfl
 ·obtain⟨h',hst,hk⟩:=h
  refine⟨.value (.int .i64 (Nat.min n len)),{ w with heap:=h' },?_,⟨rfl,rfl,rfl,zRw hst⟩,.inl ⟨_,rfl,hk⟩⟩
  rw[hrun]
  simp only[Builtin.copy_,zDk,zC5,zC4,Sem.run_bind,zCI hT,Result.andThen_ok,hlen,zEn hi,hf,zV0 hst,Sem.run_pure]
  rfl
 ·exact h.elim
theorem zTU:∀ {l:List Value} {bs:List UInt8},bytesOf l=some bs->∃ ns:List Int,l=ns.map (Value.int .u8)/\bs=ns.map λn=>UInt8.ofNat n.toNat
 | [],bs,h=>by simp[bytesOf]at h;exact⟨[],rfl,by simp[h]⟩
 | v::l,bs,h=>by
  unfold bytesOf at h
  split at h
  ·rename_i e;cases e
  ·rename_i n r e
   cases e
   cases hb:bytesOf l with
   | none=>simp[hb]at h
   | some b =>
    simp only[hb,zAT,zAn]at h
    obtain⟨ns,rfl,rfl⟩:=zTU hb
    exact⟨n::ns,rfl,by simp[<- h]⟩
  ·cases h
theorem zAhQ {P:Program}{w:World}{S D e:TypeId}(hs:P.underlying S=some (.slice e))(he:P.underlying e=some (.int .u8))(hd:P.underlying D=some .string){x v:Value}(h:b2s w.heap x=some v) :
  (convert S D x).run P w = .ok v w:=by
 unfold b2s at h
 split at h
 ·rename_i a l c
  rw[run_convert_bytes_string w S D e a l c hs he hd]
  simp only[zED]at h
  split at h
  ·rename_i h0
   subst h0
   simp only[zAZ,bytesOf,zAT,zAn]at h
   subst h
   rcases a with _|a
   ·rfl
   ·have hl:=zW3 (P:=P) (w:=w) (a:=a)
    have hl':(loadCells a 0).run P w = .ok (([]:List Int).map (Value.int .u8)).toArray w:=hl
    rw[run_bytesToString w _ _ _ [] hl'];rfl
  ·split at h
   ·rename_i b o
    split at h
    ·rename_i cs t f hg
     split at h
     ·rename_i hle
      simp only[zAZ]at h
      cases hb:bytesOf (cs.extract o (o+l*1)).toList with
      | none=>simp only[hb,Option.map_none,reduceCtorEq]at h
      | some bs =>
       simp only[hb,zAT,zAn]at h
       subst h
       obtain⟨ns,hns,rfl⟩:=zTU hb
       rw[zCB]at hle hns
       have hl:=zTR (P:=P) hg hle
       have hns':cs.extract o (o+l)=(ns.map (Value.int .u8)).toArray:=by rw[<- hns]
       rw[hns']at hl
       rw[run_bytesToString w _ _ _ ns hl,foldl_push_bytes]
       simp only[ByteArray.data_empty,Array.empty_append]
     ·simp at h
    ·simp at h
   ·simp at h
 ·cases h
theorem zAhR {P:Program}{o:Oper}{ρ:Operand->Value}{H:zAx}{k:zAm}{S D e:TypeId}{x:Value}
  (hrun:∀ w,(execOp ρ o).run P w=((convert S D x).run P w).andThen λv w' => .ok (.value v) w')
  (hs:P.underlying S=some .string) (hd:P.underlying D=some (.slice e)) (he:P.underlying e=some (.int .u8)) (h:zAaW e H x k):zUU P o ρ H k:=by
 obtain⟨str,rfl,hsz,hk⟩:=h
 intro w hw
 subst hw
 have hp:0<2 ^ 63-str.size:=by omega
 have hm:=Nat.mod_lt (w.tape w.drawn (.appendCap str.size 0 e)) hp
 have hk:=hk (grownCap w str.size 0 e) (by simp[grownCap,Question.cut]) (by simp only[grownCap,Question.cut];omega)
 have hsize:(Array.map (λb:UInt8=>Value.int IntKind.u8 (b.toNat:Int)) str.data++Array.replicate (grownCap w str.size 0 e-str.size) (Value.int IntKind.u8 0)).size=grownCap w str.size 0 e:=by
  have:str.data.size=str.size:=rfl
  have hge:str.size<=grownCap w str.size 0 e:=by simp[grownCap,Question.cut]
  simp[this];omega
 generalize hc:Array.map (λb:UInt8=>Value.int IntKind.u8 (b.toNat:Int)) str.data++Array.replicate (grownCap w str.size 0 e-str.size) (Value.int IntKind.u8 0)=cs at hsize hk
 refine⟨.value (.slice (some ⟨w.heap.size,0,none⟩) str.size (grownCap w str.size 0 e)),{ w.drew with heap:=w.heap.push (.cells cs e (grownCap w str.size 0 e,grownCap w str.size 0 e+1)) },?_,⟨rfl,rfl,rfl,zF5.push⟩,.inl ⟨_,rfl,hk⟩⟩
 rw[hrun]
 have hfr:({ w.drew with heap:=w.heap.push (.cells cs e (0,0)) }:World).freeze ⟨w.heap.size,cs.size,none⟩ 1 = { w.drew with heap:=w.heap.push (.cells cs e (cs.size,cs.size+1)) }:=by
  unfold World.freeze
  simp only[if_neg (by decide:¬ (1=0))]
  congr 1
  apply Array.ext_getElem?
  intro j
  rw[Array.getElem?_modify]
  by_cases hj:w.heap.size=j
  ·subst hj;simp
  ·simp[hj,zCf,show j≠w.heap.size from λh=>hj h.symm]
 have hsh:({ w.drew with heap:=w.heap.push (.cells cs e (0,0)) }:World).shape? w.heap.size=some (e,cs.size):=by
  simp[World.shape?]
 have hcv:(convert S D (.string str)).run P w=(Conv.stringToBytes e str).run P w:=by
  simp[convert,zCI hs,zCI hd,zCI he]
 rw[hcv]
 unfold Conv.stringToBytes
 have hch:(choose (.appendCap str.size 0 e)).run P w = .ok (grownCap w str.size 0 e) w.drew:=by
  simp[Question.forced,grownCap]
 simp only[Sem.run_bind,hch,Result.andThen_ok,hc,newRow,run_newObj,Sem.run_pure,markStringish,run_shape]
 have hsh':World.shape? { heap:=w.drew.heap.push (Obj.cells cs e (0,0)),tape:=w.drew.tape,drawn:=w.drew.drawn,os:=w.drew.os,output:=w.drew.output } w.drew.heap.size=some (e,cs.size):=hsh
 rw[hsh']
 simp only[run_freeze,Result.andThen_ok]
 have hfr':World.freeze { heap:=w.drew.heap.push (Obj.cells cs e (0,0)),tape:=w.drew.tape,drawn:=w.drew.drawn,os:=w.drew.os,output:=w.drew.output } ⟨w.drew.heap.size,cs.size,none⟩ 1=_:=hfr
 rw[hfr',hsize]
 rfl
theorem zRz {α β γ:Type}(r:Result α)(f:α->World->Result β)(g:β->World->Result γ):(r.andThen f).andThen g=r.andThen λa w=>(f a w).andThen g:=by
 cases r<;>rfl
def zAjG (P:Program)(o:Oper)(ρ:Operand->Value)(H:zAx)(k:zAm):Prop :=
 (∃ c f,o.op = .call c/\c.callee = .value (.func f)/\zPt P f=true/\zAA P f (c.args.toList.map ρ) H k) \/
 ∃ c x,o.op = .call c/\c.callee = .value x/\zDQ P (ρ x) (c.args.toList.map ρ) H k
theorem zGO {P:Program}{o:Oper}{ρ:Operand->Value}{H:zAx}{k:zAm}{r:Option Value}{s:Sem Value}
  (hrun:∀ w,(execOp ρ o).run P w=(s.run P w).andThen λv w' => .ok (.value v) w') (h:Mpu r λv=>k v H) (hr:∀ v,r=some v->∀ w:World,w.heap=H->s.run P w = .ok v w):zUU P o ρ H k:=by
 obtain⟨v,hv,hk⟩:=h
 exact zPv (λw hw=>by rw[hrun,hr v hv w hw];rfl) hk
theorem zAgv {P:Program}{o:Oper}{ρ:Operand->Value}{H:zAx}{k:zAm}{r:Option zAx}{s:Sem Unit}
  (hrun:∀ w,(execOp ρ o).run P w=(s.run P w).andThen λ_ w' => .ok .skip w') (h:Mwr r λh=>k undef h) (hr:∀ h,r=some h->∀ w:World,w.heap=H->s.run P w = .ok () { w with heap:=h }) (hs:∀ h,r=some h->zF5 H h):zUU P o ρ H k:=by
 obtain⟨v,hv,hk⟩:=h
 exact zVX (λw hw=>by rw[hrun,hr v hv w hw];rfl) hk (hs v hv)
theorem zXa {P:Program}{o:Oper}{ρ:Operand->Value}{H H':zAx}{k:zAm}{s:Sem Value}{v:Value}
  (hrun:∀ w,(execOp ρ o).run P w=(s.run P w).andThen λv w' => .ok (.value v) w') (hk:k v H') (hr:∀ w:World,w.heap=H->s.run P w = .ok v { w with heap:=H' }) (hs:zF5 H H':=by first|exact zF5.push|exact zF5.rfl'):zUU P o ρ H k :=
 zUW (λw hw=>by rw[hrun,hr w hw];rfl) hk hs
theorem zPw {P:Program}{o:Oper}{ρ:Operand->Value}{H:zAx}{k:zAm}{s:Sem Value}
  (hrun:∀ w,(execOp ρ o).run P w=(s.run P w).andThen λv w' => .ok (.value v) w') (h:zQx P s H k):zUU P o ρ H k:=λw hw=>by
 obtain⟨v,w',e,hs,hk⟩:=h w hw
 exact⟨.value v,w',by rw[hrun,e];rfl,hs,.inl ⟨v,rfl,hk⟩⟩
theorem zAgw {P:Program}{o:Oper}{ρ:Operand->Value}{H:zAx}{k:zAm}{s:Sem Unit}
  (hrun:∀ w,(execOp ρ o).run P w=(s.run P w).andThen λ_ w' => .ok .skip w') (h:Msu P s H k):zUU P o ρ H k:=λw hw=>by
 obtain⟨w',e,hs,hk⟩:=h w hw
 exact⟨.skip,w',by rw[hrun,e];rfl,hs,.inr ⟨rfl,hk⟩⟩
theorem zPx {P:Program}{T:TypeId}(h:zYr P T=true):∃ i,P.info? T=some i:=zCb.1 h
theorem zXb {P:Program}{T:TypeId}(h:zAhw P T=true):∃ d,P.underlying T=some d:=zCb.1 h
theorem zAhS {P:Program}{w:World}{A:Array TypeId}{T:TypeId}{l:List Value}{v:Value}(h:zAez true l=some v):(Builtin.min_ A T l.toArray).run P w = .ok v w:=by
 unfold zAez at h
 split at h
 ·simp only[if_true,zAn]at h
  subst h
  simp[Builtin.min_,Builtin.min2]
 ·cases h
theorem zAhT {P:Program}{w:World}{A:Array TypeId}{T:TypeId}{l:List Value}{v:Value}(h:zAez false l=some v):(Builtin.max_ A T l.toArray).run P w = .ok v w:=by
 unfold zAez at h
 split at h
 ·simp only[zAb,if_false,zAn]at h
  subst h
  simp[Builtin.max_,Builtin.max2]
 ·cases h
theorem zQe {α:Type}{a:Array α}{x y:α}(h:a.toList=[x,y]):a=#[x,y]:=by
 obtain⟨l⟩:=a;simp only at h;rw[h]
theorem zPy {α:Type}{a:Array α}{x:α}(h:a.toList=[x]):a=#[x]:=by
 obtain⟨l⟩:=a;simp only at h;rw[h]
set_option maxHeartbeats 2000000 in
theorem zAcb {P:Program}{q:Bool}{o:Oper}{ρ:Operand->Value}{H:zAx}{k:zAm}(hfunc:∀ f,ρ (.func f) = .func (.func f) #[] #[])(h:opX P q o ρ H k):zAjG P o ρ H k\/zUU P o ρ H k:=by
 unfold opX at h
 cases ho:o.op with
 | move x =>
  simp only[ho,opR]at h
  exact .inr (zPv (λw _=>by simp[execOp,ho]) h)
 | assign x =>
  simp only[ho,opR]at h
  exact .inr (zPv (λw _=>by simp[execOp,ho]) h)
 | pick c a b =>
  simp only[ho,opR]at h
  exact .inr (zGO (s:=do pure (if <- asBool (ρ c) then ρ a else ρ b)) (λw=>by simp[execOp,ho,zRz]) h (λv hv w _=>zAeA hv))
 | alloc T =>
  simp only[ho,opR]at h
  obtain⟨cs,hc,hk⟩:=h
  exact .inr (zXa (s:=Instr.alloc T true (.tuple #[])) (λw=>by simp[execOp,ho]) hk (λw hw=>by rw[zAb5 hc,hw]))
 | box T x =>
  simp only[ho,opR]at h
  obtain⟨cs,hc,hk⟩:=h
  cases hc
  exact .inr (zXa (s:=Instr.box T (ρ x)) (λw=>by simp[execOp,ho]) hk (λw hw=>by rw[zAhx,hw]))
 | build T parts =>
  simp only[ho,opR]at h
  refine .inr (zGO (s:=Instr.build T (parts.map λ(i,x)=>(i,ρ x))) (λw=>by simp[execOp,ho]) h (λv hv w _=>zAb9 ?_))
  rw[<- hv];simp
 | buildSlice T len parts =>
  simp only[ho,opR]at h
  cases hu:P.underlying T with
  | none=>simp[hu]at h
  | some d =>
   cases d<;>simp only[hu]at h<;>first|exact h.elim|skip
   rename_i e
   obtain⟨cs,hc,hk⟩:=h
   refine .inr (zXa (s:=Instr.buildSlice T len (parts.map λ(i,x)=>(i,ρ x))) (λw=>by simp[execOp,ho]) hk (λw hw=>?_))
   rw[zAhP (cs:=cs) hu (by rw[<- hc];simp),hw]
 | load T a =>
  simp only[ho,opR]at h
  cases ha:zNc P T with
  | true =>
   simp only[ha,cond_true]at h
   exact .inr (zGO (s:=Instr.loadAt T (ρ a)) (λw=>by simp[execOp,ho]) h (λv hv w hw=>zW5 ha hv w hw))
  | false =>
   cases hs:zAbQ P T with
   | true =>
    simp only[ha,hs,cond_true,cond_false]at h
    exact .inr (zGO (s:=Instr.loadAt T (ρ a)) (λw=>by simp[execOp,ho]) h (λv hv w hw=>zW4 (zTS hs).1 ha hv w hw))
   | false=>simp only[ha,hs,cond_false]at h
 | store T a x =>
  simp only[ho,opR]at h
  cases ha:zNc P T with
  | true =>
   simp only[ha,cond_true]at h
   exact .inr (zAgv (s:=Instr.storeAt T (ρ a) (ρ x)) (λw=>by simp[execOp,ho]) h (λv hv w hw=>zAaY ha hv w hw) (λh e=>zAb4 e))
  | false =>
   cases hs:zAbQ P T with
   | true =>
    simp only[ha,hs,cond_true,cond_false]at h
    exact .inr (zAgv (s:=Instr.storeAt T (ρ a) (ρ x)) (λw=>by simp[execOp,ho]) h (λv hv w hw=>zAaX (zTS hs).2.2 hv w hw) (λh e=>zAb3 e))
   | false=>simp only[ha,hs,cond_false]at h
 | nilCheck x =>
  simp only[ho,opR]at h
  obtain⟨v,hv,hk⟩:=h
  exact .inr (zPv (λw _=>zAhy ho hv) hk)
 | binOp op T x y yT =>
  simp only[ho,opR]at h
  exact .inr (zGO (s:=do eqGuard op T x y (ρ x) (ρ y);binOp op T (ρ x) (ρ y)) (λw=>by simp[execOp,ho,zRz]) h (λv hv w _=>zAhO hv))
 | unOp op T x =>
  simp only[ho,opR]at h
  exact .inr (zGO (s:=Op.unary op (ρ x)) (λw=>by simp[execOp,ho]) h (λv hv w _=>zAjD hv))
 | convert s d x =>
  simp only[ho,opR]at h
  have hrun:∀ w,(execOp ρ o).run P w=((convert s d (ρ x)).run P w).andThen λv w' => .ok (.value v) w':=λw=>by simp[execOp,ho]
  split at h
  all_goals (rename_i heq;split at heq)
  all_goals (try split at heq)
  all_goals (first|(cases heq;done)|skip)
  all_goals first
   | exact .inr h
   | exact h.elim
   | (cases heq;exact .inr (zPw hrun h))
   | skip
  ·rename_i ks kd hs hd
   cases heq
   refine .inr (zGO hrun h (λv hv w _=>?_))
   unfold cvI at hv
   split at hv
   ·rename_i k' n e
    cases hv
    rw[e]
    simp[convert,zCI hs,zCI hd,Conv.intToInt]
   ·cases hv
  ·rename_i hs hd
   cases heq
   refine .inr (zGO hrun h (λv hv w _=>?_))
   unfold idS at hv
   split at hv
   ·rename_i st e
    cases hv
    rw[e]
    simp[convert,zCI hs,zCI hd]
   ·cases hv
  ·rename_i e hs hd _ he
   cases heq
   exact .inr (zGO hrun h (λv hv w hw=>zAhQ hs he hd (by rw[hw];exact hv)))
  ·rename_i e hs hd _ he
   cases heq
   exact .inr (zAhR hrun hs hd he h)
 | makeFunc fn a b =>
  simp only[ho,opR]at h
  exact .inr (zPv (λw _=>by simp[execOp,ho,Instr.makeFunc]) h)
 | slice T x lo hi mx =>
  simp only[ho,opR]at h
  cases hu:P.underlying T with
  | none=>simp only[hu]at h;exact .inr h
  | some d =>
   cases d<;>simp only[hu]at h<;>first|exact .inr h|skip
   ·cases mx with
    | some _=>simp at h
    | none =>
     simp only[Option.isNone_none,cond_true]at h
     exact .inr (zGO (s:=Instr.sliceAt T (ρ x) (lo.map ρ) (hi.map ρ) none) (λw=>by simp[execOp,ho]) h (λv hv w _=>zAhJ hu hv))
   ·rename_i e
    cases he:zYr P e<;>simp only[he,cond_true,cond_false]at h
    exact .inr (zGO (s:=Instr.sliceAt T (ρ x) (lo.map ρ) (hi.map ρ) (mx.map ρ)) (λw=>by simp[execOp,ho]) h (λv hv w _=>zAhH hu (zPx he) hv))
   ·rename_i n e
    cases he:zYr P e<;>simp only[he,cond_true,cond_false]at h
    exact .inr (zGO (s:=Instr.sliceAt T (ρ x) (lo.map ρ) (hi.map ρ) (mx.map ρ)) (λw=>by simp[execOp,ho]) h (λv hv w _=>zAhI hu (zPx he) hv))
 | fieldAddr S x f =>
  simp only[ho,opR]at h
  cases hu:P.underlying S with
  | none=>simp[hu]at h
  | some d =>
   cases d<;>simp only[hu]at h<;>first|exact h.elim|skip
   rename_i fs
   cases hf:fs[f]? with
   | none=>simp[hf]at h
   | some fd =>
    simp only[hf]at h
    cases hz:Nat.beq (P.cellsOf fd.type) 0 with
    | true=>simp only[hz,cond_true]at h;exact .inr h
    | false =>
     simp only[hz,cond_false]at h
     exact .inr (zGO (s:=Instr.fieldAt S (ρ x) f) (λw=>by simp[execOp,ho]) h (λv hv w _=>zAhz hu hf (λe=>by rw[e]at hz;cases hz) hv))
 | field S x f =>
  simp only[ho,opR]at h
  cases hu:P.underlying S with
  | none=>simp[hu]at h
  | some d =>
   cases d<;>simp only[hu]at h<;>first|exact h.elim|skip
   rename_i fs
   cases hf:fs[f]? with
   | none=>simp[hf]at h
   | some fd =>
    simp only[hf]at h
    cases hd:zAhw P fd.type<;>simp only[hd,cond_true,cond_false]at h
    obtain⟨d,hd⟩:=zXb hd
    refine .inr (zGO (s:=Instr.field S (ρ x) f) (λw=>by simp[execOp,ho]) h (λv hv w _=>?_))
    cases hx:ρ x<;>rw[hx]at hv<;>simp only[zVV,reduceCtorEq]at hv
    rename_i cs
    have:=zTz (P:=P) (w:=w) hd (off:=fd.offset) (cs:=cs) (v:=v) (by simpa only[zVV] using hv)
    simp[Instr.field,zCI hu,hf,asAgg,this]
 | indexAddr T x i =>
  simp only[ho,opR]at h
  cases hu:P.underlying T with
  | none=>simp[hu]at h
  | some d =>
   cases d<;>simp only[hu]at h<;>first|exact h.elim|skip
   ·rename_i e
    cases he:zYr P e<;>simp only[he,cond_true,cond_false]at h
    exact .inr (zGO (s:=Instr.indexAt T (ρ x) (ρ i)) (λw=>by simp[execOp,ho]) h (λv hv w _=>zAhA hu (zPx he) hv))
   ·rename_i n e
    cases he:zYr P e<;>simp only[he,cond_true,cond_false]at h
    exact .inr (zGO (s:=Instr.indexAt T (ρ x) (ρ i)) (λw=>by simp[execOp,ho]) h (λv hv w _=>zAhB hu (zPx he) hv))
 | index T x i =>
  simp only[ho,opR]at h
  cases hu:P.underlying T with
  | none=>simp[hu]at h
  | some d =>
   cases d<;>simp only[hu]at h<;>first|exact h.elim|skip
   ·exact .inr (zGO (s:=Instr.index T (ρ x) (ρ i)) (λw=>by simp[execOp,ho]) h (λv hv w _=>zAhC hu hv))
   ·rename_i n e
    cases he:zAhw P e<;>simp only[he,cond_true,cond_false]at h
    obtain⟨d,he⟩:=zXb he
    exact .inr (zGO (s:=Instr.index T (ρ x) (ρ i)) (λw=>by simp[execOp,ho]) h (λv hv w _=>zAhD hu he hv))
 | makeInterface T x =>
  simp only[ho,opR]at h
  exact .inr (zGO (s:=Instr.makeInterface T (ρ x)) (λw=>by simp[execOp,ho]) h (λv hv w _=>by
   unfold mkI at hv
   split at hv
   ·cases hv
   ·rename_i d hd hu
    cases hv
    unfold Instr.makeInterface
    simp only[Sem.run_bind,zCI hu,Result.andThen_ok]
    cases d<;>first|exact(hd _ hu).elim|rfl
   ·cases hv))
 | makeMap t r =>
  simp only[ho,opR]at h
  exact .inr (zPw (s:=Instr.makeMap t (r.map ρ)) (λw=>by simp[execOp,ho]) h)
 | lookup t x i ok =>
  simp only[ho,opR]at h
  exact .inr (zPw (s:=Instr.lookup t (ρ x) (ρ i) ok) (λw=>by simp[execOp,ho]) h)
 | mapUpdate t m kk x =>
  simp only[ho,opR]at h
  exact .inr (zAgw (s:=Instr.mapUpdate t (ρ m) (ρ kk) (ρ x)) (λw=>by simp[execOp,ho]) h)
 | insert t m kk x =>
  simp only[ho,opR]at h
  exact .inr (zAgw (s:=Instr.mapUpdate t (ρ m) (ρ kk) (ρ x)) (λw=>by simp[execOp,ho]) h)
 | range T x =>
  simp only[ho,opR]at h
  exact .inr (zPw (s:=Instr.range T (ρ x)) (λw=>by simp[execOp,ho]) h)
 | next it s =>
  simp only[ho,opR]at h
  exact .inr (zPw (s:=Instr.next (ρ it) s o.type) (λw=>by simp[execOp,ho]) h)
 | entry it =>
  simp only[ho,opR]at h
  exact .inr (zPw (s:=Instr.entry (ρ it)) (λw=>by simp[execOp,ho]) h)
 | panic x=>simp only[ho,opR]at h
 | makeSlice T l c =>
  simp only[ho,opR]at h
  cases hu:P.underlying T with
  | none=>simp[hu]at h
  | some d =>
   cases d<;>simp only[hu]at h<;>first|exact h.elim|skip
   rename_i e
   obtain⟨kl,kc,n,m,z,hl,hc,hnm,hb,hm,hz,hinf,hk⟩:=h
   obtain⟨i,hi⟩:=zCb.1 hinf
   obtain⟨zv,hzv,rfl⟩:∃ zv,i.zero=some zv/\zv.cells=z:=by
    simpa [zBI,hi] using hz
   have hbe:P.bytesOf e=i.bytes:=by simp[Program.bytesOf,hi]
   have hse:P.cellsOf e=i.size:=by simp[Program.cellsOf,hi]
   refine .inr (zXa (s:=Instr.makeSlice T (ρ l) (ρ c)) (λw=>by simp[execOp,ho]) hk (λw hw=>?_))
   rw[hl,hc,run_make w T e i zv hu hi hzv kl kc n m (by omega) (by omega) (by
    rw[hbe]at hb
    have e1:(i.bytes:Int)*(m:Int)=((m*i.bytes:Nat):Int):=by rw[Int.natCast_mul,Int.mul_comm]
    rw[e1];exact Int.ofNat_le.2 hb) (by omega),hse,<- hw]
   rfl
 | extract x i =>
  simp only[ho,opR]at h
  exact .inr (zGO (s:=Instr.extract (ρ x) i) (λw=>by simp[execOp,ho]) h (λv hv w _=>zAhG hv))
 | call c =>
  simp only[ho,opR]at h
  cases hc:c.callee with
  | value x =>
   cases x<;>simp only[hc]at h<;>first|exact .inr h|skip
   case tmp t =>
    cases q
    ·exact .inl (.inr ⟨c,.tmp t,ho,hc,h⟩)
    ·exact .inl (.inr ⟨c,.tmp t,ho,hc,zDQ.mono (R:=λv h=>Ext H h/\k v h) h λ_ _ h=>h.2⟩)
   case const t =>
    cases q
    ·exact .inl (.inr ⟨c,.const t,ho,hc,h⟩)
    ·exact .inl (.inr ⟨c,.const t,ho,hc,zDQ.mono (R:=λv h=>Ext H h/\k v h) h λ_ _ h=>h.2⟩)
   rename_i f
   cases hb:zPt P f with
   | false =>
    simp only[hb,cond_false]at h
    cases hx:zAb2 P f with
    | none=>simp only[hx,Option.isSome_none,cond_false]at h;exact .inr h
    | some e =>
     simp only[hx,Option.isSome_some,cond_true]at h
     refine .inr (zPw (λw=>?_) h)
     have hv:∀ args,xtV P f args=e args:=λargs=>by simp only[xtV,hx]
     rw[hv]
     unfold zAb2 at hx
     cases hf:P.funcs[f]? with
     | none=>rw[hf]at hx;cases hx
     | some fn =>
      rw[hf]at hx
      simp only at hx
      cases hcnd:(fn.body.isNone&&(fn.name != "runtime.NumGoroutine")&&(Extern.findNext fn).isNone) with
      | false=>rw[hcnd]at hx;cases hx
      | true =>
       rw[hcnd]at hx
       simp only[cond_true]at hx
       simp only[zAk,bne_iff_ne,ne_eq,Option.isNone_iff_eq_none]at hcnd
       have hnm:(fn.name == "runtime.NumGoroutine")=false:=by simpa using hcnd.1.2
       have e1:(List.map ρ c.args.toList).toArray=Array.map ρ c.args:=by apply Array.ext';simp
       rw[e1]
       simp[execOp,ho,resolve,hc,Deferred.ofValue,invoke,callFunc,hf,hnm,hcnd.1.1,hcnd.2,hx,hfunc]
       intro hn;exact absurd hn hcnd.1.2
   | true =>
    simp only[hb,cond_true]at h
    cases q
    ·exact .inl (.inl ⟨c,f,ho,hc,hb,h⟩)
    ·exact .inl (.inl ⟨c,f,ho,hc,hb,zAA.mono (R:=λv h=>Ext H h/\k v h) h λ_ _ h=>h.2⟩)
  | invoke r m=>simp only[hc]at h;exact .inr h
  | builtin b =>
   cases b<;>simp only[hc]at h<;>first|exact .inr h|skip
   case unsafeSliceData =>
    cases hl:c.args.toList with
    | nil=>simp only[hl]at h;exact .inr h
    | cons x r=>cases r with
     | cons y r=>simp only[hl]at h;exact .inr h
     | nil =>
      simp only[hl]at h
      refine .inr (zGO (s:=Builtin.unsafeSliceData_ c.argTypes o.type (c.args.map ρ)) (λw=>by simp[execOp,ho,resolve,hc,invoke,builtin]) h (λv hv w _=>?_))
      rw[zPy hl]
      rw[show Array.map ρ #[x]=#[ρ x] from by simp]
      unfold usd at hv
      split at hv
      ·rename_i e;cases hv;rw[e];rfl
      ·rename_i a len cc e
       split at hv
       ·rename_i hc0
        cases hv
        rw[e]
        change ((if cc≠0 then pure (.pointer (some a)) else _:Sem Value)).run P w=_
        rw[if_pos hc0];rfl
       ·cases hv
      ·cases hv
   case unsafeString =>
    have e1:(List.map ρ c.args.toList).toArray=Array.map ρ c.args:=by apply Array.ext';simp
    have h:zQx P (Builtin.unsafeString_ c.argTypes o.type (c.args.map ρ)) H k:=by rw[<- e1];exact h
    exact .inr (zPw (λw=>by simp[execOp,ho,resolve,hc,invoke,builtin]) h)
   case clear =>
    have e1:(List.map ρ c.args.toList).toArray=Array.map ρ c.args:=by apply Array.ext';simp
    have h:zQx P (Builtin.clear_ c.argTypes o.type (c.args.map ρ)) H k:=by rw[<- e1];exact h
    exact .inr (zPw (λw=>by simp[execOp,ho,resolve,hc,invoke,builtin]) h)
   case delete =>
    have e1:(List.map ρ c.args.toList).toArray=Array.map ρ c.args:=by apply Array.ext';simp
    have h:zQx P (Builtin.delete_ c.argTypes o.type (c.args.map ρ)) H k:=by rw[<- e1];exact h
    exact .inr (zPw (λw=>by simp[execOp,ho,resolve,hc,invoke,builtin]) h)
   case min=>exact .inr (zGO (s:=Builtin.min_ c.argTypes o.type (c.args.map ρ)) (λw=>by simp[execOp,ho,resolve,hc,invoke,builtin]) h (λv hv w _=>by
    have:=zAhS (P:=P) (w:=w) (A:=c.argTypes) (T:=o.type) hv
    rwa [show(List.map ρ c.args.toList).toArray=c.args.map ρ from by apply Array.ext';simp]at this))
   case max=>exact .inr (zGO (s:=Builtin.max_ c.argTypes o.type (c.args.map ρ)) (λw=>by simp[execOp,ho,resolve,hc,invoke,builtin]) h (λv hv w _=>by
    have:=zAhT (P:=P) (w:=w) (A:=c.argTypes) (T:=o.type) hv
    rwa [show(List.map ρ c.args.toList).toArray=c.args.map ρ from by apply Array.ext';simp]at this))
   case len =>
    by_cases hsh:∃ T x,c.argTypes.toList=[T]/\c.args.toList=[x]
    ·obtain⟨T,x,e1,e2⟩:=hsh
     simp only[e1,e2]at h
     replace e1:=zPy e1
     replace e2:=zPy e2
     have hrun:∀ w,(execOp ρ o).run P w=((Builtin.len_ #[T] o.type #[ρ x]).run P w).andThen λv w' => .ok (.value v) w':=λw=>by simp[execOp,ho,resolve,hc,e1,e2,invoke,builtin]
     cases hu:P.underlying T with
     | none=>simp only[hu]at h;exact .inr h
     | some d =>
      cases d<;>simp only[hu]at h<;>first|exact .inr h|skip
      ·refine .inr (zGO hrun h (λv hv w _=>?_))
       cases hx:ρ x<;>rw[hx]at hv<;>simp only[zNb,reduceCtorEq,zAn]at hv
       subst hv;simp[Builtin.len_,zCI hu,goInt]
      ·refine .inr (zGO hrun h (λv hv w _=>?_))
       cases hx:ρ x<;>rw[hx]at hv<;>simp only[lenV,reduceCtorEq,zAn]at hv
       subst hv;simp[Builtin.len_,zCI hu,goInt]
      ·exact .inr (zXa hrun h (λw hw=>by subst hw;simp[Builtin.len_,zCI hu,goInt]))
      ·exact .inr (zPw hrun h)
    ·refine .inr ?_
     split at h
     all_goals (rename_i heq;split at heq)
     all_goals first|(cases heq;done)|exact h|(exfalso;rename_i e1 e2;exact hsh ⟨_,_,e1,e2⟩)
   case cap =>
    by_cases hsh:∃ T x,c.argTypes.toList=[T]/\c.args.toList=[x]
    ·obtain⟨T,x,e1,e2⟩:=hsh
     simp only[e1,e2]at h
     replace e1:=zPy e1
     replace e2:=zPy e2
     have hrun:∀ w,(execOp ρ o).run P w=((Builtin.cap_ #[T] o.type #[ρ x]).run P w).andThen λv w' => .ok (.value v) w':=λw=>by simp[execOp,ho,resolve,hc,e1,e2,invoke,builtin]
     cases hu:P.underlying T with
     | none=>simp only[hu]at h;exact .inr h
     | some d =>
      cases d<;>simp only[hu]at h<;>first|exact .inr h|skip
      refine .inr (zGO hrun h (λv hv w _=>?_))
      cases hx:ρ x<;>rw[hx]at hv<;>simp only[zAgs,reduceCtorEq,zAn]at hv
      subst hv;simp[Builtin.cap_,zCI hu,goInt]
    ·refine .inr ?_
     split at h
     all_goals (rename_i heq;split at heq)
     all_goals first|(cases heq;done)|exact h|(exfalso;rename_i e1 e2;exact hsh ⟨_,_,e1,e2⟩)
   case append =>
    by_cases hsh:∃ T U s x,c.argTypes.toList=[T,U]/\c.args.toList=[s,x]
    ·obtain⟨T,U,s,x,e1,e2⟩:=hsh
     simp only[e1,e2]at h
     replace e1:=zQe e1
     replace e2:=zQe e2
     have hrun:∀ w,(execOp ρ o).run P w=((Builtin.append_ #[T,U] o.type #[ρ s,ρ x]).run P w).andThen λv w' => .ok (.value v) w':=λw=>by simp[execOp,ho,resolve,hc,e1,e2,invoke,builtin]
     cases hT:P.underlying T with
     | none=>simp only[hT]at h;exact .inr h
     | some d =>
      cases d<;>simp only[hT]at h<;>first|exact .inr h|skip
      rename_i e
      cases hU:P.underlying U with
      | none=>simp only[hU]at h;exact .inr h
      | some d' =>
       cases d'<;>simp only[hU]at h<;>first|exact .inr h|skip
       ·rename_i ku
        cases hz:zAbR P e<;>simp only[hz,cond_true,cond_false]at h
        exact .inr (zAeF hrun hT ⟨ku,hU⟩ hz h)
       ·cases hz:zAbR P e<;>simp only[hz,cond_true,cond_false]at h
        exact .inr (zAca hrun hT (.inl hU) hz h)
       ·rename_i e'
        cases hz:zAbR P e<;>simp only[hz,cond_true,cond_false]at h
        exact .inr (zAca hrun hT (.inr ⟨e',hU⟩) hz h)
    ·refine .inr ?_
     split at h
     all_goals (rename_i heq;split at heq)
     all_goals first|(cases heq;done)|exact h|(exfalso;rename_i e1 e2;exact hsh ⟨_,_,_,_,e1,e2⟩)
   case copy =>
    by_cases hsh:∃ T U s x,c.argTypes.toList=[T,U]/\c.args.toList=[s,x]
    ·obtain⟨T,U,s,x,e1,e2⟩:=hsh
     simp only[e1,e2]at h
     replace e1:=zQe e1
     replace e2:=zQe e2
     have hrun:∀ w,(execOp ρ o).run P w=((Builtin.copy_ #[T,U] o.type #[ρ s,ρ x]).run P w).andThen λv w' => .ok (.value v) w':=λw=>by simp[execOp,ho,resolve,hc,e1,e2,invoke,builtin]
     cases hT:P.underlying T with
     | none=>simp only[hT]at h;exact .inr h
     | some d =>
      cases d<;>simp only[hT]at h<;>first|exact .inr h|skip
      rename_i e
      cases hz:zYr P e<;>simp only[hz,cond_true,cond_false]at h
      obtain⟨i,hi⟩:=zPx hz
      exact .inr (zAeG hrun hT hi h)
    ·refine .inr ?_
     split at h
     all_goals (rename_i heq;split at heq)
     all_goals first|(cases heq;done)|exact h|(exfalso;rename_i e1 e2;exact hsh ⟨_,_,_,_,e1,e2⟩)
 | _=>simp only[ho,opR]at h;exact .inr h
theorem Mpu.mono {r:Option Value}{k k':Value->Prop}(h:Mpu r k)(hk:∀ v,k v->k' v):Mpu r k':=by
 obtain⟨v,e,h⟩:=h;exact⟨v,e,hk _ h⟩
theorem Mwr.mono {r:Option zAx}{k k':zAx->Prop}(h:Mwr r k)(hk:∀ v,k v->k' v):Mwr r k':=by
 obtain⟨v,e,h⟩:=h;exact⟨v,e,hk _ h⟩
theorem zDC.mono {H:zAx}{T:TypeId}{c:Option (Array Value)}{k k':zAm}(h:zDC H T c k)(hk:∀ v h,k v h->k' v h):zDC H T c k':=by
 obtain⟨v,e,h⟩:=h;exact⟨v,e,hk _ _ h⟩
theorem zD2.mono {H:zAx}{T:TypeId}{n:Nat}{c:Option (Array Value)}{k k':zAm}(h:zD2 H T n c k)(hk:∀ v h,k v h->k' v h):zD2 H T n c k':=by
 obtain⟨v,e,h⟩:=h;exact⟨v,e,hk _ _ h⟩
theorem zUU.mono {P:Program}{o:Oper}{ρ:Operand->Value}{H:zAx}{k k':zAm}(h:zUU P o ρ H k)(hk:∀ v h,k v h->k' v h):zUU P o ρ H k':=by
 intro w hw
 obtain⟨n,w',e,s,h⟩:=h w hw
 refine⟨n,w',e,s,?_⟩
 rcases h with ⟨v,e,h⟩|⟨e,h⟩
 ·exact .inl ⟨v,e,hk _ _ h⟩
 ·exact .inr ⟨e,hk _ _ h⟩
theorem zIw.mono {T:TypeId}{s b:Nat}{H:zAx}{x y:Value}{k k':zAm}(h:zIw T s b H x y k)(hk:∀ v h,k v h->k' v h):zIw T s b H x y k':=by
 obtain⟨base,len,cap,n,new,e1,e2,e3,h1,h2⟩:=h
 refine⟨base,len,cap,n,new,e1,e2,e3,λhl=>?_,λhl=>?_⟩
 ·have h1:=h1 hl
  rcases base with _|⟨b,o,_|sp⟩
  ·exact hk _ _ h1
  ·exact h1.mono λ_ h=>hk _ _ h
  ·exact h1
 ·obtain⟨a,b,old,c,d⟩:=h2 hl
  exact⟨a,b,old,c,λcap' rest p q r=>hk _ _ (d cap' rest p q r)⟩
theorem zAer.mono {T:TypeId}{s b:Nat}{H:zAx}{x y:Value}{z:Option (Array Value)}{k k':zAm}(h:zAer T s b H x y z k)(hk:∀ v h,k v h->k' v h):zAer T s b H x y z k':=by
 obtain⟨base,len,cap,kx,n,zc,e1,e2,e3,e4,e5,e6,h1,h2⟩:=h
 refine⟨base,len,cap,kx,n,zc,e1,e2,e3,e4,e5,e6,λhl=>?_,λhl=>?_⟩
 ·have h1:=h1 hl
  rcases base with _|⟨b,o,_|sp⟩
  ·exact hk _ _ h1
  ·exact h1.mono λ_ h=>hk _ _ h
  ·exact h1
 ·obtain⟨a,b,old,c,d⟩:=h2 hl
  exact⟨a,b,old,c,λcap' rest p q r=>hk _ _ (d cap' rest p q r)⟩
theorem zQ0.mono {s:Nat}{H:zAx}{x y:Value}{k k':zAm}(h:zQ0 s H x y k)(hk:∀ v h,k v h->k' v h):zQ0 s H x y k':=by
 obtain⟨n,new,base,len,cap,e1,e2,h⟩:=h
 refine⟨n,new,base,len,cap,e1,e2,?_⟩
 rcases base with _|⟨b,o,_|sp⟩
 ·exact hk _ _ h
 ·exact h.mono λ_ h=>hk _ _ h
 ·exact h
theorem zAaW.mono {T:TypeId}{H:zAx}{x:Value}{k k':zAm}(h:zAaW T H x k)(hk:∀ v h,k v h->k' v h):zAaW T H x k':=by
 obtain⟨s,e,l,h⟩:=h;exact⟨s,e,l,λc a b=>hk _ _ (h c a b)⟩
theorem zZI {b:Bool}{p q p' q':Prop}(h:bif b then p else q)(h1:p->p')(h2:q->q'):bif b then p' else q':=by
 cases b
 ·exact h2 h
 ·exact h1 h
theorem zGV {P:Program}{q:Bool}{o:Oper}{ρ:Operand->Value}{H:zAx}{k k':zAm}(h:opX P q o ρ H k)(hk:∀ v h,k v h->k' v h):opX P q o ρ H k':=by
 unfold opX at h ⊢
 cases hr:opR P o.op ρ H<;>simp only[hr]at h ⊢
 case val v=>exact hk _ _ h
 case pu r=>exact Mpu.mono h λ_ h=>hk _ _ h
 case rd r=>exact Mpu.mono h λ_ h=>hk _ _ h
 case wr r=>exact Mwr.mono h λ_ h=>hk _ _ h
 case nw T c=>exact zDC.mono h hk
 case nws T n c=>exact zD2.mono h hk
 case ap T s b x y=>exact zIw.mono h hk
 case az T s b x y z=>exact zAer.mono h hk
 case cp s d x=>exact zQ0.mono h hk
 case sb T x=>exact zAaW.mono h hk
 case cl f args=>exact zZI h (λh=>zAA.mono h λ_ _ ⟨a,b⟩=>⟨a,hk _ _ b⟩) (λh=>zAA.mono h hk)
 case cv f args=>exact zZI h (λh=>zDQ.mono h λ_ _ ⟨a,b⟩=>⟨a,hk _ _ b⟩) (λh=>zDQ.mono h hk)
 case mk e l c =>
  obtain⟨kl,kc,n,m,z,h1,h2,h3,h4,h5,h6,h7,h8⟩:=h
  exact⟨kl,kc,n,m,z,h1,h2,h3,h4,h5,h6,h7,hk _ _ h8⟩
 case sm s=>exact λw hw=>let ⟨v,w',e,hs,h⟩:=h w hw; ⟨v,w',e,hs,hk _ _ h⟩
 case su s=>exact λw hw=>let ⟨w',e,hs,h⟩:=h w hw; ⟨w',e,hs,hk _ _ h⟩
 case raw=>exact zUU.mono h hk
theorem zAA.some {P:Program}{f:FuncId}{args:List Value}{H:zAx}{R:zAm}(h:zAA P f args H R):∃ v h,R v h:=by
 obtain⟨e,w',fr,⟨v,_,_,r⟩,_⟩:=h { (default:World) with heap:=H } rfl []
 exact⟨v,_,r⟩
theorem zTQ.some {P:Program}{l:Nat}{args:List Value}{H:zAx}{R:zAm}(h:zTQ P l args H R):∃ v h,R v h:=by
 obtain⟨f,t,a,b,_,r⟩:=h { (default:World) with heap:=H } rfl
 obtain⟨e,w',⟨v,_,_,r⟩,_⟩:=r.2 default [] (λd hd=>by cases hd)
 exact⟨v,_,r⟩
theorem zDQ.some {P:Program}{fv:Value}{args:List Value}{H:zAx}{R:zAm}(h:zDQ P fv args H R):∃ v h,R v h:=by
 rcases h with ⟨f,fi,ca,e,b,h⟩|⟨l,fi,ca,e,h⟩
 ·exact h.some
 ·exact h.some
theorem zUU.some {P:Program}{o:Oper}{ρ:Operand->Value}{H:zAx}{k:zAm}(h:zUU P o ρ H k):∃ v h,k v h:=by
 obtain⟨n,w',_,_,h⟩:=h { (default:World) with heap:=H } rfl
 rcases h with ⟨v,_,h⟩|⟨_,h⟩
 ·exact⟨_,_,h⟩
 ·exact⟨_,_,h⟩
theorem zIw.some {T:TypeId}{s b:Nat}{H:zAx}{x y:Value}{k:zAm}(h:zIw T s b H x y k):∃ v h,k v h:=by
 obtain⟨base,len,cap,n,new,e1,e2,e3,h1,h2⟩:=h
 by_cases hl:len+n<=cap
 ·have h1:=h1 hl
  rcases base with _|⟨b,o,_|sp⟩
  ·exact⟨_,_,h1⟩
  ·obtain⟨_,_,h1⟩:=h1;exact⟨_,_,h1⟩
  ·exact h1.elim
 ·obtain⟨a,b0,old,c,d⟩:=h2 (by omega)
  have:(len+n)*1<=(len+n)*b:=Nat.mul_le_mul_left _ b0
  exact⟨_,_,d (len+n) #[] (zAh _) (by omega) (by simp)⟩
theorem zAer.some {T:TypeId}{s b:Nat}{H:zAx}{x y:Value}{z:Option (Array Value)}{k:zAm}(h:zAer T s b H x y z k):∃ v h,k v h:=by
 obtain⟨base,len,cap,kx,n,zc,e1,e2,e3,e4,e5,e6,h1,h2⟩:=h
 by_cases hl:len+n<=cap
 ·have h1:=h1 hl
  rcases base with _|⟨b,o,_|sp⟩
  ·exact⟨_,_,h1⟩
  ·obtain⟨_,_,h1⟩:=h1;exact⟨_,_,h1⟩
  ·exact h1.elim
 ·obtain⟨a,b0,old,c,d⟩:=h2 (by omega)
  have:(len+n)*1<=(len+n)*b:=Nat.mul_le_mul_left _ b0
  exact⟨_,_,d (len+n) #[] (zAh _) (by omega) (by simp)⟩
theorem zQ0.some {s:Nat}{H:zAx}{x y:Value}{k:zAm}(h:zQ0 s H x y k):∃ v h,k v h:=by
 obtain⟨n,new,base,len,cap,e1,e2,h⟩:=h
 rcases base with _|⟨b,o,_|sp⟩
 ·exact⟨_,_,h⟩
 ·obtain⟨_,_,h⟩:=h;exact⟨_,_,h⟩
 ·exact h.elim
theorem zAaW.some {T:TypeId}{H:zAx}{x:Value}{k:zAm}(h:zAaW T H x k):∃ v h,k v h:=by
 obtain⟨s,e,l,h⟩:=h;exact⟨_,_,h s.size (zAh _) l⟩
theorem zZJ {P:Program}{q:Bool}{o:Oper}{ρ:Operand->Value}{H:zAx}{k:zAm}(h:opX P q o ρ H k):∃ v h,k v h:=by
 unfold opX at h
 cases hr:opR P o.op ρ H<;>simp only[hr]at h
 case val v=>exact⟨_,_,h⟩
 case pu r=>obtain⟨_,_,h⟩:=h;exact⟨_,_,h⟩
 case rd r=>obtain⟨_,_,h⟩:=h;exact⟨_,_,h⟩
 case wr r=>obtain⟨_,_,h⟩:=h;exact⟨_,_,h⟩
 case nw T c=>obtain⟨_,_,h⟩:=h;exact⟨_,_,h⟩
 case nws T n c=>obtain⟨_,_,h⟩:=h;exact⟨_,_,h⟩
 case ap T s b x y=>exact zIw.some h
 case az T s b x y z=>exact zAer.some h
 case cp s d x=>exact zQ0.some h
 case sb T x=>exact zAaW.some h
 case cl f args =>
  cases q
  ·exact zAA.some (R:=k) h
  ·obtain⟨v,h',hh⟩:=zAA.some (R:=λv h=>Ext H h/\k v h) h
   exact⟨_,_,hh.2⟩
 case cv f args =>
  cases q
  ·exact zDQ.some (R:=k) h
  ·obtain⟨v,h',hh⟩:=zDQ.some (R:=λv h=>Ext H h/\k v h) h
   exact⟨_,_,hh.2⟩
 case mk e l c=>obtain⟨kl,kc,n,m,z,h1,h2,h3,h4,h5,h6,h7,h8⟩:=h;exact⟨_,_,h8⟩
 case sm s=>obtain⟨v,w',_,_,h⟩:=h { (default:World) with heap:=H } rfl;exact⟨_,_,h⟩
 case su s=>obtain⟨w',_,_,h⟩:=h { (default:World) with heap:=H } rfl;exact⟨_,_,h⟩
 case raw=>exact zUU.some h
theorem zN3 {P:Program}{o:Op}{ρ ρ':Operand->Value}{H:zAx}(h:∀ x∈o.operands,ρ x=ρ' x):opR P o ρ H=opR P o ρ' H:=by
 cases o<;>simp only[Op.operands]at h<;>simp only[opR]
 case build T ps =>
  have e:(ps.toList.map λp=>(p.1,ρ p.2))=(ps.toList.map λp=>(p.1,ρ' p.2)):=zBW λp hp=>by rw[h p.2 (by simp;exact⟨p.1,zBy.1 hp⟩)]
  rw[e]
 case buildSlice T n ps =>
  have e:(ps.toList.map λp=>(p.1,ρ p.2))=(ps.toList.map λp=>(p.1,ρ' p.2)):=zBW λp hp=>by rw[h p.2 (by simp;exact⟨p.1,zBy.1 hp⟩)]
  rw[e]
 case makeFunc fn a b =>
  rw[Array.map_congr_left (xs:=a) λx hx=>h x (by simp[hx]),Array.map_congr_left (xs:=b) λx hx=>h x (by simp[hx])]
 case call c =>
  have e:c.args.toList.map ρ=c.args.toList.map ρ':=zBW λx hx=>h x (by simp only[Call.operands,Array.mem_append];exact .inr (zBy.1 hx))
  have e1:∀ x∈c.args.toList,ρ x=ρ' x:=λx hx=>h x (by simp only[Call.operands,Array.mem_append];exact .inr (zBy.1 hx))
  rw[e]
  have two:∀ s x,c.args.toList=[s,x]->ρ s=ρ' s/\ρ x=ρ' x:=λs x hl=>⟨e1 s (by rw[hl];simp),e1 x (by rw[hl];simp)⟩
  have one:∀ x,c.args.toList=[x]->ρ x=ρ' x:=λx hl=>e1 x (by rw[hl];simp)
  have ec:∀ x,c.callee = .value x->ρ x=ρ' x:=λx hx=>h x (by simp[Call.operands,hx])
  cases hcal:c.callee with
  | value x =>
   have ex:=ec x hcal
   cases x<;>simp only[ex]
  | invoke r m=>rfl
  | builtin b =>
   cases b<;>simp only
   case unsafeSliceData=>split<;>first|rfl|(rename_i h2;rw[one _ h2])
   case len=>split<;>first|rfl|(rename_i h2;rw[one _ h2])
   case cap=>split<;>first|rfl|(rename_i h2;rw[one _ h2])
   case append=>split<;>first|rfl|(rename_i h2;rw[(two _ _ h2).1,(two _ _ h2).2])
   case copy=>split<;>first|rfl|(rename_i h2;rw[(two _ _ h2).1,(two _ _ h2).2])
 case makeMap t r=>cases r with
  | none=>rfl
  | some y=>simp only[zAT];rw[h y (by simp)]
 case slice T x lo hi mx =>
  have ex:ρ x=ρ' x:=h x (by simp)
  have el:lo.map ρ=lo.map ρ':=by cases lo with|none=>rfl|some y=>simp only[zAT];rw[h y (by simp)]
  have eh:hi.map ρ=hi.map ρ':=by cases hi with|none=>rfl|some y=>simp only[zAT];rw[h y (by simp)]
  have em:mx.map ρ=mx.map ρ':=by cases mx with|none=>rfl|some y=>simp only[zAT];rw[h y (by simp)]
  rw[ex,el,eh,em]
 all_goals first
  | rfl
  | (simp_all;done)
theorem zN4 {P:Program}{q:Bool}{o:Oper}{ρ ρ':Operand->Value}{H:zAx}{k:zAm}(hs:∀ cs b,o.op ≠ .select cs b)(h:∀ x∈o.op.operands,ρ x=ρ' x)(hh:opX P q o ρ H k):opX P q o ρ' H k:=by
 unfold opX at hh ⊢
 rw[<- zN3 h]
 cases hr:opR P o.op ρ H<;>simp only[hr]at hh ⊢ <;> first
  | exact hh
  | exact λw hw=>by rw[<- execOp_congr o hs h];exact hh w hw
def zAhU:XR->Nat
 | .val _=>0
 | .pu _=>0
 | .rd _=>1
 | .nw _ _=>2
 | .nws _ _ _=>2
 | .cl _ _=>2
 | .cv _ _=>2
 | .mk _ _ _=>2
 | .sm _=>3
 | .su _=>3
 | .wr _=>3
 | .ap _ _ _ _ _=>3
 | .az _ _ _ _ _ _=>3
 | .cp _ _ _=>3
 | .sb _ _=>3
 | .raw=>3
 | .no=>3
def cls (P:Program)(o:Op):Nat:=zAhU (opR P o (λ_=>undef) #[])
theorem zAhV {P:Program}{o:Op}{ρ ρ':Operand->Value}{H H':zAx}:zAhU (opR P o ρ H)=zAhU (opR P o ρ' H'):=by
 cases o<;>simp only[opR]<;>first
  | rfl
  | skip
 case buildSlice T n ps=>cases P.underlying T with
  | none=>rfl
  | some d=>cases d<;>rfl
 case makeSlice T n ps=>cases P.underlying T with
  | none=>rfl
  | some d=>cases d<;>rfl
 case load T a=>cases zNc P T<;>cases zAbQ P T<;>rfl
 case store T a x=>cases zNc P T<;>cases zAbQ P T<;>rfl
 case convert s d x =>
  rcases P.underlying s with _|a<;>rcases P.underlying d with _|b<;>first|rfl|(cases a<;>first|rfl|skip)
  all_goals (cases b<;>first|rfl|skip)
  all_goals (rename_i e;simp only)
  all_goals (rcases P.underlying e with _|d)
  all_goals first|rfl|skip
  all_goals (rename_i d;rcases d with _|_|k)
  all_goals first|rfl|(cases k<;>rfl)
 case slice T x lo hi mx=>cases P.underlying T with
  | none=>rfl
  | some d =>
   cases d<;>first
    | rfl
    | (cases mx<;>rfl)
    | (rename_i e;cases hq:zYr P e<;>simp only[hq,cond_true,cond_false]<;>rfl)
    | (rename_i n e;cases hq:zYr P e<;>simp only[hq,cond_true,cond_false]<;>rfl)
 case fieldAddr S x f=>cases P.underlying S with
  | none=>rfl
  | some d =>
   cases d<;>first|rfl|skip
   rename_i fs
   simp only
   cases fs[f]? with
   | none=>rfl
   | some fd=>cases hq:Nat.beq (P.cellsOf fd.type) 0<;>simp only[hq,cond_true,cond_false]<;>rfl
 case field S x f=>cases P.underlying S with
  | none=>rfl
  | some d =>
   cases d<;>first|rfl|skip
   rename_i fs
   simp only
   cases fs[f]? with
   | none=>rfl
   | some fd=>cases hq:zAhw P fd.type<;>simp only[hq,cond_true,cond_false]<;>rfl
 case indexAddr T x i=>cases P.underlying T with
  | none=>rfl
  | some d =>
   cases d<;>first
    | rfl
    | (rename_i e;cases hq:zYr P e<;>simp only[hq,cond_true,cond_false]<;>rfl)
    | (rename_i n e;cases hq:zYr P e<;>simp only[hq,cond_true,cond_false]<;>rfl)
 case index T x i=>cases P.underlying T with
  | none=>rfl
  | some d =>
   cases d<;>first
    | rfl
    | (rename_i n e;cases hq:zAhw P e<;>simp only[hq,cond_true,cond_false]<;>rfl)
 case call c =>
  cases c.callee with
  | value x =>
   cases x<;>first|rfl|skip
   rename_i f
   cases hq:zPt P f<;>simp only[hq,cond_true,cond_false]<;>first|rfl|(cases hx:(zAb2 P f).isSome<;>simp only[hx,cond_true,cond_false]<;>rfl)
  | invoke r m=>rfl
  | builtin b =>
   cases b<;>first|rfl|skip
   all_goals simp only
   case unsafeSliceData=>rcases c.args.toList with _|⟨x,_|⟨y,m⟩⟩<;>rfl
   case len =>
    rcases c.argTypes.toList with _|⟨T,_|⟨U,l⟩⟩<;>rcases c.args.toList with _|⟨x,_|⟨y,m⟩⟩<;>first|rfl|skip
    simp only
    cases P.underlying T with
    | none=>rfl
    | some d=>cases d<;>rfl
   case cap =>
    rcases c.argTypes.toList with _|⟨T,_|⟨U,l⟩⟩<;>rcases c.args.toList with _|⟨x,_|⟨y,m⟩⟩<;>first|rfl|skip
    simp only
    cases P.underlying T with
    | none=>rfl
    | some d=>cases d<;>rfl
   case append =>
    rcases c.argTypes.toList with _|⟨T,_|⟨U,_|⟨V,l⟩⟩⟩<;>rcases c.args.toList with _|⟨x,_|⟨y,_|⟨z,m⟩⟩⟩<;>first|rfl|skip
    simp only
    cases P.underlying T with
    | none=>rfl
    | some d =>
     cases d<;>first|rfl|skip
     cases P.underlying U with
     | none=>rfl
     | some d'=>cases d'<;>first|rfl|(rename_i e;cases hq:zAbR P e<;>simp only[hq,cond_true,cond_false]<;>rfl)|(rename_i e e';cases hq:zAbR P e<;>simp only[hq,cond_true,cond_false]<;>rfl)
   case copy =>
    rcases c.argTypes.toList with _|⟨T,_|⟨U,_|⟨V,l⟩⟩⟩<;>rcases c.args.toList with _|⟨x,_|⟨y,_|⟨z,m⟩⟩⟩<;>first|rfl|skip
    simp only
    cases P.underlying T with
    | none=>rfl
    | some d=>cases d<;>first|rfl|(rename_i e;cases hq:zYr P e<;>simp only[hq,cond_true,cond_false]<;>rfl)
def zRA:XR->Option Value
 | .val v=>some v
 | .pu r=>r
 | .rd r=>r
 | _=>none
theorem zK4 {P:Program}{q:Bool}{o:Oper}{ρ:Operand->Value}{H:zAx}{k:zAm}(h:cls P o.op=0\/cls P o.op=1):opX P q o ρ H k↔∃ v,zRA (opR P o.op ρ H)=some v/\k v H:=by
 unfold cls at h
 rw[zAhV (ρ':=ρ) (H':=H)]at h
 unfold opX
 cases hr:opR P o.op ρ H<;>simp only[hr,zAhU]at h<;>simp[zRA,Mpu]at h ⊢
theorem zV1 {P:Program}{o:Op}{ρ:Operand->Value}{H H':zAx}(h:cls P o=0):opR P o ρ H=opR P o ρ H':=by
 unfold cls at h
 cases o<;>simp only[opR]at h ⊢
 case load T a=>revert h;cases zNc P T<;>cases zAbQ P T<;>simp[zAhU]
 case store T a x=>revert h;cases zNc P T<;>cases zAbQ P T<;>simp[zAhU]
 case convert s d x =>
  revert h
  rcases P.underlying s with _|a<;>rcases P.underlying d with _|b<;>first|(intro _;rfl)|(cases a<;>first|(intro _;rfl)|skip)
  all_goals (cases b<;>first|(intro _;rfl)|skip)
  all_goals (rename_i e;simp only)
  all_goals (rcases P.underlying e with _|d)
  all_goals first|(intro _;rfl)|skip
  all_goals (rename_i d;rcases d with _|_|k)
  all_goals first|(intro _;rfl)|(cases k<;>first|(intro _;rfl)|(intro h;simp[zAhU]at h))
theorem Ext.block {H H':zAx}(h:Ext H H'){b:Nat}{x:Obj}(hb:H[b]? = some x):H'[b]? = some x:=by
 rw[h.2 b (zBk.1 hb).1];exact hb
theorem zAcc {n:Nat}{H H':zAx}(h:Ext H H'){x:Value}{r:Nat×Array Value}(hl:zED n H x=some r):zED n H' x=some r:=by
 unfold zED at hl ⊢
 split at hl
 ·split at hl
  ·rename_i h0;rw[if_pos h0];exact hl
  ·rename_i h0;rw[if_neg h0]
   split at hl
   ·split at hl
    ·rename_i hb;simp only[h.block hb];exact hl
    ·cases hl
   ·cases hl
 ·exact hl
 ·cases hl
theorem Ext.push (H:zAx)(o:Obj):Ext H (H.push o):=⟨by simp,λi hi=>by rw[zCf,if_neg (by omega)]⟩
theorem Ext.refl (H:zAx):Ext H H:=⟨zAh _,λ_ _=>rfl⟩
theorem Ext.trans {a b c:zAx}(h:Ext a b)(k:Ext b c):Ext a c:=⟨zBh h.1 k.1,λi hi=>(k.2 i (zAM hi h.1)).trans (h.2 i hi)⟩
def act (ops:Array Oper)(o:Oper)(e:Env):Option Bool :=
 match o.guard with
 | none=>some true
 | some (j,want)=>match (ops[j]?).bind (·.dst) with
  | some t=>match e t with
   | .bool b=>some (b == want)
   | _=>some false
  | none=>none
def zYx (P:Program)(q:Bool)(ops:Array Oper)(o:Oper)(e:Env)(H:zAx)(K:Env->zAx->Prop):Prop :=
 (act ops o e=some true/\opX P q o (ev e) H λv h=>K (e.put o.dst v) h)\/(act ops o e=some false/\K (e.put o.dst undef) H)
theorem zYx.mono {P:Program}{q:Bool}{ops:Array Oper}{o:Oper}{e:Env}{H:zAx}{K K':Env->zAx->Prop}(h:zYx P q ops o e H K)(hk:∀ e h,K e h->K' e h):zYx P q ops o e H K':=by
 rcases h with ⟨a,h⟩|⟨a,h⟩
 ·exact .inl ⟨a,zGV h λ_ _ h=>hk _ _ h⟩
 ·exact .inr ⟨a,hk _ _ h⟩
theorem zJK {e:Env}{d:Option Nat}{v:Value}{t:Nat}(h:d≠some t):e.put d v t=e t:=by
 cases d with
 | none=>rfl
 | some d =>
  have:(Nat.beq t d)=false:=by
   cases hb:Nat.beq t d with
   | false=>rfl
   | true=>exact absurd (congrArg some (zA3 hb).symm) h
  simp[Env.put,this]
theorem zN5 {e:Env}{d:Nat}{v:Value}:e.put (some d) v d=v:=by
 have:Nat.beq d d=true:=zB1 d
 simp[Env.put,this]
theorem zMb {e:Env}{d d':Option Nat}{v v':Value}(h:∀ t,d=some t->d'≠some t):(e.put d v).put d' v'=(e.put d' v').put d v:=by
 funext t
 by_cases h1:d=some t
 ·subst h1
  rw[zJK (h t rfl),zN5,zN5]
 ·rw[zJK h1]
  by_cases h2:d'=some t
  ·subst h2;rw[zN5,zN5]
  ·rw[zJK h2,zJK h2,zJK h1]
def zTV (P:Program)(ops:Array Oper)(j i:Oper):Bool :=
 j.apart ops i&&(Nat.beq (cls P i.op) 0 || Nat.ble (cls P j.op) 1)
def rc (P:Program)(j:Oper)(e:Env)(h:zAx):Prop :=
 match j.dst with
 | some d=>zRA (opR P j.op (ev e) h)=some (e d)
 | none=>True
theorem zGW {ops:Array Oper}{o:Oper}{e:Env}{d:Option Nat}{v:Value}(h:∀ t,d=some t->t∉o.looksAt ops):act ops o (e.put d v)=act ops o e:=by
 unfold act
 cases hg:o.guard with
 | none=>rfl
 | some g =>
  obtain⟨j,want⟩:=g
  simp only
  cases ht:(ops[j]?).bind (·.dst) with
  | none=>rfl
  | some t =>
   simp only
   rw[zJK]
   intro hd
   refine h t hd ?_
   unfold Oper.looksAt
   rw[hg]
   simp only[ht]
   simp
theorem zVb {ops:Array Oper}{o:Oper}{e:Env}{d:Option Nat}{v:Value}(h:∀ t,d=some t->t∉o.looksAt ops):∀ x∈o.op.operands,ev (e.put d v) x=ev e x:=by
 intro x hx
 cases x with
 | tmp t =>
  simp only[ev]
  rw[zJK]
  intro hd
  exact h t hd (List.mem_append_left _ (List.mem_filterMap.2 ⟨.tmp t,by simpa using hx,rfl⟩))
 | _=>rfl
theorem zAhW {n:Nat}:Nat.ble n 1=true↔n=0\/n=1:=by
 rw[Nat.ble_eq];omega
def zHH (P:Program)(ops:Array Oper)(o:Oper)(e:Env)(H:zAx)(C K:Env->zAx->Prop):Prop :=
 (act ops o e=some true/\opX P false o (ev e) H λv h=>C (e.put o.dst v) h/\K (e.put o.dst v) h)\/(act ops o e=some false/\K (e.put o.dst undef) H)
theorem zHH.mono {P:Program}{ops:Array Oper}{o:Oper}{e:Env}{H:zAx}{C C' K K':Env->zAx->Prop}(h:zHH P ops o e H C K)(hc:∀ e h,C e h->C' e h)(hk:∀ e h,K e h->K' e h):zHH P ops o e H C' K':=by
 rcases h with ⟨a,h⟩|⟨a,h⟩
 ·exact .inl ⟨a,zGV h λ_ _ h=>⟨hc _ _ h.1,hk _ _ h.2⟩⟩
 ·exact .inr ⟨a,hk _ _ h⟩
theorem zHH.step {P:Program}{ops:Array Oper}{o:Oper}{e:Env}{H:zAx}{C K:Env->zAx->Prop}(h:zHH P ops o e H C K):zYx P false ops o e H K:=by
 rcases h with ⟨a,h⟩|⟨a,h⟩
 ·exact .inl ⟨a,zGV h λ_ _ h=>h.2⟩
 ·exact .inr ⟨a,h⟩
theorem swap {P:Program}{ops:Array Oper}{j i:Oper}(hsj:∀ cs b,j.op ≠ .select cs b)(hsi:∀ cs b,i.op ≠ .select cs b)(hok:zTV P ops j i=true){Cj Ci Ci' F:Env->zAx->Prop}
  (hA:cls P i.op=0->(∀ e h,Ci' e h)/\∀ e h v,Cj e h->Cj (e.put i.dst v) h)
  (hB:cls P i.op≠0->(∀ e h,Cj e h)/\(∀ e h v,Ci (e.put j.dst v) h->Ci' e h)/\(cls P j.op=1->cls P i.op≠1->(∃ d,j.dst=some d/\d∉j.looksAt ops)/\∀ e h,Ci e h->rc P j e h)) {e:Env} {H:zAx}
  (h:zHH P ops j e H Cj λe1 h1=>zHH P ops i e1 h1 Ci F) :
  zHH P ops i e H Ci' λe1 h1=>zHH P ops j e1 h1 Cj F:=by
 simp only[zTV,zAk]at hok
 obtain⟨hap,hcl⟩:=hok
 obtain⟨h1,h2,h3⟩:=Oper.apart_spec hap
 have hcm:∀ t,j.dst=some t->i.dst≠some t:=h2
 have fi:∀ (v:Value) (k:zAm) (h:zAx),opX P false i (ev (e.put j.dst v)) h k->opX P false i (ev e) h k:=λv k h hh=>zN4 hsi (zVb h1) hh
 have fj:∀ (v:Value) (k:zAm) (h:zAx),opX P false j (ev e) h k->opX P false j (ev (e.put i.dst v)) h k:=λv k h hh=>zN4 hsj (λx hx=>(zVb h3 x hx).symm) hh
 have pj:∀ (v:Value) (h:zAx),opR P j.op (ev (e.put i.dst v)) h=opR P j.op (ev e) h:=λv h=>zN3 (zVb h3)
 have pi:∀ (v:Value) (h:zAx),opR P i.op (ev (e.put j.dst v)) h=opR P i.op (ev e) h:=λv h=>zN3 (zVb h1)
 by_cases hi0:cls P i.op=0
 ·obtain⟨hCi,hCj⟩:=hA hi0
  have hpi:cls P i.op=0\/cls P i.op=1 := .inl hi0
  rcases h with ⟨aj,h⟩|⟨aj,h⟩
  ·have hai:act ops i e=some true\/act ops i e=some false:=by
    obtain⟨v,h',_,hh⟩:=zZJ h
    rcases hh with ⟨a,_⟩|⟨a,_⟩
    ·rw[zGW h1]at a;exact .inl a
    ·rw[zGW h1]at a;exact .inr a
   rcases hai with ai|ai
   ·have h:opX P false j (ev e) H λvj hj=>∃ vi,zRA (opR P i.op (ev e) hj)=some vi/\Cj ((e.put i.dst vi).put j.dst vj) hj/\F ((e.put i.dst vi).put j.dst vj) hj:=zGV h λvj hj ⟨hc,hh⟩=>by
     rcases hh with ⟨_,hh⟩|⟨a,_⟩
     ·obtain⟨vi,hvi,_,hf⟩:=(zK4 hpi).1 hh
      rw[pi]at hvi
      refine⟨vi,hvi,?_⟩
      rw[<- zMb hcm]
      exact⟨hCj _ _ _ hc,hf⟩
     ·rw[zGW h1,ai]at a;cases a
    obtain⟨_,hj,vi,hvi,_⟩:=zZJ h
    refine .inl ⟨ai,(zK4 hpi).2 ⟨vi,by rw[zV1 hi0 (H':=hj)];exact hvi,hCi _ _,.inl ⟨by rw[zGW h3];exact aj,?_⟩⟩⟩
    refine fj _ _ _ (zGV h λvj hj' hh=>?_)
    obtain⟨vi',hvi',hk⟩:=hh
    rw[zV1 hi0 (H':=hj),hvi]at hvi'
    cases hvi'
    exact hk
   ·refine .inr ⟨ai,.inl ⟨by rw[zGW h3];exact aj,?_⟩⟩
    refine fj _ _ _ (zGV h λvj hj ⟨hc,hh⟩=>?_)
    rcases hh with ⟨a,_⟩|⟨_,hk⟩
    ·rw[zGW h1,ai]at a;cases a
    ·rw[<- zMb hcm];exact⟨hCj _ _ _ hc,hk⟩
  ·rcases h with ⟨ai,h⟩|⟨ai,h⟩
   ·obtain⟨vi,hvi,_,hf⟩:=(zK4 hpi).1 h
    rw[pi]at hvi
    refine .inl ⟨by rw[<- zGW h1];exact ai,(zK4 hpi).2 ⟨vi,hvi,hCi _ _,.inr ⟨by rw[zGW h3];exact aj,?_⟩⟩⟩
    rw[<- zMb hcm];exact hf
   ·refine .inr ⟨by rw[<- zGW h1];exact ai,.inr ⟨by rw[zGW h3];exact aj,?_⟩⟩
    rw[<- zMb hcm];exact h
 ·obtain⟨hCj,hCi,hrc⟩:=hB hi0
  have hpj:cls P j.op=0\/cls P j.op=1:=by
   rcases Bool.or_eq_true_iff.1 hcl with hh|hh
   ·exact absurd (zA3 hh) hi0
   ·exact zAhW.1 hh
  rcases h with ⟨aj,h⟩|⟨aj,h⟩
  ·obtain⟨vj,hvj,_,h⟩:=(zK4 hpj).1 h
   rcases h with ⟨ai,h⟩|⟨ai,hf⟩
   ·refine .inl ⟨by rw[<- zGW h1];exact ai,?_⟩
    by_cases hread:cls P j.op=1/\cls P i.op≠1
    ·obtain⟨⟨d,hdj,hdl⟩,hrc⟩:=hrc hread.1 hread.2
     refine zGV (fi _ _ _ h) λvi hi ⟨hc,hf⟩=>?_
     rw[zMb hcm]at hc hf
     have hr:=hrc _ _ hc
     refine⟨hCi _ _ _ hc,.inl ⟨by rw[zGW h3];exact aj,(zK4 hpj).2 ⟨vj,?_,hCj _ _,hf⟩⟩⟩
     unfold rc at hr
     simp only[hdj]at hr
     rw[zN5]at hr
     rw[<- hr]
     exact congrArg zRA (zN3 (zVb (ops:=ops) λt ht=>by cases ht;exact hdl)).symm
    ·-- the heap is as it was,or j does not zAbS at it
     refine zGV (fi _ _ _ (?_:opX P false i (ev (e.put j.dst vj)) H λvi hi=>zRA (opR P j.op (ev e) hi)=some vj/\Ci ((e.put j.dst vj).put i.dst vi) hi/\F ((e.put j.dst vj).put i.dst vi) hi)) λvi hi ⟨hv,hc,hf⟩=>?_
     ·by_cases hj0:cls P j.op=0
      ·exact zGV h λvi hi hk=>⟨by rw[zV1 hj0 (H':=H)];exact hvj,hk⟩
      ·have hj1:cls P j.op=1:=hpj.resolve_left hj0
       have hi1:cls P i.op=1:=Classical.byContradiction λhn=>hread ⟨hj1,hn⟩
       obtain⟨vi,hvi,hk⟩:=(zK4 (.inr hi1)).1 h
       exact(zK4 (.inr hi1)).2 ⟨vi,hvi,hvj,hk⟩
     ·rw[zMb hcm]at hc hf
      exact⟨hCi _ _ _ hc,.inl ⟨by rw[zGW h3];exact aj,(zK4 hpj).2 ⟨vj,by rw[pj];exact hv,hCj _ _,hf⟩⟩⟩
   ·rw[zMb hcm]at hf
    exact .inr ⟨by rw[<- zGW h1];exact ai,.inl ⟨by rw[zGW h3];exact aj,(zK4 hpj).2 ⟨vj,by rw[pj];exact hvj,hCj _ _,hf⟩⟩⟩
  ·rcases h with ⟨ai,h⟩|⟨ai,hf⟩
   ·refine .inl ⟨by rw[<- zGW h1];exact ai,zGV (fi _ _ _ h) λvi hi ⟨hc,hf⟩=>?_⟩
    rw[zMb hcm]at hc hf
    exact⟨hCi _ _ _ hc,.inr ⟨by rw[zGW h3];exact aj,hf⟩⟩
   ·rw[zMb hcm]at hf
    exact .inr ⟨by rw[<- zGW h1];exact ai,.inr ⟨by rw[zGW h3];exact aj,hf⟩⟩
end Go.X
