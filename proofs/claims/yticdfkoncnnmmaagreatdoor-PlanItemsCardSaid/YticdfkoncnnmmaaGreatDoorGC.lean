import Derived.Test.YticdfkoncnnmmaaGreatDoorGB
import Derived.Laws.Append
import Derived.Laws.BytesArg
set_option linter.unusedSimpArgs false
set_option linter.unusedVariables false
namespace Go.X
theorem zPO(off:Nat):∀ (vs:List Value)(k:Nat)(c:Array Value),off+k+vs.length≤c.size →
    (vs.zipIdx k).foldl(fun cs p=>cs.setIfInBounds(off+p.2)p.1)c=(c.toList.take(off+k)++vs++c.toList.drop(off+k+vs.length)).toArray
  | [],k,c,_=>by simp
  | v :: vs,k,c,h=>by
    have hl:off+(k+1)+vs.length≤(c.setIfInBounds(off+k)v).size:=by simp at h ⊢;omega
    simp only[List.zipIdx_cons,List.foldl_cons]
    rw[zPO off vs(k+1)_ hl]
    have e:=list_seg_step c.toList(off+k)v vs(by simp at h ⊢;omega)
    congr 1
    simpa [Array.toList_setIfInBounds,Nat.add_assoc] using e
theorem zNF{place:Nat→Option(Nat×Nat)}:∀ (ps:List(Nat×Value))(c r:Array Value),bfill place c ps=some r→Instr.fill place c ps=some r
  | [],c,r,h=>by simpa [bfill,Instr.fill] using h
  | (i,v) :: ps,c,r,h=>by
    simp only[bfill]at h
    simp only[Instr.fill]
    cases hp:place i with
    | none=>simp[hp]at h
    | some q =>
      obtain⟨off,size⟩:=q
      simp only[hp]at h
      split at h
      · rename_i hc
        have e:v.cells.zipIdx.foldl(fun cs(x:Value×Nat)=>cs.setIfInBounds(off+x.2)x.1)c=spl c off v.cells:=by
          rw[← Array.foldl_toList,Array.toList_zipIdx,zPO off v.cells.toList 0 c(by simp;omega)]
          simp[spl]
        have hn:(decide(v.cells.size≠size) || decide(off+v.cells.size > c.size))=false:=by
          simp only[Bool.or_eq_false_iff,decide_eq_false_iff_not]
          omega
        simp only[hn,Bool.false_eq_true,if_false]
        rw[← zNF ps _ r h]
        congr 1
      · cases h
theorem zHd{P:Program}{T:TypeId}{cs:Array Value}(h:zcells P T=some cs):∃ i z,P.info? T=some i∧i.zero=some z∧z.cells=cs:=by
  unfold zcells at h
  cases hi:P.info? T with
  | none=>simp[hi]at h
  | some i =>
    simp only[hi,Option.bind_some]at h
    cases hz:i.zero with
    | none=>simp[hz]at h
    | some z=>exact⟨i,z,rfl,hz,by simpa [hz] using h⟩
theorem zTM{P:Program}{w:World}{T:TypeId}{parts:Array(Nat×Value)}{v:Value}(h:buildV P T parts.toList=some v):(Instr.build T parts).run P w = .ok v w:=by
  unfold buildV at h
  split at h
  · rename_i fs hu
    split at h
    · rename_i places hp
      cases hz:zcells P T with
      | none=>simp[hz]at h
      | some z =>
        simp only[hz,Option.bind_some]at h
        cases hf:bfill(places.toArray[·]?)z parts.toList with
        | none=>simp only[hf,Option.map_none,reduceCtorEq]at h
        | some r =>
          simp only[hf,Option.map_some,Option.some.injEq]at h
          subst h
          obtain⟨i,zv,hi,hzv,rfl⟩:=zHd hz
          refine run_build w T parts r ?_
          unfold Program.built
          simp only[hi,hu,hzv,hp]
          exact zNF _ _ _ hf
    · cases h
  · rename_i n e hu
    split at h
    · rename_i ie hie
      cases hz:zcells P T with
      | none=>simp[hz]at h
      | some z =>
        simp only[hz,Option.bind_some]at h
        cases hf:bfill(fun j=>some(j * ie.size,ie.size))z parts.toList with
        | none=>simp only[hf,Option.map_none,reduceCtorEq]at h
        | some r =>
          simp only[hf,Option.map_some,Option.some.injEq]at h
          subst h
          obtain⟨i,zv,hi,hzv,rfl⟩:=zHd hz
          refine run_build w T parts r ?_
          unfold Program.built
          simp only[hi,hu,hzv,hie]
          exact zNF _ _ _ hf
    · cases h
  · cases h
theorem zWD{P:Program}{w:World}{T e:TypeId}{len:Nat}{parts:Array(Nat×Value)}{cs:Array Value}(hu:P.underlying T=some(.slice e))(h:bslV P e len parts.toList=some cs) :
    (Instr.buildSlice T len parts).run P w = .ok(.slice(some⟨w.heap.size,0,none⟩)len len){ w with heap:=w.heap.push(.cells cs e(0,0)) }:=by
  unfold bslV at h
  split at h
  · cases h
  · rename_i hc
    cases hz:zcells P e with
    | none=>simp[hz]at h
    | some z =>
      simp only[hz,Option.bind_some]at h
      split at h
      · rename_i hzs
        obtain⟨i,zv,hi,hzv,rfl⟩:=zHd hz
        have hf:=zNF _ _ _ h
        have hle:¬ (len * P.cellsOf e > 2 ^ 24):=by omega
        simp only[Instr.buildSlice,Sem.run_bind,zAG hu,Result.andThen_ok,zA6 hi]
        rw[if_neg hle]
        by_cases h0:len * P.cellsOf e=0
        · rw[if_pos h0]
          rw[h0]at hf ⊢
          have e0:zrow zv.cells 0=Array.map(fun x=>(#[]:Array Value)[x % (#[]:Array Value).size]!)(Array.range 0):=by simp[zrow]
          rw[e0]at hf
          simp only[Sem.run_bind,Sem.run_pure,Result.andThen_ok,hf,newRow,run_newObj]
        · rw[if_neg h0]
          have hzr:(zeroValue e).run P w = .ok zv w:=by simp[zeroValue,zEx hi,hzv]
          simp only[Sem.run_bind,hzr,Result.andThen_ok,Sem.run_pure]
          unfold zrow at hf
          simp only[hf,newRow,Sem.run_bind,run_newObj,Result.andThen_ok,Sem.run_pure]
      · cases h
theorem zTN{P:Program}{w:World}{size n:Nat}{H:Heap}{x:Value}{new:Array Value}(h:elemsOf size H x=some(n,new)):(Builtin.lenOf x).run P w = .ok n w:=by
  cases x <;> simp only[elemsOf,reduceCtorEq]at h
  · split at h
    · simp only[Option.some.injEq,Prod.mk.injEq]at h
      simp[Builtin.lenOf,h.1]
    · cases h
  · rename_i a l c
    split at h
    · simp only[Option.some.injEq,Prod.mk.injEq]at h
      simp[Builtin.lenOf];omega
    · split at h
      · split at h
        · split at h
          · simp only[Option.some.injEq,Prod.mk.injEq]at h
            simp[Builtin.lenOf,h.1]
          · cases h
        · cases h
      · cases h
theorem zKD{P:Program}{w:World}{size n m:Nat}{x:Value}{new:Array Value}(h:elemsOf size w.heap x=some(n,new))(hm:m≤n):(Builtin.firstCells size m x).run P w = .ok(new.extract 0(m * size))w:=by
  have hms:m * size≤n * size:=Nat.mul_le_mul_right _ hm
  cases x <;> simp only[elemsOf,reduceCtorEq]at h
  · rename_i s
    split at h
    · rename_i h1
      simp only[Option.some.injEq,Prod.mk.injEq]at h
      obtain⟨rfl,rfl⟩:=h
      subst h1
      simp only[Builtin.firstCells,Sem.run_pure,Nat.mul_one]
      rw[ByteArray.data_extract,Array.map_extract]
    · cases h
  · rename_i a l c
    split at h
    · rename_i h0
      simp only[Option.some.injEq,Prod.mk.injEq]at h
      obtain⟨rfl,rfl⟩:=h
      have hm0:m=0:=by omega
      subst hm0
      rcases a with _ | a
      · simp[Builtin.firstCells]
      · simp only[Builtin.firstCells,Nat.zero_mul]
        rw[zPI];rfl
    · split at h
      · split at h
        · rename_i c' t f hg
          split at h
          · rename_i hle
            simp only[Option.some.injEq,Prod.mk.injEq]at h
            obtain⟨rfl,rfl⟩:=h
            simp only[Builtin.firstCells]
            rw[zM5 hg(by omega)]
            congr 1
            apply Array.ext'
            simp[List.take_take,Nat.min_eq_left hms]
          · cases h
        · cases h
      · cases h
theorem zJ9{size n:Nat}{H:Heap}{x:Value}{new:Array Value}(h:elemsOf size H x=some(n,new)):new.size=n * size:=by
  cases x <;> simp only[elemsOf,reduceCtorEq]at h
  · rename_i s
    split at h
    · rename_i h1
      simp only[Option.some.injEq,Prod.mk.injEq]at h
      obtain⟨rfl,rfl⟩:=h
      simp only[Array.size_map,h1,Nat.mul_one]
      rfl
    · cases h
  · rename_i a l c
    split at h
    · simp only[Option.some.injEq,Prod.mk.injEq]at h
      obtain⟨rfl,rfl⟩:=h
      simp
    · split at h
      · split at h
        · split at h
          · simp only[Option.some.injEq,Prod.mk.injEq]at h
            obtain⟨rfl,rfl⟩:=h
            simp;omega
          · cases h
        · cases h
      · cases h
theorem zPp{P:Program}{w:World}{b o:Nat}{vs:Array Value}{H:Heap}(h:stA w.heap b o vs=some H):(storeCells⟨b,o,none⟩vs.toList).run P w = .ok(){ w with heap:=H }:=by
  unfold stA at h
  split at h
  · rename_i c t f hg
    split at h
    · rename_i hc
      cases h
      have hst:=zOG(P:=P)(b:=b)(o:=o)(T:=t)(f:=f)vs.toList 0 c w hg(by simp;omega)(by simpa using hc.2.1)(by
        intro v hv
        exact(Array.all_eq_true_iff_forall_mem.1 hc.2.2)v(by simpa using hv))
      rw[hst]
      simp[spl]
    · cases h
  · cases h
theorem zSt{P:Program}{o:Oper}{ρ:Operand→Value}{H:Heap}{k:Value→Heap→Prop}{T U ty e:TypeId}{s x:Value}
    (hrun:∀ w,(execOp ρ o).run P w=((Builtin.append_ #[T,U] ty #[s,x]).run P w).andThen fun v w' => .ok(.value v)w')
    (hT:P.underlying T=some(.slice e))(hU:P.underlying U=some .string∨∃ e',P.underlying U=some(.slice e'))(hz:zokB P e=true)
    (h:Mapp e(P.cellsOf e)(P.bytesOf e)H s x k):Mraw P o ρ H k:=by
  obtain⟨base,len,cap,n,new,rfl,hx,hone,hin,hgrow⟩:=h
  unfold zokB at hz
  cases hzc:zcells P e with
  | none=>simp[hzc]at hz
  | some z =>
    simp only[hzc]at hz
    have hzs:z.size=P.cellsOf e:=Nat.eq_of_beq_eq_true hz
    obtain⟨i,zv,hi,hzv,hzcells⟩:=zHd hzc
    intro w hw
    subst hw
    have hlen:=zTN(P:=P)(w:=w)hx
    have hnew:=zKD(P:=P)(w:=w)hx(Nat.le_refl n)
    rw[show new.extract 0(n * P.cellsOf e)=new from by rw[← zJ9 hx];simp]at hnew
    rcases hU with hU | ⟨e',hU⟩
    all_goals
      by_cases hle:len+n≤cap
      · have hin:=hin hle
        rcases base with _ | ⟨b,off,_ | sp⟩
        · refine⟨.value(.slice none(len+n)cap),w,?_,Same.rfl' w,.inl⟨_,rfl,hin⟩⟩
          rw[hrun]
          simp[Builtin.append_,zAG hT,zA6 hi,zAG hU,hlen,hle,hnew]
        · obtain⟨h',hst,hk⟩:=hin
          refine⟨.value(.slice(some⟨b,off,none⟩)(len+n)cap),{ w with heap:=h' },?_,⟨rfl,rfl,rfl,zLj hst⟩,.inl⟨_,rfl,hk⟩⟩
          rw[hrun]
          simp[Builtin.append_,zAG hT,zA6 hi,zAG hU,hlen,hle,hnew,zDF,zPp hst]
        · exact hin.elim
      · obtain⟨hb,hb0,old,hold,hk⟩:=hgrow(by omega)
        have hby:i.bytes=P.bytesOf e:=by simp[Program.bytesOf,hi]
        have hfit:=growslice_fits(need:=len+n)(old:=cap)(bytes:=P.bytesOf e)(by omega)hb
        have h48:¬ (281474976710656<Builtin.nextslicecap(len+n)cap * P.bytesOf e):=by omega
        have hnb:¬ (P.bytesOf e=0):=by omega
        have hoc:=zKD(P:=P)(w:=w.drew)(m:=len)(x := .slice base len cap)hold(Nat.le_refl _)
        rw[show old.extract 0(len * P.cellsOf e)=old from by rw[← zJ9 hold];simp]at hoc
        have hnc:=zKD(P:=P)(w:=w.drew)(m:=n)hx(Nat.le_refl _)
        rw[show new.extract 0(n * P.cellsOf e)=new from by rw[← zJ9 hx];simp]at hnc
        have hn63:len+n<2 ^ 63:=by
          have:(len+n) * 1≤(len+n) * P.bytesOf e:=Nat.mul_le_mul_left _ hb0
          omega
        refine⟨.value(.slice(some⟨w.heap.size,0,none⟩)(len+n)(grownCap w(len+n)cap e)),{ w.drew with heap:=w.heap.push(.cells(old++new++Builtin.zeroCells zv.cells(grownCap w(len+n)cap e - (len+n)))e(0,0)) },?_,⟨rfl,rfl,rfl,Solid.push⟩,.inl⟨_,rfl,?_⟩⟩
        · rw[hrun]
          simp[Builtin.append_,zAG hT,zA6 hi,zAG hU,hlen,hle,hby,zEx hi,hnb,h48,Question.forced,hoc,hnc,zeroValue,hzv,newRow,grownCap]
          rfl
        · refine hk _ _ ?_ ?_ ?_
          · simp[grownCap,Question.cut]
          · have hp:0<2 ^ 63 - (len+n):=by omega
            have:=Nat.mod_lt(w.tape w.drawn(.appendCap(len+n)cap e))hp
            simp only[grownCap,Question.cut]
            omega
          · simp[Builtin.zeroCells,hzcells,hzs]
theorem zVe{P:Program}{o:Oper}{ρ:Operand→Value}{H:Heap}{k:Value→Heap→Prop}{T U ty e:TypeId}{s x:Value}
    (hrun:∀ w,(execOp ρ o).run P w=((Builtin.append_ #[T,U] ty #[s,x]).run P w).andThen fun v w' => .ok(.value v)w')
    (hT:P.underlying T=some(.slice e))(hU:∃ ku,P.underlying U=some(.int ku))(hz:zokB P e=true)
    (h:Mapz e(P.cellsOf e)(P.bytesOf e)H s x(zcells P e)k):Mraw P o ρ H k:=by
  obtain⟨base,len,cap,kx,n,zc,rfl,rfl,hnby,hn63,hzz,hone,hin,hgrow⟩:=h
  unfold zokB at hz
  cases hzc:zcells P e with
  | none=>simp[hzc]at hz
  | some z =>
    simp only[hzc]at hz
    have hzs:z.size=P.cellsOf e:=Nat.eq_of_beq_eq_true hz
    rw[hzc]at hzz
    cases hzz
    obtain⟨i,zv,hi,hzv,hzcells⟩:=zHd hzc
    have hby:i.bytes=P.bytesOf e:=by simp[Program.bytesOf,hi]
    have hw63:IntKind.i64.wrap(n:Int)=n:=by
      simp only[IntKind.wrap,IntKind.signed,IntKind.bits]
      simp
      omega
    have hzr:Builtin.zeroCells zv.cells n=zrow zc(n * P.cellsOf e):=by
      unfold Builtin.zeroCells zrow
      rw[hzcells,hzs]
    have hneg:¬ ((n:Int)<0):=by omega
    have hb48:¬ ((n:Int) * (P.bytesOf e:Nat) > 2 ^ 48):=by
      have:((n * P.bytesOf e:Nat):Int)≤140737488355328:=by omega
      rw[Int.natCast_mul]at this
      omega
    have hb48':¬ (281474976710656<(n:Int) * (P.bytesOf e:Nat)):=by omega
    have hz0:n * P.cellsOf e=0→zrow zc(n * P.cellsOf e)=#[]:=fun h=>by rw[h];simp[zrow]
    obtain⟨ku,hU⟩:=hU
    intro w hw
    subst hw
    by_cases hle:len+n≤cap
    · have hin:=hin hle
      rcases base with _ | ⟨b,off,_ | sp⟩
      · refine⟨.value(.slice none(len+n)cap),w,?_,Same.rfl' w,.inl⟨_,rfl,hin⟩⟩
        rw[hrun]
        by_cases h0:n * P.cellsOf e=0
        · simp[Builtin.append_,zAG hT,zA6 hi,zAG hU,asInt,asIntOf,hw63,hneg,zEx hi,hby,hb48',hle,h0]
        · simp[Builtin.append_,zAG hT,zA6 hi,zAG hU,asInt,asIntOf,hw63,hneg,zEx hi,hby,hb48',hle,h0,zeroValue,hzv]
      · obtain⟨h',hst,hk⟩:=hin
        refine⟨.value(.slice(some⟨b,off,none⟩)(len+n)cap),{ w with heap:=h' },?_,⟨rfl,rfl,rfl,zLj hst⟩,.inl⟨_,rfl,hk⟩⟩
        rw[hrun]
        have hs:=zPp(P:=P)hst
        by_cases h0:n * P.cellsOf e=0
        · rw[hz0 h0]at hs
          simp[Builtin.append_,zAG hT,zA6 hi,zAG hU,asInt,asIntOf,hw63,hneg,zEx hi,hby,hb48',hle,h0,zDF]
          rw[show([]:List Value)=(#[]:Array Value).toList from rfl,hs]
          rfl
        · simp[Builtin.append_,zAG hT,zA6 hi,zAG hU,asInt,asIntOf,hw63,hneg,zEx hi,hby,hb48',hle,h0,zeroValue,hzv,hzr,zDF,hs]
      · exact hin.elim
    · obtain⟨hb,hb0,old,hold,hk⟩:=hgrow(by omega)
      have hfit:=growslice_fits(need:=len+n)(old:=cap)(bytes:=P.bytesOf e)(by omega)hb
      have h48:¬ (281474976710656<Builtin.nextslicecap(len+n)cap * P.bytesOf e):=by omega
      have hnb:¬ (P.bytesOf e=0):=by omega
      have hoc:=zKD(P:=P)(w:=w.drew)(m:=len)(x := .slice base len cap)hold(Nat.le_refl _)
      rw[show old.extract 0(len * P.cellsOf e)=old from by rw[← zJ9 hold];simp]at hoc
      have hn63':len+n<2 ^ 63:=by
        have:(len+n) * 1≤(len+n) * P.bytesOf e:=Nat.mul_le_mul_left _ hb0
        omega
      have hmax:¬ (((len:Int)+(n:Int)) > IntKind.i64.max):=by
        have:IntKind.i64.max=9223372036854775807:=rfl
        omega
      refine⟨.value(.slice(some⟨w.heap.size,0,none⟩)(len+n)(grownCap w(len+n)cap e)),{ w.drew with heap:=w.heap.push(.cells(old++zrow zc(n * P.cellsOf e)++Builtin.zeroCells zv.cells(grownCap w(len+n)cap e - (len+n)))e(0,0)) },?_,⟨rfl,rfl,rfl,Solid.push⟩,.inl⟨_,rfl,?_⟩⟩
      · rw[hrun]
        have hmax':¬ (9223372036854775807<(len:Int)+(n:Int)):=by omega
        by_cases h0:n * P.cellsOf e=0
        · simp[Builtin.append_,zAG hT,zA6 hi,zAG hU,asInt,asIntOf,hw63,hneg,hmax',hb48',hle,hby,zEx hi,hnb,h48,Question.forced,hoc,h0,show zrow zc 0=#[] from by simp[zrow],zeroValue,hzv,newRow,grownCap]
          rfl
        · simp[Builtin.append_,zAG hT,zA6 hi,zAG hU,asInt,asIntOf,hw63,hneg,hmax',hb48',hle,hby,zEx hi,hnb,h48,Question.forced,hoc,h0,zeroValue,hzv,hzr,newRow,grownCap]
          rfl
      · refine hk _ _ ?_ ?_ ?_
        · simp[grownCap,Question.cut]
        · have hp:0<2 ^ 63 - (len+n):=by omega
          have:=Nat.mod_lt(w.tape w.drawn(.appendCap(len+n)cap e))hp
          simp only[grownCap,Question.cut]
          omega
        · simp[Builtin.zeroCells,hzcells,hzs]
end Go.X
namespace Go.X
theorem zVf{P:Program}{o:Oper}{ρ:Operand→Value}{H:Heap}{k:Value→Heap→Prop}{T U ty e:TypeId}{d s:Value}{i:TypeInfo}
    (hrun:∀ w,(execOp ρ o).run P w=((Builtin.copy_ #[T,U] ty #[d,s]).run P w).andThen fun v w' => .ok(.value v)w')
    (hT:P.underlying T=some(.slice e))(hi:P.info? e=some i)(h:Mcopy(P.cellsOf e)H d s k):Mraw P o ρ H k:=by
  obtain⟨n,new,base,len,cap,hs,rfl,h⟩:=h
  intro w hw
  subst hw
  have hlen:=zTN(P:=P)(w:=w)hs
  have hf:=zKD(P:=P)(w:=w)(m:=Nat.min n len)hs(Nat.min_le_left _ _)
  rcases base with _ | ⟨b,off,_ | sp⟩
  · refine⟨.value(.int .i64(Nat.min n len)),w,?_,Same.rfl' w,.inl⟨_,rfl,h⟩⟩
    rw[hrun]
    simp only[Builtin.copy_,List.getElem?_toArray,List.getElem?_cons_zero,List.getElem?_cons_succ,Sem.run_bind,zAG hT,Result.andThen_ok,hlen,zA6 hi,hf,Sem.run_pure]
    rfl
  · obtain⟨h',hst,hk⟩:=h
    refine⟨.value(.int .i64(Nat.min n len)),{ w with heap:=h' },?_,⟨rfl,rfl,rfl,zLj hst⟩,.inl⟨_,rfl,hk⟩⟩
    rw[hrun]
    simp only[Builtin.copy_,List.getElem?_toArray,List.getElem?_cons_zero,List.getElem?_cons_succ,Sem.run_bind,zAG hT,Result.andThen_ok,hlen,zA6 hi,hf,zPp hst,Sem.run_pure]
    rfl
  · exact h.elim
theorem zNU:∀ {l:List Value}{bs:List UInt8},bytesOf l=some bs→∃ ns:List Int,l=ns.map(Value.int .u8)∧bs=ns.map fun n=>UInt8.ofNat n.toNat
  | [],bs,h=>by simp[bytesOf]at h;exact⟨[],rfl,by simp[h]⟩
  | v :: l,bs,h=>by
    unfold bytesOf at h
    split at h
    · rename_i e;cases e
    · rename_i n r e
      cases e
      cases hb:bytesOf l with
      | none=>simp[hb]at h
      | some b =>
        simp only[hb,Option.map_some,Option.some.injEq]at h
        obtain⟨ns,rfl,rfl⟩:=zNU hb
        exact⟨n :: ns,rfl,by simp[← h]⟩
    · cases h
theorem zWE{P:Program}{w:World}{S D e:TypeId}(hs:P.underlying S=some(.slice e))(he:P.underlying e=some(.int .u8))(hd:P.underlying D=some .string){x v:Value}(h:b2s w.heap x=some v) :
    (convert S D x).run P w = .ok v w:=by
  unfold b2s at h
  split at h
  · rename_i a l c
    rw[run_convert_bytes_string w S D e a l c hs he hd]
    simp only[elemsOf]at h
    split at h
    · rename_i h0
      subst h0
      simp only[Option.bind_some,bytesOf,Option.map_some,Option.some.injEq]at h
      subst h
      rcases a with _ | a
      · rfl
      · have hl:=zPI(P:=P)(w:=w)(a:=a)
        have hl':(loadCells a 0).run P w = .ok(([]:List Int).map(Value.int .u8)).toArray w:=hl
        rw[run_bytesToString w _ _ _ [] hl'];rfl
    · split at h
      · rename_i b o
        split at h
        · rename_i cs t f hg
          split at h
          · rename_i hle
            simp only[Option.bind_some]at h
            cases hb:bytesOf(cs.extract o(o+l * 1)).toList with
            | none=>simp only[hb,Option.map_none,reduceCtorEq]at h
            | some bs =>
              simp only[hb,Option.map_some,Option.some.injEq]at h
              subst h
              obtain⟨ns,hns,rfl⟩:=zNU hb
              rw[Nat.mul_one]at hle hns
              have hl:=zM5(P:=P)hg hle
              have hns':cs.extract o(o+l)=(ns.map(Value.int .u8)).toArray:=by rw[← hns]
              rw[hns']at hl
              rw[run_bytesToString w _ _ _ ns hl,foldl_push_bytes]
              simp only[ByteArray.data_empty,Array.empty_append]
          · simp at h
        · simp at h
      · simp at h
  · cases h
theorem zWF{P:Program}{o:Oper}{ρ:Operand→Value}{H:Heap}{k:Value→Heap→Prop}{S D e:TypeId}{x:Value}
    (hrun:∀ w,(execOp ρ o).run P w=((convert S D x).run P w).andThen fun v w' => .ok(.value v)w')
    (hs:P.underlying S=some .string)(hd:P.underlying D=some(.slice e))(he:P.underlying e=some(.int .u8))(h:Ms2b e H x k):Mraw P o ρ H k:=by
  obtain⟨str,rfl,hsz,hk⟩:=h
  intro w hw
  subst hw
  have hp:0<2 ^ 63 - str.size:=by omega
  have hm:=Nat.mod_lt(w.tape w.drawn(.appendCap str.size 0 e))hp
  have hk:=hk(grownCap w str.size 0 e)(by simp[grownCap,Question.cut])(by simp only[grownCap,Question.cut];omega)
  have hsize:(Array.map(fun b:UInt8=>Value.int IntKind.u8(b.toNat:Int))str.data++Array.replicate(grownCap w str.size 0 e - str.size)(Value.int IntKind.u8 0)).size=grownCap w str.size 0 e:=by
    have:str.data.size=str.size:=rfl
    have hge:str.size≤grownCap w str.size 0 e:=by simp[grownCap,Question.cut]
    simp[this];omega
  generalize hc:Array.map(fun b:UInt8=>Value.int IntKind.u8(b.toNat:Int))str.data++Array.replicate(grownCap w str.size 0 e - str.size)(Value.int IntKind.u8 0)=cs at hsize hk
  refine⟨.value(.slice(some⟨w.heap.size,0,none⟩)str.size(grownCap w str.size 0 e)),{ w.drew with heap:=w.heap.push(.cells cs e(grownCap w str.size 0 e,grownCap w str.size 0 e+1)) },?_,⟨rfl,rfl,rfl,Solid.push⟩,.inl⟨_,rfl,hk⟩⟩
  rw[hrun]
  have hfr:({ w.drew with heap:=w.heap.push(.cells cs e(0,0)) }:World).freeze⟨w.heap.size,cs.size,none⟩1 = { w.drew with heap:=w.heap.push(.cells cs e(cs.size,cs.size+1)) }:=by
    unfold World.freeze
    simp only[if_neg(by decide:¬ (1=0))]
    congr 1
    apply Array.ext_getElem?
    intro j
    rw[Array.getElem?_modify]
    by_cases hj:w.heap.size=j
    · subst hj;simp
    · simp[hj,Array.getElem?_push,show j≠w.heap.size from fun h=>hj h.symm]
  have hsh:({ w.drew with heap:=w.heap.push(.cells cs e(0,0)) }:World).shape? w.heap.size=some(e,cs.size):=by
    simp[World.shape?]
  have hcv:(convert S D(.string str)).run P w=(Conv.stringToBytes e str).run P w:=by
    simp[convert,zAG hs,zAG hd,zAG he]
  rw[hcv]
  unfold Conv.stringToBytes
  have hch:(choose(.appendCap str.size 0 e)).run P w = .ok(grownCap w str.size 0 e)w.drew:=by
    simp[Question.forced,grownCap]
  simp only[Sem.run_bind,hch,Result.andThen_ok,hc,newRow,run_newObj,Sem.run_pure,markStringish,run_shape]
  have hsh':World.shape?{ heap:=w.drew.heap.push(Obj.cells cs e(0,0)),tape:=w.drew.tape,drawn:=w.drew.drawn,os:=w.drew.os,output:=w.drew.output }w.drew.heap.size=some(e,cs.size):=hsh
  rw[hsh']
  simp only[run_freeze,Result.andThen_ok]
  have hfr':World.freeze{ heap:=w.drew.heap.push(Obj.cells cs e(0,0)),tape:=w.drew.tape,drawn:=w.drew.drawn,os:=w.drew.os,output:=w.drew.output }⟨w.drew.heap.size,cs.size,none⟩1=_:=hfr
  rw[hfr',hsize]
  rfl
theorem zMO{α β γ:Type}(r:Result α)(f:α→World→Result β)(g:β→World→Result γ):(r.andThen f).andThen g=r.andThen fun a w=>(f a w).andThen g:=by
  cases r <;> rfl
def CallOf(P:Program)(o:Oper)(ρ:Operand→Value)(H:Heap)(k:Value→Heap→Prop):Prop :=
  (∃ c f,o.op = .call c∧c.callee = .value(.func f)∧hasBody P f=true∧HCalls P f(c.args.toList.map ρ)H k) ∨
  ∃ c x,o.op = .call c∧c.callee = .value x∧Mcallv P(ρ x)(c.args.toList.map ρ)H k
theorem zBr{P:Program}{o:Oper}{ρ:Operand→Value}{H:Heap}{k:Value→Heap→Prop}{r:Option Value}{s:Sem Value}
    (hrun:∀ w,(execOp ρ o).run P w=(s.run P w).andThen fun v w' => .ok(.value v)w')(h:Mpu r fun v=>k v H)(hr:∀ v,r=some v→∀ w:World,w.heap=H→s.run P w = .ok v w):Mraw P o ρ H k:=by
  obtain⟨v,hv,hk⟩:=h
  exact zJv(fun w hw=>by rw[hrun,hr v hv w hw];rfl)hk
theorem zTO{P:Program}{o:Oper}{ρ:Operand→Value}{H:Heap}{k:Value→Heap→Prop}{r:Option Heap}{s:Sem Unit}
    (hrun:∀ w,(execOp ρ o).run P w=(s.run P w).andThen fun _ w' => .ok .skip w')(h:Mwr r fun h=>k undef h)(hr:∀ h,r=some h→∀ w:World,w.heap=H→s.run P w = .ok(){ w with heap:=h })(hs:∀ h,r=some h→Solid H h):Mraw P o ρ H k:=by
  obtain⟨v,hv,hk⟩:=h
  exact zQx(fun w hw=>by rw[hrun,hr v hv w hw];rfl)hk(hs v hv)
theorem zM7{P:Program}{o:Oper}{ρ:Operand→Value}{H H':Heap}{k:Value→Heap→Prop}{s:Sem Value}{v:Value}
    (hrun:∀ w,(execOp ρ o).run P w=(s.run P w).andThen fun v w' => .ok(.value v)w')(hk:k v H')(hr:∀ w:World,w.heap=H→s.run P w = .ok v{ w with heap:=H' })(hs:Solid H H':=by first | exact Solid.push | exact Solid.rfl'):Mraw P o ρ H k :=
  zPn(fun w hw=>by rw[hrun,hr w hw];rfl)hk hs
theorem zGh{P:Program}{o:Oper}{ρ:Operand→Value}{H:Heap}{k:Value→Heap→Prop}{s:Sem Value}
    (hrun:∀ w,(execOp ρ o).run P w=(s.run P w).andThen fun v w' => .ok(.value v)w')(h:Msem P s H k):Mraw P o ρ H k:=fun w hw=>by
  obtain⟨v,w',e,hs,hk⟩:=h w hw
  exact⟨.value v,w',by rw[hrun,e];rfl,hs,.inl⟨v,rfl,hk⟩⟩
theorem zTP{P:Program}{o:Oper}{ρ:Operand→Value}{H:Heap}{k:Value→Heap→Prop}{s:Sem Unit}
    (hrun:∀ w,(execOp ρ o).run P w=(s.run P w).andThen fun _ w' => .ok .skip w')(h:Msu P s H k):Mraw P o ρ H k:=fun w hw=>by
  obtain⟨w',e,hs,hk⟩:=h w hw
  exact⟨.skip,w',by rw[hrun,e];rfl,hs,.inr⟨rfl,hk⟩⟩
theorem zJw{P:Program}{T:TypeId}(h:infB P T=true):∃ i,P.info? T=some i:=Option.isSome_iff_exists.1 h
theorem zPP{P:Program}{T:TypeId}(h:undB P T=true):∃ d,P.underlying T=some d:=Option.isSome_iff_exists.1 h
theorem zWG{P:Program}{w:World}{A:Array TypeId}{T:TypeId}{l:List Value}{v:Value}(h:minV true l=some v):(Builtin.min_ A T l.toArray).run P w = .ok v w:=by
  unfold minV at h
  split at h
  · simp only[if_true,Option.some.injEq]at h
    subst h
    simp[Builtin.min_,Builtin.min2]
  · cases h
theorem zWH{P:Program}{w:World}{A:Array TypeId}{T:TypeId}{l:List Value}{v:Value}(h:minV false l=some v):(Builtin.max_ A T l.toArray).run P w = .ok v w:=by
  unfold minV at h
  split at h
  · simp only[Bool.false_eq_true,if_false,Option.some.injEq]at h
    subst h
    simp[Builtin.max_,Builtin.max2]
  · cases h
theorem zKa{α:Type}{a:Array α}{x y:α}(h:a.toList=[x,y]):a=#[x,y]:=by
  obtain⟨l⟩:=a;simp only at h;rw[h]
theorem zJx{α:Type}{a:Array α}{x:α}(h:a.toList=[x]):a=#[x]:=by
  obtain⟨l⟩:=a;simp only at h;rw[h]
set_option maxHeartbeats 2000000 in
theorem zTQ{P:Program}{q:Bool}{o:Oper}{ρ:Operand→Value}{H:Heap}{k:Value→Heap→Prop}(hfunc:∀ f,ρ(.func f) = .func(.func f) #[] #[])(h:opX P q o ρ H k):CallOf P o ρ H k∨Mraw P o ρ H k:=by
  unfold opX at h
  cases ho:o.op with
  | move x =>
    simp only[ho,opR]at h
    exact .inr(zJv(fun w _=>by simp[execOp,ho])h)
  | assign x =>
    simp only[ho,opR]at h
    exact .inr(zJv(fun w _=>by simp[execOp,ho])h)
  | pick c a b =>
    simp only[ho,opR]at h
    exact .inr(zBr(s:=do pure(if ← asBool(ρ c)then ρ a else ρ b))(fun w=>by simp[execOp,ho,zMO])h(fun v hv w _=>zVa hv))
  | alloc T =>
    simp only[ho,opR]at h
    obtain⟨cs,hc,hk⟩:=h
    exact .inr(zM7(s:=Instr.alloc T true(.tuple #[]))(fun w=>by simp[execOp,ho])hk(fun w hw=>by rw[zTJ hc,hw]))
  | box T x =>
    simp only[ho,opR]at h
    obtain⟨cs,hc,hk⟩:=h
    cases hc
    exact .inr(zM7(s:=Instr.box T(ρ x))(fun w=>by simp[execOp,ho])hk(fun w hw=>by rw[zWl,hw]))
  | build T parts =>
    simp only[ho,opR]at h
    refine .inr(zBr(s:=Instr.build T(parts.map fun(i,x)=>(i,ρ x)))(fun w=>by simp[execOp,ho])h(fun v hv w _=>zTM ?_))
    rw[← hv];simp
  | buildSlice T len parts =>
    simp only[ho,opR]at h
    cases hu:P.underlying T with
    | none=>simp[hu]at h
    | some d =>
      cases d <;> simp only[hu]at h <;> first | exact h.elim | skip
      rename_i e
      obtain⟨cs,hc,hk⟩:=h
      refine .inr(zM7(s:=Instr.buildSlice T len(parts.map fun(i,x)=>(i,ρ x)))(fun w=>by simp[execOp,ho])hk(fun w hw=>?_))
      rw[zWD(cs:=cs)hu(by rw[← hc];simp),hw]
  | load T a =>
    simp only[ho,opR]at h
    cases ha:aggB P T with
    | true =>
      simp only[ha,cond_true]at h
      exact .inr(zBr(s:=Instr.loadAt T(ρ a))(fun w=>by simp[execOp,ho])h(fun v hv w hw=>zPK ha hv w hw))
    | false =>
      cases hs:sclB P T with
      | true =>
        simp only[ha,hs,cond_true,cond_false]at h
        exact .inr(zBr(s:=Instr.loadAt T(ρ a))(fun w=>by simp[execOp,ho])h(fun v hv w hw=>zPJ(zM6 hs).1 ha hv w hw))
      | false=>simp only[ha,hs,cond_false]at h
  | store T a x =>
    simp only[ho,opR]at h
    cases ha:aggB P T with
    | true =>
      simp only[ha,cond_true]at h
      exact .inr(zTO(s:=Instr.storeAt T(ρ a)(ρ x))(fun w=>by simp[execOp,ho])h(fun v hv w hw=>zS7 ha hv w hw)(fun h e=>zTI e))
    | false =>
      cases hs:sclB P T with
      | true =>
        simp only[ha,hs,cond_true,cond_false]at h
        exact .inr(zTO(s:=Instr.storeAt T(ρ a)(ρ x))(fun w=>by simp[execOp,ho])h(fun v hv w hw=>zS6(zM6 hs).2.2 hv w hw)(fun h e=>zTH e))
      | false=>simp only[ha,hs,cond_false]at h
  | nilCheck x =>
    simp only[ho,opR]at h
    obtain⟨v,hv,hk⟩:=h
    exact .inr(zJv(fun w _=>zWm ho hv)hk)
  | binOp op T x y yT =>
    simp only[ho,opR]at h
    exact .inr(zBr(s:=do eqGuard op T x y(ρ x)(ρ y);binOp op T(ρ x)(ρ y))(fun w=>by simp[execOp,ho,zMO])h(fun v hv w _=>zWC hv))
  | unOp op T x =>
    simp only[ho,opR]at h
    exact .inr(zBr(s:=Op.unary op(ρ x))(fun w=>by simp[execOp,ho])h(fun v hv w _=>zXE hv))
  | convert s d x =>
    simp only[ho,opR]at h
    have hrun:∀ w,(execOp ρ o).run P w=((convert s d(ρ x)).run P w).andThen fun v w' => .ok(.value v)w':=fun w=>by simp[execOp,ho]
    split at h
    all_goals(rename_i heq;split at heq)
    all_goals(try split at heq)
    all_goals(first | (cases heq;done) | skip)
    all_goals first
      | exact .inr h
      | exact h.elim
      | (cases heq;exact .inr(zGh hrun h))
      | skip
    · rename_i ks kd hs hd
      cases heq
      refine .inr(zBr hrun h(fun v hv w _=>?_))
      unfold cvI at hv
      split at hv
      · rename_i k' n e
        cases hv
        rw[e]
        simp[convert,zAG hs,zAG hd,Conv.intToInt]
      · cases hv
    · rename_i hs hd
      cases heq
      refine .inr(zBr hrun h(fun v hv w _=>?_))
      unfold idS at hv
      split at hv
      · rename_i st e
        cases hv
        rw[e]
        simp[convert,zAG hs,zAG hd]
      · cases hv
    · rename_i e hs hd _ he
      cases heq
      exact .inr(zBr hrun h(fun v hv w hw=>zWE hs he hd(by rw[hw];exact hv)))
    · rename_i e hs hd _ he
      cases heq
      exact .inr(zWF hrun hs hd he h)
  | makeFunc fn a b =>
    simp only[ho,opR]at h
    exact .inr(zJv(fun w _=>by simp[execOp,ho,Instr.makeFunc])h)
  | slice T x lo hi mx =>
    simp only[ho,opR]at h
    cases hu:P.underlying T with
    | none=>simp only[hu]at h;exact .inr h
    | some d =>
      cases d <;> simp only[hu]at h <;> first | exact .inr h | skip
      · cases mx with
        | some _=>simp at h
        | none =>
          simp only[Option.isNone_none,cond_true]at h
          exact .inr(zBr(s:=Instr.sliceAt T(ρ x)(lo.map ρ)(hi.map ρ)none)(fun w=>by simp[execOp,ho])h(fun v hv w _=>zWx hu hv))
      · rename_i e
        cases he:infB P e <;> simp only[he,cond_true,cond_false]at h
        exact .inr(zBr(s:=Instr.sliceAt T(ρ x)(lo.map ρ)(hi.map ρ)(mx.map ρ))(fun w=>by simp[execOp,ho])h(fun v hv w _=>zWv hu(zJw he)hv))
      · rename_i n e
        cases he:infB P e <;> simp only[he,cond_true,cond_false]at h
        exact .inr(zBr(s:=Instr.sliceAt T(ρ x)(lo.map ρ)(hi.map ρ)(mx.map ρ))(fun w=>by simp[execOp,ho])h(fun v hv w _=>zWw hu(zJw he)hv))
  | fieldAddr S x f =>
    simp only[ho,opR]at h
    cases hu:P.underlying S with
    | none=>simp[hu]at h
    | some d =>
      cases d <;> simp only[hu]at h <;> first | exact h.elim | skip
      rename_i fs
      cases hf:fs[f]? with
      | none=>simp[hf]at h
      | some fd =>
        simp only[hf]at h
        cases hz:Nat.beq(P.cellsOf fd.type)0 with
        | true=>simp only[hz,cond_true]at h;exact .inr h
        | false =>
          simp only[hz,cond_false]at h
          exact .inr(zBr(s:=Instr.fieldAt S(ρ x)f)(fun w=>by simp[execOp,ho])h(fun v hv w _=>zWn hu hf(fun e=>by rw[e]at hz;cases hz)hv))
  | field S x f =>
    simp only[ho,opR]at h
    cases hu:P.underlying S with
    | none=>simp[hu]at h
    | some d =>
      cases d <;> simp only[hu]at h <;> first | exact h.elim | skip
      rename_i fs
      cases hf:fs[f]? with
      | none=>simp[hf]at h
      | some fd =>
        simp only[hf]at h
        cases hd:undB P fd.type <;> simp only[hd,cond_true,cond_false]at h
        obtain⟨d,hd⟩:=zPP hd
        refine .inr(zBr(s:=Instr.field S(ρ x)f)(fun w=>by simp[execOp,ho])h(fun v hv w _=>?_))
        cases hx:ρ x <;> rw[hx]at hv <;> simp only[partV,reduceCtorEq]at hv
        rename_i cs
        have:=zMh(P:=P)(w:=w)hd(off:=fd.offset)(cs:=cs)(v:=v)(by simpa only[partV] using hv)
        simp[Instr.field,zAG hu,hf,asAgg,this]
  | indexAddr T x i =>
    simp only[ho,opR]at h
    cases hu:P.underlying T with
    | none=>simp[hu]at h
    | some d =>
      cases d <;> simp only[hu]at h <;> first | exact h.elim | skip
      · rename_i e
        cases he:infB P e <;> simp only[he,cond_true,cond_false]at h
        exact .inr(zBr(s:=Instr.indexAt T(ρ x)(ρ i))(fun w=>by simp[execOp,ho])h(fun v hv w _=>zWo hu(zJw he)hv))
      · rename_i n e
        cases he:infB P e <;> simp only[he,cond_true,cond_false]at h
        exact .inr(zBr(s:=Instr.indexAt T(ρ x)(ρ i))(fun w=>by simp[execOp,ho])h(fun v hv w _=>zWp hu(zJw he)hv))
  | index T x i =>
    simp only[ho,opR]at h
    cases hu:P.underlying T with
    | none=>simp[hu]at h
    | some d =>
      cases d <;> simp only[hu]at h <;> first | exact h.elim | skip
      · exact .inr(zBr(s:=Instr.index T(ρ x)(ρ i))(fun w=>by simp[execOp,ho])h(fun v hv w _=>zWq hu hv))
      · rename_i n e
        cases he:undB P e <;> simp only[he,cond_true,cond_false]at h
        obtain⟨d,he⟩:=zPP he
        exact .inr(zBr(s:=Instr.index T(ρ x)(ρ i))(fun w=>by simp[execOp,ho])h(fun v hv w _=>zWr hu he hv))
  | makeInterface T x =>
    simp only[ho,opR]at h
    exact .inr(zBr(s:=Instr.makeInterface T(ρ x))(fun w=>by simp[execOp,ho])h(fun v hv w _=>by
      unfold mkI at hv
      split at hv
      · cases hv
      · rename_i d hd hu
        cases hv
        unfold Instr.makeInterface
        simp only[Sem.run_bind,zAG hu,Result.andThen_ok]
        cases d <;> first | exact(hd _ hu).elim | rfl
      · cases hv))
  | makeMap t r =>
    simp only[ho,opR]at h
    exact .inr(zGh(s:=Instr.makeMap t(r.map ρ))(fun w=>by simp[execOp,ho])h)
  | lookup t x i ok =>
    simp only[ho,opR]at h
    exact .inr(zGh(s:=Instr.lookup t(ρ x)(ρ i)ok)(fun w=>by simp[execOp,ho])h)
  | mapUpdate t m kk x =>
    simp only[ho,opR]at h
    exact .inr(zTP(s:=Instr.mapUpdate t(ρ m)(ρ kk)(ρ x))(fun w=>by simp[execOp,ho])h)
  | insert t m kk x =>
    simp only[ho,opR]at h
    exact .inr(zTP(s:=Instr.mapUpdate t(ρ m)(ρ kk)(ρ x))(fun w=>by simp[execOp,ho])h)
  | range T x =>
    simp only[ho,opR]at h
    exact .inr(zGh(s:=Instr.range T(ρ x))(fun w=>by simp[execOp,ho])h)
  | next it s =>
    simp only[ho,opR]at h
    exact .inr(zGh(s:=Instr.next(ρ it)s o.type)(fun w=>by simp[execOp,ho])h)
  | entry it =>
    simp only[ho,opR]at h
    exact .inr(zGh(s:=Instr.entry(ρ it))(fun w=>by simp[execOp,ho])h)
  | panic x=>simp only[ho,opR]at h
  | makeSlice T l c =>
    simp only[ho,opR]at h
    cases hu:P.underlying T with
    | none=>simp[hu]at h
    | some d =>
      cases d <;> simp only[hu]at h <;> first | exact h.elim | skip
      rename_i e
      obtain⟨kl,kc,n,m,z,hl,hc,hnm,hb,hm,hz,hinf,hk⟩:=h
      obtain⟨i,hi⟩:=Option.isSome_iff_exists.1 hinf
      obtain⟨zv,hzv,rfl⟩:∃ zv,i.zero=some zv∧zv.cells=z:=by
        simpa [zcells,hi] using hz
      have hbe:P.bytesOf e=i.bytes:=by simp[Program.bytesOf,hi]
      have hse:P.cellsOf e=i.size:=by simp[Program.cellsOf,hi]
      refine .inr(zM7(s:=Instr.makeSlice T(ρ l)(ρ c))(fun w=>by simp[execOp,ho])hk(fun w hw=>?_))
      rw[hl,hc,run_make w T e i zv hu hi hzv kl kc n m(by omega)(by omega)(by
        rw[hbe]at hb
        have e1:(i.bytes:Int) * (m:Int)=((m * i.bytes:Nat):Int):=by rw[Int.natCast_mul,Int.mul_comm]
        rw[e1];exact Int.ofNat_le.2 hb)(by omega),hse,← hw]
      rfl
  | extract x i =>
    simp only[ho,opR]at h
    exact .inr(zBr(s:=Instr.extract(ρ x)i)(fun w=>by simp[execOp,ho])h(fun v hv w _=>zWu hv))
  | call c =>
    simp only[ho,opR]at h
    cases hc:c.callee with
    | value x =>
      cases x <;> simp only[hc]at h <;> first | exact .inr h | skip
      case tmp t =>
        cases q
        · exact .inl(.inr⟨c,.tmp t,ho,hc,h⟩)
        · exact .inl(.inr⟨c,.tmp t,ho,hc,Mcallv.mono(R:=fun v h=>Ext H h∧k v h)h fun _ _ h=>h.2⟩)
      case const t =>
        cases q
        · exact .inl(.inr⟨c,.const t,ho,hc,h⟩)
        · exact .inl(.inr⟨c,.const t,ho,hc,Mcallv.mono(R:=fun v h=>Ext H h∧k v h)h fun _ _ h=>h.2⟩)
      rename_i f
      cases hb:hasBody P f with
      | false =>
        simp only[hb,cond_false]at h
        cases hx:extFn P f with
        | none=>simp only[hx,Option.isSome_none,cond_false]at h;exact .inr h
        | some e =>
          simp only[hx,Option.isSome_some,cond_true]at h
          refine .inr(zGh(fun w=>?_)h)
          have hv:∀ args,xtV P f args=e args:=fun args=>by simp only[xtV,hx]
          rw[hv]
          unfold extFn at hx
          cases hf:P.funcs[f]? with
          | none=>rw[hf]at hx;cases hx
          | some fn =>
            rw[hf]at hx
            simp only at hx
            cases hcnd:(fn.body.isNone && (fn.name != "runtime.NumGoroutine") && (Extern.findNext fn).isNone)with
            | false=>rw[hcnd]at hx;cases hx
            | true =>
              rw[hcnd]at hx
              simp only[cond_true]at hx
              simp only[Bool.and_eq_true,bne_iff_ne,ne_eq,Option.isNone_iff_eq_none]at hcnd
              have hnm:(fn.name == "runtime.NumGoroutine")=false:=by simpa using hcnd.1.2
              have e1:(List.map ρ c.args.toList).toArray=Array.map ρ c.args:=by apply Array.ext';simp
              rw[e1]
              simp[execOp,ho,resolve,hc,Deferred.ofValue,invoke,callFunc,hf,hnm,hcnd.1.1,hcnd.2,hx,hfunc]
              intro hn;exact absurd hn hcnd.1.2
      | true =>
        simp only[hb,cond_true]at h
        cases q
        · exact .inl(.inl⟨c,f,ho,hc,hb,h⟩)
        · exact .inl(.inl⟨c,f,ho,hc,hb,HCalls.mono(R:=fun v h=>Ext H h∧k v h)h fun _ _ h=>h.2⟩)
    | invoke r m=>simp only[hc]at h;exact .inr h
    | builtin b =>
      cases b <;> simp only[hc]at h <;> first | exact .inr h | skip
      case unsafeSliceData =>
        cases hl:c.args.toList with
        | nil=>simp only[hl]at h;exact .inr h
        | cons x r=>cases r with
          | cons y r=>simp only[hl]at h;exact .inr h
          | nil =>
            simp only[hl]at h
            refine .inr(zBr(s:=Builtin.unsafeSliceData_ c.argTypes o.type(c.args.map ρ))(fun w=>by simp[execOp,ho,resolve,hc,invoke,builtin])h(fun v hv w _=>?_))
            rw[zJx hl]
            rw[show Array.map ρ #[x]=#[ρ x] from by simp]
            unfold usd at hv
            split at hv
            · rename_i e;cases hv;rw[e];rfl
            · rename_i a len cc e
              split at hv
              · rename_i hc0
                cases hv
                rw[e]
                change((if cc≠0 then pure(.pointer(some a))else _:Sem Value)).run P w=_
                rw[if_pos hc0];rfl
              · cases hv
            · cases hv
      case unsafeString =>
        have e1:(List.map ρ c.args.toList).toArray=Array.map ρ c.args:=by apply Array.ext';simp
        have h:Msem P(Builtin.unsafeString_ c.argTypes o.type(c.args.map ρ))H k:=by rw[← e1];exact h
        exact .inr(zGh(fun w=>by simp[execOp,ho,resolve,hc,invoke,builtin])h)
      case clear =>
        have e1:(List.map ρ c.args.toList).toArray=Array.map ρ c.args:=by apply Array.ext';simp
        have h:Msem P(Builtin.clear_ c.argTypes o.type(c.args.map ρ))H k:=by rw[← e1];exact h
        exact .inr(zGh(fun w=>by simp[execOp,ho,resolve,hc,invoke,builtin])h)
      case delete =>
        have e1:(List.map ρ c.args.toList).toArray=Array.map ρ c.args:=by apply Array.ext';simp
        have h:Msem P(Builtin.delete_ c.argTypes o.type(c.args.map ρ))H k:=by rw[← e1];exact h
        exact .inr(zGh(fun w=>by simp[execOp,ho,resolve,hc,invoke,builtin])h)
      case min=>exact .inr(zBr(s:=Builtin.min_ c.argTypes o.type(c.args.map ρ))(fun w=>by simp[execOp,ho,resolve,hc,invoke,builtin])h(fun v hv w _=>by
        have:=zWG(P:=P)(w:=w)(A:=c.argTypes)(T:=o.type)hv
        rwa [show(List.map ρ c.args.toList).toArray=c.args.map ρ from by apply Array.ext';simp]at this))
      case max=>exact .inr(zBr(s:=Builtin.max_ c.argTypes o.type(c.args.map ρ))(fun w=>by simp[execOp,ho,resolve,hc,invoke,builtin])h(fun v hv w _=>by
        have:=zWH(P:=P)(w:=w)(A:=c.argTypes)(T:=o.type)hv
        rwa [show(List.map ρ c.args.toList).toArray=c.args.map ρ from by apply Array.ext';simp]at this))
      case len =>
        by_cases hsh:∃ T x,c.argTypes.toList=[T]∧c.args.toList=[x]
        · obtain⟨T,x,e1,e2⟩:=hsh
          simp only[e1,e2]at h
          replace e1:=zJx e1
          replace e2:=zJx e2
          have hrun:∀ w,(execOp ρ o).run P w=((Builtin.len_ #[T] o.type #[ρ x]).run P w).andThen fun v w' => .ok(.value v)w':=fun w=>by simp[execOp,ho,resolve,hc,e1,e2,invoke,builtin]
          cases hu:P.underlying T with
          | none=>simp only[hu]at h;exact .inr h
          | some d =>
            cases d <;> simp only[hu]at h <;> first | exact .inr h | skip
            · refine .inr(zBr hrun h(fun v hv w _=>?_))
              cases hx:ρ x <;> rw[hx]at hv <;> simp only[lenT,reduceCtorEq,Option.some.injEq]at hv
              subst hv;simp[Builtin.len_,zAG hu,goInt]
            · refine .inr(zBr hrun h(fun v hv w _=>?_))
              cases hx:ρ x <;> rw[hx]at hv <;> simp only[lenV,reduceCtorEq,Option.some.injEq]at hv
              subst hv;simp[Builtin.len_,zAG hu,goInt]
            · exact .inr(zM7 hrun h(fun w hw=>by subst hw;simp[Builtin.len_,zAG hu,goInt]))
            · exact .inr(zGh hrun h)
        · refine .inr ?_
          split at h
          all_goals(rename_i heq;split at heq)
          all_goals first | (cases heq;done) | exact h | (exfalso;rename_i e1 e2;exact hsh⟨_,_,e1,e2⟩)
      case cap =>
        by_cases hsh:∃ T x,c.argTypes.toList=[T]∧c.args.toList=[x]
        · obtain⟨T,x,e1,e2⟩:=hsh
          simp only[e1,e2]at h
          replace e1:=zJx e1
          replace e2:=zJx e2
          have hrun:∀ w,(execOp ρ o).run P w=((Builtin.cap_ #[T] o.type #[ρ x]).run P w).andThen fun v w' => .ok(.value v)w':=fun w=>by simp[execOp,ho,resolve,hc,e1,e2,invoke,builtin]
          cases hu:P.underlying T with
          | none=>simp only[hu]at h;exact .inr h
          | some d =>
            cases d <;> simp only[hu]at h <;> first | exact .inr h | skip
            refine .inr(zBr hrun h(fun v hv w _=>?_))
            cases hx:ρ x <;> rw[hx]at hv <;> simp only[capV,reduceCtorEq,Option.some.injEq]at hv
            subst hv;simp[Builtin.cap_,zAG hu,goInt]
        · refine .inr ?_
          split at h
          all_goals(rename_i heq;split at heq)
          all_goals first | (cases heq;done) | exact h | (exfalso;rename_i e1 e2;exact hsh⟨_,_,e1,e2⟩)
      case append =>
        by_cases hsh:∃ T U s x,c.argTypes.toList=[T,U]∧c.args.toList=[s,x]
        · obtain⟨T,U,s,x,e1,e2⟩:=hsh
          simp only[e1,e2]at h
          replace e1:=zKa e1
          replace e2:=zKa e2
          have hrun:∀ w,(execOp ρ o).run P w=((Builtin.append_ #[T,U] o.type #[ρ s,ρ x]).run P w).andThen fun v w' => .ok(.value v)w':=fun w=>by simp[execOp,ho,resolve,hc,e1,e2,invoke,builtin]
          cases hT:P.underlying T with
          | none=>simp only[hT]at h;exact .inr h
          | some d =>
            cases d <;> simp only[hT]at h <;> first | exact .inr h | skip
            rename_i e
            cases hU:P.underlying U with
            | none=>simp only[hU]at h;exact .inr h
            | some d' =>
              cases d' <;> simp only[hU]at h <;> first | exact .inr h | skip
              · rename_i ku
                cases hz:zokB P e <;> simp only[hz,cond_true,cond_false]at h
                exact .inr(zVe hrun hT⟨ku,hU⟩hz h)
              · cases hz:zokB P e <;> simp only[hz,cond_true,cond_false]at h
                exact .inr(zSt hrun hT(.inl hU)hz h)
              · rename_i e'
                cases hz:zokB P e <;> simp only[hz,cond_true,cond_false]at h
                exact .inr(zSt hrun hT(.inr⟨e',hU⟩)hz h)
        · refine .inr ?_
          split at h
          all_goals(rename_i heq;split at heq)
          all_goals first | (cases heq;done) | exact h | (exfalso;rename_i e1 e2;exact hsh⟨_,_,_,_,e1,e2⟩)
      case copy =>
        by_cases hsh:∃ T U s x,c.argTypes.toList=[T,U]∧c.args.toList=[s,x]
        · obtain⟨T,U,s,x,e1,e2⟩:=hsh
          simp only[e1,e2]at h
          replace e1:=zKa e1
          replace e2:=zKa e2
          have hrun:∀ w,(execOp ρ o).run P w=((Builtin.copy_ #[T,U] o.type #[ρ s,ρ x]).run P w).andThen fun v w' => .ok(.value v)w':=fun w=>by simp[execOp,ho,resolve,hc,e1,e2,invoke,builtin]
          cases hT:P.underlying T with
          | none=>simp only[hT]at h;exact .inr h
          | some d =>
            cases d <;> simp only[hT]at h <;> first | exact .inr h | skip
            rename_i e
            cases hz:infB P e <;> simp only[hz,cond_true,cond_false]at h
            obtain⟨i,hi⟩:=zJw hz
            exact .inr(zVf hrun hT hi h)
        · refine .inr ?_
          split at h
          all_goals(rename_i heq;split at heq)
          all_goals first | (cases heq;done) | exact h | (exfalso;rename_i e1 e2;exact hsh⟨_,_,_,_,e1,e2⟩)
  | _=>simp only[ho,opR]at h;exact .inr h
end Go.X
namespace Go.X
theorem Mpu.mono{r:Option Value}{k k':Value→Prop}(h:Mpu r k)(hk:∀ v,k v→k' v):Mpu r k':=by
  obtain⟨v,e,h⟩:=h;exact⟨v,e,hk _ h⟩
theorem Mwr.mono{r:Option Heap}{k k':Heap→Prop}(h:Mwr r k)(hk:∀ v,k v→k' v):Mwr r k':=by
  obtain⟨v,e,h⟩:=h;exact⟨v,e,hk _ h⟩
theorem Mnew.mono{H:Heap}{T:TypeId}{c:Option(Array Value)}{k k':Value→Heap→Prop}(h:Mnew H T c k)(hk:∀ v h,k v h→k' v h):Mnew H T c k':=by
  obtain⟨v,e,h⟩:=h;exact⟨v,e,hk _ _ h⟩
theorem Mnews.mono{H:Heap}{T:TypeId}{n:Nat}{c:Option(Array Value)}{k k':Value→Heap→Prop}(h:Mnews H T n c k)(hk:∀ v h,k v h→k' v h):Mnews H T n c k':=by
  obtain⟨v,e,h⟩:=h;exact⟨v,e,hk _ _ h⟩
theorem Mraw.mono{P:Program}{o:Oper}{ρ:Operand→Value}{H:Heap}{k k':Value→Heap→Prop}(h:Mraw P o ρ H k)(hk:∀ v h,k v h→k' v h):Mraw P o ρ H k':=by
  intro w hw
  obtain⟨n,w',e,s,h⟩:=h w hw
  refine⟨n,w',e,s,?_⟩
  rcases h with⟨v,e,h⟩ | ⟨e,h⟩
  · exact .inl⟨v,e,hk _ _ h⟩
  · exact .inr⟨e,hk _ _ h⟩
theorem Mapp.mono{T:TypeId}{s b:Nat}{H:Heap}{x y:Value}{k k':Value→Heap→Prop}(h:Mapp T s b H x y k)(hk:∀ v h,k v h→k' v h):Mapp T s b H x y k':=by
  obtain⟨base,len,cap,n,new,e1,e2,e3,h1,h2⟩:=h
  refine⟨base,len,cap,n,new,e1,e2,e3,fun hl=>?_,fun hl=>?_⟩
  · have h1:=h1 hl
    rcases base with _ | ⟨b,o,_ | sp⟩
    · exact hk _ _ h1
    · exact h1.mono fun _ h=>hk _ _ h
    · exact h1
  · obtain⟨a,b,old,c,d⟩:=h2 hl
    exact⟨a,b,old,c,fun cap' rest p q r=>hk _ _(d cap' rest p q r)⟩
theorem Mapz.mono{T:TypeId}{s b:Nat}{H:Heap}{x y:Value}{z:Option(Array Value)}{k k':Value→Heap→Prop}(h:Mapz T s b H x y z k)(hk:∀ v h,k v h→k' v h):Mapz T s b H x y z k':=by
  obtain⟨base,len,cap,kx,n,zc,e1,e2,e3,e4,e5,e6,h1,h2⟩:=h
  refine⟨base,len,cap,kx,n,zc,e1,e2,e3,e4,e5,e6,fun hl=>?_,fun hl=>?_⟩
  · have h1:=h1 hl
    rcases base with _ | ⟨b,o,_ | sp⟩
    · exact hk _ _ h1
    · exact h1.mono fun _ h=>hk _ _ h
    · exact h1
  · obtain⟨a,b,old,c,d⟩:=h2 hl
    exact⟨a,b,old,c,fun cap' rest p q r=>hk _ _(d cap' rest p q r)⟩
theorem Mcopy.mono{s:Nat}{H:Heap}{x y:Value}{k k':Value→Heap→Prop}(h:Mcopy s H x y k)(hk:∀ v h,k v h→k' v h):Mcopy s H x y k':=by
  obtain⟨n,new,base,len,cap,e1,e2,h⟩:=h
  refine⟨n,new,base,len,cap,e1,e2,?_⟩
  rcases base with _ | ⟨b,o,_ | sp⟩
  · exact hk _ _ h
  · exact h.mono fun _ h=>hk _ _ h
  · exact h
theorem Ms2b.mono{T:TypeId}{H:Heap}{x:Value}{k k':Value→Heap→Prop}(h:Ms2b T H x k)(hk:∀ v h,k v h→k' v h):Ms2b T H x k':=by
  obtain⟨s,e,l,h⟩:=h;exact⟨s,e,l,fun c a b=>hk _ _(h c a b)⟩
theorem zQK{b:Bool}{p q p' q':Prop}(h:bif b then p else q)(h1:p→p')(h2:q→q'):bif b then p' else q':=by
  cases b
  · exact h2 h
  · exact h1 h
theorem zCe{P:Program}{q:Bool}{o:Oper}{ρ:Operand→Value}{H:Heap}{k k':Value→Heap→Prop}(h:opX P q o ρ H k)(hk:∀ v h,k v h→k' v h):opX P q o ρ H k':=by
  unfold opX at h ⊢
  cases hr:opR P o.op ρ H <;> simp only[hr]at h ⊢
  case val v=>exact hk _ _ h
  case pu r=>exact Mpu.mono h fun _ h=>hk _ _ h
  case rd r=>exact Mpu.mono h fun _ h=>hk _ _ h
  case wr r=>exact Mwr.mono h fun _ h=>hk _ _ h
  case nw T c=>exact Mnew.mono h hk
  case nws T n c=>exact Mnews.mono h hk
  case ap T s b x y=>exact Mapp.mono h hk
  case az T s b x y z=>exact Mapz.mono h hk
  case cp s d x=>exact Mcopy.mono h hk
  case sb T x=>exact Ms2b.mono h hk
  case cl f args=>exact zQK h(fun h=>HCalls.mono h fun _ _⟨a,b⟩=>⟨a,hk _ _ b⟩)(fun h=>HCalls.mono h hk)
  case cv f args=>exact zQK h(fun h=>Mcallv.mono h fun _ _⟨a,b⟩=>⟨a,hk _ _ b⟩)(fun h=>Mcallv.mono h hk)
  case mk e l c =>
    obtain⟨kl,kc,n,m,z,h1,h2,h3,h4,h5,h6,h7,h8⟩:=h
    exact⟨kl,kc,n,m,z,h1,h2,h3,h4,h5,h6,h7,hk _ _ h8⟩
  case sm s=>exact fun w hw=>let⟨v,w',e,hs,h⟩:=h w hw; ⟨v,w',e,hs,hk _ _ h⟩
  case su s=>exact fun w hw=>let⟨w',e,hs,h⟩:=h w hw; ⟨w',e,hs,hk _ _ h⟩
  case raw=>exact Mraw.mono h hk
theorem HCalls.some{P:Program}{f:FuncId}{args:List Value}{H:Heap}{R:Value→Heap→Prop}(h:HCalls P f args H R):∃ v h,R v h:=by
  obtain⟨e,w',fr,⟨v,_,_,r⟩,_⟩:=h{ (default:World)with heap:=H }rfl []
  exact⟨v,_,r⟩
theorem YCalls.some{P:Program}{l:Nat}{args:List Value}{H:Heap}{R:Value→Heap→Prop}(h:YCalls P l args H R):∃ v h,R v h:=by
  obtain⟨f,t,a,b,_,r⟩:=h{ (default:World)with heap:=H }rfl
  obtain⟨e,w',⟨v,_,_,r⟩,_⟩:=r.2 default [](fun d hd=>by cases hd)
  exact⟨v,_,r⟩
theorem Mcallv.some{P:Program}{fv:Value}{args:List Value}{H:Heap}{R:Value→Heap→Prop}(h:Mcallv P fv args H R):∃ v h,R v h:=by
  rcases h with⟨f,fi,ca,e,b,h⟩ | ⟨l,fi,ca,e,h⟩
  · exact h.some
  · exact h.some
theorem Mraw.some{P:Program}{o:Oper}{ρ:Operand→Value}{H:Heap}{k:Value→Heap→Prop}(h:Mraw P o ρ H k):∃ v h,k v h:=by
  obtain⟨n,w',_,_,h⟩:=h{ (default:World)with heap:=H }rfl
  rcases h with⟨v,_,h⟩ | ⟨_,h⟩
  · exact⟨_,_,h⟩
  · exact⟨_,_,h⟩
theorem Mapp.some{T:TypeId}{s b:Nat}{H:Heap}{x y:Value}{k:Value→Heap→Prop}(h:Mapp T s b H x y k):∃ v h,k v h:=by
  obtain⟨base,len,cap,n,new,e1,e2,e3,h1,h2⟩:=h
  by_cases hl:len+n≤cap
  · have h1:=h1 hl
    rcases base with _ | ⟨b,o,_ | sp⟩
    · exact⟨_,_,h1⟩
    · obtain⟨_,_,h1⟩:=h1;exact⟨_,_,h1⟩
    · exact h1.elim
  · obtain⟨a,b0,old,c,d⟩:=h2(by omega)
    have:(len+n) * 1≤(len+n) * b:=Nat.mul_le_mul_left _ b0
    exact⟨_,_,d(len+n) #[](Nat.le_refl _)(by omega)(by simp)⟩
theorem Mapz.some{T:TypeId}{s b:Nat}{H:Heap}{x y:Value}{z:Option(Array Value)}{k:Value→Heap→Prop}(h:Mapz T s b H x y z k):∃ v h,k v h:=by
  obtain⟨base,len,cap,kx,n,zc,e1,e2,e3,e4,e5,e6,h1,h2⟩:=h
  by_cases hl:len+n≤cap
  · have h1:=h1 hl
    rcases base with _ | ⟨b,o,_ | sp⟩
    · exact⟨_,_,h1⟩
    · obtain⟨_,_,h1⟩:=h1;exact⟨_,_,h1⟩
    · exact h1.elim
  · obtain⟨a,b0,old,c,d⟩:=h2(by omega)
    have:(len+n) * 1≤(len+n) * b:=Nat.mul_le_mul_left _ b0
    exact⟨_,_,d(len+n) #[](Nat.le_refl _)(by omega)(by simp)⟩
theorem Mcopy.some{s:Nat}{H:Heap}{x y:Value}{k:Value→Heap→Prop}(h:Mcopy s H x y k):∃ v h,k v h:=by
  obtain⟨n,new,base,len,cap,e1,e2,h⟩:=h
  rcases base with _ | ⟨b,o,_ | sp⟩
  · exact⟨_,_,h⟩
  · obtain⟨_,_,h⟩:=h;exact⟨_,_,h⟩
  · exact h.elim
theorem Ms2b.some{T:TypeId}{H:Heap}{x:Value}{k:Value→Heap→Prop}(h:Ms2b T H x k):∃ v h,k v h:=by
  obtain⟨s,e,l,h⟩:=h;exact⟨_,_,h s.size(Nat.le_refl _)l⟩
theorem zQL{P:Program}{q:Bool}{o:Oper}{ρ:Operand→Value}{H:Heap}{k:Value→Heap→Prop}(h:opX P q o ρ H k):∃ v h,k v h:=by
  unfold opX at h
  cases hr:opR P o.op ρ H <;> simp only[hr]at h
  case val v=>exact⟨_,_,h⟩
  case pu r=>obtain⟨_,_,h⟩:=h;exact⟨_,_,h⟩
  case rd r=>obtain⟨_,_,h⟩:=h;exact⟨_,_,h⟩
  case wr r=>obtain⟨_,_,h⟩:=h;exact⟨_,_,h⟩
  case nw T c=>obtain⟨_,_,h⟩:=h;exact⟨_,_,h⟩
  case nws T n c=>obtain⟨_,_,h⟩:=h;exact⟨_,_,h⟩
  case ap T s b x y=>exact Mapp.some h
  case az T s b x y z=>exact Mapz.some h
  case cp s d x=>exact Mcopy.some h
  case sb T x=>exact Ms2b.some h
  case cl f args =>
    cases q
    · exact HCalls.some(R:=k)h
    · obtain⟨v,h',hh⟩:=HCalls.some(R:=fun v h=>Ext H h∧k v h)h
      exact⟨_,_,hh.2⟩
  case cv f args =>
    cases q
    · exact Mcallv.some(R:=k)h
    · obtain⟨v,h',hh⟩:=Mcallv.some(R:=fun v h=>Ext H h∧k v h)h
      exact⟨_,_,hh.2⟩
  case mk e l c=>obtain⟨kl,kc,n,m,z,h1,h2,h3,h4,h5,h6,h7,h8⟩:=h;exact⟨_,_,h8⟩
  case sm s=>obtain⟨v,w',_,_,h⟩:=h{ (default:World)with heap:=H }rfl;exact⟨_,_,h⟩
  case su s=>obtain⟨w',_,_,h⟩:=h{ (default:World)with heap:=H }rfl;exact⟨_,_,h⟩
  case raw=>exact Mraw.some h
theorem zHS{P:Program}{o:Op}{ρ ρ':Operand→Value}{H:Heap}(h:∀ x ∈ o.operands,ρ x=ρ' x):opR P o ρ H=opR P o ρ' H:=by
  cases o <;> simp only[Op.operands]at h <;> simp only[opR]
  case build T ps =>
    have e:(ps.toList.map fun p=>(p.1,ρ p.2))=(ps.toList.map fun p=>(p.1,ρ' p.2)):=List.map_congr_left fun p hp=>by rw[h p.2(by simp;exact⟨p.1,Array.mem_toList_iff.1 hp⟩)]
    rw[e]
  case buildSlice T n ps =>
    have e:(ps.toList.map fun p=>(p.1,ρ p.2))=(ps.toList.map fun p=>(p.1,ρ' p.2)):=List.map_congr_left fun p hp=>by rw[h p.2(by simp;exact⟨p.1,Array.mem_toList_iff.1 hp⟩)]
    rw[e]
  case makeFunc fn a b =>
    rw[Array.map_congr_left(xs:=a)fun x hx=>h x(by simp[hx]),Array.map_congr_left(xs:=b)fun x hx=>h x(by simp[hx])]
  case call c =>
    have e:c.args.toList.map ρ=c.args.toList.map ρ':=List.map_congr_left fun x hx=>h x(by simp only[Call.operands,Array.mem_append];exact .inr(Array.mem_toList_iff.1 hx))
    have e1:∀ x ∈ c.args.toList,ρ x=ρ' x:=fun x hx=>h x(by simp only[Call.operands,Array.mem_append];exact .inr(Array.mem_toList_iff.1 hx))
    rw[e]
    have two:∀ s x,c.args.toList=[s,x]→ρ s=ρ' s∧ρ x=ρ' x:=fun s x hl=>⟨e1 s(by rw[hl];simp),e1 x(by rw[hl];simp)⟩
    have one:∀ x,c.args.toList=[x]→ρ x=ρ' x:=fun x hl=>e1 x(by rw[hl];simp)
    have ec:∀ x,c.callee = .value x→ρ x=ρ' x:=fun x hx=>h x(by simp[Call.operands,hx])
    cases hcal:c.callee with
    | value x =>
      have ex:=ec x hcal
      cases x <;> simp only[ex]
    | invoke r m=>rfl
    | builtin b =>
      cases b <;> simp only
      case unsafeSliceData=>split <;> first | rfl | (rename_i h2;rw[one _ h2])
      case len=>split <;> first | rfl | (rename_i h2;rw[one _ h2])
      case cap=>split <;> first | rfl | (rename_i h2;rw[one _ h2])
      case append=>split <;> first | rfl | (rename_i h2;rw[(two _ _ h2).1,(two _ _ h2).2])
      case copy=>split <;> first | rfl | (rename_i h2;rw[(two _ _ h2).1,(two _ _ h2).2])
  case makeMap t r=>cases r with
    | none=>rfl
    | some y=>simp only[Option.map_some];rw[h y(by simp)]
  case slice T x lo hi mx =>
    have ex:ρ x=ρ' x:=h x(by simp)
    have el:lo.map ρ=lo.map ρ':=by cases lo with | none=>rfl | some y=>simp only[Option.map_some];rw[h y(by simp)]
    have eh:hi.map ρ=hi.map ρ':=by cases hi with | none=>rfl | some y=>simp only[Option.map_some];rw[h y(by simp)]
    have em:mx.map ρ=mx.map ρ':=by cases mx with | none=>rfl | some y=>simp only[Option.map_some];rw[h y(by simp)]
    rw[ex,el,eh,em]
  all_goals first
    | rfl
    | (simp_all;done)
theorem zHT{P:Program}{q:Bool}{o:Oper}{ρ ρ':Operand→Value}{H:Heap}{k:Value→Heap→Prop}(hs:∀ cs b,o.op ≠ .select cs b)(h:∀ x ∈ o.op.operands,ρ x=ρ' x)(hh:opX P q o ρ H k):opX P q o ρ' H k:=by
  unfold opX at hh ⊢
  rw[← zHS h]
  cases hr:opR P o.op ρ H <;> simp only[hr]at hh ⊢ <;> first
    | exact hh
    | exact fun w hw=>by rw[← execOp_congr o hs h];exact hh w hw
def clsR:XR→Nat
  | .val _=>0
  | .pu _=>0
  | .rd _=>1
  | .nw _ _=>2
  | .nws _ _ _=>2
  | .cl _ _=>2
  | .cv _ _=>2
  | .mk _ _ _=>2
  | .sm _=>3
  | .su _=>3
  | .wr _=>3
  | .ap _ _ _ _ _=>3
  | .az _ _ _ _ _ _=>3
  | .cp _ _ _=>3
  | .sb _ _=>3
  | .raw=>3
  | .no=>3
def cls(P:Program)(o:Op):Nat:=clsR(opR P o(fun _=>undef) #[])
theorem zWI{P:Program}{o:Op}{ρ ρ':Operand→Value}{H H':Heap}:clsR(opR P o ρ H)=clsR(opR P o ρ' H'):=by
  cases o <;> simp only[opR] <;> first
    | rfl
    | skip
  case buildSlice T n ps=>cases P.underlying T with
    | none=>rfl
    | some d=>cases d <;> rfl
  case makeSlice T n ps=>cases P.underlying T with
    | none=>rfl
    | some d=>cases d <;> rfl
  case load T a=>cases aggB P T <;> cases sclB P T <;> rfl
  case store T a x=>cases aggB P T <;> cases sclB P T <;> rfl
  case convert s d x =>
    rcases P.underlying s with _ | a <;> rcases P.underlying d with _ | b <;> first | rfl | (cases a <;> first | rfl | skip)
    all_goals(cases b <;> first | rfl | skip)
    all_goals(rename_i e;simp only)
    all_goals(rcases P.underlying e with _ | d)
    all_goals first | rfl | skip
    all_goals(rename_i d;rcases d with _ | _ | k)
    all_goals first | rfl | (cases k <;> rfl)
  case slice T x lo hi mx=>cases P.underlying T with
    | none=>rfl
    | some d =>
      cases d <;> first
        | rfl
        | (cases mx <;> rfl)
        | (rename_i e;cases hq:infB P e <;> simp only[hq,cond_true,cond_false] <;> rfl)
        | (rename_i n e;cases hq:infB P e <;> simp only[hq,cond_true,cond_false] <;> rfl)
  case fieldAddr S x f=>cases P.underlying S with
    | none=>rfl
    | some d =>
      cases d <;> first | rfl | skip
      rename_i fs
      simp only
      cases fs[f]? with
      | none=>rfl
      | some fd=>cases hq:Nat.beq(P.cellsOf fd.type)0 <;> simp only[hq,cond_true,cond_false] <;> rfl
  case field S x f=>cases P.underlying S with
    | none=>rfl
    | some d =>
      cases d <;> first | rfl | skip
      rename_i fs
      simp only
      cases fs[f]? with
      | none=>rfl
      | some fd=>cases hq:undB P fd.type <;> simp only[hq,cond_true,cond_false] <;> rfl
  case indexAddr T x i=>cases P.underlying T with
    | none=>rfl
    | some d =>
      cases d <;> first
        | rfl
        | (rename_i e;cases hq:infB P e <;> simp only[hq,cond_true,cond_false] <;> rfl)
        | (rename_i n e;cases hq:infB P e <;> simp only[hq,cond_true,cond_false] <;> rfl)
  case index T x i=>cases P.underlying T with
    | none=>rfl
    | some d =>
      cases d <;> first
        | rfl
        | (rename_i n e;cases hq:undB P e <;> simp only[hq,cond_true,cond_false] <;> rfl)
  case call c =>
    cases c.callee with
    | value x =>
      cases x <;> first | rfl | skip
      rename_i f
      cases hq:hasBody P f <;> simp only[hq,cond_true,cond_false] <;> first | rfl | (cases hx:(extFn P f).isSome <;> simp only[hx,cond_true,cond_false] <;> rfl)
    | invoke r m=>rfl
    | builtin b =>
      cases b <;> first | rfl | skip
      all_goals simp only
      case unsafeSliceData=>rcases c.args.toList with _ | ⟨x,_ | ⟨y,m⟩⟩ <;> rfl
      case len =>
        rcases c.argTypes.toList with _ | ⟨T,_ | ⟨U,l⟩⟩ <;> rcases c.args.toList with _ | ⟨x,_ | ⟨y,m⟩⟩ <;> first | rfl | skip
        simp only
        cases P.underlying T with
        | none=>rfl
        | some d=>cases d <;> rfl
      case cap =>
        rcases c.argTypes.toList with _ | ⟨T,_ | ⟨U,l⟩⟩ <;> rcases c.args.toList with _ | ⟨x,_ | ⟨y,m⟩⟩ <;> first | rfl | skip
        simp only
        cases P.underlying T with
        | none=>rfl
        | some d=>cases d <;> rfl
      case append =>
        rcases c.argTypes.toList with _ | ⟨T,_ | ⟨U,_ | ⟨V,l⟩⟩⟩ <;> rcases c.args.toList with _ | ⟨x,_ | ⟨y,_ | ⟨z,m⟩⟩⟩ <;> first | rfl | skip
        simp only
        cases P.underlying T with
        | none=>rfl
        | some d =>
          cases d <;> first | rfl | skip
          cases P.underlying U with
          | none=>rfl
          | some d'=>cases d' <;> first | rfl | (rename_i e;cases hq:zokB P e <;> simp only[hq,cond_true,cond_false] <;> rfl) | (rename_i e e';cases hq:zokB P e <;> simp only[hq,cond_true,cond_false] <;> rfl)
      case copy =>
        rcases c.argTypes.toList with _ | ⟨T,_ | ⟨U,_ | ⟨V,l⟩⟩⟩ <;> rcases c.args.toList with _ | ⟨x,_ | ⟨y,_ | ⟨z,m⟩⟩⟩ <;> first | rfl | skip
        simp only
        cases P.underlying T with
        | none=>rfl
        | some d=>cases d <;> first | rfl | (rename_i e;cases hq:infB P e <;> simp only[hq,cond_true,cond_false] <;> rfl)
end Go.X
namespace Go.X
def pureOf:XR→Option Value
  | .val v=>some v
  | .pu r=>r
  | .rd r=>r
  | _=>none
theorem zEy{P:Program}{q:Bool}{o:Oper}{ρ:Operand→Value}{H:Heap}{k:Value→Heap→Prop}(h:cls P o.op=0∨cls P o.op=1):opX P q o ρ H k↔∃ v,pureOf(opR P o.op ρ H)=some v∧k v H:=by
  unfold cls at h
  rw[zWI(ρ':=ρ)(H':=H)]at h
  unfold opX
  cases hr:opR P o.op ρ H <;> simp only[hr,clsR]at h <;> simp[pureOf,Mpu]at h ⊢
theorem zOh{P:Program}{o:Op}{ρ:Operand→Value}{H H':Heap}(h:cls P o=0):opR P o ρ H=opR P o ρ H':=by
  unfold cls at h
  cases o <;> simp only[opR]at h ⊢
  case load T a=>revert h;cases aggB P T <;> cases sclB P T <;> simp[clsR]
  case store T a x=>revert h;cases aggB P T <;> cases sclB P T <;> simp[clsR]
  case convert s d x =>
    revert h
    rcases P.underlying s with _ | a <;> rcases P.underlying d with _ | b <;> first | (intro _;rfl) | (cases a <;> first | (intro _;rfl) | skip)
    all_goals(cases b <;> first | (intro _;rfl) | skip)
    all_goals(rename_i e;simp only)
    all_goals(rcases P.underlying e with _ | d)
    all_goals first | (intro _;rfl) | skip
    all_goals(rename_i d;rcases d with _ | _ | k)
    all_goals first | (intro _;rfl) | (cases k <;> first | (intro _;rfl) | (intro h;simp[clsR]at h))
theorem Ext.block{H H':Heap}(h:Ext H H'){b:Nat}{x:Obj}(hb:H[b]? = some x):H'[b]? = some x:=by
  rw[h.2 b(Array.getElem?_eq_some_iff.1 hb).1];exact hb
theorem zTR{n:Nat}{H H':Heap}(h:Ext H H'){x:Value}{r:Nat×Array Value}(hl:elemsOf n H x=some r):elemsOf n H' x=some r:=by
  unfold elemsOf at hl ⊢
  split at hl
  · split at hl
    · rename_i h0;rw[if_pos h0];exact hl
    · rename_i h0;rw[if_neg h0]
      split at hl
      · split at hl
        · rename_i hb;simp only[h.block hb];exact hl
        · cases hl
      · cases hl
  · exact hl
  · cases hl
theorem Ext.push(H:Heap)(o:Obj):Ext H(H.push o):=⟨by simp,fun i hi=>by rw[Array.getElem?_push,if_neg(by omega)]⟩
theorem Ext.refl(H:Heap):Ext H H:=⟨Nat.le_refl _,fun _ _=>rfl⟩
theorem Ext.trans{a b c:Heap}(h:Ext a b)(k:Ext b c):Ext a c:=⟨Nat.le_trans h.1 k.1,fun i hi=>(k.2 i(Nat.lt_of_lt_of_le hi h.1)).trans(h.2 i hi)⟩
def act(ops:Array Oper)(o:Oper)(e:Env):Option Bool :=
  match o.guard with
  | none=>some true
  | some(j,want)=>match(ops[j]?).bind(·.dst)with
    | some t=>match e t with
      | .bool b=>some(b == want)
      | _=>some false
    | none=>none
def stepX(P:Program)(q:Bool)(ops:Array Oper)(o:Oper)(e:Env)(H:Heap)(K:Env→Heap→Prop):Prop :=
  (act ops o e=some true∧opX P q o(ev e)H fun v h=>K(e.put o.dst v)h)∨(act ops o e=some false∧K(e.put o.dst undef)H)
theorem stepX.mono{P:Program}{q:Bool}{ops:Array Oper}{o:Oper}{e:Env}{H:Heap}{K K':Env→Heap→Prop}(h:stepX P q ops o e H K)(hk:∀ e h,K e h→K' e h):stepX P q ops o e H K':=by
  rcases h with⟨a,h⟩ | ⟨a,h⟩
  · exact .inl⟨a,zCe h fun _ _ h=>hk _ _ h⟩
  · exact .inr⟨a,hk _ _ h⟩
theorem zCx{e:Env}{d:Option Nat}{v:Value}{t:Nat}(h:d≠some t):e.put d v t=e t:=by
  cases d with
  | none=>rfl
  | some d =>
    have:(Nat.beq t d)=false:=by
      cases hb:Nat.beq t d with
      | false=>rfl
      | true=>exact absurd(congrArg some(Nat.eq_of_beq_eq_true hb).symm)h
    simp[Env.put,this]
theorem zEZ{e:Env}{d:Nat}{v:Value}:e.put(some d)v d=v:=by
  have:Nat.beq d d=true:=Nat.beq_refl d
  simp[Env.put,this]
theorem zFk{e:Env}{d d':Option Nat}{v v':Value}(h:∀ t,d=some t→d'≠some t):(e.put d v).put d' v'=(e.put d' v').put d v:=by
  funext t
  by_cases h1:d=some t
  · subst h1
    rw[zCx(h t rfl),zEZ,zEZ]
  · rw[zCx h1]
    by_cases h2:d'=some t
    · subst h2;rw[zEZ,zEZ]
    · rw[zCx h2,zCx h2,zCx h1]
def swapOk(P:Program)(ops:Array Oper)(j i:Oper):Bool :=
  j.apart ops i && (Nat.beq(cls P i.op)0 || Nat.ble(cls P j.op)1)
def rc(P:Program)(j:Oper)(e:Env)(h:Heap):Prop :=
  match j.dst with
  | some d=>pureOf(opR P j.op(ev e)h)=some(e d)
  | none=>True
theorem zBM{ops:Array Oper}{o:Oper}{e:Env}{d:Option Nat}{v:Value}(h:∀ t,d=some t→t ∉ o.looksAt ops):act ops o(e.put d v)=act ops o e:=by
  unfold act
  cases hg:o.guard with
  | none=>rfl
  | some g =>
    obtain⟨j,want⟩:=g
    simp only
    cases ht:(ops[j]?).bind(·.dst)with
    | none=>rfl
    | some t =>
      simp only
      rw[zCx]
      intro hd
      refine h t hd ?_
      unfold Oper.looksAt
      rw[hg]
      simp only[ht]
      simp
theorem zLU{ops:Array Oper}{o:Oper}{e:Env}{d:Option Nat}{v:Value}(h:∀ t,d=some t→t ∉ o.looksAt ops):∀ x ∈ o.op.operands,ev(e.put d v)x=ev e x:=by
  intro x hx
  cases x with
  | tmp t =>
    simp only[ev]
    rw[zCx]
    intro hd
    exact h t hd(List.mem_append_left _(List.mem_filterMap.2⟨.tmp t,by simpa using hx,rfl⟩))
  | _=>rfl
theorem ble1{n:Nat}:Nat.ble n 1=true↔n=0∨n=1:=by
  rw[Nat.ble_eq];omega
def stepC(P:Program)(ops:Array Oper)(o:Oper)(e:Env)(H:Heap)(C K:Env→Heap→Prop):Prop :=
  (act ops o e=some true∧opX P false o(ev e)H fun v h=>C(e.put o.dst v)h∧K(e.put o.dst v)h)∨(act ops o e=some false∧K(e.put o.dst undef)H)
theorem stepC.mono{P:Program}{ops:Array Oper}{o:Oper}{e:Env}{H:Heap}{C C' K K':Env→Heap→Prop}(h:stepC P ops o e H C K)(hc:∀ e h,C e h→C' e h)(hk:∀ e h,K e h→K' e h):stepC P ops o e H C' K':=by
  rcases h with⟨a,h⟩ | ⟨a,h⟩
  · exact .inl⟨a,zCe h fun _ _ h=>⟨hc _ _ h.1,hk _ _ h.2⟩⟩
  · exact .inr⟨a,hk _ _ h⟩
theorem stepC.step{P:Program}{ops:Array Oper}{o:Oper}{e:Env}{H:Heap}{C K:Env→Heap→Prop}(h:stepC P ops o e H C K):stepX P false ops o e H K:=by
  rcases h with⟨a,h⟩ | ⟨a,h⟩
  · exact .inl⟨a,zCe h fun _ _ h=>h.2⟩
  · exact .inr⟨a,h⟩
theorem swap{P:Program}{ops:Array Oper}{j i:Oper}(hsj:∀ cs b,j.op ≠ .select cs b)(hsi:∀ cs b,i.op ≠ .select cs b)(hok:swapOk P ops j i=true){Cj Ci Ci' F:Env→Heap→Prop}
    (hA:cls P i.op=0→(∀ e h,Ci' e h)∧∀ e h v,Cj e h→Cj(e.put i.dst v)h)
    (hB:cls P i.op≠0→(∀ e h,Cj e h)∧(∀ e h v,Ci(e.put j.dst v)h→Ci' e h)∧(cls P j.op=1→cls P i.op≠1→(∃ d,j.dst=some d∧d ∉ j.looksAt ops)∧∀ e h,Ci e h→rc P j e h)){e:Env}{H:Heap}
    (h:stepC P ops j e H Cj fun e1 h1=>stepC P ops i e1 h1 Ci F) :
    stepC P ops i e H Ci' fun e1 h1=>stepC P ops j e1 h1 Cj F:=by
  simp only[swapOk,Bool.and_eq_true]at hok
  obtain⟨hap,hcl⟩:=hok
  obtain⟨h1,h2,h3⟩:=Oper.apart_spec hap
  have hcm:∀ t,j.dst=some t→i.dst≠some t:=h2
  have fi:∀ (v:Value)(k:Value→Heap→Prop)(h:Heap),opX P false i(ev(e.put j.dst v))h k→opX P false i(ev e)h k:=fun v k h hh=>zHT hsi(zLU h1)hh
  have fj:∀ (v:Value)(k:Value→Heap→Prop)(h:Heap),opX P false j(ev e)h k→opX P false j(ev(e.put i.dst v))h k:=fun v k h hh=>zHT hsj(fun x hx=>(zLU h3 x hx).symm)hh
  have pj:∀ (v:Value)(h:Heap),opR P j.op(ev(e.put i.dst v))h=opR P j.op(ev e)h:=fun v h=>zHS(zLU h3)
  have pi:∀ (v:Value)(h:Heap),opR P i.op(ev(e.put j.dst v))h=opR P i.op(ev e)h:=fun v h=>zHS(zLU h1)
  by_cases hi0:cls P i.op=0
  · obtain⟨hCi,hCj⟩:=hA hi0
    have hpi:cls P i.op=0∨cls P i.op=1 := .inl hi0
    rcases h with⟨aj,h⟩ | ⟨aj,h⟩
    · have hai:act ops i e=some true∨act ops i e=some false:=by
        obtain⟨v,h',_,hh⟩:=zQL h
        rcases hh with⟨a,_⟩ | ⟨a,_⟩
        · rw[zBM h1]at a;exact .inl a
        · rw[zBM h1]at a;exact .inr a
      rcases hai with ai | ai
      · have h:opX P false j(ev e)H fun vj hj=>∃ vi,pureOf(opR P i.op(ev e)hj)=some vi∧Cj((e.put i.dst vi).put j.dst vj)hj∧F((e.put i.dst vi).put j.dst vj)hj:=zCe h fun vj hj⟨hc,hh⟩=>by
          rcases hh with⟨_,hh⟩ | ⟨a,_⟩
          · obtain⟨vi,hvi,_,hf⟩:=(zEy hpi).1 hh
            rw[pi]at hvi
            refine⟨vi,hvi,?_⟩
            rw[← zFk hcm]
            exact⟨hCj _ _ _ hc,hf⟩
          · rw[zBM h1,ai]at a;cases a
        obtain⟨_,hj,vi,hvi,_⟩:=zQL h
        refine .inl⟨ai,(zEy hpi).2⟨vi,by rw[zOh hi0(H':=hj)];exact hvi,hCi _ _,.inl⟨by rw[zBM h3];exact aj,?_⟩⟩⟩
        refine fj _ _ _(zCe h fun vj hj' hh=>?_)
        obtain⟨vi',hvi',hk⟩:=hh
        rw[zOh hi0(H':=hj),hvi]at hvi'
        cases hvi'
        exact hk
      · refine .inr⟨ai,.inl⟨by rw[zBM h3];exact aj,?_⟩⟩
        refine fj _ _ _(zCe h fun vj hj⟨hc,hh⟩=>?_)
        rcases hh with⟨a,_⟩ | ⟨_,hk⟩
        · rw[zBM h1,ai]at a;cases a
        · rw[← zFk hcm];exact⟨hCj _ _ _ hc,hk⟩
    · rcases h with⟨ai,h⟩ | ⟨ai,h⟩
      · obtain⟨vi,hvi,_,hf⟩:=(zEy hpi).1 h
        rw[pi]at hvi
        refine .inl⟨by rw[← zBM h1];exact ai,(zEy hpi).2⟨vi,hvi,hCi _ _,.inr⟨by rw[zBM h3];exact aj,?_⟩⟩⟩
        rw[← zFk hcm];exact hf
      · refine .inr⟨by rw[← zBM h1];exact ai,.inr⟨by rw[zBM h3];exact aj,?_⟩⟩
        rw[← zFk hcm];exact h
  · obtain⟨hCj,hCi,hrc⟩:=hB hi0
    have hpj:cls P j.op=0∨cls P j.op=1:=by
      rcases Bool.or_eq_true_iff.1 hcl with hh | hh
      · exact absurd(Nat.eq_of_beq_eq_true hh)hi0
      · exact ble1.1 hh
    rcases h with⟨aj,h⟩ | ⟨aj,h⟩
    · obtain⟨vj,hvj,_,h⟩:=(zEy hpj).1 h
      rcases h with⟨ai,h⟩ | ⟨ai,hf⟩
      · refine .inl⟨by rw[← zBM h1];exact ai,?_⟩
        by_cases hread:cls P j.op=1∧cls P i.op≠1
        · obtain⟨⟨d,hdj,hdl⟩,hrc⟩:=hrc hread.1 hread.2
          refine zCe(fi _ _ _ h)fun vi hi⟨hc,hf⟩=>?_
          rw[zFk hcm]at hc hf
          have hr:=hrc _ _ hc
          refine⟨hCi _ _ _ hc,.inl⟨by rw[zBM h3];exact aj,(zEy hpj).2⟨vj,?_,hCj _ _,hf⟩⟩⟩
          unfold rc at hr
          simp only[hdj]at hr
          rw[zEZ]at hr
          rw[← hr]
          exact congrArg pureOf(zHS(zLU(ops:=ops)fun t ht=>by cases ht;exact hdl)).symm
        · -- the heap is as it was,or j does not look at it
          refine zCe(fi _ _ _(?_:opX P false i(ev(e.put j.dst vj))H fun vi hi=>pureOf(opR P j.op(ev e)hi)=some vj∧Ci((e.put j.dst vj).put i.dst vi)hi∧F((e.put j.dst vj).put i.dst vi)hi))fun vi hi⟨hv,hc,hf⟩=>?_
          · by_cases hj0:cls P j.op=0
            · exact zCe h fun vi hi hk=>⟨by rw[zOh hj0(H':=H)];exact hvj,hk⟩
            · have hj1:cls P j.op=1:=hpj.resolve_left hj0
              have hi1:cls P i.op=1:=Classical.byContradiction fun hn=>hread⟨hj1,hn⟩
              obtain⟨vi,hvi,hk⟩:=(zEy(.inr hi1)).1 h
              exact(zEy(.inr hi1)).2⟨vi,hvi,hvj,hk⟩
          · rw[zFk hcm]at hc hf
            exact⟨hCi _ _ _ hc,.inl⟨by rw[zBM h3];exact aj,(zEy hpj).2⟨vj,by rw[pj];exact hv,hCj _ _,hf⟩⟩⟩
      · rw[zFk hcm]at hf
        exact .inr⟨by rw[← zBM h1];exact ai,.inl⟨by rw[zBM h3];exact aj,(zEy hpj).2⟨vj,by rw[pj];exact hvj,hCj _ _,hf⟩⟩⟩
    · rcases h with⟨ai,h⟩ | ⟨ai,hf⟩
      · refine .inl⟨by rw[← zBM h1];exact ai,zCe(fi _ _ _ h)fun vi hi⟨hc,hf⟩=>?_⟩
        rw[zFk hcm]at hc hf
        exact⟨hCi _ _ _ hc,.inr⟨by rw[zBM h3];exact aj,hf⟩⟩
      · rw[zFk hcm]at hf
        exact .inr⟨by rw[← zBM h1];exact ai,.inr⟨by rw[zBM h3];exact aj,hf⟩⟩
end Go.X
