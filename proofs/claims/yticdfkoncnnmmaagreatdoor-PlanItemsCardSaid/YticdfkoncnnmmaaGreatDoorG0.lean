import Derived.Test.YticdfkoncnnmmaaGreatDoorGO
import Derived.Test.YticdfkoncnnmmaaGreatDoorGJ
set_option linter.unusedSimpArgs false
set_option linter.unusedVariables false
namespace Go.Proofs.YticdfkoncnnmmaaGreatDoor
open Go.X Go.X.Diff
set_option maxRecDepth 100000
structure Want where
  op:List UInt8
  ver:Ver
instance:DecidableEq Want:=fun a b=>decidable_of_iff(a.op=b.op∧a.ver=b.ver)(by cases a;cases b;simp)
structure Want.wf(w:Want):Prop where
  ver:w.ver.wf
  op:w.op.length≤9223372036854775807
def wantC(w:Want):List Value:=str w.op :: verC w.ver
theorem zC8{w:Want}(h:w.wf):(wantC w).length=5:=by simp[wantC,zAU h.ver]
theorem zQb{w:Want}:∀ c ∈ wantC w,c.oneCell'=true:=by
  intro c hc
  rcases List.mem_cons.1 hc with rfl | hc
  · rfl
  · exact zEJ c hc
def zeroW:Want:=⟨[],zeroV⟩
theorem zMD:zeroW.wf:=⟨zCi,by simp[zeroW]⟩
section
variable{h:Heap}{q:Nat}{w:Want}
theorem zRl(a:At h q(wantC w))(hw:w.wf):ldN 5 h(Ptr q 0)=some(.agg(wantC w).toArray):=a.ldN(zC8 hw)
theorem zNM(a:At h q(wantC w)):ld1 h(Ptr q 0)=some(str w.op):=a.ld rfl
theorem zK6(a:At h q(wantC w))(hw:w.wf):ldN 4 h(Ptr q 1)=some(.agg(verC w.ver).toArray):=by
  obtain⟨T,a⟩:=a
  exact ldN_mid(A:=[str w.op])(B:=verC w.ver)(C:=[])(by rw[List.append_nil];exact a)rfl(zAU hw.ver).symm
end
theorem zVM:eqK prg zAB = .flat([2]++kVer):=by kernel_rfl
theorem zVN{x y:Want}(hx:x.wf)(hy:y.wf):eqCells([2]++kVer)(wantC x)(wantC y)=some(decide(x=y)):=by
  have h2:=zC4(k1:=[2])(k2:=kVer)(a1:=[str x.op])(b1:=[str y.op])(a2:=verC x.ver)(b2:=verC y.ver)rfl rfl zEK(zNL hx.ver hy.ver)
  show eqCells([2]++kVer)([str x.op]++verC x.ver)([str y.op]++verC y.ver)=_
  rw[h2]
  congr 1
  rw[Bool.eq_iff_iff]
  simp only[Bool.and_eq_true,decide_eq_true_eq]
  cases x;cases y;simp
theorem eqWant{x y:Want}(hx:x.wf)(hy:y.wf):binV(eqK prg zAB) .eql(.agg(wantC x).toArray)(.agg(wantC y).toArray)=some(.bool(decide(x=y))):=by
  rw[zN2,zVM]
  show(eqCells([2]++kVer)(wantC x).toArray.toList(wantC y).toArray.toList).map Value.bool=_
  rw[List.toList_toArray,List.toList_toArray,zVN hx hy];rfl
def opsP:List(List UInt8):=[[33,61],[60,61],[62,61],[61],[60],[62],[94],[42]]
def OpsT(H:Heap):Prop:=∃ T f,H[zBx]? = some(.cells(opsP.map str).toArray T f)
theorem OpsT.keep{S:Nat→Prop}{H H':Heap}(h:OpsT H)(k:Keep S H H')(hs:∀ b,S b→NG≤b):OpsT H':=by
  obtain⟨T,f,h⟩:=h
  exact⟨T,f,k.at h fun h=>absurd(hs _ h)(by decide)⟩
theorem zVO{op:List UInt8}:op ∈ opsP↔op ∈ opsR∨op=[42]:=by
  unfold opsP opsR
  simp only[List.mem_cons,List.not_mem_nil,or_false]
  constructor
  · rintro(h | h | h | h | h | h | h | h) <;> simp[h]
  · rintro((h | h | h | h | h | h | h) | h) <;> simp[h]
theorem zTp{H:Heap}{op:List UInt8}(hO:OpsT H):HCalls prg zB4 [.slice(some⟨zBx,0,none⟩)8 8,str op] H fun u H'=>u = .bool(decide(op ∈ opsP))∧H=H':=by
  apply zFv
  unfold zDv
  refine zAf(R:=fun u H'=>(∃ i:Int,u = .int .i64 i∧(decide(i≥0)=decide(op ∈ opsP)))∧H=H')?_ ?_
  · apply zGf
    unfold zD9
    obtain⟨T,f,hO⟩:=hO
    refine J1_i(fun u h=>op ∉ opsP∧H=h)(fun k2 hk2=>?_)?_
    · rw[zFu,zAa]
      refine L1_i(fun u h=>∃ i:Nat,i≤8∧u = .int .i64(i:Nat)∧op ∉ opsP.take i∧H=h)(fun u _=>match u with | .int _ t=>8 - t.toNat | _=>0)⟨0,by omega,rfl,by simp,rfl⟩?_
      rintro _ _⟨i,hi,rfl,hn,rfl⟩k hk
      have e8:((8:Nat):Int)=8:=rfl
      simp only[e8,zAg,intV,zAa,zAb,decide_eq_true_eq]
      by_cases hlt:(i:Int)<8
      · rw[if_pos hlt]
        have hl:opsP.length=8:=rfl
        have hx:opsP[i]? = some(opsP[i]'(by omega)):=List.getElem?_eq_getElem _
        generalize(opsP[i]'(by omega))=x at hx
        have e1:ixS 1(.slice(some⟨zBx,0,none⟩)8 8)(.int .i64(i:Nat))=some(Ptr zBx i):=by
          simp only[ixS];rw[if_pos⟨by omega,by omega⟩];simp
        have e2:ld1 H(Ptr zBx i)=some(str x):=ld_l hO(by simp[hx])
        have hinc:IntKind.i64.wrap((i:Int)+1)=(i+1:Nat):=by rw[zAx] <;> omega
        simp only[e1,e2,zAa,zAX,zAb,zAg,intV,hinc,decide_eq_true_eq]
        by_cases hxo:op=x
        · rw[if_pos hxo]
          refine⟨⟨i,rfl,?_⟩,by trivial⟩
          rw[decide_eq_true(show op ∈ opsP from hxo ▸ List.mem_of_getElem? hx),decide_eq_true(by omega)]
        · rw[if_neg hxo]
          refine hk _ _⟨i+1,by omega,rfl,?_,rfl⟩(by show 8 - (i+1)<8 - i;omega)
          rw[List.take_add_one,hx]
          simp only[Option.toList_some,List.mem_append,List.mem_singleton,not_or]
          exact⟨hn,hxo⟩
      · rw[if_neg hlt]
        rw[List.take_of_length_le(by show 8≤i;omega)]at hn
        exact hk2 _ _⟨hn,rfl⟩
    rintro _ _⟨hn,rfl⟩
    exact⟨⟨-1,rfl,by rw[decide_eq_false hn];rfl⟩,rfl⟩
  · rintro _ _⟨⟨i,rfl,hi⟩,rfl⟩
    simp only[zAg,intV,zAa,hi]
    exact⟨by trivial,by trivial⟩
def wantOk(w:Want):Bool:=bif decide(w.op=[42])then decide(w.ver=zeroV)else decide(w.op ∈ opsR) && verOk w.ver
theorem zHu{H:Heap}{w:Want}(hw:w.wf)(hO:OpsT H):HCalls prg zBu [.agg(wantC w).toArray] H fun u H'=>u = .bool(wantOk w)∧Keep(fun _=>False)H H':=by
  apply zJF
  unfold zHW
  simp only[zAC,zAp]
  generalize hH1:H.push(.cells(wantC w).toArray zAB(0,0))=H1
  have k1:Keep(fun _=>False)H H1:=by rw[← hH1];exact Keep.push
  have a1:At H1 H.size(wantC w):=by rw[← hH1];exact At.push
  have es:=fun q=>zAX(q:=q)(a:=w.op)(b:=[42])
  have sl:slA 8 1(.pointer(some⟨zBx,0,none⟩))none none none=some(.slice(some⟨zBx,0,none⟩)8 8):=by simp[slA,bnds,bnd]
  unfold wantOk
  cases hs:decide(w.op=[42]) <;> simp only[zAq,Nat.zero_add,zNM a1,zK6 a1 hw,es,hs,b_V0,eqVer hw.ver zCi,sl,zAl,Bool.not_true,Bool.not_false,zAh,zAj,zAd,zAb,zAa,if_true,if_false,Bool.false_eq_true,Bool.true_eq_false,decide_true,decide_false,reduceCtorEq,J1_eq,ex20,ex21,ex30,ex31,ex32,zAo,zAm,cond_true,cond_false]
  · refine zAf(zTp(hO.keep k1 fun _ h=>h.elim))?_
    rintro _ _⟨rfl,rfl⟩
    have hm:decide(w.op ∈ opsP)=decide(w.op ∈ opsR):=by
      rw[decide_eq_decide,zVO]
      exact⟨fun h=>h.resolve_right(of_decide_eq_false hs),.inl⟩
    rw[hm]
    cases hr:decide(w.op ∈ opsR) <;> simp only[zAl,Bool.not_true,Bool.not_false,zAh,zAj,zAd,zAb,zAa,if_true,if_false,Bool.false_eq_true,Bool.true_eq_false,decide_true,decide_false,reduceCtorEq,J1_eq,ex20,ex21,ex30,ex31,ex32,zAo,zAm,zAq,Nat.zero_add,zK6 a1 hw,Bool.false_and,Bool.true_and]
    · exact⟨by trivial,k1⟩
    · refine zAf(zKr hw.ver)?_
      rintro _ h2⟨rfl,k2⟩
      simp only[zAl,Bool.not_true,Bool.not_false,zAh,zAj,zAd,zAb,zAa,if_true,if_false,Bool.false_eq_true,Bool.true_eq_false,decide_true,decide_false,reduceCtorEq,J1_eq,ex20,ex21,ex30,ex31,ex32,zAo,zAm]
      exact⟨by trivial,k1.trans k2⟩
  · exact⟨by trivial,k1⟩
theorem zVP{op:List UInt8}(h:op ∈ opsR):op.length≤2:=by
  unfold opsR at h
  simp only[List.mem_cons,List.not_mem_nil,or_false]at h
  rcases h with h | h | h | h | h | h | h <;> simp[h]
def wantS(w:Want):List UInt8:=bif wantOk w then(bif decide(w.op=[42])then [42] else w.op++showF w.ver)else []
theorem zQc{w:Want}(h:wantOk w=true)(hs:decide(w.op=[42])=false):w.op ∈ opsR∧verOk w.ver=true:=by
  unfold wantOk at h
  rw[hs,cond_false,Bool.and_eq_true,decide_eq_true_eq]at h
  exact h
theorem zTq{H:Heap}{w:Want}(hw:w.wf)(hO:OpsT H)(hT:PowT H):HCalls prg zCU [.agg(wantC w).toArray] H fun u H'=>u=str(wantS w)∧Keep(fun _=>False)H H':=by
  apply zJ0
  unfold zIA
  simp only[zAC,zAp]
  generalize hH1:H.push(.cells(wantC w).toArray zAB(0,0))=H1
  have k1:Keep(fun _=>False)H H1:=by rw[← hH1];exact Keep.push
  have a1:At H1 H.size(wantC w):=by rw[← hH1];exact At.push
  rw[show(Value.pointer(some⟨H.size,0,none⟩))=Ptr H.size 0 from rfl,zRl a1 hw,zAa]
  refine zAf(zHu hw(hO.keep k1 fun _ h=>h.elim))?_
  rintro _ h2⟨rfl,k2⟩
  have a2:=a1.keep k2 id
  have k12:=k1.trans k2
  have es:=fun q=>zAX(q:=q)(a:=w.op)(b:=[42])
  unfold wantS
  cases hok:wantOk w <;> simp only[zAl,Bool.not_true,Bool.not_false,zAh,zAj,zAd,zAb,zAa,if_true,if_false,Bool.false_eq_true,Bool.true_eq_false,decide_true,decide_false,reduceCtorEq,J1_eq,ex20,ex21,ex30,ex31,ex32,zAo,zAm,cond_true,cond_false]
  · exact⟨by trivial,k12⟩
  · cases hs:decide(w.op=[42]) <;> simp only[zAq,Nat.zero_add,zNM a2,zK6 a2 hw,es,hs,zAl,Bool.not_true,Bool.not_false,zAh,zAj,zAd,zAb,zAa,if_true,if_false,Bool.false_eq_true,Bool.true_eq_false,decide_true,decide_false,reduceCtorEq,J1_eq,ex20,ex21,ex30,ex31,ex32,zAo,zAm,cond_true,cond_false]
    · refine zAf(zPy hw.ver(hT.keep k12 fun _ h=>h.elim))?_
      rintro _ h3⟨rfl,k3⟩
      have a3:=a2.keep k3 id
      obtain⟨hr,hv⟩:=zQc hok hs
      have l1:=zVP hr
      have l2:=zLv(v:=w.ver)hw.ver.p3
      simp only[zNM a3,zMd(show w.op.length+(showF w.ver).length≤9223372036854775807 by omega),zAl,Bool.not_true,Bool.not_false,zAh,zAj,zAd,zAb,zAa,if_true,if_false,Bool.false_eq_true,Bool.true_eq_false,decide_true,decide_false,reduceCtorEq,J1_eq,ex20,ex21,ex30,ex31,ex32,zAo,zAm]
      exact⟨by trivial,k12.trans k3⟩
    · exact⟨by trivial,k12⟩
theorem zRm{H:Heap}{q r n c c':Nat}{v w:Ver}(hv:v.wf)(hw:w.wf)(a:At H q(verC v))(b:At H r(verC w))(hn:n≤3) :
    HCalls prg zDS [.slice(some⟨q,0,none⟩)n c,.slice(some⟨r,0,none⟩)n c'] H fun u H'=>u = .bool(decide(v.p.take n=w.p.take n))∧H=H':=by
  apply zIf
  unfold zF3
  have hp3:=hv.p3
  have hq3:=hw.p3
  have e0:binV .no .neq(.int .i64(n:Nat))(.int .i64(n:Nat))=some(.bool false):=by rw[zAg];simp[intV]
  simp only[zFu,e0,zAl,Bool.not_true,Bool.not_false,zAh,zAj,zAd,zAb,zAa,if_true,if_false,Bool.false_eq_true,Bool.true_eq_false,decide_true,decide_false,reduceCtorEq,J1_eq,ex20,ex21,ex30,ex31,ex32,zAo,zAm]
  refine L1_i(fun u h=>∃ i:Nat,i≤n∧u = .int .i64(i:Nat)∧v.p.take i=w.p.take i∧H=h)(fun u _=>match u with | .int _ t=>n - t.toNat | _=>0)⟨0,by omega,rfl,rfl,rfl⟩?_
  rintro _ _⟨i,hi,rfl,ht,rfl⟩k hk
  simp only[zAg,intV,zAa,zAb,decide_eq_true_eq]
  by_cases hlt:(i:Int)<n
  · rw[if_pos hlt]
    have h1:v.p[i]? = some(v.p[i]'(by omega)):=List.getElem?_eq_getElem _
    have h2:w.p[i]? = some(w.p[i]'(by omega)):=List.getElem?_eq_getElem _
    generalize(v.p[i]'(by omega))=x at h1
    generalize(w.p[i]'(by omega))=y at h2
    have hinc:IntKind.i64.wrap((i:Int)+1)=(i+1:Nat):=by rw[zAx] <;> omega
    have i1:ixS 1(.slice(some⟨q,0,none⟩)n c)(.int .i64(i:Nat))=some(Ptr q i):=by
      simp only[ixS];rw[if_pos⟨by omega,by omega⟩];simp
    have i2:ixS 1(.slice(some⟨r,0,none⟩)n c')(.int .i64(i:Nat))=some(Ptr r i):=by
      simp only[ixS];rw[if_pos⟨by omega,by omega⟩];simp
    simp only[i1,i2,zAa,zK5 a h1,zK5 b h2,zAg,intV,zAb,hinc,bne_iff_ne,ne_eq]
    by_cases hxy:x=y
    · subst hxy
      rw[if_neg(by simp)]
      exact hk _ _⟨i+1,by omega,rfl,zRb ht h1 h2,rfl⟩(by show n - (i+1)<n - i;omega)
    · rw[if_pos hxy]
      refine⟨?_,by trivial⟩
      rw[decide_eq_false]
      intro he
      have:=congrArg(·[i]?)he
      simp only[List.getElem?_take]at this
      rw[if_pos(by omega),if_pos(by omega),h1,h2]at this
      exact hxy(Option.some.inj this)
  · rw[if_neg hlt]
    obtain rfl:i=n:=by omega
    exact⟨by rw[decide_eq_true ht],by trivial⟩
theorem zXU{H:Heap}{w v:Ver}(hw:w.wf)(hv:v.wf):HCalls prg zI8 [.agg(verC w).toArray,.agg(verC v).toArray] H fun u H'=>u = .bool((vp0 v == vp0 w) && (vp0 w != 0 || vp1 v == vp1 w))∧Keep(fun _=>False)H H':=by
  apply zL3
  unfold zLq
  simp only[zAC,zAp]
  generalize hH1:H.push(.cells(verC w).toArray zAn(0,0))=H1
  have k1:Keep(fun _=>False)H H1:=by rw[← hH1];exact Keep.push
  have a1:At H1 H.size(verC w):=by rw[← hH1];exact At.push
  generalize hH2:H1.push(.cells(verC v).toArray zAn(0,0))=H2
  have k2:Keep(fun _=>False)H1 H2:=by rw[← hH2];exact Keep.push
  have b2:At H2 H1.size(verC v):=by rw[← hH2];exact At.push
  have a2:=a1.keep k2 id
  have kk:=k1.trans k2
  obtain⟨x,y,z,hp⟩:=Ver.cases3 hv
  obtain⟨x',y',z',hp'⟩:=Ver.cases3 hw
  have px':ld1 H2(Ptr H.size 0)=some(.int .i64 x'):=zK5 a2(i:=0)(by rw[hp'];rfl)
  have p0v:vp0 v=x:=by unfold vp0;rw[hp];rfl
  have p1v:vp1 v=y:=by unfold vp1;rw[hp];rfl
  have p0w:vp0 w=x':=by unfold vp0;rw[hp'];rfl
  have p1w:vp1 w=y':=by unfold vp1;rw[hp'];rfl
  have sl2:∀ q:Nat,slA 3 1(Ptr q 0)none(some(.int .i64 2))none=some(.slice(some⟨q,0,none⟩)2 3):=fun q=>by simp[slA,bnds,bnd]
  have sl1:∀ q:Nat,slA 3 1(Ptr q 0)none(some(.int .i64 1))none=some(.slice(some⟨q,0,none⟩)1 3):=fun q=>by simp[slA,bnds,bnd]
  rw[p0v,p1v,p0w,p1w]
  cases h0:(x' == 0) <;> simp only[zAq,Nat.zero_add,ix0,px',zAg,intV,h0,sl1,sl2,zAl,Bool.not_true,Bool.not_false,zAh,zAj,zAd,zAb,zAa,if_true,if_false,Bool.false_eq_true,Bool.true_eq_false,decide_true,decide_false,reduceCtorEq,J1_eq,ex20,ex21,ex30,ex31,ex32,zAo,zAm]
  · refine zAf(zRm hw hv a2 b2(n:=1)(by omega))?_
    rintro _ _⟨rfl,rfl⟩
    refine⟨?_,kk⟩
    congr 1
    have h0':x'≠0:=by simpa using h0
    rw[hp,hp',show List.take 1 [x',y',z']=[x'] from rfl,show List.take 1 [x,y,z]=[x] from rfl,Bool.eq_iff_iff]
    simp only[decide_eq_true_eq,List.cons.injEq,and_true,Bool.and_eq_true,beq_iff_eq,Bool.or_eq_true,bne_iff_ne,ne_eq,h0',not_false_eq_true,true_or]
    exact⟨Eq.symm,Eq.symm⟩
  · refine zAf(zRm hw hv a2 b2(n:=2)(by omega))?_
    rintro _ _⟨rfl,rfl⟩
    refine⟨?_,kk⟩
    congr 1
    have h0':x'=0:=by simpa using h0
    rw[hp,hp',show List.take 2 [x',y',z']=[x',y'] from rfl,show List.take 2 [x,y,z]=[x,y] from rfl,Bool.eq_iff_iff]
    simp only[decide_eq_true_eq,List.cons.injEq,and_true,Bool.and_eq_true,beq_iff_eq,Bool.or_eq_true,bne_iff_ne,ne_eq,h0',not_true_eq_false,false_or]
    exact⟨fun h=>⟨h.1.symm,h.2.symm⟩,fun h=>⟨h.1.symm,h.2.symm⟩⟩
end Go.Proofs.YticdfkoncnnmmaaGreatDoor
namespace Go.Proofs.YticdfkoncnnmmaaGreatDoor
open Go.X Go.X.Diff
set_option maxRecDepth 100000
theorem zME{H:Heap}{w:Want}{v:Ver}(hw:w.wf)(hv:v.wf)(hO:OpsT H):HCalls prg zCS [.agg(wantC w).toArray,.agg(verC v).toArray] H fun u H'=>u = .bool(wantOk w && verOk v && fitsF w.op w.ver v)∧Keep(fun _=>False)H H':=by
  apply zJ1
  unfold zIB
  simp only[zAC,zAp]
  generalize hH1:H.push(.cells(wantC w).toArray zAB(0,0))=H1
  have k1:Keep(fun _=>False)H H1:=by rw[← hH1];exact Keep.push
  have a1:At H1 H.size(wantC w):=by rw[← hH1];exact At.push
  generalize hH2:H1.push(.cells(verC v).toArray zAn(0,0))=H2
  have k2:Keep(fun _=>False)H1 H2:=by rw[← hH2];exact Keep.push
  have b2:At H2 H1.size(verC v):=by rw[← hH2];exact At.push
  have a2:=a1.keep k2 id
  have k02:=k1.trans k2
  rw[show(Value.pointer(some⟨H.size,0,none⟩))=Ptr H.size 0 from rfl,zRl a2 hw,zAa]
  refine zAf(zHu hw(hO.keep k02 fun _ h=>h.elim))?_
  rintro _ h3⟨rfl,k3⟩
  have a3:=a2.keep k3 id
  have b3:=b2.keep k3 id
  have k03:=k02.trans k3
  cases hok:wantOk w <;> simp only[zAl,Bool.not_true,Bool.not_false,zAh,zAj,zAd,zAb,zAa,if_true,if_false,Bool.false_eq_true,Bool.true_eq_false,decide_true,decide_false,reduceCtorEq,J1_eq,ex20,ex21,ex30,ex31,ex32,zAo,zAm,Bool.false_and,Bool.true_and,zH3 b3 hv]
  · exact⟨by trivial,k03⟩
  refine zAf(zKr hv)?_
  rintro _ h4⟨rfl,k4⟩
  have a4:=a3.keep k4 id
  have b4:=b3.keep k4 id
  have k04:=k03.trans k4
  cases hvo:verOk v <;> simp only[zAl,Bool.not_true,Bool.not_false,zAh,zAj,zAd,zAb,zAa,if_true,if_false,Bool.false_eq_true,Bool.true_eq_false,decide_true,decide_false,reduceCtorEq,J1_eq,ex20,ex21,ex30,ex31,ex32,zAo,zAm,zAq,Nat.zero_add,zH3 b4 hv,zK6 a4 hw,Bool.false_and,Bool.true_and]
  · exact⟨by trivial,k04⟩
  refine zAf(c_Cmp hv hw.ver)?_
  rintro _ h7⟨rfl,k7⟩
  have a7:=a4.keep k7 id
  have b7:=b4.keep k7 id
  have kk:=k04.trans k7
  have e1:=fun q=>zAX(q:=q)(a:=w.op)(b:=[61])
  have e2:=fun q=>zAX(q:=q)(a:=w.op)(b:=[33,61])
  have e3:=fun q=>zAX(q:=q)(a:=w.op)(b:=[60])
  have e4:=fun q=>zAX(q:=q)(a:=w.op)(b:=[60,61])
  have e5:=fun q=>zAX(q:=q)(a:=w.op)(b:=[62])
  have e6:=fun q=>zAX(q:=q)(a:=w.op)(b:=[62,61])
  have e7:=fun q=>zAX(q:=q)(a:=w.op)(b:=[94])
  have ht:=zJn.turn v w.ver
  have l1:ltV v w.ver=decide(cmpV v w.ver<0):=rfl
  have l2:ltV w.ver v=decide(0<cmpV v w.ver):=by unfold ltV;rw[decide_eq_decide];omega
  unfold fitsF
  rw[l1,l2]
  generalize cmpV v w.ver=c
  simp only[zNM a7,zAa]
  rw[e1,zAa]
  cases h1:decide(w.op=[61])
  rotate_left
  · simp only[zAl,Bool.not_true,Bool.not_false,zAh,zAj,zAd,zAb,zAa,if_true,if_false,Bool.false_eq_true,Bool.true_eq_false,decide_true,decide_false,reduceCtorEq,J1_eq,ex20,ex21,ex30,ex31,ex32,zAo,zAm,zAg,intV,cond_true]
    refine⟨?_,kk⟩
    congr 1;rw[Bool.eq_iff_iff];simp;omega
  rw[zAb,if_neg(by decide),e2,zAa]
  cases h2:decide(w.op=[33,61])
  rotate_left
  · simp only[zAl,Bool.not_true,Bool.not_false,zAh,zAj,zAd,zAb,zAa,if_true,if_false,Bool.false_eq_true,Bool.true_eq_false,decide_true,decide_false,reduceCtorEq,J1_eq,ex20,ex21,ex30,ex31,ex32,zAo,zAm,zAg,intV,cond_true,cond_false]
    refine⟨?_,kk⟩
    congr 1;rw[Bool.eq_iff_iff];simp;omega
  rw[zAb,if_neg(by decide),e3,zAa]
  cases h3:decide(w.op=[60])
  rotate_left
  · simp only[zAl,Bool.not_true,Bool.not_false,zAh,zAj,zAd,zAb,zAa,if_true,if_false,Bool.false_eq_true,Bool.true_eq_false,decide_true,decide_false,reduceCtorEq,J1_eq,ex20,ex21,ex30,ex31,ex32,zAo,zAm,zAg,intV,cond_true,cond_false];exact⟨by trivial,kk⟩
  rw[zAb,if_neg(by decide),e4,zAa]
  cases h4':decide(w.op=[60,61])
  rotate_left
  · simp only[zAl,Bool.not_true,Bool.not_false,zAh,zAj,zAd,zAb,zAa,if_true,if_false,Bool.false_eq_true,Bool.true_eq_false,decide_true,decide_false,reduceCtorEq,J1_eq,ex20,ex21,ex30,ex31,ex32,zAo,zAm,zAg,intV,cond_true,cond_false]
    refine⟨?_,kk⟩
    congr 1;rw[Bool.eq_iff_iff];simp
  rw[zAb,if_neg(by decide),e5,zAa]
  cases h5:decide(w.op=[62])
  rotate_left
  · simp only[zAl,Bool.not_true,Bool.not_false,zAh,zAj,zAd,zAb,zAa,if_true,if_false,Bool.false_eq_true,Bool.true_eq_false,decide_true,decide_false,reduceCtorEq,J1_eq,ex20,ex21,ex30,ex31,ex32,zAo,zAm,zAg,intV,cond_true,cond_false];exact⟨by trivial,kk⟩
  rw[zAb,if_neg(by decide),e6,zAa]
  cases h6:decide(w.op=[62,61])
  rotate_left
  · simp only[zAl,Bool.not_true,Bool.not_false,zAh,zAj,zAd,zAb,zAa,if_true,if_false,Bool.false_eq_true,Bool.true_eq_false,decide_true,decide_false,reduceCtorEq,J1_eq,ex20,ex21,ex30,ex31,ex32,zAo,zAm,zAg,intV,cond_true,cond_false]
    refine⟨?_,kk⟩
    congr 1;rw[Bool.eq_iff_iff];simp
  rw[zAb,if_neg(by decide),e7,zAa]
  cases h7:decide(w.op=[94])
  rotate_left
  · have hge:(c≥0)↔¬ (c<0):=by omega
    have hd:decide(c≥0) = !decide(c<0):=by rw[Bool.eq_iff_iff];simp
    cases hc:decide(c<0) <;> rw[hc]at hd <;> simp only[zAl,Bool.not_true,Bool.not_false,zAh,zAj,zAd,zAb,zAa,if_true,if_false,Bool.false_eq_true,Bool.true_eq_false,decide_true,decide_false,reduceCtorEq,J1_eq,ex20,ex21,ex30,ex31,ex32,zAo,zAm,zAq,Nat.zero_add,zAg,intV,hd,zK6 a7 hw,zH3 b7 hv,cond_true,cond_false,Bool.false_and,Bool.true_and]
    · refine zAf(zXU hw.ver hv)?_
      rintro _ h9⟨rfl,k9⟩
      simp only[zAl,Bool.not_true,Bool.not_false,zAh,zAj,zAd,zAb,zAa,if_true,if_false,Bool.false_eq_true,Bool.true_eq_false,decide_true,decide_false,reduceCtorEq,J1_eq,ex20,ex21,ex30,ex31,ex32,zAo,zAm]
      exact⟨by trivial,kk.trans k9⟩
    · exact⟨by trivial,kk⟩
  · simp only[zAl,Bool.not_true,Bool.not_false,zAh,zAj,zAd,zAb,zAa,if_true,if_false,Bool.false_eq_true,Bool.true_eq_false,decide_true,decide_false,reduceCtorEq,J1_eq,ex20,ex21,ex30,ex31,ex32,zAo,zAm,cond_false];exact⟨by trivial,kk⟩
theorem zSF{α:Type}{f:α→Bool}:∀ {l:List α}{i:Nat}{x:α},(∀ p ∈ l.take i,f p=false)→l[i]? = some x→f x=true→l.find? f=some x
  | [],i,x,_,h,_=>by simp at h
  | y :: l,0,x,_,h,hx=>by
    obtain rfl:y=x:=by simpa using h
    simp[List.find?,hx]
  | y :: l,i+1,x,h1,h,hx=>by
    have hy:=h1 y(by simp)
    simp only[List.find?,hy]
    exact zSF(i:=i)(fun p hp=>h1 p(by rw[List.take_succ_cons];exact List.mem_cons_of_mem _ hp))(by simpa using h)hx
theorem zXV:zcells prg zAB=some(wantC zeroW).toArray:=by kernel_rfl
theorem zUg:structK prg zAB=some([(0,1),(1,4)],(wantC zeroW).toArray):=by kernel_rfl
theorem b_W{op:List UInt8}:buildV prg zAB [(0,str op)]=some(.agg(wantC⟨op,zeroV⟩).toArray):=by rw[zDI zUg];rfl
theorem b_W0:buildV prg zAB []=some(.agg(wantC zeroW).toArray):=by kernel_rfl
structure VerT(H:Heap):Prop where
  err:ErrT H
  pow:PowT H
  ops:OpsT H
theorem VerT.keep{S:Nat→Prop}{H H':Heap}(h:VerT H)(k:Keep S H H')(hs:∀ b,S b→NG≤b):VerT H':=⟨h.err.keep k hs,h.pow.keep k hs,h.ops.keep k hs⟩
end Go.Proofs.YticdfkoncnnmmaaGreatDoor
