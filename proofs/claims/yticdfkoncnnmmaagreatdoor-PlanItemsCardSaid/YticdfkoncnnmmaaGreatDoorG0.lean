import Derived.Test.YticdfkoncnnmmaaGreatDoorGO
import Derived.Test.YticdfkoncnnmmaaGreatDoorGJ
set_option linter.unusedSimpArgs false
set_option linter.unusedVariables false
set_option maxRecDepth 100000
namespace Go.Proofs.YticdfkoncnnmmaaGreatDoor
open Go.X Go.X.Diff
structure zPS where
 op:List UInt8
 ver:Ver
instance:DecidableEq zPS:=fun a b=>decidable_of_iff (a.op=b.op/\a.ver=b.ver) (by cases a;cases b;simp)
structure zPS.wf (w:zPS):Prop where
 ver:w.ver.wf
 op:w.op.length<=9223372036854775807
def zDl (w:zPS):List Value:=str w.op :: zCt w.ver
theorem zEs {w:zPS}(h:w.wf):(zDl w).length=5:=by simp[zDl,zBD h.ver]
theorem zQX {w:zPS}:∀ c ∈ zDl w,c.oneCell'=true:=by
 intro c hc
 rcases List.mem_cons.1 hc with rfl | hc
 ·rfl
 ·exact zIB c hc
def zSR:zPS:=⟨[],zB2⟩
theorem zQa:zSR.wf:=⟨zEM,by simp[zSR]⟩
section
variable {h:zAd} {q:Nat} {w:zPS}
theorem zWi (a:At h q (zDl w))(hw:w.wf):ldN 5 h (Ptr q 0)=some (.agg (zDl w).toArray):=a.ldN (zEs hw)
theorem zSS (a:At h q (zDl w)):ld1 h (Ptr q 0)=some (str w.op):=a.ld rfl
theorem zON (a:At h q (zDl w))(hw:w.wf):ldN 4 h (Ptr q 1)=some (.agg (zCt w.ver).toArray):=by
 obtain⟨T,a⟩:=a
 exact ldN_mid (A:=[str w.op]) (B:=zCt w.ver) (C:=[]) (by rw[List.append_nil];exact a) rfl (zBD hw.ver).symm
end
theorem zAbn:eqK prg zAJ = .flat ([2]++zXN):=by kernel_rfl
theorem zAbo {x y:zPS}(hx:x.wf)(hy:y.wf):zA1 ([2]++zXN) (zDl x) (zDl y)=some (decide (x=y)):=by
 have h2:=zEK (k1:=[2]) (k2:=zXN) (a1:=[str x.op]) (b1:=[str y.op]) (a2:=zCt x.ver) (b2:=zCt y.ver) rfl rfl zGP (zSQ hx.ver hy.ver)
 show zA1 ([2]++zXN) ([str x.op]++zCt x.ver) ([str y.op]++zCt y.ver)=_
 rw[h2]
 congr 1
 rw[Bool.eq_iff_iff]
 simp only[Bool.and_eq_true,decide_eq_true_eq]
 cases x;cases y;simp
theorem zAfH {x y:zPS}(hx:x.wf)(hy:y.wf):zAh (eqK prg zAJ) .eql (.agg (zDl x).toArray) (.agg (zDl y).toArray)=some (.bool (decide (x=y))):=by
 rw[zQD,zAbn]
 show(zA1 ([2]++zXN) (zDl x).toArray.toList (zDl y).toArray.toList).map Value.bool=_
 rw[List.toList_toArray,List.toList_toArray,zAbo hx hy];rfl
def zWj:List (List UInt8):=[[33,61],[60,61],[62,61],[61],[60],[62],[94],[42]]
def zNR (H:zAd):Prop:=∃ T f,H[zCj]? = some (.cells (zWj.map str).toArray T f)
theorem zNR.keep {S:Nat->Prop}{H H':zAd}(h:zNR H)(k:Keep S H H')(hs:∀ b,S b->NG<=b):zNR H':=by
 obtain⟨T,f,h⟩:=h
 exact⟨T,f,k.at h fun h=>absurd (hs _ h) (by decide)⟩
theorem zAbp {op:List UInt8}:op ∈ zWj↔op ∈ zAbf\/op=[42]:=by
 unfold zWj zAbf
 simp only[List.mem_cons,List.not_mem_nil,or_false]
 constructor
 ·rintro(h | h | h | h | h | h | h | h) <;> simp[h]
 ·rintro((h | h | h | h | h | h | h) | h) <;> simp[h]
theorem zXg {H:zAd}{op:List UInt8}(hO:zNR H):zAg prg zCd [.slice (some ⟨zCj,0,none⟩) 8 8,str op] H fun u H'=>u = .bool (decide (op ∈ zWj))/\H=H':=by
 apply zFq
 unfold zDE
 refine zAk (R:=fun u H'=>(∃ i:Int,u = .int .i64 i/\(decide (i>=0)=decide (op ∈ zWj)))/\H=H') ?_ ?_
 ·apply zF4
  unfold zEo
  obtain⟨T,f,hO⟩:=hO
  refine zL2 (fun u h=>op ∉ zWj/\H=h) (fun k2 hk2=>?_) ?_
  ·rw[zIf,zAa]
   refine zHU (fun u h=>∃ i:Nat,i<=8/\u = .int .i64 (i:Nat)/\op ∉ zWj.take i/\H=h) (fun u _=>match u with | .int _ t=>8 - t.toNat | _=>0) ⟨0,by omega,rfl,by simp,rfl⟩ ?_
   rintro _ _ ⟨i,hi,rfl,hn,rfl⟩ k hk
   have e8:((8:Nat):Int)=8:=rfl
   simp only[e8,zAi,zA9,zAa,zAc,decide_eq_true_eq]
   by_cases hlt:(i:Int)<8
   ·rw[if_pos hlt]
    have hl:zWj.length=8:=rfl
    have hx:zWj[i]? = some (zWj[i]'(by omega)):=List.getElem?_eq_getElem _
    generalize (zWj[i]'(by omega))=x at hx
    have e1:ixS 1 (.slice (some ⟨zCj,0,none⟩) 8 8) (.int .i64 (i:Nat))=some (Ptr zCj i):=by
     simp only[ixS];rw[if_pos ⟨by omega,by omega⟩];simp
    have e2:ld1 H (Ptr zCj i)=some (str x):=zO0 hO (by simp[hx])
    have hinc:IntKind.i64.wrap ((i:Int)+1)=(i+1:Nat):=by rw[zAM] <;> omega
    simp only[e1,e2,zAa,zBX,zAc,zAi,zA9,hinc,decide_eq_true_eq]
    by_cases hxo:op=x
    ·rw[if_pos hxo]
     refine⟨⟨i,rfl,?_⟩,by trivial⟩
     rw[decide_eq_true (show op ∈ zWj from hxo ▸ List.mem_of_getElem? hx),decide_eq_true (by omega)]
    ·rw[if_neg hxo]
     refine hk _ _ ⟨i+1,by omega,rfl,?_,rfl⟩ (by show 8 - (i+1)<8 - i;omega)
     rw[List.take_add_one,hx]
     simp only[Option.toList_some,List.mem_append,List.mem_singleton,not_or]
     exact⟨hn,hxo⟩
   ·rw[if_neg hlt]
    rw[List.take_of_length_le (by show 8<=i;omega)]at hn
    exact hk2 _ _ ⟨hn,rfl⟩
  rintro _ _ ⟨hn,rfl⟩
  exact⟨⟨-1,rfl,by rw[decide_eq_false hn];rfl⟩,rfl⟩
 ·rintro _ _ ⟨⟨i,rfl,hi⟩,rfl⟩
  simp only[zAi,zA9,zAa,hi]
  exact⟨by trivial,by trivial⟩
def zFJ (w:zPS):Bool:=bif decide (w.op=[42]) then decide (w.ver=zB2) else decide (w.op ∈ zAbf) && zEX w.ver
theorem zKc {H:zAd}{w:zPS}(hw:w.wf)(hO:zNR H):zAg prg zBI [.agg (zDl w).toArray] H fun u H'=>u = .bool (zFJ w)/\Keep (fun _=>False) H H':=by
 apply zJY
 unfold zIH
 simp only[zAN,zAs]
 generalize hH1:H.push (.cells (zDl w).toArray zAJ (0,0))=H1
 have k1:Keep (fun _=>False) H H1:=by rw[<- hH1];exact Keep.push
 have a1:At H1 H.size (zDl w):=by rw[<- hH1];exact At.push
 have es:=fun q=>zBX (q:=q) (a:=w.op) (b:=[42])
 have sl:slA 8 1 (.pointer (some ⟨zCj,0,none⟩)) none none none=some (.slice (some ⟨zCj,0,none⟩) 8 8):=by simp[slA,zKt,bnd]
 unfold zFJ
 cases hs:decide (w.op=[42]) <;> simp only[zAx,Nat.zero_add,zSS a1,zON a1 hw,es,hs,zAg8,zAbm hw.ver zEM,sl,zAq,Bool.not_true,Bool.not_false,zAl,zAo,zAe,zAc,zAa,if_true,if_false,Bool.false_eq_true,Bool.true_eq_false,decide_true,decide_false,reduceCtorEq,zAF,zCz,zCA,zCw,zCx,zCy,zAw,zAr,cond_true,cond_false]
 ·refine zAk (zXg (hO.keep k1 fun _ h=>h.elim)) ?_
  rintro _ _ ⟨rfl,rfl⟩
  have hm:decide (w.op ∈ zWj)=decide (w.op ∈ zAbf):=by
   rw[decide_eq_decide,zAbp]
   exact⟨fun h=>h.resolve_right (of_decide_eq_false hs),.inl⟩
  rw[hm]
  cases hr:decide (w.op ∈ zAbf) <;> simp only[zAq,Bool.not_true,Bool.not_false,zAl,zAo,zAe,zAc,zAa,if_true,if_false,Bool.false_eq_true,Bool.true_eq_false,decide_true,decide_false,reduceCtorEq,zAF,zCz,zCA,zCw,zCx,zCy,zAw,zAr,zAx,Nat.zero_add,zON a1 hw,Bool.false_and,Bool.true_and]
  ·exact⟨by trivial,k1⟩
  ·refine zAk (zNh hw.ver) ?_
   rintro _ h2 ⟨rfl,k2⟩
   simp only[zAq,Bool.not_true,Bool.not_false,zAl,zAo,zAe,zAc,zAa,if_true,if_false,Bool.false_eq_true,Bool.true_eq_false,decide_true,decide_false,reduceCtorEq,zAF,zCz,zCA,zCw,zCx,zCy,zAw,zAr]
   exact⟨by trivial,k1.trans k2⟩
 ·exact⟨by trivial,k1⟩
theorem zAbq {op:List UInt8}(h:op ∈ zAbf):op.length<=2:=by
 unfold zAbf at h
 simp only[List.mem_cons,List.not_mem_nil,or_false]at h
 rcases h with h | h | h | h | h | h | h <;> simp[h]
def zQY (w:zPS):List UInt8:=bif zFJ w then (bif decide (w.op=[42]) then [42] else w.op++zFH w.ver) else []
theorem zT2 {w:zPS}(h:zFJ w=true)(hs:decide (w.op=[42])=false):w.op ∈ zAbf/\zEX w.ver=true:=by
 unfold zFJ at h
 rw[hs,cond_false,Bool.and_eq_true,decide_eq_true_eq]at h
 exact h
theorem zXh {H:zAd}{w:zPS}(hw:w.wf)(hO:zNR H)(hT:zTW H):zAg prg zDo [.agg (zDl w).toArray] H fun u H'=>u=str (zQY w)/\Keep (fun _=>False) H H':=by
 apply zKo
 unfold zJj
 simp only[zAN,zAs]
 generalize hH1:H.push (.cells (zDl w).toArray zAJ (0,0))=H1
 have k1:Keep (fun _=>False) H H1:=by rw[<- hH1];exact Keep.push
 have a1:At H1 H.size (zDl w):=by rw[<- hH1];exact At.push
 rw[show(Value.pointer (some ⟨H.size,0,none⟩))=Ptr H.size 0 from rfl,zWi a1 hw,zAa]
 refine zAk (zKc hw (hO.keep k1 fun _ h=>h.elim)) ?_
 rintro _ h2 ⟨rfl,k2⟩
 have a2:=a1.keep k2 id
 have k12:=k1.trans k2
 have es:=fun q=>zBX (q:=q) (a:=w.op) (b:=[42])
 unfold zQY
 cases hok:zFJ w <;> simp only[zAq,Bool.not_true,Bool.not_false,zAl,zAo,zAe,zAc,zAa,if_true,if_false,Bool.false_eq_true,Bool.true_eq_false,decide_true,decide_false,reduceCtorEq,zAF,zCz,zCA,zCw,zCx,zCy,zAw,zAr,cond_true,cond_false]
 ·exact⟨by trivial,k12⟩
 ·cases hs:decide (w.op=[42]) <;> simp only[zAx,Nat.zero_add,zSS a2,zON a2 hw,es,hs,zAq,Bool.not_true,Bool.not_false,zAl,zAo,zAe,zAc,zAa,if_true,if_false,Bool.false_eq_true,Bool.true_eq_false,decide_true,decide_false,reduceCtorEq,zAF,zCz,zCA,zCw,zCx,zCy,zAw,zAr,cond_true,cond_false]
  ·refine zAk (zU9 hw.ver (hT.keep k12 fun _ h=>h.elim)) ?_
   rintro _ h3 ⟨rfl,k3⟩
   have a3:=a2.keep k3 id
   obtain⟨hr,hv⟩:=zT2 hok hs
   have l1:=zAbq hr
   have l2:=zOL (v:=w.ver) hw.ver.p3
   simp only[zSS a3,zQU (show w.op.length+(zFH w.ver).length<=9223372036854775807 by omega),zAq,Bool.not_true,Bool.not_false,zAl,zAo,zAe,zAc,zAa,if_true,if_false,Bool.false_eq_true,Bool.true_eq_false,decide_true,decide_false,reduceCtorEq,zAF,zCz,zCA,zCw,zCx,zCy,zAw,zAr]
   exact⟨by trivial,k12.trans k3⟩
  ·exact⟨by trivial,k12⟩
theorem zWk {H:zAd}{q r n c c':Nat}{v w:Ver}(hv:v.wf)(hw:w.wf)(a:At H q (zCt v))(b:At H r (zCt w))(hn:n<=3) :
  zAg prg zEf [.slice (some ⟨q,0,none⟩) n c,.slice (some ⟨r,0,none⟩) n c'] H fun u H'=>u = .bool (decide (v.p.take n=w.p.take n))/\H=H':=by
 apply zIk
 unfold zGl
 have hp3:=hv.p3
 have hq3:=hw.p3
 have e0:zAh .no .neq (.int .i64 (n:Nat)) (.int .i64 (n:Nat))=some (.bool false):=by rw[zAi];simp[zA9]
 simp only[zIf,e0,zAq,Bool.not_true,Bool.not_false,zAl,zAo,zAe,zAc,zAa,if_true,if_false,Bool.false_eq_true,Bool.true_eq_false,decide_true,decide_false,reduceCtorEq,zAF,zCz,zCA,zCw,zCx,zCy,zAw,zAr]
 refine zHU (fun u h=>∃ i:Nat,i<=n/\u = .int .i64 (i:Nat)/\v.p.take i=w.p.take i/\H=h) (fun u _=>match u with | .int _ t=>n - t.toNat | _=>0) ⟨0,by omega,rfl,rfl,rfl⟩ ?_
 rintro _ _ ⟨i,hi,rfl,ht,rfl⟩ k hk
 simp only[zAi,zA9,zAa,zAc,decide_eq_true_eq]
 by_cases hlt:(i:Int)<n
 ·rw[if_pos hlt]
  have h1:v.p[i]? = some (v.p[i]'(by omega)):=List.getElem?_eq_getElem _
  have h2:w.p[i]? = some (w.p[i]'(by omega)):=List.getElem?_eq_getElem _
  generalize (v.p[i]'(by omega))=x at h1
  generalize (w.p[i]'(by omega))=y at h2
  have hinc:IntKind.i64.wrap ((i:Int)+1)=(i+1:Nat):=by rw[zAM] <;> omega
  have i1:ixS 1 (.slice (some ⟨q,0,none⟩) n c) (.int .i64 (i:Nat))=some (Ptr q i):=by
   simp only[ixS];rw[if_pos ⟨by omega,by omega⟩];simp
  have i2:ixS 1 (.slice (some ⟨r,0,none⟩) n c') (.int .i64 (i:Nat))=some (Ptr r i):=by
   simp only[ixS];rw[if_pos ⟨by omega,by omega⟩];simp
  simp only[i1,i2,zAa,zOM a h1,zOM b h2,zAi,zA9,zAc,hinc,bne_iff_ne,ne_eq]
  by_cases hxy:x=y
  ·subst hxy
   rw[if_neg (by simp)]
   exact hk _ _ ⟨i+1,by omega,rfl,zWb ht h1 h2,rfl⟩ (by show n - (i+1)<n - i;omega)
  ·rw[if_pos hxy]
   refine⟨?_,by trivial⟩
   rw[decide_eq_false]
   intro he
   have:=congrArg (·[i]?) he
   simp only[List.getElem?_take]at this
   rw[if_pos (by omega),if_pos (by omega),h1,h2]at this
   exact hxy (Option.some.inj this)
 ·rw[if_neg hlt]
  obtain rfl:i=n:=by omega
  exact⟨by rw[decide_eq_true ht],by trivial⟩
theorem zAfI {H:zAd}{w v:Ver}(hw:w.wf)(hv:v.wf):zAg prg zKN [.agg (zCt w).toArray,.agg (zCt v).toArray] H fun u H'=>u = .bool ((vp0 v == vp0 w) && (vp0 w != 0 || vp1 v == vp1 w))/\Keep (fun _=>False) H H':=by
 apply zMS
 unfold zMR
 simp only[zAN,zAs]
 generalize hH1:H.push (.cells (zCt w).toArray zAn (0,0))=H1
 have k1:Keep (fun _=>False) H H1:=by rw[<- hH1];exact Keep.push
 have a1:At H1 H.size (zCt w):=by rw[<- hH1];exact At.push
 generalize hH2:H1.push (.cells (zCt v).toArray zAn (0,0))=H2
 have k2:Keep (fun _=>False) H1 H2:=by rw[<- hH2];exact Keep.push
 have b2:At H2 H1.size (zCt v):=by rw[<- hH2];exact At.push
 have a2:=a1.keep k2 id
 have kk:=k1.trans k2
 obtain⟨x,y,z,hp⟩:=Ver.cases3 hv
 obtain⟨x',y',z',hp'⟩:=Ver.cases3 hw
 have px':ld1 H2 (Ptr H.size 0)=some (.int .i64 x'):=zOM a2 (i:=0) (by rw[hp'];rfl)
 have p0v:vp0 v=x:=by unfold vp0;rw[hp];rfl
 have p1v:vp1 v=y:=by unfold vp1;rw[hp];rfl
 have p0w:vp0 w=x':=by unfold vp0;rw[hp'];rfl
 have p1w:vp1 w=y':=by unfold vp1;rw[hp'];rfl
 have sl2:∀ q:Nat,slA 3 1 (Ptr q 0) none (some (.int .i64 2)) none=some (.slice (some ⟨q,0,none⟩) 2 3):=fun q=>by simp[slA,zKt,bnd]
 have sl1:∀ q:Nat,slA 3 1 (Ptr q 0) none (some (.int .i64 1)) none=some (.slice (some ⟨q,0,none⟩) 1 3):=fun q=>by simp[slA,zKt,bnd]
 rw[p0v,p1v,p0w,p1w]
 cases h0:(x' == 0) <;> simp only[zAx,Nat.zero_add,ix0,px',zAi,zA9,h0,sl1,sl2,zAq,Bool.not_true,Bool.not_false,zAl,zAo,zAe,zAc,zAa,if_true,if_false,Bool.false_eq_true,Bool.true_eq_false,decide_true,decide_false,reduceCtorEq,zAF,zCz,zCA,zCw,zCx,zCy,zAw,zAr]
 ·refine zAk (zWk hw hv a2 b2 (n:=1) (by omega)) ?_
  rintro _ _ ⟨rfl,rfl⟩
  refine⟨?_,kk⟩
  congr 1
  have h0':x'≠0:=by simpa using h0
  rw[hp,hp',show List.take 1 [x',y',z']=[x'] from rfl,show List.take 1 [x,y,z]=[x] from rfl,Bool.eq_iff_iff]
  simp only[decide_eq_true_eq,List.cons.injEq,and_true,Bool.and_eq_true,beq_iff_eq,Bool.or_eq_true,bne_iff_ne,ne_eq,h0',not_false_eq_true,true_or]
  exact⟨Eq.symm,Eq.symm⟩
 ·refine zAk (zWk hw hv a2 b2 (n:=2) (by omega)) ?_
  rintro _ _ ⟨rfl,rfl⟩
  refine⟨?_,kk⟩
  congr 1
  have h0':x'=0:=by simpa using h0
  rw[hp,hp',show List.take 2 [x',y',z']=[x',y'] from rfl,show List.take 2 [x,y,z]=[x,y] from rfl,Bool.eq_iff_iff]
  simp only[decide_eq_true_eq,List.cons.injEq,and_true,Bool.and_eq_true,beq_iff_eq,Bool.or_eq_true,bne_iff_ne,ne_eq,h0',not_true_eq_false,false_or]
  exact⟨fun h=>⟨h.1.symm,h.2.symm⟩,fun h=>⟨h.1.symm,h.2.symm⟩⟩
theorem zPr {H:zAd}{w:zPS}{v:Ver}(hw:w.wf)(hv:v.wf)(hO:zNR H):zAg prg zDm [.agg (zDl w).toArray,.agg (zCt v).toArray] H fun u H'=>u = .bool (zFJ w && zEX v && zVb w.op w.ver v)/\Keep (fun _=>False) H H':=by
 apply zKp
 unfold zJk
 simp only[zAN,zAs]
 generalize hH1:H.push (.cells (zDl w).toArray zAJ (0,0))=H1
 have k1:Keep (fun _=>False) H H1:=by rw[<- hH1];exact Keep.push
 have a1:At H1 H.size (zDl w):=by rw[<- hH1];exact At.push
 generalize hH2:H1.push (.cells (zCt v).toArray zAn (0,0))=H2
 have k2:Keep (fun _=>False) H1 H2:=by rw[<- hH2];exact Keep.push
 have b2:At H2 H1.size (zCt v):=by rw[<- hH2];exact At.push
 have a2:=a1.keep k2 id
 have k02:=k1.trans k2
 rw[show(Value.pointer (some ⟨H.size,0,none⟩))=Ptr H.size 0 from rfl,zWi a2 hw,zAa]
 refine zAk (zKc hw (hO.keep k02 fun _ h=>h.elim)) ?_
 rintro _ h3 ⟨rfl,k3⟩
 have a3:=a2.keep k3 id
 have b3:=b2.keep k3 id
 have k03:=k02.trans k3
 cases hok:zFJ w <;> simp only[zAq,Bool.not_true,Bool.not_false,zAl,zAo,zAe,zAc,zAa,if_true,if_false,Bool.false_eq_true,Bool.true_eq_false,decide_true,decide_false,reduceCtorEq,zAF,zCz,zCA,zCw,zCx,zCy,zAw,zAr,Bool.false_and,Bool.true_and,zM1 b3 hv]
 ·exact⟨by trivial,k03⟩
 refine zAk (zNh hv) ?_
 rintro _ h4 ⟨rfl,k4⟩
 have a4:=a3.keep k4 id
 have b4:=b3.keep k4 id
 have k04:=k03.trans k4
 cases hvo:zEX v <;> simp only[zAq,Bool.not_true,Bool.not_false,zAl,zAo,zAe,zAc,zAa,if_true,if_false,Bool.false_eq_true,Bool.true_eq_false,decide_true,decide_false,reduceCtorEq,zAF,zCz,zCA,zCw,zCx,zCy,zAw,zAr,zAx,Nat.zero_add,zM1 b4 hv,zON a4 hw,Bool.false_and,Bool.true_and]
 ·exact⟨by trivial,k04⟩
 refine zAk (zAfD hv hw.ver) ?_
 rintro _ h7 ⟨rfl,k7⟩
 have a7:=a4.keep k7 id
 have b7:=b4.keep k7 id
 have kk:=k04.trans k7
 have e1:=fun q=>zBX (q:=q) (a:=w.op) (b:=[61])
 have e2:=fun q=>zBX (q:=q) (a:=w.op) (b:=[33,61])
 have e3:=fun q=>zBX (q:=q) (a:=w.op) (b:=[60])
 have e4:=fun q=>zBX (q:=q) (a:=w.op) (b:=[60,61])
 have e5:=fun q=>zBX (q:=q) (a:=w.op) (b:=[62])
 have e6:=fun q=>zBX (q:=q) (a:=w.op) (b:=[62,61])
 have e7:=fun q=>zBX (q:=q) (a:=w.op) (b:=[94])
 have ht:=zNk.turn v w.ver
 have l1:ltV v w.ver=decide (zAao v w.ver<0):=rfl
 have l2:ltV w.ver v=decide (0<zAao v w.ver):=by unfold ltV;rw[decide_eq_decide];omega
 unfold zVb
 rw[l1,l2]
 generalize zAao v w.ver=c
 simp only[zSS a7,zAa]
 rw[e1,zAa]
 cases h1:decide (w.op=[61])
 rotate_left
 ·simp only[zAq,Bool.not_true,Bool.not_false,zAl,zAo,zAe,zAc,zAa,if_true,if_false,Bool.false_eq_true,Bool.true_eq_false,decide_true,decide_false,reduceCtorEq,zAF,zCz,zCA,zCw,zCx,zCy,zAw,zAr,zAi,zA9,cond_true]
  refine⟨?_,kk⟩
  congr 1;rw[Bool.eq_iff_iff];simp;omega
 rw[zAc,if_neg (by decide),e2,zAa]
 cases h2:decide (w.op=[33,61])
 rotate_left
 ·simp only[zAq,Bool.not_true,Bool.not_false,zAl,zAo,zAe,zAc,zAa,if_true,if_false,Bool.false_eq_true,Bool.true_eq_false,decide_true,decide_false,reduceCtorEq,zAF,zCz,zCA,zCw,zCx,zCy,zAw,zAr,zAi,zA9,cond_true,cond_false]
  refine⟨?_,kk⟩
  congr 1;rw[Bool.eq_iff_iff];simp;omega
 rw[zAc,if_neg (by decide),e3,zAa]
 cases h3:decide (w.op=[60])
 rotate_left
 ·simp only[zAq,Bool.not_true,Bool.not_false,zAl,zAo,zAe,zAc,zAa,if_true,if_false,Bool.false_eq_true,Bool.true_eq_false,decide_true,decide_false,reduceCtorEq,zAF,zCz,zCA,zCw,zCx,zCy,zAw,zAr,zAi,zA9,cond_true,cond_false];exact⟨by trivial,kk⟩
 rw[zAc,if_neg (by decide),e4,zAa]
 cases h4':decide (w.op=[60,61])
 rotate_left
 ·simp only[zAq,Bool.not_true,Bool.not_false,zAl,zAo,zAe,zAc,zAa,if_true,if_false,Bool.false_eq_true,Bool.true_eq_false,decide_true,decide_false,reduceCtorEq,zAF,zCz,zCA,zCw,zCx,zCy,zAw,zAr,zAi,zA9,cond_true,cond_false]
  refine⟨?_,kk⟩
  congr 1;rw[Bool.eq_iff_iff];simp
 rw[zAc,if_neg (by decide),e5,zAa]
 cases h5:decide (w.op=[62])
 rotate_left
 ·simp only[zAq,Bool.not_true,Bool.not_false,zAl,zAo,zAe,zAc,zAa,if_true,if_false,Bool.false_eq_true,Bool.true_eq_false,decide_true,decide_false,reduceCtorEq,zAF,zCz,zCA,zCw,zCx,zCy,zAw,zAr,zAi,zA9,cond_true,cond_false];exact⟨by trivial,kk⟩
 rw[zAc,if_neg (by decide),e6,zAa]
 cases h6:decide (w.op=[62,61])
 rotate_left
 ·simp only[zAq,Bool.not_true,Bool.not_false,zAl,zAo,zAe,zAc,zAa,if_true,if_false,Bool.false_eq_true,Bool.true_eq_false,decide_true,decide_false,reduceCtorEq,zAF,zCz,zCA,zCw,zCx,zCy,zAw,zAr,zAi,zA9,cond_true,cond_false]
  refine⟨?_,kk⟩
  congr 1;rw[Bool.eq_iff_iff];simp
 rw[zAc,if_neg (by decide),e7,zAa]
 cases h7:decide (w.op=[94])
 rotate_left
 ·have hge:(c>=0)↔¬ (c<0):=by omega
  have hd:decide (c>=0) = !decide (c<0):=by rw[Bool.eq_iff_iff];simp
  cases hc:decide (c<0) <;> rw[hc]at hd <;> simp only[zAq,Bool.not_true,Bool.not_false,zAl,zAo,zAe,zAc,zAa,if_true,if_false,Bool.false_eq_true,Bool.true_eq_false,decide_true,decide_false,reduceCtorEq,zAF,zCz,zCA,zCw,zCx,zCy,zAw,zAr,zAx,Nat.zero_add,zAi,zA9,hd,zON a7 hw,zM1 b7 hv,cond_true,cond_false,Bool.false_and,Bool.true_and]
  ·refine zAk (zAfI hw.ver hv) ?_
   rintro _ h9 ⟨rfl,k9⟩
   simp only[zAq,Bool.not_true,Bool.not_false,zAl,zAo,zAe,zAc,zAa,if_true,if_false,Bool.false_eq_true,Bool.true_eq_false,decide_true,decide_false,reduceCtorEq,zAF,zCz,zCA,zCw,zCx,zCy,zAw,zAr]
   exact⟨by trivial,kk.trans k9⟩
  ·exact⟨by trivial,kk⟩
 ·simp only[zAq,Bool.not_true,Bool.not_false,zAl,zAo,zAe,zAc,zAa,if_true,if_false,Bool.false_eq_true,Bool.true_eq_false,decide_true,decide_false,reduceCtorEq,zAF,zCz,zCA,zCw,zCx,zCy,zAw,zAr,cond_false];exact⟨by trivial,kk⟩
theorem zYS {α:Type}{f:α->Bool}:∀ {l:List α} {i:Nat} {x:α},(∀ p ∈ l.take i,f p=false)->l[i]? = some x->f x=true->l.find? f=some x
 | [],i,x,_,h,_=>by simp at h
 | y :: l,0,x,_,h,hx=>by
  obtain rfl:y=x:=by simpa using h
  simp[List.find?,hx]
 | y :: l,i+1,x,h1,h,hx=>by
  have hy:=h1 y (by simp)
  simp only[List.find?,hy]
  exact zYS (i:=i) (fun p hp=>h1 p (by rw[List.take_succ_cons];exact List.mem_cons_of_mem _ hp)) (by simpa using h) hx
theorem zAfJ:zAB prg zAJ=some (zDl zSR).toArray:=by kernel_rfl
theorem zAcx:zJT prg zAJ=some ([(0,1),(1,4)],(zDl zSR).toArray):=by kernel_rfl
theorem b_W {op:List UInt8}:zA4 prg zAJ [(0,str op)]=some (.agg (zDl ⟨op,zB2⟩).toArray):=by rw[zGf zAcx];rfl
theorem zAiz:zA4 prg zAJ []=some (.agg (zDl zSR).toArray):=by kernel_rfl
structure zAdV (H:zAd):Prop where
 err:zAbj H
 pow:zTW H
 ops:zNR H
theorem zAdV.keep {S:Nat->Prop}{H H':zAd}(h:zAdV H)(k:Keep S H H')(hs:∀ b,S b->NG<=b):zAdV H':=⟨h.err.keep k hs,h.pow.keep k hs,h.ops.keep k hs⟩
end Go.Proofs.YticdfkoncnnmmaaGreatDoor
