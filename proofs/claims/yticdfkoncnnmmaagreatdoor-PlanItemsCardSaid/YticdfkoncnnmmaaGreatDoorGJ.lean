import Derived.Test.YticdfkoncnnmmaaGreatDoorGI
set_option linter.unusedSimpArgs false
set_option linter.unusedVariables false
namespace Go.Proofs.YticdfkoncnnmmaaGreatDoor
open Go.X
set_option maxRecDepth 100000
theorem Items.one{P:Nat→Prop}{H:Heap}{v:Value}{xs:List Item}(h:Items P H v xs):v.oneCell'=true:=h.1.oneC
structure RecA where
  k:Int
  bef:List Item
  aft:List Item
  s:Int
  r:List UInt8
end Go.Proofs.YticdfkoncnnmmaaGreatDoor
namespace Go.Proofs.YticdfkoncnnmmaaGreatDoor
open Go.X
set_option maxRecDepth 100000
instance:DecidableEq Ver:=fun a b=>decidable_of_iff(a.p=b.p∧a.pre=b.pre)(by cases a;cases b;simp)
instance:DecidableEq Item:=fun a b=>decidable_of_iff(a.name=b.name∧a.ver=b.ver∧a.sum=b.sum)(by cases a;cases b;simp)
theorem zC4{k1 k2:List Nat}{a1 a2 b1 b2:List Value}{p q:Bool}(ha:a1.length=k1.length)(hb:b1.length=k1.length)(h1:eqCells k1 a1 b1=some p)(h2:eqCells k2 a2 b2=some q):eqCells(k1++k2)(a1++a2)(b1++b2)=some(p && q):=by
  induction k1 generalizing a1 b1 p with
  | nil =>
    obtain rfl:=List.length_eq_zero_iff.1 ha
    obtain rfl:=List.length_eq_zero_iff.1 hb
    simp only[eqCells,Option.some.injEq]at h1
    subst h1;simpa using h2
  | cons k k1 ih =>
    match a1,b1,ha,hb with
    | a :: a1,b :: b1,ha,hb =>
      simp only[eqCells]at h1
      simp only[List.cons_append,eqCells]
      cases hx:eqCell k a b with
      | none=>rw[hx]at h1;cases h1
      | some x =>
        cases hy:eqCells k1 a1 b1 with
        | none=>rw[hx,hy]at h1;cases h1
        | some y =>
          rw[hx,hy]at h1
          simp only[Option.some.injEq]at h1
          rw[ih(by simpa using ha)(by simpa using hb)hy]
          simp[← h1,Bool.and_assoc]
theorem zK4{k:IntKind}{l m:List Int}(h:l.length=m.length):eqCells(List.replicate l.length 0)(icells k l)(icells k m)=some(decide(l=m)):=by
  induction l generalizing m with
  | nil=>cases m with
    | nil=>rfl
    | cons b m=>cases h
  | cons a l ih=>cases m with
    | nil=>cases h
    | cons b m =>
      have e:eqCell 0(.int k a)(.int k b)=some(decide(a=b)):=by
        simp only[eqCell,if_true];congr 1
      have e2:=ih(m:=m)(by simpa using h)
      simp only[icells]at e2
      simp only[List.length_cons,List.replicate_succ,icells,List.map_cons,eqCells,e,e2]
      congr 1
      simp[Bool.eq_iff_iff]
theorem zEK{a b:List UInt8}:eqCells [2] [str a] [str b]=some(decide(a=b)):=by
  simp only[eqCells,eqCell,zGo,Bool.and_true]
  congr 1;rw[Bool.eq_iff_iff];simp
def kItem:List Nat:=[2]++((List.replicate 3 0++[2])++List.replicate 32 0)
theorem zVA:eqK prg zAO = .flat kItem:=by kernel_rfl
theorem eqItem{x y:Item}(hx:x.wf)(hy:y.wf):eqCells kItem(itemC x)(itemC y)=some(decide(x=y)):=by
  have h1:eqCells(List.replicate 3 0)(icells .i64 x.ver.p)(icells .i64 y.ver.p)=some(decide(x.ver.p=y.ver.p)):=by
    have:=zK4(k := .i64)(l:=x.ver.p)(m:=y.ver.p)(by rw[hx.ver.p3,hy.ver.p3])
    rwa [hx.ver.p3]at this
  have h2:eqCells(List.replicate 32 0)(bcells x.sum)(bcells y.sum)=some(decide(x.sum=y.sum)):=by
    have:=zJY(l:=x.sum)(m:=y.sum)(by rw[hx.sum,hy.sum])
    rwa [hx.sum]at this
  have hv:=zC4(by simp[hx.ver.p3])(by simp[hy.ver.p3])h1(zEK(a:=x.ver.pre)(b:=y.ver.pre))
  have hvs:=zC4(by simp[hx.ver.p3])(by simp[hy.ver.p3])hv h2
  have:=zC4(k1:=[2])rfl rfl(zEK(a:=x.name)(b:=y.name))hvs
  have e:itemC x=[str x.name]++((icells .i64 x.ver.p++[str x.ver.pre])++bcells x.sum):=rfl
  have e':itemC y=[str y.name]++((icells .i64 y.ver.p++[str y.ver.pre])++bcells y.sum):=rfl
  rw[e,e']
  unfold kItem
  rw[this]
  congr 1
  rw[Bool.eq_iff_iff]
  obtain⟨n,⟨p,q⟩,s⟩:=x
  obtain⟨n',⟨p',q'⟩,s'⟩:=y
  simp
def New(H H':Heap):Nat→Prop:=fun b=>H.size≤b∧b<H'.size
theorem st36{H:Heap}{q:Nat}{z m:List Value}{T:TypeId}(hq:H[q]? = some(.cells z.toArray T(0,0)))(hz:z.length=36)(hm:m.length=36)(h1:∀ c ∈ m,c.oneCell'=true):stN 36 H(Ptr q 0)(.agg m.toArray)=some(H.setIfInBounds q(.cells m.toArray T(0,0))):=by
  have:=zHU(n:=36)(o:=0)(A:=[])(B:=z)(C:=[])(B':=m)(by rw[List.nil_append,List.append_nil];exact hq)rfl(by simp[hz])hm(zNt h1)
  rw[List.nil_append,List.append_nil]at this
  exact this
end Go.Proofs.YticdfkoncnnmmaaGreatDoor
namespace Go.Proofs.YticdfkoncnnmmaaGreatDoor
open Go.X
set_option maxRecDepth 100000
theorem Items.mono{P Q:Nat→Prop}{H:Heap}{v:Value}{xs:List Item}(h:Items P H v xs)(k:∀ b,P b→Q b):Items Q H v xs:=⟨h.1.mono k,h.2⟩
theorem BufE.re{n:Nat}{F G:Nat→Prop}{H:Heap}{v:Value}{xs:List(List Value)}(h:BufE n F H v xs)(k:∀ b,b<H.size→F b→G b):BufE n G H v xs:=by
  obtain⟨h1,h2,h | ⟨b,o,c,cs,T,f,rfl,hf,hc,hb,hr⟩⟩:=h
  · exact⟨h1,h2,.inl h⟩
  · exact⟨h1,h2,.inr⟨b,o,c,cs,T,f,rfl,k b(lt_of hb)hf,hc,hb,hr⟩⟩
def RawOk(F:Nat→Prop)(H:Heap)(a:RecA)(x:Value×Value):Prop:=a.r.length=32∧Items F H x.1 a.bef∧Items F H x.2 a.aft∧a.bef.length≤1048576∧a.aft.length≤1048576
theorem RawOk.keep{F S:Nat→Prop}{H H':Heap}{a:RecA}{x:Value×Value}(h:RawOk F H a x)(k:Keep S H H')(hs:∀ b,F b→¬ S b):RawOk F H' a x:=⟨h.1,h.2.1.keep k hs,h.2.2.1.keep k hs,h.2.2.2⟩
theorem RawOk.mono{F G:Nat→Prop}{H:Heap}{a:RecA}{x:Value×Value}(h:RawOk F H a x)(k:∀ b,F b→G b):RawOk G H a x:=⟨h.1,h.2.1.mono k,h.2.2.1.mono k,h.2.2.2⟩
theorem Keep.back{S:Nat→Prop}{H H':Heap}(h:Keep(fun _=>False)H H'){b:Nat}(hb:b<H.size):H[b]? = H'[b]?:=(h.2 b hb id).symm
theorem BufE.keepBack{n:Nat}{F:Nat→Prop}{H H':Heap}{v:Value}{xs:List(List Value)}(h:BufE n F H' v xs)(k:Keep(fun _=>False)H H')(hs:∀ b,F b→b<H.size):BufE n F H v xs:=by
  obtain⟨h1,h2,h | ⟨b,o,c,cs,T,f,rfl,hf,hc,hb,hr⟩⟩:=h
  · exact⟨h1,h2,.inl h⟩
  · exact⟨h1,h2,.inr⟨b,o,c,cs,T,f,rfl,hf,hc,by rw[← k.2 b(hs b hf)id];exact hb,hr⟩⟩
theorem SlE.keepBack{n:Nat}{P:Nat→Prop}{H H':Heap}{v:Value}{xs:List(List Value)}(h:SlE n P H' v xs)(k:Keep(fun _=>False)H H')(hs:∀ b,P b→b<H.size):SlE n P H v xs:=by
  obtain⟨⟨a,c,hv,hc,hx⟩,h2,h3⟩:=h
  refine⟨⟨a,c,hv,hc,hx.imp id ?_⟩,h2,h3⟩
  rintro⟨b,o,rfl,hP,cs,T,f,hb,h4,h5⟩
  exact⟨b,o,rfl,hP,cs,T,f,by rw[← k.2 b(hs b hP)id];exact hb,h4,h5⟩
theorem Items.keepBack{P:Nat→Prop}{H H':Heap}{v:Value}{xs:List Item}(h:Items P H' v xs)(k:Keep(fun _=>False)H H')(hs:∀ b,P b→b<H.size):Items P H v xs:=⟨SlE.keepBack h.1 k hs,h.2⟩
theorem RawOk.back{F S:Nat→Prop}{H h4 h16:Heap}{a:RecA}{x:Value×Value}(h:RawOk F h4 a x)(k:Keep(fun _=>False)H h4)(hs:∀ b,F b→b<H.size)(k2:Keep S H h16)(hs2:∀ b,F b→¬ S b):RawOk F h16 a x :=
  ⟨h.1,(Items.keepBack h.2.1 k hs).keep k2 hs2,(Items.keepBack h.2.2.1 k hs).keep k2 hs2,h.2.2.2⟩
section
variable{p:Nat}{Fr Fc Fi:Nat→Prop}{H:Heap}{rs:List RecA}{ch:List(List UInt8)}
end
end Go.Proofs.YticdfkoncnnmmaaGreatDoor
namespace Go.Proofs.YticdfkoncnnmmaaGreatDoor
open Go.X
set_option maxRecDepth 100000
theorem zNH{P:Program}{e:TypeId}{n:Nat}{z:Array Value}{v:Value}(hn:P.cellsOf e=n)(h0:0<n)(h1:n≤16777216)(hz:zcells P e=some z)(hzs:z.size=n)(hv:v.cells.size=n):bslV P e 1 [(0,v)]=some v.cells:=by
  unfold bslV
  rw[hn,if_neg(by omega),hz,Option.bind_some,if_pos hzs]
  have hs:(zrow z(1 * n)).size=n:=by simp[zrow]
  have hspl:spl(zrow z(1 * n))(0 * n)v.cells=v.cells:=by
    unfold spl
    rw[Nat.zero_mul,Nat.zero_add,hv]
    apply Array.ext'
    have hs':(zrow z n).size=n:=by simpa using hs
    simp[hs']
  simp only[bfill]
  rw[if_pos⟨hv,by rw[hs];omega⟩,hspl]
section
variable{p:Nat}{Fr Fc Fi P:Nat→Prop}{H:Heap}{rs:List RecA}{ch:List(List UInt8)}{vb va:Value}{a:RecA}
end
end Go.Proofs.YticdfkoncnnmmaaGreatDoor
namespace Go.Proofs.YticdfkoncnnmmaaGreatDoor
open Go.X
set_option maxRecDepth 100000
def kHash:List Nat:=List.replicate 32 0
theorem zVB:eqK prg zAF = .flat kHash:=by kernel_rfl
theorem zWQ{a b:List UInt8}(ha:a.length=32)(hb:b.length=32):binV(eqK prg zAF) .neq(bv a)(bv b)=some(.bool(!decide(a=b))):=by
  unfold bv
  rw[zHk,zVB]
  show(eqCells kHash(bcells a).toArray.toList(bcells b).toArray.toList).map(fun b=>Value.bool(!b))=_
  have:=zJY(l:=a)(m:=b)(by omega)
  rw[ha]at this
  unfold kHash
  rw[List.toList_toArray,List.toList_toArray,this];rfl
end Go.Proofs.YticdfkoncnnmmaaGreatDoor
