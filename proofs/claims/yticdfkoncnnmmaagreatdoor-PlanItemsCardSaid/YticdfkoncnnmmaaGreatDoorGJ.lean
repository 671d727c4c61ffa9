import Derived.Test.YticdfkoncnnmmaaGreatDoorGI
set_option linter.unusedSimpArgs false
set_option linter.unusedVariables false
set_option maxRecDepth 100000
namespace Go.Proofs.YticdfkoncnnmmaaGreatDoor
open Go.X
theorem Items.one {P:Nat->Prop}{H:zAd}{v:Value}{xs:List Item}(h:Items P H v xs):v.oneCell'=true:=h.1.oneC
structure zAct where
 k:Int
 bef:List Item
 aft:List Item
 s:Int
 r:List UInt8
instance:DecidableEq Ver:=fun a b=>decidable_of_iff (a.p=b.p/\a.pre=b.pre) (by cases a;cases b;simp)
instance:DecidableEq Item:=fun a b=>decidable_of_iff (a.name=b.name/\a.ver=b.ver/\a.sum=b.sum) (by cases a;cases b;simp)
theorem zEK {k1 k2:List Nat}{a1 a2 b1 b2:List Value}{p q:Bool}(ha:a1.length=k1.length)(hb:b1.length=k1.length)(h1:zA1 k1 a1 b1=some p)(h2:zA1 k2 a2 b2=some q):zA1 (k1++k2) (a1++a2) (b1++b2)=some (p && q):=by
 induction k1 generalizing a1 b1 p with
 | nil =>
  obtain rfl:=List.length_eq_zero_iff.1 ha
  obtain rfl:=List.length_eq_zero_iff.1 hb
  simp only[zA1,Option.some.injEq]at h1
  subst h1;simpa using h2
 | cons k k1 ih =>
  match a1,b1,ha,hb with
  | a :: a1,b :: b1,ha,hb =>
   simp only[zA1]at h1
   simp only[List.cons_append,zA1]
   cases hx:zK8 k a b with
   | none=>rw[hx]at h1;cases h1
   | some x =>
    cases hy:zA1 k1 a1 b1 with
    | none=>rw[hx,hy]at h1;cases h1
    | some y =>
     rw[hx,hy]at h1
     simp only[Option.some.injEq]at h1
     rw[ih (by simpa using ha) (by simpa using hb) hy]
     simp[<- h1,Bool.and_assoc]
theorem zM0 {k:IntKind}{l m:List Int}(h:l.length=m.length):zA1 (List.replicate l.length 0) (zAP k l) (zAP k m)=some (decide (l=m)):=by
 induction l generalizing m with
 | nil=>cases m with
  | nil=>rfl
  | cons b m=>cases h
 | cons a l ih=>cases m with
  | nil=>cases h
  | cons b m =>
   have e:zK8 0 (.int k a) (.int k b)=some (decide (a=b)):=by
    simp only[zK8,if_true];congr 1
   have e2:=ih (m:=m) (by simpa using h)
   simp only[zAP]at e2
   simp only[List.length_cons,List.replicate_succ,zAP,List.map_cons,zA1,e,e2]
   congr 1
   simp[Bool.eq_iff_iff]
theorem zGP {a b:List UInt8}:zA1 [2] [str a] [str b]=some (decide (a=b)):=by
 simp only[zA1,zK8,zJV,Bool.and_true]
 congr 1;rw[Bool.eq_iff_iff];simp
def zAa7:List Nat:=[2]++((List.replicate 3 0++[2])++List.replicate 32 0)
theorem zAa8:eqK prg zA2 = .flat zAa7:=by kernel_rfl
theorem zAfB {x y:Item}(hx:x.wf)(hy:y.wf):zA1 zAa7 (zFS x) (zFS y)=some (decide (x=y)):=by
 have h1:zA1 (List.replicate 3 0) (zAP .i64 x.ver.p) (zAP .i64 y.ver.p)=some (decide (x.ver.p=y.ver.p)):=by
  have:=zM0 (k := .i64) (l:=x.ver.p) (m:=y.ver.p) (by rw[hx.ver.p3,hy.ver.p3])
  rwa [hx.ver.p3]at this
 have h2:zA1 (List.replicate 32 0) (zAy x.sum) (zAy y.sum)=some (decide (x.sum=y.sum)):=by
  have:=zLK (l:=x.sum) (m:=y.sum) (by rw[hx.sum,hy.sum])
  rwa [hx.sum]at this
 have hv:=zEK (by simp[hx.ver.p3]) (by simp[hy.ver.p3]) h1 (zGP (a:=x.ver.pre) (b:=y.ver.pre))
 have hvs:=zEK (by simp[hx.ver.p3]) (by simp[hy.ver.p3]) hv h2
 have:=zEK (k1:=[2]) rfl rfl (zGP (a:=x.name) (b:=y.name)) hvs
 have e:zFS x=[str x.name]++((zAP .i64 x.ver.p++[str x.ver.pre])++zAy x.sum):=rfl
 have e':zFS y=[str y.name]++((zAP .i64 y.ver.p++[str y.ver.pre])++zAy y.sum):=rfl
 rw[e,e']
 unfold zAa7
 rw[this]
 congr 1
 rw[Bool.eq_iff_iff]
 obtain⟨n,⟨p,q⟩,s⟩:=x
 obtain⟨n',⟨p',q'⟩,s'⟩:=y
 simp
def New (H H':zAd):Nat->Prop:=fun b=>H.size<=b/\b<H'.size
theorem zAh4 {H:zAd}{q:Nat}{z m:List Value}{T:TypeId}(hq:H[q]? = some (.cells z.toArray T (0,0)))(hz:z.length=36)(hm:m.length=36)(h1:∀ c ∈ m,c.oneCell'=true):stN 36 H (Ptr q 0) (.agg m.toArray)=some (H.setIfInBounds q (.cells m.toArray T (0,0))):=by
 have:=zMH (n:=36) (o:=0) (A:=[]) (B:=z) (C:=[]) (B':=m) (by rw[List.nil_append,List.append_nil];exact hq) rfl (by simp[hz]) hm (zRY h1)
 rw[List.nil_append,List.append_nil]at this
 exact this
theorem Items.mono {P Q:Nat->Prop}{H:zAd}{v:Value}{xs:List Item}(h:Items P H v xs)(k:∀ b,P b->Q b):Items Q H v xs:=⟨h.1.mono k,h.2⟩
theorem BufE.re {n:Nat}{F G:Nat->Prop}{H:zAd}{v:Value}{xs:List (List Value)}(h:BufE n F H v xs)(k:∀ b,b<H.size->F b->G b):BufE n G H v xs:=by
 obtain⟨h1,h2,h | ⟨b,o,c,cs,T,f,rfl,hf,hc,hb,hr⟩⟩:=h
 ·exact⟨h1,h2,.inl h⟩
 ·exact⟨h1,h2,.inr ⟨b,o,c,cs,T,f,rfl,k b (lt_of hb) hf,hc,hb,hr⟩⟩
def zSG (F:Nat->Prop)(H:zAd)(a:zAct)(x:Value×Value):Prop:=a.r.length=32/\Items F H x.1 a.bef/\Items F H x.2 a.aft/\a.bef.length<=1048576/\a.aft.length<=1048576
theorem zSG.keep {F S:Nat->Prop}{H H':zAd}{a:zAct}{x:Value×Value}(h:zSG F H a x)(k:Keep S H H')(hs:∀ b,F b->¬ S b):zSG F H' a x:=⟨h.1,h.2.1.keep k hs,h.2.2.1.keep k hs,h.2.2.2⟩
theorem zSG.mono {F G:Nat->Prop}{H:zAd}{a:zAct}{x:Value×Value}(h:zSG F H a x)(k:∀ b,F b->G b):zSG G H a x:=⟨h.1,h.2.1.mono k,h.2.2.1.mono k,h.2.2.2⟩
theorem Keep.back {S:Nat->Prop}{H H':zAd}(h:Keep (fun _=>False) H H'){b:Nat}(hb:b<H.size):H[b]? = H'[b]?:=(h.2 b hb id).symm
theorem BufE.keepBack {n:Nat}{F:Nat->Prop}{H H':zAd}{v:Value}{xs:List (List Value)}(h:BufE n F H' v xs)(k:Keep (fun _=>False) H H')(hs:∀ b,F b->b<H.size):BufE n F H v xs:=by
 obtain⟨h1,h2,h | ⟨b,o,c,cs,T,f,rfl,hf,hc,hb,hr⟩⟩:=h
 ·exact⟨h1,h2,.inl h⟩
 ·exact⟨h1,h2,.inr ⟨b,o,c,cs,T,f,rfl,hf,hc,by rw[<- k.2 b (hs b hf) id];exact hb,hr⟩⟩
theorem SlE.keepBack {n:Nat}{P:Nat->Prop}{H H':zAd}{v:Value}{xs:List (List Value)}(h:SlE n P H' v xs)(k:Keep (fun _=>False) H H')(hs:∀ b,P b->b<H.size):SlE n P H v xs:=by
 obtain⟨⟨a,c,hv,hc,hx⟩,h2,h3⟩:=h
 refine⟨⟨a,c,hv,hc,hx.imp id ?_⟩,h2,h3⟩
 rintro⟨b,o,rfl,hP,cs,T,f,hb,h4,h5⟩
 exact⟨b,o,rfl,hP,cs,T,f,by rw[<- k.2 b (hs b hP) id];exact hb,h4,h5⟩
theorem Items.keepBack {P:Nat->Prop}{H H':zAd}{v:Value}{xs:List Item}(h:Items P H' v xs)(k:Keep (fun _=>False) H H')(hs:∀ b,P b->b<H.size):Items P H v xs:=⟨SlE.keepBack h.1 k hs,h.2⟩
theorem zSG.back {F S:Nat->Prop}{H h4 h16:zAd}{a:zAct}{x:Value×Value}(h:zSG F h4 a x)(k:Keep (fun _=>False) H h4)(hs:∀ b,F b->b<H.size)(k2:Keep S H h16)(hs2:∀ b,F b->¬ S b):zSG F h16 a x :=
 ⟨h.1,(Items.keepBack h.2.1 k hs).keep k2 hs2,(Items.keepBack h.2.2.1 k hs).keep k2 hs2,h.2.2.2⟩
section
variable {p:Nat} {Fr Fc Fi:Nat->Prop} {H:zAd} {rs:List zAct} {ch:List (List UInt8)}
end
theorem zSH {P:Program}{e:TypeId}{n:Nat}{z:Array Value}{v:Value}(hn:P.cellsOf e=n)(h0:0<n)(h1:n<=16777216)(hz:zAB P e=some z)(hzs:z.size=n)(hv:v.cells.size=n):zFt P e 1 [(0,v)]=some v.cells:=by
 unfold zFt
 rw[hn,if_neg (by omega),hz,Option.bind_some,if_pos hzs]
 have hs:(zOZ z (1 * n)).size=n:=by simp[zOZ]
 have hspl:spl (zOZ z (1 * n)) (0 * n) v.cells=v.cells:=by
  unfold spl
  rw[Nat.zero_mul,Nat.zero_add,hv]
  apply Array.ext'
  have hs':(zOZ z n).size=n:=by simpa using hs
  simp[hs']
 simp only[zNV]
 rw[if_pos ⟨hv,by rw[hs];omega⟩,hspl]
section
variable {p:Nat} {Fr Fc Fi P:Nat->Prop} {H:zAd} {rs:List zAct} {ch:List (List UInt8)} {vb va:Value} {a:zAct}
end
def zAdK:List Nat:=List.replicate 32 0
theorem zAa9:eqK prg zAO = .flat zAdK:=by kernel_rfl
theorem zAdL {a b:List UInt8}(ha:a.length=32)(hb:b.length=32):zAh (eqK prg zAO) .neq (bv a) (bv b)=some (.bool (!decide (a=b))):=by
 unfold bv
 rw[zJU,zAa9]
 show(zA1 zAdK (zAy a).toArray.toList (zAy b).toArray.toList).map (fun b=>Value.bool (!b))=_
 have:=zLK (l:=a) (m:=b) (by omega)
 rw[ha]at this
 unfold zAdK
 rw[List.toList_toArray,List.toList_toArray,this];rfl
end Go.Proofs.YticdfkoncnnmmaaGreatDoor
