import Derived.Test.YticdfkoncnnmmaaGreatDoorH8
import Derived.Test.YticdfkoncnnmmaaGreatDoorG9
set_option linter.unusedSimpArgs false
set_option linter.unusedVariables false
set_option maxRecDepth 100000
namespace Go.Proofs.YticdfkoncnnmmaaGreatDoor
open Go.X Go.X.Diff Go.MapKept
structure zNs (P:Nat->Prop)(H:zAd)(v:Value)(mv:List MV):Prop where
 h:SlE 8 P H v (mv.map mvC)
 m:∀ x ∈ mv,zJJ P H x.1 x.2.1 x.2.2.1 x.2.2.2
 sm:∀ x ∈ mv,x.1.deps.length<=1000/\x.1.conf.length<=1000
theorem zNs.keep {P S:Nat->Prop}{H H':zAd}{v:Value}{mv:List MV}(h:zNs P H v mv)(k:Keep S H H')(hs:∀ b,P b->¬ S b):zNs P H' v mv:=⟨h.h.keep k hs,fun x hx=>(h.m x hx).keep k hs,h.sm⟩
theorem zNs.len {P:Nat->Prop}{H:zAd}{v:Value}{mv:List MV}(h:zNs P H v mv):zBO v=some (.int .i64 mv.length):=by have:=h.h.len;rwa [List.length_map]at this
theorem zNs.at {P:Nat->Prop}{H:zAd}{v:Value}{mv:List MV}(h:zNs P H v mv){i:Nat}{x:MV}(hx:mv[i]? = some x):zJJ P H x.1 x.2.1 x.2.2.1 x.2.2.2/\∃ b o,(∀ q,ixS 8 v (.int q i)=some (Ptr b o))/\Pt H b o (mvC x)/\P b :=
 ⟨h.m x (List.mem_of_getElem? hx),h.h.at (by rw[List.getElem?_map,hx];rfl)⟩
theorem zAhB {q r:Nat}:zA4 prg zGe [(0,.map (some q)),(1,.map (some r))]=some (.agg #[.map (some q),.map (some r)]):=by
 have k:zJT prg zGe=some ([(0,1),(1,1)],[Value.map none,Value.map none].toArray):=by kernel_rfl
 rw[zGf k];rfl
theorem zAbR {P:Nat->Prop}{H:zAd}{v:Value}{mv:List MV}(hp:zNs P H v mv)(hP:∀ b,P b->b<H.size)(hl:mv.length<=1000)(hO:zNR H) :
  zAg prg zNY [v] H fun u H'=>(∃ w,u = .tuple #[w,.int .i64 (zVt [] [] (zA7 mv))])/\Keep (fun _=>False) H H':=by
 apply zOD
 unfold zPP
 refine zUc ?_
 generalize hH1:H.push (.map #[] 0)=H1
 have k1:Keep (fun _=>False) H H1:=by rw[<- hH1];exact Keep.push
 have m1:zWB H1 H.size []:=by rw[<- hH1];exact zLX.new
 have s1:H1.size=H.size+1:=by rw[<- hH1];simp
 refine zUc ?_
 generalize hH2:H1.push (.map #[] 0)=H2
 have k2:Keep (fun _=>False) H1 H2:=by rw[<- hH2];exact Keep.push
 have m2:zAar H2 H1.size []:=by rw[<- hH2];exact zLX.new
 have s2:H2.size=H1.size+1:=by rw[<- hH2];simp
 rw[zAhB,zAa]
 simp only[zAN,zAs]
 generalize hH3:H2.push (.cells #[.map (some H.size),.map (some H1.size)] zGe (0,0))=H3
 have k3:Keep (fun _=>False) H2 H3:=by rw[<- hH3];exact Keep.push
 have a3:At H3 H2.size [.map (some H.size),.map (some H1.size)]:=by rw[<- hH3];exact At.push
 have k03:=(k1.trans k2).trans k3
 have g03:=k03.1
 have p3:zM7 [] [] H2.size H.size H1.size H3:=⟨a3,(m1.keep k2 id).keep k3 id,m2.keep k3 id,by omega⟩
 have hln:(zA7 mv).length=mv.length:=by simp
 let hv:=zA7 mv
 refine zL2 (fun _ h=>zVt [] [] hv=0/\Keep (fun _=>False) H h) (fun k4 hk4=>?_) ?_
 rotate_left
 ·rintro _ h ⟨e,k⟩
  exact⟨⟨_,by rw[show zVt [] [] (zA7 mv)=0 from e]⟩,k⟩
 rw[hp.len,zAa]
 refine zHU (fun w h=>∃ i:Nat,i<=mv.length/\w = .int .i64 (i:Nat)/\(∃ ps of,zM7 ps of H2.size H.size H1.size h/\zUr ps of/\of.length<=64 * i/\zVt [] [] hv=zVt ps of (hv.drop i))/\Keep (fun b=>b=H.size\/b=H1.size) H3 h) (fun w _=>match w with | .int _ t=>mv.length - t.toNat | _=>0) ⟨0,Nat.zero_le _,rfl,⟨[],[],p3,zUr.nil,Nat.le_refl _,rfl⟩,Keep.refl⟩ ?_
 rintro _ h7 ⟨i,hi,rfl,⟨ps,of,p7,hI,hol,he⟩,k7⟩ k6 hk6
 have g7:=k7.1
 have k07:Keep (fun _=>False) H h7:=k03.fresh k7 fun b hb=>by omega
 rw[zMs,zAa,zAc]
 by_cases hlt:i<mv.length
 rotate_left
 ·rw[if_neg (by simpa using hlt)]
  rw[List.drop_of_length_le (by show hv.length<=i;rw[show hv.length=mv.length from hln];omega)]at he
  exact hk4 _ _ ⟨by rw[he];rfl,k07⟩
 rw[if_pos (by simpa using hlt)]
 have hg:mv[i]? = some mv[i]:=List.getElem?_eq_getElem hlt
 have hm:=List.getElem_mem hlt
 have hdr:hv.drop i=mv[i].1 :: hv.drop (i+1):=by
  have h1:i<hv.length:=by rw[show hv.length=mv.length from hln];exact hlt
  rw[List.drop_eq_getElem_cons h1]
  congr 1
  simp[hv]
 have hp7:=hp.keep k07 fun _ _=>id
 generalize mv[i]=x at *
 obtain⟨hmx,b,o,hix,hpt,_⟩:=hp7.at hg
 have w:=hmx.wf
 have hsx:=hp.sm x hm
 rw[hix .i64,zAa,zKf hpt w,zAa]
 simp only[zKJ,zAs]
 generalize hH8:h7.push (.cells (zEN ⟨[],zB2,[],[],[]⟩ zAY zAY zAY).toArray zAb (0,0))=h8
 have k8:Keep (fun _=>False) h7 h8:=by rw[<- hH8];exact Keep.push
 have a8:At h8 h7.size (zEN ⟨[],zB2,[],[],[]⟩ zAY zAY zAY):=by rw[<- hH8];exact At.push
 obtain⟨h9,st9,a9,k9⟩:=a8.st (n:=8) (ds:=mvC x) (zAH zMt) (zAH w) (zF7 hmx)
 have k79:Keep (fun _=>False) h7 h9:=k8.fresh k9 fun b hb=>by omega
 rw[st9,zAm,a9.ldN (zAH w),zAa]
 have k09:=k07.trans k79
 refine zAk (zAbQ (P:=P) (p7.keep k79 fun _ _=>id) hI (by omega) (hmx.keep k79 fun _ _=>id) (fun b hb=>by have:=hP b hb;have:=k09.1;omega) (by omega) (by omega) (hO.keep k09 fun _ h=>h.elim)) ?_
 rintro _ h10 ⟨rfl,hq,k10⟩
 have k010:Keep (fun _=>False) H h10:=k09.fresh k10 fun b hb=>by omega
 rw[neI,zAa,zAc]
 have hee:zVt ps of (x.1 :: hv.drop (i+1))=if zFk ps of x.1=0 then zVt (ps++[x.1.name]) (zAaq of x.1) (hv.drop (i+1)) else zFk ps of x.1:=rfl
 rw[hdr,hee]at he
 by_cases h0:zFk ps of x.1=0
 ·rw[if_neg (by simp[h0]),zAG (by omega),zAa]
  rw[if_pos h0]at he
  refine hk6 _ _ ⟨i+1,by omega,rfl,⟨_,_,hq h0,hI.next h0,?_,he⟩,(k7.trans (k79.mono fun _ _ h=>h.elim)).trans k10⟩ (by show mv.length - (i+1)<mv.length - i;omega)
  obtain⟨f1,_,_⟩:=zKg (zWC h0).1
  unfold zAaq
  rw[List.length_append,List.length_map];omega
 ·rw[if_pos (by simp[h0])]
  rw[if_neg h0]at he
  exact⟨⟨_,by rw[show zVt [] [] (zA7 mv)=_ from he]⟩,k010⟩
theorem zAbS {H:zAd}{x y:MV}:zAg prg zDb [.agg (mvC x).toArray,.agg (mvC y).toArray] H fun u H'=>u = .int .i64 (zK6 x.1.name y.1.name)/\Keep (fun _=>False) H H':=by
 apply zNC
 unfold zNO
 simp only[zAN,zAs,zAx,Nat.zero_add,Nat.add_zero,zAa]
 generalize hH1:H.push (.cells (mvC x).toArray zAb (0,0))=H1
 have k1:Keep (fun _=>False) H H1:=by rw[<- hH1];exact Keep.push
 have a1:At H1 H.size (mvC x):=by rw[<- hH1];exact At.push
 generalize hH2:H1.push (.cells (mvC y).toArray zAb (0,0))=H2
 have k2:Keep (fun _=>False) H1 H2:=by rw[<- hH2];exact Keep.push
 have a2:At H2 H1.size (mvC y):=by rw[<- hH2];exact At.push
 rw[zBE (a1.keep k2 id),zAa,zBE a2,zAa]
 refine zAk zPR ?_
 rintro _ _ ⟨rfl,rfl⟩
 exact⟨rfl,k1.trans k2⟩
theorem zWF {H:zAd}{x y:MV}{k:Value->zAd->Prop}(hk:∀ h',Keep (fun _=>False) H h'->k (.int .i64 (zK6 x.1.name y.1.name)) h'):zBF prg (.func (.func zDb) #[] #[]) [.agg (mvC x).toArray,.agg (mvC y).toArray] H k :=
 .inl ⟨zDb,#[],#[],rfl,by kernel_rfl,zAg.mono (R:=fun u H'=>u = .int .i64 (zK6 x.1.name y.1.name)/\Keep (fun _=>False) H H') zAbS fun u h' hR=>by obtain⟨rfl,k'⟩:=hR;exact hk h' k'⟩
def zQ8 (hv:List Man)(i:Nat):Bool:=decide (i=0) || !decide (zK6 (gM hv i).name (gM hv (i - 1)).name<0)
def zAe3 (hv:List Man):Bool:=(List.range hv.length).all (zQ8 hv)
def zG5 (hv:List Man):Bool:=decide (zVt [] [] hv=0) && zAe3 hv
theorem zAil {x:Int}(h1 : -9223372036854775807<=x)(h2:x<=9223372036854775807):zAh .no .sub (.int .i64 x) (.int .i64 1)=some (.int .i64 (x - 1)):=by
 rw[zAi];simp only[zA9];rw[zAM (by omega) (by omega)]
theorem zXz {P:Nat->Prop}{H:zAd}{v:Value}{mv:List MV}(hp:zNs P H v mv)(hl:mv.length<=1000) :
  zAg prg zA0 [v,.func (.func zDb) #[] #[]] H fun u H'=>u = .bool (zAe3 (zA7 mv))/\Keep (fun _=>False) H H':=by
 apply zB0
 unfold zBf
 have hln:(zA7 mv).length=mv.length:=by simp
 refine zL2 (fun _ h=>zAe3 (zA7 mv)=true/\Keep (fun _=>False) H h) (fun k1 hk1=>?_) ?_
 rotate_left
 ·rintro _ h ⟨e,k⟩
  exact⟨by rw[e],k⟩
 rw[hp.len,zAa,zAil (by omega) (by omega),zAa]
 refine zHU (fun w h=>∃ n:Nat,n<=mv.length/\w = .int .i64 ((n:Nat) - 1)/\(∀ j,n<=j->j<mv.length->zQ8 (zA7 mv) j=true)/\Keep (fun _=>False) H h) (fun w _=>match w with | .int _ t=>(t+1).toNat | _=>0) ⟨mv.length,Nat.le_refl _,rfl,fun j h1 h2=>by omega,Keep.refl⟩ ?_
 rintro _ h ⟨n,hn,rfl,hall,kh⟩ k3 hk3
 rw[gtI,zAa,zAc]
 by_cases h2:2<=n
 rotate_left
 ·rw[if_neg (by simp;omega)]
  refine hk1 _ _ ⟨?_,kh⟩
  unfold zAe3
  rw[List.all_eq_true]
  intro j hj
  have hj':j<mv.length:=by rw[<- hln];exact List.mem_range.1 hj
  by_cases h0:j=0
  ·subst h0;rfl
  ·exact hall j (by omega) hj'
 rw[if_pos (by simp;omega)]
 obtain⟨i,rfl⟩:∃ i,n=i+2:=⟨n - 2,by omega⟩
 have e1:(((i+2:Nat):Int) - 1)=((i+1:Nat):Int):=by omega
 have e2:(((i+1:Nat):Int) - 1)=((i:Nat):Int):=by omega
 have hg:mv[i+1]? = some (mv[i+1]'(by omega)):=List.getElem?_eq_getElem (by omega)
 have hg':mv[i]? = some (mv[i]'(by omega)):=List.getElem?_eq_getElem (by omega)
 generalize mv[i+1]'(by omega)=x at *
 generalize mv[i]'(by omega)=y at *
 have hph:=hp.keep kh fun _ _=>id
 obtain⟨hmx,b,o,hix,hpt,_⟩:=hph.at hg
 obtain⟨hmy,b',o',hix',hpt',_⟩:=hph.at hg'
 rw[e1,hix .i64,zAa,zKf hpt hmx.wf,zAa,zAil (by omega) (by omega),zAa,e2,hix' .i64,zAa,zKf hpt' hmy.wf,zAa]
 refine zWF fun h5 k5=>?_
 rw[ltI,zAa,zAc]
 have hnd:zQ8 (zA7 mv) (i+1) = !decide (zK6 x.1.name y.1.name<0):=by
  unfold zQ8
  rw[zZd hg,Nat.add_sub_cancel,zZd hg',decide_eq_false (by omega),Bool.false_or]
 cases hc:decide (zK6 x.1.name y.1.name<0)
 ·rw[if_neg (by decide),zAa]
  refine hk3 _ _ ⟨i+1,by omega,by rw[e2],fun j h1 h2=>?_,kh.trans k5⟩ (by show((i:Int)+1).toNat<(((i+2:Nat):Int) - 1+1).toNat;omega)
  by_cases e:j=i+1
  ·subst e;rw[hnd,hc];rfl
  ·exact hall j (by omega) h2
 ·rw[if_pos rfl]
  refine⟨?_,kh.trans k5⟩
  have:zAe3 (zA7 mv)=false:=zOU (i:=i+1) (by rw[hln];omega) (by rw[hnd,hc];rfl)
  rw[this]
theorem zQ9 {P:Nat->Prop}{H:zAd}{v:Value}{mv:List MV}(hp:zNs P H v mv)(hP:∀ b,P b->b<H.size)(hl:mv.length<=1000)(hO:zNR H) :
  zAg prg zKv [v] H fun u H'=>u = .bool (zG5 (zA7 mv))/\Keep (fun _=>False) H H':=by
 apply zN2
 unfold zOA
 refine zAk (zAbR hp hP hl hO) ?_
 rintro _ h1 ⟨⟨w,rfl⟩,k1⟩
 have x0:∀ a b:Value,zDy 0 (.tuple #[a,b])=some a:=fun _ _=>rfl
 have x1:∀ a b:Value,zDy 1 (.tuple #[a,b])=some b:=fun _ _=>rfl
 rw[x0,zAa,x1,zAa,eqI,zAa]
 unfold zG5
 by_cases h0:zVt [] [] (zA7 mv)=0
 ·rw[decide_eq_true h0,Bool.true_and]
  refine zBM rfl ?_
  refine zAk (zXz (hp.keep k1 fun _ _=>id) hl) ?_
  rintro _ h3 ⟨rfl,k3⟩
  rw[zAe,if_pos rfl,zAa]
  exact⟨rfl,k1.trans k3⟩
 ·rw[decide_eq_false h0,Bool.false_and]
  refine zJe (by decide) ?_
  show Mpu (zAC (.bool false) undef (.bool false)) _
  rw[zAe,if_neg (by decide),zAa]
  exact⟨rfl,k1⟩
end Go.Proofs.YticdfkoncnnmmaaGreatDoor
namespace Go.X
def zRo {α:Type}(p:α->Bool):List α->Nat->Int
 | [],_ => -1
 | x :: l,k=>if p x then (k:Int) else zRo p l (k+1)
theorem zUs {α:Type}{p:α->Bool}:∀ {l:List α} {k:Nat},(zRo p l k = -1/\∀ x ∈ l,p x=false)\/∃ (i:Nat) (x:α),zRo p l k=((k+i:Nat):Int)/\l[i]? = some x/\p x=true/\∀ y ∈ l.take i,p y=false
 | [],k => .inl ⟨rfl,fun x h=>by cases h⟩
 | x :: l,k=>by
  unfold zRo
  cases h:p x
  ·rw[if_neg (by decide)]
   rcases zUs (p:=p) (l:=l) (k:=k+1) with ⟨h1,h2⟩ | ⟨i,y,h1,h2,h3,h4⟩
   ·exact .inl ⟨h1,fun y hy=>by
     rcases List.mem_cons.1 hy with rfl | hy
     ·exact h
     ·exact h2 y hy⟩
   ·refine .inr ⟨i+1,y,by rw[h1];omega,h2,h3,fun z hz=>?_⟩
    rw[List.take_succ_cons]at hz
    rcases List.mem_cons.1 hz with rfl | hz
    ·exact h
    ·exact h4 z hz
  ·exact .inr ⟨0,x,by rw[if_pos rfl];rfl,rfl,h,fun y hy=>by cases hy⟩
def zAcS (P:Program)(n:Nat)(t0 t1:Value)(H:zAd)(R:Value->zAd->Prop):Prop :=
 J1 (fun k1=>Mpu (zBO t0) fun t7=>L1 (fun k3=>fun t8 h4=>Mpu (zAh .no .lss t8 t7) fun t9=>Mcd t9 (
  Mpu (ixS n t0 t8) fun t14=>Mpu (ldN n h4 t14) fun t15=>zBF P t1 [t15] h4 fun t16 h5=>Mcd t16 (R t8 h5) (
   Mpu (zAh .no .add t8 (.int .i64 1)) fun t18=>k3 t18 h5)) (k1 t8 h4)) ((.int .i64 0)) H) fun _ h2=>R (.int .i64 (-1)) h2
def zAcT (n:Nat)(K:EqK)(t0 t1:Value)(H:zAd)(R:Value->zAd->Prop):Prop :=
 Mpu (zBO t0) fun t7=>Mpu (zBO t1) fun t9=>Mpu (zAh .no .neq t7 t9) fun t10=>Mcd t10 (R (.bool false) H) (
  J1 (fun k1=>Mpu (zBO t0) fun t12=>L1 (fun k3=>fun t13 h4=>Mpu (zAh .no .lss t13 t12) fun t14=>Mcd t14 (
   Mpu (ixS n t0 t13) fun t18=>Mpu (ldN n h4 t18) fun t19=>Mpu (ixS n t1 t13) fun t22=>Mpu (ldN n h4 t22) fun t23=>Mpu (zAh K .neq t19 t23) fun t24=>Mcd t24 (R (.bool false) h4) (
    Mpu (zAh .no .add t13 (.int .i64 1)) fun t25=>k3 t25 h4)) (k1 t13 h4)) ((.int .i64 0)) H) fun _ h2=>R (.bool true) h2)
def zAcU (P:Program)(T:TypeId)(n sz:Nat)(t0:Value)(H:zAd)(R:Value->zAd->Prop):Prop :=
 Mpu (zAh .slc .eql t0 (.slice none 0 0)) fun t4=>Mcd t4 (R (.slice none 0 0) H) (zC5 H T 0 (zFt P T 0 []) fun t5 h1=>zIV T n sz h1 t5 t0 fun t7 h2=>R t7 h2)
end Go.X
namespace Go.Proofs.YticdfkoncnnmmaaGreatDoor
open Go.X Go.X.Diff Go.MapKept
def zAim {α:Type}(enc:α->List Value)(fv:Value)(xs:List α)(del:α->Bool)(G:zAd->Prop):Prop:=∀ (x:α) (h:zAd),x ∈ xs->G h->zBF prg fv [.agg (enc x).toArray] h fun u h'=>u = .bool (del x)/\Keep (fun _=>False) h h'
theorem zZP {α:Type}{enc:α->List Value}{n:Nat}{G:zAd->Prop}{P:Nat->Prop}{H:zAd}{v fv:Value}{xs:List α}{del:α->Bool}(hv:SlE n P H v (xs.map enc))(hd:zAim enc fv xs del G)(hG:∀ h,Keep (fun _=>False) H h->G h)(hl:xs.length<=1099511627776) :
  zAcS prg n v fv H fun u H'=>u = .int .i64 (zRo del xs 0)/\Keep (fun _=>False) H H':=by
 unfold zAcS
 have hlen:=hv.len
 rw[List.length_map]at hlen
 refine zL2 (fun _ h=>zRo del xs 0 = -1/\Keep (fun _=>False) H h) (fun k1 hk1=>?_) ?_
 rotate_left
 ·rintro _ h ⟨e,k⟩
  exact⟨by rw[e],k⟩
 rw[hlen,zAa]
 refine zHU (fun u h=>∃ i:Nat,i<=xs.length/\u = .int .i64 (i:Nat)/\zRo del xs 0=zRo del (xs.drop i) i/\Keep (fun _=>False) H h) (fun u _=>match u with | .int _ t=>xs.length - t.toNat | _=>0) ⟨0,Nat.zero_le _,rfl,rfl,Keep.refl⟩ ?_
 rintro _ h ⟨i,hi,rfl,he,kh⟩ k hk
 rw[zMs,zAa,zAc]
 by_cases hlt:i<xs.length
 rotate_left
 ·rw[if_neg (by simpa using hlt)]
  rw[List.drop_of_length_le (by omega)]at he
  exact hk1 _ _ ⟨by rw[he];rfl,kh⟩
 rw[if_pos (by simpa using hlt)]
 have hg:xs[i]? = some xs[i]:=List.getElem?_eq_getElem hlt
 have hm:=List.getElem_mem hlt
 rw[List.drop_eq_getElem_cons hlt]at he
 generalize xs[i]=x at *
 have hx:(xs.map enc)[i]? = some (enc x):=by rw[List.getElem?_map,hg];rfl
 obtain⟨b,o,hix,hpt,_⟩:=(hv.keep kh fun _ _=>id).at hx
 rw[hix .i64,zAa,hpt.agg (hv.el _ (List.mem_of_getElem? hx)),zAa]
 refine(hd x h hm (hG h kh)).mono ?_
 rintro _ h5 ⟨rfl,k5⟩
 rw[zAc]
 rw[show zRo del (x :: xs.drop (i+1)) i=if del x then (i:Int) else zRo del (xs.drop (i+1)) (i+1) from rfl]at he
 cases hdx:del x
 ·rw[if_neg (by decide),zAG (by omega),zAa]
  rw[hdx,if_neg (by decide)]at he
  exact hk _ _ ⟨i+1,by omega,rfl,he,kh.trans k5⟩ (by show xs.length - (i+1)<xs.length - i;omega)
 ·rw[if_pos rfl]
  rw[hdx,if_pos rfl]at he
  exact⟨by rw[he],kh.trans k5⟩
theorem zZQ {α:Type}[DecidableEq α]{enc:α->List Value}{n:Nat}{K:EqK}{P Q:Nat->Prop}{H:zAd}{v w:Value}{xs ys:List α}(hv:SlE n P H v (xs.map enc))(hw:SlE n Q H w (ys.map enc))
  (hne:∀ x ∈ xs,∀ y ∈ ys,zAh K .neq (.agg (enc x).toArray) (.agg (enc y).toArray)=some (.bool (!decide (x=y)))) (hl:xs.length<=1099511627776):zAcT n K v w H fun u H'=>u = .bool (decide (xs=ys))/\H=H':=by
 unfold zAcT
 have h1:=hv.len
 have h2:=hw.len
 rw[List.length_map]at h1 h2
 rw[h1,zAa,h2,zAa,zAia,zAa,zAc]
 by_cases hle:xs.length=ys.length
 rotate_left
 ·rw[if_pos (by simpa using hle)]
  exact⟨by rw[decide_eq_false fun e=>hle (by rw[e])],rfl⟩
 rw[if_neg (by simpa using hle)]
 refine zL2 (fun _ h=>xs=ys/\H=h) (fun k1 hk1=>?_) ?_
 rotate_left
 ·rintro _ h ⟨e,rfl⟩
  exact⟨by rw[decide_eq_true e],rfl⟩
 rw[zAa]
 refine zHU (fun u h=>∃ i:Nat,i<=xs.length/\u = .int .i64 (i:Nat)/\xs.take i=ys.take i/\H=h) (fun u _=>match u with | .int _ t=>xs.length - t.toNat | _=>0) ⟨0,Nat.zero_le _,rfl,rfl,rfl⟩ ?_
 rintro _ _ ⟨i,hi,rfl,he,rfl⟩ k hk
 rw[zMs,zAa,zAc]
 by_cases hlt:i<xs.length
 rotate_left
 ·rw[if_neg (by simpa using hlt)]
  rw[List.take_of_length_le (by omega),List.take_of_length_le (by omega)]at he
  exact hk1 _ _ ⟨he,rfl⟩
 rw[if_pos (by simpa using hlt)]
 have hg:xs[i]? = some xs[i]:=List.getElem?_eq_getElem hlt
 have hg':ys[i]? = some (ys[i]'(by omega)):=List.getElem?_eq_getElem (by omega)
 have hm:=List.getElem_mem hlt
 have hm':=List.getElem_mem (show i<ys.length by omega)
 generalize xs[i]=x at *
 generalize ys[i]'(by omega)=y at *
 have hx:(xs.map enc)[i]? = some (enc x):=by rw[List.getElem?_map,hg];rfl
 have hy:(ys.map enc)[i]? = some (enc y):=by rw[List.getElem?_map,hg'];rfl
 obtain⟨b,o,hix,hpt,_⟩:=hv.at hx
 obtain⟨b',o',hix',hpt',_⟩:=hw.at hy
 rw[hix .i64,zAa,hpt.agg (hv.el _ (List.mem_of_getElem? hx)),zAa,hix' .i64,zAa,hpt'.agg (hw.el _ (List.mem_of_getElem? hy)),zAa,hne x hm y hm',zAa,zAc]
 by_cases e:x=y
 ·rw[if_neg (by simp[e]),zAG (by omega),zAa]
  refine hk _ _ ⟨i+1,by omega,rfl,by rw[List.take_add_one,List.take_add_one,he,hg,hg',e],rfl⟩ (by show xs.length - (i+1)<xs.length - i;omega)
 ·rw[if_pos (by simp[e])]
  refine⟨?_,rfl⟩
  rw[decide_eq_false]
  rintro rfl
  rw[hg]at hg'
  exact e (Option.some.inj hg')
theorem zZR {n sz:Nat}{T:TypeId}{P:Nat->Prop}{H:zAd}{v:Value}{xs:List (List Value)}(b0:zFt prg T 0 []=some #[])(hv:SlE n P H v xs)(hs:0<sz)(hl:xs.length * sz<=140737488355328) :
  zAcU prg T n sz v H fun u H'=>BufE n (fun b=>H.size<=b/\b<H'.size) H' u xs/\Keep (fun _=>False) H H':=by
 unfold zAcU
 obtain⟨⟨a,c,rfl,hc,hx⟩,h2,h3⟩:=hv
 cases a with
 | none =>
  have hnil:xs=[]:=by
   rcases hx with h | ⟨b,o,h,_⟩
   ·exact h
   ·cases h
  have e:zAh .slc .eql (.slice none xs.length c) (.slice none 0 0)=some (.bool true):=rfl
  rw[e,zAa,zAc,if_pos rfl,hnil]
  exact⟨BufE.nil,Keep.refl⟩
 | some a =>
  have e:zAh .slc .eql (.slice (some a) xs.length c) (.slice none 0 0)=some (.bool false):=rfl
  rw[e,zAa,zAc,if_neg (by decide),b0,zAV]
  generalize hH1:H.push (.cells #[] T (0,0))=H1
  have k1:Keep (fun _=>False) H H1:=by rw[<- hH1];exact Keep.push
  have n1:H1[H.size]? = some (.cells #[] T (0,0)):=by rw[<- hH1];exact zAR
  have hb:BufE n (H.size <= ·) H1 (.slice (some ⟨H.size,0,none⟩) 0 0) []:=BufE.fresh (cs:=[]) ⟨H.size,rfl,Nat.le_refl _,n1⟩ (Nat.le_refl _) (by simp) (fun _ _=>by simp[zRB]) (by simp) (fun x h=>by cases h) (fun x h=>by cases h)
  have hv1:SlE n P H1 (.slice (some a) xs.length c) xs:=SlE.keep ⟨⟨_,c,rfl,hc,hx⟩,h2,h3⟩ k1 fun _ _=>id
  refine hb.app hv1 hs (by simpa using hl) (by have:=k1.1;show H.size<=H1.size;omega) fun u h2' hu k2=>?_
  rw[List.nil_append]at hu
  have k02:=k1.fresh k2 fun b hb=>hb
  exact⟨BufE.re hu fun b hb hF=>⟨hF,hb⟩,k02⟩
theorem zSc {P:Nat->Prop}{H:zAd}{v:Value}{xs:List (List Value)}(hv:SlE 8 P H v xs)(hl:xs.length<=1000000):zAg prg zAT [v] H fun u H'=>BufE 8 (fun b=>H.size<=b/\b<H'.size) H' u xs/\Keep (fun _=>False) H H' :=
 zCE (zZR (T:=zAb) (sz:=128) (by kernel_rfl) hv (by omega) (by omega))
theorem zVv {P:Nat->Prop}{H:zAd}{v:Value}{xs:List (List Value)}(hv:SlE 34 P H v xs)(hl:xs.length<=1000000):zAg prg zBl [v] H fun u H'=>BufE 34 (fun b=>H.size<=b/\b<H'.size) H' u xs/\Keep (fun _=>False) H H' :=
 zDw (zZR (T:=zAu) (sz:=56) (by kernel_rfl) hv (by omega) (by omega))
theorem zXA {G:zAd->Prop}{P:Nat->Prop}{H:zAd}{v fv:Value}{xs:List MV}{del:MV->Bool}(hv:SlE 8 P H v (xs.map mvC))(hd:zAim mvC fv xs del G)(hG:∀ h,Keep (fun _=>False) H h->G h)(hl:xs.length<=1099511627776) :
  zAg prg zAQ [v,fv] H fun u H'=>u = .int .i64 (zRo del xs 0)/\Keep (fun _=>False) H H' :=
 zBc (zZP hv hd hG hl)
instance:DecidableEq Dep:=fun a b=>decidable_of_iff (a.name=b.name/\a.want=b.want) (by cases a;cases b;simp)
instance:DecidableEq zE8:=fun a b=>decidable_of_iff (a.name=b.name/\a.sum=b.sum/\a.size=b.size) (by cases a;cases b;simp)
theorem zAhC {x y:Dep}(hx:x.wf)(hy:y.wf):zAh (eqK prg zAj) .neq (.agg (zDa x).toArray) (.agg (zDa y).toArray)=some (.bool (!decide (x=y))):=by
 have q:eqK prg zAj = .flat ([2]++([2]++zXN)):=by kernel_rfl
 rw[zJU,q]
 show(zA1 ([2]++([2]++zXN)) (zDa x).toArray.toList (zDa y).toArray.toList).map (fun b=>Value.bool (!b))=_
 have h1:=zEK (k1:=[2]) (a1:=[str x.want.op]) (b1:=[str y.want.op]) rfl rfl zGP (zSQ hx.want.ver hy.want.ver)
 have h2:=zEK (k1:=[2]) (a1:=[str x.name]) (b1:=[str y.name]) rfl rfl zGP h1
 rw[List.toList_toArray,List.toList_toArray,show zDa x=[str x.name]++([str x.want.op]++zCt x.want.ver) from rfl,show zDa y=[str y.name]++([str y.want.op]++zCt y.want.ver) from rfl,h2]
 obtain⟨n,⟨o,v⟩⟩:=x
 obtain⟨n',⟨o',v'⟩⟩:=y
 simp
theorem zAgg {x y:zE8}(hx:x.wf)(hy:y.wf):zAh (eqK prg zAu) .neq (.agg (zB9 x).toArray) (.agg (zB9 y).toArray)=some (.bool (!decide (x=y))):=by
 have q:eqK prg zAu = .flat ([2]++(List.replicate 32 0++[0])):=by kernel_rfl
 rw[zJU,q]
 show(zA1 ([2]++(List.replicate 32 0++[0])) (zB9 x).toArray.toList (zB9 y).toArray.toList).map (fun b=>Value.bool (!b))=_
 have hs:zA1 (List.replicate 32 0) (zAy x.sum) (zAy y.sum)=some (decide (x.sum=y.sum)):=by
  have:=zLK (l:=x.sum) (m:=y.sum) (by rw[hx.sum,hy.sum])
  rwa [hx.sum]at this
 have hz:zA1 [0] [.int .i64 x.size] [.int .i64 y.size]=some (decide (x.size=y.size)):=by
  have:=zM0 (k := .i64) (l:=[x.size]) (m:=[y.size]) rfl
  simpa [zAP] using this
 have h1:=zEK (k1:=List.replicate 32 0) (k2:=[0]) (a1:=zAy x.sum) (b1:=zAy y.sum) (by simp[hx.sum]) (by simp[hy.sum]) hs hz
 have h2:=zEK (k1:=[2]) (a1:=[str x.name]) (b1:=[str y.name]) rfl rfl zGP h1
 rw[List.toList_toArray,List.toList_toArray,show zB9 x=[str x.name]++(zAy x.sum++[.int .i64 x.size]) from rfl,show zB9 y=[str y.name]++(zAy y.sum++[.int .i64 y.size]) from rfl,h2]
 obtain⟨n,s,z⟩:=x
 obtain⟨n',s',z'⟩:=y
 simp
theorem zZS {P Q:Nat->Prop}{H:zAd}{v w:Value}{xs ys:List Dep}(hv:SlE 6 P H v (xs.map zDa))(hw:SlE 6 Q H w (ys.map zDa))(hx:∀ x ∈ xs,x.wf)(hy:∀ y ∈ ys,y.wf)(hl:xs.length<=1099511627776) :
  zAg prg zA6 [v,w] H fun u H'=>u = .bool (decide (xs=ys))/\H=H' :=
 zDJ (zZQ hv hw (fun x h y g=>zAhC (hx x h) (hy y g)) hl)
theorem zAbT {P Q:Nat->Prop}{H:zAd}{v w:Value}{xs ys:List zE8}(hv:SlE 34 P H v (xs.map zB9))(hw:SlE 34 Q H w (ys.map zB9))(hx:∀ x ∈ xs,x.wf)(hy:∀ y ∈ ys,y.wf)(hl:xs.length<=1099511627776) :
  zAg prg zBk [v,w] H fun u H'=>u = .bool (decide (xs=ys))/\H=H' :=
 zDv (zZQ hv hw (fun x h y g=>zAgg (hx x h) (hy y g)) hl)
def zS5 (x y:Man):Bool:=decide (x.name=y.name) && decide (x.ver=y.ver) && decide (x.deps=y.deps) && decide (x.conf=y.conf) && decide (x.files=y.files)
set_option maxHeartbeats 1000000 in
theorem zSd {P Q:Nat->Prop}{H:zAd}{x y:MV}(hx:zJJ P H x.1 x.2.1 x.2.2.1 x.2.2.2)(hy:zJJ Q H y.1 y.2.1 y.2.2.1 y.2.2.2)(hd:x.1.deps.length<=1099511627776)(hc:x.1.conf.length<=1099511627776)(hf:x.1.files.length<=1099511627776) :
  zAg prg zCG [.agg (mvC x).toArray,.agg (mvC y).toArray] H fun u H'=>u = .bool (zS5 x.1 y.1)/\Keep (fun _=>False) H H':=by
 apply zHO
 unfold zFU
 simp only[zAN,zAs,zAx,Nat.zero_add,Nat.add_zero,zAa]
 generalize hH1:H.push (.cells (mvC x).toArray zAb (0,0))=H1
 have k1:Keep (fun _=>False) H H1:=by rw[<- hH1];exact Keep.push
 have a1:At H1 H.size (mvC x):=by rw[<- hH1];exact At.push
 generalize hH2:H1.push (.cells (mvC y).toArray zAb (0,0))=H2
 have k2:Keep (fun _=>False) H1 H2:=by rw[<- hH2];exact Keep.push
 have a2:At H2 H1.size (mvC y):=by rw[<- hH2];exact At.push
 have a1':=a1.keep k2 id
 have k02:=k1.trans k2
 have wx:=hx.wf
 have wy:=hy.wf
 have hx2:=hx.keep k02 fun _ _=>id
 have hy2:=hy.keep k02 fun _ _=>id
 obtain⟨g5,g6,g7⟩:=zE9 a1' wx
 obtain⟨g5',g6',g7'⟩:=zE9 a2 wy
 unfold zS5
 rw[zBE a1',zAa,zBE a2,zAa,zBX,zAa]
 cases q1:decide (x.1.name=y.1.name)
 ·simp only[zAF,zAl,Bool.false_eq_true,if_false,zAe,zAa,Bool.false_and]
  exact⟨by trivial,k02⟩
 refine zBM rfl ?_
 rw[zFK a1' wx,zAa,zFK a2 wy,zAa,zAbm wx.ver wy.ver,zAa]
 show Mpu (zAC (.bool true) (.bool (decide (x.1.ver=y.1.ver))) (.bool false)) _
 rw[zAe,if_pos rfl,zAa]
 cases q2:decide (x.1.ver=y.1.ver)
 ·simp only[zAF,zAl,Bool.false_eq_true,if_false,zAe,zAa,Bool.false_and,Bool.and_false]
  exact⟨by trivial,k02⟩
 refine zBM rfl ?_
 rw[g5,zAa,g5',zAa]
 refine zAk (zZS hx2.d hy2.d wx.deps wy.deps hd) ?_
 rintro _ _ ⟨rfl,rfl⟩
 rw[zAe,if_pos rfl,zAa]
 cases q3:decide (x.1.deps=y.1.deps)
 ·simp only[zAF,zAl,Bool.false_eq_true,if_false,zAe,zAa,Bool.false_and,Bool.and_false]
  exact⟨by trivial,k02⟩
 refine zBM rfl ?_
 rw[g6,zAa,g6',zAa]
 refine zAk (zZS hx2.c hy2.c wx.conf wy.conf hc) ?_
 rintro _ _ ⟨rfl,rfl⟩
 rw[zAe,if_pos rfl,zAa]
 cases q4:decide (x.1.conf=y.1.conf)
 ·simp only[zAF,zAl,Bool.false_eq_true,if_false,zAe,zAa,Bool.false_and,Bool.and_false]
  exact⟨by trivial,k02⟩
 refine zBM rfl ?_
 rw[g7,zAa,g7',zAa]
 refine zAk (zAbT hx2.f hy2.f wx.files wy.files hf) ?_
 rintro _ _ ⟨rfl,rfl⟩
 rw[zAe,if_pos rfl,zAa]
 exact⟨by simp,k02⟩
end Go.Proofs.YticdfkoncnnmmaaGreatDoor
