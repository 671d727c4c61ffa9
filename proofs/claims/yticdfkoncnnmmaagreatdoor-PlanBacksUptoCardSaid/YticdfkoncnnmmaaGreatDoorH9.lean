import Derived.Test.YticdfkoncnnmmaaGreatDoorH7
import Derived.Test.YticdfkoncnnmmaaGreatDoorG9
import Derived.Test.YticdfkoncnnmmaaGreatDoorG1
set_option linter.unusedSimpArgs false
set_option linter.unusedVariables false
set_option maxRecDepth 100000
namespace Go.Proofs.YticdfkoncnnmmaaGreatDoor
open Go.X Go.X.Diff Go.MapKept
structure zLB (P:zA1)(H:zAx)(v:Value)(mv:List MV):Prop where
 h:SlE 8 P H v (mv.map mvC)
 m:∀ x∈mv,zLd P H x.1 x.2.1 x.2.2.1 x.2.2.2
 sm:∀ x∈mv,x.1.deps.length<=1000/\x.1.conf.length<=1000
theorem zLB.keep {P S:zA1}{H H':zAx}{v:Value}{mv:List MV}(h:zLB P H v mv)(k:Keep S H H')(hs:∀ b,P b->¬ S b):zLB P H' v mv:=⟨h.h.keep k hs,λx hx=>(h.m x hx).keep k hs,h.sm⟩
theorem zLB.len {P:zA1}{H:zAx}{v:Value}{mv:List MV}(h:zLB P H v mv):lenV v=some (.int .i64 mv.length):=by have:=h.h.len;rwa [zAd]at this
theorem zLB.at {P:zA1}{H:zAx}{v:Value}{mv:List MV}(h:zLB P H v mv){i:Nat}{x:MV}(hx:mv[i]? = some x):zLd P H x.1 x.2.1 x.2.2.1 x.2.2.2/\∃ b o,(∀ q,ixS 8 v (.int q i)=some (Ptr b o))/\Pt H b o (mvC x)/\P b :=
 ⟨h.m x (zAC hx),h.h.at (by rw[zAq,hx];rfl)⟩
theorem zAmp {q r:Nat}:zCM prg zID [(0,.map (some q)),(1,.map (some r))]=some (.agg #[.map (some q),.map (some r)]):=by
 have k:zLM prg zID=some ([(0,1),(1,1)],[Value.map none,Value.map none].toArray):=by kernel_rfl
 rw[zHZ k];rfl
theorem zAaF {P:zA1}{H:zAx}{v:Value}{mv:List MV}(hp:zLB P H v mv)(hP:∀ b,P b->b<H.size)(hl:mv.length<=1000)(hO:zQW H) :
  zAA prg zOz [v] H λu H'=>(∃ w,u = .tuple #[w,.int .i64 (zW2 [] [] (zCi mv))])/\Keep zAK H H':=by
 apply zRR
 unfold zTk
 refine zXW ?_
 generalize hH1:H.push (.map #[] 0)=H1
 have k1:Keep zAK H H1:=by rw[<- hH1];exact Keep.push
 have m1:zAaC H1 H.size []:=by rw[<- hH1];exact zOS.new
 have s1:H1.size=H.size+1:=by rw[<- hH1];simp
 refine zXW ?_
 generalize hH2:H1.push (.map #[] 0)=H2
 have k2:Keep zAK H1 H2:=by rw[<- hH2];exact Keep.push
 have m2:zAew H2 H1.size []:=by rw[<- hH2];exact zOS.new
 have s2:H2.size=H1.size+1:=by rw[<- hH2];simp
 rw[zAmp,zAa]
 simp only[zB8,zBb]
 generalize hH3:H2.push (.cells #[.map (some H.size),.map (some H1.size)] zID (0,0))=H3
 have k3:Keep zAK H2 H3:=by rw[<- hH3];exact Keep.push
 have a3:At H3 H2.size [.map (some H.size),.map (some H1.size)]:=by rw[<- hH3];exact At.push
 have k03:=(k1.trans k2).trans k3
 have g03:=k03.1
 have p3:zP6 [] [] H2.size H.size H1.size H3:=⟨a3,(m1.keep k2 id).keep k3 id,m2.keep k3 id,by omega⟩
 have hln:(zCi mv).length=mv.length:=by simp
 let hv:=zCi mv
 refine zOt (λ_ h=>zW2 [] [] hv=0/\Keep zAK H h) (λk4 hk4=>?_) ?_
 rotate_left
 ·rintro _ h ⟨e,k⟩
  exact⟨⟨_,by rw[show zW2 [] [] (zCi mv)=0 from e]⟩,k⟩
 rw[hp.len,zAa]
 refine zKj (λw h=>∃ i:Nat,i<=mv.length/\w = .int .i64 (i:Nat)/\(∃ ps of,zP6 ps of H2.size H.size H1.size h/\zYc ps of/\of.length<=64*i/\zW2 [] [] hv=zW2 ps of (hv.drop i))/\Keep (λb=>b=H.size\/b=H1.size) H3 h) (λw _=>match w with | .int _ t=>mv.length-t.toNat|_=>0) ⟨0,zAz _,rfl,⟨[],[],p3,zYc.nil,zAh _,rfl⟩,Keep.refl⟩ ?_
 rintro _ h7 ⟨i,hi,rfl,⟨ps,of,p7,hI,hol,he⟩,k7⟩ k6 hk6
 have g7:=k7.1
 have k07:Keep zAK H h7:=k03.fresh k7 λb hb=>by omega
 rw[zNZ,zAa,zAl]
 by_cases hlt:i<mv.length
 rotate_left
 ·rw[if_neg (by simpa using hlt)]
  rw[List.drop_of_length_le (by show hv.length<=i;rw[show hv.length=mv.length from hln];omega)]at he
  exact hk4 _ _ ⟨by rw[he];rfl,k07⟩
 rw[if_pos (by simpa using hlt)]
 have hg:mv[i]? = some mv[i]:=zAj hlt
 have hm:=zAH hlt
 have hdr:hv.drop i=mv[i].1::hv.drop (i+1):=by
  have h1:i<hv.length:=by rw[show hv.length=mv.length from hln];exact hlt
  rw[zBU h1]
  congr 1
  simp[hv]
 have hp7:=hp.keep k07 λ_ _=>id
 generalize mv[i]=x at *
 obtain⟨hmx,b,o,hix,hpt,_⟩:=hp7.at hg
 have w:=hmx.wf
 have hsx:=hp.sm x hm
 rw[hix .i64,zAa,zM7 hpt w,zAa]
 simp only[zL8,zBb]
 generalize hH8:h7.push (.cells (zGN ⟨[],zEc,[],[],[]⟩ zCn zCn zCn).toArray zAe (0,0))=h8
 have k8:Keep zAK h7 h8:=by rw[<- hH8];exact Keep.push
 have a8:At h8 h7.size (zGN ⟨[],zEc,[],[],[]⟩ zCn zCn zCn):=by rw[<- hH8];exact At.push
 obtain⟨h9,st9,a9,k9⟩:=a8.st (n:=8) (ds:=mvC x) (zBB zOr) (zBB w) (zFP hmx)
 have k79:Keep zAK h7 h9:=k8.fresh k9 λb hb=>by omega
 rw[st9,zAW,a9.ldN (zBB w),zAa]
 have k09:=k07.trans k79
 refine zAI (zAfU (P:=P) (p7.keep k79 λ_ _=>id) hI (by omega) (hmx.keep k79 λ_ _=>id) (λb hb=>by have:=hP b hb;have:=k09.1;omega) (by omega) (by omega) (hO.keep k09 λ_ h=>h.elim)) ?_
 rintro _ h10 ⟨rfl,hq,k10⟩
 have k010:Keep zAK H h10:=k09.fresh k10 λb hb=>by omega
 rw[neI,zAa,zAl]
 have hee:zW2 ps of (x.1::hv.drop (i+1))=if zHG ps of x.1=0 then zW2 (ps++[x.1.name]) (zAev of x.1) (hv.drop (i+1)) else zHG ps of x.1:=rfl
 rw[hdr,hee]at he
 by_cases h0:zHG ps of x.1=0
 ·rw[if_neg (by simp[h0]),zBV (by omega),zAa]
  rw[if_pos h0]at he
  refine hk6 _ _ ⟨i+1,by omega,rfl,⟨_,_,hq h0,hI.next h0,?_,he⟩,(k7.trans (k79.mono λ_ _ h=>h.elim)).trans k10⟩ (by show mv.length-(i+1)<mv.length-i;omega)
  obtain⟨f1,_,_⟩:=zM8 (zAaD h0).1
  unfold zAev
  rw[zAt,zAd];omega
 ·rw[if_pos (by simp[h0])]
  rw[if_neg h0]at he
  exact⟨⟨_,by rw[show zW2 [] [] (zCi mv)=_ from he]⟩,k010⟩
theorem zAfV {H:zAx}{x y:MV}:zAA prg zFq [.agg (mvC x).toArray,.agg (mvC y).toArray] H λu H'=>u = .int .i64 (zJH x.1.name y.1.name)/\Keep zAK H H':=by
 apply zQG
 unfold zQS
 simp only[zB8,zBb,zBf,zAi,zAu,zAa]
 generalize hH1:H.push (.cells (mvC x).toArray zAe (0,0))=H1
 have k1:Keep zAK H H1:=by rw[<- hH1];exact Keep.push
 have a1:At H1 H.size (mvC x):=by rw[<- hH1];exact At.push
 generalize hH2:H1.push (.cells (mvC y).toArray zAe (0,0))=H2
 have k2:Keep zAK H1 H2:=by rw[<- hH2];exact Keep.push
 have a2:At H2 H1.size (mvC y):=by rw[<- hH2];exact At.push
 rw[zDz (a1.keep k2 id),zAa,zDz a2,zAa]
 refine zAI zTm ?_
 rintro _ _ ⟨rfl,rfl⟩
 exact⟨rfl,k1.trans k2⟩
theorem zAaG {H:zAx}{x y:MV}{k:zAm}(hk:∀ h',Keep zAK H h'->k (.int .i64 (zJH x.1.name y.1.name)) h'):zDQ prg (.func (.func zFq) #[] #[]) [.agg (mvC x).toArray,.agg (mvC y).toArray] H k :=
 .inl ⟨zFq,#[],#[],rfl,by kernel_rfl,zAA.mono (R:=λu H'=>u = .int .i64 (zJH x.1.name y.1.name)/\Keep zAK H H') zAfV λu h' hR=>by obtain⟨rfl,k'⟩:=hR;exact hk h' k'⟩
def zS1 (hv:List Man)(i:Nat):Bool:=decide (i=0) || !decide (zJH (gM hv i).name (gM hv (i-1)).name<0)
def zAi1 (hv:List Man):Bool:=(List.range hv.length).all (zS1 hv)
def zC0 (hv:List Man):Bool:=decide (zW2 [] [] hv=0)&&zAi1 hv
theorem zAnb {x:Int}(h1 : -9223372036854775807<=x)(h2:x<=9223372036854775807):zAB .no .sub (.int .i64 x) (.int .i64 1)=some (.int .i64 (x-1)):=by
 rw[zAJ];simp only[zC8];rw[zCe (by omega) (by omega)]
theorem zAbD {P:zA1}{H:zAx}{v:Value}{mv:List MV}(hp:zLB P H v mv)(hl:mv.length<=1000) :
  zAA prg zCJ [v,.func (.func zFq) #[] #[]] H λu H'=>u = .bool (zAi1 (zCi mv))/\Keep zAK H H':=by
 apply zEa
 unfold zDm
 have hln:(zCi mv).length=mv.length:=by simp
 refine zOt (λ_ h=>zAi1 (zCi mv)=true/\Keep zAK H h) (λk1 hk1=>?_) ?_
 rotate_left
 ·rintro _ h ⟨e,k⟩
  exact⟨by rw[e],k⟩
 rw[hp.len,zAa,zAnb (by omega) (by omega),zAa]
 refine zKj (λw h=>∃ n:Nat,n<=mv.length/\w = .int .i64 ((n:Nat)-1)/\(∀ j,n<=j->j<mv.length->zS1 (zCi mv) j=true)/\Keep zAK H h) (λw _=>match w with | .int _ t=>(t+1).toNat|_=>0) ⟨mv.length,zAh _,rfl,λj h1 h2=>by omega,Keep.refl⟩ ?_
 rintro _ h ⟨n,hn,rfl,hall,kh⟩ k3 hk3
 rw[gtI,zAa,zAl]
 by_cases h2:2<=n
 rotate_left
 ·rw[if_neg (by simp;omega)]
  refine hk1 _ _ ⟨?_,kh⟩
  unfold zAi1
  rw[zAw]
  intro j hj
  have hj':j<mv.length:=by rw[<- hln];exact zBC.1 hj
  by_cases h0:j=0
  ·subst h0;rfl
  ·exact hall j (by omega) hj'
 rw[if_pos (by simp;omega)]
 obtain⟨i,rfl⟩:∃ i,n=i+2:=⟨n-2,by omega⟩
 have e1:(((i+2:Nat):Int)-1)=((i+1:Nat):Int):=by omega
 have e2:(((i+1:Nat):Int)-1)=((i:Nat):Int):=by omega
 have hg:mv[i+1]? = some (mv[i+1]'(by omega)):=zAj (by omega)
 have hg':mv[i]? = some (mv[i]'(by omega)):=zAj (by omega)
 generalize mv[i+1]'(by omega)=x at *
 generalize mv[i]'(by omega)=y at *
 have hph:=hp.keep kh λ_ _=>id
 obtain⟨hmx,b,o,hix,hpt,_⟩:=hph.at hg
 obtain⟨hmy,b',o',hix',hpt',_⟩:=hph.at hg'
 rw[e1,hix .i64,zAa,zM7 hpt hmx.wf,zAa,zAnb (by omega) (by omega),zAa,e2,hix' .i64,zAa,zM7 hpt' hmy.wf,zAa]
 refine zAaG λh5 k5=>?_
 rw[ltI,zAa,zAl]
 have hnd:zS1 (zCi mv) (i+1) = !decide (zJH x.1.name y.1.name<0):=by
  unfold zS1
  rw[zZc hg,Nat.add_sub_cancel,zZc hg',decide_eq_false (by omega),zCs]
 cases hc:decide (zJH x.1.name y.1.name<0)
 ·rw[if_neg (by decide),zAa]
  refine hk3 _ _ ⟨i+1,by omega,by rw[e2],λj h1 h2=>?_,kh.trans k5⟩ (by show((i:Int)+1).toNat<(((i+2:Nat):Int)-1+1).toNat;omega)
  by_cases e:j=i+1
  ·subst e;rw[hnd,hc];rfl
  ·exact hall j (by omega) h2
 ·rw[if_pos rfl]
  refine⟨?_,kh.trans k5⟩
  have:zAi1 (zCi mv)=false:=zR7 (i:=i+1) (by rw[hln];omega) (by rw[hnd,hc];rfl)
  rw[this]
theorem zRl {P:zA1}{H:zAx}{v:Value}{mv:List MV}(hp:zLB P H v mv)(hP:∀ b,P b->b<H.size)(hl:mv.length<=1000)(hO:zQW H) :
  zAA prg zLf [v] H λu H'=>u = .bool (zC0 (zCi mv))/\Keep zAK H H':=by
 apply zQ8
 unfold zRN
 refine zAI (zAaF hp hP hl hO) ?_
 rintro _ h1 ⟨⟨w,rfl⟩,k1⟩
 have x0:∀ a b:Value,zE0 0 (.tuple #[a,b])=some a:=λ_ _=>rfl
 have x1:∀ a b:Value,zE0 1 (.tuple #[a,b])=some b:=λ_ _=>rfl
 rw[x0,zAa,x1,zAa,eqI,zAa]
 unfold zC0
 by_cases h0:zW2 [] [] (zCi mv)=0
 ·rw[decide_eq_true h0,zBa]
  refine zDo rfl ?_
  refine zAI (zAbD (hp.keep k1 λ_ _=>id) hl) ?_
  rintro _ h3 ⟨rfl,k3⟩
  rw[zAv,if_pos rfl,zAa]
  exact⟨rfl,k1.trans k3⟩
 ·rw[decide_eq_false h0,zA2]
  refine zId (by decide) ?_
  show Mpu (zBD (.bool false) undef (.bool false)) _
  rw[zAv,if_neg (by decide),zAa]
  exact⟨rfl,k1⟩
end Go.Proofs.YticdfkoncnnmmaaGreatDoor
namespace Go.X
def zUT {α:Type}(p:α->Bool):List α->Nat->Int
 | [],_ => -1
 | x::l,k=>if p x then (k:Int) else zUT p l (k+1)
theorem zYd {α:Type}{p:α->Bool}:∀ {l:List α} {k:Nat},(zUT p l k = -1/\∀ x∈l,p x=false)\/∃ (i:Nat) (x:α),zUT p l k=((k+i:Nat):Int)/\l[i]? = some x/\p x=true/\∀ y∈l.take i,p y=false
 | [],k => .inl ⟨rfl,λx h=>by cases h⟩
 | x::l,k=>by
  unfold zUT
  cases h:p x
  ·rw[if_neg (by decide)]
   rcases zYd (p:=p) (l:=l) (k:=k+1) with ⟨h1,h2⟩|⟨i,y,h1,h2,h3,h4⟩
   ·exact .inl ⟨h1,λy hy=>by
     rcases zAs.1 hy with rfl|hy
     ·exact h
     ·exact h2 y hy⟩
   ·refine .inr ⟨i+1,y,by rw[h1];omega,h2,h3,λz hz=>?_⟩
    rw[zBX]at hz
    rcases zAs.1 hz with rfl|hz
    ·exact h
    ·exact h4 z hz
  ·exact .inr ⟨0,x,by rw[if_pos rfl];rfl,rfl,h,λy hy=>by cases hy⟩
def zAhe (P:Program)(n:Nat)(t0 t1:Value)(H:zAx)(R:zAm):Prop :=
 J1 (λk1=>Mpu (lenV t0) λt7=>L1 (λk3=>λt8 h4=>Mpu (zAB .no .lss t8 t7) λt9=>Mcd t9 (
  Mpu (ixS n t0 t8) λt14=>Mpu (ldN n h4 t14) λt15=>zDQ P t1 [t15] h4 λt16 h5=>Mcd t16 (R t8 h5) (
   Mpu (zAB .no .add t8 (.int .i64 1)) λt18=>k3 t18 h5)) (k1 t8 h4)) ((.int .i64 0)) H) λ_ h2=>R (.int .i64 (-1)) h2
def zAhf (n:Nat)(K:EqK)(t0 t1:Value)(H:zAx)(R:zAm):Prop :=
 Mpu (lenV t0) λt7=>Mpu (lenV t1) λt9=>Mpu (zAB .no .neq t7 t9) λt10=>Mcd t10 (R (.bool false) H) (
  J1 (λk1=>Mpu (lenV t0) λt12=>L1 (λk3=>λt13 h4=>Mpu (zAB .no .lss t13 t12) λt14=>Mcd t14 (
   Mpu (ixS n t0 t13) λt18=>Mpu (ldN n h4 t18) λt19=>Mpu (ixS n t1 t13) λt22=>Mpu (ldN n h4 t22) λt23=>Mpu (zAB K .neq t19 t23) λt24=>Mcd t24 (R (.bool false) h4) (
    Mpu (zAB .no .add t13 (.int .i64 1)) λt25=>k3 t25 h4)) (k1 t13 h4)) ((.int .i64 0)) H) λ_ h2=>R (.bool true) h2)
def zAhg (P:Program)(T:TypeId)(n sz:Nat)(t0:Value)(H:zAx)(R:zAm):Prop :=
 Mpu (zAB .slc .eql t0 (.slice none 0 0)) λt4=>Mcd t4 (R (.slice none 0 0) H) (zD2 H T 0 (zF6 P T 0 []) λt5 h1=>zIw T n sz h1 t5 t0 λt7 h2=>R t7 h2)
end Go.X
namespace Go.Proofs.YticdfkoncnnmmaaGreatDoor
open Go.X Go.X.Diff Go.MapKept
def zAnc {α:Type}(enc:α->List Value)(fv:Value)(xs:List α)(del:α->Bool)(G:zAx->Prop):Prop:=∀ (x:α) (h:zAx),x∈xs->G h->zDQ prg fv [.agg (enc x).toArray] h λu h'=>u = .bool (del x)/\Keep zAK h h'
theorem zAdX {α:Type}{enc:α->List Value}{n:Nat}{G:zAx->Prop}{P:zA1}{H:zAx}{v fv:Value}{xs:List α}{del:α->Bool}(hv:SlE n P H v (xs.map enc))(hd:zAnc enc fv xs del G)(hG:∀ h,Keep zAK H h->G h)(hl:xs.length<=1099511627776) :
  zAhe prg n v fv H λu H'=>u = .int .i64 (zUT del xs 0)/\Keep zAK H H':=by
 unfold zAhe
 have hlen:=hv.len
 rw[zAd]at hlen
 refine zOt (λ_ h=>zUT del xs 0 = -1/\Keep zAK H h) (λk1 hk1=>?_) ?_
 rotate_left
 ·rintro _ h ⟨e,k⟩
  exact⟨by rw[e],k⟩
 rw[hlen,zAa]
 refine zKj (λu h=>∃ i:Nat,i<=xs.length/\u = .int .i64 (i:Nat)/\zUT del xs 0=zUT del (xs.drop i) i/\Keep zAK H h) (λu _=>match u with | .int _ t=>xs.length-t.toNat|_=>0) ⟨0,zAz _,rfl,rfl,Keep.refl⟩ ?_
 rintro _ h ⟨i,hi,rfl,he,kh⟩ k hk
 rw[zNZ,zAa,zAl]
 by_cases hlt:i<xs.length
 rotate_left
 ·rw[if_neg (by simpa using hlt)]
  rw[List.drop_of_length_le (by omega)]at he
  exact hk1 _ _ ⟨by rw[he];rfl,kh⟩
 rw[if_pos (by simpa using hlt)]
 have hg:xs[i]? = some xs[i]:=zAj hlt
 have hm:=zAH hlt
 rw[zBU hlt]at he
 generalize xs[i]=x at *
 have hx:(xs.map enc)[i]? = some (enc x):=by rw[zAq,hg];rfl
 obtain⟨b,o,hix,hpt,_⟩:=(hv.keep kh λ_ _=>id).at hx
 rw[hix .i64,zAa,hpt.agg (hv.el _ (zAC hx)),zAa]
 refine(hd x h hm (hG h kh)).mono ?_
 rintro _ h5 ⟨rfl,k5⟩
 rw[zAl]
 rw[show zUT del (x::xs.drop (i+1)) i=if del x then (i:Int) else zUT del (xs.drop (i+1)) (i+1) from rfl]at he
 cases hdx:del x
 ·rw[if_neg (by decide),zBV (by omega),zAa]
  rw[hdx,if_neg (by decide)]at he
  exact hk _ _ ⟨i+1,by omega,rfl,he,kh.trans k5⟩ (by show xs.length-(i+1)<xs.length-i;omega)
 ·rw[if_pos rfl]
  rw[hdx,if_pos rfl]at he
  exact⟨by rw[he],kh.trans k5⟩
theorem zZm {α:Type}[DecidableEq α]{enc:α->List Value}{n:Nat}{K:EqK}{P Q:zA1}{H:zAx}{v w:Value}{xs ys:List α}(hv:SlE n P H v (xs.map enc))(hw:SlE n Q H w (ys.map enc))
  (hne:∀ x∈xs,∀ y∈ys,zAB K .neq (.agg (enc x).toArray) (.agg (enc y).toArray)=some (.bool (!decide (x=y)))) (hl:xs.length<=1099511627776):zAhf n K v w H λu H'=>u = .bool (decide (xs=ys))/\H=H':=by
 unfold zAhf
 have h1:=hv.len
 have h2:=hw.len
 rw[zAd]at h1 h2
 rw[h1,zAa,h2,zAa,zAm0,zAa,zAl]
 by_cases hle:xs.length=ys.length
 rotate_left
 ·rw[if_pos (by simpa using hle)]
  exact⟨by rw[decide_eq_false λe=>hle (by rw[e])],rfl⟩
 rw[if_neg (by simpa using hle)]
 refine zOt (λ_ h=>xs=ys/\H=h) (λk1 hk1=>?_) ?_
 rotate_left
 ·rintro _ h ⟨e,rfl⟩
  exact⟨by rw[decide_eq_true e],rfl⟩
 rw[zAa]
 refine zKj (λu h=>∃ i:Nat,i<=xs.length/\u = .int .i64 (i:Nat)/\xs.take i=ys.take i/\H=h) (λu _=>match u with | .int _ t=>xs.length-t.toNat|_=>0) ⟨0,zAz _,rfl,rfl,rfl⟩ ?_
 rintro _ _ ⟨i,hi,rfl,he,rfl⟩ k hk
 rw[zNZ,zAa,zAl]
 by_cases hlt:i<xs.length
 rotate_left
 ·rw[if_neg (by simpa using hlt)]
  rw[zAr (by omega),zAr (by omega)]at he
  exact hk1 _ _ ⟨he,rfl⟩
 rw[if_pos (by simpa using hlt)]
 have hg:xs[i]? = some xs[i]:=zAj hlt
 have hg':ys[i]? = some (ys[i]'(by omega)):=zAj (by omega)
 have hm:=zAH hlt
 have hm':=zAH (show i<ys.length by omega)
 generalize xs[i]=x at *
 generalize ys[i]'(by omega)=y at *
 have hx:(xs.map enc)[i]? = some (enc x):=by rw[zAq,hg];rfl
 have hy:(ys.map enc)[i]? = some (enc y):=by rw[zAq,hg'];rfl
 obtain⟨b,o,hix,hpt,_⟩:=hv.at hx
 obtain⟨b',o',hix',hpt',_⟩:=hw.at hy
 rw[hix .i64,zAa,hpt.agg (hv.el _ (zAC hx)),zAa,hix' .i64,zAa,hpt'.agg (hw.el _ (zAC hy)),zAa,hne x hm y hm',zAa,zAl]
 by_cases e:x=y
 ·rw[if_neg (by simp[e]),zBV (by omega),zAa]
  refine hk _ _ ⟨i+1,by omega,rfl,by rw[zAG,zAG,he,hg,hg',e],rfl⟩ (by show xs.length-(i+1)<xs.length-i;omega)
 ·rw[if_pos (by simp[e])]
  refine⟨?_,rfl⟩
  rw[decide_eq_false]
  rintro rfl
  rw[hg]at hg'
  exact e (zAN hg')
theorem zAdY {n sz:Nat}{T:TypeId}{P:zA1}{H:zAx}{v:Value}{xs:List (List Value)}(b0:zF6 prg T 0 []=some #[])(hv:SlE n P H v xs)(hs:0<sz)(hl:xs.length*sz<=140737488355328) :
  zAhg prg T n sz v H λu H'=>BufE n (λb=>H.size<=b/\b<H'.size) H' u xs/\Keep zAK H H':=by
 unfold zAhg
 obtain⟨⟨a,c,rfl,hc,hx⟩,h2,h3⟩:=hv
 cases a with
 | none =>
  have hnil:xs=[]:=by
   rcases hx with h|⟨b,o,h,_⟩
   ·exact h
   ·cases h
  have e:zAB .slc .eql (.slice none xs.length c) (.slice none 0 0)=some (.bool true):=rfl
  rw[e,zAa,zAl,if_pos rfl,hnil]
  exact⟨BufE.nil,Keep.refl⟩
 | some a =>
  have e:zAB .slc .eql (.slice (some a) xs.length c) (.slice none 0 0)=some (.bool false):=rfl
  rw[e,zAa,zAl,if_neg (by decide),b0,zCo]
  generalize hH1:H.push (.cells #[] T (0,0))=H1
  have k1:Keep zAK H H1:=by rw[<- hH1];exact Keep.push
  have n1:H1[H.size]? = some (.cells #[] T (0,0)):=by rw[<- hH1];exact zCj
  have hb:BufE n (H.size <= ·) H1 (.slice (some ⟨H.size,0,none⟩) 0 0) []:=BufE.fresh (cs:=[]) ⟨H.size,rfl,zAh _,n1⟩ (zAh _) (by simp) (λ_ _=>by simp[zUV]) (by simp) (λx h=>by cases h) (λx h=>by cases h)
  have hv1:SlE n P H1 (.slice (some a) xs.length c) xs:=SlE.keep ⟨⟨_,c,rfl,hc,hx⟩,h2,h3⟩ k1 λ_ _=>id
  refine hb.app hv1 hs (by simpa using hl) (by have:=k1.1;show H.size<=H1.size;omega) λu h2' hu k2=>?_
  rw[zAY]at hu
  have k02:=k1.fresh k2 λb hb=>hb
  exact⟨BufE.re hu λb hb hF=>⟨hF,hb⟩,k02⟩
theorem zVK {P:zA1}{H:zAx}{v:Value}{xs:List (List Value)}(hv:SlE 8 P H v xs)(hl:xs.length<=1000000):zAA prg zCv [v] H λu H'=>BufE 8 (λb=>H.size<=b/\b<H'.size) H' u xs/\Keep zAK H H' :=
 zEQ (zAdY (T:=zAe) (sz:=128) (by kernel_rfl) hv (by omega) (by omega))
theorem zZn {P:zA1}{H:zAx}{v:Value}{xs:List (List Value)}(hv:SlE 34 P H v xs)(hl:xs.length<=1000000):zAA prg zDt [v] H λu H'=>BufE 34 (λb=>H.size<=b/\b<H'.size) H' u xs/\Keep zAK H H' :=
 zFM (zAdY (T:=zBn) (sz:=56) (by kernel_rfl) hv (by omega) (by omega))
theorem zVL {G:zAx->Prop}{P:zA1}{H:zAx}{v fv:Value}{xs:List MV}{del:MV->Bool}(hv:SlE 8 P H v (xs.map mvC))(hd:zAnc mvC fv xs del G)(hG:∀ h,Keep zAK H h->G h)(hl:xs.length<=1099511627776) :
  zAA prg zB0 [v,fv] H λu H'=>u = .int .i64 (zUT del xs 0)/\Keep zAK H H' :=
 zDe (zAdX hv hd hG hl)
instance:DecidableEq Dep:=λa b=>decidable_of_iff (a.name=b.name/\a.want=b.want) (by cases a;cases b;simp)
instance:DecidableEq zHt:=λa b=>decidable_of_iff (a.name=b.name/\a.sum=b.sum/\a.size=b.size) (by cases a;cases b;simp)
theorem zAmq {x y:Dep}(hx:x.wf)(hy:y.wf):zAB (eqK prg zAL) .neq (.agg (zFp x).toArray) (.agg (zFp y).toArray)=some (.bool (!decide (x=y))):=by
 have q:eqK prg zAL = .flat ([2]++([2]++zAbW)):=by kernel_rfl
 rw[zMJ,q]
 show(zCw ([2]++([2]++zAbW)) (zFp x).toArray.toList (zFp y).toArray.toList).map (λb=>Value.bool (!b))=_
 have h1:=zFO (k1:=[2]) (a1:=[str x.want.op]) (b1:=[str y.want.op]) rfl rfl zG6 (zWw hx.want.ver hy.want.ver)
 have h2:=zFO (k1:=[2]) (a1:=[str x.name]) (b1:=[str y.name]) rfl rfl zG6 h1
 rw[zA9,zA9,show zFp x=[str x.name]++([str x.want.op]++zEm x.want.ver) from rfl,show zFp y=[str y.name]++([str y.want.op]++zEm y.want.ver) from rfl,h2]
 obtain⟨n,⟨o,v⟩⟩:=x
 obtain⟨n',⟨o',v'⟩⟩:=y
 simp
theorem zAkR {x y:zHt}(hx:x.wf)(hy:y.wf):zAB (eqK prg zBn) .neq (.agg (zEj x).toArray) (.agg (zEj y).toArray)=some (.bool (!decide (x=y))):=by
 have q:eqK prg zBn = .flat ([2]++(List.replicate 32 0++[0])):=by kernel_rfl
 rw[zMJ,q]
 show(zCw ([2]++(List.replicate 32 0++[0])) (zEj x).toArray.toList (zEj y).toArray.toList).map (λb=>Value.bool (!b))=_
 have hs:zCw (List.replicate 32 0) (zBs x.sum) (zBs y.sum)=some (decide (x.sum=y.sum)):=by
  have:=zJ0 (l:=x.sum) (m:=y.sum) (by rw[hx.sum,hy.sum])
  rwa [hx.sum]at this
 have hz:zCw [0] [.int .i64 x.size] [.int .i64 y.size]=some (decide (x.size=y.size)):=by
  have:=zPZ (k := .i64) (l:=[x.size]) (m:=[y.size]) rfl
  simpa [zCm] using this
 have h1:=zFO (k1:=List.replicate 32 0) (k2:=[0]) (a1:=zBs x.sum) (b1:=zBs y.sum) (by simp[hx.sum]) (by simp[hy.sum]) hs hz
 have h2:=zFO (k1:=[2]) (a1:=[str x.name]) (b1:=[str y.name]) rfl rfl zG6 h1
 rw[zA9,zA9,show zEj x=[str x.name]++(zBs x.sum++[.int .i64 x.size]) from rfl,show zEj y=[str y.name]++(zBs y.sum++[.int .i64 y.size]) from rfl,h2]
 obtain⟨n,s,z⟩:=x
 obtain⟨n',s',z'⟩:=y
 simp
theorem zAdZ {P Q:zA1}{H:zAx}{v w:Value}{xs ys:List Dep}(hv:SlE 6 P H v (xs.map zFp))(hw:SlE 6 Q H w (ys.map zFp))(hx:∀ x∈xs,x.wf)(hy:∀ y∈ys,y.wf)(hl:xs.length<=1099511627776) :
  zAA prg zCZ [v,w] H λu H'=>u = .bool (decide (xs=ys))/\H=H' :=
 zF1 (zZm hv hw (λx h y g=>zAmq (hx x h) (hy y g)) hl)
theorem zAfW {P Q:zA1}{H:zAx}{v w:Value}{xs ys:List zHt}(hv:SlE 34 P H v (xs.map zEj))(hw:SlE 34 Q H w (ys.map zEj))(hx:∀ x∈xs,x.wf)(hy:∀ y∈ys,y.wf)(hl:xs.length<=1099511627776) :
  zAA prg zDs [v,w] H λu H'=>u = .bool (decide (xs=ys))/\H=H' :=
 zFL (zZm hv hw (λx h y g=>zAkR (hx x h) (hy y g)) hl)
def zRm (x y:Man):Bool:=decide (x.name=y.name)&&decide (x.ver=y.ver)&&decide (x.deps=y.deps)&&decide (x.conf=y.conf)&&decide (x.files=y.files)
theorem zSb {x y:Man}:zRm x y=true↔x=y:=by
 obtain⟨a,b,c,d,e⟩:=x
 obtain⟨a',b',c',d',e'⟩:=y
 unfold zRm
 simp only[zAk,decide_eq_true_eq,Man.mk.injEq]
 exact⟨λ⟨⟨⟨⟨h1,h2⟩,h3⟩,h4⟩,h5⟩=>⟨h1,h2,h3,h4,h5⟩,λ⟨h1,h2,h3,h4,h5⟩=>⟨⟨⟨⟨h1,h2⟩,h3⟩,h4⟩,h5⟩⟩
set_option maxHeartbeats 1000000 in
theorem zS2 {P Q:zA1}{H:zAx}{x y:MV}(hx:zLd P H x.1 x.2.1 x.2.2.1 x.2.2.2)(hy:zLd Q H y.1 y.2.1 y.2.2.1 y.2.2.2)(hd:x.1.deps.length<=1099511627776)(hc:x.1.conf.length<=1099511627776)(hf:x.1.files.length<=1099511627776) :
  zAA prg zDg [.agg (mvC x).toArray,.agg (mvC y).toArray] H λu H'=>u = .bool (zRm x.1 y.1)/\Keep zAK H H':=by
 apply zKm
 unfold zIg
 simp only[zB8,zBb,zBf,zAi,zAu,zAa]
 generalize hH1:H.push (.cells (mvC x).toArray zAe (0,0))=H1
 have k1:Keep zAK H H1:=by rw[<- hH1];exact Keep.push
 have a1:At H1 H.size (mvC x):=by rw[<- hH1];exact At.push
 generalize hH2:H1.push (.cells (mvC y).toArray zAe (0,0))=H2
 have k2:Keep zAK H1 H2:=by rw[<- hH2];exact Keep.push
 have a2:At H2 H1.size (mvC y):=by rw[<- hH2];exact At.push
 have a1':=a1.keep k2 id
 have k02:=k1.trans k2
 have wx:=hx.wf
 have wy:=hy.wf
 have hx2:=hx.keep k02 λ_ _=>id
 have hy2:=hy.keep k02 λ_ _=>id
 obtain⟨g5,g6,g7⟩:=zHv a1' wx
 obtain⟨g5',g6',g7'⟩:=zHv a2 wy
 unfold zRm
 rw[zDz a1',zAa,zDz a2,zAa,zDV,zAa]
 cases q1:decide (x.1.name=y.1.name)
 ·simp only[zBT,zAQ,zAb,if_false,zAv,zAa,zA2]
  exact⟨by trivial,k02⟩
 refine zDo rfl ?_
 rw[zHu a1' wx,zAa,zHu a2 wy,zAa,zAbk wx.ver wy.ver,zAa]
 show Mpu (zBD (.bool true) (.bool (decide (x.1.ver=y.1.ver))) (.bool false)) _
 rw[zAv,if_pos rfl,zAa]
 cases q2:decide (x.1.ver=y.1.ver)
 ·simp only[zBT,zAQ,zAb,if_false,zAv,zAa,zA2,zBG]
  exact⟨by trivial,k02⟩
 refine zDo rfl ?_
 rw[g5,zAa,g5',zAa]
 refine zAI (zAdZ hx2.d hy2.d wx.deps wy.deps hd) ?_
 rintro _ _ ⟨rfl,rfl⟩
 rw[zAv,if_pos rfl,zAa]
 cases q3:decide (x.1.deps=y.1.deps)
 ·simp only[zBT,zAQ,zAb,if_false,zAv,zAa,zA2,zBG]
  exact⟨by trivial,k02⟩
 refine zDo rfl ?_
 rw[g6,zAa,g6',zAa]
 refine zAI (zAdZ hx2.c hy2.c wx.conf wy.conf hc) ?_
 rintro _ _ ⟨rfl,rfl⟩
 rw[zAv,if_pos rfl,zAa]
 cases q4:decide (x.1.conf=y.1.conf)
 ·simp only[zBT,zAQ,zAb,if_false,zAv,zAa,zA2,zBG]
  exact⟨by trivial,k02⟩
 refine zDo rfl ?_
 rw[g7,zAa,g7',zAa]
 refine zAI (zAfW hx2.f hy2.f wx.files wy.files hf) ?_
 rintro _ _ ⟨rfl,rfl⟩
 rw[zAv,if_pos rfl,zAa]
 exact⟨by simp,k02⟩
theorem zAd0 {P:zA1}{H:zAx}{v:Value}{mv:List MV}{nm:List UInt8}(hp:zLB P H v mv)(hl:mv.length<=1099511627776) :
  zAA prg zNr [v,str nm] H λu H'=>u = .int .i64 (zUT (λx:MV=>decide (x.1.name=nm)) mv 0)/\Keep zAK H H':=by
 apply zRa
 unfold zRQ
 have ec:Value.cells (str nm)=[str nm].toArray:=rfl
 rw[ec,zBb]
 generalize hH1:H.push (.cells [str nm].toArray zBJ (0,0))=H1
 have k1:Keep zAK H H1:=by rw[<- hH1];exact Keep.push
 have a1:At H1 H.size [str nm]:=by rw[<- hH1];exact At.push
 refine zAI (zVL (G:=λh=>At h H.size [str nm]) (hp.h.keep k1 λ_ _=>id) (λx h hx hG=>?_) (λh k=>a1.keep k id) hl) λu h ⟨e,k⟩=>⟨e,k1.trans k⟩
 refine .inl ⟨zK7,#[],#[Ptr H.size 0],rfl,by kernel_rfl,?_⟩
 show zAA prg zK7 [.agg (mvC x).toArray,Ptr H.size 0] h _
 apply zPX
 unfold zPV
 simp only[zB8,zBb,zBf,zAi,zAu,zAa]
 have kp:Keep zAK h (h.push (.cells (mvC x).toArray zAe (0,0))):=Keep.push
 have a2:At (h.push (.cells (mvC x).toArray zAe (0,0))) h.size (mvC x):=At.push
 rw[zDz a2,zAa,(At.keep hG kp id).ld (i:=0) rfl,zAa,zDV,zAa]
 exact⟨rfl,kp⟩
def zUD (hv:List Man)(nm:List UInt8):Bool:=hv.any λm=>m.deps.any λd=>decide (d.name=nm)
theorem zAfX {P:zA1}{H:zAx}{v:Value}{mv:List MV}{nm:List UInt8}(hp:zLB P H v mv)(hl:mv.length<=1099511627776) :
  zAA prg zOx [v,str nm] H λu H'=>u = .bool (zUD (zCi mv) nm)/\Keep zAK H H':=by
 apply zQD
 unfold zQP
 have ec:Value.cells (str nm)=[str nm].toArray:=rfl
 rw[ec,zBb]
 generalize hH1:H.push (.cells [str nm].toArray zBJ (0,0))=H1
 have k1:Keep zAK H H1:=by rw[<- hH1];exact Keep.push
 have a1:At H1 H.size [str nm]:=by rw[<- hH1];exact At.push
 have hp1:=hp.keep k1 λ_ _=>id
 refine zAI (zOT (G:=λh=>At h H.size [str nm]/\zLB P h v mv) (del:=λm=>m.deps.any λd=>decide (d.name=nm)) hp1.h (λx hx=>(hp.m x hx).wf) (λx h hx hG=>?_) (λh k=>⟨a1.keep k id,hp1.keep k λ_ _=>id⟩) hl) λu h ⟨e,k⟩=>⟨by rw[e];unfold zUD;rw[List.any_map];rfl,k1.trans k⟩
 refine .inl ⟨zJO,#[],#[Ptr H.size 0],rfl,by kernel_rfl,?_⟩
 show zAA prg zJO [.agg (mvC x).toArray,Ptr H.size 0] h _
 apply zPl
 unfold zO5
 simp only[zB8,zBb,zBf,zAi,zAu,zAa]
 generalize hh2:h.push (.cells (mvC x).toArray zAe (0,0))=h2
 have kp:Keep zAK h h2:=by rw[<- hh2];exact Keep.push
 have a2:At h2 h.size (mvC x):=by rw[<- hh2];exact At.push
 have hmx:=(hG.2.m x hx).keep kp λ_ _=>id
 have g:=(hG.1).keep kp id
 rw[(zHv a2 hmx.wf).1,zAa]
 have hsx:=hG.2.sm x hx
 refine zAI (zR9 (G:=λh=>At h H.size [str nm]) (del:=λd=>decide (d.name=nm)) hmx.d hmx.wf.deps (λd h' hd hG'=>?_) (λh' k=>g.keep k id) (by omega)) λu h' ⟨e,k⟩=>⟨e,kp.trans k⟩
 refine .inl ⟨zH7,#[],#[Ptr H.size 0],rfl,by kernel_rfl,?_⟩
 show zAA prg zH7 [.agg (zFp d).toArray,Ptr H.size 0] h' _
 apply zOf
 unfold zNx
 simp only[zB8,zBb,zBf,zAi,zAu,zAa]
 have kp':Keep zAK h' (h'.push (.cells (zFp d).toArray zAL (0,0))):=Keep.push
 have a3:At (h'.push (.cells (zFp d).toArray zAL (0,0))) h'.size (zFp d):=At.push
 rw[zAdn a3,zAa,(At.keep hG' kp' id).ld (i:=0) rfl,zAa,zDV,zAa]
 exact⟨rfl,kp'⟩
def zG9 (hv:List Man)(m:Man):Bool:=hv.any λo=>zRm o m
theorem zAhh {P Q:zA1}{H:zAx}{v:Value}{mv:List MV}{y:MV}(hp:zLB P H v mv)(hy:zLd Q H y.1 y.2.1 y.2.2.1 y.2.2.2)(hl:mv.length<=1099511627776)(hf:∀ x∈mv,x.1.files.length<=1000) :
  zAA prg zOA [v,.agg (mvC y).toArray] H λu H'=>u = .bool (zG9 (zCi mv) y.1)/\Keep zAK H H':=by
 apply zRT
 unfold zTl
 simp only[zB8,zBb]
 generalize hH1:H.push (.cells (mvC y).toArray zAe (0,0))=H1
 have k1:Keep zAK H H1:=by rw[<- hH1];exact Keep.push
 have a1:At H1 H.size (mvC y):=by rw[<- hH1];exact At.push
 have hp1:=hp.keep k1 λ_ _=>id
 have hy1:=hy.keep k1 λ_ _=>id
 refine zAI (zOT (G:=λh=>At h H.size (mvC y)/\zLB P h v mv/\zLd Q h y.1 y.2.1 y.2.2.1 y.2.2.2) (del:=λm=>zRm m y.1) hp1.h (λx hx=>(hp.m x hx).wf) (λx h hx hG=>?_) (λh k=>⟨a1.keep k id,hp1.keep k λ_ _=>id,hy1.keep k λ_ _=>id⟩) hl) λu h ⟨e,k⟩=>⟨by rw[e];unfold zG9;rw[List.any_map];rfl,k1.trans k⟩
 refine .inl ⟨zMh,#[],#[Ptr H.size 0],rfl,by kernel_rfl,?_⟩
 show zAA prg zMh [.agg (mvC x).toArray,Ptr H.size 0] h _
 apply zQJ
 unfold zQV
 simp only[zB8,zBb]
 obtain⟨q1,q2,q3⟩:=hG
 generalize hh2:h.push (.cells (mvC x).toArray zAe (0,0))=h2
 have kp:Keep zAK h h2:=by rw[<- hh2];exact Keep.push
 have a2:At h2 h.size (mvC x):=by rw[<- hh2];exact At.push
 have hmx:=(q2.m x hx).keep kp λ_ _=>id
 have hsx:=q2.sm x hx
 have hfx:=hf x hx
 rw[a2.ldN (zBB hmx.wf),zAa,(q1.keep kp id).ldN (zBB q3.wf),zAa]
 exact zAI (zS2 hmx (q3.keep kp λ_ _=>id) (by omega) (by omega) (by omega)) λu h' ⟨e,k⟩=>⟨e,kp.trans k⟩
theorem zUE {P:zA1}{H:zAx}{x:MV}(hx:zLd P H x.1 x.2.1 x.2.2.1 x.2.2.2)(hd:x.1.deps.length<=1000)(hc:x.1.conf.length<=1000)(hf:x.1.files.length<=1000) :
  zAA prg zFE [.agg (mvC x).toArray] H λu H'=>(∃ vd vc vf,u = .agg (mvC (x.1,vd,vc,vf)).toArray/\zLd (λb=>H.size<=b/\b<H'.size) H' x.1 vd vc vf)/\Keep zAK H H':=by
 apply zNl
 unfold zL6
 simp only[zB8,zL8,zBb,zBf,zAi,zAu,zAa]
 generalize hH1:H.push (.cells (mvC x).toArray zAe (0,0))=H1
 have k1:Keep zAK H H1:=by rw[<- hH1];exact Keep.push
 have a1:At H1 H.size (mvC x):=by rw[<- hH1];exact At.push
 have s1:H1.size=H.size+1:=by rw[<- hH1];simp
 generalize hH2:H1.push (.cells (zGN ⟨[],zEc,[],[],[]⟩ zCn zCn zCn).toArray zAe (0,0))=H2
 have k2:Keep zAK H1 H2:=by rw[<- hH2];exact Keep.push
 have a2:At H2 H1.size (zGN ⟨[],zEc,[],[],[]⟩ zCn zCn zCn):=by rw[<- hH2];exact At.push
 have s2:H2.size=H1.size+1:=by rw[<- hH2];simp
 have w:=hx.wf
 have hv4:=zDH w.ver
 have a12:=a1.keep k2 id
 have k02:=k1.trans k2
 obtain⟨g5,g6,g7⟩:=zHv a12 w
 rw[g5,zAa,g6,zAa,g7,zAa]
 have hx2:=hx.keep k02 λ_ _=>id
 refine zAI (zSV hx2.d (by omega)) ?_
 rintro t5 h3 ⟨b5,k3⟩
 obtain⟨_,g6,g7⟩:=zHv (a12.keep k3 id) w
 rw[g7,zBp,g6,zBp,zA8]
 refine zAI (zSV (hx2.keep k3 λ_ _=>id).c (by omega)) ?_
 rintro t8 h4 ⟨b8,k4⟩
 have a14:=(a12.keep k3 id).keep k4 id
 obtain⟨_,_,g7⟩:=zHv a14 w
 rw[g7,zBp,zA8]
 refine zAI (zZn ((hx2.keep k3 λ_ _=>id).keep k4 λ_ _=>id).f (by rw[zAd];omega)) ?_
 rintro t11 h5 ⟨b11,k5⟩
 have a15:=a14.keep k5 id
 have g3:=k3.1
 have g4:=k4.1
 have g5':=k5.1
 have o5:t5.oneCell'=true:=b5.sl.oneC
 have o8:t8.oneCell'=true:=b8.sl.oneC
 have o11:t11.oneCell'=true:=b11.sl.oneC
 have e5:(mvC x).set 5 t5=mvC (x.1,t5,x.2.2.1,x.2.2.2):=by simp[mvC,zGN,List.set_append,hv4]
 have e6:(mvC (x.1,t5,x.2.2.1,x.2.2.2)).set 6 t8=mvC (x.1,t5,t8,x.2.2.2):=by simp[mvC,zGN,List.set_append,hv4]
 have e7:(mvC (x.1,t5,t8,x.2.2.2)).set 7 t11=mvC (x.1,t5,t8,t11):=by simp[mvC,zGN,List.set_append,hv4]
 have hml:∀ a b c,(mvC (x.1,a,b,c)).length=8:=λ_ _ _=>zBB w
 obtain⟨h6,st6,a6,k6⟩:=a15.st1 (i:=5) (v:=t5) (by have:=zBB (vd:=x.2.1) (vc:=x.2.2.1) (vf:=x.2.2.2) w;show 5<(mvC x).length;unfold mvC;omega) o5
 rw[e5]at a6
 obtain⟨h7,st7,a7,k7⟩:=a6.st1 (i:=6) (v:=t8) (by have:=hml t5 x.2.2.1 x.2.2.2;omega) o8
 rw[e6]at a7
 obtain⟨h8,st8,a8,k8⟩:=a7.st1 (i:=7) (v:=t11) (by have:=hml t5 t8 x.2.2.2;omega) o11
 rw[e7]at a8
 rw[st6,zAW,st7,zAW,st8,zAW,a8.ldN (hml _ _ _),zAa]
 have k58:Keep (· = H.size) h5 h8:=(k6.trans k7).trans k8
 have g58:=k58.1
 have a28:At h8 H1.size (zGN ⟨[],zEc,[],[],[]⟩ zCn zCn zCn):=(((a2.keep k3 id).keep k4 id).keep k5 id).keep k58 (by omega)
 have one:∀ c∈mvC (x.1,t5,t8,t11),c.oneCell'=true:=λc hc=>by
  rcases zAs.1 hc with rfl|hc
  ·rfl
  rcases zAp.1 hc with hc|hc
  ·exact zLa c hc
  ·simp at hc
   rcases hc with rfl|rfl|rfl
   ·exact o5
   ·exact o8
   ·exact o11
 obtain⟨h9,st9,a9,k9⟩:=a28.st (n:=8) (ds:=mvC (x.1,t5,t8,t11)) (zBB zOr) (hml _ _ _) one
 rw[st9,zAW,a9.ldN (hml _ _ _),zAa]
 have k59:Keep (λb=>b=H.size\/b=H1.size) h5 h9:=(k58.mono λ_ _ h => .inl h).trans (k9.mono λ_ _ h => .inr h)
 have g9:=k59.1
 refine⟨⟨t5,t8,t11,rfl,⟨?_,?_,?_,w⟩⟩,(((k02.trans k3).trans k4).trans k5).fresh k59 λb hb=>by omega⟩
 ·exact(((b5.sl.keep k4 λ_ _=>id).keep k5 λ_ _=>id).keep k59 λb hb=>by omega).mono λb hb=>by omega
 ·exact((b8.sl.keep k5 λ_ _=>id).keep k59 λb hb=>by omega).mono λb hb=>by omega
 ·exact(b11.sl.keep k59 λb hb=>by omega).mono λb hb=>by omega
end Go.Proofs.YticdfkoncnnmmaaGreatDoor
namespace Go.X
theorem Keep.fresh' {S T:zA1}{H h h':zAx}(k:Keep S H h)(k2:Keep T h h')(hs:∀ b,T b->S b\/H.size<=b):Keep S H h' :=
 ⟨zBh k.1 k2.1,λi hi hn=>by rw[k2.2 i (zAM hi k.1) λht=>(hs i ht).elim hn λh=>by omega,k.2 i hi hn]⟩
theorem Buf.re {F G:zA1}{H:zAx}{v:Value}{l:List UInt8}(h:Buf F H v l)(k:∀ b,b<H.size->F b->G b):Buf G H v l:=by
 rcases h with h|⟨b,o,c,cs,T,f,rfl,hf,hc,hb,hr⟩
 ·exact .inl h
 ·exact .inr ⟨b,o,c,cs,T,f,rfl,k b (lt_of hb) hf,hc,hb,hr⟩
end Go.X
namespace Go.Proofs.YticdfkoncnnmmaaGreatDoor
open Go.X Go.X.Diff Go.MapKept
theorem At.stPre {h:zAx}{q:Nat}{A C B:List Value}(a:At h q (A++C)){n:Nat}(hn:A.length=n)(hd:B.length=n)(h1:∀ c∈B,c.oneCell'=true) :
  ∃ h',stN n h (Ptr q 0) (.agg B.toArray)=some h'/\At h' q (B++C)/\Keep (· = q) h h':=by
 obtain⟨T,a⟩:=a
 have:=zPF (n:=n) (o:=0) (A:=[]) (B:=A) (C:=C) (B':=B) (by rw[zAY];exact a) rfl hn.symm hd (zVw h1)
 rw[zAY]at this
 exact⟨_,this,⟨T,zBm a⟩,Keep.set rfl⟩
theorem At.ldPre {h:zAx}{q:Nat}{A C:List Value}(a:At h q (A++C)){n:Nat}(hn:A.length=n):Go.X.ldN n h (Ptr q 0)=some (Value.agg A.toArray):=by
 obtain⟨T,a⟩:=a
 exact Go.X.ldN_mid (A:=[]) (B:=A) (C:=C) (by rw[zAY];exact a) rfl hn.symm
abbrev PW:=MV×Value×List (Value×List UInt8)
def pvC (x:PW):List Value:=mvC x.1++[x.2.1]
abbrev Pk:=Man×List (List UInt8)
def zJg (x:PW):Pk:=(x.1.1,x.2.2.map (·.2))
structure PkV (P:zA1)(H:zAx)(x:PW):Prop where
 m:zLd P H x.1.1 x.1.2.1 x.1.2.2.1 x.1.2.2.2
 f:BSS P P H x.2.1 x.2.2
 sd:x.1.1.deps.length<=1000
 sc:x.1.1.conf.length<=1000
 sf:x.1.1.files.length<=1000
 sn:x.2.2.length<=1000
 sb:∀ y∈x.2.2,y.2.length<=1048576
theorem BSS.mono {P Q P' Q':zA1}{H:zAx}{v:Value}{xs:List (Value×List UInt8)}(h:BSS P Q H v xs)(k:∀ b,P b->P' b)(k':∀ b,Q b->Q' b):BSS P' Q' H v xs:=⟨h.sl.mono k,λx hx=>(h.el x hx).mono k'⟩
theorem zLd.mono {P Q:zA1}{H:zAx}{m:Man}{vd vc vf:Value}(h:zLd P H m vd vc vf)(k:∀ b,P b->Q b):zLd Q H m vd vc vf:=⟨h.d.mono k,h.c.mono k,h.f.mono k,h.wf⟩
theorem PkV.keep {P S:zA1}{H H':zAx}{x:PW}(h:PkV P H x)(k:Keep S H H')(hs:∀ b,P b->¬ S b):PkV P H' x:=⟨h.m.keep k hs,h.f.keep k hs hs,h.sd,h.sc,h.sf,h.sn,h.sb⟩
theorem PkV.mono {P Q:zA1}{H:zAx}{x:PW}(h:PkV P H x)(k:∀ b,P b->Q b):PkV Q H x:=⟨h.m.mono k,h.f.mono k k,h.sd,h.sc,h.sf,h.sn,h.sb⟩
theorem zD1 {x:PW}(h:x.1.1.wf):(pvC x).length=9:=by simp[pvC,mvC,zBB h]
theorem PkV.one {P:zA1}{H:zAx}{x:PW}(h:PkV P H x):∀ c∈pvC x,c.oneCell'=true:=λc hc=>by
 rcases zAp.1 hc with hc|hc
 ·exact zFP (x:=x.1) h.m c hc
 ·rw[zAD.1 hc];exact h.f.sl.oneC
theorem zS3 {x:PW}(h:x.1.1.wf):(pvC x)[8]? = some x.2.1:=by
 have:(mvC x.1).length=8:=zBB h
 unfold pvC
 rw[zBe (by omega),this];rfl
def zPW:PW:=((⟨[],zEc,[],[],[]⟩,zCn,zCn,zCn),zCn,[])
theorem zAbE:zBI prg zA6=some (pvC zPW).toArray:=by kernel_rfl
theorem zAd1 {y:MV}{t u:Value}{xs zs:List (Value×List UInt8)}(h:y.1.wf):(pvC (y,t,xs)).set 8 u=pvC (y,u,zs):=by
 have:(mvC y).length=8:=zBB h
 unfold pvC
 rw[zCR _ _ (by show(mvC y).length<=8;omega)]
 show mvC y++List.set _ (8-(mvC y).length) u=_
 rw[this];rfl
set_option maxHeartbeats 1000000 in
theorem zAaH {P:zA1}{H:zAx}{x:PW}(hx:PkV P H x) :
  zAA prg zGa [.agg (pvC x).toArray] H λu H'=>(∃ x',u = .agg (pvC x').toArray/\zJg x'=zJg x/\PkV (λb=>H.size<=b/\b<H'.size) H' x')/\Keep zAK H H':=by
 apply zMr
 unfold zKy
 simp only[zB8,zAbE,zBb,zBf,zAi,zAu,zAa]
 generalize hH1:H.push (.cells (pvC x).toArray zA6 (0,0))=H1
 have k1:Keep zAK H H1:=by rw[<- hH1];exact Keep.push
 have a1:At H1 H.size (pvC x):=by rw[<- hH1];exact At.push
 have s1:H1.size=H.size+1:=by rw[<- hH1];simp
 generalize hH2:H1.push (.cells (pvC zPW).toArray zA6 (0,0))=H2
 have k2:Keep zAK H1 H2:=by rw[<- hH2];exact Keep.push
 have a2:At H2 H1.size (pvC zPW):=by rw[<- hH2];exact At.push
 have s2:H2.size=H1.size+1:=by rw[<- hH2];simp
 have w:=hx.m.wf
 have k02:=k1.trans k2
 have a12:=a1.keep k2 id
 rw[a12.ldPre (A:=mvC x.1) (zBB w),zAa]
 refine zAI (zUE (x:=x.1) (hx.m.keep k02 λ_ _=>id) hx.sd hx.sc hx.sf) ?_
 rintro _ h3 ⟨⟨vd,vc,vf,rfl,hm3⟩,k3⟩
 have g3:=k3.1
 generalize hy:(x.1.1,vd,vc,vf)=y at *
 have hy1:y.1=x.1.1:=by rw[<- hy]
 have wy:y.1.wf:=by rw[hy1];exact w
 have hmy:zLd (λb=>H2.size<=b/\b<h3.size) h3 y.1 y.2.1 y.2.2.1 y.2.2.2:=by rw[<- hy];exact hm3
 obtain⟨h4,st4,a4,k4⟩:=(a12.keep k3 id).stPre (A:=mvC x.1) (B:=mvC y) (zBB w) (zBB wy) (zFP hmy)
 rw[st4,zAW]
 have a4':At h4 H.size (pvC (y,x.2.1,x.2.2)):=a4
 rw[a4'.ld (i:=8) (zS3 (x:=(y,x.2.1,x.2.2)) wy),zAa]
 obtain⟨h5,st5,a5,k5⟩:=a4'.st1 (i:=8) (v := .slice none 0 0) (by rw[zD1 wy];omega) rfl
 rw[zAd1 (zs:=[]) wy]at a5
 rw[st5,zAW]
 have k35:Keep (· = H.size) h3 h5:=k4.trans k5
 have g35:=k35.1
 have k05:Keep zAK H h5:=(k02.trans k3).fresh k35 λb hb=>by omega
 have hm5:=hmy.keep k35 λb hb=>by omega
 have a25:At h5 H1.size (pvC zPW):=(a2.keep k3 id).keep k35 (by omega)
 let I:Nat->zAx->Prop:=λi h=>∃ t Fb Q zs,At h H.size (pvC (y,t,zs))/\BufE 1 Fb h t (zHL (zs.map (·.1)))/\(∀ z∈zs,Sl Q h z.1 z.2)/\zs.map (·.2)=(x.2.2.take i).map (·.2)/\(∀ b,Fb b->h5.size<=b/\b<h.size/\¬ Q b)/\(∀ b,Q b->h5.size<=b/\b<h.size)/\Keep (· = H.size) h5 h
 refine zOt (λ_ h=>I x.2.2.length h) (λk6 hk6=>?_) ?_
 ·rw[hx.f.len,zAa]
  refine zKj (λu h=>∃ i:Nat,i<=x.2.2.length/\u = .int .i64 (i:Nat)/\I i h) (λu _=>match u with | .int _ t=>x.2.2.length-t.toNat|_=>0) ⟨0,zAz _,rfl,.slice none 0 0,λ_=>False,λ_=>False,[],a5,BufE.nil,λz hz=>(by cases hz),rfl,λb h=>h.elim,λb h=>h.elim,Keep.refl⟩ ?_
  rintro _ h9 ⟨i,hi,rfl,t,Fb,Q,zs,a9,b9,e9,hz,hF,hQ,k9⟩ k8 hk8
  rw[zNZ,zAa,zAl]
  by_cases hlt:i<x.2.2.length
  rotate_left
  ·rw[if_neg (by simpa using hlt)]
   obtain rfl:i=x.2.2.length:=by omega
   exact hk6 _ _ ⟨t,Fb,Q,zs,a9,b9,e9,hz,hF,hQ,k9⟩
  rw[if_pos (by simpa using hlt)]
  have hg:x.2.2[i]? = some x.2.2[i]:=zAj hlt
  have hmem:=zAH hlt
  generalize x.2.2[i]=z at *
  have k09:Keep zAK H h9:=k05.fresh k9 λb hb=>by omega
  have g9:=k9.1
  obtain⟨slz,p,hix,hld⟩:=(hx.f.keep k09 (λ_ _=>id) (λ_ _=>id)).at hg
  have hzl:zs.length=i:=by
   have:=congrArg List.length hz
   rw[zAd,zAd,zA4]at this;omega
  have d8:ld1 h9 (Ptr H.size 8)=some t:=a9.ld (zS3 (x:=(y,t,zs)) wy)
  have hsn:=hx.sn
  rw[hix .i64,zAa,hld,zAa,d8,zAa]
  refine zAI (zZZ (F:=λb=>h9.size<=b) slz (by have:=hx.sb z hmem;omega) λb hb=>hb) ?_
  rintro u h10 ⟨bu,k10⟩
  have g10:=k10.1
  have k10':Keep zAK h9 h10:=⟨k10.1,λb hb _=>k10.2 b hb (by omega)⟩
  have bu':Buf (λb=>h9.size<=b/\b<h10.size) h10 u z.2:=bu.re λb h1 h2=>⟨h2,h1⟩
  have a10:=a9.keep k10' id
  rw[a10.ld (zS3 (x:=(y,t,zs)) wy),zBp,zA8]
  obtain⟨ua,uc,hu,_⟩:=bu'.sl.sl
  have hbs:zF6 prg zEv 1 [(0,u)]=some #[u]:=by rw[hu];exact zAiv
  rw[hbs,zCo]
  generalize hH11:h10.push (.cells #[u] zEv (0,0))=h11
  have k11:Keep zAK h10 h11:=by rw[<- hH11];exact Keep.push
  have g11:h11.size=h10.size+1:=by rw[<- hH11];simp
  have a11:=a10.keep k11 id
  rw[a11.ld (zS3 (x:=(y,t,zs)) wy),zBp,zA8]
  have hx11:SlE 1 (· = h10.size) h11 (.slice (some ⟨h10.size,0,none⟩) 1 1) [[u]]:=⟨⟨_,1,rfl,zAh _,.inr ⟨h10.size,0,rfl,rfl,by show Pt h11 h10.size 0 [u];rw[<- hH11];exact Pt.of zCj⟩⟩,λx hx=>by simp at hx;subst hx;rfl,λx hx c hc=>by simp at hx;subst hx;simp at hc;subst hc;exact bu'.sl.one⟩
  have k911:=k10'.trans k11
  refine((b9.keep k911 λ_ _=>id).mono (G:=λb=>Fb b\/h11.size<=b) λb hb => .inl hb).app hx11 (by omega) (by rw[zUb,zAd,zBc];omega) (.inr (zAh _)) λt24 h12 b12 k12=>?_
  have g12:=k12.1
  have lH:H.size<h9.size:=a9.lt
  have a12':=a11.keep k12 λhh=>hh.elim (λhh=>by have:=(hF _ hh).1;omega) λhh=>by omega
  obtain⟨h13,st13,a13,k13⟩:=a12'.st1 (i:=8) (v:=t24) (by rw[zD1 wy];omega) b12.sl.oneC
  rw[zAd1 (zs:=zs++[(u,z.2)]) wy]at a13
  rw[st13,zAW,zBV (by omega),zAa]
  have g13:=k13.1
  refine hk8 _ _ ⟨i+1,by omega,rfl,t24,λb=>(Fb b\/h11.size<=b)/\b<h12.size,λb=>Q b\/(h9.size<=b/\b<h10.size),zs++[(u,z.2)],a13,?_,?_,?_,?_,?_,?_⟩ (by show x.2.2.length-(i+1)<x.2.2.length-i;omega)
  ·have e:zHL ((zs++[(u,z.2)]).map (·.1))=zHL (zs.map (·.1))++[[u]]:=by simp[zHL]
   rw[e]
   exact(BufE.re b12 λb hb hF=>⟨hF,hb⟩).keep k13 λb hb e=>by
    subst e
    rcases hb.1 with h|h
    ·have:=(hF _ h).1;omega
    ·omega
  ·intro z' hz'
   have kA:∀ {b},(Q b\/(h9.size<=b/\b<h10.size))->¬ (Fb b\/h11.size<=b):=λ{b} hb hh=>by
    rcases hb with hb|hb<;>rcases hh with hh|hh
    ·exact(hF b hh).2.2 hb
    ·have:=hQ b hb;omega
    ·have:=hF b hh;omega
    ·omega
   have kB:∀ {b},(Q b\/(h9.size<=b/\b<h10.size))->b≠H.size:=λ{b} hb e=>by
    rcases hb with hb|hb
    ·have:=hQ b hb;omega
    ·omega
   rcases zAp.1 hz' with hz'|hz'
   ·exact(((((e9 z' hz').keep k911 λ_ _=>id).mono (Q:=λb=>Q b\/(h9.size<=b/\b<h10.size)) λb hb => .inl hb).keep k12 λb hb=>kA hb)).keep k13 λb hb=>kB hb
   ·rw[zAD.1 hz']
    exact(((bu'.sl.keep k11 λ_ _=>id).mono (Q:=λb=>Q b\/(h9.size<=b/\b<h10.size)) λb hb => .inr hb).keep k12 λb hb=>kA hb).keep k13 λb hb=>kB hb
  ·rw[zAF,hz,zAG,hg,zAF];rfl
  ·intro b hb
   refine⟨?_,by have:=hb.2;omega,λhq=>?_⟩
   ·rcases hb.1 with h|h
    ·exact(hF b h).1
    ·omega
   ·rcases hb.1 with h|h<;>rcases hq with hq|hq
    ·exact(hF b h).2.2 hq
    ·have:=hF b h;omega
    ·have:=hQ b hq;omega
    ·omega
  ·intro b hb
   rcases hb with hb|hb
   ·have:=hQ b hb;omega
   ·omega
  ·refine((k9.trans (k911.mono λ_ _ h=>h.elim)).fresh' k12 λb hb => .inr ?_).trans k13
   rcases hb with h|h
   ·exact(hF b h).1
   ·omega
 ·rintro _ h7 ⟨t,Fb,Q,zs,a7,b7,e7,hz,hF,hQ,k7⟩
  have g7:=k7.1
  rw[zAr (zAh _)]at hz
  have hsz:∀ b,(H2.size<=b/\b<h3.size)->¬ b=H.size:=λb hb=>by omega
  have hpk:PkV (λb=>H2.size<=b/\b<h7.size) h7 (y,t,zs):=by
   refine⟨(hm5.keep k7 hsz).mono λb hb=>by omega,⟨b7.sl.mono λb hb=>?_,λz hz=>(e7 z hz).mono λb hb=>?_⟩,by rw[hy1];exact hx.sd,by rw[hy1];exact hx.sc,by rw[hy1];exact hx.sf,?_,λz hz'=>?_⟩
   ·have:=hF b hb;omega
   ·have:=hQ b hb;omega
   ·have:=congrArg List.length hz
    rw[zAd,zAd]at this
    have:=hx.sn
    show zs.length<=1000
    omega
   ·have:z.2∈x.2.2.map (·.2):=by rw[<- hz];exact zAo.2 ⟨z,hz',rfl⟩
    obtain⟨z2,h1,h2⟩:=zAo.1 this
    rw[<- h2];exact hx.sb z2 h1
  have a27:At h7 H1.size (pvC zPW):=a25.keep k7 (by omega)
  obtain⟨h14,st14,a14,k14⟩:=a27.st (n:=9) (ds:=pvC (y,t,zs)) (zD1 zOr) (zD1 wy) hpk.one
  rw[a7.ldN (zD1 wy),zAa,st14,zAW,a14.ldN (zD1 wy),zAa]
  have g14:=k14.1
  have k514:Keep (λb=>b=H.size\/b=H1.size) h5 h14:=(k7.mono λ_ _ h => .inl h).trans (k14.mono λ_ _ h => .inr h)
  refine⟨⟨(y,t,zs),rfl,?_,(hpk.keep k14 λb hb=>by omega).mono λb hb=>by omega⟩,k05.fresh k514 λb hb=>by omega⟩
  show(y.1,zs.map (·.2))=(x.1.1,x.2.2.map (·.2))
  rw[hy1,hz]
abbrev No:zA1:=λ_=>False
theorem zWO {a:Bool}{H:zAx}{yes:(zAm)->Prop}{K:Value->zAm}(ht:a=true->K undef (.bool true) H)(hf:a=false->yes λt h=>K t t h) :
  J1 (λk=>Mif (.bool a) false (yes k) (k undef H)) λt h=>Mpu (zBD (.bool a) (.bool true) t) λu=>K t u h:=by
 cases a
 ·have e:(λt h=>Mpu (zBD (.bool false) (.bool true) t) λu=>K t u h)=λt h=>K t t h:=by
   funext t h;exact propext zAa
  rw[e];exact zDo rfl (hf rfl)
 ·exact zId (by decide) (zAa.2 (ht rfl))
theorem zLZ {a:Bool}{H:zAx}{yes:(zAm)->Prop}{K:Value->zAm}(ht:a=true->yes λt h=>K t t h)(hf:a=false->K undef (.bool false) H) :
  J1 (λk=>Mif (.bool a) true (yes k) (k undef H)) λt h=>Mpu (zBD (.bool a) t (.bool false)) λu=>K t u h:=by
 cases a
 ·exact zId (by decide) (zAa.2 (hf rfl))
 ·have e:(λt h=>Mpu (zBD (.bool true) t (.bool false)) λu=>K t u h)=λt h=>K t t h:=by
   funext t h;exact propext zAa
  rw[e];exact zDo rfl (ht rfl)
theorem zNn {a:Bool}{yes no:Prop}(h:a=true)(k:yes):Mcd (.bool a) yes no:=by subst h;exact zAl.2 (by rw[if_pos rfl];exact k)
theorem zNX {a:Bool}{yes no:Prop}(h:a=false)(k:no):Mcd (.bool a) yes no:=by subst h;exact zAl.2 (by rw[if_neg (by decide)];exact k)
theorem zRn {a:Bool}{yes no:Prop}(h:a=true->yes)(k:a=false->no):Mcd (.bool a) yes no:=by
 cases a
 ·exact zNX rfl (k rfl)
 ·exact zNn rfl (h rfl)
theorem zBP {o:Option Value}{v:Value}{K:Value->Prop}(h:o=some v)(k:K v):Mpu o K:=⟨v,h,k⟩
theorem range_i {v:Value}{n:Nat}{H:zAx}{B:(zAm)->(zAm)->zAm}{R:zAm}(hl:lenV v=some (.int .i64 (n:Nat)))(I:Nat->zAx->Prop)(E:zAx->Prop)(h0:I 0 H)(hE:∀ h,I n h->E h)
  (hs:∀ i h,i<n->I i h->∀ k1 k3:zAm,(∀ t h',E h'->k1 t h')->(∀ h',I (i+1) h'->k3 (.int .i64 ((i+1:Nat):Int)) h')->B k1 k3 (.int .i64 (i:Nat)) h) (hr:∀ t h,E h->R t h) :
  J1 (λk1=>Mpu (lenV v) λm=>L1 (λk3 t h=>Mpu (zAB .no .lss t m) λc=>Mcd c (B k1 k3 t h) (k1 t h)) (.int .i64 0) H) R:=by
 refine zOt (λ_ h=>E h) (λk1 hk1=>?_) hr
 rw[hl,zAa]
 refine zKj (λu h=>∃ i:Nat,i<=n/\u = .int .i64 (i:Nat)/\I i h) (λu _=>match u with | .int _ t=>n-t.toNat|_=>0) ⟨0,zAz _,rfl,h0⟩ ?_
 rintro _ h ⟨i,hi,rfl,hI⟩ k3 hk3
 rw[zNZ,zAa,zAl]
 by_cases hlt:i<n
 ·rw[if_pos (by simpa using hlt)]
  exact hs i h hlt hI k1 k3 hk1 λh' hI'=>hk3 _ _ ⟨i+1,by omega,rfl,hI'⟩ (by show n-(i+1)<n-i;omega)
 ·rw[if_neg (by simpa using hlt)]
  obtain rfl:i=n:=by omega
  exact hk1 _ _ (hE _ hI)
theorem zTJ {v a:Value}{n:Nat}{H:zAx}{B:(Value->zAm)->(Value->zAm)->Value->zAm}{R:Value->zAm}(hl:lenV v=some (.int .i64 (n:Nat)))(I:Nat->zAm)(E:zAm)(h0:I 0 a H)(hE:∀ w h,I n w h->E w h)
  (hs:∀ i w h,i<n->I i w h->∀ k1 k3:Value->zAm,(∀ w' t h',E w' h'->k1 w' t h')->(∀ w' h',I (i+1) w' h'->k3 w' (.int .i64 ((i+1:Nat):Int)) h')->B k1 k3 w (.int .i64 (i:Nat)) h) (hr:∀ w t h,E w h->R w t h) :
  J2 (λk1=>Mpu (lenV v) λm=>L2 (λk3 w t h=>Mpu (zAB .no .lss t m) λc=>Mcd c (B k1 k3 w t h) (k1 w t h)) a (.int .i64 0) H) R:=by
 refine zMk (λw _ h=>E w h) (λk1 hk1=>?_) hr
 rw[hl,zAa]
 refine zUY (λw u h=>∃ i:Nat,i<=n/\u = .int .i64 (i:Nat)/\I i w h) (λ_ u _=>match u with | .int _ t=>n-t.toNat|_=>0) ⟨0,zAz _,rfl,h0⟩ ?_
 rintro w _ h ⟨i,hi,rfl,hI⟩ k3 hk3
 rw[zNZ,zAa,zAl]
 by_cases hlt:i<n
 ·rw[if_pos (by simpa using hlt)]
  exact hs i w h hlt hI k1 k3 hk1 λw' h' hI'=>hk3 _ _ _ ⟨i+1,by omega,rfl,hI'⟩ (by show n-(i+1)<n-i;omega)
 ·rw[if_neg (by simpa using hlt)]
  obtain rfl:i=n:=by omega
  exact hk1 _ _ _ (hE _ _ hI)
theorem zAhi {n:Nat}{H:zAx}{B:(zAm)->zAm}{X:zAm}(I:Nat->zAx->Prop)(h0:I 0 H)(hr:∀ h,I n h->X (.int .i64 (n:Nat)) h)
  (hs:∀ i h,i<n->I i h->∀ k3:zAm,(∀ h',I (i+1) h'->k3 (.int .i64 ((i+1:Nat):Int)) h')->B k3 (.int .i64 (i:Nat)) h) :
  L1 (λk3 t h=>Mpu (zAB .no .lss t (.int .i64 (n:Nat))) λc=>Mcd c (B k3 t h) (X t h)) (.int .i64 0) H:=by
 refine zKj (λu h=>∃ i:Nat,i<=n/\u = .int .i64 (i:Nat)/\I i h) (λu _=>match u with | .int _ t=>n-t.toNat|_=>0) ⟨0,zAz _,rfl,h0⟩ ?_
 rintro _ h ⟨i,hi,rfl,hI⟩ k3 hk3
 rw[zNZ,zAa,zAl]
 by_cases hlt:i<n
 ·rw[if_pos (by simpa using hlt)]
  exact hs i h hlt hI k3 λh' hI'=>hk3 _ _ ⟨i+1,by omega,rfl,hI'⟩ (by show n-(i+1)<n-i;omega)
 ·rw[if_neg (by simpa using hlt)]
  obtain rfl:i=n:=by omega
  exact hr _ hI
theorem zAkS {v:Value}{n s:Nat}{H:zAx}{B:(zAm)->zAm}{X:zAm}(hl:lenV v=some (.int .i64 (n:Nat)))(I:Nat->zAx->Prop)(h0:I s H)(hr:∀ i h,n<=i->I i h->X (.int .i64 (i:Nat)) h)
  (hs:∀ i h,s<=i->i<n->I i h->∀ k3:zAm,(∀ h',I (i+1) h'->k3 (.int .i64 ((i+1:Nat):Int)) h')->B k3 (.int .i64 (i:Nat)) h) :
  L1 (λk3 t h=>Mpu (lenV v) λm=>Mpu (zAB .no .lss t m) λc=>Mcd c (B k3 t h) (X t h)) (.int .i64 (s:Nat)) H:=by
 refine zKj (λu h=>∃ i:Nat,s<=i/\u = .int .i64 (i:Nat)/\I i h) (λu _=>match u with | .int _ t=>n-t.toNat|_=>0) ⟨s,zAh _,rfl,h0⟩ ?_
 rintro _ h ⟨i,hi,rfl,hI⟩ k3 hk3
 rw[hl,zAa,zNZ,zAa,zAl]
 by_cases hlt:i<n
 ·rw[if_pos (by simpa using hlt)]
  exact hs i h hi hlt hI k3 λh' hI'=>hk3 _ _ ⟨i+1,by omega,rfl,hI'⟩ (by show n-(i+1)<n-i;omega)
 ·rw[if_neg (by simpa using hlt)]
  exact hr i h (by omega) hI
theorem zAhj {v a:Value}{n s:Nat}{H:zAx}{B:(Value->zAm)->Value->zAm}{X:Value->zAm}(hl:lenV v=some (.int .i64 (n:Nat)))(I:Nat->zAm)(h0:I s a H)(hr:∀ i w h,n<=i->I i w h->X w (.int .i64 (i:Nat)) h)
  (hs:∀ i w h,s<=i->i<n->I i w h->∀ k3:Value->zAm,(∀ w' h',I (i+1) w' h'->k3 w' (.int .i64 ((i+1:Nat):Int)) h')->B k3 w (.int .i64 (i:Nat)) h) :
  L2 (λk3 w t h=>Mpu (lenV v) λm=>Mpu (zAB .no .lss t m) λc=>Mcd c (B k3 w t h) (X w t h)) a (.int .i64 (s:Nat)) H:=by
 refine zUY (λw u h=>∃ i:Nat,s<=i/\u = .int .i64 (i:Nat)/\I i w h) (λ_ u _=>match u with | .int _ t=>n-t.toNat|_=>0) ⟨s,zAh _,rfl,h0⟩ ?_
 rintro w _ h ⟨i,hi,rfl,hI⟩ k3 hk3
 rw[hl,zAa,zNZ,zAa,zAl]
 by_cases hlt:i<n
 ·rw[if_pos (by simpa using hlt)]
  exact hs i w h hi hlt hI k3 λw' h' hI'=>hk3 _ _ _ ⟨i+1,by omega,rfl,hI'⟩ (by show n-(i+1)<n-i;omega)
 ·rw[if_neg (by simpa using hlt)]
  exact hr i w h (by omega) hI
theorem zWP {n:Nat}{a:Value}{H:zAx}{B:(Value->zAm)->Value->zAm}{X:Value->zAm}(I:Nat->zAm)(h0:I 0 a H)(hr:∀ w h,I n w h->X w (.int .i64 (n:Nat)) h)
  (hs:∀ i w h,i<n->I i w h->∀ k3:Value->zAm,(∀ w' h',I (i+1) w' h'->k3 w' (.int .i64 ((i+1:Nat):Int)) h')->B k3 w (.int .i64 (i:Nat)) h) :
  L2 (λk3 w t h=>Mpu (zAB .no .lss t (.int .i64 (n:Nat))) λc=>Mcd c (B k3 w t h) (X w t h)) a (.int .i64 0) H:=by
 refine zUY (λw u h=>∃ i:Nat,i<=n/\u = .int .i64 (i:Nat)/\I i w h) (λ_ u _=>match u with | .int _ t=>n-t.toNat|_=>0) ⟨0,zAz _,rfl,h0⟩ ?_
 rintro w _ h ⟨i,hi,rfl,hI⟩ k3 hk3
 rw[zNZ,zAa,zAl]
 by_cases hlt:i<n
 ·rw[if_pos (by simpa using hlt)]
  exact hs i w h hlt hI k3 λw' h' hI'=>hk3 _ _ _ ⟨i+1,by omega,rfl,hI'⟩ (by show n-(i+1)<n-i;omega)
 ·rw[if_neg (by simpa using hlt)]
  obtain rfl:i=n:=by omega
  exact hr _ _ hI
theorem zAaI {n sz n0:Nat}{T:TypeId}{h:zAx}{acc:Value}{xs:List (List Value)}{x:List Value}{y:Value}{K:zAm}(b:BufE n (λb=>n0<=b) h acc xs)(hbs:zF6 prg T 1 [(0,y)]=some x.toArray)(hx:x.length=n)(h1:∀ c∈x,c.oneCell'=true)(h0:0<sz)(hl:(xs.length+1)*sz<=140737488355328)(hn:n0<=h.size)
  (hk:∀ u h',BufE n (λb=>n0<=b) h' u (xs++[x])->Keep (λb=>n0<=b) h h'->K u h'):zD2 h T 1 (zF6 prg T 1 [(0,y)]) λt h7=>zIw T n sz h7 acc t K:=by
 rw[hbs,zCo]
 have hr:SlE n (· = h.size) (h.push (.cells x.toArray T (0,0))) (.slice (some ⟨h.size,0,none⟩) 1 1) [x] :=
  ⟨⟨_,1,rfl,zAh _,.inr ⟨h.size,0,rfl,rfl,by rw[zA5,zCp,zAP];exact Pt.of zCj⟩⟩,by simpa using hx,by simpa using h1⟩
 have kp:Keep No h (h.push (.cells x.toArray T (0,0))):=Keep.push
 refine(b.keep kp λ_ _=>id).app hr h0 (by simpa using hl) (by show n0<=_;simp;omega) λu h' bu ku=>hk u h' bu ((kp.mono λ_ _ h=>h.elim).trans ku)
theorem zAd2 {n sz:Nat}{F:zA1}{T:TypeId}{h:zAx}{acc:Value}{xs:List (List Value)}{x:List Value}{y:Value}{K:zAm}(b:BufE n F h acc xs)(hbs:zF6 prg T 1 [(0,y)]=some x.toArray)(hx:x.length=n)(h1:∀ c∈x,c.oneCell'=true)(h0:0<sz)(hl:(xs.length+1)*sz<=140737488355328)
  (hk:∀ u h',BufE n (λb=>F b\/(h.size<=b/\b<h'.size)) h' u (xs++[x])->Keep (λb=>F b\/h.size<=b) h h'->K u h'):zD2 h T 1 (zF6 prg T 1 [(0,y)]) λt h7=>zIw T n sz h7 acc t K:=by
 rw[hbs,zCo]
 have hr:SlE n (· = h.size) (h.push (.cells x.toArray T (0,0))) (.slice (some ⟨h.size,0,none⟩) 1 1) [x] :=
  ⟨⟨_,1,rfl,zAh _,.inr ⟨h.size,0,rfl,rfl,by rw[zA5,zCp,zAP];exact Pt.of zCj⟩⟩,by simpa using hx,by simpa using h1⟩
 have kp:Keep No h (h.push (.cells x.toArray T (0,0))):=Keep.push
 refine((b.keep kp λ_ _=>id).mono (G:=λb=>F b\/h.size<=b) λ_ => .inl).app hr h0 (by simpa using hl) (.inr (by simp)) λu h' bu ku=>hk u h' (BufE.re bu λb hb hF=>hF.imp id λhF=>⟨hF,hb⟩) ((kp.mono λ_ _ h=>h.elim).trans ku)
theorem zLC {i n:Nat}{K:Value->Prop}(hi:i<n)(hn:n<=9223372036854775807)(h:K (.int .i64 ((i+1:Nat):Int))):Mpu (zAB .no .add (.int .i64 (i:Nat)) (.int .i64 1)) K:=by
 have e:zAB .no .add (.int .i64 (i:Nat)) (.int .i64 1)=some (.int .i64 ((i+1:Nat):Int)):=by
  rw[zAJ];simp only[zC8];rw[zCe (by omega) (by omega)];rfl
 rw[e,zAa];exact h
theorem zAex {n:Nat}{T:TypeId}{P:zA1}{h:zAx}{v:Value}{xs:List (List Value)}{c:List Value}{i:Nat}{zc:Option (Array Value)}{z:List Value}{K:zAm}(hv:SlE n P h v xs)(hi:xs[i]? = some c)(hz:zc=some z.toArray)(hzl:z.length=n)
  (hk:∀ h',At h' h.size c->Keep No h h'->K (Ptr h.size 0) h'):Mpu (ixS n v (.int .i64 (i:Nat))) λp=>Mpu (ldN n h p) λa=>zDC h T zc λt h7=>Mwr (stN n h7 t a) λh8=>K t h8:=by
 have hm:=zAC hi
 obtain⟨b,o,hix,hpt,_⟩:=hv.at hi
 rw[hix .i64,zAa,hpt.agg (hv.el c hm),zAa,hz,zBb]
 have k7:Keep No h (h.push (.cells z.toArray T (0,0))):=Keep.push
 obtain⟨h8,st8,a8,k8⟩:=(At.push (cs:=z) (T:=T) (h:=h)).st (n:=n) (ds:=c) hzl (hv.el c hm) (hv.one c hm)
 show Mwr (stN n _ (Ptr h.size 0) _) _
 rw[st8,zAW]
 exact hk h8 a8 (k7.fresh k8 λb e=>by omega)
theorem zAkT {n:Nat}{T:TypeId}{h:zAx}{c z:List Value}{zc:Option (Array Value)}{K:zAm}(hz:zc=some z.toArray)(hzl:z.length=n)(hc:c.length=n)(h1:∀ x∈c,x.oneCell'=true)
  (hk:∀ h',At h' h.size c->Keep No h h'->K (Ptr h.size 0) h'):zDC h T zc λt h7=>Mwr (stN n h7 t (.agg c.toArray)) λh8=>K t h8:=by
 rw[hz,zBb]
 have k7:Keep No h (h.push (.cells z.toArray T (0,0))):=Keep.push
 obtain⟨h8,st8,a8,k8⟩:=(At.push (cs:=z) (T:=T) (h:=h)).st (n:=n) (ds:=c) hzl hc h1
 show Mwr (stN n _ (Ptr h.size 0) _) _
 rw[st8,zAW]
 exact hk h8 a8 (k7.fresh k8 λb e=>by omega)
theorem zAmr {T:TypeId}{h:zAx}{z:List Value}{zc:Option (Array Value)}{K:zAm}(hz:zc=some z.toArray)(hk:∀ h',At h' h.size z->Keep No h h'->K (Ptr h.size 0) h'):zDC h T zc K:=by
 rw[hz,zBb];exact hk _ At.push Keep.push
theorem zAnA {body:(Value->Value->Value->Value->zAm)->Prop}{rest:Value->Value->Value->Value->zAm}(I:zAx->Prop)(h1:∀ k:Value->Value->Value->Value->zAm,(∀ a b c d e h,I h->k a b c d e h)->body k)(h2:∀ a b c d e h,I h->rest a b c d e h):J5 body rest :=
 zAjK.2 (h1 rest h2)
end Go.Proofs.YticdfkoncnnmmaaGreatDoor
