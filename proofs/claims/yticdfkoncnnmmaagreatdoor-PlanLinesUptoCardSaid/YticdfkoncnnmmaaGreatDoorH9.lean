import Derived.Test.YticdfkoncnnmmaaGreatDoorH7
import Derived.Test.YticdfkoncnnmmaaGreatDoorG9
import Derived.Test.YticdfkoncnnmmaaGreatDoorG1
set_option linter.unusedSimpArgs false
set_option linter.unusedVariables false
set_option maxRecDepth 100000
namespace Go.Proofs.YticdfkoncnnmmaaGreatDoor
open Go.X Go.X.Diff Go.MapKept
structure zNM (P:zA2)(H:zAw)(v:Value)(mv:List MV):Prop where
 h:SlE 8 P H v (mv.map mvC)
 m:∀ x∈mv,zMf P H x.1 x.2.1 x.2.2.1 x.2.2.2
 sm:∀ x∈mv,x.1.deps.length<=1000/\x.1.conf.length<=1000
theorem zNM.keep {P S:zA2}{H H':zAw}{v:Value}{mv:List MV}(h:zNM P H v mv)(k:Keep S H H')(hs:∀ b,P b->¬ S b):zNM P H' v mv:=⟨h.h.keep k hs,λx hx=>(h.m x hx).keep k hs,h.sm⟩
theorem zNM.len {P:zA2}{H:zAw}{v:Value}{mv:List MV}(h:zNM P H v mv):zDD v=some (.int .i64 mv.length):=by have:=h.h.len;rwa [zAf]at this
theorem zNM.at {P:zA2}{H:zAw}{v:Value}{mv:List MV}(h:zNM P H v mv){i:Nat}{x:MV}(hx:mv[i]? = some x):zMf P H x.1 x.2.1 x.2.2.1 x.2.2.2/\∃ b o,(∀ q,ixS 8 v (.int q i)=some (Ptr b o))/\Pt H b o (mvC x)/\P b :=
 ⟨h.m x (zAB hx),h.h.at (by rw[zAp,hx];rfl)⟩
theorem zAlP {q r:Nat}:zCV prg zIu [(0,.map (some q)),(1,.map (some r))]=some (.agg #[.map (some q),.map (some r)]):=by
 have k:zMu prg zIu=some ([(0,1),(1,1)],[Value.map none,Value.map none].toArray):=by kernel_rfl
 rw[zIv k];rfl
theorem zAfx {P:zA2}{H:zAw}{v:Value}{mv:List MV}(hp:zNM P H v mv)(hP:∀ b,P b->b<H.size)(hl:mv.length<=1000)(hO:zQR H) :
  zAz prg zQE [v] H λu H'=>(∃ w,u = .tuple #[w,.int .i64 (zWm [] [] (zBR mv))])/\Keep zAM H H':=by
 apply zRk
 unfold zSJ
 refine zT8 ?_
 generalize hH1:H.push (.map #[] 0)=H1
 have k1:Keep zAM H H1:=by rw[<- hH1];exact Keep.push
 have m1:zZW H1 H.size []:=by rw[<- hH1];exact zOf.new
 have s1:H1.size=H.size+1:=by rw[<- hH1];simp
 refine zT8 ?_
 generalize hH2:H1.push (.map #[] 0)=H2
 have k2:Keep zAM H1 H2:=by rw[<- hH2];exact Keep.push
 have m2:zXR H2 H1.size []:=by rw[<- hH2];exact zOf.new
 have s2:H2.size=H1.size+1:=by rw[<- hH2];simp
 rw[zAlP,zAa]
 simp only[zB1,zBa]
 generalize hH3:H2.push (.cells #[.map (some H.size),.map (some H1.size)] zIu (0,0))=H3
 have k3:Keep zAM H2 H3:=by rw[<- hH3];exact Keep.push
 have a3:At H3 H2.size [.map (some H.size),.map (some H1.size)]:=by rw[<- hH3];exact At.push
 have k03:=(k1.trans k2).trans k3
 have g03:=k03.1
 have p3:zPM [] [] H2.size H.size H1.size H3:=⟨a3,(m1.keep k2 id).keep k3 id,m2.keep k3 id,by omega⟩
 have hln:(zBR mv).length=mv.length:=by simp
 let hv:=zBR mv
 refine zNW (λ_ h=>zWm [] [] hv=0/\Keep zAM H h) (λk4 hk4=>?_) ?_
 rotate_left
 ·rintro _ h ⟨e,k⟩
  exact⟨⟨_,by rw[show zWm [] [] (zBR mv)=0 from e]⟩,k⟩
 rw[hp.len,zAa]
 refine zKa (λw h=>∃ i:Nat,i<=mv.length/\w = .int .i64 (i:Nat)/\(∃ ps of,zPM ps of H2.size H.size H1.size h/\zXs ps of/\of.length<=64*i/\zWm [] [] hv=zWm ps of (hv.drop i))/\Keep (λb=>b=H.size\/b=H1.size) H3 h) (λw _=>match w with | .int _ t=>mv.length-t.toNat|_=>0) ⟨0,zAA _,rfl,⟨[],[],p3,zXs.nil,zAh _,rfl⟩,Keep.refl⟩ ?_
 rintro _ h7 ⟨i,hi,rfl,⟨ps,of,p7,hI,hol,he⟩,k7⟩ k6 hk6
 have g7:=k7.1
 have k07:Keep zAM H h7:=k03.fresh k7 λb hb=>by omega
 rw[zOC,zAa,zAl]
 by_cases hlt:i<mv.length
 rotate_left
 ·rw[if_neg (by simpa using hlt)]
  rw[List.drop_of_length_le (by show hv.length<=i;rw[show hv.length=mv.length from hln];omega)]at he
  exact hk4 _ _ ⟨by rw[he];rfl,k07⟩
 rw[if_pos (by simpa using hlt)]
 have hg:mv[i]? = some mv[i]:=zAj hlt
 have hm:=zAG hlt
 have hdr:hv.drop i=mv[i].1::hv.drop (i+1):=by
  have h1:i<hv.length:=by rw[show hv.length=mv.length from hln];exact hlt
  rw[zBF h1]
  congr 1
  simp[hv]
 have hp7:=hp.keep k07 λ_ _=>id
 generalize mv[i]=x at *
 obtain⟨hmx,b,o,hix,hpt,_⟩:=hp7.at hg
 have w:=hmx.wf
 have hsx:=hp.sm x hm
 rw[hix .i64,zAa,zNq hpt w,zAa]
 simp only[zMS,zBa]
 generalize hH8:h7.push (.cells (zGI ⟨[],zEQ,[],[],[]⟩ zCq zCq zCq).toArray zAi (0,0))=h8
 have k8:Keep zAM h7 h8:=by rw[<- hH8];exact Keep.push
 have a8:At h8 h7.size (zGI ⟨[],zEQ,[],[],[]⟩ zCq zCq zCq):=by rw[<- hH8];exact At.push
 obtain⟨h9,st9,a9,k9⟩:=a8.st (n:=8) (ds:=mvC x) (zBK zOD) (zBK w) (zG1 hmx)
 have k79:Keep zAM h7 h9:=k8.fresh k9 λb hb=>by omega
 rw[st9,zAV,a9.ldN (zBK w),zAa]
 have k09:=k07.trans k79
 refine zAJ (zAfw (P:=P) (p7.keep k79 λ_ _=>id) hI (by omega) (hmx.keep k79 λ_ _=>id) (λb hb=>by have:=hP b hb;have:=k09.1;omega) (by omega) (by omega) (hO.keep k09 λ_ h=>h.elim)) ?_
 rintro _ h10 ⟨rfl,hq,k10⟩
 have k010:Keep zAM H h10:=k09.fresh k10 λb hb=>by omega
 rw[neI,zAa,zAl]
 have hee:zWm ps of (x.1::hv.drop (i+1))=if zHx ps of x.1=0 then zWm (ps++[x.1.name]) (zAd8 of x.1) (hv.drop (i+1)) else zHx ps of x.1:=rfl
 rw[hdr,hee]at he
 by_cases h0:zHx ps of x.1=0
 ·rw[if_neg (by simp[h0]),zBV (by omega),zAa]
  rw[if_pos h0]at he
  refine hk6 _ _ ⟨i+1,by omega,rfl,⟨_,_,hq h0,hI.next h0,?_,he⟩,(k7.trans (k79.mono λ_ _ h=>h.elim)).trans k10⟩ (by show mv.length-(i+1)<mv.length-i;omega)
  obtain⟨f1,_,_⟩:=zMT (zZX h0).1
  unfold zAd8
  rw[zAq,zAf];omega
 ·rw[if_pos (by simp[h0])]
  rw[if_neg h0]at he
  exact⟨⟨_,by rw[show zWm [] [] (zBR mv)=_ from he]⟩,k010⟩
theorem zAfy {H:zAw}{x y:MV}:zAz prg zFm [.agg (mvC x).toArray,.agg (mvC y).toArray] H λu H'=>u = .int .i64 (zNo x.1.name y.1.name)/\Keep zAM H H':=by
 apply zQi
 unfold zQt
 simp only[zB1,zBa,zBf,zAg,zAu,zAa]
 generalize hH1:H.push (.cells (mvC x).toArray zAi (0,0))=H1
 have k1:Keep zAM H H1:=by rw[<- hH1];exact Keep.push
 have a1:At H1 H.size (mvC x):=by rw[<- hH1];exact At.push
 generalize hH2:H1.push (.cells (mvC y).toArray zAi (0,0))=H2
 have k2:Keep zAM H1 H2:=by rw[<- hH2];exact Keep.push
 have a2:At H2 H1.size (mvC y):=by rw[<- hH2];exact At.push
 rw[zDd (a1.keep k2 id),zAa,zDd a2,zAa]
 refine zAJ zSN ?_
 rintro _ _ ⟨rfl,rfl⟩
 exact⟨rfl,k1.trans k2⟩
theorem zZZ {H:zAw}{x y:MV}{k:zAn}(hk:∀ h',Keep zAM H h'->k (.int .i64 (zNo x.1.name y.1.name)) h'):zDM prg (.func (.func zFm) #[] #[]) [.agg (mvC x).toArray,.agg (mvC y).toArray] H k :=
 .inl ⟨zFm,#[],#[],rfl,by kernel_rfl,zAz.mono (R:=λu H'=>u = .int .i64 (zNo x.1.name y.1.name)/\Keep zAM H H') zAfy λu h' hR=>by obtain⟨rfl,k'⟩:=hR;exact hk h' k'⟩
def zSr (hv:List Man)(i:Nat):Bool:=decide (i=0) || !decide (zNo (gM hv i).name (gM hv (i-1)).name<0)
def zAit (hv:List Man):Bool:=(List.range hv.length).all (zSr hv)
def zEW (hv:List Man):Bool:=decide (zWm [] [] hv=0)&&zAit hv
theorem zAmA {x:Int}(h1 : -9223372036854775807<=x)(h2:x<=9223372036854775807):zAC .no .sub (.int .i64 x) (.int .i64 1)=some (.int .i64 (x-1)):=by
 rw[zAH];simp only[zC3];rw[zB9 (by omega) (by omega)]
theorem zAaW {P:zA2}{H:zAw}{v:Value}{mv:List MV}(hp:zNM P H v mv)(hl:mv.length<=1000) :
  zAz prg zCC [v,.func (.func zFm) #[] #[]] H λu H'=>u = .bool (zAit (zBR mv))/\Keep zAM H H':=by
 apply zD7
 unfold zDi
 have hln:(zBR mv).length=mv.length:=by simp
 refine zNW (λ_ h=>zAit (zBR mv)=true/\Keep zAM H h) (λk1 hk1=>?_) ?_
 rotate_left
 ·rintro _ h ⟨e,k⟩
  exact⟨by rw[e],k⟩
 rw[hp.len,zAa,zAmA (by omega) (by omega),zAa]
 refine zKa (λw h=>∃ n:Nat,n<=mv.length/\w = .int .i64 ((n:Nat)-1)/\(∀ j,n<=j->j<mv.length->zSr (zBR mv) j=true)/\Keep zAM H h) (λw _=>match w with | .int _ t=>(t+1).toNat|_=>0) ⟨mv.length,zAh _,rfl,λj h1 h2=>by omega,Keep.refl⟩ ?_
 rintro _ h ⟨n,hn,rfl,hall,kh⟩ k3 hk3
 rw[gtI,zAa,zAl]
 by_cases h2:2<=n
 rotate_left
 ·rw[if_neg (by simp;omega)]
  refine hk1 _ _ ⟨?_,kh⟩
  unfold zAit
  rw[zAy]
  intro j hj
  have hj':j<mv.length:=by rw[<- hln];exact zBZ.1 hj
  by_cases h0:j=0
  ·subst h0;rfl
  ·exact hall j (by omega) hj'
 rw[if_pos (by simp;omega)]
 obtain⟨i,rfl⟩:∃ i,n=i+2:=⟨n-2,by omega⟩
 have e1:(((i+2:Nat):Int)-1)=((i+1:Nat):Int):=by omega
 have e2:(((i+1:Nat):Int)-1)=((i:Nat):Int):=by omega
 have hg:mv[i+1]? = some (mv[i+1]'(by omega)):=zAj (by omega)
 have hg':mv[i]? = some (mv[i]'(by omega)):=zAj (by omega)
 generalize mv[i+1]'(by omega)=x at *
 generalize mv[i]'(by omega)=y at *
 have hph:=hp.keep kh λ_ _=>id
 obtain⟨hmx,b,o,hix,hpt,_⟩:=hph.at hg
 obtain⟨hmy,b',o',hix',hpt',_⟩:=hph.at hg'
 rw[e1,hix .i64,zAa,zNq hpt hmx.wf,zAa,zAmA (by omega) (by omega),zAa,e2,hix' .i64,zAa,zNq hpt' hmy.wf,zAa]
 refine zZZ λh5 k5=>?_
 rw[ltI,zAa,zAl]
 have hnd:zSr (zBR mv) (i+1) = !decide (zNo x.1.name y.1.name<0):=by
  unfold zSr
  rw[zAcP hg,Nat.add_sub_cancel,zAcP hg',decide_eq_false (by omega),Bool.false_or]
 cases hc:decide (zNo x.1.name y.1.name<0)
 ·rw[if_neg (by decide),zAa]
  refine hk3 _ _ ⟨i+1,by omega,by rw[e2],λj h1 h2=>?_,kh.trans k5⟩ (by show((i:Int)+1).toNat<(((i+2:Nat):Int)-1+1).toNat;omega)
  by_cases e:j=i+1
  ·subst e;rw[hnd,hc];rfl
  ·exact hall j (by omega) h2
 ·rw[if_pos rfl]
  refine⟨?_,kh.trans k5⟩
  have:zAit (zBR mv)=false:=zRB (i:=i+1) (by rw[hln];omega) (by rw[hnd,hc];rfl)
  rw[this]
theorem zUd {P:zA2}{H:zAw}{v:Value}{mv:List MV}(hp:zNM P H v mv)(hP:∀ b,P b->b<H.size)(hl:mv.length<=1000)(hO:zQR H) :
  zAz prg zNb [v] H λu H'=>u = .bool (zEW (zBR mv))/\Keep zAM H H':=by
 apply zQI
 unfold zRi
 refine zAJ (zAfx hp hP hl hO) ?_
 rintro _ h1 ⟨⟨w,rfl⟩,k1⟩
 have x0:∀ a b:Value,zFg 0 (.tuple #[a,b])=some a:=λ_ _=>rfl
 have x1:∀ a b:Value,zFg 1 (.tuple #[a,b])=some b:=λ_ _=>rfl
 rw[x0,zAa,x1,zAa,eqI,zAa]
 unfold zEW
 by_cases h0:zWm [] [] (zBR mv)=0
 ·rw[decide_eq_true h0,zBh]
  refine zDS rfl ?_
  refine zAJ (zAaW (hp.keep k1 λ_ _=>id) hl) ?_
  rintro _ h3 ⟨rfl,k3⟩
  rw[zAv,if_pos rfl,zAa]
  exact⟨rfl,k1.trans k3⟩
 ·rw[decide_eq_false h0,zA1]
  refine zLF (by decide) ?_
  show Mpu (zBH (.bool false) undef (.bool false)) _
  rw[zAv,if_neg (by decide),zAa]
  exact⟨rfl,k1⟩
end Go.Proofs.YticdfkoncnnmmaaGreatDoor
namespace Go.X
def zUw {α:Type}(p:α->Bool):List α->Nat->Int
 | [],_ => -1
 | x::l,k=>if p x then (k:Int) else zUw p l (k+1)
theorem zXt {α:Type}{p:α->Bool}:∀ {l:List α} {k:Nat},(zUw p l k = -1/\∀ x∈l,p x=false)\/∃ (i:Nat) (x:α),zUw p l k=((k+i:Nat):Int)/\l[i]? = some x/\p x=true/\∀ y∈l.take i,p y=false
 | [],k => .inl ⟨rfl,λx h=>by cases h⟩
 | x::l,k=>by
  unfold zUw
  cases h:p x
  ·rw[if_neg (by decide)]
   rcases zXt (p:=p) (l:=l) (k:=k+1) with ⟨h1,h2⟩|⟨i,y,h1,h2,h3,h4⟩
   ·exact .inl ⟨h1,λy hy=>by
     rcases zAr.1 hy with rfl|hy
     ·exact h
     ·exact h2 y hy⟩
   ·refine .inr ⟨i+1,y,by rw[h1];omega,h2,h3,λz hz=>?_⟩
    rw[zBT]at hz
    rcases zAr.1 hz with rfl|hz
    ·exact h
    ·exact h4 z hz
  ·exact .inr ⟨0,x,by rw[if_pos rfl];rfl,rfl,h,λy hy=>by cases hy⟩
def zAgL (P:Program)(n:Nat)(t0 t1:Value)(H:zAw)(R:zAn):Prop :=
 J1 (λk1=>Mpu (zDD t0) λt7=>L1 (λk3=>λt8 h4=>Mpu (zAC .no .lss t8 t7) λt9=>Mcd t9 (
  Mpu (ixS n t0 t8) λt14=>Mpu (ldN n h4 t14) λt15=>zDM P t1 [t15] h4 λt16 h5=>Mcd t16 (R t8 h5) (
   Mpu (zAC .no .add t8 (.int .i64 1)) λt18=>k3 t18 h5)) (k1 t8 h4)) ((.int .i64 0)) H) λ_ h2=>R (.int .i64 (-1)) h2
def zAgM (n:Nat)(K:EqK)(t0 t1:Value)(H:zAw)(R:zAn):Prop :=
 Mpu (zDD t0) λt7=>Mpu (zDD t1) λt9=>Mpu (zAC .no .neq t7 t9) λt10=>Mcd t10 (R (.bool false) H) (
  J1 (λk1=>Mpu (zDD t0) λt12=>L1 (λk3=>λt13 h4=>Mpu (zAC .no .lss t13 t12) λt14=>Mcd t14 (
   Mpu (ixS n t0 t13) λt18=>Mpu (ldN n h4 t18) λt19=>Mpu (ixS n t1 t13) λt22=>Mpu (ldN n h4 t22) λt23=>Mpu (zAC K .neq t19 t23) λt24=>Mcd t24 (R (.bool false) h4) (
    Mpu (zAC .no .add t13 (.int .i64 1)) λt25=>k3 t25 h4)) (k1 t13 h4)) ((.int .i64 0)) H) λ_ h2=>R (.bool true) h2)
def zAgN (P:Program)(T:TypeId)(n sz:Nat)(t0:Value)(H:zAw)(R:zAn):Prop :=
 Mpu (zAC .slc .eql t0 (.slice none 0 0)) λt4=>Mcd t4 (R (.slice none 0 0) H) (zD1 H T 0 (zGf P T 0 []) λt5 h1=>zIU T n sz h1 t5 t0 λt7 h2=>R t7 h2)
end Go.X
namespace Go.Proofs.YticdfkoncnnmmaaGreatDoor
open Go.X Go.X.Diff Go.MapKept
def zAmB {α:Type}(enc:α->List Value)(fv:Value)(xs:List α)(del:α->Bool)(G:zAw->Prop):Prop:=∀ (x:α) (h:zAw),x∈xs->G h->zDM prg fv [.agg (enc x).toArray] h λu h'=>u = .bool (del x)/\Keep zAM h h'
theorem zYI {α:Type}{enc:α->List Value}{n:Nat}{G:zAw->Prop}{P:zA2}{H:zAw}{v fv:Value}{xs:List α}{del:α->Bool}(hv:SlE n P H v (xs.map enc))(hd:zAmB enc fv xs del G)(hG:∀ h,Keep zAM H h->G h)(hl:xs.length<=1099511627776) :
  zAgL prg n v fv H λu H'=>u = .int .i64 (zUw del xs 0)/\Keep zAM H H':=by
 unfold zAgL
 have hlen:=hv.len
 rw[zAf]at hlen
 refine zNW (λ_ h=>zUw del xs 0 = -1/\Keep zAM H h) (λk1 hk1=>?_) ?_
 rotate_left
 ·rintro _ h ⟨e,k⟩
  exact⟨by rw[e],k⟩
 rw[hlen,zAa]
 refine zKa (λu h=>∃ i:Nat,i<=xs.length/\u = .int .i64 (i:Nat)/\zUw del xs 0=zUw del (xs.drop i) i/\Keep zAM H h) (λu _=>match u with | .int _ t=>xs.length-t.toNat|_=>0) ⟨0,zAA _,rfl,rfl,Keep.refl⟩ ?_
 rintro _ h ⟨i,hi,rfl,he,kh⟩ k hk
 rw[zOC,zAa,zAl]
 by_cases hlt:i<xs.length
 rotate_left
 ·rw[if_neg (by simpa using hlt)]
  rw[List.drop_of_length_le (by omega)]at he
  exact hk1 _ _ ⟨by rw[he];rfl,kh⟩
 rw[if_pos (by simpa using hlt)]
 have hg:xs[i]? = some xs[i]:=zAj hlt
 have hm:=zAG hlt
 rw[zBF hlt]at he
 generalize xs[i]=x at *
 have hx:(xs.map enc)[i]? = some (enc x):=by rw[zAp,hg];rfl
 obtain⟨b,o,hix,hpt,_⟩:=(hv.keep kh λ_ _=>id).at hx
 rw[hix .i64,zAa,hpt.agg (hv.el _ (zAB hx)),zAa]
 refine(hd x h hm (hG h kh)).mono ?_
 rintro _ h5 ⟨rfl,k5⟩
 rw[zAl]
 rw[show zUw del (x::xs.drop (i+1)) i=if del x then (i:Int) else zUw del (xs.drop (i+1)) (i+1) from rfl]at he
 cases hdx:del x
 ·rw[if_neg (by decide),zBV (by omega),zAa]
  rw[hdx,if_neg (by decide)]at he
  exact hk _ _ ⟨i+1,by omega,rfl,he,kh.trans k5⟩ (by show xs.length-(i+1)<xs.length-i;omega)
 ·rw[if_pos rfl]
  rw[hdx,if_pos rfl]at he
  exact⟨by rw[he],kh.trans k5⟩
theorem zAdu {α:Type}[DecidableEq α]{enc:α->List Value}{n:Nat}{K:EqK}{P Q:zA2}{H:zAw}{v w:Value}{xs ys:List α}(hv:SlE n P H v (xs.map enc))(hw:SlE n Q H w (ys.map enc))
  (hne:∀ x∈xs,∀ y∈ys,zAC K .neq (.agg (enc x).toArray) (.agg (enc y).toArray)=some (.bool (!decide (x=y)))) (hl:xs.length<=1099511627776):zAgM n K v w H λu H'=>u = .bool (decide (xs=ys))/\H=H':=by
 unfold zAgM
 have h1:=hv.len
 have h2:=hw.len
 rw[zAf]at h1 h2
 rw[h1,zAa,h2,zAa,zAmp,zAa,zAl]
 by_cases hle:xs.length=ys.length
 rotate_left
 ·rw[if_pos (by simpa using hle)]
  exact⟨by rw[decide_eq_false λe=>hle (by rw[e])],rfl⟩
 rw[if_neg (by simpa using hle)]
 refine zNW (λ_ h=>xs=ys/\H=h) (λk1 hk1=>?_) ?_
 rotate_left
 ·rintro _ h ⟨e,rfl⟩
  exact⟨by rw[decide_eq_true e],rfl⟩
 rw[zAa]
 refine zKa (λu h=>∃ i:Nat,i<=xs.length/\u = .int .i64 (i:Nat)/\xs.take i=ys.take i/\H=h) (λu _=>match u with | .int _ t=>xs.length-t.toNat|_=>0) ⟨0,zAA _,rfl,rfl,rfl⟩ ?_
 rintro _ _ ⟨i,hi,rfl,he,rfl⟩ k hk
 rw[zOC,zAa,zAl]
 by_cases hlt:i<xs.length
 rotate_left
 ·rw[if_neg (by simpa using hlt)]
  rw[zAs (by omega),zAs (by omega)]at he
  exact hk1 _ _ ⟨he,rfl⟩
 rw[if_pos (by simpa using hlt)]
 have hg:xs[i]? = some xs[i]:=zAj hlt
 have hg':ys[i]? = some (ys[i]'(by omega)):=zAj (by omega)
 have hm:=zAG hlt
 have hm':=zAG (show i<ys.length by omega)
 generalize xs[i]=x at *
 generalize ys[i]'(by omega)=y at *
 have hx:(xs.map enc)[i]? = some (enc x):=by rw[zAp,hg];rfl
 have hy:(ys.map enc)[i]? = some (enc y):=by rw[zAp,hg'];rfl
 obtain⟨b,o,hix,hpt,_⟩:=hv.at hx
 obtain⟨b',o',hix',hpt',_⟩:=hw.at hy
 rw[hix .i64,zAa,hpt.agg (hv.el _ (zAB hx)),zAa,hix' .i64,zAa,hpt'.agg (hw.el _ (zAB hy)),zAa,hne x hm y hm',zAa,zAl]
 by_cases e:x=y
 ·rw[if_neg (by simp[e]),zBV (by omega),zAa]
  refine hk _ _ ⟨i+1,by omega,rfl,by rw[zAI,zAI,he,hg,hg',e],rfl⟩ (by show xs.length-(i+1)<xs.length-i;omega)
 ·rw[if_pos (by simp[e])]
  refine⟨?_,rfl⟩
  rw[decide_eq_false]
  rintro rfl
  rw[hg]at hg'
  exact e (zAK hg')
theorem zAdv {n sz:Nat}{T:TypeId}{P:zA2}{H:zAw}{v:Value}{xs:List (List Value)}(b0:zGf prg T 0 []=some #[])(hv:SlE n P H v xs)(hs:0<sz)(hl:xs.length*sz<=140737488355328) :
  zAgN prg T n sz v H λu H'=>BufE n (λb=>H.size<=b/\b<H'.size) H' u xs/\Keep zAM H H':=by
 unfold zAgN
 obtain⟨⟨a,c,rfl,hc,hx⟩,h2,h3⟩:=hv
 cases a with
 | none =>
  have hnil:xs=[]:=by
   rcases hx with h|⟨b,o,h,_⟩
   ·exact h
   ·cases h
  have e:zAC .slc .eql (.slice none xs.length c) (.slice none 0 0)=some (.bool true):=rfl
  rw[e,zAa,zAl,if_pos rfl,hnil]
  exact⟨BufE.nil,Keep.refl⟩
 | some a =>
  have e:zAC .slc .eql (.slice (some a) xs.length c) (.slice none 0 0)=some (.bool false):=rfl
  rw[e,zAa,zAl,if_neg (by decide),b0,zCh]
  generalize hH1:H.push (.cells #[] T (0,0))=H1
  have k1:Keep zAM H H1:=by rw[<- hH1];exact Keep.push
  have n1:H1[H.size]? = some (.cells #[] T (0,0)):=by rw[<- hH1];exact zCa
  have hb:BufE n (H.size <= ·) H1 (.slice (some ⟨H.size,0,none⟩) 0 0) []:=BufE.fresh (cs:=[]) ⟨H.size,rfl,zAh _,n1⟩ (zAh _) (by simp) (λ_ _=>by simp[zUJ]) (by simp) (λx h=>by cases h) (λx h=>by cases h)
  have hv1:SlE n P H1 (.slice (some a) xs.length c) xs:=SlE.keep ⟨⟨_,c,rfl,hc,hx⟩,h2,h3⟩ k1 λ_ _=>id
  refine hb.app hv1 hs (by simpa using hl) (by have:=k1.1;show H.size<=H1.size;omega) λu h2' hu k2=>?_
  rw[zA0]at hu
  have k02:=k1.fresh k2 λb hb=>hb
  exact⟨BufE.re hu λb hb hF=>⟨hF,hb⟩,k02⟩
theorem zVk {P:zA2}{H:zAw}{v:Value}{xs:List (List Value)}(hv:SlE 8 P H v xs)(hl:xs.length<=1000000):zAz prg zCo [v] H λu H'=>BufE 8 (λb=>H.size<=b/\b<H'.size) H' u xs/\Keep zAM H H' :=
 zEM (zAdv (T:=zAi) (sz:=128) (by kernel_rfl) hv (by omega) (by omega))
theorem zYJ {P:zA2}{H:zAw}{v:Value}{xs:List (List Value)}(hv:SlE 34 P H v xs)(hl:xs.length<=1000000):zAz prg zDo [v] H λu H'=>BufE 34 (λb=>H.size<=b/\b<H'.size) H' u xs/\Keep zAM H H' :=
 zFE (zAdv (T:=zBn) (sz:=56) (by kernel_rfl) hv (by omega) (by omega))
theorem zAaX {G:zAw->Prop}{P:zA2}{H:zAw}{v fv:Value}{xs:List MV}{del:MV->Bool}(hv:SlE 8 P H v (xs.map mvC))(hd:zAmB mvC fv xs del G)(hG:∀ h,Keep zAM H h->G h)(hl:xs.length<=1099511627776) :
  zAz prg zCi [v,fv] H λu H'=>u = .int .i64 (zUw del xs 0)/\Keep zAM H H' :=
 zC9 (zYI hv hd hG hl)
instance:DecidableEq Dep:=λa b=>decidable_of_iff (a.name=b.name/\a.want=b.want) (by cases a;cases b;simp)
instance:DecidableEq zHl:=λa b=>decidable_of_iff (a.name=b.name/\a.sum=b.sum/\a.size=b.size) (by cases a;cases b;simp)
theorem zAlQ {x y:Dep}(hx:x.wf)(hy:y.wf):zAC (eqK prg zAL) .neq (.agg (zFl x).toArray) (.agg (zFl y).toArray)=some (.bool (!decide (x=y))):=by
 have q:eqK prg zAL = .flat ([2]++([2]++zAbn)):=by kernel_rfl
 rw[zOp,q]
 show(zCL ([2]++([2]++zAbn)) (zFl x).toArray.toList (zFl y).toArray.toList).map (λb=>Value.bool (!b))=_
 have h1:=zKQ (k1:=[2]) (a1:=[str x.want.op]) (b1:=[str y.want.op]) rfl rfl zMN (zVV hx.want.ver hy.want.ver)
 have h2:=zKQ (k1:=[2]) (a1:=[str x.name]) (b1:=[str y.name]) rfl rfl zMN h1
 rw[zBC,zBC,show zFl x=[str x.name]++([str x.want.op]++zED x.want.ver) from rfl,show zFl y=[str y.name]++([str y.want.op]++zED y.want.ver) from rfl,h2]
 obtain⟨n,⟨o,v⟩⟩:=x
 obtain⟨n',⟨o',v'⟩⟩:=y
 simp
theorem zAkk {x y:zHl}(hx:x.wf)(hy:y.wf):zAC (eqK prg zBn) .neq (.agg (zEg x).toArray) (.agg (zEg y).toArray)=some (.bool (!decide (x=y))):=by
 have q:eqK prg zBn = .flat ([2]++(List.replicate 32 0++[0])):=by kernel_rfl
 rw[zOp,q]
 show(zCL ([2]++(List.replicate 32 0++[0])) (zEg x).toArray.toList (zEg y).toArray.toList).map (λb=>Value.bool (!b))=_
 have hs:zCL (List.replicate 32 0) (zBB x.sum) (zBB y.sum)=some (decide (x.sum=y.sum)):=by
  have:=zRf (l:=x.sum) (m:=y.sum) (by rw[hx.sum,hy.sum])
  rwa [hx.sum]at this
 have hz:zCL [0] [.int .i64 x.size] [.int .i64 y.size]=some (decide (x.size=y.size)):=by
  have:=zSM (k := .i64) (l:=[x.size]) (m:=[y.size]) rfl
  simpa [zCn] using this
 have h1:=zKQ (k1:=List.replicate 32 0) (k2:=[0]) (a1:=zBB x.sum) (b1:=zBB y.sum) (by simp[hx.sum]) (by simp[hy.sum]) hs hz
 have h2:=zKQ (k1:=[2]) (a1:=[str x.name]) (b1:=[str y.name]) rfl rfl zMN h1
 rw[zBC,zBC,show zEg x=[str x.name]++(zBB x.sum++[.int .i64 x.size]) from rfl,show zEg y=[str y.name]++(zBB y.sum++[.int .i64 y.size]) from rfl,h2]
 obtain⟨n,s,z⟩:=x
 obtain⟨n',s',z'⟩:=y
 simp
theorem zAdw {P Q:zA2}{H:zAw}{v w:Value}{xs ys:List Dep}(hv:SlE 6 P H v (xs.map zFl))(hw:SlE 6 Q H w (ys.map zFl))(hx:∀ x∈xs,x.wf)(hy:∀ y∈ys,y.wf)(hl:xs.length<=1099511627776) :
  zAz prg zCX [v,w] H λu H'=>u = .bool (decide (xs=ys))/\H=H' :=
 zFR (zAdu hv hw (λx h y g=>zAlQ (hx x h) (hy y g)) hl)
theorem zAfz {P Q:zA2}{H:zAw}{v w:Value}{xs ys:List zHl}(hv:SlE 34 P H v (xs.map zEg))(hw:SlE 34 Q H w (ys.map zEg))(hx:∀ x∈xs,x.wf)(hy:∀ y∈ys,y.wf)(hl:xs.length<=1099511627776) :
  zAz prg zDn [v,w] H λu H'=>u = .bool (decide (xs=ys))/\H=H' :=
 zFD (zAdu hv hw (λx h y g=>zAkk (hx x h) (hy y g)) hl)
def zUe (x y:Man):Bool:=decide (x.name=y.name)&&decide (x.ver=y.ver)&&decide (x.deps=y.deps)&&decide (x.conf=y.conf)&&decide (x.files=y.files)
theorem zXu {x y:Man}:zUe x y=true↔x=y:=by
 obtain⟨a,b,c,d,e⟩:=x
 obtain⟨a',b',c',d',e'⟩:=y
 unfold zUe
 simp only[zAk,decide_eq_true_eq,Man.mk.injEq]
 exact⟨λ⟨⟨⟨⟨h1,h2⟩,h3⟩,h4⟩,h5⟩=>⟨h1,h2,h3,h4,h5⟩,λ⟨h1,h2,h3,h4,h5⟩=>⟨⟨⟨⟨h1,h2⟩,h3⟩,h4⟩,h5⟩⟩
set_option maxHeartbeats 1000000 in
theorem zVl {P Q:zA2}{H:zAw}{x y:MV}(hx:zMf P H x.1 x.2.1 x.2.2.1 x.2.2.2)(hy:zMf Q H y.1 y.2.1 y.2.2.1 y.2.2.2)(hd:x.1.deps.length<=1099511627776)(hc:x.1.conf.length<=1099511627776)(hf:x.1.files.length<=1099511627776) :
  zAz prg zEP [.agg (mvC x).toArray,.agg (mvC y).toArray] H λu H'=>u = .bool (zUe x.1 y.1)/\Keep zAM H H':=by
 apply zJ4
 unfold zH9
 simp only[zB1,zBa,zBf,zAg,zAu,zAa]
 generalize hH1:H.push (.cells (mvC x).toArray zAi (0,0))=H1
 have k1:Keep zAM H H1:=by rw[<- hH1];exact Keep.push
 have a1:At H1 H.size (mvC x):=by rw[<- hH1];exact At.push
 generalize hH2:H1.push (.cells (mvC y).toArray zAi (0,0))=H2
 have k2:Keep zAM H1 H2:=by rw[<- hH2];exact Keep.push
 have a2:At H2 H1.size (mvC y):=by rw[<- hH2];exact At.push
 have a1':=a1.keep k2 id
 have k02:=k1.trans k2
 have wx:=hx.wf
 have wy:=hy.wf
 have hx2:=hx.keep k02 λ_ _=>id
 have hy2:=hy.keep k02 λ_ _=>id
 obtain⟨g5,g6,g7⟩:=zHm a1' wx
 obtain⟨g5',g6',g7'⟩:=zHm a2 wy
 unfold zUe
 rw[zDd a1',zAa,zDd a2,zAa,zDG,zAa]
 cases q1:decide (x.1.name=y.1.name)
 ·simp only[zBQ,zAO,zAb,if_false,zAv,zAa,zA1]
  exact⟨by trivial,k02⟩
 refine zDS rfl ?_
 rw[zI7 a1' wx,zAa,zI7 a2 wy,zAa,zAe1 wx.ver wy.ver,zAa]
 show Mpu (zBH (.bool true) (.bool (decide (x.1.ver=y.1.ver))) (.bool false)) _
 rw[zAv,if_pos rfl,zAa]
 cases q2:decide (x.1.ver=y.1.ver)
 ·simp only[zBQ,zAO,zAb,if_false,zAv,zAa,zA1,zB8]
  exact⟨by trivial,k02⟩
 refine zDS rfl ?_
 rw[g5,zAa,g5',zAa]
 refine zAJ (zAdw hx2.d hy2.d wx.deps wy.deps hd) ?_
 rintro _ _ ⟨rfl,rfl⟩
 rw[zAv,if_pos rfl,zAa]
 cases q3:decide (x.1.deps=y.1.deps)
 ·simp only[zBQ,zAO,zAb,if_false,zAv,zAa,zA1,zB8]
  exact⟨by trivial,k02⟩
 refine zDS rfl ?_
 rw[g6,zAa,g6',zAa]
 refine zAJ (zAdw hx2.c hy2.c wx.conf wy.conf hc) ?_
 rintro _ _ ⟨rfl,rfl⟩
 rw[zAv,if_pos rfl,zAa]
 cases q4:decide (x.1.conf=y.1.conf)
 ·simp only[zBQ,zAO,zAb,if_false,zAv,zAa,zA1,zB8]
  exact⟨by trivial,k02⟩
 refine zDS rfl ?_
 rw[g7,zAa,g7',zAa]
 refine zAJ (zAfz hx2.f hy2.f wx.files wy.files hf) ?_
 rintro _ _ ⟨rfl,rfl⟩
 rw[zAv,if_pos rfl,zAa]
 exact⟨by simp,k02⟩
theorem zAdx {P:zA2}{H:zAw}{v:Value}{mv:List MV}{nm:List UInt8}(hp:zNM P H v mv)(hl:mv.length<=1099511627776) :
  zAz prg zNc [v,str nm] H λu H'=>u = .int .i64 (zUw (λx:MV=>decide (x.1.name=nm)) mv 0)/\Keep zAM H H':=by
 apply zQJ
 unfold zRj
 have ec:Value.cells (str nm)=[str nm].toArray:=rfl
 rw[ec,zBa]
 generalize hH1:H.push (.cells [str nm].toArray zBd (0,0))=H1
 have k1:Keep zAM H H1:=by rw[<- hH1];exact Keep.push
 have a1:At H1 H.size [str nm]:=by rw[<- hH1];exact At.push
 refine zAJ (zAaX (G:=λh=>At h H.size [str nm]) (hp.h.keep k1 λ_ _=>id) (λx h hx hG=>?_) (λh k=>a1.keep k id) hl) λu h ⟨e,k⟩=>⟨e,k1.trans k⟩
 refine .inl ⟨zKV,#[],#[Ptr H.size 0],rfl,by kernel_rfl,?_⟩
 show zAz prg zKV [.agg (mvC x).toArray,Ptr H.size 0] h _
 apply zPE
 unfold zPD
 simp only[zB1,zBa,zBf,zAg,zAu,zAa]
 have kp:Keep zAM h (h.push (.cells (mvC x).toArray zAi (0,0))):=Keep.push
 have a2:At (h.push (.cells (mvC x).toArray zAi (0,0))) h.size (mvC x):=At.push
 rw[zDd a2,zAa,(At.keep hG kp id).ld (i:=0) rfl,zAa,zDG,zAa]
 exact⟨rfl,kp⟩
def zUf (hv:List Man)(nm:List UInt8):Bool:=hv.any λm=>m.deps.any λd=>decide (d.name=nm)
theorem zAfA {P:zA2}{H:zAw}{v:Value}{mv:List MV}{nm:List UInt8}(hp:zNM P H v mv)(hl:mv.length<=1099511627776) :
  zAz prg zOj [v,str nm] H λu H'=>u = .bool (zUf (zBR mv) nm)/\Keep zAM H H':=by
 apply zQf
 unfold zQq
 have ec:Value.cells (str nm)=[str nm].toArray:=rfl
 rw[ec,zBa]
 generalize hH1:H.push (.cells [str nm].toArray zBd (0,0))=H1
 have k1:Keep zAM H H1:=by rw[<- hH1];exact Keep.push
 have a1:At H1 H.size [str nm]:=by rw[<- hH1];exact At.push
 have hp1:=hp.keep k1 λ_ _=>id
 refine zAJ (zOE (G:=λh=>At h H.size [str nm]/\zNM P h v mv) (del:=λm=>m.deps.any λd=>decide (d.name=nm)) hp1.h (λx hx=>(hp.m x hx).wf) (λx h hx hG=>?_) (λh k=>⟨a1.keep k id,hp1.keep k λ_ _=>id⟩) hl) λu h ⟨e,k⟩=>⟨by rw[e];unfold zUf;rw[List.any_map];rfl,k1.trans k⟩
 refine .inl ⟨zJx,#[],#[Ptr H.size 0],rfl,by kernel_rfl,?_⟩
 show zAz prg zJx [.agg (mvC x).toArray,Ptr H.size 0] h _
 apply zO6
 unfold zOQ
 simp only[zB1,zBa,zBf,zAg,zAu,zAa]
 generalize hh2:h.push (.cells (mvC x).toArray zAi (0,0))=h2
 have kp:Keep zAM h h2:=by rw[<- hh2];exact Keep.push
 have a2:At h2 h.size (mvC x):=by rw[<- hh2];exact At.push
 have hmx:=(hG.2.m x hx).keep kp λ_ _=>id
 have g:=(hG.1).keep kp id
 rw[(zHm a2 hmx.wf).1,zAa]
 have hsx:=hG.2.sm x hx
 refine zAJ (zRC (G:=λh=>At h H.size [str nm]) (del:=λd=>decide (d.name=nm)) hmx.d hmx.wf.deps (λd h' hd hG'=>?_) (λh' k=>g.keep k id) (by omega)) λu h' ⟨e,k⟩=>⟨e,kp.trans k⟩
 refine .inl ⟨zHZ,#[],#[Ptr H.size 0],rfl,by kernel_rfl,?_⟩
 show zAz prg zHZ [.agg (zFl d).toArray,Ptr H.size 0] h' _
 apply zN4
 unfold zNj
 simp only[zB1,zBa,zBf,zAg,zAu,zAa]
 have kp':Keep zAM h' (h'.push (.cells (zFl d).toArray zAL (0,0))):=Keep.push
 have a3:At (h'.push (.cells (zFl d).toArray zAL (0,0))) h'.size (zFl d):=At.push
 rw[zAcR a3,zAa,(At.keep hG' kp' id).ld (i:=0) rfl,zAa,zDG,zAa]
 exact⟨rfl,kp'⟩
def zJZ (hv:List Man)(m:Man):Bool:=hv.any λo=>zUe o m
theorem zAgO {P Q:zA2}{H:zAw}{v:Value}{mv:List MV}{y:MV}(hp:zNM P H v mv)(hy:zMf Q H y.1 y.2.1 y.2.2.1 y.2.2.2)(hl:mv.length<=1099511627776)(hf:∀ x∈mv,x.1.files.length<=1000) :
  zAz prg zOl [v,.agg (mvC y).toArray] H λu H'=>u = .bool (zJZ (zBR mv) y.1)/\Keep zAM H H':=by
 apply zRn
 unfold zSL
 simp only[zB1,zBa]
 generalize hH1:H.push (.cells (mvC y).toArray zAi (0,0))=H1
 have k1:Keep zAM H H1:=by rw[<- hH1];exact Keep.push
 have a1:At H1 H.size (mvC y):=by rw[<- hH1];exact At.push
 have hp1:=hp.keep k1 λ_ _=>id
 have hy1:=hy.keep k1 λ_ _=>id
 refine zAJ (zOE (G:=λh=>At h H.size (mvC y)/\zNM P h v mv/\zMf Q h y.1 y.2.1 y.2.2.1 y.2.2.2) (del:=λm=>zUe m y.1) hp1.h (λx hx=>(hp.m x hx).wf) (λx h hx hG=>?_) (λh k=>⟨a1.keep k id,hp1.keep k λ_ _=>id,hy1.keep k λ_ _=>id⟩) hl) λu h ⟨e,k⟩=>⟨by rw[e];unfold zJZ;rw[List.any_map];rfl,k1.trans k⟩
 refine .inl ⟨zL0,#[],#[Ptr H.size 0],rfl,by kernel_rfl,?_⟩
 show zAz prg zL0 [.agg (mvC x).toArray,Ptr H.size 0] h _
 apply zQk
 unfold zQv
 simp only[zB1,zBa]
 obtain⟨q1,q2,q3⟩:=hG
 generalize hh2:h.push (.cells (mvC x).toArray zAi (0,0))=h2
 have kp:Keep zAM h h2:=by rw[<- hh2];exact Keep.push
 have a2:At h2 h.size (mvC x):=by rw[<- hh2];exact At.push
 have hmx:=(q2.m x hx).keep kp λ_ _=>id
 have hsx:=q2.sm x hx
 have hfx:=hf x hx
 rw[a2.ldN (zBK hmx.wf),zAa,(q1.keep kp id).ldN (zBK q3.wf),zAa]
 exact zAJ (zVl hmx (q3.keep kp λ_ _=>id) (by omega) (by omega) (by omega)) λu h' ⟨e,k⟩=>⟨e,kp.trans k⟩
theorem zUg {P:zA2}{H:zAw}{x:MV}(hx:zMf P H x.1 x.2.1 x.2.2.1 x.2.2.2)(hd:x.1.deps.length<=1000)(hc:x.1.conf.length<=1000)(hf:x.1.files.length<=1000) :
  zAz prg zFw [.agg (mvC x).toArray] H λu H'=>(∃ vd vc vf,u = .agg (mvC (x.1,vd,vc,vf)).toArray/\zMf (λb=>H.size<=b/\b<H'.size) H' x.1 vd vc vf)/\Keep zAM H H':=by
 apply zM5
 unfold zLO
 simp only[zB1,zMS,zBa,zBf,zAg,zAu,zAa]
 generalize hH1:H.push (.cells (mvC x).toArray zAi (0,0))=H1
 have k1:Keep zAM H H1:=by rw[<- hH1];exact Keep.push
 have a1:At H1 H.size (mvC x):=by rw[<- hH1];exact At.push
 have s1:H1.size=H.size+1:=by rw[<- hH1];simp
 generalize hH2:H1.push (.cells (zGI ⟨[],zEQ,[],[],[]⟩ zCq zCq zCq).toArray zAi (0,0))=H2
 have k2:Keep zAM H1 H2:=by rw[<- hH2];exact Keep.push
 have a2:At H2 H1.size (zGI ⟨[],zEQ,[],[],[]⟩ zCq zCq zCq):=by rw[<- hH2];exact At.push
 have s2:H2.size=H1.size+1:=by rw[<- hH2];simp
 have w:=hx.wf
 have hv4:=zDL w.ver
 have a12:=a1.keep k2 id
 have k02:=k1.trans k2
 obtain⟨g5,g6,g7⟩:=zHm a12 w
 rw[g5,zAa,g6,zAa,g7,zAa]
 have hx2:=hx.keep k02 λ_ _=>id
 refine zAJ (zSl hx2.d (by omega)) ?_
 rintro t5 h3 ⟨b5,k3⟩
 obtain⟨_,g6,g7⟩:=zHm (a12.keep k3 id) w
 rw[g7,zBq,g6,zBq,zA9]
 refine zAJ (zSl (hx2.keep k3 λ_ _=>id).c (by omega)) ?_
 rintro t8 h4 ⟨b8,k4⟩
 have a14:=(a12.keep k3 id).keep k4 id
 obtain⟨_,_,g7⟩:=zHm a14 w
 rw[g7,zBq,zA9]
 refine zAJ (zYJ ((hx2.keep k3 λ_ _=>id).keep k4 λ_ _=>id).f (by rw[zAf];omega)) ?_
 rintro t11 h5 ⟨b11,k5⟩
 have a15:=a14.keep k5 id
 have g3:=k3.1
 have g4:=k4.1
 have g5':=k5.1
 have o5:t5.oneCell'=true:=b5.sl.oneC
 have o8:t8.oneCell'=true:=b8.sl.oneC
 have o11:t11.oneCell'=true:=b11.sl.oneC
 have e5:(mvC x).set 5 t5=mvC (x.1,t5,x.2.2.1,x.2.2.2):=by simp[mvC,zGI,List.set_append,hv4]
 have e6:(mvC (x.1,t5,x.2.2.1,x.2.2.2)).set 6 t8=mvC (x.1,t5,t8,x.2.2.2):=by simp[mvC,zGI,List.set_append,hv4]
 have e7:(mvC (x.1,t5,t8,x.2.2.2)).set 7 t11=mvC (x.1,t5,t8,t11):=by simp[mvC,zGI,List.set_append,hv4]
 have hml:∀ a b c,(mvC (x.1,a,b,c)).length=8:=λ_ _ _=>zBK w
 obtain⟨h6,st6,a6,k6⟩:=a15.st1 (i:=5) (v:=t5) (by have:=zBK (vd:=x.2.1) (vc:=x.2.2.1) (vf:=x.2.2.2) w;show 5<(mvC x).length;unfold mvC;omega) o5
 rw[e5]at a6
 obtain⟨h7,st7,a7,k7⟩:=a6.st1 (i:=6) (v:=t8) (by have:=hml t5 x.2.2.1 x.2.2.2;omega) o8
 rw[e6]at a7
 obtain⟨h8,st8,a8,k8⟩:=a7.st1 (i:=7) (v:=t11) (by have:=hml t5 t8 x.2.2.2;omega) o11
 rw[e7]at a8
 rw[st6,zAV,st7,zAV,st8,zAV,a8.ldN (hml _ _ _),zAa]
 have k58:Keep (· = H.size) h5 h8:=(k6.trans k7).trans k8
 have g58:=k58.1
 have a28:At h8 H1.size (zGI ⟨[],zEQ,[],[],[]⟩ zCq zCq zCq):=(((a2.keep k3 id).keep k4 id).keep k5 id).keep k58 (by omega)
 have one:∀ c∈mvC (x.1,t5,t8,t11),c.oneCell'=true:=λc hc=>by
  rcases zAr.1 hc with rfl|hc
  ·rfl
  rcases zAt.1 hc with hc|hc
  ·exact zMe c hc
  ·simp at hc
   rcases hc with rfl|rfl|rfl
   ·exact o5
   ·exact o8
   ·exact o11
 obtain⟨h9,st9,a9,k9⟩:=a28.st (n:=8) (ds:=mvC (x.1,t5,t8,t11)) (zBK zOD) (hml _ _ _) one
 rw[st9,zAV,a9.ldN (hml _ _ _),zAa]
 have k59:Keep (λb=>b=H.size\/b=H1.size) h5 h9:=(k58.mono λ_ _ h => .inl h).trans (k9.mono λ_ _ h => .inr h)
 have g9:=k59.1
 refine⟨⟨t5,t8,t11,rfl,⟨?_,?_,?_,w⟩⟩,(((k02.trans k3).trans k4).trans k5).fresh k59 λb hb=>by omega⟩
 ·exact(((b5.sl.keep k4 λ_ _=>id).keep k5 λ_ _=>id).keep k59 λb hb=>by omega).mono λb hb=>by omega
 ·exact((b8.sl.keep k5 λ_ _=>id).keep k59 λb hb=>by omega).mono λb hb=>by omega
 ·exact(b11.sl.keep k59 λb hb=>by omega).mono λb hb=>by omega
end Go.Proofs.YticdfkoncnnmmaaGreatDoor
namespace Go.X
theorem Keep.fresh' {S T:zA2}{H h h':zAw}(k:Keep S H h)(k2:Keep T h h')(hs:∀ b,T b->S b\/H.size<=b):Keep S H h' :=
 ⟨zBj k.1 k2.1,λi hi hn=>by rw[k2.2 i (zAS hi k.1) λht=>(hs i ht).elim hn λh=>by omega,k.2 i hi hn]⟩
theorem Buf.re {F G:zA2}{H:zAw}{v:Value}{l:List UInt8}(h:Buf F H v l)(k:∀ b,b<H.size->F b->G b):Buf G H v l:=by
 rcases h with h|⟨b,o,c,cs,T,f,rfl,hf,hc,hb,hr⟩
 ·exact .inl h
 ·exact .inr ⟨b,o,c,cs,T,f,rfl,k b (lt_of hb) hf,hc,hb,hr⟩
end Go.X
namespace Go.Proofs.YticdfkoncnnmmaaGreatDoor
open Go.X Go.X.Diff Go.MapKept
theorem At.stPre {h:zAw}{q:Nat}{A C B:List Value}(a:At h q (A++C)){n:Nat}(hn:A.length=n)(hd:B.length=n)(h1:∀ c∈B,c.oneCell'=true) :
  ∃ h',stN n h (Ptr q 0) (.agg B.toArray)=some h'/\At h' q (B++C)/\Keep (· = q) h h':=by
 obtain⟨T,a⟩:=a
 have:=zPp (n:=n) (o:=0) (A:=[]) (B:=A) (C:=C) (B':=B) (by rw[zA0];exact a) rfl hn.symm hd (zU6 h1)
 rw[zA0]at this
 exact⟨_,this,⟨T,zBm a⟩,Keep.set rfl⟩
theorem At.ldPre {h:zAw}{q:Nat}{A C:List Value}(a:At h q (A++C)){n:Nat}(hn:A.length=n):Go.X.ldN n h (Ptr q 0)=some (Value.agg A.toArray):=by
 obtain⟨T,a⟩:=a
 exact Go.X.ldN_mid (A:=[]) (B:=A) (C:=C) (by rw[zA0];exact a) rfl hn.symm
abbrev PW:=MV×Value×List (Value×List UInt8)
def pvC (x:PW):List Value:=mvC x.1++[x.2.1]
abbrev Pk:=Man×List (List UInt8)
def zLR (x:PW):Pk:=(x.1.1,x.2.2.map (·.2))
structure PkV (P:zA2)(H:zAw)(x:PW):Prop where
 m:zMf P H x.1.1 x.1.2.1 x.1.2.2.1 x.1.2.2.2
 f:BSS P P H x.2.1 x.2.2
 sd:x.1.1.deps.length<=1000
 sc:x.1.1.conf.length<=1000
 sf:x.1.1.files.length<=1000
 sn:x.2.2.length<=1000
 sb:∀ y∈x.2.2,y.2.length<=1048576
theorem BSS.mono {P Q P' Q':zA2}{H:zAw}{v:Value}{xs:List (Value×List UInt8)}(h:BSS P Q H v xs)(k:∀ b,P b->P' b)(k':∀ b,Q b->Q' b):BSS P' Q' H v xs:=⟨h.sl.mono k,λx hx=>(h.el x hx).mono k'⟩
theorem zMf.mono {P Q:zA2}{H:zAw}{m:Man}{vd vc vf:Value}(h:zMf P H m vd vc vf)(k:∀ b,P b->Q b):zMf Q H m vd vc vf:=⟨h.d.mono k,h.c.mono k,h.f.mono k,h.wf⟩
theorem PkV.keep {P S:zA2}{H H':zAw}{x:PW}(h:PkV P H x)(k:Keep S H H')(hs:∀ b,P b->¬ S b):PkV P H' x:=⟨h.m.keep k hs,h.f.keep k hs hs,h.sd,h.sc,h.sf,h.sn,h.sb⟩
theorem PkV.mono {P Q:zA2}{H:zAw}{x:PW}(h:PkV P H x)(k:∀ b,P b->Q b):PkV Q H x:=⟨h.m.mono k,h.f.mono k k,h.sd,h.sc,h.sf,h.sn,h.sb⟩
theorem zDX {x:PW}(h:x.1.1.wf):(pvC x).length=9:=by simp[pvC,mvC,zBK h]
theorem PkV.one {P:zA2}{H:zAw}{x:PW}(h:PkV P H x):∀ c∈pvC x,c.oneCell'=true:=λc hc=>by
 rcases zAt.1 hc with hc|hc
 ·exact zG1 (x:=x.1) h.m c hc
 ·rw[zAF.1 hc];exact h.f.sl.oneC
theorem zUh {x:PW}(h:x.1.1.wf):(pvC x)[8]? = some x.2.1:=by
 have:(mvC x.1).length=8:=zBK h
 unfold pvC
 rw[zBb (by omega),this];rfl
def zPW:PW:=((⟨[],zEQ,[],[],[]⟩,zCq,zCq,zCq),zCq,[])
theorem zAaY:zBE prg zA5=some (pvC zPW).toArray:=by kernel_rfl
theorem zAdy {y:MV}{t u:Value}{xs zs:List (Value×List UInt8)}(h:y.1.wf):(pvC (y,t,xs)).set 8 u=pvC (y,u,zs):=by
 have:(mvC y).length=8:=zBK h
 unfold pvC
 rw[zCM _ _ (by show(mvC y).length<=8;omega)]
 show mvC y++List.set _ (8-(mvC y).length) u=_
 rw[this];rfl
set_option maxHeartbeats 1000000 in
theorem zZ0 {P:zA2}{H:zAw}{x:PW}(hx:PkV P H x) :
  zAz prg zFX [.agg (pvC x).toArray] H λu H'=>(∃ x',u = .agg (pvC x').toArray/\zLR x'=zLR x/\PkV (λb=>H.size<=b/\b<H'.size) H' x')/\Keep zAM H H':=by
 apply zMa
 unfold zKh
 simp only[zB1,zAaY,zBa,zBf,zAg,zAu,zAa]
 generalize hH1:H.push (.cells (pvC x).toArray zA5 (0,0))=H1
 have k1:Keep zAM H H1:=by rw[<- hH1];exact Keep.push
 have a1:At H1 H.size (pvC x):=by rw[<- hH1];exact At.push
 have s1:H1.size=H.size+1:=by rw[<- hH1];simp
 generalize hH2:H1.push (.cells (pvC zPW).toArray zA5 (0,0))=H2
 have k2:Keep zAM H1 H2:=by rw[<- hH2];exact Keep.push
 have a2:At H2 H1.size (pvC zPW):=by rw[<- hH2];exact At.push
 have s2:H2.size=H1.size+1:=by rw[<- hH2];simp
 have w:=hx.m.wf
 have k02:=k1.trans k2
 have a12:=a1.keep k2 id
 rw[a12.ldPre (A:=mvC x.1) (zBK w),zAa]
 refine zAJ (zUg (x:=x.1) (hx.m.keep k02 λ_ _=>id) hx.sd hx.sc hx.sf) ?_
 rintro _ h3 ⟨⟨vd,vc,vf,rfl,hm3⟩,k3⟩
 have g3:=k3.1
 generalize hy:(x.1.1,vd,vc,vf)=y at *
 have hy1:y.1=x.1.1:=by rw[<- hy]
 have wy:y.1.wf:=by rw[hy1];exact w
 have hmy:zMf (λb=>H2.size<=b/\b<h3.size) h3 y.1 y.2.1 y.2.2.1 y.2.2.2:=by rw[<- hy];exact hm3
 obtain⟨h4,st4,a4,k4⟩:=(a12.keep k3 id).stPre (A:=mvC x.1) (B:=mvC y) (zBK w) (zBK wy) (zG1 hmy)
 rw[st4,zAV]
 have a4':At h4 H.size (pvC (y,x.2.1,x.2.2)):=a4
 rw[a4'.ld (i:=8) (zUh (x:=(y,x.2.1,x.2.2)) wy),zAa]
 obtain⟨h5,st5,a5,k5⟩:=a4'.st1 (i:=8) (v := .slice none 0 0) (by rw[zDX wy];omega) rfl
 rw[zAdy (zs:=[]) wy]at a5
 rw[st5,zAV]
 have k35:Keep (· = H.size) h3 h5:=k4.trans k5
 have g35:=k35.1
 have k05:Keep zAM H h5:=(k02.trans k3).fresh k35 λb hb=>by omega
 have hm5:=hmy.keep k35 λb hb=>by omega
 have a25:At h5 H1.size (pvC zPW):=(a2.keep k3 id).keep k35 (by omega)
 let I:Nat->zAw->Prop:=λi h=>∃ t Fb Q zs,At h H.size (pvC (y,t,zs))/\BufE 1 Fb h t (zGD (zs.map (·.1)))/\(∀ z∈zs,Sl Q h z.1 z.2)/\zs.map (·.2)=(x.2.2.take i).map (·.2)/\(∀ b,Fb b->h5.size<=b/\b<h.size/\¬ Q b)/\(∀ b,Q b->h5.size<=b/\b<h.size)/\Keep (· = H.size) h5 h
 refine zNW (λ_ h=>I x.2.2.length h) (λk6 hk6=>?_) ?_
 ·rw[hx.f.len,zAa]
  refine zKa (λu h=>∃ i:Nat,i<=x.2.2.length/\u = .int .i64 (i:Nat)/\I i h) (λu _=>match u with | .int _ t=>x.2.2.length-t.toNat|_=>0) ⟨0,zAA _,rfl,.slice none 0 0,λ_=>False,λ_=>False,[],a5,BufE.nil,λz hz=>(by cases hz),rfl,λb h=>h.elim,λb h=>h.elim,Keep.refl⟩ ?_
  rintro _ h9 ⟨i,hi,rfl,t,Fb,Q,zs,a9,b9,e9,hz,hF,hQ,k9⟩ k8 hk8
  rw[zOC,zAa,zAl]
  by_cases hlt:i<x.2.2.length
  rotate_left
  ·rw[if_neg (by simpa using hlt)]
   obtain rfl:i=x.2.2.length:=by omega
   exact hk6 _ _ ⟨t,Fb,Q,zs,a9,b9,e9,hz,hF,hQ,k9⟩
  rw[if_pos (by simpa using hlt)]
  have hg:x.2.2[i]? = some x.2.2[i]:=zAj hlt
  have hmem:=zAG hlt
  generalize x.2.2[i]=z at *
  have k09:Keep zAM H h9:=k05.fresh k9 λb hb=>by omega
  have g9:=k9.1
  obtain⟨slz,p,hix,hld⟩:=(hx.f.keep k09 (λ_ _=>id) (λ_ _=>id)).at hg
  have hzl:zs.length=i:=by
   have:=congrArg List.length hz
   rw[zAf,zAf,zAZ]at this;omega
  have d8:ld1 h9 (Ptr H.size 8)=some t:=a9.ld (zUh (x:=(y,t,zs)) wy)
  have hsn:=hx.sn
  rw[hix .i64,zAa,hld,zAa,d8,zAa]
  refine zAJ (zZj (F:=λb=>h9.size<=b) slz (by have:=hx.sb z hmem;omega) λb hb=>hb) ?_
  rintro u h10 ⟨bu,k10⟩
  have g10:=k10.1
  have k10':Keep zAM h9 h10:=⟨k10.1,λb hb _=>k10.2 b hb (by omega)⟩
  have bu':Buf (λb=>h9.size<=b/\b<h10.size) h10 u z.2:=bu.re λb h1 h2=>⟨h2,h1⟩
  have a10:=a9.keep k10' id
  rw[a10.ld (zUh (x:=(y,t,zs)) wy),zBq,zA9]
  obtain⟨ua,uc,hu,_⟩:=bu'.sl.sl
  have hbs:zGf prg zEr 1 [(0,u)]=some #[u]:=by rw[hu];exact zAhZ
  rw[hbs,zCh]
  generalize hH11:h10.push (.cells #[u] zEr (0,0))=h11
  have k11:Keep zAM h10 h11:=by rw[<- hH11];exact Keep.push
  have g11:h11.size=h10.size+1:=by rw[<- hH11];simp
  have a11:=a10.keep k11 id
  rw[a11.ld (zUh (x:=(y,t,zs)) wy),zBq,zA9]
  have hx11:SlE 1 (· = h10.size) h11 (.slice (some ⟨h10.size,0,none⟩) 1 1) [[u]]:=⟨⟨_,1,rfl,zAh _,.inr ⟨h10.size,0,rfl,rfl,by show Pt h11 h10.size 0 [u];rw[<- hH11];exact Pt.of zCa⟩⟩,λx hx=>by simp at hx;subst hx;rfl,λx hx c hc=>by simp at hx;subst hx;simp at hc;subst hc;exact bu'.sl.one⟩
  have k911:=k10'.trans k11
  refine((b9.keep k911 λ_ _=>id).mono (G:=λb=>Fb b\/h11.size<=b) λb hb => .inl hb).app hx11 (by omega) (by rw[zTK,zAf,zBe];omega) (.inr (zAh _)) λt24 h12 b12 k12=>?_
  have g12:=k12.1
  have lH:H.size<h9.size:=a9.lt
  have a12':=a11.keep k12 λhh=>hh.elim (λhh=>by have:=(hF _ hh).1;omega) λhh=>by omega
  obtain⟨h13,st13,a13,k13⟩:=a12'.st1 (i:=8) (v:=t24) (by rw[zDX wy];omega) b12.sl.oneC
  rw[zAdy (zs:=zs++[(u,z.2)]) wy]at a13
  rw[st13,zAV,zBV (by omega),zAa]
  have g13:=k13.1
  refine hk8 _ _ ⟨i+1,by omega,rfl,t24,λb=>(Fb b\/h11.size<=b)/\b<h12.size,λb=>Q b\/(h9.size<=b/\b<h10.size),zs++[(u,z.2)],a13,?_,?_,?_,?_,?_,?_⟩ (by show x.2.2.length-(i+1)<x.2.2.length-i;omega)
  ·have e:zGD ((zs++[(u,z.2)]).map (·.1))=zGD (zs.map (·.1))++[[u]]:=by simp[zGD]
   rw[e]
   exact(BufE.re b12 λb hb hF=>⟨hF,hb⟩).keep k13 λb hb e=>by
    subst e
    rcases hb.1 with h|h
    ·have:=(hF _ h).1;omega
    ·omega
  ·intro z' hz'
   have kA:∀ {b},(Q b\/(h9.size<=b/\b<h10.size))->¬ (Fb b\/h11.size<=b):=λ{b} hb hh=>by
    rcases hb with hb|hb<;>rcases hh with hh|hh
    ·exact(hF b hh).2.2 hb
    ·have:=hQ b hb;omega
    ·have:=hF b hh;omega
    ·omega
   have kB:∀ {b},(Q b\/(h9.size<=b/\b<h10.size))->b≠H.size:=λ{b} hb e=>by
    rcases hb with hb|hb
    ·have:=hQ b hb;omega
    ·omega
   rcases zAt.1 hz' with hz'|hz'
   ·exact(((((e9 z' hz').keep k911 λ_ _=>id).mono (Q:=λb=>Q b\/(h9.size<=b/\b<h10.size)) λb hb => .inl hb).keep k12 λb hb=>kA hb)).keep k13 λb hb=>kB hb
   ·rw[zAF.1 hz']
    exact(((bu'.sl.keep k11 λ_ _=>id).mono (Q:=λb=>Q b\/(h9.size<=b/\b<h10.size)) λb hb => .inr hb).keep k12 λb hb=>kA hb).keep k13 λb hb=>kB hb
  ·rw[zAE,hz,zAI,hg,zAE];rfl
  ·intro b hb
   refine⟨?_,by have:=hb.2;omega,λhq=>?_⟩
   ·rcases hb.1 with h|h
    ·exact(hF b h).1
    ·omega
   ·rcases hb.1 with h|h<;>rcases hq with hq|hq
    ·exact(hF b h).2.2 hq
    ·have:=hF b h;omega
    ·have:=hQ b hq;omega
    ·omega
  ·intro b hb
   rcases hb with hb|hb
   ·have:=hQ b hb;omega
   ·omega
  ·refine((k9.trans (k911.mono λ_ _ h=>h.elim)).fresh' k12 λb hb => .inr ?_).trans k13
   rcases hb with h|h
   ·exact(hF b h).1
   ·omega
 ·rintro _ h7 ⟨t,Fb,Q,zs,a7,b7,e7,hz,hF,hQ,k7⟩
  have g7:=k7.1
  rw[zAs (zAh _)]at hz
  have hsz:∀ b,(H2.size<=b/\b<h3.size)->¬ b=H.size:=λb hb=>by omega
  have hpk:PkV (λb=>H2.size<=b/\b<h7.size) h7 (y,t,zs):=by
   refine⟨(hm5.keep k7 hsz).mono λb hb=>by omega,⟨b7.sl.mono λb hb=>?_,λz hz=>(e7 z hz).mono λb hb=>?_⟩,by rw[hy1];exact hx.sd,by rw[hy1];exact hx.sc,by rw[hy1];exact hx.sf,?_,λz hz'=>?_⟩
   ·have:=hF b hb;omega
   ·have:=hQ b hb;omega
   ·have:=congrArg List.length hz
    rw[zAf,zAf]at this
    have:=hx.sn
    show zs.length<=1000
    omega
   ·have:z.2∈x.2.2.map (·.2):=by rw[<- hz];exact zAo.2 ⟨z,hz',rfl⟩
    obtain⟨z2,h1,h2⟩:=zAo.1 this
    rw[<- h2];exact hx.sb z2 h1
  have a27:At h7 H1.size (pvC zPW):=a25.keep k7 (by omega)
  obtain⟨h14,st14,a14,k14⟩:=a27.st (n:=9) (ds:=pvC (y,t,zs)) (zDX zOD) (zDX wy) hpk.one
  rw[a7.ldN (zDX wy),zAa,st14,zAV,a14.ldN (zDX wy),zAa]
  have g14:=k14.1
  have k514:Keep (λb=>b=H.size\/b=H1.size) h5 h14:=(k7.mono λ_ _ h => .inl h).trans (k14.mono λ_ _ h => .inr h)
  refine⟨⟨(y,t,zs),rfl,?_,(hpk.keep k14 λb hb=>by omega).mono λb hb=>by omega⟩,k05.fresh k514 λb hb=>by omega⟩
  show(y.1,zs.map (·.2))=(x.1.1,x.2.2.map (·.2))
  rw[hy1,hz]
abbrev No:zA2:=λ_=>False
theorem zRQ {a:Bool}{H:zAw}{yes:(zAn)->Prop}{K:Value->zAn}(ht:a=true->K undef (.bool true) H)(hf:a=false->yes λt h=>K t t h) :
  J1 (λk=>Mif (.bool a) false (yes k) (k undef H)) λt h=>Mpu (zBH (.bool a) (.bool true) t) λu=>K t u h:=by
 cases a
 ·have e:(λt h=>Mpu (zBH (.bool false) (.bool true) t) λu=>K t u h)=λt h=>K t t h:=by
   funext t h;exact propext zAa
  rw[e];exact zDS rfl (hf rfl)
 ·exact zLF (by decide) (zAa.2 (ht rfl))
theorem zYK {a:Bool}{H:zAw}{yes:(zAn)->Prop}{K:Value->zAn}(ht:a=true->yes λt h=>K t t h)(hf:a=false->K undef (.bool false) H) :
  J1 (λk=>Mif (.bool a) true (yes k) (k undef H)) λt h=>Mpu (zBH (.bool a) t (.bool false)) λu=>K t u h:=by
 cases a
 ·exact zLF (by decide) (zAa.2 (hf rfl))
 ·have e:(λt h=>Mpu (zBH (.bool true) t (.bool false)) λu=>K t u h)=λt h=>K t t h:=by
   funext t h;exact propext zAa
  rw[e];exact zDS rfl (ht rfl)
theorem zNN {a:Bool}{yes no:Prop}(h:a=true)(k:yes):Mcd (.bool a) yes no:=by subst h;exact zAl.2 (by rw[if_pos rfl];exact k)
theorem zOF {a:Bool}{yes no:Prop}(h:a=false)(k:no):Mcd (.bool a) yes no:=by subst h;exact zAl.2 (by rw[if_neg (by decide)];exact k)
theorem zUI {a:Bool}{yes no:Prop}(h:a=true->yes)(k:a=false->no):Mcd (.bool a) yes no:=by
 cases a
 ·exact zOF rfl (k rfl)
 ·exact zNN rfl (h rfl)
theorem zCk {o:Option Value}{v:Value}{K:Value->Prop}(h:o=some v)(k:K v):Mpu o K:=⟨v,h,k⟩
theorem range_i {v:Value}{n:Nat}{H:zAw}{B:(zAn)->(zAn)->zAn}{R:zAn}(hl:zDD v=some (.int .i64 (n:Nat)))(I:Nat->zAw->Prop)(E:zAw->Prop)(h0:I 0 H)(hE:∀ h,I n h->E h)
  (hs:∀ i h,i<n->I i h->∀ k1 k3:zAn,(∀ t h',E h'->k1 t h')->(∀ h',I (i+1) h'->k3 (.int .i64 ((i+1:Nat):Int)) h')->B k1 k3 (.int .i64 (i:Nat)) h) (hr:∀ t h,E h->R t h) :
  J1 (λk1=>Mpu (zDD v) λm=>L1 (λk3 t h=>Mpu (zAC .no .lss t m) λc=>Mcd c (B k1 k3 t h) (k1 t h)) (.int .i64 0) H) R:=by
 refine zNW (λ_ h=>E h) (λk1 hk1=>?_) hr
 rw[hl,zAa]
 refine zKa (λu h=>∃ i:Nat,i<=n/\u = .int .i64 (i:Nat)/\I i h) (λu _=>match u with | .int _ t=>n-t.toNat|_=>0) ⟨0,zAA _,rfl,h0⟩ ?_
 rintro _ h ⟨i,hi,rfl,hI⟩ k3 hk3
 rw[zOC,zAa,zAl]
 by_cases hlt:i<n
 ·rw[if_pos (by simpa using hlt)]
  exact hs i h hlt hI k1 k3 hk1 λh' hI'=>hk3 _ _ ⟨i+1,by omega,rfl,hI'⟩ (by show n-(i+1)<n-i;omega)
 ·rw[if_neg (by simpa using hlt)]
  obtain rfl:i=n:=by omega
  exact hk1 _ _ (hE _ hI)
theorem zWb {v a:Value}{n:Nat}{H:zAw}{B:(Value->zAn)->(Value->zAn)->Value->zAn}{R:Value->zAn}(hl:zDD v=some (.int .i64 (n:Nat)))(I:Nat->zAn)(E:zAn)(h0:I 0 a H)(hE:∀ w h,I n w h->E w h)
  (hs:∀ i w h,i<n->I i w h->∀ k1 k3:Value->zAn,(∀ w' t h',E w' h'->k1 w' t h')->(∀ w' h',I (i+1) w' h'->k3 w' (.int .i64 ((i+1:Nat):Int)) h')->B k1 k3 w (.int .i64 (i:Nat)) h) (hr:∀ w t h,E w h->R w t h) :
  J2 (λk1=>Mpu (zDD v) λm=>L2 (λk3 w t h=>Mpu (zAC .no .lss t m) λc=>Mcd c (B k1 k3 w t h) (k1 w t h)) a (.int .i64 0) H) R:=by
 refine zMh (λw _ h=>E w h) (λk1 hk1=>?_) hr
 rw[hl,zAa]
 refine zUv (λw u h=>∃ i:Nat,i<=n/\u = .int .i64 (i:Nat)/\I i w h) (λ_ u _=>match u with | .int _ t=>n-t.toNat|_=>0) ⟨0,zAA _,rfl,h0⟩ ?_
 rintro w _ h ⟨i,hi,rfl,hI⟩ k3 hk3
 rw[zOC,zAa,zAl]
 by_cases hlt:i<n
 ·rw[if_pos (by simpa using hlt)]
  exact hs i w h hlt hI k1 k3 hk1 λw' h' hI'=>hk3 _ _ _ ⟨i+1,by omega,rfl,hI'⟩ (by show n-(i+1)<n-i;omega)
 ·rw[if_neg (by simpa using hlt)]
  obtain rfl:i=n:=by omega
  exact hk1 _ _ _ (hE _ _ hI)
theorem zAkl {n:Nat}{H:zAw}{B:(zAn)->zAn}{X:zAn}(I:Nat->zAw->Prop)(h0:I 0 H)(hr:∀ h,I n h->X (.int .i64 (n:Nat)) h)
  (hs:∀ i h,i<n->I i h->∀ k3:zAn,(∀ h',I (i+1) h'->k3 (.int .i64 ((i+1:Nat):Int)) h')->B k3 (.int .i64 (i:Nat)) h) :
  L1 (λk3 t h=>Mpu (zAC .no .lss t (.int .i64 (n:Nat))) λc=>Mcd c (B k3 t h) (X t h)) (.int .i64 0) H:=by
 refine zKa (λu h=>∃ i:Nat,i<=n/\u = .int .i64 (i:Nat)/\I i h) (λu _=>match u with | .int _ t=>n-t.toNat|_=>0) ⟨0,zAA _,rfl,h0⟩ ?_
 rintro _ h ⟨i,hi,rfl,hI⟩ k3 hk3
 rw[zOC,zAa,zAl]
 by_cases hlt:i<n
 ·rw[if_pos (by simpa using hlt)]
  exact hs i h hlt hI k3 λh' hI'=>hk3 _ _ ⟨i+1,by omega,rfl,hI'⟩ (by show n-(i+1)<n-i;omega)
 ·rw[if_neg (by simpa using hlt)]
  obtain rfl:i=n:=by omega
  exact hr _ hI
theorem zAdz {v a:Value}{n s:Nat}{H:zAw}{B:(Value->zAn)->Value->zAn}{X:Value->zAn}(hl:zDD v=some (.int .i64 (n:Nat)))(I:Nat->zAn)(h0:I s a H)(hr:∀ i w h,n<=i->I i w h->X w (.int .i64 (i:Nat)) h)
  (hs:∀ i w h,s<=i->i<n->I i w h->∀ k3:Value->zAn,(∀ w' h',I (i+1) w' h'->k3 w' (.int .i64 ((i+1:Nat):Int)) h')->B k3 w (.int .i64 (i:Nat)) h) :
  L2 (λk3 w t h=>Mpu (zDD v) λm=>Mpu (zAC .no .lss t m) λc=>Mcd c (B k3 w t h) (X w t h)) a (.int .i64 (s:Nat)) H:=by
 refine zUv (λw u h=>∃ i:Nat,s<=i/\u = .int .i64 (i:Nat)/\I i w h) (λ_ u _=>match u with | .int _ t=>n-t.toNat|_=>0) ⟨s,zAh _,rfl,h0⟩ ?_
 rintro w _ h ⟨i,hi,rfl,hI⟩ k3 hk3
 rw[hl,zAa,zOC,zAa,zAl]
 by_cases hlt:i<n
 ·rw[if_pos (by simpa using hlt)]
  exact hs i w h hi hlt hI k3 λw' h' hI'=>hk3 _ _ _ ⟨i+1,by omega,rfl,hI'⟩ (by show n-(i+1)<n-i;omega)
 ·rw[if_neg (by simpa using hlt)]
  exact hr i w h (by omega) hI
theorem zAdA {n:Nat}{a:Value}{H:zAw}{B:(Value->zAn)->Value->zAn}{X:Value->zAn}(I:Nat->zAn)(h0:I 0 a H)(hr:∀ w h,I n w h->X w (.int .i64 (n:Nat)) h)
  (hs:∀ i w h,i<n->I i w h->∀ k3:Value->zAn,(∀ w' h',I (i+1) w' h'->k3 w' (.int .i64 ((i+1:Nat):Int)) h')->B k3 w (.int .i64 (i:Nat)) h) :
  L2 (λk3 w t h=>Mpu (zAC .no .lss t (.int .i64 (n:Nat))) λc=>Mcd c (B k3 w t h) (X w t h)) a (.int .i64 0) H:=by
 refine zUv (λw u h=>∃ i:Nat,i<=n/\u = .int .i64 (i:Nat)/\I i w h) (λ_ u _=>match u with | .int _ t=>n-t.toNat|_=>0) ⟨0,zAA _,rfl,h0⟩ ?_
 rintro w _ h ⟨i,hi,rfl,hI⟩ k3 hk3
 rw[zOC,zAa,zAl]
 by_cases hlt:i<n
 ·rw[if_pos (by simpa using hlt)]
  exact hs i w h hlt hI k3 λw' h' hI'=>hk3 _ _ _ ⟨i+1,by omega,rfl,hI'⟩ (by show n-(i+1)<n-i;omega)
 ·rw[if_neg (by simpa using hlt)]
  obtain rfl:i=n:=by omega
  exact hr _ _ hI
theorem zUi {n sz n0:Nat}{T:TypeId}{h:zAw}{acc:Value}{xs:List (List Value)}{x:List Value}{y:Value}{K:zAn}(b:BufE n (λb=>n0<=b) h acc xs)(hbs:zGf prg T 1 [(0,y)]=some x.toArray)(hx:x.length=n)(h1:∀ c∈x,c.oneCell'=true)(h0:0<sz)(hl:(xs.length+1)*sz<=140737488355328)(hn:n0<=h.size)
  (hk:∀ u h',BufE n (λb=>n0<=b) h' u (xs++[x])->Keep (λb=>n0<=b) h h'->K u h'):zD1 h T 1 (zGf prg T 1 [(0,y)]) λt h7=>zIU T n sz h7 acc t K:=by
 rw[hbs,zCh]
 have hr:SlE n (· = h.size) (h.push (.cells x.toArray T (0,0))) (.slice (some ⟨h.size,0,none⟩) 1 1) [x] :=
  ⟨⟨_,1,rfl,zAh _,.inr ⟨h.size,0,rfl,rfl,by rw[zA7,zCj,zAN];exact Pt.of zCa⟩⟩,by simpa using hx,by simpa using h1⟩
 have kp:Keep No h (h.push (.cells x.toArray T (0,0))):=Keep.push
 refine(b.keep kp λ_ _=>id).app hr h0 (by simpa using hl) (by show n0<=_;simp;omega) λu h' bu ku=>hk u h' bu ((kp.mono λ_ _ h=>h.elim).trans ku)
theorem zAkm {n sz:Nat}{F:zA2}{T:TypeId}{h:zAw}{acc:Value}{xs:List (List Value)}{x:List Value}{y:Value}{K:zAn}(b:BufE n F h acc xs)(hbs:zGf prg T 1 [(0,y)]=some x.toArray)(hx:x.length=n)(h1:∀ c∈x,c.oneCell'=true)(h0:0<sz)(hl:(xs.length+1)*sz<=140737488355328)
  (hk:∀ u h',BufE n (λb=>F b\/(h.size<=b/\b<h'.size)) h' u (xs++[x])->Keep (λb=>F b\/h.size<=b) h h'->K u h'):zD1 h T 1 (zGf prg T 1 [(0,y)]) λt h7=>zIU T n sz h7 acc t K:=by
 rw[hbs,zCh]
 have hr:SlE n (· = h.size) (h.push (.cells x.toArray T (0,0))) (.slice (some ⟨h.size,0,none⟩) 1 1) [x] :=
  ⟨⟨_,1,rfl,zAh _,.inr ⟨h.size,0,rfl,rfl,by rw[zA7,zCj,zAN];exact Pt.of zCa⟩⟩,by simpa using hx,by simpa using h1⟩
 have kp:Keep No h (h.push (.cells x.toArray T (0,0))):=Keep.push
 refine((b.keep kp λ_ _=>id).mono (G:=λb=>F b\/h.size<=b) λ_ => .inl).app hr h0 (by simpa using hl) (.inr (by simp)) λu h' bu ku=>hk u h' (BufE.re bu λb hb hF=>hF.imp id λhF=>⟨hF,hb⟩) ((kp.mono λ_ _ h=>h.elim).trans ku)
theorem zOX {i n:Nat}{K:Value->Prop}(hi:i<n)(hn:n<=9223372036854775807)(h:K (.int .i64 ((i+1:Nat):Int))):Mpu (zAC .no .add (.int .i64 (i:Nat)) (.int .i64 1)) K:=by
 have e:zAC .no .add (.int .i64 (i:Nat)) (.int .i64 1)=some (.int .i64 ((i+1:Nat):Int)):=by
  rw[zAH];simp only[zC3];rw[zB9 (by omega) (by omega)];rfl
 rw[e,zAa];exact h
theorem zAiu {n:Nat}{T:TypeId}{P:zA2}{h:zAw}{v:Value}{xs:List (List Value)}{c:List Value}{i:Nat}{zc:Option (Array Value)}{z:List Value}{K:zAn}(hv:SlE n P h v xs)(hi:xs[i]? = some c)(hz:zc=some z.toArray)(hzl:z.length=n)
  (hk:∀ h',At h' h.size c->Keep No h h'->K (Ptr h.size 0) h'):Mpu (ixS n v (.int .i64 (i:Nat))) λp=>Mpu (ldN n h p) λa=>zDA h T zc λt h7=>Mwr (stN n h7 t a) λh8=>K t h8:=by
 have hm:=zAB hi
 obtain⟨b,o,hix,hpt,_⟩:=hv.at hi
 rw[hix .i64,zAa,hpt.agg (hv.el c hm),zAa,hz,zBa]
 have k7:Keep No h (h.push (.cells z.toArray T (0,0))):=Keep.push
 obtain⟨h8,st8,a8,k8⟩:=(At.push (cs:=z) (T:=T) (h:=h)).st (n:=n) (ds:=c) hzl (hv.el c hm) (hv.one c hm)
 show Mwr (stN n _ (Ptr h.size 0) _) _
 rw[st8,zAV]
 exact hk h8 a8 (k7.fresh k8 λb e=>by omega)
theorem zAiv {n:Nat}{T:TypeId}{h:zAw}{c z:List Value}{zc:Option (Array Value)}{K:zAn}(hz:zc=some z.toArray)(hzl:z.length=n)(hc:c.length=n)(h1:∀ x∈c,x.oneCell'=true)
  (hk:∀ h',At h' h.size c->Keep No h h'->K (Ptr h.size 0) h'):zDA h T zc λt h7=>Mwr (stN n h7 t (.agg c.toArray)) λh8=>K t h8:=by
 rw[hz,zBa]
 have k7:Keep No h (h.push (.cells z.toArray T (0,0))):=Keep.push
 obtain⟨h8,st8,a8,k8⟩:=(At.push (cs:=z) (T:=T) (h:=h)).st (n:=n) (ds:=c) hzl hc h1
 show Mwr (stN n _ (Ptr h.size 0) _) _
 rw[st8,zAV]
 exact hk h8 a8 (k7.fresh k8 λb e=>by omega)
theorem zAm0 {body:(Value->Value->Value->Value->zAn)->Prop}{rest:Value->Value->Value->Value->zAn}(I:zAw->Prop)(h1:∀ k:Value->Value->Value->Value->zAn,(∀ a b c d e h,I h->k a b c d e h)->body k)(h2:∀ a b c d e h,I h->rest a b c d e h):J5 body rest :=
 zAla.2 (h1 rest h2)
end Go.Proofs.YticdfkoncnnmmaaGreatDoor
