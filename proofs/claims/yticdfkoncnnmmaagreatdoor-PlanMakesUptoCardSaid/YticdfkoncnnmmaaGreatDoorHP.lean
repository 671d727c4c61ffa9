import Derived.Test.YticdfkoncnnmmaaGreatDoorHN
import Derived.Test.YticdfkoncnnmmaaGreatDoorHJ
set_option linter.unusedSimpArgs false
set_option linter.unusedVariables false
set_option maxRecDepth 100000
namespace Go.Proofs.YticdfkoncnnmmaaGreatDoor
open Go.X Go.X.Diff
structure zAkW (z:zX9):Prop where
 i:zTl z.mv
 il:z.mv.length<=8
 p:zTl (zGT z.pv)
 pl:z.pv.length<=12
theorem zAjd {P:zA3}{H:zAw}{vi vp:Value}{z:zX9}{R REST:zAm}(hz:zAec P H vi vp z)(hl:z.pv.length<=1048576)(hT:zYl H)(hS:zTe H)(hR:∀ h',Keep No H h'->R (.bool true) h')
  (hrest:∀ h,At h H.size (zHi vi vp z.ask)->Keep No H h->zAkW z->REST (Ptr H.size 0) h) :
  zDq H zB5 (some (Value.cells (.agg (zHi vi vp z.ask).toArray))) λt1 h1 =>
  Mpu (fld 0 t1) λt17=>Mpu (ld1 h1 t17) λt18=>zAY prg zD4 [t18,(.int .i64 8)] h1 λt19 h2=>Mpu (unV .not t19) λt20 =>
  J1 (λk3=>Mif t20 false (Mpu (fld 1 t1) λt22=>Mpu (ld1 h2 t22) λt23=>zAY prg zER [t23] h2 λt24 h4=>zAY prg zD4 [t24,(.int .i64 12)] h4 λt25 h5=>Mpu (unV .not t25) λt26=>k3 t26 h5) (k3 undef h2)) λt26_2 h6 =>
  Mpu (zBw t20 (.bool true) t26_2) λt27 =>
  J1 (λk7=>Mif t27 false (Mpu (fld 2 t1) λt29=>Mpu (fld 7 t29) λt30=>Mpu (ld1 h6 t30) λt31=>Mpu (zAB .no .gtr t31 (.int .i64 3000)) λt32=>k7 t32 h6) (k7 undef h6)) λt32_2 h8 =>
  Mpu (zBw t27 (.bool true) t32_2) λt33 =>
  J1 (λk9=>Mif t33 false (Mpu (fld 2 t1) λt35=>Mpu (fld 1 t35) λt36=>Mpu (ld1 h8 t36) λt37=>Mpu (zMd t37) λt38=>Mpu (zAB .no .gtr t38 (.int .i64 50)) λt39=>k9 t39 h8) (k9 undef h8)) λt39_2 h10 =>
  Mpu (zBw t33 (.bool true) t39_2) λt40 =>
  J1 (λk11=>Mif t40 false (Mpu (fld 2 t1) λt42=>Mpu (fld 2 t42) λt43=>Mpu (fld 0 t43) λt44=>Mpu (ld1 h10 t44) λt45=>Mpu (zMd t45) λt46=>Mpu (zAB .no .gtr t46 (.int .i64 20)) λt47=>k11 t47 h10) (k11 undef h10)) λt47_2 h12 =>
  Mpu (zBw t40 (.bool true) t47_2) λt48 =>
  J1 (λk13=>Mif t48 false (Mpu (fld 2 t1) λt50=>Mpu (fld 2 t50) λt51=>Mpu (fld 1 t51) λt52=>Mpu (fld 3 t52) λt53=>Mpu (ld1 h12 t53) λt54=>Mpu (zMd t54) λt55=>Mpu (zAB .no .gtr t55 (.int .i64 50)) λt56=>k13 t56 h12) (k13 undef h12)) λt56_2 h14 =>
  Mpu (zBw t48 (.bool true) t56_2) λt57 =>
  Mcd t57 (zAY prg zCN [] h14 λt58 h15=>R t58 h15) (REST t1 h14):=by
 have ha:=hz.a
 simp only[zB3,zBb,zBi,zAh,zAa]
 generalize hH1:H.push (.cells (zHi vi vp z.ask).toArray zB5 (0,0))=h1
 have k1:Keep No H h1:=by rw[<- hH1];exact Keep.push
 have a1:At h1 H.size (zHi vi vp z.ask):=by rw[<- hH1];exact At.push
 have av:∀ h,Keep No h1 h->At h H.size (zHi vi vp z.ask):=λh k=>a1.keep k id
 have aw:∀ h,Keep No h1 h->zAY prg zCN [] h λt h'=>R t h':=λh k=>by
  have k0:=k1.trans k
  refine zAI (zX6 (hT.keep k0 λ_ h=>h.elim) (hS.keep k0 λ_ h=>h.elim)) ?_
  rintro _ h' ⟨rfl,k'⟩
  exact hR _ (k0.trans k')
 refine zBo (zAbC a1) ?_
 refine zAI (zX8 (most:=8) (hz.i.keep k1 λ_ _=>id)) ?_
 rintro _ h2 ⟨⟨b1,rfl,hb1⟩,k2⟩
 refine zBo rfl (zLK (λ_=>zLK (λ_=>zLK (λ_=>zLK (λ_=>zLK (λ_=>zJJ rfl (aw _ k2)) nofun) nofun) nofun) nofun) λq1=>?_)
 obtain⟨s1,s2⟩:=hb1 (by simpa using q1)
 refine zBo (zAmY (av _ k2)) ?_
 have k02:=k1.trans k2
 refine zAI (zWG (hz.p.keep k02 λ_ _=>id) hl) ?_
 rintro t24 h4 ⟨b4,k4⟩
 refine zAI (zX8 (most:=12) ((hz.p.keep k02 λ_ _=>id).mans k4 b4)) ?_
 rintro _ h5 ⟨⟨b2,rfl,hb2⟩,k5⟩
 have k15:=(k2.trans k4).trans k5
 refine zBo rfl (zLK (λ_=>zLK (λ_=>zLK (λ_=>zLK (λ_=>zJJ rfl (aw _ k15)) nofun) nofun) nofun) λq2=>?_)
 obtain⟨s3,s4⟩:=hb2 (by simpa using q2)
 have b50:∀ n:Nat,zAB .no .gtr (.int .i64 (n:Nat)) (.int .i64 50)=some (.bool (decide (n > 50))):=λn=>zAea (m:=50)
 have b20:∀ n:Nat,zAB .no .gtr (.int .i64 (n:Nat)) (.int .i64 20)=some (.bool (decide (n > 20))):=λn=>zAea (m:=20)
 refine zBo (zWI (av _ k15) ha) (zBo gtI (zLK (λ_=>zLK (λ_=>zLK (λ_=>zJJ rfl (aw _ k15)) nofun) nofun) λq3=>?_))
 refine zBo (zWH (av _ k15)) (zBo zFb (zBo (b50 _) (zLK (λ_=>zLK (λ_=>zJJ rfl (aw _ k15)) nofun) λq4=>?_)))
 refine zBo (zAmj (av _ k15)) (zBo zFb (zBo (b20 _) (zLK (λ_=>zJJ rfl (aw _ k15)) λq5=>?_)))
 refine zBo (zAkV (av _ k15) ha) (zBo zFb (zBo (b50 _) (zO3 (λ_=>aw _ k15) λq6=>?_)))
 refine hrest _ (av _ k15) (k1.trans k15) ⟨s1,s2,s3,?_⟩
 rwa [zAd]at s4
structure zAnq (H h:zAw)(z:zX9)(u:Value):Prop where
 ex:zAbw (zBV z.mv) (zQV (z.pv.map zJA)) z.ask H h u
theorem zAel {inst:List Man}{l:List Pk}{a:zPB}{H h:zAw}{u:Value}(m:zAbw inst l a H h u) :
  (∃ e:Int,u = .tuple #[.agg (chC 0 zCq zCq zCq).toArray,.int .i64 e]/\e≠0/\(zAd2 inst l a e\/e=41/\∃ goal,zRx inst l a goal/\zDE goal=false)) \/
  ∃ goal n0 zz col d s t dr ad af,u = .tuple #[.agg (chC a.kind d s t).toArray,.int .i64 0]/\zRx inst l a goal/\zDE goal=true/\H.size<=zz/\ChI n0 zz a.kind col d s t dr ad af h/\zBV dr=inst.filter (λm=>!zIC goal m)/\ad.map zJA=(goal.filter λm=>!zIC inst m).map (zKk l)/\zBV af=goal:=by
 rcases m with ⟨e,he,rfl⟩|⟨goal,hg,⟨hr,rfl⟩|⟨hr,n0,zz,col,d,s,t,dr,ad,af,rfl,h1,h2,h3,h4,h5⟩⟩
 ·refine .inl ⟨e,rfl,?_,.inl he⟩
  rcases he with ⟨_,rfl⟩|⟨_,⟨_,_,rfl⟩|⟨_,_,rfl⟩|⟨_,_,_,rfl⟩|⟨_,⟨_,rfl⟩|⟨_,⟨_,rfl⟩|⟨_,rfl⟩⟩⟩⟩<;>decide
 ·exact .inl ⟨41,rfl,by decide,.inr ⟨rfl,goal,hg,hr⟩⟩
 ·exact .inr ⟨goal,n0,zz,col,d,s,t,dr,ad,af,rfl,hg,hr,h1,h2,h3,h4,h5⟩
theorem zTs.mono {P Q:zA3}{H:zAw}{x:PW}(h:zTs P H x)(k:∀ b,P b->Q b):zTs Q H x:=⟨h.m.mono k,h.f.mono k k⟩
theorem neB {b:Bool}:zAB .bool .neq (.bool b) (.bool b)=some (.bool false):=by cases b<;>rfl
def zZp (inst:List Man)(l:List Pk)(a:zPB)(H h:zAw)(kd:Int)(d s t:Value)(e:Int):Prop :=
 (kd=0/\d=zCq/\s=zCq/\t=zCq/\e≠0/\(zAd2 inst l a e\/e=41/\∃ goal,zRx inst l a goal/\zDE goal=false)) \/
 (kd=a.kind/\e=0/\∃ goal n0 zz col dr ad af,zRx inst l a goal/\zDE goal=true/\H.size<=zz/\ChI n0 zz a.kind col d s t dr ad af h/\zBV dr=inst.filter (λm=>!zIC goal m)/\ad.map zJA=(goal.filter λm=>!zIC inst m).map (zKk l)/\zBV af=goal)
theorem zAkX {inst:List Man}{l:List Pk}{a:zPB}{H h:zAw}{u:Value}(m:zAbw inst l a H h u) :
  ∃ kd d s t e,u = .tuple #[.agg (chC kd d s t).toArray,.int .i64 e]/\(d.oneCell'=true/\s.oneCell'=true/\t.oneCell'=true)/\zZp inst l a H h kd d s t e:=by
 rcases zAel m with ⟨e,rfl,h1,h2⟩|⟨goal,n0,zz,col,d,s,t,dr,ad,af,rfl,h1,h2,h3,h4,h5⟩
 ·exact⟨0,zCq,zCq,zCq,e,rfl,⟨rfl,rfl,rfl⟩,.inl ⟨rfl,rfl,rfl,rfl,h1,h2⟩⟩
 ·exact⟨_,d,s,t,0,rfl,⟨h4.bd.sl.oneC,h4.bs.sl.oneC,h4.bt.sl.oneC⟩,.inr ⟨rfl,rfl,goal,n0,zz,col,dr,ad,af,h1,h2,h3,h4,h5⟩⟩
section
variable {inst:List Man} {l:List Pk} {a:zPB} {H h:zAw} {kd:Int} {d s t:Value} {e e':Int} {G:List Man}
theorem zZp.err (m:zZp inst l a H h kd d s t e)(he:zAd2 inst l a e'):kd=0/\d=zCq/\s=zCq/\t=zCq/\e=e':=by
 rcases m with ⟨h1,h2,h3,h4,_,h5|⟨_,g,h5,_⟩⟩|⟨_,_,g,_,_,_,_,_,_,h5,_⟩
 ·exact⟨h1,h2,h3,h4,zAjc h5 he⟩
 ·exact(zTF h5 he).elim
 ·exact(zTF h5 he).elim
theorem zZp.clash (m:zZp inst l a H h kd d s t e)(hg:zRx inst l a G)(hr:zDE G=false):kd=0/\d=zCq/\s=zCq/\t=zCq/\e=41:=by
 rcases m with ⟨h1,h2,h3,h4,_,h5|⟨h6,g,h5,_⟩⟩|⟨_,_,g,_,_,_,_,_,_,h5,h6,_⟩
 ·exact(zTF hg h5).elim
 ·exact⟨h1,h2,h3,h4,h6⟩
 ·rw[zWJ h5 hg,hr]at h6;cases h6
theorem zZp.ok (m:zZp inst l a H h kd d s t e)(hg:zRx inst l a G)(hr:zDE G=true):kd=a.kind/\e=0/\∃ n0 zz col dr ad af,H.size<=zz/\ChI n0 zz a.kind col d s t dr ad af h/\zBV dr=inst.filter (λm=>!zIC G m)/\ad.map zJA=(G.filter λm=>!zIC inst m).map (zKk l)/\zBV af=G:=by
 rcases m with ⟨h1,h2,h3,h4,_,h5|⟨h6,g,h5,h7⟩⟩|⟨h1,h2,g,n0,zz,col,dr,ad,af,h5,h6,h7⟩
 ·exact(zTF hg h5).elim
 ·rw[zWJ h5 hg,hr]at h7;cases h7
 ·rw[zWJ h5 hg]at h7
  exact⟨h1,h2,n0,zz,col,dr,ad,af,h7⟩
end
theorem zZq {α:Type}{l:List α}{i:Nat}{x:α}{p:α->Bool}(h:l[i]? = some x):(l.take (i+1)).filter p=(l.take i).filter p++if p x then [x] else []:=zH9 h
set_option maxHeartbeats 8000000 in
theorem zZr {P:zA3}{H:zAw}{vi vp:Value}{z:zX9}(hz:zAec P H vi vp z)(hP:∀ b,P b->b<H.size)(hl:z.pv.length<=1048576)(hT:zYl H)(hS:zTe H)(hNG:NG<=H.size) :
  zAz prg zIF [.agg (zHi vi vp z.ask).toArray] H λu H'=>u = .bool true/\Keep No H H':=by
 apply zKo
 unfold zIi
 refine zAjd hz hl hT hS (λh' k=>⟨rfl,k⟩) λh14 a14 k14 sz=>?_
 have ha:=hz.a
 have TT:∀ h',Keep No H h'->zYl h'/\zTe h':=λh' k=>⟨hT.keep k λ_ h=>h.elim,hS.keep k λ_ h=>h.elim⟩
 have aw:∀ h,Keep No H h->zAY prg zCN [] h λt h'=>t = .bool true/\Keep No H h':=λh k=>by
  refine zAI (zX6 (TT _ k).1 (TT _ k).2) ?_
  rintro _ h' ⟨rfl,k'⟩
  exact⟨rfl,k.trans k'⟩
 have hpi:∀ h,Keep No H h->zNj P h vi z.mv:=λh k=>(hz.i.to sz.i).keep k λ_ _=>id
 have hPh:∀ h,Keep No H h->∀ b,P b->b<h.size:=λh k b hb=>zAN (hP b hb) k.1
 have il:=sz.il
 have pl:=sz.pl
 simp only[zBi,zAh,zAa]
 have av:∀ h,Keep No h14 h->At h H.size (zHi vi vp z.ask):=λh k=>a14.keep k id
 refine zBo (zAmY a14) ?_
 refine zAI (zAf7 (hz.p.keep k14 λ_ _=>id) sz.p (hPh _ k14) (by omega) (TT _ k14).1 (TT _ k14).2 (by have:=k14.1;omega)) ?_
 rintro _ h16 ⟨⟨R,F,p,w,out,rfl,hu,ho⟩,k16⟩
 have k016:=k14.trans k16
 have pn:zAB .ptr .eql (Ptr p 0) (.pointer none)=some (.bool false):=rfl
 refine zBo rfl (zBo rfl (zBo pn (zN9 rfl ?_)))
 refine zBo (zAbC (av _ k16)) (zBo (zAhk (av _ k16) ha) ?_)
 have hll:(zQV (z.pv.map zJA)).length<=12:=by have:=zAaH (l:=z.pv.map zJA);rw[zAd]at this;omega
 refine zAI (zAhc (hpi _ k016) hu.q (hPh _ k016) ha (by omega) (TT _ k016).1.ops (by have:=k016.1;omega)) ?_
 rintro u h17 ⟨hm,k17⟩
 have hol:out.length<=12:=by have:=congrArg List.length hu.e;rw[zAd]at this;omega
 have hlok:∀ y∈zQV (z.pv.map zJA),zUK y=true:=zAf6
 have hle:∀ y∈zQV (z.pv.map zJA),∃ x∈z.pv,zJA x=y:=λy hy=>by
  rw[<- hu.e]at hy
  obtain⟨x,hx,e⟩:=zAo.1 hy
  exact⟨x,ho x hx,e⟩
 have hue:=hu.e
 generalize zQV (z.pv.map zJA)=l at *
 obtain⟨kd,d,s,t,e,rfl,⟨o1,o2,o3⟩,hc⟩:=zAkX hm
 have k017:=k016.trans k17
 refine zBo rfl (zBo rfl ?_)
 refine zAdX (z:=chC 0 zCq zCq zCq) (c:=chC kd d s t) zTE rfl rfl (zRu o1 o2 o3) λh19 a19 k19=>?_
 have k1419:=(k16.trans k17).trans k19
 have k019:=k017.trans k19
 simp only[zBi,zAh,zAa]
 have cv:∀ h,Keep No h19 h->At h h17.size (chC kd d s t):=λh k=>a19.keep k id
 have av':∀ h,Keep No h19 h->At h H.size (zHi vi vp z.ask):=λh k=>av _ (k1419.trans k)
 refine zBo (zAbC (av' _ Keep.refl)) (zBo (zAbC (av' _ Keep.refl)) ?_)
 refine zAI (zRt (hpi _ k019) (hPh _ k019) (by omega) (TT _ k019).1.ops) ?_
 rintro _ h20 ⟨rfl,k20⟩
 rw[zAbC (av' _ k20),zBm,zA8]
 have k020:=k019.trans k20
 refine zAI (zSg (hpi _ k020) (hPh _ k020) (by omega) (TT _ k020).1 (TT _ k020).2) ?_
 rintro _ h21 ⟨rfl,k21⟩
 have k1921:=k20.trans k21
 have k021:=k020.trans k21
 refine zBo neB (zN9 rfl (zBo ((av' _ k1921).ldN (zYd ha)) ?_))
 refine zAI (zAek (hpi _ k021) (hPh _ k021) ha (by omega) (TT _ k021).1 (TT _ k021).2) ?_
 rintro _ h22 ⟨rfl,k22⟩
 have k1922:=k1921.trans k22
 have k022:=k021.trans k22
 have k1722:=k19.trans k1922
 have l0:zDp zCq=some (.int .i64 0):=rfl
 have e00:zAB .no .eql (.int .i64 0) (.int .i64 0)=some (.bool true):=rfl
 refine zBo zAjb (zO3 (λe0=>?_) λe0=>?_)
 ·-- an error ahead of the choice
  have e0:zIa (zBV z.mv) z.ask≠0:=by have:(!decide (zIa (zBV z.mv) z.ask=0))=true:=e0;simpa using this
  have hnil:kd=0/\d=zCq/\s=zCq/\t=zCq/\e=zIa (zBV z.mv) z.ask:=by
   rcases hc with ⟨h1,h2,h3,h4,_,h5|⟨_,g,h5,_⟩⟩|⟨_,_,g,_,_,_,_,_,_,h5,_⟩
   ·exact⟨h1,h2,h3,h4,zUH h5 e0⟩
   ·exact absurd (zS0 h5) e0
   ·exact absurd (zS0 h5) e0
  obtain⟨rfl,rfl,rfl,rfl,rfl⟩:=hnil
  refine zBo eqI (zKu (λ_=>?_) λq=>absurd q (by simp))
  refine zBo ((cv _ k1922).ld (i:=3) rfl) (zBo l0 (zBo e00 (zKu (λ_=>?_) nofun)))
  refine zBo ((cv _ k1922).ld (i:=2) rfl) (zBo l0 (zBo e00 (zKu (λ_=>?_) nofun)))
  refine zBo ((cv _ k1922).ld (i:=1) rfl) (zBo l0 (zBo e00 (zKu (λ_=>?_) nofun)))
  exact aw _ k022
 have e0:zIa (zBV z.mv) z.ask=0:=by have:(!decide (zIa (zBV z.mv) z.ask=0))=false:=e0;simpa using this
 obtain⟨good,hch⟩:=zAga e0
 have hri:zDE (zBV z.mv)=true:=by rw[zAk]at good;exact good.1
 have hn:=zTm hri
 have tell:∀ (f:Int) (h:zAw),Keep No h22 h->zAd2 (zBV z.mv) l z.ask f->Mpu (zAB .no .eql (.int .i64 e) (.int .i64 f)) λt146 =>
   J1 (λk46=>Mif t146 true (Mpu (ld1 h (Ptr h17.size 3)) λt149=>Mpu (zDp t149) λt150=>Mpu (zAB .no .eql t150 (.int .i64 0)) λt151=>k46 t151 h) (k46 undef h)) λt151_2 h47 =>
   Mpu (zBw t146 t151_2 (.bool false)) λt152 =>
   J1 (λk48=>Mif t152 true (zAY prg zCN [] h47 λt154 h49=>k48 t154 h49) (k48 undef h47)) λt154_2 h50 =>
   Mpu (zBw t152 t154_2 (.bool false)) λt155=>t155 = .bool true/\Keep No H h50:=λf h k he=>by
  obtain⟨rfl,rfl,rfl,rfl,rfl⟩:=hc.err he
  refine zBo eqI (zKu (λ_=>?_) λq=>absurd q (by simp))
  refine zBo ((cv _ (k1922.trans k)).ld (i:=3) rfl) (zBo l0 (zBo e00 (zKu (λ_=>?_) nofun)))
  exact aw _ (k022.trans k)
 have e22:=k022.1
 refine zNB (λt8 h=>∃ gv Pg,zRx (zBV z.mv) l z.ask (zBV gv)/\zNj Pg h t8 gv/\(∀ b,Pg b->b<h.size)/\gv.length<=40/\Keep No h22 h) (λk32 hk32=>?_) ?_
 ·refine zBo (zAeg (av' _ k1922)) (zBo eqI (zO3 (λe3=>?_) λe3=>?_))
  ·-- a package is removed
   have e3:=of_decide_eq_true e3
   obtain⟨_,hh,hnd⟩:z.ask.kind=3/\zRw (zBV z.mv) z.ask.name=true/\zNf (zBV z.mv) z.ask.name=false:=by
    rcases hch with h|⟨h,_⟩
    ·exact h
    ·exact absurd e3 h.1
   refine zBo (zAbC (av' _ k1922)) (zBo (hpi _ k022).len ?_)
   let pn:MV->Bool:=λx=>!decide (x.1.name=z.ask.name)
   refine zSZ (λi w h=>BufE 8 (λb=>h22.size<=b) h w (((z.mv.take i).filter pn).map mvC)/\Keep No h22 h) ⟨BufE.nil,Keep.refl⟩ (λt8 h hI=>hk32 _ _ ?_) ?_
   ·rw[zBA]at hI
    have k0h:=k022.trans hI.2
    have hfl:=zA9 pn z.mv
    refine⟨z.mv.filter pn,λb=>P b\/(h22.size<=b/\b<h.size),⟨good,.inl ⟨e3,hh,hnd,?_⟩⟩,⟨(BufE.re hI.1 λb hb hF=>(⟨hF,hb⟩:h22.size<=b/\b<h.size)).sl.mono λ_ => .inr,λx hx=>((hpi _ k0h).m x (zA0.1 hx).1).mono λ_ => .inl,λx hx=>(hpi _ k0h).sm x (zA0.1 hx).1⟩,λb hb=>hb.elim (hPh _ k0h b) λhb=>hb.2,by omega,hI.2⟩
    exact(List.filter_map (f:=λx:MV=>x.1) (p:=λm:Man=>!decide (m.name=z.ask.name)) (l:=z.mv)).symm
   rintro i w h hlt ⟨hb,kh⟩ k34 hk34
   obtain⟨x,hx,hmx⟩:=zQj hlt
   have k0h:=k022.trans kh
   have wx:=((hpi _ k0h).m x hmx).wf
   have gh:=kh.1
   have est:=zZq (p:=pn) hx
   refine zNB (λw' h'=>BufE 8 (λb=>h22.size<=b) h' w' (((z.mv.take (i+1)).filter pn).map mvC)/\Keep No h22 h') (λk36 hk36=>?_) λw' h' hI=>zJB hlt (by omega) (hk34 _ _ hI)
   refine zAbU (hpi _ k0h).h (zIq hx) zLF (zBH zN6) λh39 a39 k39=>?_
   have a39':At h39 h.size (zGM x.1 x.2.1 x.2.2.1 x.2.2.2):=a39
   have g39:=k39.1
   simp only[zBi,zAh,zAu,zAa]
   refine zBo (zDy a39') (zBo (zWH (av' _ (k1922.trans (kh.trans k39)))) (zBo zSK (zO3 (λq=>?_) λq=>hk36 _ _ ⟨?_,kh.trans k39⟩)))
   ·refine zBo (a39.ldN (zBH wx)) ?_
    have hfl:=zA9 pn (z.mv.take i)
    rw[zA5]at hfl
    refine zUu (hb.keep k39 λ_ _=>id) (zOa (zBH wx)) (zBH wx) (zF4 (x:=x) ((hpi _ k0h).m x hmx)) (by omega) (by rw[zAd];omega) (by omega) λu h41 bu k41=>hk36 _ _ ⟨?_,(kh.trans k39).fresh k41 λb hb=>hb⟩
    rw[est,show pn x=true from q]
    simpa using bu
   ·rw[est,show pn x=false from q]
    simpa using hb.keep k39 λ_ _=>id
  ·-- layer 20's choice
   have e3:z.ask.kind≠3:=of_decide_eq_false e3
   obtain⟨hcz,hk12⟩:zMz (zBV z.mv) z.ask/\(z.ask.kind=1\/z.ask.kind=2):=by
    rcases hch with h|h
    ·exact absurd h.1 e3
    ·exact h
   refine zBo ((av' _ k1922).ldN (zYd ha)) ?_
   have kp:Keep No h16 h22:=k17.trans k1722
   have hFl:∀ b,F b->b<h22.size:=λb hb=>by have:=(hu.fb b hb).2.1;have:=kp.1;omega
   refine zAI (zZo (Q:=λb=>P b\/F b) (hpi _ k022) ((hu.b.sl.keep kp λ_ _=>id).mono λ_ => .inr) (λx hx=>((hz.p.m x (ho x hx)).keep k022 λ_ _=>id).mono λ_ => .inl) (λx hx=>by have:=sz.p x.1 (zAo.2 ⟨x,ho x hx,rfl⟩);unfold zUC at this;omega) (λb hb=>hb.elim (hPh _ k022 b) λhb=>hb.elim (hPh _ k022 b) (hFl b)) ha hn hcz hk12 (by omega) (by omega)) ?_
   rintro _ h42 ⟨⟨mv',vh,vw,rfl,hv',hprb⟩,k42⟩
   rw[hue]at hv'
   have k2242:=k42
   have g42:=k42.1
   have k042:=k022.trans k42
   refine zAdX (z:=zKl zCq zCq 0) (c:=zKl vh vw z.ask.bound) zVE rfl rfl (λc hc=>by
    simp only[zKl,zAq,zCb,or_false]at hc
    rcases hc with rfl|rfl|rfl
    ·exact hprb.h.oneC
    ·exact hprb.w.oneC
    ·rfl) λh44 a44 k44=>?_
   have k2244:=k42.trans k44
   have k044:=k022.trans k2244
   have hprb44:=hprb.keep k44 λ_ _=>id
   have hmvl:mv'.length<=40:=by
    have h1:=congrArg List.length hv'
    unfold zE1 at h1
    have h2:=zA9 (zUw (zBV z.mv)) (l.map (·.1))
    rw[zAd]at h2
    rw[zAd,zAt,zAd]at h1
    omega
   have hwl:(zNg (zBV z.mv) z.ask.name (zNh (zBV z.mv) z.ask)).length<=64:=by
    unfold zNg zFA
    have h2:=zA9 (λm:Man=>!decide (m.name=z.ask.name)) (zBV z.mv)
    rw[zAd]at h2
    rw[zAQ,zAd]
    omega
   have x0:∀ a b c:Value,zE2 0 (.tuple #[a,b,c])=some a:=λ_ _ _=>rfl
   have x1:∀ a b c:Value,zE2 1 (.tuple #[a,b,c])=some b:=λ_ _ _=>rfl
   have x2:∀ a b c:Value,zE2 2 (.tuple #[a,b,c])=some c:=λ_ _ _=>rfl
   have hPb:∀ b,(P b\/(P b\/F b)\/h22.size<=b/\b<h42.size)->b<h44.size:=λb hb=>by
    have g44:=k44.1
    rcases hb with hb|(hb|hb)|hb
    ·exact hPh _ k044 b hb
    ·exact hPh _ k044 b hb
    ·have:=hFl b hb;omega
    ·omega
   refine zBo (a44.ldN (n:=3) rfl) ?_
   cases hpo:zWB (zBV z.mv) l z.ask
   ·have hpo':zHF (zBV mv') (zNg (zBV z.mv) z.ask.name (zNh (zBV z.mv) z.ask)) z.ask.bound=false:=by rw[hv'];exact hpo
    refine zAI (zX1 hprb44 hpo' (by omega) hwl (TT _ k044).1.ops) ?_
    rintro _ h45 ⟨rfl,k45⟩
    refine zBo (x0 _ _ _) (zBo (x1 _ _ _) (zBo (x2 _ _ _) (zBo zAjb (zJJ (by decide) ?_))))
    exact tell 10 h45 (k2244.trans k45) (.inr ⟨good,.inr (.inr (.inr ⟨hcz,.inl ⟨hpo,rfl⟩⟩))⟩)
   ·have hpo':zHF (zBV mv') (zNg (zBV z.mv) z.ask.name (zNh (zBV z.mv) z.ask)) z.ask.bound=true:=by rw[hv'];exact hpo
    refine zAI (zAdL hprb44 hPb hpo' hmvl hwl (TT _ k044).1.ops) ?_
    rintro u h45 ⟨⟨r,sn,hrun,hu45⟩,k45⟩
    have hrun':zAeu (zBV z.mv) l z.ask r:=⟨sn,by rw[<- hv'];exact hrun⟩
    have k2245:=k2244.trans k45
    have k045:=k044.trans k45
    cases r with
    | fail =>
     obtain rfl:=hu45
     refine zBo (x0 _ _ _) (zBo (x1 _ _ _) (zBo (x2 _ _ _) (zBo zAjb (zJJ (by decide) ?_))))
     exact tell 40 h45 k2245 (.inr ⟨good,.inr (.inr (.inr ⟨hcz,.inr ⟨hpo,.inl ⟨hrun',rfl⟩⟩⟩))⟩)
    | over =>
     obtain rfl:=hu45
     refine zBo (x0 _ _ _) (zBo (x1 _ _ _) (zBo (x2 _ _ _) (zBo zAjb (zJJ (by decide) ?_))))
     exact tell 42 h45 k2245 (.inr ⟨good,.inr (.inr (.inr ⟨hcz,.inr ⟨hpo,.inr ⟨hrun',rfl⟩⟩⟩))⟩)
    | ok ks =>
     obtain⟨hNm,v,rfl,bv⟩:=hu45
     refine zBo (x0 _ _ _) (zBo (x1 _ _ _) (zBo (x2 _ _ _) (zBo zAjb (zN9 (by decide) ?_))))
     have lv:=bv.sl.len
     rw[zMy,zQe]at lv
     have hNs:=hNm.sorted
     have hsl:=hNs.len
     have hvlen:(zBV mv').length=mv'.length:=by simp
     have hprb45:=hprb44.keep k45 λ_ _=>id
     let gv:Nat->List MV:=λi=>((zE0 (zBV mv') ks).take i).map λk=>mv'.getD k default
     refine zBo lv (zSZ (λi w h=>BufE 8 (λb=>h45.size<=b) h w ((gv i).map mvC)/\Keep No h45 h) ⟨BufE.nil,Keep.refl⟩ (λt8 h hI=>hk32 _ _ ?_) ?_)
     ·have k4h:=hI.2
      have g4h:=k4h.1
      have e1:gv (zE0 (zBV mv') ks).length=(zE0 (zBV mv') ks).map λk=>mv'.getD k default:=by show List.map _ (List.take _ _)=_;rw[zBA]
      have hgm:∀ k,k<mv'.length->(mv'.getD k default).1=gM (zBV mv') k/\mv'.getD k default∈mv':=λk hk=>by
       have hg:mv'[k]? = some mv'[k]:=zAj hk
       rw[zXI hg,zCw,hg]
       exact⟨rfl,zAH hk⟩
      have hmem:∀ x∈gv (zE0 (zBV mv') ks).length,x∈mv':=λx hx=>by
       rw[e1]at hx
       obtain⟨k,hk,rfl⟩:=zAo.1 hx
       exact(hgm k (by have:=hNs.1 k hk;omega)).2
      have e2:zBV (gv (zE0 (zBV mv') ks).length)=(zE0 (zE1 (zBV z.mv) l) ks).map (gM (zE1 (zBV z.mv) l)):=by
       rw[e1,<- hv']
       unfold zBV
       rw[List.map_map]
       exact zBR λk hk=>(hgm k (by have:=hNs.1 k hk;omega)).1
      have hprbh:=hprb45.keep k4h λ_ _=>id
      refine⟨gv (zE0 (zBV mv') ks).length,λb=>(P b\/(P b\/F b)\/h22.size<=b/\b<h42.size)\/(h45.size<=b/\b<h.size),?_,⟨(BufE.re hI.1 λb hb hF=>(⟨hF,hb⟩:h45.size<=b/\b<h.size)).sl.mono λ_ => .inr,λx hx=>(hprbh.m x (hmem x hx)).mono λ_ => .inl,λx hx=>hprbh.sm x (hmem x hx)⟩,λb hb=>hb.elim (λhb=>by have:=hPb b hb;have:=k45.1;omega) λhb=>hb.2,?_,k2245.trans k4h⟩
      ·rw[e2]
       exact⟨good,.inr ⟨hcz,hpo,ks,hrun',by rw[<- hv'];exact hNm,rfl⟩⟩
      ·rw[e1,zAd];omega
     rintro i w h hlt ⟨hb,kh⟩ k51 hk51
     obtain⟨k,hkx,hkm⟩:=zQj hlt
     have hkl:k<(zBV mv').length:=hNs.1 k hkm
     have gh:=kh.1
     have hprbh:=hprb45.keep kh λ_ _=>id
     obtain⟨b,o,hix,hpt,_⟩:=(bv.sl.keep kh λ_ _=>id).at (zQE (zAgT hkx))
     obtain⟨x,hx,hgx,hxm,hmx,b',o',hix',hpt',_⟩:=hprbh.at hkl
     have wx:=hmx.wf
     refine zBo (hix .i64) (zBo (hpt.cell0 rfl) ?_)
     rw[zBi,zAa,zAu]
     refine zBo (((a44.keep k45 id).keep kh id).ld (i:=0) rfl) (zBo (hix' .i64) (zBo (hpt'.agg (zBH wx)) ?_))
     refine zUu hb (zOa (zBH wx)) (zBH wx) (zF4 (x:=x) hmx) (by omega) (by show((gv i).map mvC |>.length.succ)*128<=_;simp[gv];omega) (by omega) λu h54 bu k54=>zJB hlt (by omega) (hk51 _ _ ⟨?_,kh.fresh k54 λb hb=>hb⟩)
     have:gv (i+1)=gv i++[x]:=by
      show List.map _ (List.take (i+1) _)=List.map _ (List.take i _)++_
      rw[zAF,hkx,zAG]
      congr 1
      show [mv'.getD k default]=[x]
      rw[zCw,hx];rfl
     rw[this,zAG]
     exact bu
 rintro t8 h33 ⟨gv,Pg,hG,hgl,hPg,hgvl,k33⟩
 have k033:=k022.trans k33
 have k1933:=k1922.trans k33
 refine zAI (zSg hgl hPg (by omega) (TT _ k033).1 (TT _ k033).2) ?_
 rintro _ h55 ⟨rfl,k55⟩
 have k055:=k033.trans k55
 have k1955:=k1933.trans k55
 refine zBo rfl (zO3 (λq=>?_) λq=>?_)
 ·have hr:zDE (zBV gv)=false:=by have q:(!zDE (zBV gv))=true:=q;simpa using q
  obtain⟨rfl,rfl,rfl,rfl,rfl⟩:=hc.clash hG hr
  refine zBo eqI (zKu (λ_=>?_) λq=>absurd q (by simp))
  refine zBo ((cv _ k1955).ld (i:=3) rfl) (zBo l0 (zBo e00 (zKu (λ_=>?_) nofun)))
  exact aw _ k055
 have hr:zDE (zBV gv)=true:=by have q:(!zDE (zBV gv))=false:=q;simpa using q
 obtain⟨rfl,rfl,n0,zz,col,dr,ad,af,hzz,hci,hdr,had,haf⟩:=hc.ok hG hr
 have k1755:Keep No h17 h55:=k19.trans k1955
 have hgs:=zAaL hG
 obtain⟨hk1,hk2⟩:=zAgb hG
 have hsz:∀ m∈zBV gv,m.deps.length<=1000/\m.conf.length<=1000:=λm hm=>by
  obtain⟨x,hx,rfl⟩:=zAo.1 hm
  exact hgl.sm x hx
 have wg:∀ m∈zBV gv,m.wf:=λm hm=>by
  obtain⟨x,hx,rfl⟩:=zAo.1 hm
  exact(hgl.m x hx).wf
 have wi:∀ m∈zBV z.mv,m.wf:=λm hm=>by
  obtain⟨x,hx,rfl⟩:=zAo.1 hm
  exact(hz.i.m x hx).wf
 have hafl:af.length=gv.length:=by have:=congrArg List.length haf;rwa [zAd,zAd]at this
 have haf':zNj (Own n0 col 3 h17) h17 t af->True:=λ_=>trivial
 have hA:zNj (λb=>b<h17.size) h55 t af:=⟨(hci.bt.sl.keep k1755 λ_ _=>id).mono λb hb=>hb.2.2,λx hx=>((hci.mt x hx).keep k1755 λ_ _=>id).mono λb hb=>hb.2.2,λx hx=>hsz x.1 (by rw[<- haf];exact zAo.2 ⟨x,hx,rfl⟩)⟩
 have hD:zNj (λb=>b<h17.size) h55 d dr:=⟨(hci.bd.sl.keep k1755 λ_ _=>id).mono λb hb=>hb.2.2,λx hx=>((hci.md x hx).keep k1755 λ_ _=>id).mono λb hb=>hb.2.2,λx hx=>by
  have hm:x.1∈zBV dr:=zAo.2 ⟨x,hx,rfl⟩
  rw[hdr]at hm
  obtain⟨y,hy,e⟩:=zAo.1 (zA0.1 hm).1
  have:=(hpi _ Keep.refl).sm y hy
  rwa [e]at this⟩
 have hdrl:dr.length<=8:=by
  have:=congrArg List.length hdr
  have h2:=zA9 (λm=>!zIC (zBV gv) m) (zBV z.mv)
  rw[zAd]at this h2
  omega
 have hadl:ad.length<=40:=by
  have:=congrArg List.length had
  have h2:=zA9 (λm=>!zIC (zBV z.mv) m) (zBV gv)
  rw[zAd,zAd]at this
  rw[zAd]at h2
  omega
 have e0':(0:Int)=0:=rfl
 refine zBo eqI (zKu (λ_=>?_) λq=>absurd q (by simp))
 refine zBo ((cv _ k1955).ld (i:=0) rfl) (zBo (zAeg (av' _ k1955)) (zBo eqI ?_))
 refine zKu (λ_=>?_) λq=>absurd q (by simp)
 refine zBo ((cv _ k1955).ld (i:=3) rfl) ?_
 have g1755:=k1755.1
 refine zAI (zNi hA (λb hb=>by omega) (by omega) (TT _ k055).1 (TT _ k055).2) ?_
 rintro t198 h64 ⟨b64,k64⟩
 have k064:=k055.trans k64
 have k3364:=k55.trans k64
 refine zAI (zNi (hgl.keep k3364 λ_ _=>id) (λb hb=>zAN (hPg b hb) k3364.1) (by omega) (TT _ k064).1 (TT _ k064).2) ?_
 rintro t200 h65 ⟨b65,k65⟩
 have wl:∀ mv:List MV,∀ x∈zLJ mv,x.2.2.length=32:=λmv x hx=>by
  obtain⟨y,_,rfl⟩:=zAo.1 hx
  exact zGh
 refine zAI (zWF (b64.sl.keep k65 λ_ _=>id) b65.sl (wl af) (wl gv) (by simp[zLJ];omega)) ?_
 rintro _ _ ⟨rfl,rfl⟩
 have hits:zLJ af=zLJ gv:=by
  have e1:∀ l:List MV,zLJ l=(zBV l).map itT:=λl=>by unfold zBV;rw[List.map_map];rfl
  rw[e1,e1,haf]
 have k5565:=k64.trans k65
 have k1965:=k1955.trans k5565
 have k065:=k055.trans k5565
 refine zKu (λ_=>?_) λq=>absurd q (by rw[decide_eq_true hits];decide)
 refine zBo (zAbC (av' _ k1965)) (zBo ((cv _ k1965).ldN (n:=4) rfl) ?_)
 have hs9:=(hci.bs.sl.keep k1755 λ_ _=>id).keep k5565 λ_ _=>id
 refine zAI (zZn (Qd:=λb=>b<h17.size) (Qs:=λb=>b<h17.size) (Qt:=λb=>b<h17.size) (hpi _ k065) (hD.keep k5565 λ_ _=>id) (hs9.mono λb hb=>hb.2.2) (λx hx=>(((hci.ms x hx).keep k1755 λ_ _=>id).keep k5565 λ_ _=>id).mono λb hb=>hb.2.2) (hA.keep k5565 λ_ _=>id) (λb hb=>by
  have g5565:=k5565.1
  rcases hb with hb|hb|hb|hb
  ·exact hPh _ k065 b hb
  ·omega
  ·omega
  ·omega) (by omega) (by omega) (by omega) (by omega) (TT _ k065).1 (TT _ k065).2) ?_
 rintro _ h69 ⟨rfl,k69⟩
 have hcf:zNP (zBV z.mv) (zBV dr) (ad.map zJA) (zBV af)=true:=by
  rw[hdr,had,haf]
  exact zUY hlok hri hr wi wg hk1 hk2
 rw[hcf]
 exact zKu (λ_=>aw _ (k065.trans k69)) nofun
end Go.Proofs.YticdfkoncnnmmaaGreatDoor
namespace Go.Proofs.YticdfkoncnnmmaaGreatDoor.Came
open Go.X
theorem zAgc {H:Type}(d:DataW H):1<=Rows.uptoBulk d:=by
 unfold Rows.uptoBulk
 split<;>omega
theorem zYf {H:Type}:∀ (l:List (DataW H)),l.length<=Rows.uptoBulkAll l
 | []=>by simp
 | d::l=>by
  have h1:=zAgc d
  have h2:=zYf l
  have e:Rows.uptoBulkAll (d::l)=Rows.uptoBulk d+Rows.uptoBulkAll l:=by rw[Rows.uptoBulkAll]
  rw[e,zAQ];omega
theorem zZs {H:Type}{d:DataW H}:∀ {l:List (DataW H)},d∈l->Rows.uptoBulk d<=Rows.uptoBulkAll l
 | x::l,h=>by
  have e:Rows.uptoBulkAll (x::l)=Rows.uptoBulk x+Rows.uptoBulkAll l:=by rw[Rows.uptoBulkAll]
  rw[e]
  rcases zAq.1 h with rfl|h
  ·omega
  ·have:=zZs h;omega
theorem zAbD {H:Type}{l:List (DataW H)}(h:Rows.uptoSmall H l=true):Rows.uptoBulkAll l<=1048576:=of_decide_eq_true h
theorem zAbE {H:Type}{enc:TypeId×Value->H}{P:Program}{w:World}{base:Nat}{sp:Nat->Bool}{held:Bool}{fuel:Nat}{t e:TypeId}{a:Option Addr}{n c:Nat}{d:DataW H}{p:List MemPlace}
  (ht:P.underlying t=some (.slice e)) (h:DataW.trod enc P w base sp held fuel t [.slice a n c]=some (d,p)):n<=Rows.uptoBulk d:=by
 rcases DataW.trod_slice ht h with ⟨h0,_⟩|⟨a',len,cap,elems,rest,m,_,hc,hx,_,_,_,hel,_⟩
 ·cases h0;exact zAA _
 ·cases hc
  cases hx
  have:=zYf (elems.map (·.1))
  rw[zAd]at this
  rw[Rows.uptoBulk]
  omega
theorem zAml:zAbN zEv [(0,zHL),(1,zBJ),(2,zBI),(7,zHL)]=true:=by kernel_rfl
theorem zAhl:prg.cellsOf zEv=8:=by kernel_rfl
theorem zAkY:prg.cellsOf zBJ=1:=by kernel_rfl
theorem zAkZ {w:World}{d:Nat}{cs:List Value}(h:Shp prg w d zEv cs):∃ a:zPB,a.wf/\cs=zQ7 a:=by
 obtain⟨d',hl,hfl⟩:=zNL zAml h
 rw[zAhl]at hl
 have h0:=hfl 0 0 zHL rfl
 have h1:=hfl 1 1 zBJ rfl
 have h2:=hfl 2 2 zBI rfl
 have h3:=hfl 3 7 zHL rfl
 rw[zAgN]at h0 h3;rw[zAkY]at h1;rw[zYU]at h2
 obtain⟨n,hn,_⟩:=shp_int zAig h0
 obtain⟨⟨⟨s⟩⟩,hs,hsl⟩:=zSA zOY h1
 obtain⟨x,wx,hx⟩:=zAcW h2
 obtain⟨b,hb,_⟩:=shp_int zAig h3
 refine⟨⟨n,s,x,b⟩,⟨hsl,wx⟩,?_⟩
 have e1:cs=(cs.drop 0).take 1++((cs.drop 1).take 1++((cs.drop 2).take 5++(cs.drop 7).take 1)):=by
  match cs,hl with
  | [a,b,c,d,e,f,g,i],_=>rfl
 rw[e1,hn,hs,hx,hb]
 simp[zQ7]
theorem zAhm:zAbN zB5 [(0,zDI),(1,zHc),(2,zEv)]=true:=by kernel_rfl
theorem zAje:prg.cellsOf zB5=10:=by kernel_rfl
theorem zAem:prg.cellsOf zHc=1:=by kernel_rfl
theorem zAjf:prg.cellsOf zDI=1:=by kernel_rfl
theorem zAjg {w:World}{d:Nat}{cs:List Value}(h:Shp prg w d zB5 cs):∃ (z:zX9) (vi vp:Value),zAec (· < w.heap.size) w.heap vi vp z/\cs=zHi vi vp z.ask:=by
 obtain⟨d',hl,hfl⟩:=zNL zAhm h
 rw[zAje]at hl
 have h0:=hfl 0 0 zDI rfl
 have h1:=hfl 1 1 zHc rfl
 have h2:=hfl 2 2 zEv rfl
 rw[zAjf]at h0;rw[zAem]at h1;rw[zAhl]at h2
 obtain⟨a,wa,ea⟩:=zAkZ h2
 match cs,hl with
 | [c0,c1,c2,c3,c4,c5,c6,c7,c8,c9],_ =>
  obtain⟨mv,_,hm⟩:=zAkR (v:=c0) h0
  obtain⟨pv,_,hp⟩:=zAkT (v:=c1) h1
  refine⟨⟨mv,pv,a⟩,c0,c1,⟨hm,hp,wa⟩,?_⟩
  unfold zHi
  rw[<- ea];rfl
theorem zAk0:∃ fs,Tryz.prog.underlying zB5=some (.struct fs):=by
 have h:(match Tryz.prog.underlying zB5 with|some (.struct _)=>true|_=>false)=true:=by kernel_rfl
 split at h
 ·exact⟨_,by assumption⟩
 ·cases h
theorem zAbF {H:Type}{enc:TypeId×Value->H}{w:World}{base:Nat}{sp:Nat->Bool}{held:Bool}{fuel:Nat}{T ty e:TypeId}{l:List (Nat×TypeId)}{i o:Nat}{cs:List Value}{a:Option Addr}{n c:Nat}{d:DataW H}{p:List MemPlace}
  (hl:zAbN T l=true) (hi:l[i]? = some (o,ty)) (hu:prg.underlying ty=some (.slice e)) (h:DataW.trod enc prg w base sp held fuel T cs=some (d,p)) (hc:(cs.drop o).take (prg.cellsOf ty)=[.slice a n c]):n<=Rows.uptoBulk d:=by
 unfold zAbN at hl
 split at hl
 ·rename_i fs hfs
  obtain⟨xs,m,_,hx,_,hlen,hf⟩:=DataW.trod_struct hfs h
  have hl':fs.toList.map (λf=>(f.offset,f.type))=l:=by simpa using hl
  rw[<- hl',zAr]at hi
  obtain⟨f,hfi,hfe⟩:=zBF.1 hi
  cases hfe
  have hfi':fs[i]? = some f:=by simpa using hfi
  have h1:=hf i f hfi'
  rw[hc]at h1
  have hlt:i<xs.length:=by rw[hlen];exact(zBh.1 hfi').1
  rw[zAj hlt]at h1
  have h2:=zAbE (d:=xs[i].1) (p:=xs[i].2) hu h1
  cases hx
  have h3:xs[i].1∈xs.map (·.1):=zAo.2 ⟨xs[i],zAH hlt,rfl⟩
  have h4:=zZs h3
  have h5:Rows.uptoBulk (DataW.agg (xs.map (·.1)))=Rows.uptoBulkAll (xs.map (·.1))+1:=by rw[Rows.uptoBulk]
  omega
 ·cases hl
theorem zAen {H:Type}{enc:TypeId×Value->H}{w:World}{base:Nat}{sp:Nat->Bool}{held:Bool}{fuel:Nat}{z:zX9}{vi vp:Value}{d:DataW H}{p:List MemPlace}{P:zA3}{h:zAw}
  (hz:zAec P h vi vp z) (ht:DataW.trod enc prg w base sp held fuel zB5 (zHi vi vp z.ask)=some (d,p)):z.pv.length<=Rows.uptoBulk d:=by
 obtain⟨⟨a,c,e,_⟩,_⟩:=hz.p.h
 rw[zAd]at e
 refine zAbF (i:=1) (a:=a) (c:=c) zAhm rfl zAhg ht ?_
 rw[zAem,e];rfl
end Go.Proofs.YticdfkoncnnmmaaGreatDoor.Came
