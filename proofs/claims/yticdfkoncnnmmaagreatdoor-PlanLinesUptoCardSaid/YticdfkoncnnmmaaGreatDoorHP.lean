import Derived.Test.YticdfkoncnnmmaaGreatDoorHJ
import Derived.Test.YticdfkoncnnmmaaGreatDoorHN
set_option linter.unusedSimpArgs false
set_option linter.unusedVariables false
set_option maxRecDepth 100000
namespace Go.Proofs.YticdfkoncnnmmaaGreatDoor
open Go.X Go.X.Diff
structure zAae (z:zSu):Prop where
 i:zSU z.mv
 il:z.mv.length<=8
 p:zSU (zEX z.pv)
 pl:z.pv.length<=12
theorem zAiP {P:zA2}{H:zAw}{vi vp:Value}{z:zSu}{R REST:zAn}(hz:zAa6 P H vi vp z)(hl:z.pv.length<=1048576)(hT:zZF H)(hS:zTa H)(hR:∀ h',Keep No H h'->R (.bool true) h')
  (hrest:∀ h,At h H.size (zMU vi vp z.ask)->Keep No H h->zAae z->REST (Ptr H.size 0) h) :
  zDA H zCu (some (Value.cells (.agg (zMU vi vp z.ask).toArray))) λt1 h1 =>
  Mpu (fld 0 t1) λt17=>Mpu (ld1 h1 t17) λt18=>zA3 prg zD3 [t18,(.int .i64 8)] h1 λt19 h2=>Mpu (unV .not t19) λt20 =>
  J1 (λk3=>Mif t20 false (Mpu (fld 1 t1) λt22=>Mpu (ld1 h2 t22) λt23=>zA3 prg zDU [t23] h2 λt24 h4=>zA3 prg zD3 [t24,(.int .i64 12)] h4 λt25 h5=>Mpu (unV .not t25) λt26=>k3 t26 h5) (k3 undef h2)) λt26_2 h6 =>
  Mpu (zBH t20 (.bool true) t26_2) λt27 =>
  J1 (λk7=>Mif t27 false (Mpu (fld 2 t1) λt29=>Mpu (fld 7 t29) λt30=>Mpu (ld1 h6 t30) λt31=>Mpu (zAC .no .gtr t31 (.int .i64 3000)) λt32=>k7 t32 h6) (k7 undef h6)) λt32_2 h8 =>
  Mpu (zBH t27 (.bool true) t32_2) λt33 =>
  J1 (λk9=>Mif t33 false (Mpu (fld 2 t1) λt35=>Mpu (fld 1 t35) λt36=>Mpu (ld1 h8 t36) λt37=>Mpu (zLS t37) λt38=>Mpu (zAC .no .gtr t38 (.int .i64 50)) λt39=>k9 t39 h8) (k9 undef h8)) λt39_2 h10 =>
  Mpu (zBH t33 (.bool true) t39_2) λt40 =>
  J1 (λk11=>Mif t40 false (Mpu (fld 2 t1) λt42=>Mpu (fld 2 t42) λt43=>Mpu (fld 0 t43) λt44=>Mpu (ld1 h10 t44) λt45=>Mpu (zLS t45) λt46=>Mpu (zAC .no .gtr t46 (.int .i64 20)) λt47=>k11 t47 h10) (k11 undef h10)) λt47_2 h12 =>
  Mpu (zBH t40 (.bool true) t47_2) λt48 =>
  J1 (λk13=>Mif t48 false (Mpu (fld 2 t1) λt50=>Mpu (fld 2 t50) λt51=>Mpu (fld 1 t51) λt52=>Mpu (fld 3 t52) λt53=>Mpu (ld1 h12 t53) λt54=>Mpu (zLS t54) λt55=>Mpu (zAC .no .gtr t55 (.int .i64 50)) λt56=>k13 t56 h12) (k13 undef h12)) λt56_2 h14 =>
  Mpu (zBH t48 (.bool true) t56_2) λt57 =>
  Mcd t57 (zA3 prg zD4 [] h14 λt58 h15=>R t58 h15) (REST t1 h14):=by
 have ha:=hz.a
 simp only[zB1,zBa,zBf,zAg,zAa]
 generalize hH1:H.push (.cells (zMU vi vp z.ask).toArray zCu (0,0))=h1
 have k1:Keep No H h1:=by rw[<- hH1];exact Keep.push
 have a1:At h1 H.size (zMU vi vp z.ask):=by rw[<- hH1];exact At.push
 have av:∀ h,Keep No h1 h->At h H.size (zMU vi vp z.ask):=λh k=>a1.keep k id
 have aw:∀ h,Keep No h1 h->zA3 prg zD4 [] h λt h'=>R t h':=λh k=>by
  have k0:=k1.trans k
  refine zAJ (zXA (hT.keep k0 λ_ h=>h.elim) (hS.keep k0 λ_ h=>h.elim)) ?_
  rintro _ h' ⟨rfl,k'⟩
  exact hR _ (k0.trans k')
 refine zCk (zAmD a1) ?_
 refine zAJ (zXC (most:=8) (hz.i.keep k1 λ_ _=>id)) ?_
 rintro _ h2 ⟨⟨b1,rfl,hb1⟩,k2⟩
 refine zCk rfl (zRQ (λ_=>zRQ (λ_=>zRQ (λ_=>zRQ (λ_=>zRQ (λ_=>zNN rfl (aw _ k2)) nofun) nofun) nofun) nofun) λq1=>?_)
 obtain⟨s1,s2⟩:=hb1 (by simpa using q1)
 refine zCk (zAmE (av _ k2)) ?_
 have k02:=k1.trans k2
 refine zAJ (zRK (hz.p.keep k02 λ_ _=>id) hl) ?_
 rintro t24 h4 ⟨b4,k4⟩
 refine zAJ (zXC (most:=12) ((hz.p.keep k02 λ_ _=>id).mans k4 b4)) ?_
 rintro _ h5 ⟨⟨b2,rfl,hb2⟩,k5⟩
 have k15:=(k2.trans k4).trans k5
 refine zCk rfl (zRQ (λ_=>zRQ (λ_=>zRQ (λ_=>zRQ (λ_=>zNN rfl (aw _ k15)) nofun) nofun) nofun) λq2=>?_)
 obtain⟨s3,s4⟩:=hb2 (by simpa using q2)
 have b50:∀ n:Nat,zAC .no .gtr (.int .i64 (n:Nat)) (.int .i64 50)=some (.bool (decide (n > 50))):=λn=>zAdP (m:=50)
 have b20:∀ n:Nat,zAC .no .gtr (.int .i64 (n:Nat)) (.int .i64 20)=some (.bool (decide (n > 20))):=λn=>zAdP (m:=20)
 refine zCk (zAfP (av _ k15) ha) (zCk gtI (zRQ (λ_=>zRQ (λ_=>zRQ (λ_=>zNN rfl (aw _ k15)) nofun) nofun) λq3=>?_))
 refine zCk (zAiN (av _ k15)) (zCk zE5 (zCk (b50 _) (zRQ (λ_=>zRQ (λ_=>zNN rfl (aw _ k15)) nofun) λq4=>?_)))
 refine zCk (zAlZ (av _ k15)) (zCk zE5 (zCk (b20 _) (zRQ (λ_=>zNN rfl (aw _ k15)) λq5=>?_)))
 refine zCk (zAkF (av _ k15) ha) (zCk zE5 (zCk (b50 _) (zUI (λ_=>aw _ k15) λq6=>?_)))
 refine hrest _ (av _ k15) (k1.trans k15) ⟨s1,s2,s3,?_⟩
 rwa [zAf]at s4
structure zAm4 (H h:zAw)(z:zSu)(u:Value):Prop where
 ex:zAa1 (zBR z.mv) (zSv (z.pv.map zLR)) z.ask H h u
theorem zAdZ {inst:List Man}{l:List Pk}{a:zQz}{H h:zAw}{u:Value}(m:zAa1 inst l a H h u) :
  (∃ e:Int,u = .tuple #[.agg (chC 0 zCq zCq zCq).toArray,.int .i64 e]/\e≠0/\(zAd9 inst l a e\/e=41/\∃ goal,zQm inst l a goal/\zEW goal=false)) \/
  ∃ goal n0 zz col d s t dr ad af,u = .tuple #[.agg (chC a.kind d s t).toArray,.int .i64 0]/\zQm inst l a goal/\zEW goal=true/\H.size<=zz/\ChI n0 zz a.kind col d s t dr ad af h/\zBR dr=inst.filter (λm=>!zJZ goal m)/\ad.map zLR=(goal.filter λm=>!zJZ inst m).map (zNt l)/\zBR af=goal:=by
 rcases m with ⟨e,he,rfl⟩|⟨goal,hg,⟨hr,rfl⟩|⟨hr,n0,zz,col,d,s,t,dr,ad,af,rfl,h1,h2,h3,h4,h5⟩⟩
 ·refine .inl ⟨e,rfl,?_,.inl he⟩
  rcases he with ⟨_,rfl⟩|⟨_,⟨_,_,rfl⟩|⟨_,_,rfl⟩|⟨_,_,_,rfl⟩|⟨_,⟨_,rfl⟩|⟨_,⟨_,rfl⟩|⟨_,rfl⟩⟩⟩⟩<;>decide
 ·exact .inl ⟨41,rfl,by decide,.inr ⟨rfl,goal,hg,hr⟩⟩
 ·exact .inr ⟨goal,n0,zz,col,d,s,t,dr,ad,af,rfl,hg,hr,h1,h2,h3,h4,h5⟩
theorem zUr.mono {P Q:zA2}{H:zAw}{x:PW}(h:zUr P H x)(k:∀ b,P b->Q b):zUr Q H x:=⟨h.m.mono k,h.f.mono k k⟩
def zXH (inst:List Man)(l:List Pk)(a:zQz)(H h:zAw)(kd:Int)(d s t:Value)(e:Int):Prop :=
 (kd=0/\d=zCq/\s=zCq/\t=zCq/\e≠0/\(zAd9 inst l a e\/e=41/\∃ goal,zQm inst l a goal/\zEW goal=false)) \/
 (kd=a.kind/\e=0/\∃ goal n0 zz col dr ad af,zQm inst l a goal/\zEW goal=true/\H.size<=zz/\ChI n0 zz a.kind col d s t dr ad af h/\zBR dr=inst.filter (λm=>!zJZ goal m)/\ad.map zLR=(goal.filter λm=>!zJZ inst m).map (zNt l)/\zBR af=goal)
theorem zAkG {inst:List Man}{l:List Pk}{a:zQz}{H h:zAw}{u:Value}(m:zAa1 inst l a H h u) :
  ∃ kd d s t e,u = .tuple #[.agg (chC kd d s t).toArray,.int .i64 e]/\(d.oneCell'=true/\s.oneCell'=true/\t.oneCell'=true)/\zXH inst l a H h kd d s t e:=by
 rcases zAdZ m with ⟨e,rfl,h1,h2⟩|⟨goal,n0,zz,col,d,s,t,dr,ad,af,rfl,h1,h2,h3,h4,h5⟩
 ·exact⟨0,zCq,zCq,zCq,e,rfl,⟨rfl,rfl,rfl⟩,.inl ⟨rfl,rfl,rfl,rfl,h1,h2⟩⟩
 ·exact⟨_,d,s,t,0,rfl,⟨h4.bd.sl.oneC,h4.bs.sl.oneC,h4.bt.sl.oneC⟩,.inr ⟨rfl,rfl,goal,n0,zz,col,dr,ad,af,h1,h2,h3,h4,h5⟩⟩
section
variable {inst:List Man} {l:List Pk} {a:zQz} {H h:zAw} {kd:Int} {d s t:Value} {e e':Int} {G:List Man}
theorem zXH.err (m:zXH inst l a H h kd d s t e)(he:zAd9 inst l a e'):kd=0/\d=zCq/\s=zCq/\t=zCq/\e=e':=by
 rcases m with ⟨h1,h2,h3,h4,_,h5|⟨_,g,h5,_⟩⟩|⟨_,_,g,_,_,_,_,_,_,h5,_⟩
 ·exact⟨h1,h2,h3,h4,zAiO h5 he⟩
 ·exact(zTk h5 he).elim
 ·exact(zTk h5 he).elim
theorem zXH.clash (m:zXH inst l a H h kd d s t e)(hg:zQm inst l a G)(hr:zEW G=false):kd=0/\d=zCq/\s=zCq/\t=zCq/\e=41:=by
 rcases m with ⟨h1,h2,h3,h4,_,h5|⟨h6,g,h5,_⟩⟩|⟨_,_,g,_,_,_,_,_,_,h5,h6,_⟩
 ·exact(zTk hg h5).elim
 ·exact⟨h1,h2,h3,h4,h6⟩
 ·rw[zWh h5 hg,hr]at h6;cases h6
theorem zXH.ok (m:zXH inst l a H h kd d s t e)(hg:zQm inst l a G)(hr:zEW G=true):kd=a.kind/\e=0/\∃ n0 zz col dr ad af,H.size<=zz/\ChI n0 zz a.kind col d s t dr ad af h/\zBR dr=inst.filter (λm=>!zJZ G m)/\ad.map zLR=(G.filter λm=>!zJZ inst m).map (zNt l)/\zBR af=G:=by
 rcases m with ⟨h1,h2,h3,h4,_,h5|⟨h6,g,h5,h7⟩⟩|⟨h1,h2,g,n0,zz,col,dr,ad,af,h5,h6,h7⟩
 ·exact(zTk hg h5).elim
 ·rw[zWh h5 hg,hr]at h7;cases h7
 ·rw[zWh h5 hg]at h7
  exact⟨h1,h2,n0,zz,col,dr,ad,af,h7⟩
end
theorem zUt {α:Type}{l:List α}{i:Nat}{x:α}{p:α->Bool}(h:l[i]? = some x):(l.take (i+1)).filter p=(l.take i).filter p++if p x then [x] else []:=zHY h
end Go.Proofs.YticdfkoncnnmmaaGreatDoor
namespace Go.Proofs.YticdfkoncnnmmaaGreatDoor.Came
open Go.X
theorem zAfR {H:Type}(d:DataW H):1<=Rows.uptoBulk d:=by
 unfold Rows.uptoBulk
 split<;>omega
theorem zXI {H:Type}:∀ (l:List (DataW H)),l.length<=Rows.uptoBulkAll l
 | []=>by simp
 | d::l=>by
  have h1:=zAfR d
  have h2:=zXI l
  have e:Rows.uptoBulkAll (d::l)=Rows.uptoBulk d+Rows.uptoBulkAll l:=by rw[Rows.uptoBulkAll]
  rw[e,zAQ];omega
theorem zYT {H:Type}{d:DataW H}:∀ {l:List (DataW H)},d∈l->Rows.uptoBulk d<=Rows.uptoBulkAll l
 | x::l,h=>by
  have e:Rows.uptoBulkAll (x::l)=Rows.uptoBulk x+Rows.uptoBulkAll l:=by rw[Rows.uptoBulkAll]
  rw[e]
  rcases zAr.1 h with rfl|h
  ·omega
  ·have:=zYT h;omega
theorem zAbd {H:Type}{l:List (DataW H)}(h:Rows.uptoSmall H l=true):Rows.uptoBulkAll l<=1048576:=of_decide_eq_true h
theorem zAbe {H:Type}{enc:TypeId×Value->H}{P:Program}{w:World}{base:Nat}{sp:Nat->Bool}{held:Bool}{fuel:Nat}{t e:TypeId}{a:Option Addr}{n c:Nat}{d:DataW H}{p:List MemPlace}
  (ht:P.underlying t=some (.slice e)) (h:DataW.trod enc P w base sp held fuel t [.slice a n c]=some (d,p)):n<=Rows.uptoBulk d:=by
 rcases DataW.trod_slice ht h with ⟨h0,_⟩|⟨a',len,cap,elems,rest,m,_,hc,hx,_,_,_,hel,_⟩
 ·cases h0;exact zAA _
 ·cases hc
  cases hx
  have:=zXI (elems.map (·.1))
  rw[zAf]at this
  rw[Rows.uptoBulk]
  omega
theorem zAl0:zAbo zFt [(0,zHC),(1,zBd),(2,zBL),(7,zHC)]=true:=by kernel_rfl
theorem zAgZ:prg.cellsOf zFt=8:=by kernel_rfl
theorem zAkH:prg.cellsOf zBd=1:=by kernel_rfl
theorem zAkI {w:World}{d:Nat}{cs:List Value}(h:Shp prg w d zFt cs):∃ a:zQz,a.wf/\cs=zSt a:=by
 obtain⟨d',hl,hfl⟩:=zNp zAl0 h
 rw[zAgZ]at hl
 have h0:=hfl 0 0 zHC rfl
 have h1:=hfl 1 1 zBd rfl
 have h2:=hfl 2 2 zBL rfl
 have h3:=hfl 3 7 zHC rfl
 rw[zAgv]at h0 h3;rw[zAkH]at h1;rw[zYq]at h2
 obtain⟨n,hn,_⟩:=shp_int zAhU h0
 obtain⟨⟨⟨s⟩⟩,hs,hsl⟩:=zR5 zOA h1
 obtain⟨x,wx,hx⟩:=zAcx h2
 obtain⟨b,hb,_⟩:=shp_int zAhU h3
 refine⟨⟨n,s,x,b⟩,⟨hsl,wx⟩,?_⟩
 have e1:cs=(cs.drop 0).take 1++((cs.drop 1).take 1++((cs.drop 2).take 5++(cs.drop 7).take 1)):=by
  match cs,hl with
  | [a,b,c,d,e,f,g,i],_=>rfl
 rw[e1,hn,hs,hx,hb]
 simp[zSt]
theorem zAg0:zAbo zCu [(0,zDF),(1,zG6),(2,zFt)]=true:=by kernel_rfl
theorem zAiQ:prg.cellsOf zCu=10:=by kernel_rfl
theorem zAd0:prg.cellsOf zG6=1:=by kernel_rfl
theorem zAiR:prg.cellsOf zDF=1:=by kernel_rfl
theorem zAiS {w:World}{d:Nat}{cs:List Value}(h:Shp prg w d zCu cs):∃ (z:zSu) (vi vp:Value),zAa6 (· < w.heap.size) w.heap vi vp z/\cs=zMU vi vp z.ask:=by
 obtain⟨d',hl,hfl⟩:=zNp zAg0 h
 rw[zAiQ]at hl
 have h0:=hfl 0 0 zDF rfl
 have h1:=hfl 1 1 zG6 rfl
 have h2:=hfl 2 2 zFt rfl
 rw[zAiR]at h0;rw[zAd0]at h1;rw[zAgZ]at h2
 obtain⟨a,wa,ea⟩:=zAkI h2
 match cs,hl with
 | [c0,c1,c2,c3,c4,c5,c6,c7,c8,c9],_ =>
  obtain⟨mv,_,hm⟩:=zAkz (v:=c0) h0
  obtain⟨pv,_,hp⟩:=zAkB (v:=c1) h1
  refine⟨⟨mv,pv,a⟩,c0,c1,⟨hm,hp,wa⟩,?_⟩
  unfold zMU
  rw[<- ea];rfl
theorem zAkJ:∃ fs,Tryz.prog.underlying zCu=some (.struct fs):=by
 have h:(match Tryz.prog.underlying zCu with|some (.struct _)=>true|_=>false)=true:=by kernel_rfl
 split at h
 ·exact⟨_,by assumption⟩
 ·cases h
theorem zAbf {H:Type}{enc:TypeId×Value->H}{w:World}{base:Nat}{sp:Nat->Bool}{held:Bool}{fuel:Nat}{T ty e:TypeId}{l:List (Nat×TypeId)}{i o:Nat}{cs:List Value}{a:Option Addr}{n c:Nat}{d:DataW H}{p:List MemPlace}
  (hl:zAbo T l=true) (hi:l[i]? = some (o,ty)) (hu:prg.underlying ty=some (.slice e)) (h:DataW.trod enc prg w base sp held fuel T cs=some (d,p)) (hc:(cs.drop o).take (prg.cellsOf ty)=[.slice a n c]):n<=Rows.uptoBulk d:=by
 unfold zAbo at hl
 split at hl
 ·rename_i fs hfs
  obtain⟨xs,m,_,hx,_,hlen,hf⟩:=DataW.trod_struct hfs h
  have hl':fs.toList.map (λf=>(f.offset,f.type))=l:=by simpa using hl
  rw[<- hl',zAp]at hi
  obtain⟨f,hfi,hfe⟩:=zBy.1 hi
  cases hfe
  have hfi':fs[i]? = some f:=by simpa using hfi
  have h1:=hf i f hfi'
  rw[hc]at h1
  have hlt:i<xs.length:=by rw[hlen];exact(zBg.1 hfi').1
  rw[zAj hlt]at h1
  have h2:=zAbe (d:=xs[i].1) (p:=xs[i].2) hu h1
  cases hx
  have h3:xs[i].1∈xs.map (·.1):=zAo.2 ⟨xs[i],zAG hlt,rfl⟩
  have h4:=zYT h3
  have h5:Rows.uptoBulk (DataW.agg (xs.map (·.1)))=Rows.uptoBulkAll (xs.map (·.1))+1:=by rw[Rows.uptoBulk]
  omega
 ·cases hl
theorem zAd1 {H:Type}{enc:TypeId×Value->H}{w:World}{base:Nat}{sp:Nat->Bool}{held:Bool}{fuel:Nat}{z:zSu}{vi vp:Value}{d:DataW H}{p:List MemPlace}{P:zA2}{h:zAw}
  (hz:zAa6 P h vi vp z) (ht:DataW.trod enc prg w base sp held fuel zCu (zMU vi vp z.ask)=some (d,p)):z.pv.length<=Rows.uptoBulk d:=by
 obtain⟨⟨a,c,e,_⟩,_⟩:=hz.p.h
 rw[zAf]at e
 refine zAbf (i:=1) (a:=a) (c:=c) zAg0 rfl zAgX ht ?_
 rw[zAd0,e];rfl
end Go.Proofs.YticdfkoncnnmmaaGreatDoor.Came
