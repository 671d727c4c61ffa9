import Derived.Test.YticdfkoncnnmmaaGreatDoorHP
import Derived.Test.YticdfkoncnnmmaaGreatDoorHN
set_option linter.unusedSimpArgs false
set_option linter.unusedVariables false
set_option maxRecDepth 100000
namespace Go.Proofs.YticdfkoncnnmmaaGreatDoor
open Go.X Go.X.Diff
def zXw (hv:List Man)(d:Dep):Bool:=hv.any (zK1 d)
def zAcn (hv:List Man)(m:Man):Bool:=m.deps.all (zXw hv)&&m.conf.all λd=>!zXw hv d
def zM3 (hv:List Man):Bool:=hv.all (zAcn hv)
theorem zUd {P:zAY}{H:zAw}{v:Value}{mv:List MV}(hp:zNz P H v mv)(hl:mv.length<=1000)(hO:zQE H) :
  zAA prg zFg [v] H λu H'=>u = .bool (zM3 (zCq mv))/\Keep No H H':=by
 apply zKV
 unfold zJh
 have hpk:∀ h,Keep No H h->zNz P h v mv:=λh k=>hp.keep k λ_ _=>id
 have OO:∀ h,Keep No H h->zQE h:=λh k=>hO.keep k λ_ h=>h.elim
 refine range_i hp.len (λi h=>((zCq mv).take i).all (zAcn (zCq mv))=true/\Keep No H h) (λh=>zM3 (zCq mv)=true/\Keep No H h) ⟨rfl,Keep.refl⟩ (λh hI=>by rw[zAs (by simp)]at hI;exact hI) ?_ λ_ h hI=>⟨by rw[hI.1],hI.2⟩
 rintro i h hlt ⟨hall,kh⟩ _ k3 _ hk3
 obtain⟨x,hx,hm⟩:=zR0 hlt
 have hmx:=(hpk _ kh).m x hm
 have hsx:=hp.sm x hm
 have wx:=hmx.wf
 have est:=zU4 (p:=zAcn (zCq mv)) (zKH (f:=λz:MV=>z.1) hx)
 have bad:∀ h',Keep No H h'->zAcn (zCq mv) x.1=false->Value.bool false = .bool (zM3 (zCq mv))/\Keep No H h':=λh' k e=>⟨by
  unfold zM3
  rw[zCf.2 ⟨x.1,zAo.2 ⟨x,hm,rfl⟩,by simp[e]⟩],k⟩
 refine zNd (λ_ _ h'=>zAcn (zCq mv) x.1=true/\Keep No h h') (λk5 hk5=>?_) λ_ _ h' hI=>zLc hlt (by omega) (hk3 _ ⟨by rw[est,hall,hI.1];rfl,kh.trans hI.2⟩)
 refine zZ0 (hpk _ kh).h (zKH hx) zJL (zBI zMh) λh8 a8 k8=>?_
 have a8':At h8 h.size (zGU x.1 x.2.1 x.2.2.1 x.2.2.2):=a8
 have k08:=kh.trans k8
 have hm8:=hmx.keep k8 λ_ _=>id
 have ld:∀ h',Keep No h8 h'->ld1 h' (Ptr h.size 5)=some x.2.1/\ld1 h' (Ptr h.size 6)=some x.2.2.1:=λh' k=>by
  obtain⟨g5,g6,_⟩:=zHT (a8'.keep k id) wx
  exact⟨g5,g6⟩
 have dl:=hm8.d.len
 have cl:=hm8.c.len
 rw[zAf]at dl cl
 simp only[zBk,zAh,zAu,zAa]
 refine zOd (λ_ h'=>x.1.deps.all (zXw (zCq mv))=true/\Keep No h8 h') (λk9 hk9=>?_) ?_
 ·refine zCn (ld _ Keep.refl).1 (zCn dl (zWf (λj h'=>(x.1.deps.take j).all (zXw (zCq mv))=true/\Keep No h8 h') ⟨rfl,Keep.refl⟩ (λh' hI=>hk9 _ _ (by rw[zBx]at hI;exact hI)) ?_))
  rintro j h' hj ⟨hdall,kj⟩ k11 hk11
  obtain⟨d,hd,hdm⟩:=zR0 hj
  have wd:=wx.deps d hdm
  have dst:=zU4 (p:=zXw (zCq mv)) hd
  refine zNd (λ_ _ g=>zXw (zCq mv) d=true/\Keep No h' g) (λk13 hk13=>?_) λ_ _ g hI=>zLc hj (by omega) (hk11 _ ⟨by rw[dst,hdall,hI.1];rfl,kj.trans hI.2⟩)
  refine zZ0 (hm8.d.keep kj λ_ _=>id) (zKH hd) zT5 (zEa zNT) λh16 a16 k16=>?_
  have k016:=(k08.trans kj).trans k16
  refine zNd (λw _ g=>w = .bool (zXw (zCq mv) d)/\Keep No h16 g) (λk17 hk17=>?_) ?_
  ·refine zCn hp.len (zXm (λn w g=>w = .bool (((zCq mv).take n).any (zK1 d))/\Keep No h16 g) ⟨rfl,Keep.refl⟩ (λw g hI=>hk17 _ _ _ (by rw[zAs (by simp)]at hI;exact hI)) ?_)
   rintro n _ g hn ⟨rfl,kg⟩ k19 hk19
   obtain⟨y,hy,hym⟩:=zR0 hn
   have k0g:=k016.trans kg
   have wy:=((hpk _ k0g).m y hym).wf
   have fst:=zQN (p:=zK1 d) (zKH (f:=λz:MV=>z.1) hy)
   refine zZ0 (hpk _ k0g).h (zKH hy) zJL (zBI zMh) λh22 a22 k22=>?_
   have a22':At h22 g.size (zGU y.1 y.2.1 y.2.2.1 y.2.2.2):=a22
   have ad:=(a16.keep kg id).keep k22 id
   have kgg:=kg.trans k22
   cases hb:((zCq mv).take n).any (zK1 d)
   ·refine zDu rfl ?_
    simp only[zBk,zAh,zAu,zAa]
    refine zCn (zEc a22') (zCn (ad.ld (i:=0) rfl) (zCn zDx ?_))
    refine zAlg (λe=>?_) λe=>?_
    ·refine zCn (zUO ad wd) (zCn (zKd a22' wy) ?_)
     refine zAM (zLB wd.want wy.ver (OO _ (k016.trans kgg))) ?_
     rintro _ h26 ⟨rfl,k26⟩
     refine zLc hn (by omega) (hk19 _ _ ⟨?_,kgg.trans k26⟩)
     rw[fst,hb,zCC]
     unfold zK1
     rw[e];rfl
    ·refine zLc hn (by omega) (hk19 _ _ ⟨?_,kgg⟩)
     rw[fst,hb,zCC]
     unfold zK1
     rw[e];rfl
   ·exact zAlf (zLc hn (by omega) (hk19 _ _ ⟨by rw[fst,hb];rfl,kgg⟩))
  rintro _ _ h18 ⟨rfl,k18⟩
  refine zCn rfl (zUZ (λe=>bad _ (k016.trans k18) ?_) λe=>hk13 _ _ _ ⟨by have e:(!zXw (zCq mv) d)=false:=e;simpa using e,k16.trans k18⟩)
  have e:(!zXw (zCq mv) d)=true:=e
  unfold zAcn
  rw[zCf.2 ⟨d,hdm,by simpa using e⟩];rfl
 rintro _ h10 ⟨hd,k10⟩
 refine zCn (ld _ k10).2 (zCn cl (zWf (λj h'=>(x.1.conf.take j).all (λd=>!zXw (zCq mv) d)=true/\Keep No h8 h') ⟨rfl,k10⟩ (λh' hI=>hk5 _ _ _ ⟨?_,k8.trans hI.2⟩) ?_))
 ·rw[zBx]at hI
  unfold zAcn;rw[hd,hI.1];rfl
 rintro j h' hj ⟨hcall,kj⟩ k30 hk30
 obtain⟨d,hd',hdm⟩:=zR0 hj
 have wd:=wx.conf d hdm
 have dst:=zU4 (p:=λd=>!zXw (zCq mv) d) hd'
 refine zOd (λ_ g=>zXw (zCq mv) d=false/\Keep No h' g) (λk32 hk32=>?_) λ_ g hI=>zLc hj (by omega) (hk30 _ ⟨by rw[dst,hcall,hI.1];rfl,kj.trans hI.2⟩)
 refine zZ0 (hm8.c.keep kj λ_ _=>id) (zKH hd') zT5 (zEa zNT) λh35 a35 k35=>?_
 have k035:=(k08.trans kj).trans k35
 refine zCn hp.len (zWf (λn g=>((zCq mv).take n).any (zK1 d)=false/\Keep No h35 g) ⟨rfl,Keep.refl⟩ (λg hI=>hk32 _ _ (by rw[zAs (by simp)]at hI;exact⟨hI.1,k35.trans hI.2⟩)) ?_)
 rintro n g hn ⟨hno,kg⟩ k36 hk36
 obtain⟨y,hy,hym⟩:=zR0 hn
 have k0g:=k035.trans kg
 have wy:=((hpk _ k0g).m y hym).wf
 have fst:=zQN (p:=zK1 d) (zKH (f:=λz:MV=>z.1) hy)
 refine zZ0 (hpk _ k0g).h (zKH hy) zJL (zBI zMh) λh39 a39 k39=>?_
 have a39':At h39 g.size (zGU y.1 y.2.1 y.2.2.1 y.2.2.2):=a39
 have ad:=(a35.keep kg id).keep k39 id
 have kgg:=kg.trans k39
 have fit:∀ b,zK1 d y.1=b->(b=true->zAcn (zCq mv) x.1=false):=λb e hb=>by
  rw[hb]at e
  unfold zAcn
  have hm:zXw (zCq mv) d=true:=zBp.2 ⟨y.1,zAo.2 ⟨y,hym,rfl⟩,e⟩
  have hf:(x.1.conf.all λd=>!zXw (zCq mv) d)=false:=zCf.2 ⟨d,hdm,by simp[hm]⟩
  rw[hf,zBP]
 simp only[zBk,zAh,zAu,zAa]
 refine zCn (zEc a39') (zCn (ad.ld (i:=0) rfl) (zCn zDx (zTv (λe=>?_) λe=>zOU rfl (zLc hn (by omega) (hk36 _ ⟨?_,kgg⟩)))))
 ·refine zCn (zUO ad wd) (zCn (zKd a39' wy) ?_)
  refine zAM (zLB wd.want wy.ver (OO _ (k035.trans kgg))) ?_
  rintro _ h41 ⟨rfl,k41⟩
  have ef:zK1 d y.1=(zGn d.want&&zFU y.1.ver&&zPY d.want.op d.want.ver y.1.ver):=by unfold zK1;rw[e];rfl
  refine zUZ (λe2=>bad _ ((k035.trans kgg).trans k41) (fit _ (ef.trans e2) rfl)) λe2=>zLc hn (by omega) (hk36 _ ⟨?_,kgg.trans k41⟩)
  rw[fst,hno,ef,e2];rfl
 ·rw[fst,hno]
  unfold zK1
  rw[e];rfl
def isF (a:zOW)(l:List Man):Bool:=l.foldl (λb m=>if m.name=a.name then decide (a.kind=2) || (zGn a.want&&zFU m.ver&&zPY a.want.op a.want.ver m.ver) else b) false
theorem zU7 {a:zOW}{l:List Man}{m:Man}:isF a (l++[m])=if m.name=a.name then decide (a.kind=2) || (zGn a.want&&zFU m.ver&&zPY a.want.op a.want.ver m.ver) else isF a l:=by unfold isF;rw[List.foldl_append];rfl
section
variable {inst goal:List Man} {l:List Pk} {a:zOW}
theorem zU8 {b:Bool}:∀ {l:List Man},(∀ m∈l,m.name≠a.name)->l.foldl (λb m=>if m.name=a.name then decide (a.kind=2) || (zGn a.want&&zFU m.ver&&zPY a.want.op a.want.ver m.ver) else b) b=b
 | [],_=>rfl
 | x::l,h=>by
  rw[List.foldl_cons,if_neg (h x (by simp))]
  exact zU8 λm hm=>h m (by simp[hm])
theorem zAiZ (h:∀ m∈goal,m.name≠a.name):isF a goal=false:=zU8 h
theorem zAg8 {m:Man}(hn:(goal.map (·.name)).Nodup)(hm:m∈goal)(e:m.name=a.name):isF a goal=(decide (a.kind=2) || (zGn a.want&&zFU m.ver&&zPY a.want.op a.want.ver m.ver)):=by
 have:∀ {l:List Man} {b:Bool},(l.map (·.name)).Nodup->m∈l->l.foldl (λb m=>if m.name=a.name then decide (a.kind=2) || (zGn a.want&&zFU m.ver&&zPY a.want.op a.want.ver m.ver) else b) b=(decide (a.kind=2) || (zGn a.want&&zFU m.ver&&zPY a.want.op a.want.ver m.ver)):=λ{l}=>by
  induction l with
  | nil=>intro b _ h;cases h
  | cons x l ih =>
   intro b hn hm
   rw[zBa,zCu]at hn
   rw[List.foldl_cons]
   rcases zAp.1 hm with rfl|hm
   ·rw[if_pos e]
    exact zU8 λy hy e2=>hn.1 (zAo.2 ⟨y,hy,by rw[e2,e]⟩)
   ·exact ih hn.2 hm
 exact this hn hm
theorem zAea {r:List Nat}(h:zAcv inst l a (.ok r)):zZk (zEd inst l) (zOX inst a.name (zPs inst a)) r []:=by
 obtain⟨s,h⟩:=h
 exact h.sound zZk.start r rfl
theorem zAeb {ks:List Nat}{hv:List Man}{d:Dep}(h:∃ k∈ks,zK1 d (gM hv k)=true):∃ o∈(zFN hv ks).map (gM hv),zK1 d o=true:=by
 obtain⟨k,hk,hf⟩:=h
 exact⟨gM hv k,zAo.2 ⟨k,zHB.2 hk,rfl⟩,hf⟩
theorem zAec {m:Man}(h:zIM m=true){d:Dep}(hd:d∈m.conf):d.name≠m.name:=by
 unfold zIM zAgh zPC at h
 simp only[zAm,zAv]at h
 have:=h.1.2.1.1 d hd
 unfold zRY at this
 intro e
 simp[e]at this
theorem zXx (hg:zOY inst l a goal)(hr:zEE goal=true)(hcl:zM3 inst=true)(wv:∀ m∈zEd inst l,m.ver.wf):zM3 goal=true/\(∀ m∈inst,m.name=a.name\/m∈goal)/\isF a goal=decide (a.kind≠3):=by
 have hok:=zUc hr
 have hnd:=zRS hr
 have hkey:=(zAd8 hg).1
 have hgs:=zU6 hg
 obtain⟨good,hg⟩:=hg
 rcases hg with ⟨h3,hh,hne,rfl⟩|⟨hc,hp,ks,hrun,hN,rfl⟩
 ·refine⟨?_,λm hm=>?_,?_⟩
  ·have hcl:=zAv.1 hcl
   unfold zM3
   rw[zAv]
   intro m hm
   obtain⟨h1,h2⟩:=zAU.1 hm
   have h4:=hcl m h1
   unfold zAcn at h4 ⊢
   rw[zAm,zAv,zAv]at h4 ⊢
   refine⟨λd hd=>?_,λd hd=>?_⟩
   ·obtain⟨o,ho,hf⟩:=zBp.1 (h4.1 d hd)
    refine zBp.2 ⟨o,zAU.2 ⟨ho,?_⟩,hf⟩
    have hdn:d.name≠a.name:=λe=>by
     have:=zBM.1 hne m h1
     exact this (zBp.2 ⟨d,hd,by simp[e]⟩)
    rw[zIh hf]
    simp[hdn]
   ·have:=h4.2 d hd
    simp only[zBf]at this ⊢
    unfold zXw at this ⊢
    exact zBM.2 λo ho=>zBM.1 this o (zAU.1 ho).1
  ·by_cases e:m.name=a.name
   ·exact .inl e
   ·exact .inr (zAU.2 ⟨hm,by simp[e]⟩)
  ·rw[zAiZ λm hm=>by have:=(zAU.1 hm).2;simpa using this]
   simp[h3]
 ·have hP:=zAea hrun
  have sat:∀ d,(d∈zOX inst a.name (zPs inst a)\/∃ k∈ks,d∈(gM (zEd inst l) k).deps)->∃ o∈(zFN (zEd inst l) ks).map (gM (zEd inst l)),zK1 d o=true:=λd hd=>zAeb ((hP.sat d hd).resolve_right (by simp))
  refine⟨?_,λm hm=>?_,?_⟩
  ·unfold zM3
   rw[zAv]
   intro m hm
   obtain⟨k,hk,rfl⟩:=zAo.1 hm
   have hk':=zHB.1 hk
   unfold zAcn
   rw[zAm,zAv,zAv]
   refine⟨λd hd=>?_,λd hd=>?_⟩
   ·exact zBp.2 (sat d (.inr ⟨k,hk',hd⟩))
   ·simp only[zBf]
    refine zBM.2 λo ho hf=>?_
    obtain⟨j,hj,rfl⟩:=zAo.1 ho
    have hj':=zHB.1 hj
    by_cases e:k=j
    ·subst e
     exact zAec (hok _ hm) hd (zIh hf).symm
    ·have:=hP.nr k hk' j hj' e
     unfold zZj at this
     exact zBM.1 this d hd hf
  ·by_cases e:m.name=a.name
   ·exact .inl e
   right
   obtain⟨o,ho,hf⟩:=sat ⟨m.name,⟨[61],m.ver⟩⟩ (.inl (zCL _ (zAo.2 ⟨m,zAU.2 ⟨hm,by simp[e]⟩,rfl⟩)))
   have hv:m.ver=o.ver:=by
    unfold zK1 zPY at hf
    simp only[zAm,decide_true,cond_true,zBf]at hf
    have h1:=hf.2.2.1
    have h2:=hf.2.2.2
    unfold ltV at h1 h2
    rw[decide_eq_false_iff_not]at h1 h2
    have ht:=zMB.turn m.ver o.ver
    exact(zMB.zero _ _).1 (by omega)
   rw[hkey m hm o ho (zIh hf).symm hv];exact ho
  ·obtain⟨o,ho,hf⟩:=sat ⟨a.name,zPs inst a⟩ (.inl (by unfold zOX;simp))
   rw[zAg8 hnd ho (zIh hf)]
   have h3:=hc.1
   rw[decide_eq_true (p:=a.kind≠3) h3]
   by_cases h2:a.kind=2
   ·rw[decide_eq_true h2];rfl
   ·have hw:zPs inst a=a.want:=by unfold zPs;rw[if_neg h2]
    rw[hw]at hf
    unfold zK1 at hf
    simp only[zAm]at hf
    rw[hf.2.1.1,hf.2.1.2,hf.2.2];simp
end
structure zAhk (P:zAY)(H h:zAw)(vi vp:Value)(z:zRu)(l:List Pk)(kd:Int)(d s t:Value)(e:Int)(Hm hm:zAw)(q:Nat):Prop where
 k:Keep No H h
 mh:Keep No hm h
 i:zNz P h vi z.mv
 c:At h H.size (zKI vi vp z.ask)
 ch:At h q (chC kd d s t)
 m:zWq (zCq z.mv) l z.ask Hm hm kd d s t e
 lok:∀ y∈l,zXn y=true
 lz:∀ y∈l,∃ x∈z.pv,zLy x=y
 ll:l.length<=12
theorem zAhk.keep {P:zAY}{H h h':zAw}{vi vp:Value}{z:zRu}{l:List Pk}{kd:Int}{d s t:Value}{e:Int}{Hm hm:zAw}{q:Nat}(m:zAhk P H h vi vp z l kd d s t e Hm hm q)(k:Keep No h h'):zAhk P H h' vi vp z l kd d s t e Hm hm q :=
 ⟨m.k.trans k,m.mh.trans k,m.i.keep k λ_ _=>id,m.c.keep k id,m.ch.keep k id,m.m,m.lok,m.lz,m.ll⟩
theorem zAi0 {P:zAY}{H h14:zAw}{vi vp:Value}{z:zRu}{BAD:zAw->Prop}{REST:Value->zAn}(hz:zZD P H vi vp z)(hP:∀ b,P b->b<H.size)(hT:zZT H)(hS:zTl H)(hNG:NG<=H.size)(a14:At h14 H.size (zKI vi vp z.ask))(k14:Keep No H h14)(sz:zYN z)
  (hrest:∀ h q l kd d s t e Hm hm,zAhk P H h vi vp z l kd d s t e Hm hm q->REST (Ptr q 0) (.int .i64 e) h) :
  Mpu (fld 1 (Ptr H.size 0)) λt59'=>Mpu (ld1 h14 t59') λt59=>zA3 prg zFV [t59] h14 λt60 h16=>Mpu (zE3 0 t60) λt61=>Mpu (zE3 1 t60) λt62=>Mpu (zAB .ptr .eql t61 (.pointer none)) λt64 =>
  Mcd t64 (BAD h16) (Mpu (fld 0 (Ptr H.size 0)) λt66=>Mpu (ld1 h16 t66) λt67=>Mpu (fld 2 (Ptr H.size 0)) λt69=>Mpu (ldN 8 h16 t69) λt70=>zA3 prg zJR [t67,t61,t70] h16 λt71 h17=>Mpu (zE3 0 t71) λt72=>Mpu (zE3 1 t71) λt73 =>
  zDy h17 zB6 (zBF prg zB6) λt5 h18=>Mwr (stN 4 h18 t5 t72) λh19=>REST t5 t73 h19):=by
 have ha:=hz.a
 have TT:∀ h',Keep No H h'->zZT h'/\zTl h':=λh' k=>⟨hT.keep k λ_ h=>h.elim,hS.keep k λ_ h=>h.elim⟩
 have hpi:∀ h,Keep No H h->zNz P h vi z.mv:=λh k=>(hz.i.to sz.i).keep k λ_ _=>id
 have hPh:∀ h,Keep No H h->∀ b,P b->b<h.size:=λh k b hb=>zAW (hP b hb) k.1
 have il:=sz.il
 have pl:=sz.pl
 simp only[zBk,zAh,zAa]
 refine zCn (zAkU a14) ?_
 refine zAM (zAd6 (hz.p.keep k14 λ_ _=>id) sz.p (hPh _ k14) (by omega) (TT _ k14).1 (TT _ k14).2 (by have:=k14.1;omega)) ?_
 rintro _ h16 ⟨⟨R',F,p,w,out,rfl,hu,ho⟩,k16⟩
 have k016:=k14.trans k16
 have a16:=a14.keep k16 id
 have pn:zAB .ptr .eql (Ptr p 0) (.pointer none)=some (.bool false):=rfl
 refine zCn rfl (zCn rfl (zCn pn (zOU rfl ?_)))
 refine zCn (zAjk a16) (zCn (zAiT a16 ha) ?_)
 have hll:(zRw (z.pv.map zLy)).length<=12:=by have:=zYM (l:=z.pv.map zLy);rw[zAf]at this;omega
 refine zAM (zAfc (hpi _ k016) hu.q (hPh _ k016) ha (by omega) (TT _ k016).1.ops (by have:=k016.1;omega)) ?_
 rintro u h17 ⟨hm,k17⟩
 obtain⟨kd,d,s,t,e,rfl,⟨o1,o2,o3⟩,hc⟩:=zAiV hm
 have k017:=k016.trans k17
 refine zCn rfl (zCn rfl ?_)
 refine zAiD (z:=chC 0 zCp zCp zCp) (c:=chC kd d s t) zSh rfl rfl (zP4 o1 o2 o3) λh19 a19 k19=>?_
 refine hrest h19 h17.size _ kd d s t e h16 h17 ⟨k017.trans k19,k19,hpi _ (k017.trans k19),(a16.keep k17 id).keep k19 id,a19,hc,zAd5,λy hy=>?_,hll⟩
 rw[<- hu.e]at hy
 obtain⟨x,hx,e⟩:=zAo.1 hy
 exact⟨x,ho x hx,e⟩
structure zAed (P:zAY)(h:zAw)(inst:List MV)(l:List Pk)(G:List Man)(d s t:Value)(dr:List MV)(ad:List PW)(af:List MV):Prop where
 A:zNz (λb=>b<h.size) h t af
 D:zNz (λb=>b<h.size) h d dr
 S:SlE 9 (λb=>b<h.size) h s (ad.map pvC)
 Sm:∀ x∈ad,PkV (λb=>b<h.size) h x
 al:af.length<=40
 dl:dr.length<=8
 sl:ad.length<=40
 hdr:zCq dr=(zCq inst).filter λm=>!zHU G m
 had:ad.map zLy=(G.filter λm=>!zHU (zCq inst) m).map (zMG l)
 haf:zCq af=G
theorem zAed.keep {P:zAY}{h h':zAw}{inst:List MV}{l:List Pk}{G:List Man}{d s t:Value}{dr:List MV}{ad:List PW}{af:List MV}(p:zAed P h inst l G d s t dr ad af)(k:Keep No h h'):zAed P h' inst l G d s t dr ad af:=by
 have g:=k.1
 exact⟨⟨(p.A.h.keep k λ_ _=>id).mono λb hb=>by omega,λx hx=>((p.A.m x hx).keep k λ_ _=>id).mono λb hb=>by omega,p.A.sm⟩,⟨(p.D.h.keep k λ_ _=>id).mono λb hb=>by omega,λx hx=>((p.D.m x hx).keep k λ_ _=>id).mono λb hb=>by omega,p.D.sm⟩,(p.S.keep k λ_ _=>id).mono λb hb=>by omega,λx hx=>((p.Sm x hx).keep k λ_ _=>id).mono λb hb=>by omega,p.al,p.dl,p.sl,p.hdr,p.had,p.haf⟩
theorem zYO {P:zAY}{h:zAw}{vi:Value}{z:zRu}{l:List Pk}(hi:zNz P h vi z.mv)(sz:zYN z)(hP0:∀ x∈z.pv,x.1.1.wf)(lz:∀ y∈l,∃ x∈z.pv,zLy x=y):∀ m∈zEd (zCq z.mv) l,m.wf/\m.deps.length<=1000/\m.conf.length<=1000:=λm hm=>by
 unfold zEd at hm
 rcases zAr.1 hm with hm|hm
 ·obtain⟨x,hx,rfl⟩:=zAo.1 hm
  exact⟨(hi.m x hx).wf,hi.sm x hx⟩
 ·obtain⟨y,hy,rfl⟩:=zAo.1 (zAU.1 hm).1
  obtain⟨x,hx,rfl⟩:=lz y hy
  have:=sz.p x.1 (zAo.2 ⟨x,hx,rfl⟩)
  unfold zRQ at this
  exact⟨hP0 x hx,by show x.1.1.deps.length<=1000;omega,by show x.1.1.conf.length<=1000;omega⟩
theorem zAco {inst:List Man}{l:List Pk}:(zEd inst l).length<=inst.length+l.length:=by
 unfold zEd
 have:=zBs (zXp inst) (l.map (·.1))
 rw[zAf]at this
 rw[zAy];omega
theorem zAee {inst:List Man}{l:List Pk}{a:zOW}{G:List Man}(hG:zOY inst l a G):G.length<=inst.length+l.length:=by
 obtain⟨_,h⟩:=hG
 rcases h with ⟨_,_,_,rfl⟩|⟨_,_,ks,_,hN,rfl⟩
 ·have:=zBs (λm:Man=>!decide (m.name=a.name)) inst
  omega
 ·rw[zAf]
  have h1:=hN.sorted.len
  have h2:=zAco (inst:=inst) (l:=l)
  omega
theorem zAhk.parts {P:zAY}{H h:zAw}{vi vp:Value}{z:zRu}{l:List Pk}{kd:Int}{d s t:Value}{Hm hm:zAw}{q:Nat}{e:Int}(m:zAhk P H h vi vp z l kd d s t e Hm hm q)(he:e=0)(sz:zYN z)(hw:∀ x∈z.pv,x.1.1.wf) :
  kd=z.ask.kind/\∃ G dr ad af,zOY (zCq z.mv) l z.ask G/\zEE G=true/\zAed P h z.mv l G d s t dr ad af:=by
 obtain⟨k,mk,hi,_,_,mm,lok,lz,ll⟩:=m
 rcases mm with ⟨_,_,_,_,h5,_⟩|⟨h1,h2,G,n0,zz,col,dr,ad,af,hG,hr,hzz,hci,hdr,had,haf⟩
 ·exact absurd he h5
 refine⟨h1,G,dr,ad,af,hG,hr,?_⟩
 have g:=mk.1
 have ts:=zYO hi sz hw lz
 have hGl:=zAee hG
 have il:=sz.il
 rw[zAf]at hGl
 have hgs:=zU6 hG
 refine⟨⟨(hci.bt.sl.keep mk λ_ _=>id).mono λb hb=>by have:=hb.2.2;omega,λx hx=>((hci.mt x hx).keep mk λ_ _=>id).mono λb hb=>by have:=hb.2.2;omega,λx hx=>?_⟩,⟨(hci.bd.sl.keep mk λ_ _=>id).mono λb hb=>by have:=hb.2.2;omega,λx hx=>((hci.md x hx).keep mk λ_ _=>id).mono λb hb=>by have:=hb.2.2;omega,λx hx=>?_⟩,(hci.bs.sl.keep mk λ_ _=>id).mono λb hb=>by have:=hb.2.2;omega,λx hx=>((hci.ms x hx).keep mk λ_ _=>id).mono λb hb=>by have:=hb.2.2;omega,?_,?_,?_,hdr,had,haf⟩
 ·have:x.1∈G:=by rw[<- haf];exact zAo.2 ⟨x,hx,rfl⟩
  exact(ts _ (hgs _ this)).2
 ·have:x.1∈zCq dr:=zAo.2 ⟨x,hx,rfl⟩
  rw[hdr]at this
  exact(ts _ (zRv (zAU.1 this).1)).2
 ·have:=congrArg List.length haf;rw[zAf]at this;omega
 ·have:=congrArg List.length hdr
  have h2:=zBs (λm=>!zHU G m) (zCq z.mv)
  rw[zAf]at this h2
  omega
 ·have:=congrArg List.length had
  have h2:=zBs (λm=>!zHU (zCq z.mv) m) G
  rw[zAf,zAf]at this
  omega
set_option maxHeartbeats 4000000 in
theorem zXy {P:zAY}{H:zAw}{vi vp:Value}{z:zRu}(hz:zZD P H vi vp z)(hP:∀ b,P b->b<H.size)(hl:z.pv.length<=1048576)(hT:zZT H)(hS:zTl H)(hNG:NG<=H.size) :
  zAA prg zHX [.agg (zKI vi vp z.ask).toArray] H λu H'=>u = .bool true/\Keep No H H':=by
 apply zJr
 unfold zHC
 refine zAg4 hz hl hT hS (λh' k=>⟨rfl,k⟩) λh14 a14 k14 sz=>?_
 have ha:=hz.a
 have TT:∀ h',Keep No H h'->zZT h'/\zTl h':=λh' k=>⟨hT.keep k λ_ h=>h.elim,hS.keep k λ_ h=>h.elim⟩
 have aw:∀ h,Keep No H h->zA3 prg zDe [] h λt h'=>t = .bool true/\Keep No H h':=λh k=>by
  refine zAM (zWl (TT _ k).1 (TT _ k).2) ?_
  rintro _ h' ⟨rfl,k'⟩
  exact⟨rfl,k.trans k'⟩
 have il:=sz.il
 refine zAi0 hz hP hT hS hNG a14 k14 sz λh19 q l kd d s t e Hm hm M=>?_
 simp only[zBk,zAh,zAa]
 refine zCn zAkV (zP7 (λ_=>zM2 rfl (aw _ M.k)) λe0=>?_)
 have e0:e=0:=by have e0:(!decide (e=0))=false:=e0;simpa using e0
 refine zCn (zAjk M.c) ?_
 refine zAM (zUd M.i (by omega) (TT _ M.k).1.ops) ?_
 rintro _ h22 ⟨rfl,k22⟩
 have M:=M.keep k22
 refine zCn rfl (zUZ (λ_=>aw _ M.k) λhcl=>?_)
 have hcl:zM3 (zCq z.mv)=true:=by have hcl:(!zM3 (zCq z.mv))=false:=hcl;simpa using hcl
 have hwz:∀ x∈z.pv,x.1.1.wf:=λx hx=>(hz.p.m x hx).m.wf
 obtain⟨rfl,G,dr,ad,af,hG,hr,pt⟩:=M.parts e0 sz hwz
 obtain⟨p1,p2,p3⟩:=zXx hG hr hcl λm hm=>(zYO M.i sz hwz M.lz m hm).1.ver
 have al:=pt.al
 refine zNd (λt7 _ h=>t7 = .bool (isF z.ask G)/\Keep No h22 h) (λk24 hk24=>?_) ?_
 ·refine zCn (M.ch.ld (i:=3) rfl) (zCn pt.A.len (zXm (λi t7 h=>t7 = .bool (isF z.ask (G.take i))/\Keep No h22 h) ⟨rfl,Keep.refl⟩ (λt7 h hI=>hk24 _ _ _ (by
   have:af.length=G.length:=by rw[<- pt.haf,zAf]
   rw[this,zBx]at hI;exact hI)) ?_))
  rintro i _ h hi ⟨rfl,kh⟩ k26 hk26
  obtain⟨x,hx,hxm⟩:=zR0 hi
  have ptk:=pt.keep kh
  have Mk:=M.keep kh
  have wx:=(ptk.A.m x hxm).wf
  have hgx:G[i]? = some x.1:=by rw[<- pt.haf];exact zKH hx
  have htk:G.take (i+1)=G.take i++[x.1]:=by rw[zAJ,hgx];rfl
  refine zOd (λt7 h'=>t7 = .bool (isF z.ask (G.take (i+1)))/\Keep No h22 h') (λk28 hk28=>?_) λt7 h' hI=>zLc hi (by omega) (hk26 _ _ hI)
  refine zZ0 ptk.A.h (zKH hx) zJL (zBI zMh) λh31 a31 k31=>?_
  have a31':At h31 h.size (zGU x.1 x.2.1 x.2.2.1 x.2.2.2):=a31
  have Mk:=Mk.keep k31
  have k2231:=kh.trans k31
  simp only[zBk,zAh,zAu,zAa]
  refine zCn (zEc a31') (zCn (zXu Mk.c) (zCn zDx (zUZ (λq1=>?_) λq1=>hk28 _ _ ⟨?_,k2231⟩)))
  ·have q1:=of_decide_eq_true q1
   refine zCn (zAcj Mk.c) (zCn eqI (zP7 (λq2=>hk28 _ _ ⟨?_,k2231⟩) λq2=>?_))
   ·rw[htk,zU7,if_pos q1,q2];rfl
   ·refine zCn (zAg2 Mk.c ha) (zCn (zKd a31' wx) ?_)
    refine zAM (zLB ha.want wx.ver (TT _ Mk.k).1.ops) ?_
    rintro _ h33 ⟨rfl,k33⟩
    exact hk28 _ _ ⟨by rw[htk,zU7,if_pos q1,q2];rfl,k2231.trans k33⟩
  ·have q1:=of_decide_eq_false q1
   rw[htk,zU7,if_neg q1]
 rintro _ _ h25 ⟨rfl,k25⟩
 have M:=M.keep k25
 have pt:=pt.keep k25
 rw[p3]
 refine zOd (λ_ h=>Keep No h25 h) (λk35 hk35=>?_) ?_
 ·refine zCn (zAjk M.c) (zCn M.i.len (zWf (λ_ h=>Keep No h25 h) Keep.refl (λh hI=>hk35 _ _ hI) ?_))
  rintro i h hi kh k37 hk37
  obtain⟨x,hx,hxm⟩:=zR0 hi
  have ptk:=pt.keep kh
  have Mk:=M.keep kh
  have wx:=(Mk.i.m x hxm).wf
  have hsx:=Mk.i.sm x hxm
  refine zNd (λ_ _ h'=>Keep No h25 h') (λk39 hk39=>?_) λ_ _ h' hI=>zLc hi (by omega) (hk37 _ hI)
  refine zZ0 Mk.i.h (zKH hx) zJL (zBI zMh) λh42 a42 k42=>?_
  have a42':At h42 h.size (zGU x.1 x.2.1 x.2.2.1 x.2.2.2):=a42
  have Mk:=Mk.keep k42
  have ptk:=ptk.keep k42
  have k2542:=kh.trans k42
  simp only[zBk,zAh,zAu,zAa]
  refine zCn (zEc a42') (zCn (zXu Mk.c) (zCn zDx ?_))
  refine zNd (λt12 _ h'=>t12 = .bool (decide (x.1.name=z.ask.name) || zHU G x.1)/\Keep No h42 h') (λk43 hk43=>?_) ?_
  ·refine zCn (Mk.ch.ld (i:=3) rfl) (zCn ptk.A.len (zXm (λj t12 h'=>t12 = .bool (decide (x.1.name=z.ask.name) || zHU (G.take j) x.1)/\Keep No h42 h') ⟨by unfold zHU;simp,Keep.refl⟩ (λt12 h' hI=>hk43 _ _ _ (by
    have:af.length=G.length:=by rw[<- pt.haf,zAf]
    rw[this,zBx]at hI;exact hI)) ?_))
   rintro j _ h' hj ⟨rfl,kj⟩ k45 hk45
   obtain⟨y,hy,hym⟩:=zR0 hj
   have ptj:=ptk.keep kj
   have Mj:=Mk.keep kj
   have wy:=(ptj.A.m y hym).wf
   have hgy:G[j]? = some y.1:=by rw[<- pt.haf];exact zKH hy
   have jst:zHU (G.take (j+1)) x.1=(zHU (G.take j) x.1 || zRr y.1 x.1):=zQN (p:=λo=>zRr o x.1) hgy
   refine zZ0 ptj.A.h (zKH hy) zJL (zBI zMh) λh48 a48 k48=>?_
   have kjj:=kj.trans k48
   have ptj:=ptj.keep k48
   have Mj:=Mj.keep k48
   refine zP7 (λq=>zLc hj (by omega) (hk45 _ _ ⟨?_,kjj⟩)) λq=>?_
   ·rw[jst,<- Bool.or_assoc,q];rfl
   ·refine zCn (a48.ldN (zBI wy)) (zCn ((a42.keep kjj id).ldN (zBI wx)) ?_)
    have hfy:=(zNy (zUc hr y.1 (by rw[<- pt.haf];exact zAo.2 ⟨y,hym,rfl⟩))).1
    have hfx:=sz.i x hxm
    unfold zRQ at hfx
    refine zAM (zRs (ptj.A.m y hym) (Mj.i.m x hxm) (by have:=(ptj.A.sm y hym).1;omega) (by have:=(ptj.A.sm y hym).2;omega) (by omega)) ?_
    rintro _ h50 ⟨rfl,k50⟩
    refine zLc hj (by omega) (hk45 _ _ ⟨?_,kjj.trans k50⟩)
    rw[jst,<- Bool.or_assoc,q];rfl
  rintro _ _ h44 ⟨rfl,k44⟩
  have hst:(decide (x.1.name=z.ask.name) || zHU G x.1)=true:=by
   rcases p2 x.1 (zAo.2 ⟨x,hxm,rfl⟩) with h|h
   ·rw[decide_eq_true h];rfl
   ·rw[zAcg.2 h,Bool.or_true]
  rw[hst]
  exact zCn rfl (zOU rfl (hk39 _ _ _ (k2542.trans k44)))
 rintro _ h36 k36
 have M:=M.keep k36
 have pt:=pt.keep k36
 refine zCn (M.ch.ld (i:=3) rfl) ?_
 refine zAM (zUd pt.A (by omega) (TT _ M.k).1.ops) ?_
 rintro _ h52 ⟨rfl,k52⟩
 have M:=M.keep k52
 rw[pt.haf,p1]
 refine zTv (λ_=>?_) nofun
 refine zCn (zAcj M.c) (zCn zAkV ?_)
 have eb:zAB .bool .eql (.bool (decide (z.ask.kind≠3))) (.bool (!decide (z.ask.kind=3)))=some (.bool true):=by
  by_cases h:z.ask.kind=3
  ·simp[h];rfl
  ·simp[h];rfl
 exact zCn eb (zTv (λ_=>aw _ M.k) nofun)
end Go.Proofs.YticdfkoncnnmmaaGreatDoor
