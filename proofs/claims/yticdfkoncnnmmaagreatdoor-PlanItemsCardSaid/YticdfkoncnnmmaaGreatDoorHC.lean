import Derived.Test.YticdfkoncnnmmaaGreatDoorHB
import Derived.Test.YticdfkoncnnmmaaGreatDoorG0
import Derived.Test.YticdfkoncnnmmaaGreatDoorH5
set_option linter.unusedSimpArgs false
set_option linter.unusedVariables false
set_option maxRecDepth 100000
namespace Go.Proofs.YticdfkoncnnmmaaGreatDoor
open Go.X Go.X.Diff Go.MapKept
structure zRp where
 kind:Int
 name:List UInt8
 want:zPS
 bound:Int
structure zRp.wf (a:zRp):Prop where
 name:a.name.length<=9223372036854775807
 want:a.want.wf
def zS7 (a:zRp):List Value:=[.int .i64 a.kind,str a.name]++zDl a.want++[.int .i64 a.bound]
theorem zWL {a:zRp}(h:a.wf):(zS7 a).length=8:=by simp[zS7,zEs h.want]
section
variable {h:zAd} {q:Nat} {a:zRp}
theorem zLZ (p:At h q (zS7 a)):ld1 h (Ptr q 0)=some (.int .i64 a.kind):=p.ld rfl
theorem zQh (p:At h q (zS7 a)):ld1 h (Ptr q 1)=some (str a.name):=p.ld rfl
theorem zWM (p:At h q (zS7 a))(w:a.wf):Go.X.ldN 5 h (Ptr q 2)=some (Value.agg (zDl a.want).toArray):=by
 obtain⟨T,p⟩:=p
 exact ldN_mid (A:=[.int .i64 a.kind,str a.name]) (B:=zDl a.want) (C:=[.int .i64 a.bound]) p rfl (zEs w.want).symm
theorem zRg (p:At h q (zS7 a))(w:a.wf):ld1 h (Ptr q 7)=some (.int .i64 a.bound):=p.ld (by
 have:=zEs w.want
 unfold zS7
 rw[List.getElem?_append_right (by simp[this]),List.length_append,this];rfl)
end
def zRh (a:zRp):Bool:=if a.kind=1 then zFJ a.want else decide (a.want=zSR)
def zPD (a:zRp):Bool:=decide (a.kind>=1) && decide (a.kind<=3) && zG2 a.name && zRh a && decide (a.bound>=0) && decide (a.bound<=65536)
theorem leI {x y:Int}:zAh .no .leq (.int .i64 x) (.int .i64 y)=some (.bool (decide (x<=y))):=by rw[zAi];rfl
set_option maxHeartbeats 1000000 in
theorem zXC {H:zAd}{a:zRp}(w:a.wf)(hO:zNR H):zAg prg zIX [.agg (zS7 a).toArray] H fun u H'=>u = .bool (zPD a)/\Keep (fun _=>False) H H':=by
 apply zLN
 unfold zLm
 simp only[zAN,zAs,zAx,Nat.zero_add,Nat.add_zero,zAa,zAiz]
 generalize hH1:H.push (.cells (zS7 a).toArray zGS (0,0))=H1
 have k1:Keep (fun _=>False) H H1:=by rw[<- hH1];exact Keep.push
 have a1:At H1 H.size (zS7 a):=by rw[<- hH1];exact At.push
 rw[zWM a1 w,zAa,zAfH w.want zQa,zAa]
 refine zL2 (fun u h=>u = .bool (zRh a)/\Keep (fun _=>False) H1 h) (fun k2 hk2=>?_) ?_
 ·rw[zLZ a1,zAa,eqI,zAa,zAc]
  unfold zRh at hk2
  by_cases e:a.kind=1
  ·rw[if_pos e]at hk2
   rw[if_pos (by simpa using e),zAa]
   refine zAk (zKc w.want (hO.keep k1 fun _ h=>h.elim)) ?_
   rintro _ h ⟨rfl,k⟩
   exact hk2 _ _ ⟨rfl,k⟩
  ·rw[if_neg e]at hk2
   rw[if_neg (by simpa using e)]
   exact hk2 _ _ ⟨rfl,Keep.refl⟩
 rintro _ h3 ⟨rfl,k3⟩
 have a3:=a1.keep k3 id
 have k03:=k1.trans k3
 unfold zPD
 rw[zLZ a3,zAa,geI,zAa]
 cases q1:decide (a.kind>=1)
 ·simp only[zAF,zAl,zAo,Bool.false_eq_true,if_false,zAe,zAa,Bool.false_and]
  exact⟨by trivial,k03⟩
 refine zBM rfl ?_
 rw[zAa,leI,zAa]
 show Mpu (zAC (.bool true) (.bool (decide (a.kind<=3))) (.bool false)) _
 rw[zAe,if_pos rfl,zAa]
 cases q2:decide (a.kind<=3)
 ·simp only[zAF,zAl,zAo,Bool.false_eq_true,if_false,zAe,zAa,Bool.false_and,Bool.and_false]
  exact⟨by trivial,k03⟩
 refine zBM rfl ?_
 rw[zQh a3,zAa]
 refine zAk (zV4 w.name) ?_
 rintro _ h8 ⟨rfl,k8⟩
 have a8:=a3.keep k8 id
 have k08:=k03.trans k8
 rw[zAe,if_pos rfl,zAa]
 cases q3:zG2 a.name
 ·simp only[zAF,zAl,zAo,Bool.false_eq_true,if_false,zAe,zAa,Bool.false_and,Bool.and_false]
  exact⟨by trivial,k08⟩
 refine zBM rfl ?_
 show Mpu (zAC (.bool true) (.bool (zRh a)) (.bool false)) _
 rw[zAe,if_pos rfl,zAa]
 cases q4:zRh a
 ·simp only[zAF,zAl,zAo,Bool.false_eq_true,if_false,zAe,zAa,Bool.false_and,Bool.and_false]
  exact⟨by trivial,k08⟩
 refine zBM rfl ?_
 rw[zRg a8 w,zAa,geI,zAa]
 show Mpu (zAC (.bool true) (.bool (decide (a.bound>=0))) (.bool false)) _
 rw[zAe,if_pos rfl,zAa]
 cases q5:decide (a.bound>=0)
 ·simp only[zAF,zAl,zAo,Bool.false_eq_true,if_false,zAe,zAa,Bool.false_and,Bool.and_false]
  exact⟨by trivial,k08⟩
 refine zBM rfl ?_
 rw[zRg a8 w,zAa,leI,zAa]
 show Mpu (zAC (.bool true) (.bool (decide (a.bound<=65536))) (.bool false)) _
 rw[zAe,if_pos rfl,zAa]
 exact⟨by simp,k08⟩
theorem zZ7 {P:Nat->Prop}{H:zAd}{mv:List MV}{wants:List Dep}{vh vw:Value}{b:Int}(hp:Prb P H mv wants vh vw)(hok:zGw (zA7 mv) wants b=false)(hl:mv.length<=256)(hwl:wants.length<=64)(hO:zNR H) :
  zAg prg zJt [.agg (zK7 vh vw b).toArray] H fun u H'=>u = .tuple #[.slice none 0 0,.int .i64 0,.int .i64 10]/\Keep (fun _=>False) H H':=by
 apply zJl
 unfold zKW
 simp only[zAN,zAs]
 have k1:Keep (fun _=>False) H (H.push (.cells (zK7 vh vw b).toArray zAL (0,0))):=Keep.push
 have a1:At (H.push (.cells (zK7 vh vw b).toArray zAL (0,0))) H.size (zK7 vh vw b):=At.push
 rw[a1.ldN (n:=3) rfl,zAa]
 refine zAk (zZj (hp.keep k1 fun _ _=>id) hl hwl (hO.keep k1 fun _ h=>h.elim)) ?_
 rintro _ h2 ⟨rfl,k2⟩
 rw[hok,if_neg (by decide),neI,zAa,zAc,if_pos (by decide)]
 exact⟨rfl,k1.trans k2⟩
def ChR (hv:List Man)(wants:List Dep)(b:Int)(PP:Nat->Prop)(H H':zAd)(u:Value):Prop :=
 (zGw hv wants b=false/\u = .tuple #[.slice none 0 0,.int .i64 10]) \/
 (zGw hv wants b=true/\∃ (r:Res) (s:Nat),Run hv b.toNat (.sol [] wants) 0 r s/\match r with
  | .ok l=>zHK hv l/\∃ t goal Fg,u = .tuple #[t,.int .i64 0]/\zA7 goal=(zEO hv l).map (gM hv)/\BufE 8 Fg H' t (goal.map mvC)/\(∀ b,Fg b->H.size<=b/\b<H'.size)/\(∀ x ∈ goal,zJJ (fun b=>PP b/\¬ Fg b) H' x.1 x.2.1 x.2.2.1 x.2.2.2)/\∀ x ∈ goal,x.1.deps.length<=1000/\x.1.conf.length<=1000
  | .fail=>u = .tuple #[.slice none 0 0,.int .i64 40]
  | .over=>u = .tuple #[.slice none 0 0,.int .i64 42])
theorem zAcY {v:Value}{b:Int}(hv:v.oneCell'=true):zA4 prg zAL [(0,v),(2,.int .i64 b)]=some (.agg (zK7 v zAY b).toArray):=by
 have k:zJT prg zAL=some ([(0,1),(1,1),(2,1)],(zK7 zAY zAY 0).toArray):=by kernel_rfl
 have hc:v.cells=#[v]:=by
  cases v <;> first | rfl | (simp[Value.oneCell']at hv)
 rw[zGf k,zGU (off:=0) (n:=1) rfl (by rw[hc];rfl) (by simp[zK7]),zGU (off:=2) (n:=1) rfl rfl (by rw[hc];simp[zK7,spl]),zQC,hc]
 rfl
theorem zAgm:zAB prg zAL=some (zK7 zAY zAY 0).toArray:=by kernel_rfl
theorem zZ8 {n:Nat}{F:Nat->Prop}{T:TypeId}{h:zAd}{x:List Value}(hx:x.length=n)(h1:∀ c ∈ x,c.oneCell'=true)(hF:F h.size):BufE n F (h.push (.cells x.toArray T (0,0))) (.slice (some ⟨h.size,0,none⟩) 1 1) [x] :=
 ⟨fun y hy=>by rw[List.mem_singleton.1 hy];exact hx,fun y hy=>by rw[List.mem_singleton.1 hy];exact h1,.inr ⟨h.size,0,1,x.toArray,T,(0,0),rfl,hF,Nat.le_refl _,zAR,by simp[hx],fun _ _=>zI3,by
  have:x.take n=x:=List.take_of_length_le (by omega)
  simpa [hx] using this⟩⟩
def zPX (inst:List Man)(nm:List UInt8)(w:zPS):List Dep:=⟨nm,w⟩ :: zJg inst nm
set_option maxHeartbeats 4000000 in
theorem zAbV {P R:Nat->Prop}{p:Nat}{l:List Pk}{H:zAd}{v:Value}{mv:List MV}{a:zRp}{w:zPS}(hp:zNs P H v mv)(q:zNH R p l H)(hP:∀ b,P b->b<H.size)(ha:a.wf)(hw:w.wf)(hl:mv.length+l.length<=40)(hO:zNR H) :
  zAg prg zLF [v,Ptr p 0,.agg (zS7 a).toArray,.agg (zDl w).toArray] H fun u H'=>ChR (zFl (zA7 mv) l) (zPX (zA7 mv) a.name w) a.bound (fun b=>P b\/R b\/(H.size<=b/\b<H'.size)) H H' u/\Keep (fun _=>False) H H':=by
 apply zNB
 unfold zNN
 simp only[zAN,zAs,zAx,Nat.zero_add,Nat.add_zero,zAa,zAgm]
 generalize hH1:H.push (.cells (zS7 a).toArray zGS (0,0))=H1
 have k1:Keep (fun _=>False) H H1:=by rw[<- hH1];exact Keep.push
 have a1:At H1 H.size (zS7 a):=by rw[<- hH1];exact At.push
 have s1:H1.size=H.size+1:=by rw[<- hH1];simp
 generalize hH2:H1.push (.cells (zDl w).toArray zAJ (0,0))=H2
 have k2:Keep (fun _=>False) H1 H2:=by rw[<- hH2];exact Keep.push
 have a2:At H2 H1.size (zDl w):=by rw[<- hH2];exact At.push
 have s2:H2.size=H1.size+1:=by rw[<- hH2];simp
 have k02:=k1.trans k2
 have a12:=a1.keep k2 id
 have hR:∀ b,R b->b<H.size:=by obtain⟨_,_,_,_,_,_,_,_,_,_,_,h⟩:=q;exact h
 have dB:∀ h,Keep (fun _=>False) H2 h->ld1 h (Ptr H.size 7)=some (.int .i64 a.bound):=fun h k=>zRg (a12.keep k id) ha
 have dN:∀ h,Keep (fun _=>False) H2 h->ld1 h (Ptr H.size 1)=some (str a.name):=fun h k=>zQh (a12.keep k id)
 have dW:∀ h,Keep (fun _=>False) H2 h->ldN 5 h (Ptr H1.size 0)=some (.agg (zDl w).toArray):=fun h k=>(a2.keep k id).ldN (zEs hw)
 let inst:=zA7 mv
 have hil:inst.length=mv.length:=by simp[inst]
 have hthere:(zFl inst l).length<=40:=by
  unfold zFl
  have h1:=List.length_filter_le (zXB inst) (l.map (·.1))
  rw[List.length_map]at h1
  rw[List.length_append];omega
 have hoth:(zJg inst a.name).length<=40:=by
  unfold zJg
  have h1:=List.length_filter_le (fun m:Man=>!decide (m.name=a.name)) inst
  rw[List.length_map];omega
 let PQ:Nat->zAd->Nat->Prop:=fun z h b=>(P b\/R b\/H2.size<=b)/\b<h.size/\b≠z
 let I1:Value->zAd->Prop:=fun x h=>∃ z vh mv',x=Ptr z 0/\At h z (zK7 vh zAY a.bound)/\zA7 mv'=zFl inst l/\zNs (PQ z h) h vh mv'/\H2.size<=z/\Keep (fun _=>False) H2 h
 have mre:∀ {Q Q':Nat->Prop} {h:zAd} {u:Value} {ml:List MV},zNs Q h u ml->(∀ b,Q b->Q' b)->zNs Q' h u ml:=fun m k=>⟨m.h.mono k,fun x hx=>(m.m x hx).mono k,m.sm⟩
 refine zL2 I1 (fun k3 hk3=>?_) ?_
 ·rw[dB _ Keep.refl,zAa]
  refine⟨?_,?_⟩
  ·refine zAk (zZ4 (hp.keep k02 fun _ _=>id) (q.keep k02 fun _ _=>id) (by omega) (by omega)) ?_
   rintro t19 h4 ⟨⟨mv',he,hm⟩,k4⟩
   have g4:=k4.1
   have o19:t19.oneCell'=true:=hm.h.oneC
   rw[dB _ k4,zAw,zAr,zAcY o19,zAa]
   generalize hH5:h4.push (.cells (zK7 zAY zAY 0).toArray zAL (0,0))=h5
   have k5:Keep (fun _=>False) h4 h5:=by rw[<- hH5];exact Keep.push
   have a5:At h5 h4.size (zK7 zAY zAY 0):=by rw[<- hH5];exact At.push
   have s5:h5.size=h4.size+1:=by rw[<- hH5];simp
   obtain⟨h6,st6,a6,k6⟩:=a5.st (n:=3) (ds:=zK7 t19 zAY a.bound) rfl rfl (fun c hc=>by
    simp only[zK7,List.mem_cons,List.not_mem_nil,or_false]at hc
    rcases hc with rfl | rfl | rfl
    ·exact o19
    ·rfl
    ·rfl)
   have g6:=k6.1
   rw[dB _ (k4.trans k5),zAw,zAr,st6,zAm]
   refine hk3 _ _ ⟨h4.size,t19,mv',rfl,a6,he,mre ((hm.keep k5 fun _ _=>id).keep k6 fun b hb e=>?_) fun b hb=>?_,g4,(k4.trans k5).fresh k6 fun b hb=>by omega⟩
   ·subst e
    rcases hb with h | h | h
    ·have:=hP _ h;omega
    ·have:=hR _ h;omega
    ·omega
   ·rcases hb with h | h | h
    ·have:=hP _ h;exact⟨.inl h,by omega,by omega⟩
    ·have:=hR _ h;exact⟨.inr (.inl h),by omega,by omega⟩
    ·exact⟨.inr (.inr h.1),by omega,by omega⟩
  ·generalize hH7:H2.push (.cells (zK7 zAY zAY 0).toArray zAL (0,0))=h7
   have k7:Keep (fun _=>False) H2 h7:=by rw[<- hH7];exact Keep.push
   have a7:At h7 H2.size (zK7 zAY zAY 0):=by rw[<- hH7];exact At.push
   have s7:h7.size=H2.size+1:=by rw[<- hH7];simp
   rw[dB _ k7,zAw,zAr]
   refine zAk (zZ4 (hp.keep (k02.trans k7) fun _ _=>id) (q.keep (k02.trans k7) fun _ _=>id) (by omega) (by omega)) ?_
   rintro t19 h8 ⟨⟨mv',he,hm⟩,k8⟩
   have g8:=k8.1
   have o19:t19.oneCell'=true:=hm.h.oneC
   rw[dB _ (k7.trans k8),zAw,zAr,zAcY o19,zAa]
   obtain⟨h9,st9,a9,k9⟩:=(a7.keep k8 id).st (n:=3) (ds:=zK7 t19 zAY a.bound) rfl rfl (fun c hc=>by
    simp only[zK7,List.mem_cons,List.not_mem_nil,or_false]at hc
    rcases hc with rfl | rfl | rfl
    ·exact o19
    ·rfl
    ·rfl)
   have g9:=k9.1
   rw[st9,zAm]
   refine hk3 _ _ ⟨H2.size,t19,mv',rfl,a9,he,mre (hm.keep k9 fun b hb e=>?_) fun b hb=>?_,Nat.le_refl _,(k7.trans k8).fresh k9 fun b hb=>by omega⟩
   ·subst e
    rcases hb with h | h | h
    ·have:=hP _ h;omega
    ·have:=hR _ h;omega
    ·omega
   ·rcases hb with h | h | h
    ·have:=hP _ h;exact⟨.inl h,by omega,by omega⟩
    ·have:=hR _ h;exact⟨.inr (.inl h),by omega,by omega⟩
    ·exact⟨.inr (.inr (by omega)),by omega,by omega⟩
 rintro _ h10 ⟨z,vh,mv',rfl,a10,he,hm10,hz,k10⟩
 have g10:=k10.1
 have hd:(⟨a.name,w⟩:Dep).wf:=⟨hw,ha.name⟩
 have lz:=a10.lt
 let wants:=zPX inst a.name w
 let I2:zAd->Prop:=fun h=>∃ vw,At h z (zK7 vh vw a.bound)/\SlE 6 (fun b=>h10.size<=b/\b<h.size) h vw (wants.map zDa)/\Keep (· = z) h10 h
 have hpk:∀ h,Keep (fun _=>False) H2 h->zNs P h v mv:=fun h k=>hp.keep (k02.trans k) fun _ _=>id
 have fin:∀ (t27 t31:Value) (h13:zAd),BufE 6 (fun b=>h10.size<=b) h13 t27 [zDa ⟨a.name,w⟩]->SlE 6 (fun b=>h10.size<=b) h13 t31 ((zJg inst a.name).map zDa)->Keep (fun _=>False) h10 h13->(∀ h,I2 h->∀ k:zAd->Prop,(∀ h,I2 h->k h)->k h) ->
   ∀ k11:zAd->Prop,(∀ h,I2 h->k11 h)->zIV zAj 6 72 h13 t27 t31 fun t32 h14=>Mwr (st1 h14 (Ptr z 1) t32) fun h15=>k11 h15:=fun t27 t31 h13 b27 b31 k13 _ k11 hk11=>by
  have g13:=k13.1
  refine b27.app b31 (by omega) (by rw[List.length_singleton,List.length_map];omega) (by show h10.size<=h13.size;omega) fun t32 h14 b14 k14=>?_
  obtain⟨h15,st15,a15,k15⟩:=((a10.keep k13 id).keep k14 fun hb=>by omega).st1 (i:=1) (v:=t32) (by simp[zK7]) b14.sl.oneC
  rw[st15,zAm]
  have g15:=k15.1
  refine hk11 _ ⟨t32,a15,((BufE.re b14 (G:=fun b=>h10.size<=b/\b<h14.size) fun b h1 h2=>⟨h2,h1⟩).sl.keep k15 fun b hb e=>by omega).mono fun b hb=>by omega,?_⟩
  exact(((k13.mono fun _ _ h=>h.elim).fresh' k14 fun b hb => .inr hb).trans k15)
 refine zAeX I2 (fun k11 hk11=>?_) ?_
 ·rw[dN _ k10,zAa,dW _ k10,zAa]
  show Mpu (zA4 prg zAj [(0,str (⟨a.name,w⟩:Dep).name),(1,.agg (zDl (⟨a.name,w⟩:Dep).want).toArray)]) _
  rw[zZ6 hd,zAa,zAa]
  simp only[zAx,Nat.zero_add,zAa]
  refine⟨?_,?_⟩
  ·rw[zQg hd,zAV]
   have kp:Keep (fun _=>False) h10 (h10.push (.cells (zDa ⟨a.name,w⟩).toArray zAj (0,0))):=Keep.push
   have hb:=zZ8 (T:=zAj) (h:=h10) (n:=6) (F:=fun b=>h10.size<=b) (zB7 hd) zID (Nat.le_refl _)
   generalize h10.push (.cells (zDa ⟨a.name,w⟩).toArray zAj (0,0))=h12 at *
   rw[dN _ (k10.trans kp),zAw,zAr]
   refine zAk (zWK (hpk _ (k10.trans kp)) (by omega)) ?_
   rintro t31 h13 ⟨b31,k13⟩
   have gp:=kp.1
   rw[dW _ ((k10.trans kp).trans k13),dN _ ((k10.trans kp).trans k13),zAw,zAw,zAr]
   exact fin _ _ _ (hb.keep k13 fun _ _=>id) (b31.sl.mono fun b hb=>by show h10.size<=b;omega) (kp.trans k13) (fun h hI k hk=>hk h hI) k11 hk11
  ·refine zAk (zWK (hpk _ k10) (by omega)) ?_
   rintro t31 h16 ⟨b31,k16⟩
   rw[dW _ (k10.trans k16),dN _ (k10.trans k16),zAw,zAw,zAr,zQg hd,zAV]
   have g16:=k16.1
   have kp:Keep (fun _=>False) h16 (h16.push (.cells (zDa ⟨a.name,w⟩).toArray zAj (0,0))):=Keep.push
   have hb:=zZ8 (T:=zAj) (h:=h16) (n:=6) (F:=fun b=>h10.size<=b) (zB7 hd) zID (show h10.size<=h16.size by omega)
   generalize hv27:Value.slice (some ⟨h16.size,0,none⟩) 1 1=t27 at *
   generalize h16.push (.cells (zDa ⟨a.name,w⟩).toArray zAj (0,0))=h17 at *
   rw[dN _ ((k10.trans k16).trans kp),zAw,zAr]
   exact fin _ _ _ hb ((b31.sl.keep kp fun _ _=>id).mono fun b hb=>by show h10.size<=b;omega) (k16.trans kp) (fun h hI k hk=>hk h hI) k11 hk11
 rintro h20 ⟨vw,a20,w20,k20⟩
 have g20:=k20.1
 rw[a20.ldN (n:=3) rfl,zAa]
 have k220:Keep (fun _=>False) H2 h20:=k10.fresh k20 fun b hb=>by omega
 have k020:=k02.trans k220
 let PS:Nat->Prop:=fun b=>(P b\/R b\/H2.size<=b)/\b<h20.size
 have hm20:zNs (PQ z h10) h20 vh mv':=hm10.keep k20 fun b hb=>hb.2.2
 have hml:mv'.length<=40:=by
  have:(zA7 mv').length=mv'.length:=by simp
  rw[<- this,he];exact hthere
 have hwf:∀ d ∈ wants,d.wf:=fun d hd'=>by
  rcases List.mem_cons.1 hd' with rfl | hd'
  ·exact hd
  ·obtain⟨m,hm,rfl⟩:=List.mem_map.1 hd'
   obtain⟨hm,_⟩:=List.mem_filter.1 hm
   obtain⟨x,hx,rfl⟩:=List.mem_map.1 hm
   have wx:=(hp.m x hx).wf
   exact⟨⟨wx.ver,by simp⟩,wx.name⟩
 have prb:Prb PS h20 mv' wants vh vw:=⟨hm20.h.mono fun b hb=>⟨hb.1,by have:=hb.2.1;omega⟩,fun x hx=>(hm20.m x hx).mono fun b hb=>⟨hb.1,by have:=hb.2.1;omega⟩,w20.mono fun b hb=>⟨.inr (.inr (by omega)),hb.2⟩,hwf,hm20.sm⟩
 have hwl:wants.length<=64:=by show(zJg inst a.name).length+1<=64;omega
 have hO20:zNR h20:=hO.keep k020 fun _ h=>h.elim
 have x0:∀ a b c:Value,zDy 0 (.tuple #[a,b,c])=some a:=fun _ _ _=>rfl
 have x1:∀ a b c:Value,zDy 1 (.tuple #[a,b,c])=some b:=fun _ _ _=>rfl
 have x2:∀ a b c:Value,zDy 2 (.tuple #[a,b,c])=some c:=fun _ _ _=>rfl
 have hhe:zA7 mv'=zFl (zA7 mv) l:=he
 cases hok:zGw (zA7 mv') wants a.bound
 ·refine zAk (zZ7 prb hok (by omega) hwl hO20) ?_
  rintro _ h21 ⟨rfl,k21⟩
  rw[x0,zAa,x1,zAa,x2,zAa,neI,zAa,zAc,if_pos (by decide)]
  exact⟨.inl ⟨by rw[<- hhe];exact hok,rfl⟩,k020.trans k21⟩
 refine zAk (zAet prb (fun b hb=>hb.2) hok hml hwl hO20) ?_
 rintro u h21 ⟨⟨r,s,hrun,hu⟩,k21⟩
 have k021:=k020.trans k21
 have g21:=k21.1
 have g020:=k020.1
 rw[hhe]at hrun hok hu
 cases r with
 | fail =>
  obtain rfl:=hu
  rw[x0,zAa,x1,zAa,x2,zAa,neI,zAa,zAc,if_pos (by decide)]
  exact⟨.inr ⟨hok,.fail,s,hrun,rfl⟩,k021⟩
 | over =>
  obtain rfl:=hu
  rw[x0,zAa,x1,zAa,x2,zAa,neI,zAa,zAc,if_pos (by decide)]
  exact⟨.inr ⟨hok,.over,s,hrun,rfl⟩,k021⟩
 | ok ks =>
  obtain⟨hns,t37,rfl,b37⟩:=hu
  rw[x0,zAa,x1,zAa,x2,zAa,neI,zAa,zAc,if_neg (by decide)]
  have hm21:zNs (PQ z h10) h21 vh mv':=hm20.keep k21 fun _ _=>id
  have a21:=a20.keep k21 id
  let sl:=zEO (zFl (zA7 mv) l) ks
  have hsn:zHK (zFl (zA7 mv) l) sl:=hns.sorted
  have hthl:(zFl (zA7 mv) l).length=mv'.length:=by rw[<- hhe];simp
  have hsl:sl.length<=40:=by have:=hsn.len;omega
  have hlen:=b37.sl.len
  rw[zKI,zNT]at hlen
  let I:Nat->Value->zAd->Prop:=fun i t h=>∃ goal,zA7 goal=(sl.take i).map (gM (zFl (zA7 mv) l))/\BufE 8 (fun b=>h21.size<=b/\b<h.size) h t (goal.map mvC)/\(∀ x ∈ goal,x ∈ mv')/\Keep (fun _=>False) h21 h
  refine zLf (fun t _ h=>I sl.length t h) (fun k22 hk22=>?_) ?_
  rotate_left
  ·rintro t _ h ⟨goal,hg,hb,hmm,kh⟩
   rw[List.take_of_length_le (Nat.le_refl _)]at hg
   have gh:=kh.1
   refine⟨.inr ⟨hok,.ok ks,s,hrun,hns,t,goal,fun b=>h21.size<=b/\b<h.size,rfl,hg,hb,fun b hb=>by omega,fun x hx=>?_,fun x hx=>hm21.sm x (hmm x hx)⟩,k021.trans kh⟩
   exact((hm21.m x (hmm x hx)).keep kh fun _ _=>id).mono fun b hb=>by
    have h3:=hb.2.1
    refine⟨?_,fun hh=>by omega⟩
    rcases hb.1 with h | h | h
    ·exact .inl h
    ·exact .inr (.inl h)
    ·exact .inr (.inr ⟨by omega,by omega⟩)
  rw[hlen,zAa]
  refine zTf (fun t y h=>∃ i:Nat,i<=sl.length/\y = .int .i64 (i:Nat)/\I i t h) (fun _ y _=>match y with | .int _ t=>sl.length - t.toNat | _=>0) ⟨0,Nat.zero_le _,rfl,[],rfl,BufE.nil,fun x hx=>(by cases hx),Keep.refl⟩ ?_
  rintro t14 _ h25 ⟨i,hi,rfl,goal,hg,hb,hmm,kh⟩ k24 hk24
  have gh:=kh.1
  rw[zMs,zAa,zAc]
  by_cases hlt:i<sl.length
  rotate_left
  ·rw[if_neg (by simpa using hlt)]
   obtain rfl:i=sl.length:=by omega
   exact hk22 _ _ _ ⟨goal,hg,hb,hmm,kh⟩
  rw[if_pos (by simpa using hlt)]
  have hgl:sl[i]? = some sl[i]:=List.getElem?_eq_getElem hlt
  have hkl:=hsn.1 _ (List.getElem_mem hlt)
  generalize sl[i]=k at *
  obtain⟨b1,o1,hix1,hpt1,_⟩:=(b37.sl.keep kh fun _ _=>id).at (i:=i) (x:=[.int .i64 ((k:Nat):Int)]) (zOW (zAfZ hgl))
  rw[hix1 .i64,zAa,hpt1.cell0 rfl,zAa,zAx,zAa,Nat.zero_add,(a21.keep kh id).ld (i:=0) rfl,zAa]
  have hgk:mv'[k]? = some (mv'[k]'(by omega)):=List.getElem?_eq_getElem (by omega)
  have hkm:=List.getElem_mem (show k<mv'.length by omega)
  generalize mv'[k]'(by omega)=x at *
  have hgm:gM (zFl (zA7 mv) l) k=x.1:=by rw[<- hhe];exact zZd hgk
  obtain⟨hmx,b2,o2,hix2,hpt2,_⟩:=(hm21.keep kh fun _ _=>id).at hgk
  have wx:=hmx.wf
  rw[hix2 .i64,zAa,zKf hpt2 wx,zAa,zRf (zAH wx),zAV]
  have hr:=zK5 (T:=zAb) (h:=h25) (n:=8) (zAH wx:(mvC x).length=8) (zF7 hmx)
  have kp:Keep (fun _=>False) h25 (h25.push (.cells (mvC x).toArray zAb (0,0))):=Keep.push
  have gp:=kp.1
  have hgoal:goal.length=i:=by
   have:=congrArg List.length hg
   rw[List.length_map,List.length_map,List.length_take]at this;omega
  refine((hb.keep kp fun _ _=>id).mono (G:=fun b=>h21.size<=b) fun b hb=>hb.1).app hr (by omega) (by rw[List.length_map,List.length_singleton];omega) (by show h21.size<=_;omega) fun t h27 b27 k27=>?_
  rw[zAG (by omega),zAa]
  refine hk24 _ _ _ ⟨i+1,by omega,rfl,goal++[x],?_,?_,fun y hy=>?_,?_⟩ (by show sl.length - (i+1)<sl.length - i;omega)
  ·rw[List.take_add_one,hgl,List.map_append,<- hg]
   simp[zA7,hgm]
  ·rw[show(goal++[x]).map mvC=goal.map mvC++[mvC x] by simp]
   exact BufE.re b27 fun b h1 h2=>⟨h2,h1⟩
  ·rcases List.mem_append.1 hy with hy | hy
   ·exact hmm y hy
   ·rw[List.mem_singleton.1 hy];exact hkm
  ·exact(kh.trans kp).fresh k27 fun b hb=>hb
end Go.Proofs.YticdfkoncnnmmaaGreatDoor
