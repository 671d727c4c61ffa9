import Derived.Test.YticdfkoncnnmmaaGreatDoorHF
import Derived.Test.YticdfkoncnnmmaaGreatDoorG1
import Derived.Test.YticdfkoncnnmmaaGreatDoorHB
import Derived.Test.YticdfkoncnnmmaaGreatDoorHE
import Derived.Test.YticdfkoncnnmmaaGreatDoorG6
import Derived.Test.YticdfkoncnnmmaaGreatDoorGO
import Derived.Test.YticdfkoncnnmmaaGreatDoorGU
import Derived.Test.YticdfkoncnnmmaaGreatDoorH0
set_option linter.unusedSimpArgs false
set_option linter.unusedVariables false
set_option maxRecDepth 100000
namespace Go.Proofs.YticdfkoncnnmmaaGreatDoor
open Go.X Go.X.Diff
structure zTe (P:zAY)(H:zAw)(x:PW):Prop where
 m:zL6 P H x.1.1 x.1.2.1 x.1.2.2.1 x.1.2.2.2
 f:BSS P P H x.2.1 x.2.2
theorem zTe.keep {P S:zAY}{H H':zAw}{x:PW}(h:zTe P H x)(k:Keep S H H')(hs:∀ b,P b->¬ S b):zTe P H' x:=⟨h.m.keep k hs,h.f.keep k hs hs⟩
structure zTf (P:zAY)(H:zAw)(v:Value)(pv:List PW):Prop where
 h:SlE 9 P H v (pv.map pvC)
 m:∀ x∈pv,zTe P H x
 hl:pv.length<=9223372036854775807
theorem zTf.keep {P S:zAY}{H H':zAw}{v:Value}{pv:List PW}(h:zTf P H v pv)(k:Keep S H H')(hs:∀ b,P b->¬ S b):zTf P H' v pv:=⟨h.h.keep k hs,λx hx=>(h.m x hx).keep k hs,h.hl⟩
theorem zTf.len {P:zAY}{H:zAw}{v:Value}{pv:List PW}(h:zTf P H v pv):zDA v=some (.int .i64 (pv.length:Nat)):=by have:=h.h.len;rwa [zAf]at this
structure zRu where
 mv:List MV
 pv:List PW
 ask:zOW
def zKI (vi vp:Value)(a:zOW):List Value:=vi::vp::zQX a
structure zZD (P:zAY)(H:zAw)(vi vp:Value)(z:zRu):Prop where
 i:zTd P H vi z.mv
 p:zTf P H vp z.pv
 a:z.ask.wf
end Go.Proofs.YticdfkoncnnmmaaGreatDoor
namespace Go.Proofs.YticdfkoncnnmmaaGreatDoor.Came
open Go.X
theorem zYK {α:Type}{enc:α->List Value}{Q:α->Prop}:∀ {q:List (List Value)},(∀ x∈q,∃ a,Q a/\x=enc a)->∃ l:List α,q=l.map enc/\∀ a∈l,Q a
 | [],_=>⟨[],rfl,λy h=>by cases h⟩
 | x::q,h=>by
  obtain⟨ys,hy,hw⟩:=zYK (q:=q) λx hx=>h x (by simp[hx])
  obtain⟨a,ya,rfl⟩:=h x (by simp)
  refine⟨a::ys,by rw[hy];rfl,λz hz=>?_⟩
  rcases zAp.1 hz with rfl|hz
  ·exact ya
  ·exact hw z hz
theorem zAiO:prg.underlying zDt=some (.slice zAg):=by kernel_rfl
theorem zAff:prg.underlying zGD=some (.slice zA4):=by kernel_rfl
theorem zAce {α:Type}{enc:α->List Value}{Q:World->α->Prop}{n:Nat}{TS T:TypeId}(hn:0<n)(hu:prg.underlying TS=some (.slice T))(hc:prg.cellsOf T=n)(hone:∀ w a,Q w a->∀ c∈enc a,c.oneCell'=true)(hof:∀ (w:World) (d:Nat) (cs:List Value),Shp prg w d T cs->∃ a,Q w a/\cs=enc a)
  {w:World} {d:Nat} {v:Value} (h:Shp prg w d TS [v]):∃ xs:List α,xs.length<=9223372036854775807/\SlE n (· < w.heap.size) w.heap v (xs.map enc)/\∀ x∈xs,Q w x:=by
 cases d with
 | zero=>exact h.elim
 | succ d =>
  simp only[Shp,hu]at h
  rcases h with h|⟨a,len,cap,hv,hle,hcap,hel⟩
  ·obtain rfl:v = .slice none 0 0:=by simpa using h
   exact⟨[],by simp,SlE.nil,λx h=>by cases h⟩
  ·obtain rfl:v = .slice (some a) len cap:=by simpa using hv
   rw[hc]at hel
   obtain⟨q,hq,hs,hqi⟩:=zKo (n:=n) (q:=λcs=>∃ a,Q w a/\cs=enc a) hn hle (λcs ⟨x,hx,e⟩ c hc=>by subst e;exact hone w x hx c hc) λi hi=>by
    obtain⟨cs',h1,h2⟩:=hel i hi
    exact⟨cs',h1,hof _ _ _ h2⟩
   obtain⟨xs,rfl,hw⟩:=zYK hqi
   have hm:maxLen=9223372036854775807:=rfl
   rw[zAf]at hq
   exact⟨xs,by omega,hs,hw⟩
theorem zAiP {w:World}{d:Nat}{v:Value}(h:Shp prg w d zDt [v]):∃ mv:List MV,mv.length<=9223372036854775807/\zTd (· < w.heap.size) w.heap v mv:=by
 obtain⟨xs,h1,h2,h3⟩:=zAce (enc:=mvC) (Q:=λw x=>zL6 (· < w.heap.size) w.heap x.1 x.2.1 x.2.2.1 x.2.2.2) (n:=8) (by omega) zAiO zAbd (λw a ha=>ha.one) (λw d cs hs=>by
  obtain⟨m,vd,vc,vf,hm,e⟩:=zAeP hs
  exact⟨(m,vd,vc,vf),hm,e⟩) h
 exact⟨xs,h1,h2,h3,h1⟩
theorem zAkh:zZU zA4 [(0,zAg),(8,zLJ)]=true:=by kernel_rfl
theorem zAfg:prg.cellsOf zA4=9:=by kernel_rfl
theorem zAgY:prg.cellsOf zLJ=1:=by kernel_rfl
theorem zAiQ {w:World}{d:Nat}{cs:List Value}(h:Shp prg w d zA4 cs):∃ x:PW,zTe (· < w.heap.size) w.heap x/\cs=pvC x:=by
 obtain⟨d',hl,hfl⟩:=zMC zAkh h
 rw[zAfg]at hl
 have h0:=hfl 0 0 zAg rfl
 have h1:=hfl 1 8 zLJ rfl
 rw[zAbd]at h0;rw[zAgY]at h1
 obtain⟨m,vd,vc,vf,hm,e0⟩:=zAeP h0
 have e1:(cs.drop 8).take 1=[cs[8]'(by omega)]:=by
  rw[zBL (by omega)];rfl
 rw[e1]at h1
 obtain⟨xs,hxl,hx⟩:=zAif h1
 refine⟨((m,vd,vc,vf),_,xs),⟨hm,hx⟩,?_⟩
 have e2:cs=(cs.drop 0).take 8++(cs.drop 8).take 1:=by
  rw[zCb,zAs (l:=cs.drop 8) (by simp;omega),zBn]
 rw[e0,e1]at e2
 exact e2
theorem zAiR {w:World}{d:Nat}{v:Value}(h:Shp prg w d zGD [v]):∃ pv:List PW,pv.length<=9223372036854775807/\zTf (· < w.heap.size) w.heap v pv:=by
 obtain⟨xs,h1,h2,h3⟩:=zAce (enc:=pvC) (Q:=λw x=>zTe (· < w.heap.size) w.heap x) (n:=9) (by omega) zAff zAfg (λw a ha c hc=>by
  rcases zAr.1 hc with hc|hc
  ·exact zGV (x:=a.1) ha.m c hc
  ·rw[zAI.1 hc];exact ha.f.sl.oneC) (λw d cs hs=>zAiQ hs) h
 exact⟨xs,h1,h2,h3,h1⟩
end Go.Proofs.YticdfkoncnnmmaaGreatDoor.Came
namespace Go.Proofs.YticdfkoncnnmmaaGreatDoor
open Go.X Go.X.Diff Go.MapKept
theorem zUb {l:List Man}{ps:List (List UInt8)}{of:zRP}(h:zVa ps of l=0):(l.map (·.name)).Nodup/\∀ m∈l,m.name∉ps:=zAkc h
def upB (hv:List Man)(i:Nat):Bool:=decide (i=0) || decide (zMA (gM hv (i-1)).name (gM hv i).name<0)
def zAcf (hv:List Man):Bool:=(List.range hv.length).all (upB hv)
theorem zQR {hv:List Man}{i:Nat}(h:i<hv.length):gM hv i=hv[i]:=by
 unfold gM;rw[List.getD_eq_getElem?_getD,zAj h];rfl
theorem zAki {hv:List Man}{i:Nat}(h:i<hv.length):gM hv i∈hv:=by rw[zQR h];exact zAE h
theorem zYL {hv:List Man}(h:(hv.map (·.name)).Nodup){i j:Nat}(hi:i<hv.length)(hj:j<hv.length)(e:(gM hv i).name=(gM hv j).name):i=j:=by
 have hp:=zBC.1 (zBw.1 h)
 rw[zQR hi,zQR hj]at e
 rcases Nat.lt_trichotomy i j with c|c|c
 ·exact absurd e (hp i j hi hj c)
 ·exact c
 ·exact absurd e.symm (hp j i hj hi c)
theorem zWn {hv:List Man}:zEE hv=(decide (zVa [] [] hv=0)&&zAcf hv):=by
 unfold zEE
 by_cases h0:zVa [] [] hv=0
 ·have hn:=(zUb h0).1
  rw[decide_eq_true h0,zA9,zA9]
  unfold zAgL zAcf
  rw[zA1,zAv,zAv]
  refine forall_congr' λi=>forall_congr' λhi=>?_
  have hi':=zBS.1 hi
  unfold zRq upB
  by_cases e:i=0
  ·simp[e]
  ·have ht:=zFG.turn (gM hv (i-1)).name (gM hv i).name
   have hne:zMA (gM hv (i-1)).name (gM hv i).name≠0:=λhz=>by
    have:=zYL hn (by omega) hi' ((zFG.zero _ _).1 hz)
    omega
   simp only[decide_eq_false e,zCC,zBf,decide_eq_false_iff_not,decide_eq_true_eq]
   omega
 ·rw[decide_eq_false h0];rfl
theorem zRS {hv:List Man}(h:zEE hv=true):(hv.map (·.name)).Nodup:=by
 rw[zWn,zAm]at h
 exact(zUb (of_decide_eq_true h.1)).1
theorem zZE {hv:List Man}(h:zEE hv=true){x y:Man}(hx:x∈hv)(hy:y∈hv)(e:x.name=y.name):x=y:=by
 obtain⟨i,hi,rfl⟩:=zBA hx
 obtain⟨j,hj,rfl⟩:=zBA hy
 have:=zYL (zRS h) hi hj (by rw[zQR hi,zQR hj];exact e)
 subst this;rfl
theorem zUc {hv:List Man}(h:zEE hv=true):∀ m∈hv,zIM m=true:=by
 rw[zWn,zAm]at h
 exact zXr (of_decide_eq_true h.1)
theorem zAcg {hv:List Man}{m:Man}:zHU hv m=true↔m∈hv:=by
 unfold zHU
 rw[zBp]
 constructor
 ·rintro⟨o,ho,e⟩;rw[zWe]at e;exact e ▸ ho
 ·exact λh=>⟨m,h,zWe.2 rfl⟩
def zAch (hv:List Man):Prop:=∀ x∈hv,∀ y∈hv,x.name=y.name->x.ver=y.ver->x=y
theorem zAci {hv:List Man}(h:(List.range hv.length).all (zN9 hv)=true):zAch hv:=λx hx y hy e1 e2=>by
 obtain⟨i,hi,rfl⟩:=zBA hx
 obtain⟨j,hj,rfl⟩:=zBA hy
 have:=zAbB h hi hj (by rw[zQR hi,zQR hj];exact e1) (by rw[zQR hi,zQR hj];exact e2)
 subst this;rfl
theorem zZF {inst:List Man}{l:List Pk}(hT:zAch (zEd inst l)){m:Man}(hm:m∈zEd inst l)(hn:m∉inst):zMG l m∈l/\(zMG l m).1=m:=by
 unfold zEd at hm
 rcases zAr.1 hm with h|h
 ·exact absurd h hn
 obtain⟨h1,h2⟩:=zAU.1 h
 obtain⟨x,hx,rfl⟩:=zAo.1 h1
 unfold zMG
 cases hf:l.find? (zJM x.1.name x.1.ver) with
 | none =>
  have:=zCV.1 hf x hx
  unfold zJM at this
  simp at this
 | some y =>
  have hy:=List.mem_of_find?_eq_some hf
  have hs:=List.find?_some hf
  unfold zJM at hs
  simp only[zAm,decide_eq_true_eq]at hs
  refine⟨hy,?_⟩
  show y.1=x.1
  refine hT y.1 (zAr.2 (.inr (zAU.2 ⟨zAo.2 ⟨y,hy,rfl⟩,?_⟩))) x.1 hm hs.1 hs.2
  unfold zXp at h2 ⊢
  rw[hs.1,hs.2];exact h2
theorem zRv {inst:List Man}{l:List Pk}{m:Man}(h:m∈inst):m∈zEd inst l:=zAr.2 (.inl h)
theorem zAfh:zBF prg zA4=some (pvC zPW).toArray:=zZy
theorem zTe.one {P:zAY}{H:zAw}{x:PW}(h:zTe P H x):∀ c∈pvC x,c.oneCell'=true:=λc hc=>by
 rcases zAr.1 hc with hc|hc
 ·exact zGV (x:=x.1) h.m c hc
 ·rw[zAI.1 hc];exact h.f.sl.oneC
theorem zAgZ {h:zAw}{q:Nat}{x:PW}(a:At h q (pvC x))(w:x.1.1.wf):ldN 8 h (Ptr q 0)=some (.agg (mvC x.1).toArray):=zAe9 a.pt w
abbrev zRT (pv:List PW):List MV:=pv.map (·.1)
theorem zU3 {P:zAY}{H:zAw}{v:Value}{pv:List PW}(hp:zTf P H v pv)(hl:pv.length<=1048576) :
  zAA prg zEu [v] H λu H'=>BufE 8 (λb=>H.size<=b/\b<H'.size) H' u ((zRT pv).map mvC)/\Keep No H H':=by
 apply zJs
 unfold zHD
 refine zYB hp.len (λi w h=>BufE 8 (λb=>H.size<=b) h w ((zRT (pv.take i)).map mvC)/\Keep No H h) (λw h=>BufE 8 (λb=>H.size<=b) h w ((zRT pv).map mvC)/\Keep No H h) ⟨BufE.nil,Keep.refl⟩ (λw h hI=>by rwa [zBx]at hI) ?_ λw _ h hE=>⟨BufE.re hE.1 λb hb hF=>⟨hF,hb⟩,hE.2⟩
 rintro i w h hlt ⟨hb,kh⟩ k1 k3 _ hk3
 obtain⟨x,hx,hm⟩:=zR0 hlt
 have hpx:=hp.keep kh λ_ _=>id
 have wx:=(hp.m x hm).m.wf
 have g0:=kh.1
 refine zZ0 hpx.h (zKH hx) zAfh (zDN zQP) λh6 a6 k6=>?_
 have g6:=k6.1
 rw[zBk,zAa,zAu]
 refine zCn (zAgZ a6 wx) ?_
 refine zAiB (hb.keep k6 λ_ _=>id) (zRt (zBI wx)) (zBI wx) (zGV (x:=x.1) (hp.m x hm).m) (by omega) (by simp;omega) (by omega) λu h8 bu k8=>?_
 refine zLc hlt (by omega) (hk3 _ _ ⟨?_,(kh.trans k6).fresh k8 λb hb=>hb⟩)
 rw[zAJ,hx]
 simpa [zRT] using bu
theorem zTf.mans {P:zAY}{H H':zAw}{v u:Value}{pv:List PW}(hp:zTf P H v pv)(k:Keep No H H')(b:BufE 8 (λb=>H.size<=b/\b<H'.size) H' u ((zRT pv).map mvC)):zTd (λb=>P b\/(H.size<=b/\b<H'.size)) H' u (zRT pv) :=
 ⟨b.sl.mono λ_ => .inr,λx hx=>by
  obtain⟨y,hy,rfl⟩:=zAo.1 hx
  exact((hp.m y hy).m.keep k λ_ _=>id).mono λ_ => .inl,by rw[zAf];exact hp.hl⟩
def zRw (l:List Pk):List Pk:=l.foldl zRZ []
theorem zPe {l:List Pk}{x:Pk}:zRw (l++[x])=zRZ (zRw l) x:=by unfold zRw;rw[List.foldl_append];rfl
theorem zWo {l:List Pk}{x:Pk}:(zZz l x=0/\zRZ l x=l++[x])\/zRZ l x=l:=by
 unfold zZz zRZ
 cases hk:zXn x
 ·right;rfl
 ·cases hf:l.find? (zJM x.1.name x.1.ver) with
  | some y=>right;rfl
  | none =>
   by_cases h:l.length=256
   ·right;simp[h]
   ·left;simp[h]
theorem zAg0 {l:List Pk}{x:Pk}:(zRZ l x).length<=l.length+1:=by
 rcases zWo (l:=l) (x:=x) with ⟨_,h⟩|h<;>rw[h]<;>simp
theorem zAg1 {l:List Pk}{x:Pk}(h:∀ y∈l,zXn y=true):∀ y∈zRZ l x,zXn y=true:=by
 unfold zRZ
 cases hk:zXn x
 ·exact h
 ·cases hf:l.find? (zJM x.1.name x.1.ver) with
  | some y=>exact h
  | none =>
   simp only[zAc,if_false]
   split
   ·exact h
   ·intro y hy
    rcases zAr.1 hy with hy|hy
    ·exact h y hy
    ·rw[zAI.1 hy];exact hk
theorem zAd5 {l:List Pk}:∀ y∈zRw l,zXn y=true:=by
 have:∀ (l m:List Pk),(∀ y∈m,zXn y=true)->∀ y∈l.foldl zRZ m,zXn y=true:=λl=>by
  induction l with
  | nil=>exact λm h=>h
  | cons x l ih=>exact λm h=>ih _ (zAg1 h)
 exact this l [] λy h=>by cases h
theorem zYM {l:List Pk}:(zRw l).length<=l.length:=by
 have:∀ (l m:List Pk),(l.foldl zRZ m).length<=m.length+l.length:=λl=>by
  induction l with
  | nil=>exact λm=>by simp
  | cons x l ih =>
   intro m
   have h1:=ih (zRZ m x)
   have h2:=zAg0 (l:=m) (x:=x)
   rw[zAZ]
   show(l.foldl zRZ (zRZ m x)).length<=_
   omega
 simpa [zRw] using this l []
structure zZG (P:zAY)(n0:Nat)(l:List Pk)(h:zAw)(R F:zAY)(p:Nat)(w:Value)(out:List PW):Prop where
 q:zOV R p l h
 b:BufE 9 F h w (out.map pvC)
 e:out.map zLy=l
 rb:∀ b,R b->n0<=b
 fb:∀ b,F b->n0<=b/\b<h.size/\¬ R b
theorem zZG.keep {P:zAY}{n0:Nat}{l:List Pk}{h h':zAw}{R F:zAY}{p:Nat}{w:Value}{out:List PW}(u:zZG P n0 l h R F p w out)(k:Keep No h h'):zZG P n0 l h' R F p w out :=
 ⟨u.q.keep k λ_ _=>id,u.b.keep k λ_ _=>id,u.e,u.rb,λb hb=>⟨(u.fb b hb).1,zAW (u.fb b hb).2.1 k.1,(u.fb b hb).2.2⟩⟩
theorem zAiS {n m:Nat}:zAB .no .gtr (.int .i64 (n:Nat)) (.int .i64 (m:Nat))=some (.bool (decide (n > m))):=zZW
theorem zAd6 {P:zAY}{H:zAw}{v:Value}{pv:List PW}(hp:zTf P H v pv)(hs:zRR (zRT pv))(hP:∀ b,P b->b<H.size)(hl:pv.length<=100)(hT:zZT H)(hS:zTl H)(hNG:NG<=H.size) :
  zAA prg zFV [v] H λu H'=>(∃ R F p w out,u = .tuple #[Ptr p 0,w]/\zZG P H.size (zRw (pv.map zLy)) H' R F p w out/\∀ x∈out,x∈pv)/\Keep No H H':=by
 apply zLU
 unfold zKw
 refine zAM zWg ?_
 rintro _ h1 ⟨rfl,q1,k1⟩
 have g1:=k1.1
 have pn:zAB .ptr .eql (Ptr H.size 0) (.pointer none)=some (.bool false):=rfl
 refine zCn pn (zOU rfl ?_)
 let I:List PW->zAn:=λl w h=>(∃ R F out,zZG P H.size (zRw (l.map zLy)) h R F H.size w out/\∀ x∈out,x∈pv)/\Keep No H h
 refine zYB hp.len (λi w h=>I (pv.take i) w h) (λw h=>I pv w h) ⟨⟨(· = H.size),No,[],⟨q1,BufE.nil,rfl,λb hb=>by omega,λb hb=>hb.elim⟩,λx h=>by cases h⟩,k1⟩ (λw h hI=>by rwa [zBx]at hI) ?_ ?_
 rotate_left
 ·rintro w _ h ⟨⟨R,F,out,hu,ho⟩,k⟩
  exact⟨⟨R,F,H.size,w,out,rfl,hu,ho⟩,k⟩
 rintro i w h hlt ⟨⟨R,F,out,hu,ho⟩,kh⟩ k2 k4 _ hk4
 obtain⟨x,hx,hm⟩:=zR0 hlt
 have hpx:=hp.keep kh λ_ _=>id
 have hrx:=hp.m x hm
 have wx:=hrx.m.wf
 have g0:=kh.1
 have hsx:=hs x.1 (zAo.2 ⟨x,hm,rfl⟩)
 have htk:(pv.take (i+1)).map zLy=(pv.take i).map zLy++[zLy x]:=by rw[zAJ,hx];simp
 have hpl:(zRw ((pv.take i).map zLy)).length<=100:=by
  have:=zYM (l:=(pv.take i).map zLy)
  rw[zAf,zBe]at this;omega
 refine zNd (λw' _ h'=>I (pv.take (i+1)) w' h') (λk6 hk6=>?_) λw' _ h' hI=>zLc hlt (by omega) (hk4 _ _ hI)
 refine zZ0 hpx.h (zKH hx) zAfh (zDN zQP) λh9 a9 k9=>?_
 have hu9:=hu.keep k9
 refine zAM (zQO hu9.q) ?_
 rintro _ _ ⟨rfl,rfl⟩
 have k09:=kh.trans k9
 have g09:=k09.1
 have hxin:zAdW P h9 x:=⟨hrx.m.keep k09 λ_ _=>id,hrx.f.keep k09 (λ_ _=>id) λ_ _=>id,by have:=hsx.2.2.1;omega,by have:=hsx.2.2.2.1;omega,by have:=hsx.2.2.2.2;omega⟩
 refine zCn (a9.ldN (zDN wx)) ?_
 refine zAM (zAgN hu9.q hxin (λb hb=>by have:=hP b hb;omega) (by omega) (hT.keep k09 λ_ h=>h.elim).ops (hS.keep k09 λ_ h=>h.elim)) ?_
 rintro _ h11 ⟨rfl,⟨R',q',hR'⟩,k11⟩
 have g9:=k9.1
 have g11:=k11.1
 have hRl:∀ b,R b->b<h.size:=by obtain⟨_,_,_,_,_,_,_,_,_,_,_,z⟩:=hu.q;exact z
 have a11:At h11 h.size (pvC x):=a9.keep k11 λhb=>by have:=hRl _ hb;omega
 have k011:Keep No H h11:=k09.fresh k11 λb hb=>hu.rb b hb
 have b11:=hu9.b.keep k11 λb hb hR=>(hu.fb b hb).2.2 hR
 have hu11:zZG P H.size (zRZ (zRw ((pv.take i).map zLy)) (zLy x)) h11 R' F H.size w out->True:=λ_=>trivial
 have hR0:∀ b,R' b->H.size<=b:=λb hb=>(hR' b hb).elim (hu.rb b) λhb=>by omega
 have hF0:∀ b,F b->H.size<=b/\b<h11.size/\¬ R' b:=λb hb=>⟨(hu.fb b hb).1,by have:=(hu.fb b hb).2.1;omega,λhr=>(hR' b hr).elim (hu.fb b hb).2.2 λhr=>by have:=(hu.fb b hb).2.1;omega⟩
 rcases zWo (l:=zRw ((pv.take i).map zLy)) (x:=zLy x) with ⟨hz,hpp⟩|hpp
 ·refine zCn eqI (zTv (λ_=>?_) λe=>absurd e (by rw[decide_eq_true hz];decide))
  refine zAM (zQO q') ?_
  rintro _ _ ⟨rfl,rfl⟩
  refine zCn zAiS (zM2 (by rw[hpp];simp) (zCn (a11.ldN (zDN wx)) ?_))
  have hol:out.length<=100:=by have:=congrArg List.length hu.e;rw[zAf]at this;omega
  refine zAiC b11 (zXo (zDN wx)) (zDN wx) hrx.one (by omega) (by rw[zAf];omega) λu h16 bu k16=>hk6 _ _ _ ⟨⟨R',λb=>F b\/(h11.size<=b/\b<h16.size),out++[x],⟨?_,by rw[zAN];exact bu,?_,hR0,λb hb=>?_⟩,λy hy=>?_⟩,k011.fresh k16 λb hb=>hb.elim (λhb=>(hF0 b hb).1) λhb=>by have:=k011.1;omega⟩
  ·rw[htk,zPe]
   exact q'.keep k16 λb hb hh=>hh.elim (λhF=>(hF0 b hF).2.2 hb) λhh=>by
    obtain⟨_,_,_,_,_,_,_,_,_,_,_,z⟩:=q'
    have:=z b hb;omega
  ·rw[zAN,hu.e,htk,zPe,hpp];rfl
  ·have g16:=k16.1
   rcases hb with hb|hb
   ·exact⟨(hF0 b hb).1,by have:=(hF0 b hb).2.1;omega,(hF0 b hb).2.2⟩
   ·refine⟨by have:=k011.1;omega,hb.2,λhr=>?_⟩
    obtain⟨_,_,_,_,_,_,_,_,_,_,_,z⟩:=q'
    have:=z b hr;omega
  ·rcases zAr.1 hy with hy|hy
   ·exact ho y hy
   ·rw[zAI.1 hy];exact hm
 ·have done:∀ t,k6 w t h11:=λt=>hk6 _ _ _ ⟨⟨R',F,out,⟨by rw[htk,zPe];exact q',b11,by rw[hu.e,htk,zPe,hpp],hR0,hF0⟩,ho⟩,k011⟩
  refine zCn eqI (zTv (λ_=>?_) λe=>zOU rfl (done _))
  refine zAM (zQO q') ?_
  rintro _ _ ⟨rfl,rfl⟩
  exact zCn zAiS (zOU (by rw[hpp];simp) (done _))
theorem zU4 {α:Type}{l:List α}{i:Nat}{x:α}{p:α->Bool}(h:l[i]? = some x):(l.take (i+1)).all p=((l.take i).all p&&p x):=by
 rw[zAJ,h,zCU];simp
section
variable {h:zAw} {q:Nat} {vi vp:Value} {a:zOW}
theorem zAjk (p:At h q (zKI vi vp a)):ld1 h (Ptr q 0)=some vi:=p.ld rfl
theorem zAkU (p:At h q (zKI vi vp a)):ld1 h (Ptr q 1)=some vp:=p.ld rfl
theorem zAcj (p:At h q (zKI vi vp a)):ld1 h (Ptr q 2)=some (.int .i64 a.kind):=p.ld rfl
theorem zXu (p:At h q (zKI vi vp a)):ld1 h (Ptr q 3)=some (str a.name):=p.ld rfl
theorem zAkj (p:At h q (zKI vi vp a)):ld1 h (Ptr q 4)=some (str a.want.op):=p.ld rfl
theorem zAg2 (p:At h q (zKI vi vp a))(w:a.wf):ldN 5 h (Ptr q 4)=some (.agg (zEQ a.want).toArray):=by
 have:Pt h q 4 (zEQ a.want):=Pt.mid (A:=[vi,vp,.int .i64 a.kind,str a.name]) (B:=zEQ a.want) (C:=[.int .i64 a.bound]) (o:=0) (by simpa [zKI,zQX] using p.pt) (by simp)
 exact this.agg (zFf w.want)
theorem zAiT (p:At h q (zKI vi vp a))(w:a.wf):ldN 8 h (Ptr q 2)=some (.agg (zQX a).toArray):=by
 have:Pt h q 2 (zQX a):=Pt.mid (A:=[vi,vp]) (B:=zQX a) (C:=[]) (o:=0) (by simpa [zKI] using p.pt) (by simp)
 exact this.agg (zSf w)
theorem zAiU (p:At h q (zKI vi vp a))(w:a.wf):ld1 h (Ptr q 8)=some (str a.want.ver.pre):=by
 obtain⟨b1,b2,b3,e⟩:=Ver.cases3 w.want.ver
 refine p.ld ?_
 unfold zKI zQX zEQ zEt
 rw[e];rfl
theorem zAd7 (p:At h q (zKI vi vp a))(w:a.wf):ld1 h (Ptr q 9)=some (.int .i64 a.bound):=by
 refine p.ld ?_
 have h1:=zSf w
 have h2:=zFf w.want
 unfold zKI zQX
 rw[show vi::vp::([Value.int .i64 a.kind,str a.name]++zEQ a.want++[.int .i64 a.bound])=([vi,vp,.int .i64 a.kind,str a.name]++zEQ a.want)++[.int .i64 a.bound] by simp]
 rw[zA6 (by simp[h2]),zAy,h2];rfl
end
end Go.Proofs.YticdfkoncnnmmaaGreatDoor
