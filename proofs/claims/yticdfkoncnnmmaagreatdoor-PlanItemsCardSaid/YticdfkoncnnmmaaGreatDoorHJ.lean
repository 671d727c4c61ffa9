import Derived.Test.YticdfkoncnnmmaaGreatDoorHH
import Derived.Test.YticdfkoncnnmmaaGreatDoorG5
import Derived.Test.YticdfkoncnnmmaaGreatDoorHC
set_option linter.unusedSimpArgs false
set_option linter.unusedVariables false
set_option maxRecDepth 100000
namespace Go.Proofs.YticdfkoncnnmmaaGreatDoor
open Go.X Go.X.Diff
structure zAb3 (P:Nat->Prop)(H:zAd)(x:PW):Prop where
 m:zJJ P H x.1.1 x.1.2.1 x.1.2.2.1 x.1.2.2.2
 f:BSS P P H x.2.1 x.2.2
theorem zAb3.keep {P S:Nat->Prop}{H H':zAd}{x:PW}(h:zAb3 P H x)(k:Keep S H H')(hs:∀ b,P b->¬ S b):zAb3 P H' x:=⟨h.m.keep k hs,h.f.keep k hs hs⟩
structure zXF (P:Nat->Prop)(H:zAd)(v:Value)(pv:List PW):Prop where
 h:SlE 9 P H v (pv.map pvC)
 m:∀ x ∈ pv,zAb3 P H x
 hl:pv.length<=9223372036854775807
theorem zXF.keep {P S:Nat->Prop}{H H':zAd}{v:Value}{pv:List PW}(h:zXF P H v pv)(k:Keep S H H')(hs:∀ b,P b->¬ S b):zXF P H' v pv:=⟨h.h.keep k hs,fun x hx=>(h.m x hx).keep k hs,h.hl⟩
theorem zXF.len {P:Nat->Prop}{H:zAd}{v:Value}{pv:List PW}(h:zXF P H v pv):zBO v=some (.int .i64 (pv.length:Nat)):=by have:=h.h.len;rwa [List.length_map]at this
structure zAhM where
 mv:List MV
 pv:List PW
 ask:zRp
structure zAiL (P:Nat->Prop)(H:zAd)(vi vp:Value)(z:zAhM):Prop where
 i:zP3 P H vi z.mv
 p:zXF P H vp z.pv
 a:z.ask.wf
end Go.Proofs.YticdfkoncnnmmaaGreatDoor
namespace Go.Proofs.YticdfkoncnnmmaaGreatDoor.Came
open Go.X
theorem zWR {α:Type}{enc:α->List Value}{Q:α->Prop}:∀ {q:List (List Value)},(∀ x ∈ q,∃ a,Q a/\x=enc a)->∃ l:List α,q=l.map enc/\∀ a ∈ l,Q a
 | [],_=>⟨[],rfl,fun y h=>by cases h⟩
 | x :: q,h=>by
  obtain⟨ys,hy,hw⟩:=zWR (q:=q) fun x hx=>h x (by simp[hx])
  obtain⟨a,ya,rfl⟩:=h x (by simp)
  refine⟨a :: ys,by rw[hy];rfl,fun z hz=>?_⟩
  rcases List.mem_cons.1 hz with rfl | hz
  ·exact ya
  ·exact hw z hz
theorem zAc3:prg.underlying zBm=some (.slice zAb):=by kernel_rfl
theorem zAeS {α:Type}{enc:α->List Value}{Q:World->α->Prop}{n:Nat}{TS T:TypeId}(hn:0<n)(hu:prg.underlying TS=some (.slice T))(hc:prg.cellsOf T=n)(hone:∀ w a,Q w a->∀ c ∈ enc a,c.oneCell'=true)(hof:∀ (w:World) (d:Nat) (cs:List Value),Shp prg w d T cs->∃ a,Q w a/\cs=enc a)
  {w:World} {d:Nat} {v:Value} (h:Shp prg w d TS [v]):∃ xs:List α,xs.length<=9223372036854775807/\SlE n (· < w.heap.size) w.heap v (xs.map enc)/\∀ x ∈ xs,Q w x:=by
 cases d with
 | zero=>exact h.elim
 | succ d =>
  simp only[Shp,hu]at h
  rcases h with h | ⟨a,len,cap,hv,hle,hcap,hel⟩
  ·obtain rfl:v = .slice none 0 0:=by simpa using h
   exact⟨[],by simp,SlE.nil,fun x h=>by cases h⟩
  ·obtain rfl:v = .slice (some a) len cap:=by simpa using hv
   rw[hc]at hel
   obtain⟨q,hq,hs,hqi⟩:=zMK (n:=n) (q:=fun cs=>∃ a,Q w a/\cs=enc a) hn hle (fun cs ⟨x,hx,e⟩ c hc=>by subst e;exact hone w x hx c hc) fun i hi=>by
    obtain⟨cs',h1,h2⟩:=hel i hi
    exact⟨cs',h1,hof _ _ _ h2⟩
   obtain⟨xs,rfl,hw⟩:=zWR hqi
   have hm:maxLen=9223372036854775807:=rfl
   rw[List.length_map]at hq
   exact⟨xs,by omega,hs,hw⟩
theorem zAgx {w:World}{d:Nat}{v:Value}(h:Shp prg w d zBm [v]):∃ mv:List MV,mv.length<=9223372036854775807/\zP3 (· < w.heap.size) w.heap v mv:=by
 obtain⟨xs,h1,h2,h3⟩:=zAeS (enc:=mvC) (Q:=fun w x=>zJJ (· < w.heap.size) w.heap x.1 x.2.1 x.2.2.1 x.2.2.2) (n:=8) (by omega) zAc3 zAcD (fun w a ha=>ha.one) (fun w d cs hs=>by
  obtain⟨m,vd,vc,vf,hm,e⟩:=zAfV hs
  exact⟨(m,vd,vc,vf),hm,e⟩) h
 exact⟨xs,h1,h2,h3,h1⟩
end Go.Proofs.YticdfkoncnnmmaaGreatDoor.Came
