import Derived.Test.YticdfkoncnnmmaaGreatDoorG1
import Derived.Test.YticdfkoncnnmmaaGreatDoorGJ
set_option linter.unusedSimpArgs false
set_option linter.unusedVariables false
namespace Go.Proofs.YticdfkoncnnmmaaGreatDoor
open Go.X Go.X.Diff
set_option maxRecDepth 100000
structure ManAt(q:Nat)(Fd Fc Ff:Nat→Prop)(m:Man)(h:Heap):Prop where
  ex:∃ vd vc vf,At h q(manC m vd vc vf)∧BufE 6 Fd h vd(m.deps.map depC)∧BufE 6 Fc h vc(m.conf.map depC)∧BufE 34 Ff h vf(m.files.map fileC)
  nq:¬ Fd q∧¬ Fc q∧¬ Ff q
  dis:∀ b,¬ (Fd b∧Fc b)∧¬ (Fd b∧Ff b)∧¬ (Fc b∧Ff b)
  lt:∀ b,Fd b∨Fc b∨Ff b→b<h.size
  wf:m.wf
theorem ManAt.keep{q:Nat}{Fd Fc Ff S:Nat→Prop}{m:Man}{h h':Heap}(a:ManAt q Fd Fc Ff m h)(k:Keep S h h')(hs:∀ b,b=q∨Fd b∨Fc b∨Ff b→¬ S b):ManAt q Fd Fc Ff m h':=by
  obtain⟨vd,vc,vf,h1,h2,h3,h4⟩:=a.ex
  exact⟨⟨vd,vc,vf,h1.keep k(hs q(.inl rfl)),h2.keep k fun b hb=>hs b(.inr(.inl hb)),h3.keep k fun b hb=>hs b(.inr(.inr(.inl hb))),h4.keep k fun b hb=>hs b(.inr(.inr(.inr hb)))⟩,a.nq,a.dis,fun b hb=>Nat.lt_of_lt_of_le(a.lt b hb)k.1,a.wf⟩
def VerR(s:List UInt8)(v:Ver):Prop:=(v.wf∧verOk v=true∧showF v=s)∨((∀ x:Ver,x.p.length=3→verOk x=true→showF x≠s)∧v=zeroV)
theorem VerR.wf{s:List UInt8}{v:Ver}(h:VerR s v):v.wf:=by
  rcases h with h | ⟨_,rfl⟩
  · exact h.1
  · exact zCi
def WantRR(s:List UInt8)(w:Want):Prop:=(w.wf∧wantOk w=true∧wantS w=s)∨((∀ x:Want,x.wf→wantOk x=true→wantS x≠s)∧w=zeroW)
theorem WantRR.wf{s:List UInt8}{w:Want}(h:WantRR s w):w.wf:=by
  rcases h with h | ⟨_,rfl⟩
  · exact h.1
  · exact zMD
end Go.Proofs.YticdfkoncnnmmaaGreatDoor
namespace Go.Proofs.YticdfkoncnnmmaaGreatDoor
open Go.X Go.X.Diff
set_option maxRecDepth 100000
theorem Pt.closed{n0:Nat}{h h':Heap}{b o:Nat}{cs:List Value}(p:Pt h b o cs)(c:Closed n0 h h'):Pt h' b o cs:=by
  obtain⟨x,T,f,hb,h1⟩:=p
  exact⟨x,T,f,c.2.2 _ _ hb(fun ds e=>by cases e),h1⟩
theorem SlE.closed{n n0:Nat}{P:Nat→Prop}{h h':Heap}{v:Value}{xs:List(List Value)}(s:SlE n P h v xs)(c:Closed n0 h h'):SlE n P h' v xs:=by
  obtain⟨⟨a,k,h1,h2,h3⟩,h4,h5⟩:=s
  refine⟨⟨a,k,h1,h2,?_⟩,h4,h5⟩
  rcases h3 with h3 | ⟨b,o,e,hb,hp⟩
  · exact .inl h3
  · exact .inr⟨b,o,e,hb,Pt.closed hp c⟩
theorem ManV.closed{P:Nat→Prop}{n0:Nat}{h h':Heap}{m:Man}{vd vc vf:Value}(v:ManV P h m vd vc vf)(c:Closed n0 h h'):ManV P h' m vd vc vf :=
  ⟨SlE.closed v.d c,SlE.closed v.c c,SlE.closed v.f c,v.wf⟩
def zeroM:Man:=⟨[],zeroV,[],[],[]⟩
def nilS:Value := .slice none 0 0
def helloB:List UInt8:=[104,101,108,108,111]
def mA1:Man:=⟨helloB,⟨[1,0,0],[]⟩,[],[],[]⟩
def libcD:Dep:=⟨[108,105,98,99],⟨[94],⟨[2,1,0],[]⟩⟩⟩
def mA2:Man:=⟨helloB,⟨[1,0,0],[]⟩,[libcD],[],[]⟩
def ms:Nat→Man
  | 0=>zeroM
  | 1=>mA1
  | _=>mA2
structure PA(n0 q2 q n5:Nat)(H:Heap)(j:Nat)(h:Heap):Prop where
  r:At h q2(manC zeroM nilS nilS nilS)
  m:∃ Fd Fc,ManAt q Fd Fc(fun _=>False)(ms j)h∧∀ b,Fd b∨Fc b→n5+2≤b
  k:Keep(fun _=>False)H h
theorem PA.keep{n0 q2 q n5:Nat}{H:Heap}{j:Nat}{h h':Heap}{S:Nat→Prop}(p:PA n0 q2 q n5 H j h)(k:Keep S h h')(hs:∀ b,S b→H.size≤b∧b≠q2∧b≠q∧b<n5+2):PA n0 q2 q n5 H j h':=by
  obtain⟨Fd,Fc,h1,h2⟩:=p.m
  refine⟨p.r.keep k fun h=>(hs _ h).2.1 rfl,⟨Fd,Fc,h1.keep k fun b hb hS=>?_,h2⟩,p.k.fresh k fun b hb=>(hs b hb).1⟩
  rcases hb with rfl | hb | hb | hb
  · exact(hs _ hS).2.2.1 rfl
  · have:=h2 b(.inl hb);have:=(hs b hS).2.2.2;omega
  · have:=h2 b(.inr hb);have:=(hs b hS).2.2.2;omega
  · exact hb
end Go.Proofs.YticdfkoncnnmmaaGreatDoor
