import Derived.Test.YticdfkoncnnmmaaGreatDoorG1
import Derived.Test.YticdfkoncnnmmaaGreatDoorGJ
set_option linter.unusedSimpArgs false
set_option linter.unusedVariables false
set_option maxRecDepth 100000
namespace Go.Proofs.YticdfkoncnnmmaaGreatDoor
open Go.X Go.X.Diff
structure zAbt (q:Nat)(Fd Fc Ff:Nat->Prop)(m:Man)(h:zAd):Prop where
 ex:∃ vd vc vf,At h q (zEN m vd vc vf)/\BufE 6 Fd h vd (m.deps.map zDa)/\BufE 6 Fc h vc (m.conf.map zDa)/\BufE 34 Ff h vf (m.files.map zB9)
 nq:¬ Fd q/\¬ Fc q/\¬ Ff q
 dis:∀ b,¬ (Fd b/\Fc b)/\¬ (Fd b/\Ff b)/\¬ (Fc b/\Ff b)
 lt:∀ b,Fd b\/Fc b\/Ff b->b<h.size
 wf:m.wf
theorem zAbt.keep {q:Nat}{Fd Fc Ff S:Nat->Prop}{m:Man}{h h':zAd}(a:zAbt q Fd Fc Ff m h)(k:Keep S h h')(hs:∀ b,b=q\/Fd b\/Fc b\/Ff b->¬ S b):zAbt q Fd Fc Ff m h':=by
 obtain⟨vd,vc,vf,h1,h2,h3,h4⟩:=a.ex
 exact⟨⟨vd,vc,vf,h1.keep k (hs q (.inl rfl)),h2.keep k fun b hb=>hs b (.inr (.inl hb)),h3.keep k fun b hb=>hs b (.inr (.inr (.inl hb))),h4.keep k fun b hb=>hs b (.inr (.inr (.inr hb)))⟩,a.nq,a.dis,fun b hb=>Nat.lt_of_lt_of_le (a.lt b hb) k.1,a.wf⟩
def zAh7 (s:List UInt8)(v:Ver):Prop:=(v.wf/\zEX v=true/\zFH v=s)\/((∀ x:Ver,x.p.length=3->zEX x=true->zFH x≠s)/\v=zB2)
theorem zAh7.wf {s:List UInt8}{v:Ver}(h:zAh7 s v):v.wf:=by
 rcases h with h | ⟨_,rfl⟩
 ·exact h.1
 ·exact zEM
def zAcA (s:List UInt8)(w:zPS):Prop:=(w.wf/\zFJ w=true/\zQY w=s)\/((∀ x:zPS,x.wf->zFJ x=true->zQY x≠s)/\w=zSR)
theorem zAcA.wf {s:List UInt8}{w:zPS}(h:zAcA s w):w.wf:=by
 rcases h with h | ⟨_,rfl⟩
 ·exact h.1
 ·exact zQa
theorem Pt.closed {n0:Nat}{h h':zAd}{b o:Nat}{cs:List Value}(p:Pt h b o cs)(c:zL0 n0 h h'):Pt h' b o cs:=by
 obtain⟨x,T,f,hb,h1⟩:=p
 exact⟨x,T,f,c.2.2 _ _ hb (fun ds e=>by cases e),h1⟩
theorem SlE.closed {n n0:Nat}{P:Nat->Prop}{h h':zAd}{v:Value}{xs:List (List Value)}(s:SlE n P h v xs)(c:zL0 n0 h h'):SlE n P h' v xs:=by
 obtain⟨⟨a,k,h1,h2,h3⟩,h4,h5⟩:=s
 refine⟨⟨a,k,h1,h2,?_⟩,h4,h5⟩
 rcases h3 with h3 | ⟨b,o,e,hb,hp⟩
 ·exact .inl h3
 ·exact .inr ⟨b,o,e,hb,Pt.closed hp c⟩
theorem zJJ.closed {P:Nat->Prop}{n0:Nat}{h h':zAd}{m:Man}{vd vc vf:Value}(v:zJJ P h m vd vc vf)(c:zL0 n0 h h'):zJJ P h' m vd vc vf :=
 ⟨SlE.closed v.d c,SlE.closed v.c c,SlE.closed v.f c,v.wf⟩
def zAfP:Man:=⟨[],zB2,[],[],[]⟩
def zAY:Value := .slice none 0 0
def zAcB:List UInt8:=[104,101,108,108,111]
def mA1:Man:=⟨zAcB,⟨[1,0,0],[]⟩,[],[],[]⟩
def zAhm:Dep:=⟨[108,105,98,99],⟨[94],⟨[2,1,0],[]⟩⟩⟩
def mA2:Man:=⟨zAcB,⟨[1,0,0],[]⟩,[zAhm],[],[]⟩
def ms:Nat->Man
 | 0=>zAfP
 | 1=>mA1
 | _=>mA2
structure PA (n0 q2 q n5:Nat)(H:zAd)(j:Nat)(h:zAd):Prop where
 r:At h q2 (zEN zAfP zAY zAY zAY)
 m:∃ Fd Fc,zAbt q Fd Fc (fun _=>False) (ms j) h/\∀ b,Fd b\/Fc b->n5+2<=b
 k:Keep (fun _=>False) H h
theorem PA.keep {n0 q2 q n5:Nat}{H:zAd}{j:Nat}{h h':zAd}{S:Nat->Prop}(p:PA n0 q2 q n5 H j h)(k:Keep S h h')(hs:∀ b,S b->H.size<=b/\b≠q2/\b≠q/\b<n5+2):PA n0 q2 q n5 H j h':=by
 obtain⟨Fd,Fc,h1,h2⟩:=p.m
 refine⟨p.r.keep k fun h=>(hs _ h).2.1 rfl,⟨Fd,Fc,h1.keep k fun b hb hS=>?_,h2⟩,p.k.fresh k fun b hb=>(hs b hb).1⟩
 rcases hb with rfl | hb | hb | hb
 ·exact(hs _ hS).2.2.1 rfl
 ·have:=h2 b (.inl hb);have:=(hs b hS).2.2.2;omega
 ·have:=h2 b (.inr hb);have:=(hs b hS).2.2.2;omega
 ·exact hb
end Go.Proofs.YticdfkoncnnmmaaGreatDoor
