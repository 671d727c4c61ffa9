import Derived.Test.YticdfkoncnnmmaaGreatDoorGJ
import Derived.Test.YticdfkoncnnmmaaGreatDoorGU
import Derived.Test.YticdfkoncnnmmaaGreatDoorGO
set_option linter.unusedSimpArgs false
set_option linter.unusedVariables false
set_option maxRecDepth 100000
namespace Go.Proofs.YticdfkoncnnmmaaGreatDoor
open Go.X Go.X.Diff
theorem At.mid {h:zAd}{q n o:Nat}{A B C B':List Value}(a:At h q (A++B++C))(ho:A.length=o)(hB:B.length=n)(hB':B'.length=n)(h1:∀ c ∈ B',c.oneCell'=true) :
  ∃ h',stN n h (Ptr q o) (.agg B'.toArray)=some h'/\At h' q (A++B'++C)/\Keep (· = q) h h':=by
 obtain⟨T,a⟩:=a
 have:=zMH (n:=n) (o:=o) (A:=A) (B:=B) (C:=C) (B':=B') a ho.symm hB.symm hB' (zRY h1)
 exact⟨_,this,⟨T,zAt a⟩,Keep.set rfl⟩
theorem bcells_one {l:List UInt8}:∀ c ∈ zAy l,c.oneCell'=true:=by
 intro c hc
 simp only[zAy,List.mem_map]at hc
 obtain⟨x,_,rfl⟩:=hc;rfl
structure zAiA (a:zAct):Prop where
 bef:∀ x ∈ a.bef,x.wf
 aft:∀ x ∈ a.aft,x.wf
 r:a.r.length=32
theorem Items.bound {P:Nat->Prop}{H:zAd}{v:Value}{xs:List Item}(h:Items P H v xs):Items (fun b=>P b/\b<H.size) H v xs:=by
 obtain⟨⟨hex,hel,hone⟩,hw⟩:=h
 obtain⟨a,c,hve,hc,hx⟩:=hex
 exact⟨⟨⟨a,c,hve,hc,hx.imp id fun⟨b,o,e,hb,hpt⟩=>⟨b,o,e,⟨hb,hpt.lt⟩,hpt⟩⟩,hel,hone⟩,hw⟩
def zAdW (H:zAd)(v:Value)(l:List UInt8):Prop:=Bs H v l/\∃ a c,v = .slice a l.length c
theorem zAdW.keep {H H':zAd}{v:Value}{l:List UInt8}(h:zAdW H v l)(k:Keep (fun _=>False) H H'):zAdW H' v l:=⟨h.1.keep k fun _ _=>id,h.2⟩
theorem zAdW.b2s {H:zAd}{v:Value}{l:List UInt8}(h:zAdW H v l):Go.X.b2s H v=some (str l):=by
 obtain⟨a,c,rfl⟩:=h.2
 exact h.1.b2s fun s e=>by cases e
theorem zAdW.len {H:zAd}{v:Value}{l:List UInt8}(h:zAdW H v l):zBO v=some (.int .i64 l.length):=by
 obtain⟨a,c,rfl⟩:=h.2;rfl
theorem _root_.Go.X.Buf.bound {F:Nat->Prop}{H:zAd}{v:Value}{l:List UInt8}(h:Buf F H v l):Buf (fun b=>F b/\b<H.size) H v l:=by
 rcases h with h | ⟨b,o,c,cs,T,f,e,hf,hc,hb,hr⟩
 ·exact .inl h
 ·exact .inr ⟨b,o,c,cs,T,f,e,⟨hf,lt_of hb⟩,hc,hb,hr⟩
end Go.Proofs.YticdfkoncnnmmaaGreatDoor
