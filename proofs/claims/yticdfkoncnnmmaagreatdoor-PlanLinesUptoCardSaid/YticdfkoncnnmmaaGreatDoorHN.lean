import Derived.Test.YticdfkoncnnmmaaGreatDoorHJ
set_option linter.unusedSimpArgs false
set_option linter.unusedVariables false
set_option maxRecDepth 100000
namespace Go.Proofs.YticdfkoncnnmmaaGreatDoor
open Go.X Go.X.Diff
def zPP (inst:List Man)(a:zQz):Int :=
 if (zEW inst&&zQV a)=false then 10 else if a.kind=1/\zZ7 inst a.name=true then 44 else if a.kind≠1/\zZ7 inst a.name=false then 14 else if a.kind=3/\zUf inst a.name=true then 43 else 0
section
variable {inst:List Man} {l:List Pk} {a:zQz} {e:Int} {goal goal':List Man}
theorem zRL {r r':Res}(h:zAfI inst l a r)(h':zAfI inst l a r'):r=r':=by
 obtain⟨s,h⟩:=h
 obtain⟨s',h'⟩:=h'
 exact(h.det h').1
theorem zRM (h:zRH inst a)(hg:(zEW inst&&zQV a)=true):zPP inst a=0:=by
 unfold zPP
 rw[if_neg (by rw[hg];decide),if_neg (λc=>by rw[h.2.1 c.1]at c;exact absurd c.2 (by decide)),if_neg (λc=>by rw[h.2.2 c.1]at c;exact absurd c.2 (by decide)),if_neg (λc=>h.1 c.1)]
theorem zXG (h:zAd9 inst l a e)(hw:zPP inst a≠0):e=zPP inst a:=by
 unfold zPP at hw ⊢
 rcases h with ⟨h1,rfl⟩|⟨h1,h⟩
 ·rw[if_pos h1]
 rw[if_neg (by rw[h1];decide)]at hw ⊢
 rcases h with ⟨h2,h3,rfl⟩|⟨h2,h3,rfl⟩|⟨h2,h3,h4,rfl⟩|⟨h2,_⟩
 ·rw[if_pos ⟨h2,h3⟩]
 ·rw[if_neg (λc=>h2 c.1),if_pos ⟨h2,h3⟩]
 ·rw[if_neg (λc=>by omega),if_neg (λc=>by rw[h3]at c;exact absurd c.2 (by decide)),if_pos ⟨h2,h4⟩]
 ·exfalso;apply hw
  have:=zRM h2 h1
  unfold zPP at this
  rwa [if_neg (by rw[h1];decide)]at this
theorem zAbc (h:zQm inst l a goal):zPP inst a=0:=by
 obtain⟨h1,h⟩:=h
 rcases h with ⟨h2,h3,h4,_⟩|⟨h2,_⟩
 ·unfold zPP
  rw[if_neg (by rw[h1];decide),if_neg (λc=>by omega),if_neg (λc=>by rw[h3]at c;exact absurd c.2 (by decide)),if_neg (λc=>by rw[h4]at c;exact absurd c.2 (by decide))]
 ·exact zRM h2 h1
theorem zQY (h:zAd9 inst l a e)(hw:zPP inst a=0):zRH inst a/\(zXx inst l a=false/\e=10\/zXx inst l a=true/\(zAfI inst l a .fail/\e=40\/zAfI inst l a .over/\e=42)):=by
 unfold zPP at hw
 rcases h with ⟨h1,rfl⟩|⟨h1,h⟩
 ·rw[if_pos h1]at hw;omega
 rw[if_neg (by rw[h1];decide)]at hw
 rcases h with ⟨h2,h3,rfl⟩|⟨h2,h3,rfl⟩|⟨h2,h3,h4,rfl⟩|⟨h2,h3⟩
 ·rw[if_pos ⟨h2,h3⟩]at hw;omega
 ·rw[if_neg (λc=>h2 c.1),if_pos ⟨h2,h3⟩]at hw;omega
 ·rw[if_neg (λc=>by omega),if_neg (λc=>by rw[h3]at c;exact absurd c.2 (by decide)),if_pos ⟨h2,h4⟩]at hw;omega
 ·exact⟨h2,h3⟩
theorem zTk (h:zQm inst l a goal)(he:zAd9 inst l a e):False:=by
 obtain⟨hc,he⟩:=zQY he (zAbc h)
 obtain⟨_,h⟩:=h
 rcases h with ⟨h2,_⟩|⟨_,h2,ks,h3,_⟩
 ·exact hc.1 h2
 ·rcases he with ⟨he,_⟩|⟨_,⟨he,_⟩|⟨he,_⟩⟩
  ·rw[h2]at he;cases he
  ·have:=zRL h3 he;cases this
  ·have:=zRL h3 he;cases this
theorem zAiO {e':Int}(h:zAd9 inst l a e)(h':zAd9 inst l a e'):e=e':=by
 by_cases hw:zPP inst a=0
 ·obtain⟨_,h⟩:=zQY h hw
  obtain⟨_,h'⟩:=zQY h' hw
  rcases h with ⟨h1,rfl⟩|⟨h1,⟨h2,rfl⟩|⟨h2,rfl⟩⟩
  ·rcases h' with ⟨_,rfl⟩|⟨h3,_⟩
   ·rfl
   ·rw[h1]at h3;cases h3
  ·rcases h' with ⟨h3,_⟩|⟨_,⟨_,rfl⟩|⟨h4,_⟩⟩
   ·rw[h1]at h3;cases h3
   ·rfl
   ·have:=zRL h2 h4;cases this
  ·rcases h' with ⟨h3,_⟩|⟨_,⟨h4,_⟩|⟨_,rfl⟩⟩
   ·rw[h1]at h3;cases h3
   ·have:=zRL h2 h4;cases this
   ·rfl
 ·rw[zXG h hw,zXG h' hw]
theorem zWh (h:zQm inst l a goal)(h':zQm inst l a goal'):goal=goal':=by
 obtain⟨_,h⟩:=h
 obtain⟨_,h'⟩:=h'
 rcases h with ⟨h2,_,_,rfl⟩|⟨hc,_,ks,h3,_,rfl⟩
 ·rcases h' with ⟨_,_,_,rfl⟩|⟨hc,_⟩
  ·rfl
  ·exact absurd h2 hc.1
 ·rcases h' with ⟨h2,_⟩|⟨_,_,ks',h3',_,rfl⟩
  ·exact absurd h2 hc.1
  ·have:=zRL h3 h3'
   cases this;rfl
theorem zTl (h:zQm inst l a goal):∀ m∈goal,m∈zEO inst l:=by
 obtain⟨_,h⟩:=h
 rcases h with ⟨_,_,_,rfl⟩|⟨_,_,ks,_,hN,rfl⟩
 ·exact λm hm=>zP8 (zAX.1 hm).1
 ·intro m hm
  obtain⟨k,hk,rfl⟩:=zAo.1 hm
  exact zAlY (hN.1 k (zMk.1 hk))
theorem zAfQ (h:zQm inst l a goal):(∀ x∈inst,∀ y∈goal,x.name=y.name->x.ver=y.ver->x=y)/\∀ m∈goal,m∉inst->zNt l m∈l/\(zNt l m).1=m:=by
 have hs:=zTl h
 obtain⟨hg,h⟩:=h
 rcases h with ⟨_,_,_,rfl⟩|⟨_,hp,ks,_,hN,rfl⟩
 ·rw[zAk]at hg
  exact⟨λx hx y hy e1 _=>zAa7 hg.1 hx (zAX.1 hy).1 e1,λm hm hn=>absurd (zAX.1 hm).1 hn⟩
 ·have hT:zAdU (zEO inst l):=by
   refine zAdV ?_
   unfold zXx zIe at hp
   simp only[zAk]at hp
   exact hp.1.2
  exact⟨λx hx y hy e1 e2=>hT x (zP8 hx) y (hs y hy) e1 e2,λm hm hn=>zAba hT (hs m hm) hn⟩
end
end Go.Proofs.YticdfkoncnnmmaaGreatDoor
