import Derived.Test.YticdfkoncnnmmaaGreatDoorHJ
set_option linter.unusedSimpArgs false
set_option linter.unusedVariables false
set_option maxRecDepth 100000
namespace Go.Proofs.YticdfkoncnnmmaaGreatDoor
open Go.X Go.X.Diff
def zOZ (inst:List Man)(a:zOW):Int :=
 if (zEE inst&&zP3 a)=false then 10 else if a.kind=1/\zYI inst a.name=true then 44 else if a.kind≠1/\zYI inst a.name=false then 14 else if a.kind=3/\zS6 inst a.name=true then 43 else 0
theorem zAkV {x y:Int}:zAB .no .neq (.int .i64 x) (.int .i64 y)=some (.bool (!decide (x=y))):=neI
section
variable {inst:List Man} {l:List Pk} {a:zOW} {e:Int} {goal goal':List Man}
theorem zQS {r r':Res}(h:zAcv inst l a r)(h':zAcv inst l a r'):r=r':=by
 obtain⟨s,h⟩:=h
 obtain⟨s',h'⟩:=h'
 exact(h.det h').1
theorem zQT (h:zQQ inst a)(hg:(zEE inst&&zP3 a)=true):zOZ inst a=0:=by
 unfold zOZ
 rw[if_neg (by rw[hg];decide),if_neg (λc=>by rw[h.2.1 c.1]at c;exact absurd c.2 (by decide)),if_neg (λc=>by rw[h.2.2 c.1]at c;exact absurd c.2 (by decide)),if_neg (λc=>h.1 c.1)]
theorem zWp (h:zAcw inst l a e)(hw:zOZ inst a≠0):e=zOZ inst a:=by
 unfold zOZ at hw ⊢
 rcases h with ⟨h1,rfl⟩|⟨h1,h⟩
 ·rw[if_pos h1]
 rw[if_neg (by rw[h1];decide)]at hw ⊢
 rcases h with ⟨h2,h3,rfl⟩|⟨h2,h3,rfl⟩|⟨h2,h3,h4,rfl⟩|⟨h2,_⟩
 ·rw[if_pos ⟨h2,h3⟩]
 ·rw[if_neg (λc=>h2 c.1),if_pos ⟨h2,h3⟩]
 ·rw[if_neg (λc=>by omega),if_neg (λc=>by rw[h3]at c;exact absurd c.2 (by decide)),if_pos ⟨h2,h4⟩]
 ·exfalso;apply hw
  have:=zQT h2 h1
  unfold zOZ at this
  rwa [if_neg (by rw[h1];decide)]at this
theorem zZH (h:zOY inst l a goal):zOZ inst a=0:=by
 obtain⟨h1,h⟩:=h
 rcases h with ⟨h2,h3,h4,_⟩|⟨h2,_⟩
 ·unfold zOZ
  rw[if_neg (by rw[h1];decide),if_neg (λc=>by omega),if_neg (λc=>by rw[h3]at c;exact absurd c.2 (by decide)),if_neg (λc=>by rw[h4]at c;exact absurd c.2 (by decide))]
 ·exact zQT h2 h1
theorem zP6 (h:zAcw inst l a e)(hw:zOZ inst a=0):zQQ inst a/\(zWi inst l a=false/\e=10\/zWi inst l a=true/\(zAcv inst l a .fail/\e=40\/zAcv inst l a .over/\e=42)):=by
 unfold zOZ at hw
 rcases h with ⟨h1,rfl⟩|⟨h1,h⟩
 ·rw[if_pos h1]at hw;omega
 rw[if_neg (by rw[h1];decide)]at hw
 rcases h with ⟨h2,h3,rfl⟩|⟨h2,h3,rfl⟩|⟨h2,h3,h4,rfl⟩|⟨h2,h3⟩
 ·rw[if_pos ⟨h2,h3⟩]at hw;omega
 ·rw[if_neg (λc=>h2 c.1),if_pos ⟨h2,h3⟩]at hw;omega
 ·rw[if_neg (λc=>by omega),if_neg (λc=>by rw[h3]at c;exact absurd c.2 (by decide)),if_pos ⟨h2,h4⟩]at hw;omega
 ·exact⟨h2,h3⟩
theorem zSi (h:zOY inst l a goal)(he:zAcw inst l a e):False:=by
 obtain⟨hc,he⟩:=zP6 he (zZH h)
 obtain⟨_,h⟩:=h
 rcases h with ⟨h2,_⟩|⟨_,h2,ks,h3,_⟩
 ·exact hc.1 h2
 ·rcases he with ⟨he,_⟩|⟨_,⟨he,_⟩|⟨he,_⟩⟩
  ·rw[h2]at he;cases he
  ·have:=zQS h3 he;cases this
  ·have:=zQS h3 he;cases this
theorem zAg3 {e':Int}(h:zAcw inst l a e)(h':zAcw inst l a e'):e=e':=by
 by_cases hw:zOZ inst a=0
 ·obtain⟨_,h⟩:=zP6 h hw
  obtain⟨_,h'⟩:=zP6 h' hw
  rcases h with ⟨h1,rfl⟩|⟨h1,⟨h2,rfl⟩|⟨h2,rfl⟩⟩
  ·rcases h' with ⟨_,rfl⟩|⟨h3,_⟩
   ·rfl
   ·rw[h1]at h3;cases h3
  ·rcases h' with ⟨h3,_⟩|⟨_,⟨_,rfl⟩|⟨h4,_⟩⟩
   ·rw[h1]at h3;cases h3
   ·rfl
   ·have:=zQS h2 h4;cases this
  ·rcases h' with ⟨h3,_⟩|⟨_,⟨h4,_⟩|⟨_,rfl⟩⟩
   ·rw[h1]at h3;cases h3
   ·have:=zQS h2 h4;cases this
   ·rfl
 ·rw[zWp h hw,zWp h' hw]
theorem zU5 (h:zOY inst l a goal)(h':zOY inst l a goal'):goal=goal':=by
 obtain⟨_,h⟩:=h
 obtain⟨_,h'⟩:=h'
 rcases h with ⟨h2,_,_,rfl⟩|⟨hc,_,ks,h3,_,rfl⟩
 ·rcases h' with ⟨_,_,_,rfl⟩|⟨hc,_⟩
  ·rfl
  ·exact absurd h2 hc.1
 ·rcases h' with ⟨h2,_⟩|⟨_,_,ks',h3',_,rfl⟩
  ·exact absurd h2 hc.1
  ·have:=zQS h3 h3'
   cases this;rfl
theorem zU6 (h:zOY inst l a goal):∀ m∈goal,m∈zEd inst l:=by
 obtain⟨_,h⟩:=h
 rcases h with ⟨_,_,_,rfl⟩|⟨_,_,ks,_,hN,rfl⟩
 ·exact λm hm=>zRv (zAU.1 hm).1
 ·intro m hm
  obtain⟨k,hk,rfl⟩:=zAo.1 hm
  exact zAki (hN.1 k (zHB.1 hk))
theorem zAd8 (h:zOY inst l a goal):(∀ x∈inst,∀ y∈goal,x.name=y.name->x.ver=y.ver->x=y)/\∀ m∈goal,m∉inst->zMG l m∈l/\(zMG l m).1=m:=by
 have hs:=zU6 h
 obtain⟨hg,h⟩:=h
 rcases h with ⟨_,_,_,rfl⟩|⟨_,hp,ks,_,hN,rfl⟩
 ·rw[zAm]at hg
  exact⟨λx hx y hy e1 _=>zZE hg.1 hx (zAU.1 hy).1 e1,λm hm hn=>absurd (zAU.1 hm).1 hn⟩
 ·have hT:zAch (zEd inst l):=by
   refine zAci ?_
   unfold zWi zHJ at hp
   simp only[zAm]at hp
   exact hp.1.2
  exact⟨λx hx y hy e1 e2=>hT x (zRv hx) y (hs y hy) e1 e2,λm hm hn=>zZF hT (hs m hm) hn⟩
end
end Go.Proofs.YticdfkoncnnmmaaGreatDoor
