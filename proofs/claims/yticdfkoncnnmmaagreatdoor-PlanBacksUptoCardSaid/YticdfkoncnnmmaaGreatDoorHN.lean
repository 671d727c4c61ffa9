import Derived.Test.YticdfkoncnnmmaaGreatDoorHJ
set_option linter.unusedSimpArgs false
set_option linter.unusedVariables false
set_option maxRecDepth 100000
namespace Go.Proofs.YticdfkoncnnmmaaGreatDoor
open Go.X Go.X.Diff
theorem zAjm:zF6 prg zAe 0 []=some #[]:=by kernel_rfl
def zQc (inst:List Man)(a:zSe):Int :=
 if (zC0 inst&&zRo a)=false then 10 else if a.kind=1/\zAaP inst a.name=true then 44 else if a.kind≠1/\zAaP inst a.name=false then 14 else if a.kind=3/\zUD inst a.name=true then 43 else 0
section
variable {inst:List Man} {l:List Pk} {a:zSe} {e:Int} {goal goal':List Man}
theorem zSl {r r':Res}(h:zAf5 inst l a r)(h':zAf5 inst l a r'):r=r':=by
 obtain⟨s,h⟩:=h
 obtain⟨s',h'⟩:=h'
 exact(h.det h').1
theorem zSm (h:zSh inst a)(hg:(zC0 inst&&zRo a)=true):zQc inst a=0:=by
 unfold zQc
 rw[if_neg (by rw[hg];decide),if_neg (λc=>by rw[h.2.1 c.1]at c;exact absurd c.2 (by decide)),if_neg (λc=>by rw[h.2.2 c.1]at c;exact absurd c.2 (by decide)),if_neg (λc=>h.1 c.1)]
theorem zYo (h:zAf6 inst l a e)(hw:zQc inst a≠0):e=zQc inst a:=by
 unfold zQc at hw ⊢
 rcases h with ⟨h1,rfl⟩|⟨h1,h⟩
 ·rw[if_pos h1]
 rw[if_neg (by rw[h1];decide)]at hw ⊢
 rcases h with ⟨h2,h3,rfl⟩|⟨h2,h3,rfl⟩|⟨h2,h3,h4,rfl⟩|⟨h2,_⟩
 ·rw[if_pos ⟨h2,h3⟩]
 ·rw[if_neg (λc=>h2 c.1),if_pos ⟨h2,h3⟩]
 ·rw[if_neg (λc=>by omega),if_neg (λc=>by rw[h3]at c;exact absurd c.2 (by decide)),if_pos ⟨h2,h4⟩]
 ·exfalso;apply hw
  have:=zSm h2 h1
  unfold zQc at this
  rwa [if_neg (by rw[h1];decide)]at this
theorem zAbL (h:zS4 inst l a goal):zQc inst a=0:=by
 obtain⟨h1,h⟩:=h
 rcases h with ⟨h2,h3,h4,_⟩|⟨h2,_⟩
 ·unfold zQc
  rw[if_neg (by rw[h1];decide),if_neg (λc=>by omega),if_neg (λc=>by rw[h3]at c;exact absurd c.2 (by decide)),if_neg (λc=>by rw[h4]at c;exact absurd c.2 (by decide))]
 ·exact zSm h2 h1
theorem zRr (h:zAf6 inst l a e)(hw:zQc inst a=0):zSh inst a/\(zZs inst l a=false/\e=10\/zZs inst l a=true/\(zAf5 inst l a .fail/\e=40\/zAf5 inst l a .over/\e=42)):=by
 unfold zQc at hw
 rcases h with ⟨h1,rfl⟩|⟨h1,h⟩
 ·rw[if_pos h1]at hw;omega
 rw[if_neg (by rw[h1];decide)]at hw
 rcases h with ⟨h2,h3,rfl⟩|⟨h2,h3,rfl⟩|⟨h2,h3,h4,rfl⟩|⟨h2,h3⟩
 ·rw[if_pos ⟨h2,h3⟩]at hw;omega
 ·rw[if_neg (λc=>h2 c.1),if_pos ⟨h2,h3⟩]at hw;omega
 ·rw[if_neg (λc=>by omega),if_neg (λc=>by rw[h3]at c;exact absurd c.2 (by decide)),if_pos ⟨h2,h4⟩]at hw;omega
 ·exact⟨h2,h3⟩
theorem zTP (h:zS4 inst l a goal)(he:zAf6 inst l a e):False:=by
 obtain⟨hc,he⟩:=zRr he (zAbL h)
 obtain⟨_,h⟩:=h
 rcases h with ⟨h2,_⟩|⟨_,h2,ks,h3,_⟩
 ·exact hc.1 h2
 ·rcases he with ⟨he,_⟩|⟨_,⟨he,_⟩|⟨he,_⟩⟩
  ·rw[h2]at he;cases he
  ·have:=zSl h3 he;cases this
  ·have:=zSl h3 he;cases this
theorem zAjn {e':Int}(h:zAf6 inst l a e)(h':zAf6 inst l a e'):e=e':=by
 by_cases hw:zQc inst a=0
 ·obtain⟨_,h⟩:=zRr h hw
  obtain⟨_,h'⟩:=zRr h' hw
  rcases h with ⟨h1,rfl⟩|⟨h1,⟨h2,rfl⟩|⟨h2,rfl⟩⟩
  ·rcases h' with ⟨_,rfl⟩|⟨h3,_⟩
   ·rfl
   ·rw[h1]at h3;cases h3
  ·rcases h' with ⟨h3,_⟩|⟨_,⟨_,rfl⟩|⟨h4,_⟩⟩
   ·rw[h1]at h3;cases h3
   ·rfl
   ·have:=zSl h2 h4;cases this
  ·rcases h' with ⟨h3,_⟩|⟨_,⟨h4,_⟩|⟨_,rfl⟩⟩
   ·rw[h1]at h3;cases h3
   ·have:=zSl h2 h4;cases this
   ·rfl
 ·rw[zYo h hw,zYo h' hw]
theorem zWX (h:zS4 inst l a goal)(h':zS4 inst l a goal'):goal=goal':=by
 obtain⟨_,h⟩:=h
 obtain⟨_,h'⟩:=h'
 rcases h with ⟨h2,_,_,rfl⟩|⟨hc,_,ks,h3,_,rfl⟩
 ·rcases h' with ⟨_,_,_,rfl⟩|⟨hc,_⟩
  ·rfl
  ·exact absurd h2 hc.1
 ·rcases h' with ⟨h2,_⟩|⟨_,_,ks',h3',_,rfl⟩
  ·exact absurd h2 hc.1
  ·have:=zSl h3 h3'
   cases this;rfl
theorem zAgg (h:zS4 inst l a goal):∀ m∈goal,m∈zDN inst l:=by
 obtain⟨_,h⟩:=h
 rcases h with ⟨_,_,_,rfl⟩|⟨_,_,ks,_,hN,rfl⟩
 ·exact λm hm=>zVT (zBd.1 hm).1
 ·intro m hm
  obtain⟨k,hk,rfl⟩:=zAo.1 hm
  exact zAmC (hN.1 k (zMz.1 hk))
end
end Go.Proofs.YticdfkoncnnmmaaGreatDoor
