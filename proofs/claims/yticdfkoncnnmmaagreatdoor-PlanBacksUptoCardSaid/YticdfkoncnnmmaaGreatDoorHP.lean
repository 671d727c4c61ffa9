import Derived.Test.YticdfkoncnnmmaaGreatDoorHN
import Derived.Test.YticdfkoncnnmmaaGreatDoorHJ
set_option linter.unusedSimpArgs false
set_option linter.unusedVariables false
set_option maxRecDepth 100000
namespace Go.Proofs.YticdfkoncnnmmaaGreatDoor
open Go.X Go.X.Diff
structure zAht (z:zZv):Prop where
 i:zP8 z.mv
 il:z.mv.length<=8
 p:zP8 (zGU z.pv)
 pl:z.pv.length<=12
structure zAnF (H h:zAx)(z:zZv)(u:Value):Prop where
 ex:zAf7 (zCi z.mv) (zQb (z.pv.map zJg)) z.ask H h u
theorem zTy.mono {P Q:zA1}{H:zAx}{x:PW}(h:zTy P H x)(k:∀ b,P b->Q b):zTy Q H x:=⟨h.m.mono k,h.f.mono k k⟩
def zZy (inst:List Man)(l:List Pk)(a:zSe)(H h:zAx)(kd:Int)(d s t:Value)(e:Int):Prop :=
 (kd=0/\d=zCn/\s=zCn/\t=zCn/\e≠0/\(zAf6 inst l a e\/e=41/\∃ goal,zS4 inst l a goal/\zC0 goal=false)) \/
 (kd=a.kind/\e=0/\∃ goal n0 zz col dr ad af,zS4 inst l a goal/\zC0 goal=true/\H.size<=zz/\ChI n0 zz a.kind col d s t dr ad af h/\zCi dr=inst.filter (λm=>!zG9 goal m)/\ad.map zJg=(goal.filter λm=>!zG9 inst m).map (zJA l)/\zCi af=goal)
section
variable {inst:List Man} {l:List Pk} {a:zSe} {H h:zAx} {kd:Int} {d s t:Value} {e e':Int} {G:List Man}
theorem zZy.err (m:zZy inst l a H h kd d s t e)(he:zAf6 inst l a e'):kd=0/\d=zCn/\s=zCn/\t=zCn/\e=e':=by
 rcases m with ⟨h1,h2,h3,h4,_,h5|⟨_,g,h5,_⟩⟩|⟨_,_,g,_,_,_,_,_,_,h5,_⟩
 ·exact⟨h1,h2,h3,h4,zAjn h5 he⟩
 ·exact(zTP h5 he).elim
 ·exact(zTP h5 he).elim
theorem zZy.clash (m:zZy inst l a H h kd d s t e)(hg:zS4 inst l a G)(hr:zC0 G=false):kd=0/\d=zCn/\s=zCn/\t=zCn/\e=41:=by
 rcases m with ⟨h1,h2,h3,h4,_,h5|⟨h6,g,h5,_⟩⟩|⟨_,_,g,_,_,_,_,_,_,h5,h6,_⟩
 ·exact(zTP hg h5).elim
 ·exact⟨h1,h2,h3,h4,h6⟩
 ·rw[zWX h5 hg,hr]at h6;cases h6
theorem zZy.ok (m:zZy inst l a H h kd d s t e)(hg:zS4 inst l a G)(hr:zC0 G=true):kd=a.kind/\e=0/\∃ n0 zz col dr ad af,H.size<=zz/\ChI n0 zz a.kind col d s t dr ad af h/\zCi dr=inst.filter (λm=>!zG9 G m)/\ad.map zJg=(G.filter λm=>!zG9 inst m).map (zJA l)/\zCi af=G:=by
 rcases m with ⟨h1,h2,h3,h4,_,h5|⟨h6,g,h5,h7⟩⟩|⟨h1,h2,g,n0,zz,col,dr,ad,af,h5,h6,h7⟩
 ·exact(zTP hg h5).elim
 ·rw[zWX h5 hg,hr]at h7;cases h7
 ·rw[zWX h5 hg]at h7
  exact⟨h1,h2,n0,zz,col,dr,ad,af,h7⟩
end
end Go.Proofs.YticdfkoncnnmmaaGreatDoor
namespace Go.Proofs.YticdfkoncnnmmaaGreatDoor.Came
open Go.X
theorem zAgh {H:Type}(d:DataW H):1<=Rows.uptoBulk d:=by
 unfold Rows.uptoBulk
 split<;>omega
theorem zYp {H:Type}:∀ (l:List (DataW H)),l.length<=Rows.uptoBulkAll l
 | []=>by simp
 | d::l=>by
  have h1:=zAgh d
  have h2:=zYp l
  have e:Rows.uptoBulkAll (d::l)=Rows.uptoBulk d+Rows.uptoBulkAll l:=by rw[Rows.uptoBulkAll]
  rw[e,zAS];omega
theorem zWY {H:Type}{d:DataW H}:∀ {l:List (DataW H)},d∈l->Rows.uptoBulk d<=Rows.uptoBulkAll l
 | x::l,h=>by
  have e:Rows.uptoBulkAll (x::l)=Rows.uptoBulk x+Rows.uptoBulkAll l:=by rw[Rows.uptoBulkAll]
  rw[e]
  rcases zAs.1 h with rfl|h
  ·omega
  ·have:=zWY h;omega
theorem zAbM {H:Type}{l:List (DataW H)}(h:Rows.uptoSmall H l=true):Rows.uptoBulkAll l<=1048576:=of_decide_eq_true h
theorem zS6 {H:Type}{enc:TypeId×Value->H}{P:Program}{w:World}{base:Nat}{sp:Nat->Bool}{held:Bool}{fuel:Nat}{t e:TypeId}{a:Option Addr}{n c:Nat}{d:DataW H}{p:List MemPlace}
  (ht:P.underlying t=some (.slice e)) (h:DataW.trod enc P w base sp held fuel t [.slice a n c]=some (d,p)):n<=Rows.uptoBulk d:=by
 rcases DataW.trod_slice ht h with ⟨h0,_⟩|⟨a',len,cap,elems,rest,m,_,hc,hx,_,_,_,hel,_⟩
 ·cases h0;exact zAz _
 ·cases hc
  cases hx
  have:=zYp (elems.map (·.1))
  rw[zAd]at this
  rw[Rows.uptoBulk]
  omega
end Go.Proofs.YticdfkoncnnmmaaGreatDoor.Came
