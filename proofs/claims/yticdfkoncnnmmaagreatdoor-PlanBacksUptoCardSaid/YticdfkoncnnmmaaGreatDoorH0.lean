import Derived.Test.YticdfkoncnnmmaaGreatDoorG6
import Derived.Test.YticdfkoncnnmmaaGreatDoorG9
import Derived.Sort.LotA
import Derived.Sort.LotB
import Derived.Sort.LotC
import Derived.Sort.LotD3
set_option linter.unusedSimpArgs false
set_option linter.unusedVariables false
set_option maxRecDepth 100000
set_option linter.unusedSectionVars false
namespace Go.Proofs.YticdfkoncnnmmaaGreatDoor
open Go.X Go.X.Diff
section
variable {hv:List Man} {wants:List Dep} {f:Nat->Bool} {d:Dep}
theorem zAiQ (hr:(List.range hv.length).all (zP5 hv)=true){i j:Nat}(hi:i<hv.length)(hj:j<hv.length)(hn:(gM hv i).name=(gM hv j).name)(hv':(gM hv i).ver=(gM hv j).ver):i=j:=by
 have key:∀ i j,i<j->j<hv.length->(gM hv i).name=(gM hv j).name->(gM hv i).ver=(gM hv j).ver->False:=λi j hij hj hn hv'=>by
  have h:=zAw.1 hr j (zBC.2 hj)
  unfold zP5 at h
  rw[zAk]at h
  have ht:zX1 hv j=false:=by simpa using h.2
  unfold zX1 at ht
  have:=zCu.1 ht (gM hv i) (by
   have hg:hv[i]? = some (gM hv i):=by
    unfold gM;rw[zCk,zAj (by omega)];rfl
   exact zAC (i:=i) (by rw[List.getElem?_take_of_lt hij];exact hg))
  simp[hn,hv']at this
 rcases Nat.lt_trichotomy i j with h|h|h
 ·exact(key i j h hj hn hv').elim
 ·exact h
 ·exact(key j i h hi hn.symm hv'.symm).elim
end
open Go.Sort (swp PermIn SortedIn Below SWO)
section
variable {α:Type} [Inhabited α] {F:zA1} {H:zAx} {v:Value} {d:Array α} {enc:α->List Value}
def Ev1 (enc:α->List Value)(x:α):Value:=(enc x).headD undef
def Ev8 (enc:α->List Value)(x:α):Value := .agg (enc x).toArray
def zFT (n:Nat)(F:zA1)(H:zAx)(v:Value)(enc:α->List Value)(d:Array α):Prop:=BufE n F H v (d.toList.map enc)
theorem zND {i:Nat}(hi:i<d.size):d.toList[i]? = some d[i]! := by
 rw[Array.getElem?_toList,getElem!_pos d i hi,zBv hi]
theorem zFT.keep {n:Nat}{S:zA1}{H':zAx}(h:zFT n F H v enc d)(k:Keep S H H')(hs:∀ b,F b->¬ S b):zFT n F H' v enc d:=BufE.keep h k hs
theorem zFT.len {n:Nat}(h:zFT n F H v enc d):lenV v=some (.int .i64 (d.size:Nat)):=by
 have:=BufE.sl h |>.len
 rw[this];simp
theorem zTH (h:zFT 1 F H v enc d){i:Nat}(hi:i<d.size):∃ p,(∀ q,ixS 1 v (.int q i)=some p)/\ld1 H p=some (Ev1 enc d[i]!):=by
 have hg:(d.toList.map enc)[i]? = some (enc d[i]!):=by rw[zAq,zND hi];rfl
 obtain⟨b,o,h1,h2,_⟩:=(BufE.sl h).at hg
 refine⟨_,h1,?_⟩
 have hl:(enc d[i]!).length=1:=h.1 _ (zAC hg)
 unfold Ev1
 match he:enc d[i]!,hl with
 | [a],_=>rw[he]at h2;exact h2.cell0 rfl
theorem zWK (h:zFT 8 F H v enc d){i:Nat}(hi:i<d.size):∃ p,(∀ q,ixS 8 v (.int q i)=some p)/\ldN 8 H p=some (Ev8 enc d[i]!):=by
 have hg:(d.toList.map enc)[i]? = some (enc d[i]!):=by rw[zAq,zND hi];rfl
 obtain⟨b,o,h1,h2,_⟩:=(BufE.sl h).at hg
 exact⟨_,h1,h2.agg (h.1 _ (zAC hg))⟩
theorem zAaB (h:zFT 1 F H v enc d){i j:Nat}(hi:i<d.size)(hj:j<d.size):∃ p H',(∀ q,ixS 1 v (.int q i)=some p)/\st1 H p (Ev1 enc d[j]!)=some H'/\zFT 1 F H' v enc (d.setIfInBounds i d[j]!)/\Keep F H H':=by
 have hg:(d.toList.map enc)[i]? = some (enc d[i]!):=by rw[zAq,zND hi];rfl
 have hgj:(d.toList.map enc)[j]? = some (enc d[j]!):=by rw[zAq,zND hj];rfl
 have hl:(enc d[i]!).length=1:=h.1 _ (zAC hg)
 have hlj:(enc d[j]!).length=1:=h.1 _ (zAC hgj)
 have h1:=h.2.1 _ (zAC hgj)
 have ho:(Ev1 enc d[j]!).oneCell'=true:=by
  unfold Ev1
  match he:enc d[j]!,hlj with
  | [a],_=>exact h1 a (by rw[he];simp)
 obtain⟨b,o,H',e1,_,e2,e3,e4⟩:=BufE.st h hg (j:=0) (by omega) ho
 refine⟨_,H',e1,e2,?_,e4⟩
 unfold zFT
 rw[zCa,List.map_set]
 have:(enc d[i]!).set 0 (Ev1 enc d[j]!)=enc d[j]! := by
  unfold Ev1
  match he:enc d[j]!,hlj,hi':enc d[i]!,hl with
  | [a],_,[c],_=>rfl
 rwa [this]at e3
theorem zAfN (h:zFT 8 F H v enc d){i j:Nat}(hi:i<d.size)(hj:j<d.size):∃ p H',(∀ q,ixS 8 v (.int q i)=some p)/\stN 8 H p (Ev8 enc d[j]!)=some H'/\zFT 8 F H' v enc (d.setIfInBounds i d[j]!)/\Keep F H H':=by
 have hgj:(d.toList.map enc)[j]? = some (enc d[j]!):=by rw[zAq,zND hj];rfl
 obtain⟨p,H',e1,e2,e3,e4⟩:=BufE.set h (i:=i) (by simpa using hi) (x:=enc d[j]!) (h.1 _ (zAC hgj)) (h.2.1 _ (zAC hgj))
 refine⟨p,H',e1,e2,?_,e4⟩
 unfold zFT
 rw[zCa,List.map_set]
 exact e3
theorem zX4 (h:zFT 1 F H v enc d){i j:Nat}(hi:i<d.size)(hj:j<d.size):∃ p q H1 H2,(∀ k,ixS 1 v (.int k i)=some p)/\(∀ k,ixS 1 v (.int k j)=some q)/\ld1 H p=some (Ev1 enc d[i]!)/\ld1 H q=some (Ev1 enc d[j]!)/\st1 H p (Ev1 enc d[j]!)=some H1/\st1 H1 q (Ev1 enc d[i]!)=some H2/\zFT 1 F H2 v enc (swp d i j)/\Keep F H H2:=by
 obtain⟨p,h1,l1⟩:=zTH h hi
 obtain⟨q,h2,l2⟩:=zTH h hj
 obtain⟨p',H1,a1,a2,a3,a4⟩:=zAaB h hi hj
 obtain rfl:=zAN ((h1 .i64).symm.trans (a1 .i64))
 have e:(d.setIfInBounds i d[j]!).size=d.size:=by simp
 by_cases hij:i=j
 ·subst hij
  obtain⟨q',H2,b1,b2,b3,b4⟩:=zAaB a3 (i:=i) (j:=i) (by rw[e];exact hi) (by rw[e];exact hi)
  obtain rfl:=zAN ((h2 .i64).symm.trans (b1 .i64))
  have ei:(d.setIfInBounds i d[i]!)[i]! = d[i]! := by simp[hi]
  rw[ei]at b2 b3
  exact⟨p,q,H1,H2,h1,h2,l1,l2,a2,b2,b3,a4.trans b4⟩
 ·-- the second write takes what lay at i ahead of the first: it lies at j's place no more;so it is put by hand
  have hgi:(d.toList.map enc)[i]? = some (enc d[i]!):=by rw[zAq,zND hi];rfl
  have hli:(enc d[i]!).length=1:=h.1 _ (zAC hgi)
  have h1i:=h.2.1 _ (zAC hgi)
  have ho:(Ev1 enc d[i]!).oneCell'=true:=by
   unfold Ev1
   match he:enc d[i]!,hli with
   | [a],_=>exact h1i a (by rw[he];simp)
  have hgj:((d.setIfInBounds i d[j]!).toList.map enc)[j]? = some (enc d[j]!):=by
   rw[zAq,zND (by rw[e];exact hj)]
   have:(d.setIfInBounds i d[j]!)[j]! = d[j]! := by
    rw[getElem!_pos _ j (by rw[e];exact hj),Array.getElem_setIfInBounds,if_neg hij,getElem!_pos d j hj]
   rw[this];rfl
  have hlj:(enc d[j]!).length=1:=a3.1 _ (zAC hgj)
  obtain⟨b,o,H2,b1,_,b2,b3,b4⟩:=BufE.st a3 hgj (j:=0) (by omega) ho
  obtain rfl:=zAN ((h2 .i64).symm.trans (b1 .i64))
  refine⟨p,_,H1,H2,h1,h2,l1,l2,a2,b2,?_,a4.trans b4⟩
  unfold zFT swp
  rw[zCa,List.map_set]
  have:(enc d[j]!).set 0 (Ev1 enc d[i]!)=enc d[i]! := by
   unfold Ev1
   match he:enc d[j]!,hlj,hi':enc d[i]!,hli with
   | [a],_,[c],_=>rfl
  rwa [this]at b3
theorem zAdC (h:zFT 8 F H v enc d){i j:Nat}(hi:i<d.size)(hj:j<d.size):∃ p q H1 H2,(∀ k,ixS 8 v (.int k i)=some p)/\(∀ k,ixS 8 v (.int k j)=some q)/\ldN 8 H p=some (Ev8 enc d[i]!)/\ldN 8 H q=some (Ev8 enc d[j]!)/\stN 8 H p (Ev8 enc d[j]!)=some H1/\stN 8 H1 q (Ev8 enc d[i]!)=some H2/\zFT 8 F H2 v enc (swp d i j)/\Keep F H H2:=by
 obtain⟨p,h1,l1⟩:=zWK h hi
 obtain⟨q,h2,l2⟩:=zWK h hj
 obtain⟨p',H1,a1,a2,a3,a4⟩:=zAfN h hi hj
 obtain rfl:=zAN ((h1 .i64).symm.trans (a1 .i64))
 have e:(d.setIfInBounds i d[j]!).size=d.size:=by simp
 have hgi:(d.toList.map enc)[i]? = some (enc d[i]!):=by rw[zAq,zND hi];rfl
 obtain⟨q',H2,b1,b2,b3,b4⟩:=BufE.set a3 (i:=j) (by simpa using hj) (x:=enc d[i]!) (h.1 _ (zAC hgi)) (h.2.1 _ (zAC hgi))
 obtain rfl:=zAN ((h2 .i64).symm.trans (b1 .i64))
 refine⟨p,q,H1,H2,h1,h2,l1,l2,a2,b2,?_,a4.trans b4⟩
 unfold zFT swp
 rw[zCa,List.map_set]
 exact b3
end
def zAmh {α:Type}(evv:α->Value)(fv:Value)(lt:α->α->Bool)(G:zAx->Prop):Prop:=∀ (x y:α) (h:zAx),G h->zDQ prg fv [evv x,evv y] h λu h'=>(∃ n:Int,u = .int .i64 n/\decide (n<0)=lt x y)/\Keep zAK h h'
theorem zAg5 {α:Type}{evv:α->Value}{fv:Value}{lt:α->α->Bool}{G:zAx->Prop}(hc:zAmh evv fv lt G){x y:α}{h:zAx}(hG:G h){K:zAm}(hk:∀ h',Keep zAK h h'->K (.bool (lt x y)) h') :
  zDQ prg fv [evv x,evv y] h λt h'=>Mpu (zAB .no .lss t (.int .i64 0)) λu=>K u h':=by
 refine(hc x y h hG).mono ?_
 rintro _ h' ⟨⟨n,rfl,hn⟩,k⟩
 rw[ltI,zAa,hn]
 exact hk h' k
theorem zWL {n m:Nat}(h:n+m<=9223372036854775807):zAB .no .add (.int .i64 (n:Nat)) (.int .i64 (m:Nat))=some (.int .i64 ((n+m:Nat):Int)):=by
 rw[zAJ];simp only[zC8];rw[zCe (by omega) (by omega)];congr 2
theorem zSW {n m:Nat}(h:m<=n)(h2:n<=9223372036854775807):zAB .no .sub (.int .i64 (n:Nat)) (.int .i64 (m:Nat))=some (.int .i64 ((n-m:Nat):Int)):=by
 rw[zAJ];simp only[zC8];rw[zCe (by omega) (by omega)];congr 2;omega
theorem zL9 {n:Nat}(h:1<=n)(h2:n<=9223372036854775807):zAB .no .sub (.int .i64 (n:Nat)) (.int .i64 1)=some (.int .i64 ((n-1:Nat):Int)):=zSW (m:=1) h h2
theorem zAmi {n:Nat}(h:2*n<=9223372036854775807):zAB .no .mul (.int .i64 2) (.int .i64 (n:Nat))=some (.int .i64 ((2*n:Nat):Int)):=by
 rw[zAJ];simp only[zC8];rw[zCe (by omega) (by omega)];congr 2
theorem zAfO {n m:Nat}(h:n*m<=9223372036854775807):zAB .no .mul (.int .i64 (n:Nat)) (.int .i64 (m:Nat))=some (.int .i64 ((n*m:Nat):Int)):=by
 have h':((n*m:Nat):Int)<=9223372036854775807:=Int.ofNat_le.2 h
 rw[zAJ];simp only[zC8];rw[<- Int.natCast_mul,zCe (Int.le_trans (by decide) (Int.natCast_nonneg _)) h']
theorem zAlx {n m:Nat}(hm:0<m)(h:n<=9223372036854775807):zAB .no .quo (.int .i64 (n:Nat)) (.int .i64 (m:Nat))=some (.int .i64 ((n / m:Nat):Int)):=by
 have hle:n / m<=n:=Nat.div_le_self _ _
 rw[zAJ];simp only[zC8]
 rw[if_neg (by omega),zCQ (by omega),<- Int.natCast_ediv,zCe (Int.le_trans (by decide) (Int.natCast_nonneg _)) (Int.ofNat_le.2 (zBh hle h))]
theorem zU5 {n m:Nat}:zAB .no .geq (.int .i64 (n:Nat)) (.int .i64 (m:Nat))=some (.bool (decide (n>=m))):=by
 rw[zAJ];simp only[zC8];congr 2;rw[zAR];simp
theorem zZh {n m:Nat}:zAB .no .leq (.int .i64 (n:Nat)) (.int .i64 (m:Nat))=some (.bool (decide (n<=m))):=by
 rw[zAJ];simp only[zC8];congr 2;rw[zAR];simp
theorem zLY {x:Value}{K:Value->Prop}:Mpu (zBD (.bool false) x (.bool false)) K↔K (.bool false):=by rw[zAv,if_neg (by decide),zAa]
theorem zNV {b:Bool}{K:Value->Prop}:Mpu (zBD (.bool true) (.bool b) (.bool false)) K↔K (.bool b):=by rw[zAv,if_pos rfl,zAa]
end Go.Proofs.YticdfkoncnnmmaaGreatDoor
